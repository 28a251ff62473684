/-
  PROVED: the walk of middenheaplaw13.TxlogKept: it returns true for every bound and every list of places; nothing that was there is written. No condition but what every argument of the types meets.
-/
import Derived.Test.YtbmedngnfkkhdaaLogK
namespace Go.Proofs.Ytbmedngnfkkhdaa
open Go.RowKit

/-- A list of ints that came in. -/
structure InInts (W : World) (a : Option Addr) (zs : List Int) : Prop where
  big : zs.length ≤ 9223372036854775807
  at_ : 0 < zs.length → ∃ b off, a = some ⟨b, off, none⟩ ∧ b < W.heap.size ∧ ∀ i (hi : i < zs.length), W.cell? ⟨b, off + i, none⟩ = some (.int .i64 zs[i])
def kd (n : Nat) (want : List Int) : LgD := { R := [], K := want, H := [], U := [], mr := n, mu := 5 }
theorem kd_keep_yes {n : Nat} {want : List Int} {x : Int} (hc : want.contains x = false) (hl : want.length < n) : (kd n want).keep x = kd n (want ++ [x]) := by
  unfold LgD.keep kd
  rw [if_pos ⟨hc, hl⟩]
theorem kd_keep_no {n : Nat} {want : List Int} {x : Int} (h : want.contains x = true ∨ n ≤ want.length) : (kd n want).keep x = kd n want := by
  unfold LgD.keep kd
  rw [if_neg (fun e => by
    rcases h with h | h
    · rw [h] at e; cases e.1
    · have := e.2; simp only at this; omega)]
theorem take_contains {want : List Int} {x : Int} {k : Nat} (hk : k < want.length) : (want.take (k + 1)).contains x = ((want.take k).contains x || (want[k] == x)) := by
  rw [List.take_succ_eq_append_getElem hk, List.contains_append]
  congr 1
  by_cases h : want[k] = x
  · simp [h]
  · have h' : ¬ x = want[k] := fun e => h e.symm
    simp [h, h']
set_option maxRecDepth 100000 in
set_option maxHeartbeats 40000000 in
theorem kept_walk (c : Int) (a : Option Addr) (cap : Nat) (zs : List Int) (w : World) (h1 : -9223372036854775808 ≤ c) (h2 : c ≤ 9223372036854775807) (hz : InInts w a zs) :
    Calls Try.prog 3 #[.int .i64 c, .slice a zs.length cap] w fun e w' => e = .returned (.bool true) ∧ Below w.heap.size w w' := by
  have hbig := hz.big
  have hn := pickN_lt c 21 (by decide)
  have HZ := Lib.hid hz
  obtain ⟨n, hnn⟩ : ∃ n, n = pickN c 21 := ⟨_, rfl⟩
  rw [← hnn] at hn
  have HPK := Lib.hid (fun W => pick_any c 21 W h1 h2 (by decide) (by decide))
  rw [← hnn] at HPK
  have ebn : bnd (n : Int) = n := by unfold bnd; omega
  have EB := Lib.hid ebn
  clear hz hnn h1 h2 ebn
  go_enter Try.func3, Try.ntmps3
  go_wp2_with (first
    | (go_at_call 6; refine (awake_any _).mono ?_; rintro e wa ⟨rfl, hb⟩; have HBA := Lib.hid hb; clear hb)
    | (go_at_call 7; refine (HPK.out _).mono ?_; rintro e wb ⟨rfl, rfl⟩)
    | (go_at_call 8; refine (lognew_any n 5 _).mono ?_; rw [EB.out]; rintro e W0 ⟨rfl, hl, hb⟩; have H0 := Lib.hid (Own.of_new (E := 3) (size := 1) HBA.out hl hb); clear hl hb))
  go_loopw [8, 9] (fun v8 v9 wr => ∃ (i : Nat) (want : List Int) (A : Option Addr) (cw : Nat) (ga : LgA), v9 = .int .i64 i ∧ i ≤ zs.length ∧ i ≤ 40 ∧ v8 = .slice A want.length cw ∧ want.length ≤ n ∧ Own w wr wa.heap.size ga (kd n want) 3 1 A want.length cw (intCells want)) (fun _ v9 _ => 40 - (intOf v9).toNat)
  case atStart => exact ⟨0, [], none, 0, nilA, rfl, by omega, by omega, rfl, Nat.zero_le _, H0.out⟩
  case round =>
    obtain ⟨i, want, A, cw, ga, rfl, hi, hi40, rfl, hwn, hown⟩ := hrel
    have HO := Lib.hid hown
    by_cases hlt : i < zs.length ∧ i < 40
    · obtain ⟨hlt1, hlt2⟩ := hlt
      obtain ⟨pb, po, rfl, hpl, hpc⟩ := HZ.out.at_ (by omega)
      obtain ⟨x, hx⟩ : ∃ x, x = zs[i] := ⟨_, rfl⟩
      have hcx : ∀ W, Below w.heap.size w W → W.cell? ⟨pb, po + i, none⟩ = some (.int .i64 x) := fun W hW => by
        rw [hx]
        exact (hW.cell (p := ⟨pb, po + i, none⟩) hpl).trans (hpc i hlt1)
      have HCX := Lib.hid hcx
      clear hx hpc hcx hown
      go_wp2
      go_loopw [10, 11] (fun v10 v11 wr => ∃ k : Nat, v11 = .int .i64 k ∧ k ≤ want.length ∧ v10 = .bool ((want.take k).contains x) ∧ Own w wr wa.heap.size ga (kd n want) 3 1 A want.length cw (intCells want)) (fun _ v11 _ => want.length - (intOf v11).toNat)
      case atStart => exact ⟨0, rfl, Nat.zero_le _, rfl, HO.out⟩
      case round =>
        obtain ⟨k, rfl, hk, rfl, hown⟩ := hrel
        have HO2 := Lib.hid hown
        by_cases hkl : k < want.length
        · obtain ⟨g, rfl, hg, hcw⟩ := IntRow.get hown.row hkl
          have hcx2 := HCX.out _ hown.below
          obtain ⟨y, hy⟩ : ∃ y, y = want[k] := ⟨_, rfl⟩
          have htk := take_contains (x := x) hkl
          rw [← hy] at hcw htk
          have HTK := Lib.hid htk
          clear htk hy hown
          cases hb : (want.take k).contains x with
          | true =>
            rw [hb] at HTK
            clear hb
            go_wp2
            go_quiet (fail)
            go_wp2
            go_roundw
            case rel => exact ⟨k + 1, by go_num, by omega, by rw [HTK.out]; rfl, HO2.out.drewN _⟩
            case measure => simp [intOf]; omega
          | false =>
            rw [hb] at HTK
            clear hb
            by_cases he : y = x
            · subst he
              have HE := Lib.hid (show (y == y) = true by simp)
              go_wp2
              go_quiet (fail)
              go_wp2
              go_roundw
              case rel => exact ⟨k + 1, by go_num, by omega, by rw [HTK.out, HE.out]; rfl, HO2.out.drewN _⟩
              case measure => simp [intOf]; omega
            · have he' : (y == x) = false := by simpa using he
              have HE := Lib.hid he'
              go_wp2
              go_quiet (fail)
              go_wp2
              go_roundw
              case rel => exact ⟨k + 1, by go_num, by omega, by rw [HTK.out, HE.out]; rfl, HO2.out.drewN _⟩
              case measure => simp [intOf]; omega
        · obtain rfl : want.length = k := by omega
          rw [List.take_length]
          have hcx2 := HCX.out _ hown.below
          have hkp := keep_any wa.heap.size ga (kd n want) x _ hown.lg
          clear hown
          cases hb : want.contains x with
          | true =>
            have e1 : (kd n want).keepB x = true := by unfold LgD.keepB kd; simp only [hb]; rfl
            have e2 := kd_keep_no (n := n) (.inl hb)
            rw [e1, e2] at hkp
            have HKP := Lib.hid hkp
            clear hkp hb e1 e2
            go_wp2_with (go_at_call 9; refine HKP.out.mono ?_; rintro e w2 ⟨rfl, hs⟩; obtain ⟨ga2, ho2⟩ := HO2.out.step hs; have HO3 := Lib.hid ho2; clear hs ho2)
            go_roundw
            case rel => exact ⟨i + 1, want, A, cw, ga2, by go_num, by omega, by omega, rfl, hwn, HO3.out⟩
            case measure => simp [intOf]; omega
          | false =>
            by_cases hln : want.length < n
            · have e1 : (kd n want).keepB x = true := by unfold LgD.keepB kd; simp only [hb, decide_eq_true hln]; rfl
              have e2 := kd_keep_yes hb hln
              rw [e1, e2] at hkp
              have HKP := Lib.hid hkp
              have hnd : decide ((want.length : Int) < (n : Int)) = true := decide_eq_true (by omega)
              clear hkp hb e1 e2
              obtain ⟨i0, hi0, hz0, hz1, hz2⟩ := info_parts infoInt
              go_wp2_with (first
                | (go_at_call 9; refine HKP.out.mono ?_; rintro e w2 ⟨rfl, hs⟩; obtain ⟨ga2, ho2⟩ := HO2.out.step hs; have hcx3 := HCX.out _ ho2.below; have HO3 := Lib.hid ho2; clear hs ho2)
                | (at_builtin
                   refine wpList_append_lies _ rfl _ _ 22 rfl 0 3 i0 (.int .i64 0) 1 8 Try.underlying22 hi0 hz0 hz1 hz2 rfl (by decide) (.slice A want.length cw) want.length _ rfl ((HO3.out.alloc _).row) ⟨w2.heap.size, 0, none⟩ 1 1 [.int .i64 x] rfl rfl (one_new (heap_alloc_new w2 _)) (by intro u hu; simp at hu; subst hu; rfl) (by decide) (by unfold maxLen; omega) (by omega) (Nat.zero_le _) (w2.heap.size + 1) (by simp) ?_
                   intro g c' w3 hown hgrow hat hlt
                   have HP := Lib.hid (HO3.out.push ((Below.refl _ _).alloc (Nat.le_refl _) _) hown hgrow (by simpa using hat))
                   clear hown hgrow hat))
              go_roundw
              case rel =>
                refine ⟨i + 1, want ++ [x], some ⟨g, 0, none⟩, c', ga2, by go_num, by omega, by omega, by simp, by simp; omega, ?_⟩
                have := HP.out
                simpa [intCells] using this
              case measure => simp [intOf]; omega
            · have e1 : (kd n want).keepB x = false := by unfold LgD.keepB kd; simp only [hb, decide_eq_false hln]; rfl
              have e2 := kd_keep_no (n := n) (x := x) (want := want) (.inr (by omega))
              rw [e1, e2] at hkp
              have HKP := Lib.hid hkp
              have hnd : decide ((want.length : Int) < (n : Int)) = false := decide_eq_false (by omega)
              clear hkp hb e1 e2
              go_wp2_with (go_at_call 9; refine HKP.out.mono ?_; rintro e w2 ⟨rfl, hs⟩; obtain ⟨ga2, ho2⟩ := HO2.out.step hs; have HO3 := Lib.hid ho2; clear hs ho2)
              go_roundw
              case rel => exact ⟨i + 1, want, A, cw, ga2, by go_num, by omega, by omega, rfl, hwn, HO3.out⟩
              case measure => simp [intOf]; omega
    · have er : (kd n want).roots = want := by simp [LgD.roots, kd]
      have hro := fun W (h : LG W wa.heap.size ga (kd n want)) => roots_any wa.heap.size ga (kd n want) W h
      rw [er] at hro
      have HRO := Lib.hid hro
      have HRD := Lib.hid (show ∀ W, LG W wa.heap.size ga (kd n want) → Calls Try.prog 12 #[.pointer (some ⟨wa.heap.size, 0, none⟩)] W (Cloned 3 1 0 [] W) from fun W h => reads_any wa.heap.size ga (kd n want) W h)
      have HIN := Lib.hid (show ∀ (A1 : Option Addr) c1 W, IntRow W A1 c1 want → IntRow W A cw want → Calls Try.prog 10 #[.slice A1 want.length c1, .slice A want.length cw] W fun e w' => e = .returned (.bool true) ∧ Below W.heap.size W w' from fun A1 c1 W h1 h2 => by
        have := ints_any A1 A c1 cw want want W h1 h2
        rwa [decide_eq_true rfl] at this)
      obtain ⟨b, hb1, hb2⟩ : ∃ b : Bool, (kd n want).readB 1 = b ∧ decide (0 < n) = b := ⟨decide (0 < n), rfl, rfl⟩
      have hre := fun W (h : LG W wa.heap.size ga (kd n want)) => read_any wa.heap.size ga (kd n want) 1 W h
      rw [hb1] at hre
      have HRE := Lib.hid hre
      clear hro er hown hre hb1
      by_cases hl1 : i < zs.length
      all_goals
        cases b
        all_goals
          go_wp2_with (fail)
          go_at_call 11
          refine (HRO.out _ HO.out.lg).mono ?_
          rintro e W1 ⟨A1, c1, rfl, hr1, hbl1, _⟩
          have H1 := Lib.hid (HO.out.fresh hbl1)
          have R1 := Lib.hid hr1
          clear hr1 hbl1
          go_wp2_with (fail)
          go_at_call 10
          refine (HIN.out A1 c1 W1 R1.out H1.out.row).mono ?_
          rintro e W2 ⟨rfl, hbl2⟩
          have H2 := Lib.hid (H1.out.fresh hbl2)
          clear hbl2
          go_wp2_with (fail)
          go_at_call 12
          refine (HRD.out W2 H2.out.lg).mono ?_
          rintro e W3 ⟨A3, c3, rfl, _, hbl3, _⟩
          have H3 := Lib.hid (H2.out.fresh hbl3)
          clear hbl3
          go_wp2_with (fail)
          go_at_call 13
          refine (HRE.out W3 H3.out.lg).mono ?_
          rintro e W4 ⟨rfl, hs4⟩
          obtain ⟨ga4, ho4⟩ := H3.out.step hs4
          have HB4 := Lib.hid ho4.below
          clear hs4 ho4
          go_wp2
          go_ret
          exact ⟨rfl, HB4.out⟩
end Go.Proofs.Ytbmedngnfkkhdaa
