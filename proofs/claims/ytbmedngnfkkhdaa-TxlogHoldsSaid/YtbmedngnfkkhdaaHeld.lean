/-
  PROVED: the walk of middenheaplaw13.TxlogHolds: it returns true for every bound and every list of places; nothing that was there is written. No condition but what every argument of the types meets.
-/
import Derived.Test.YtbmedngnfkkhdaaKept
namespace Go.Proofs.Ytbmedngnfkkhdaa
open Go.RowKit

def hd_ (n : Nat) (hs : List (Int × Int)) : LgD := { R := [], K := [], H := hs, U := [], mr := 0, mu := n }
theorem held_map {n : Nat} {hs : List (Int × Int)} {x : Int} {b : Bool} (h : (hs.map (·.1)).contains x = b) : (hd_ n hs).held x = b := by
  subst h
  unfold LgD.held hd_
  induction hs with
  | nil => rfl
  | cons y hs ih =>
    have e : (y.1 == x) = (x == y.1) := by
      by_cases h : y.1 = x
      · subst h; rfl
      · rw [beq_false_of_ne h, beq_false_of_ne (fun e => h e.symm)]
    rw [List.map_cons, List.contains_cons, ← e, ← ih]
    rfl
theorem hd_hold_yes {n : Nat} {hs : List (Int × Int)} {x y : Int} (hc : (hs.map (·.1)).contains x = false) (hl : hs.length < n) : (hd_ n hs).hold (x, y) = hd_ n (hs ++ [(x, y)]) := by
  unfold LgD.hold
  rw [if_pos ⟨held_map hc, hl⟩]
  rfl
theorem hd_hold_no {n : Nat} {hs : List (Int × Int)} {x y : Int} (h : (hs.map (·.1)).contains x = true ∨ n ≤ hs.length) : (hd_ n hs).hold (x, y) = hd_ n hs := by
  unfold LgD.hold
  rw [if_neg (fun e => by
    rcases h with h | h
    · have := held_map (n := n) h; rw [this] at e; cases e.1
    · have := e.2; simp only [hd_] at this; omega)]
theorem hd_holdB_had {n : Nat} {hs : List (Int × Int)} {x : Int} (h : (hs.map (·.1)).contains x = true) : (hd_ n hs).holdB x = false := by
  unfold LgD.holdB
  rw [held_map h]
  rfl
theorem hd_holdB_new {n : Nat} {hs : List (Int × Int)} {x : Int} {b : Bool} (h : (hs.map (·.1)).contains x = false) (hb : decide (hs.length < n) = b) : (hd_ n hs).holdB x = b := by
  unfold LgD.holdB
  rw [held_map h]
  subst hb
  rfl
set_option maxRecDepth 100000 in
set_option maxHeartbeats 40000000 in
theorem held_walk (c : Int) (a : Option Addr) (cap : Nat) (zs : List Int) (w : World) (h1 : -9223372036854775808 ≤ c) (h2 : c ≤ 9223372036854775807) (hz : InInts w a zs) :
    Calls Try.prog 5 #[.int .i64 c, .slice a zs.length cap] w fun e w' => e = .returned (.bool true) ∧ Below w.heap.size w w' := by
  have hbig := hz.big
  have hn := pickN_lt c 21 (by decide)
  have HZ := Lib.hid hz
  obtain ⟨n, hnn⟩ : ∃ n, n = pickN c 21 := ⟨_, rfl⟩
  rw [← hnn] at hn
  have HPK := Lib.hid (fun W => pick_any c 21 W h1 h2 (by decide) (by decide))
  rw [← hnn] at HPK
  have ebn : bnd (n : Int) = n := by unfold bnd; omega
  have EB := Lib.hid ebn
  clear hz hnn h1 h2 ebn
  go_enter Try.func5, Try.ntmps5
  go_wp2_with (first
    | (go_at_call 6; refine (awake_any _).mono ?_; rintro e wa ⟨rfl, hb⟩; have HBA := Lib.hid hb; clear hb)
    | (go_at_call 7; refine (HPK.out _).mono ?_; rintro e wb ⟨rfl, rfl⟩)
    | (go_at_call 8; refine (lognew_any 0 n _).mono ?_; rw [EB.out]; rintro e W0 ⟨rfl, hl, hb⟩; have H0 := Lib.hid (Own.of_new (E := 3) (size := 1) HBA.out hl hb); clear hl hb))
  go_loopw [8, 9] (fun v8 v9 wr => ∃ (i : Nat) (hs : List (Int × Int)) (want : List Int) (A : Option Addr) (cw : Nat) (ga : LgA), want = hs.map (·.1) ∧ v9 = .int .i64 i ∧ i ≤ zs.length ∧ i ≤ 40 ∧ v8 = .slice A want.length cw ∧ want.length ≤ n ∧ Own w wr wa.heap.size ga (hd_ n hs) 3 1 A want.length cw (intCells want)) (fun _ v9 _ => 40 - (intOf v9).toNat)
  case atStart => exact ⟨0, [], [], none, 0, nilA, rfl, rfl, by omega, by omega, rfl, Nat.zero_le _, H0.out⟩
  case round =>
    obtain ⟨i, hs, want, A, cw, ga, hwh, rfl, hi, hi40, rfl, hwn, hown⟩ := hrel
    have hlen : hs.length = want.length := by rw [hwh, List.length_map]
    have HWH := Lib.hid hwh
    have HLE := Lib.hid hlen
    clear hwh hlen
    have HO := Lib.hid hown
    by_cases hlt : i < zs.length ∧ i < 40
    · obtain ⟨hlt1, hlt2⟩ := hlt
      obtain ⟨pb, po, rfl, hpl, hpc⟩ := HZ.out.at_ (by omega)
      obtain ⟨x, hx⟩ : ∃ x, x = zs[i] := ⟨_, rfl⟩
      have hcx : ∀ W, Below w.heap.size w W → W.cell? ⟨pb, po + i, none⟩ = some (.int .i64 x) := fun W hW => by
        rw [hx]
        exact (hW.cell (p := ⟨pb, po + i, none⟩) hpl).trans (hpc i hlt1)
      have HCX := Lib.hid hcx
      clear hx hpc hcx hown
      go_wp2
      go_loopw [10, 11] (fun v10 v11 wr => ∃ k : Nat, v11 = .int .i64 k ∧ k ≤ want.length ∧ v10 = .bool ((want.take k).contains x) ∧ Own w wr wa.heap.size ga (hd_ n hs) 3 1 A want.length cw (intCells want)) (fun _ v11 _ => want.length - (intOf v11).toNat)
      case atStart => exact ⟨0, rfl, Nat.zero_le _, rfl, HO.out⟩
      case round =>
        obtain ⟨k, rfl, hk, rfl, hown⟩ := hrel
        have HO2 := Lib.hid hown
        by_cases hkl : k < want.length
        · obtain ⟨g, rfl, hg, hcw⟩ := IntRow.get hown.row hkl
          have hcx2 := HCX.out _ hown.below
          obtain ⟨y, hy⟩ : ∃ y, y = want[k] := ⟨_, rfl⟩
          have htk := take_contains (x := x) hkl
          rw [← hy] at hcw htk
          have HTK := Lib.hid htk
          clear htk hy hown
          cases hb : (want.take k).contains x with
          | true =>
            rw [hb] at HTK
            clear hb
            go_wp2
            go_quiet (fail)
            go_wp2
            go_roundw
            case rel => exact ⟨k + 1, by go_num, by omega, by rw [HTK.out]; rfl, HO2.out.drewN _⟩
            case measure => simp [intOf]; omega
          | false =>
            rw [hb] at HTK
            clear hb
            by_cases he : y = x
            · subst he
              have HE := Lib.hid (show (y == y) = true by simp)
              go_wp2
              go_quiet (fail)
              go_wp2
              go_roundw
              case rel => exact ⟨k + 1, by go_num, by omega, by rw [HTK.out, HE.out]; rfl, HO2.out.drewN _⟩
              case measure => simp [intOf]; omega
            · have he' : (y == x) = false := by simpa using he
              have HE := Lib.hid he'
              go_wp2
              go_quiet (fail)
              go_wp2
              go_roundw
              case rel => exact ⟨k + 1, by go_num, by omega, by rw [HTK.out, HE.out]; rfl, HO2.out.drewN _⟩
              case measure => simp [intOf]; omega
        · obtain rfl : want.length = k := by omega
          rw [List.take_length]
          have hcx2 := HCX.out _ hown.below
          have hkp := hold_any wa.heap.size ga (hd_ n hs) x i _ hown.lg
          clear hown
          cases hb : want.contains x with
          | true =>
            have hb' := hb
            rw [HWH.out] at hb'
            have e1 := hd_holdB_had (n := n) hb'
            have e2 := hd_hold_no (n := n) (y := (i : Int)) (.inl hb')
            rw [e1, e2] at hkp
            have HKP := Lib.hid hkp
            clear hkp hb hb' e1 e2
            go_wp2_with (go_at_call 19; refine HKP.out.mono ?_; rintro e w2 ⟨rfl, hst⟩; obtain ⟨ga2, ho2⟩ := HO2.out.step hst; have HO3 := Lib.hid ho2; clear hst ho2)
            go_roundw
            case rel => exact ⟨i + 1, hs, want, A, cw, ga2, HWH.out, by go_num, by omega, by omega, rfl, hwn, HO3.out⟩
            case measure => simp [intOf]; omega
          | false =>
            have hb' := hb
            rw [HWH.out] at hb'
            by_cases hln : want.length < n
            · have e1 := hd_holdB_new (n := n) (b := true) hb' (decide_eq_true (by rw [HLE.out]; exact hln))
              have e2 := hd_hold_yes (n := n) (y := (i : Int)) hb' (by rw [HLE.out]; exact hln)
              rw [e1, e2] at hkp
              have HKP := Lib.hid hkp
              have hnd : decide ((want.length : Int) < (n : Int)) = true := decide_eq_true (by omega)
              clear hkp hb hb' e1 e2
              obtain ⟨i0, hi0, hz0, hz1, hz2⟩ := info_parts infoInt
              go_wp2_with (first
                | (go_at_call 19; refine HKP.out.mono ?_; rintro e w2 ⟨rfl, hst⟩; obtain ⟨ga2, ho2⟩ := HO2.out.step hst; have hcx3 := HCX.out _ ho2.below; have HO3 := Lib.hid ho2; clear hst ho2)
                | (at_builtin
                   refine wpList_append_lies _ rfl _ _ 22 rfl 0 3 i0 (.int .i64 0) 1 8 Try.underlying22 hi0 hz0 hz1 hz2 rfl (by decide) (.slice A want.length cw) want.length _ rfl ((HO3.out.alloc _).row) ⟨w2.heap.size, 0, none⟩ 1 1 [.int .i64 x] rfl rfl (one_new (heap_alloc_new w2 _)) (by intro u hu; simp at hu; subst hu; rfl) (by decide) (by unfold maxLen; omega) (by omega) (Nat.zero_le _) (w2.heap.size + 1) (by simp) ?_
                   intro g c' w3 hown hgrow hat hlt
                   have HP := Lib.hid (HO3.out.push ((Below.refl _ _).alloc (Nat.le_refl _) _) hown hgrow (by simpa using hat))
                   clear hown hgrow hat))
              go_roundw
              case rel =>
                refine ⟨i + 1, hs ++ [(x, (i : Int))], want ++ [x], some ⟨g, 0, none⟩, c', ga2, by rw [HWH.out]; simp, by go_num, by omega, by omega, by simp, by simp; omega, ?_⟩
                have := HP.out
                simpa [intCells] using this
              case measure => simp [intOf]; omega
            · have e1 := hd_holdB_new (n := n) (b := false) hb' (decide_eq_false (by rw [HLE.out]; exact hln))
              have e2 := hd_hold_no (n := n) (x := x) (y := (i : Int)) (hs := hs) (.inr (by rw [HLE.out]; omega))
              rw [e1, e2] at hkp
              have HKP := Lib.hid hkp
              have hnd : decide ((want.length : Int) < (n : Int)) = false := decide_eq_false (by omega)
              clear hkp hb hb' e1 e2
              go_wp2_with (go_at_call 19; refine HKP.out.mono ?_; rintro e w2 ⟨rfl, hst⟩; obtain ⟨ga2, ho2⟩ := HO2.out.step hst; have HO3 := Lib.hid ho2; clear hst ho2)
              go_roundw
              case rel => exact ⟨i + 1, hs, want, A, cw, ga2, HWH.out, by go_num, by omega, by omega, rfl, hwn, HO3.out⟩
              case measure => simp [intOf]; omega
    · have er : (hd_ n hs).roots = want := by rw [HWH.out]; simp [LgD.roots, hd_]
      have hro := fun W (h : LG W wa.heap.size ga (hd_ n hs)) => roots_any wa.heap.size ga (hd_ n hs) W h
      rw [er] at hro
      have HRO := Lib.hid hro
      have hrd := fun W (h : LG W wa.heap.size ga (hd_ n hs)) => holds_any wa.heap.size ga (hd_ n hs) W h
      rw [show (hd_ n hs).H.length = want.length from HLE.out] at hrd
      have HRD := Lib.hid hrd
      have HIN := Lib.hid (show ∀ (A1 : Option Addr) c1 W, IntRow W A1 c1 want → IntRow W A cw want → Calls Try.prog 10 #[.slice A1 want.length c1, .slice A want.length cw] W fun e w' => e = .returned (.bool true) ∧ Below W.heap.size W w' from fun A1 c1 W h1 h2 => by
        have := ints_any A1 A c1 cw want want W h1 h2
        rwa [decide_eq_true rfl] at this)
      have HRE := Lib.hid (show ∀ W ga, LG W wa.heap.size ga (hd_ n hs) → Calls Try.prog 13 #[.pointer (some ⟨wa.heap.size, 0, none⟩), .int .i64 1] W fun e w' => e = .returned (.bool false) ∧ Stepped W w' wa.heap.size ga (hd_ n hs) from fun W ga h => read_any wa.heap.size ga (hd_ n hs) 1 W h)
      have HKE := Lib.hid (show ∀ W ga, LG W wa.heap.size ga (hd_ n hs) → Calls Try.prog 9 #[.pointer (some ⟨wa.heap.size, 0, none⟩), .int .i64 1] W fun e w' => e = .returned (.bool false) ∧ Stepped W w' wa.heap.size ga (hd_ n hs) from fun W ga h => keep_any wa.heap.size ga (hd_ n hs) 1 W h)
      clear hro er hown hrd
      by_cases hl1 : i < zs.length
      all_goals
          go_wp2_with (fail)
          go_at_call 11
          refine (HRO.out _ HO.out.lg).mono ?_
          rintro e W1 ⟨A1, c1, rfl, hr1, hbl1, _⟩
          have H1 := Lib.hid (HO.out.fresh hbl1)
          have R1 := Lib.hid hr1
          clear hr1 hbl1
          go_wp2_with (fail)
          go_at_call 10
          refine (HIN.out A1 c1 W1 R1.out H1.out.row).mono ?_
          rintro e W2 ⟨rfl, hbl2⟩
          have H2 := Lib.hid (H1.out.fresh hbl2)
          clear hbl2
          go_wp2_with (fail)
          go_at_call 17
          refine (HRD.out W2 H2.out.lg).mono ?_
          rintro e W3 ⟨A3, c3, rfl, _, hbl3, _⟩
          have H3 := Lib.hid (H2.out.fresh hbl3)
          clear hbl3
          go_wp2_with (fail)
          go_at_call 13
          refine (HRE.out W3 _ H3.out.lg).mono ?_
          rintro e W4 ⟨rfl, hs4⟩
          obtain ⟨ga4, ho4⟩ := H3.out.step hs4
          have H4 := Lib.hid ho4
          clear hs4 ho4
          go_wp2_with (fail)
          go_at_call 9
          refine (HKE.out W4 _ H4.out.lg).mono ?_
          rintro e W5 ⟨rfl, hs5⟩
          obtain ⟨ga5, ho5⟩ := H4.out.step hs5
          have HB5 := Lib.hid ho5.below
          clear hs5 ho5
          go_wp2
          go_ret
          exact ⟨rfl, HB5.out⟩
end Go.Proofs.Ytbmedngnfkkhdaa
