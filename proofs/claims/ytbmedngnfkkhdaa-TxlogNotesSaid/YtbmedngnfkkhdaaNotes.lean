/-
  PROVED: the walk of middenheaplaw13.TxlogNotes: it returns true for every two bounds, every list of places and every list of undos; nothing that was there is written. No condition but what every argument of the types meets.
-/
import Derived.Test.YtbmedngnfkkhdaaKept
namespace Go.Proofs.Ytbmedngnfkkhdaa
open Go.RowKit

/-- A list of undos that came in. -/
structure InUns (W : World) (a : Option Addr) (us : List Un) : Prop where
  big : us.length ≤ 9223372036854775807
  at_ : 0 < us.length → ∃ b off, a = some ⟨b, off, none⟩ ∧ b < W.heap.size ∧ ∀ i (hi : i < us.length), W.cell? ⟨b, off + i * 4, none⟩ = some (.int .i64 us[i].kind) ∧ W.cell? ⟨b, off + i * 4 + 1, none⟩ = some (.int .i64 us[i].at_) ∧
    W.cell? ⟨b, off + i * 4 + 2, none⟩ = some (.int .i64 us[i].i) ∧ W.cell? ⟨b, off + i * 4 + 3, none⟩ = some (.int .i64 us[i].old)
def nd (n m : Nat) (want : List Int) (all : List Un) : LgD := { R := want, K := [], H := [], U := all, mr := n, mu := m }
theorem nd_read_yes {n m : Nat} {want : List Int} {all : List Un} {x : Int} (hc : want.contains x = false) (hl : want.length < n) : (nd n m want all).read x = nd n m (want ++ [x]) all := by
  unfold LgD.read nd
  rw [if_pos ⟨hc, hl⟩]
theorem nd_read_no {n m : Nat} {want : List Int} {all : List Un} {x : Int} (h : want.contains x = true ∨ n ≤ want.length) : (nd n m want all).read x = nd n m want all := by
  unfold LgD.read nd
  rw [if_neg (fun e => by
    rcases h with h | h
    · rw [h] at e; cases e.1
    · have := e.2; simp only at this; omega)]
/-- A second row beside the log and the first. -/
structure Own2 (w W : World) (L : Nat) (a : LgA) (d : LgD) (A : Option Addr) (c : Nat) (R : List Int) (B : Option Addr) (cb : Nat) (U : List Un) : Prop where
  own : Own w W L a d 34 4 B U.length cb (unCells U)
  row : IntRow W A c R
  far : ∀ k, rowOf A = some k → w.heap.size ≤ k ∧ ¬ Foot L a k
section
variable {w W W' : World} {L : Nat} {a : LgA} {d d' : LgD} {A B : Option Addr} {c cb : Nat} {R : List Int} {U : List Un}
theorem Own2.step (h : Own2 w W L a d A c R B cb U) (hs : Stepped W W' L a d') : ∃ a', Own2 w W' L a' d' A c R B cb U := by
  obtain ⟨a1, h1⟩ := h.own.step hs
  obtain ⟨a', hl, h2, h3⟩ := hs
  refine ⟨a', ⟨hl, fun i hi => ?_, h1.below, h1.row, fun k hk => ⟨(h.own.far k hk).1, fun hf => ?_⟩⟩, h.row.only h2 (fun k hk => (h.far k hk).2), fun k hk => ⟨(h.far k hk).1, fun hf => ?_⟩⟩
  · rcases h3 i hi with e | e
    · exact h.own.foot i e
    · have := h.own.below.size
      omega
  · rcases h3 k hf with e | e
    · exact (h.own.far k hk).2 e
    · have := h.own.row.lt hk
      omega
  · rcases h3 k hf with e | e
    · exact (h.far k hk).2 e
    · have := h.row.lt hk
      omega
theorem Own2.fresh (h : Own2 w W L a d A c R B cb U) (hb : Below W.heap.size W W') : Own2 w W' L a d A c R B cb U := ⟨h.own.fresh hb, h.row.fresh hb, h.far⟩
theorem Own2.alloc (h : Own2 w W L a d A c R B cb U) (o : Obj) : Own2 w (W.alloc o) L a d A c R B cb U := h.fresh ((Below.refl _ _).alloc (Nat.le_refl _) _)
theorem Own2.push {W1 W2 : World} {g c' : Nat} {u : Un} (h : Own2 w W L a d A c R B cb U) (hb : Below W.heap.size W W1) (hown : W2.ownsRow 0 34 4 (.slice (some ⟨g, 0, none⟩) (U.length + 1) c') (U.length + 1) (unCells U ++ unCells1 u)) (hgrow : W1.grownBy W2 (Value.slice B U.length cb).ownBlock) (hat : (Value.slice B U.length cb).ownBlock = some g ∨ g = W1.heap.size) :
    Own2 w W2 L a d A c R (some ⟨g, 0, none⟩) c' (U ++ [u]) := by
  have h1 := h.own.push hb hown hgrow hat
  have O : Only (fun i => rowOf B = some i) W W2 := (Only.of_below hb).grown hgrow (fun k hk => .inl (by rw [ownBlock_slice] at hk; exact hk))
  refine ⟨?_, h.row.only O (fun k hk e => h.row.apart h.own.row (by decide) k hk e), h.far⟩
  simpa [unCells] using h1
end
set_option maxRecDepth 100000 in
set_option maxHeartbeats 40000000 in
theorem notes_walk (c c2 : Int) (a : Option Addr) (cap : Nat) (zs : List Int) (ua : Option Addr) (ucap : Nat) (us : List Un) (w : World) (h1 : -9223372036854775808 ≤ c) (h2 : c ≤ 9223372036854775807) (h3 : -9223372036854775808 ≤ c2) (h4 : c2 ≤ 9223372036854775807) (hz : InInts w a zs) (hu : InUns w ua us) :
    Calls Try.prog 4 #[.int .i64 c, .int .i64 c2, .slice a zs.length cap, .slice ua us.length ucap] w fun e w' => e = .returned (.bool true) ∧ Below w.heap.size w w' := by
  have hbig := hz.big
  have hn := pickN_lt c 21 (by decide)
  have hm := pickN_lt c2 21 (by decide)
  have hbigu := hu.big
  have HU := Lib.hid hu
  have HZ := Lib.hid hz
  obtain ⟨n, hnn⟩ : ∃ n, n = pickN c 21 := ⟨_, rfl⟩
  rw [← hnn] at hn
  have HPK := Lib.hid (fun W => pick_any c 21 W h1 h2 (by decide) (by decide))
  rw [← hnn] at HPK
  obtain ⟨m, hmm⟩ : ∃ m, m = pickN c2 21 := ⟨_, rfl⟩
  rw [← hmm] at hm
  have HPM := Lib.hid (fun W => pick_any c2 21 W h3 h4 (by decide) (by decide))
  rw [← hmm] at HPM
  have EB := Lib.hid (show bnd (n : Int) = n by unfold bnd; omega)
  have EM := Lib.hid (show bnd (m : Int) = m by unfold bnd; omega)
  clear hz hnn h1 h2 hu hmm h3 h4
  go_enter Try.func4, Try.ntmps4
  go_wp2_with (go_at_call 6; refine (awake_any _).mono ?_; rintro e wa ⟨rfl, hb⟩; have HBA := Lib.hid hb; clear hb)
  go_at_call 7
  refine (HPK.out _).mono ?_
  rintro e wb ⟨rfl, rfl⟩
  go_wp2_with (fail)
  go_at_call 7
  refine (HPM.out _).mono ?_
  rintro e wb ⟨rfl, rfl⟩
  go_wp2_with (go_at_call 8; refine (lognew_any n m _).mono ?_; rw [EB.out, EM.out]; rintro e W0 ⟨rfl, hl, hb⟩; have H0 := Lib.hid (Own.of_new (E := 3) (size := 1) HBA.out hl hb); clear hl hb)
  go_loopw [13, 14] (fun v8 v9 wr => ∃ (i : Nat) (want : List Int) (A : Option Addr) (cw : Nat) (ga : LgA), v9 = .int .i64 i ∧ i ≤ zs.length ∧ i ≤ 40 ∧ v8 = .slice A want.length cw ∧ want.length ≤ n ∧ Own w wr wa.heap.size ga (nd n m want []) 3 1 A want.length cw (intCells want)) (fun _ v9 _ => 40 - (intOf v9).toNat)
  case atStart => exact ⟨0, [], none, 0, nilA, rfl, by omega, by omega, rfl, Nat.zero_le _, H0.out⟩
  case round =>
    obtain ⟨i, want, A, cw, ga, rfl, hi, hi40, rfl, hwn, hown⟩ := hrel
    have HO := Lib.hid hown
    by_cases hlt : i < zs.length ∧ i < 40
    · obtain ⟨hlt1, hlt2⟩ := hlt
      obtain ⟨pb, po, rfl, hpl, hpc⟩ := HZ.out.at_ (by omega)
      obtain ⟨x, hx⟩ : ∃ x, x = zs[i] := ⟨_, rfl⟩
      have hcx : ∀ W, Below w.heap.size w W → W.cell? ⟨pb, po + i, none⟩ = some (.int .i64 x) := fun W hW => by
        rw [hx]
        exact (hW.cell (p := ⟨pb, po + i, none⟩) hpl).trans (hpc i hlt1)
      have HCX := Lib.hid hcx
      clear hx hpc hcx hown
      go_wp2
      go_loopw [15, 16] (fun v10 v11 wr => ∃ k : Nat, v11 = .int .i64 k ∧ k ≤ want.length ∧ v10 = .bool ((want.take k).contains x) ∧ Own w wr wa.heap.size ga (nd n m want []) 3 1 A want.length cw (intCells want)) (fun _ v11 _ => want.length - (intOf v11).toNat)
      case atStart => exact ⟨0, rfl, Nat.zero_le _, rfl, HO.out⟩
      case round =>
        obtain ⟨k, rfl, hk, rfl, hown⟩ := hrel
        have HO2 := Lib.hid hown
        by_cases hkl : k < want.length
        · obtain ⟨g, rfl, hg, hcw⟩ := IntRow.get hown.row hkl
          have hcx2 := HCX.out _ hown.below
          obtain ⟨y, hy⟩ : ∃ y, y = want[k] := ⟨_, rfl⟩
          have htk := take_contains (x := x) hkl
          rw [← hy] at hcw htk
          have HTK := Lib.hid htk
          clear htk hy hown
          cases hb : (want.take k).contains x with
          | true =>
            rw [hb] at HTK
            clear hb
            go_wp2
            go_quiet (fail)
            go_wp2
            go_roundw
            case rel => exact ⟨k + 1, by go_num, by omega, by rw [HTK.out]; rfl, HO2.out.drewN _⟩
            case measure => simp [intOf]; omega
          | false =>
            rw [hb] at HTK
            clear hb
            by_cases he : y = x
            · subst he
              have HE := Lib.hid (show (y == y) = true by simp)
              go_wp2
              go_quiet (fail)
              go_wp2
              go_roundw
              case rel => exact ⟨k + 1, by go_num, by omega, by rw [HTK.out, HE.out]; rfl, HO2.out.drewN _⟩
              case measure => simp [intOf]; omega
            · have he' : (y == x) = false := by simpa using he
              have HE := Lib.hid he'
              go_wp2
              go_quiet (fail)
              go_wp2
              go_roundw
              case rel => exact ⟨k + 1, by go_num, by omega, by rw [HTK.out, HE.out]; rfl, HO2.out.drewN _⟩
              case measure => simp [intOf]; omega
        · obtain rfl : want.length = k := by omega
          rw [List.take_length]
          have hcx2 := HCX.out _ hown.below
          have hkp := read_any wa.heap.size ga (nd n m want []) x _ hown.lg
          clear hown
          cases hb : want.contains x with
          | true =>
            have e1 : (nd n m want []).readB x = true := by unfold LgD.readB nd; simp only [hb]; rfl
            have e2 := nd_read_no (n := n) (m := m) (all := []) (.inl hb)
            rw [e1, e2] at hkp
            have HKP := Lib.hid hkp
            clear hkp hb e1 e2
            go_wp2_with (go_at_call 13; refine HKP.out.mono ?_; rintro e w2 ⟨rfl, hs⟩; obtain ⟨ga2, ho2⟩ := HO2.out.step hs; have HO3 := Lib.hid ho2; clear hs ho2)
            go_roundw
            case rel => exact ⟨i + 1, want, A, cw, ga2, by go_num, by omega, by omega, rfl, hwn, HO3.out⟩
            case measure => simp [intOf]; omega
          | false =>
            by_cases hln : want.length < n
            · have e1 : (nd n m want []).readB x = true := by unfold LgD.readB nd; simp only [hb, decide_eq_true hln]; rfl
              have e2 := nd_read_yes (m := m) (all := []) hb hln
              rw [e1, e2] at hkp
              have HKP := Lib.hid hkp
              have hnd : decide ((want.length : Int) < (n : Int)) = true := decide_eq_true (by omega)
              clear hkp hb e1 e2
              obtain ⟨i0, hi0, hz0, hz1, hz2⟩ := info_parts infoInt
              go_wp2_with (first
                | (go_at_call 13; refine HKP.out.mono ?_; rintro e w2 ⟨rfl, hs⟩; obtain ⟨ga2, ho2⟩ := HO2.out.step hs; have hcx3 := HCX.out _ ho2.below; have HO3 := Lib.hid ho2; clear hs ho2)
                | (at_builtin
                   refine wpList_append_lies _ rfl _ _ 22 rfl 0 3 i0 (.int .i64 0) 1 8 Try.underlying22 hi0 hz0 hz1 hz2 rfl (by decide) (.slice A want.length cw) want.length _ rfl ((HO3.out.alloc _).row) ⟨w2.heap.size, 0, none⟩ 1 1 [.int .i64 x] rfl rfl (one_new (heap_alloc_new w2 _)) (by intro u hu; simp at hu; subst hu; rfl) (by decide) (by unfold maxLen; omega) (by omega) (Nat.zero_le _) (w2.heap.size + 1) (by simp) ?_
                   intro g c' w3 hown hgrow hat hlt
                   have HP := Lib.hid (HO3.out.push ((Below.refl _ _).alloc (Nat.le_refl _) _) hown hgrow (by simpa using hat))
                   clear hown hgrow hat))
              go_roundw
              case rel =>
                refine ⟨i + 1, want ++ [x], some ⟨g, 0, none⟩, c', ga2, by go_num, by omega, by omega, by simp, by simp; omega, ?_⟩
                have := HP.out
                simpa [intCells] using this
              case measure => simp [intOf]; omega
            · have e1 : (nd n m want []).readB x = false := by unfold LgD.readB nd; simp only [hb, decide_eq_false hln]; rfl
              have e2 := nd_read_no (n := n) (m := m) (all := []) (x := x) (want := want) (.inr (by omega))
              rw [e1, e2] at hkp
              have HKP := Lib.hid hkp
              have hnd : decide ((want.length : Int) < (n : Int)) = false := decide_eq_false (by omega)
              clear hkp hb e1 e2
              go_wp2_with (go_at_call 13; refine HKP.out.mono ?_; rintro e w2 ⟨rfl, hs⟩; obtain ⟨ga2, ho2⟩ := HO2.out.step hs; have HO3 := Lib.hid ho2; clear hs ho2)
              go_roundw
              case rel => exact ⟨i + 1, want, A, cw, ga2, by go_num, by omega, by omega, rfl, hwn, HO3.out⟩
              case measure => simp [intOf]; omega
    · have h02 : Own2 w wr wa.heap.size ga (nd n m want []) A cw want none 0 [] := ⟨⟨hown.lg, hown.foot, hown.below, Row.nil _ _ _, fun k hk => by cases hk⟩, hown.row, hown.far⟩
      have H02 := Lib.hid h02
      clear h02 hown
      by_cases hl1 : i < zs.length
      all_goals
        go_wp2
        go_loopw [17, 18] (fun v17 v18 wr => ∃ (q : Nat) (all : List Un) (B : Option Addr) (cb : Nat) (ga : LgA), v18 = .int .i64 q ∧ q ≤ us.length ∧ q ≤ 40 ∧ v17 = .slice B all.length cb ∧ all.length ≤ m ∧ Own2 w wr wa.heap.size ga (nd n m want all) A cw want B cb all) (fun _ v18 _ => 40 - (intOf v18).toNat)
        case atStart => exact ⟨0, [], none, 0, ga, rfl, by omega, by omega, rfl, Nat.zero_le _, H02.out⟩
        case round =>
          obtain ⟨q, all, B, cb, ga, rfl, hq, hq40, rfl, ham, hown⟩ := hrel
          have HO := Lib.hid hown
          by_cases hlq : q < us.length ∧ q < 40
          · obtain ⟨hlq1, hlq2⟩ := hlq
            obtain ⟨pb, po, rfl, hpl, hpc⟩ := HU.out.at_ (by omega)
            obtain ⟨x, hx⟩ : ∃ x, x = us[q] := ⟨_, rfl⟩
            have hcx : ∀ W, Below w.heap.size w W → W.cell? ⟨pb, po + q * 4, none⟩ = some (.int .i64 x.kind) ∧ W.cell? ⟨pb, po + q * 4 + 1, none⟩ = some (.int .i64 x.at_) ∧ W.cell? ⟨pb, po + q * 4 + 2, none⟩ = some (.int .i64 x.i) ∧ W.cell? ⟨pb, po + q * 4 + 3, none⟩ = some (.int .i64 x.old) := fun W hW => by
              obtain ⟨p1, p2, p3, p4⟩ := hpc q hlq1
              rw [hx]
              exact ⟨(hW.cell (p := ⟨pb, _, none⟩) hpl).trans p1, (hW.cell (p := ⟨pb, _, none⟩) hpl).trans p2, (hW.cell (p := ⟨pb, _, none⟩) hpl).trans p3, (hW.cell (p := ⟨pb, _, none⟩) hpl).trans p4⟩
            have HCX := Lib.hid hcx
            obtain ⟨x1, x2, x3, x4⟩ := hcx _ hown.own.below
            have hkp := undo_any wa.heap.size ga (nd n m want all) x _ hown.own.lg
            clear hx hpc hcx hown
            by_cases hlm : all.length < m
            · have e1 : (nd n m want all).undoB = true := decide_eq_true hlm
              have e2 : (nd n m want all).undo x = nd n m want (all ++ [x]) := by unfold LgD.undo; rw [if_pos (show (nd n m want all).U.length < (nd n m want all).mu from hlm)]; rfl
              rw [e1, e2] at hkp
              have HKP := Lib.hid hkp
              have hnd : decide ((all.length : Int) < (m : Int)) = true := decide_eq_true (by omega)
              clear hkp e1 e2
              obtain ⟨i0, hi0, hz0, hz1, hz2⟩ := info_parts infoUn
              go_wp2_with (first
                | (go_at_call 14; refine HKP.out.mono ?_; rintro e w2 ⟨rfl, hs⟩; obtain ⟨ga2, ho2⟩ := HO.out.step hs; obtain ⟨y1, y2, y3, y4⟩ := HCX.out _ ho2.own.below; have HO3 := Lib.hid ho2; clear hs ho2)
                | (at_builtin
                   refine wpList_append_lies _ rfl _ _ 31 rfl 0 34 i0 _ 4 32 Try.underlying31 hi0 hz0 hz1 hz2 rfl (by decide) (.slice B all.length cb) all.length _ rfl ((HO3.out.alloc _).own.row) ⟨w2.heap.size, 0, none⟩ 1 1 [.int .i64 x.kind, .int .i64 x.at_, .int .i64 x.i, .int .i64 x.old] rfl rfl (World.news_of_block (heap_alloc_new w2 _)) (by intro u hu; simp at hu; rcases hu with rfl | rfl | rfl | rfl <;> rfl) (by decide) (by unfold maxLen; omega) (by omega) (Nat.zero_le _) (w2.heap.size + 1) (by simp) ?_
                   intro g c' w3 hown hgrow hat hlt
                   have HP := Lib.hid (HO3.out.push (u := x) ((Below.refl _ _).alloc (Nat.le_refl _) _) hown hgrow (by simpa using hat))
                   clear hown hgrow hat))
              go_roundw
              case rel => exact ⟨q + 1, all ++ [x], some ⟨g, 0, none⟩, c', ga2, by go_num, by omega, by omega, by simp, by simp; omega, HP.out⟩
              case measure => simp [intOf]; omega
            · have e1 : (nd n m want all).undoB = false := decide_eq_false hlm
              have e2 : (nd n m want all).undo x = nd n m want all := by unfold LgD.undo; rw [if_neg (show ¬ (nd n m want all).U.length < (nd n m want all).mu from hlm)]
              rw [e1, e2] at hkp
              have HKP := Lib.hid hkp
              have hnd : decide ((all.length : Int) < (m : Int)) = false := decide_eq_false (by omega)
              clear hkp e1 e2
              go_wp2_with (go_at_call 14; refine HKP.out.mono ?_; rintro e w2 ⟨rfl, hs⟩; obtain ⟨ga2, ho2⟩ := HO.out.step hs; have HO3 := Lib.hid ho2; clear hs ho2)
              go_roundw
              case rel => exact ⟨q + 1, all, B, cb, ga2, by go_num, by omega, by omega, rfl, ham, HO3.out⟩
              case measure => simp [intOf]; omega
          · have HRD := Lib.hid (show ∀ W, LG W wa.heap.size ga (nd n m want all) → Calls Try.prog 12 #[.pointer (some ⟨wa.heap.size, 0, none⟩)] W (Cloned 3 1 want.length (intCells want) W) from fun W h => reads_any wa.heap.size ga (nd n m want all) W h)
            have HUD := Lib.hid (show ∀ W, LG W wa.heap.size ga (nd n m want all) → Calls Try.prog 16 #[.pointer (some ⟨wa.heap.size, 0, none⟩)] W (Cloned 34 4 all.length (unCells all) W) from fun W h => undos_any wa.heap.size ga (nd n m want all) W h)
            have HHD := Lib.hid (show ∀ W, LG W wa.heap.size ga (nd n m want all) → Calls Try.prog 17 #[.pointer (some ⟨wa.heap.size, 0, none⟩)] W (Cloned 42 2 0 [] W) from fun W h => holds_any wa.heap.size ga (nd n m want all) W h)
            have HIN := Lib.hid (show ∀ (A1 : Option Addr) c1 W, IntRow W A1 c1 want → IntRow W A cw want → Calls Try.prog 10 #[.slice A1 want.length c1, .slice A want.length cw] W fun e w' => e = .returned (.bool true) ∧ Below W.heap.size W w' from fun A1 c1 W h1 h2 => by
              have := ints_any A1 A c1 cw want want W h1 h2
              rwa [decide_eq_true rfl] at this)
            have HUN := Lib.hid (show ∀ (A1 : Option Addr) c1 W, Row W 34 4 A1 all.length c1 (unCells all) → Row W 34 4 B all.length cb (unCells all) → Calls Try.prog 15 #[.slice A1 all.length c1, .slice B all.length cb] W fun e w' => e = .returned (.bool true) ∧ Below W.heap.size W w' from fun A1 c1 W h1 h2 => by
              have := sameU_any A1 B c1 cb all all W h1 h2
              rwa [decide_eq_true rfl] at this)
            have HRS := Lib.hid (show ∀ W, LG W wa.heap.size ga (nd n m want all) → Calls Try.prog 18 #[.pointer (some ⟨wa.heap.size, 0, none⟩)] W fun e w' => (∃ v, e = .returned v) ∧ Stepped W w' wa.heap.size ga (emptyD n m) from fun W h => reset_any wa.heap.size ga (nd n m want all) W h)
            have HR0 := Lib.hid (show ∀ W ga, LG W wa.heap.size ga (emptyD n m) → Calls Try.prog 11 #[.pointer (some ⟨wa.heap.size, 0, none⟩)] W (Cloned 3 1 0 [] W) from fun W ga h => roots_any wa.heap.size ga (emptyD n m) W h)
            have HD0 := Lib.hid (show ∀ W ga, LG W wa.heap.size ga (emptyD n m) → Calls Try.prog 12 #[.pointer (some ⟨wa.heap.size, 0, none⟩)] W (Cloned 3 1 0 [] W) from fun W ga h => reads_any wa.heap.size ga (emptyD n m) W h)
            have HU0 := Lib.hid (show ∀ W ga, LG W wa.heap.size ga (emptyD n m) → Calls Try.prog 16 #[.pointer (some ⟨wa.heap.size, 0, none⟩)] W (Cloned 34 4 0 [] W) from fun W ga h => undos_any wa.heap.size ga (emptyD n m) W h)
            obtain ⟨b, hb1, hb2⟩ : ∃ b : Bool, (emptyD n m).readB 1 = b ∧ decide (0 < n) = b := ⟨decide (0 < n), rfl, rfl⟩
            have hre := fun W ga (h : LG W wa.heap.size ga (emptyD n m)) => read_any wa.heap.size ga (emptyD n m) 1 W h
            rw [hb1] at hre
            have HRE := Lib.hid hre
            clear hown hre hb1
            by_cases hlq1 : q < us.length
            all_goals
              go_wp2_with (fail)
              go_at_call 12
              refine (HRD.out _ HO.out.own.lg).mono ?_
              rintro e W1 ⟨A1, c1, rfl, hr1, hbl1, _⟩
              have H1 := Lib.hid (HO.out.fresh hbl1)
              have R1 := Lib.hid hr1
              clear hr1 hbl1
              go_wp2_with (fail)
              go_at_call 10
              refine (HIN.out A1 c1 W1 R1.out H1.out.row).mono ?_
              rintro e W2 ⟨rfl, hbl2⟩
              have H2 := Lib.hid (H1.out.fresh hbl2)
              clear hbl2
              go_wp2_with (fail)
              go_at_call 16
              refine (HUD.out W2 H2.out.own.lg).mono ?_
              rintro e W3 ⟨A3, c3, rfl, hr3, hbl3, _⟩
              have H3 := Lib.hid (H2.out.fresh hbl3)
              have R3 := Lib.hid hr3
              clear hr3 hbl3
              go_wp2_with (fail)
              go_at_call 15
              refine (HUN.out A3 c3 W3 R3.out H3.out.own.row).mono ?_
              rintro e W4 ⟨rfl, hbl4⟩
              have H4 := Lib.hid (H3.out.fresh hbl4)
              clear hbl4
              go_wp2_with (fail)
              go_at_call 17
              refine (HHD.out W4 H4.out.own.lg).mono ?_
              rintro e W5 ⟨A5, c5, rfl, _, hbl5, _⟩
              have H5 := Lib.hid (H4.out.fresh hbl5)
              clear hbl5
              go_wp2_with (fail)
              go_at_call 18
              refine (HRS.out W5 H5.out.own.lg).mono ?_
              rintro e W6 ⟨⟨v6, rfl⟩, hs6⟩
              obtain ⟨ga6, ho6⟩ := H5.out.own.step hs6
              have H6 := Lib.hid ho6
              clear hs6 ho6
              go_wp2_with (fail)
              go_at_call 11
              refine (HR0.out W6 _ H6.out.lg).mono ?_
              rintro e W7 ⟨A7, c7, rfl, _, hbl7, _⟩
              have H7 := Lib.hid (H6.out.fresh hbl7)
              clear hbl7
              go_wp2_with (fail)
              go_at_call 12
              refine (HD0.out W7 _ H7.out.lg).mono ?_
              rintro e W8 ⟨A8, c8, rfl, _, hbl8, _⟩
              have H8 := Lib.hid (H7.out.fresh hbl8)
              clear hbl8
              go_wp2_with (fail)
              go_at_call 16
              refine (HU0.out W8 _ H8.out.lg).mono ?_
              rintro e W9 ⟨A9, c9, rfl, _, hbl9, _⟩
              have H9 := Lib.hid (H8.out.fresh hbl9)
              clear hbl9
              go_wp2_with (fail)
              go_at_call 13
              refine (HRE.out W9 _ H9.out.lg).mono ?_
              rintro e W10 ⟨rfl, hs10⟩
              obtain ⟨ga10, ho10⟩ := H9.out.step hs10
              have HB10 := Lib.hid ho10.below
              clear hs10 ho10
              cases b <;> (
                go_wp2
                go_ret
                exact ⟨rfl, HB10.out⟩)
end Go.Proofs.Ytbmedngnfkkhdaa
