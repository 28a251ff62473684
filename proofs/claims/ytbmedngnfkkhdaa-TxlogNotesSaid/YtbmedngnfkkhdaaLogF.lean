/-
  PROVED: the contracts of the laws' own Ints and undos: are two lists the same? No condition but that the cells hold the lists.
-/
import Derived.Test.YtbmedngnfkkhdaaLogE
namespace Go.Proofs.Ytbmedngnfkkhdaa
open Go.RowKit

theorem unCells_at (U : List Un) {k : Nat} (hk : k < U.length) : (unCells U)[k * 4]? = some (.int .i64 U[k].kind) ∧ (unCells U)[k * 4 + 1]? = some (.int .i64 U[k].at_) ∧ (unCells U)[k * 4 + 2]? = some (.int .i64 U[k].i) ∧ (unCells U)[k * 4 + 3]? = some (.int .i64 U[k].old) := by
  induction U generalizing k with
  | nil => cases hk
  | cons x U ih =>
    cases k with
    | zero => exact ⟨rfl, rfl, rfl, rfl⟩
    | succ k =>
      have := ih (k := k) (by simpa using hk)
      have e : (k + 1) * 4 = k * 4 + 1 + 1 + 1 + 1 := by omega
      rw [e]
      exact this
/-- Where two lists of one length agree up to k and differ at k, they differ. -/
theorem list_ne_at {α : Type} {R S : List α} {k : Nat} (hr : k < R.length) (hs : k < S.length) (h : R[k] ≠ S[k]) : R ≠ S := by
  rintro rfl
  exact h rfl
theorem list_eq_all {α : Type} {R S : List α} (hl : R.length = S.length) (h : ∀ j (hr : j < R.length) (hs : j < S.length), R[j] = S[j]) : R = S := List.ext_getElem hl h

theorem ints_any (A B : Option Addr) (c c' : Nat) (R S : List Int) (w : World) (hR : IntRow w A c R) (hS : IntRow w B c' S) :
    Calls Try.prog 10 #[.slice A R.length c, .slice B S.length c'] w fun e w' => e = .returned (.bool (decide (R = S))) ∧ Below w.heap.size w w' := by
  have hbig := hR.big
  unfold maxLen at hbig
  have HR := Lib.hid hR
  have HS := Lib.hid hS
  clear hR hS
  by_cases hl : R.length = S.length
  · have HL := Lib.hid hl
    rw [← hl]
    go_enter Try.func10, Try.ntmps10
    clear hl
    go_wp2
    go_loopw [5] (fun v wr => ∃ k : Nat, k ≤ R.length ∧ v = .int .i64 k ∧ (∀ j (hr : j < R.length) (hs : j < S.length), j < k → R[j] = S[j]) ∧ Below w.heap.size w wr) (fun v _ => R.length - (intOf v).toNat)
    case atStart => exact ⟨0, by omega, rfl, fun j _ _ h => by omega, Below.refl _ _⟩
    case round =>
      obtain ⟨k, hk, rfl, hno, hbl⟩ := hrel
      have HNO := Lib.hid hno
      have HB := Lib.hid hbl
      clear hno
      by_cases hlt : k < R.length
      · have hls : k < S.length := by rw [← HL.out]; exact hlt
        obtain ⟨g, rfl, hg, hc⟩ := HR.out.get hlt
        obtain ⟨f, rfl, hf, hd⟩ := HS.out.get hls
        obtain ⟨x, hx⟩ : ∃ x, x = R[k] := ⟨_, rfl⟩
        obtain ⟨y, hy⟩ : ∃ y, y = S[k] := ⟨_, rfl⟩
        rw [← hx] at hc
        rw [← hy] at hd
        replace hc := (hbl.cell (p := ⟨g, k, none⟩) hg).trans hc
        replace hd := (hbl.cell (p := ⟨f, k, none⟩) hf).trans hd
        have HX := Lib.hid hx
        have HY := Lib.hid hy
        have HLS := Lib.hid hls
        clear hx hy hbl
        by_cases he : x = y
        · subst he
          go_wp2
          go_quiet (fail)
          go_wp2
          go_roundw
          case rel =>
            refine ⟨k + 1, by omega, by go_num, fun j hr hs hjk => ?_, HB.out.trans ((below_drewN' _ _).mono HB.out.size)⟩
            by_cases e : j = k
            · subst e
              rw [← HX.out, ← HY.out]
            · exact HNO.out j hr hs (by omega)
          case measure => simp [intOf]; omega
        · go_wp2
          go_quiet (fail)
          go_wp2
          go_ret
          refine ⟨?_, HB.out.trans ((below_drewN' _ _).mono HB.out.size)⟩
          rw [decide_eq_false (list_ne_at hlt HLS.out (by rw [← HX.out, ← HY.out]; exact he))]
          rfl
      · obtain rfl : R.length = k := by omega
        go_wp2
        go_ret
        refine ⟨?_, HB.out⟩
        rw [decide_eq_true (list_eq_all HL.out fun j hr hs => HNO.out j hr hs hr)]
        rfl
  · have hne : R ≠ S := fun e => hl (by rw [e])
    rw [decide_eq_false hne]
    clear hne
    go_enter Try.func10, Try.ntmps10
    go_wp2
    go_ret
    exact ⟨rfl, Below.refl _ _⟩
theorem run_un_ne {x y : Un} (h : x ≠ y) (W : World) : (binOp .neq 34 (.agg #[.int .i64 x.kind, .int .i64 x.at_, .int .i64 x.i, .int .i64 x.old]) (.agg #[.int .i64 y.kind, .int .i64 y.at_, .int .i64 y.i, .int .i64 y.old])).run Try.prog W = .ok (.bool true) W := by
  obtain ⟨a1, a2, a3, a4⟩ := x
  obtain ⟨b1, b2, b3, b4⟩ := y
  have hn : ¬ (a1 = b1 ∧ a2 = b2 ∧ a3 = b3 ∧ a4 = b4) := by simpa using h
  clear h
  by_cases h1 : a1 = b1
  · subst h1
    by_cases h2 : a2 = b2
    · subst h2
      by_cases h3 : a3 = b3
      · subst h3
        have e4 : (a4 == b4) = false := by simp at hn; simpa using hn
        clear hn
        go_simp
      · have e3 : (a3 == b3) = false := by simpa using h3
        clear hn h3
        go_simp
    · have e2 : (a2 == b2) = false := by simpa using h2
      clear hn h2
      go_simp
  · have e1 : (a1 == b1) = false := by simpa using h1
    clear hn h1
    go_simp
theorem sameU_any (A B : Option Addr) (c c' : Nat) (R S : List Un) (w : World) (hR : Row w 34 4 A R.length c (unCells R)) (hS : Row w 34 4 B S.length c' (unCells S)) :
    Calls Try.prog 15 #[.slice A R.length c, .slice B S.length c'] w fun e w' => e = .returned (.bool (decide (R = S))) ∧ Below w.heap.size w w' := by
  have hbig := hR.big
  unfold maxLen at hbig
  have HR := Lib.hid hR
  have HS := Lib.hid hS
  clear hR hS
  by_cases hl : R.length = S.length
  · have HL := Lib.hid hl
    rw [← hl]
    go_enter Try.func15, Try.ntmps15
    clear hl
    go_wp2
    go_loopw [5] (fun v wr => ∃ k : Nat, k ≤ R.length ∧ v = .int .i64 k ∧ (∀ j (hr : j < R.length) (hs : j < S.length), j < k → R[j] = S[j]) ∧ Below w.heap.size w wr) (fun v _ => R.length - (intOf v).toNat)
    case atStart => exact ⟨0, by omega, rfl, fun j _ _ h => by omega, Below.refl _ _⟩
    case round =>
      obtain ⟨k, hk, rfl, hno, hbl⟩ := hrel
      have HNO := Lib.hid hno
      have HB := Lib.hid hbl
      clear hno
      by_cases hlt : k < R.length
      · have hls : k < S.length := by rw [← HL.out]; exact hlt
        obtain ⟨g, rfl, hg, hc, _⟩ := HR.out.at_ (by omega)
        obtain ⟨f, rfl, hf, hd, _⟩ := HS.out.at_ (by omega)
        obtain ⟨x, hx⟩ : ∃ x, x = R[k] := ⟨_, rfl⟩
        obtain ⟨y, hy⟩ : ∃ y, y = S[k] := ⟨_, rfl⟩
        obtain ⟨p1, p2, p3, p4⟩ := unCells_at R hlt
        obtain ⟨q1, q2, q3, q4⟩ := unCells_at S hls
        rw [← hx] at p1 p2 p3 p4
        rw [← hy] at q1 q2 q3 q4
        have c1 := (hbl.cell (p := ⟨g, k * 4, none⟩) hg).trans (hc _ _ p1)
        have c2 := (hbl.cell (p := ⟨g, k * 4 + 1, none⟩) hg).trans (hc _ _ p2)
        have c3 := (hbl.cell (p := ⟨g, k * 4 + 2, none⟩) hg).trans (hc _ _ p3)
        have c4 := (hbl.cell (p := ⟨g, k * 4 + 3, none⟩) hg).trans (hc _ _ p4)
        have d1 := (hbl.cell (p := ⟨f, k * 4, none⟩) hf).trans (hd _ _ q1)
        have d2 := (hbl.cell (p := ⟨f, k * 4 + 1, none⟩) hf).trans (hd _ _ q2)
        have d3 := (hbl.cell (p := ⟨f, k * 4 + 2, none⟩) hf).trans (hd _ _ q3)
        have d4 := (hbl.cell (p := ⟨f, k * 4 + 3, none⟩) hf).trans (hd _ _ q4)
        have HX := Lib.hid hx
        have HY := Lib.hid hy
        have HLS := Lib.hid hls
        clear hx hy hbl p1 p2 p3 p4 q1 q2 q3 q4 hc hd
        by_cases he : x = y
        · subst he
          go_wp2
          go_quiet (fail)
          go_wp2
          go_roundw
          case rel =>
            refine ⟨k + 1, by omega, by go_num, fun j hr hs hjk => ?_, HB.out.trans ((below_drewN' _ _).mono HB.out.size)⟩
            by_cases e : j = k
            · subst e
              rw [← HX.out, ← HY.out]
            · exact HNO.out j hr hs (by omega)
          case measure => simp [intOf]; omega
        · have hu := run_un_ne he
          go_wp2
          go_quiet (fail)
          go_wp2
          go_ret
          refine ⟨?_, HB.out.trans ((below_drewN' _ _).mono HB.out.size)⟩
          rw [decide_eq_false (list_ne_at hlt HLS.out (by rw [← HX.out, ← HY.out]; exact he))]
          rfl
      · obtain rfl : R.length = k := by omega
        go_wp2
        go_ret
        refine ⟨?_, HB.out⟩
        rw [decide_eq_true (list_eq_all HL.out fun j hr hs => HNO.out j hr hs hr)]
        rfl
  · have hne : R ≠ S := fun e => hl (by rw [e])
    rw [decide_eq_false hne]
    clear hne
    go_enter Try.func15, Try.ntmps15
    go_wp2
    go_ret
    exact ⟨rfl, Below.refl _ _⟩
end Go.Proofs.Ytbmedngnfkkhdaa
