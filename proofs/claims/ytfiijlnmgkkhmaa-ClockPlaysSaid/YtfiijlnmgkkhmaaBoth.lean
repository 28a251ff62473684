/-
  PROVED: the contracts of the reference's clock, and of both clocks side by side over one state. No condition but that the blocks hold such clocks.
-/
import Derived.Test.YtfiijlnmgkkhmaaAwake
namespace Go.Proofs.Ytfiijlnmgkkhmaa
open Go.RowKit

theorem rnow_any (b : Nat) (n m : Int) (w : World) (h : RK w b n m) :
    Calls Try.prog 15 #[.pointer (some ⟨b, 0, none⟩)] w fun e w' => e = .returned (.int .i64 n) ∧ w = w' := by
  have hc := h.c0
  clear h
  go_enter Try.func15, Try.ntmps15
  go_wp2
  go_ret
  exact ⟨rfl, rfl⟩
/-- Whether so many may be. -/
def mayB (k d : Int) : Bool := decide (0 ≤ k ∧ k ≤ d)
theorem mayB_in {k d : Int} (h : 0 ≤ k) : decide (k ≤ d) = mayB k d := by unfold mayB; simp [h]
theorem mayB_out {k d : Int} (h : k < 0) : false = mayB k d := by unfold mayB; simp; omega
theorem rmay_any (b : Nat) (n m k : Int) (w : World) (h : RK w b n m) (hm0 : 0 ≤ n) (hm1 : n ≤ m) (hm2 : m ≤ 1099511627776) :
    Calls Try.prog 17 #[.pointer (some ⟨b, 0, none⟩), .int .i64 k] w fun e w' => e = .returned (.bool (mayB k (m - n))) ∧ ∃ q, w' = w.drewN q := by
  have hc0 := h.c0
  have hc := h.c1
  clear h
  by_cases hk : 0 ≤ k
  · rw [← mayB_in hk]
    go_enter Try.func17, Try.ntmps17
    go_wp2_with fail
    go_quiet (fail)
    go_wp2
    go_ret
    exact ⟨rfl, _, rfl⟩
  · have hd : decide (0 ≤ k) = false := by simp; omega
    rw [← mayB_out (by omega)]
    go_enter Try.func17, Try.ntmps17
    go_wp2_with fail
    go_quiet (fail)
    go_wp2
    go_ret
    exact ⟨rfl, _, rfl⟩
theorem rtick_yes (b : Nat) (n m : Int) (w : World) (h : RK w b n m) (hm0 : 0 ≤ n) (hm1 : n < m) (hm2 : m ≤ 1099511627776) :
    Calls Try.prog 13 #[.pointer (some ⟨b, 0, none⟩)] w fun e w' => e = .returned (.tuple #[.int .i64 (n + 1), .bool true]) ∧ RK w' b (n + 1) m ∧ w.grownBy w' (some b) := by
  have hc0 := h.c0
  have hc := h.c1
  have hf := h.fz 0
  have H := Lib.hid h
  clear h
  go_enter Try.func13, Try.ntmps13
  go_wp2_with fail
  go_quiet (fail)
  go_wp2
  go_ret2
  exact ⟨rfl, H.out.set0 _, only_set _ _ _ _⟩
theorem rtick_no (b : Nat) (n m : Int) (w : World) (h : RK w b n m) (hm1 : m ≤ n) :
    Calls Try.prog 13 #[.pointer (some ⟨b, 0, none⟩)] w fun e w' => e = .returned (.tuple #[.int .i64 0, .bool false]) ∧ RK w' b n m ∧ w.grownBy w' (some b) := by
  have hc0 := h.c0
  have hc := h.c1
  have H := Lib.hid h
  clear h
  go_enter Try.func13, Try.ntmps13
  go_wp2_with fail
  go_quiet (fail)
  go_wp2
  go_ret2
  exact ⟨rfl, H.out.drewN _, only_drawn _ _ _⟩

/-- Block s is the two numbers a, q. -/
def SL (w : World) (s : Nat) (a q : Int) : Prop := w.heap[s]? = some (.cells #[.int .i64 a, .int .i64 q] 3 (0, 0))
theorem SL.lt {w : World} {s : Nat} {a q : Int} (h : SL w s a q) : s < w.heap.size := lt_of_block h
theorem SL.c0 {w : World} {s : Nat} {a q : Int} (h : SL w s a q) : w.cell? ⟨s, 0, none⟩ = some (.int .i64 a) := by unfold SL at h; simp [World.cell?, h]
theorem SL.c1 {w : World} {s : Nat} {a q : Int} (h : SL w s a q) : w.cell? ⟨s, 1, none⟩ = some (.int .i64 q) := by unfold SL at h; simp [World.cell?, h]
theorem SL.grown {w w' : World} {s c : Nat} {a q : Int} (h : SL w s a q) (g : w.grownBy w' (some c)) (hne : s ≠ c) : SL w' s a q := (g.block s h.lt (fun e => hne (by injection e))).trans h
theorem SL.below {w w' : World} {s B : Nat} {a q : Int} (h : SL w s a q) (g : Below B w w') (hs : s < B) : SL w' s a q := (g.block s hs).trans h
theorem SL.ne1 {w : World} {s c : Nat} {a q n m : Int} (h : SL w s a q) (k : CK w c n m) : s ≠ c := by
  rintro rfl
  unfold SL at h; unfold CK at k
  rw [h] at k
  simp at k
theorem SL.ne2 {w : World} {s c : Nat} {a q n m : Int} (h : SL w s a q) (k : RK w c n m) : s ≠ c := by
  rintro rfl
  unfold SL at h; unfold RK at k
  rw [h] at k
  simp at k

/-- Both clocks, and the list of two, in one world; below B nothing has turned since w. -/
structure St (w wr : World) (s A B : Nat) (a q n p m : Int) : Prop where
  sl : SL wr s a q
  ck : CK wr A n m
  rk : RK wr B p m
  bel : Below w.heap.size w wr
  hA : w.heap.size ≤ A
  hB : w.heap.size ≤ B
theorem St.onA {w wr wr' : World} {s A B : Nat} {a q n p m n' : Int} (h : St w wr s A B a q n p m) (hc : CK wr' A n' m) (g : wr.grownBy wr' (some A)) : St w wr' s A B a q n' p m :=
  ⟨h.sl.grown g (h.sl.ne1 h.ck), hc, h.rk.grown g (Ne.symm (h.ck.ne_ h.rk)), bstep h.bel g h.hA, h.hA, h.hB⟩
theorem St.onB {w wr wr' : World} {s A B : Nat} {a q n p m p' : Int} (h : St w wr s A B a q n p m) (hc : RK wr' B p' m) (g : wr.grownBy wr' (some B)) : St w wr' s A B a q n p' m :=
  ⟨h.sl.grown g (h.sl.ne2 h.rk), h.ck.grown g (h.ck.ne_ h.rk), hc, bstep h.bel g h.hB, h.hA, h.hB⟩
section
variable {w0 wr : World} {s A B : Nat} {a q n p m : Int} (k : Int) (h : St w0 wr s A B a q n p m)
include h
theorem nowA : Calls Try.prog 14 #[.pointer (some ⟨A, 0, none⟩)] wr fun e w' => e = .returned (.int .i64 n) ∧ wr = w' := now_any A n m wr h.ck
theorem nowB : Calls Try.prog 15 #[.pointer (some ⟨B, 0, none⟩)] wr fun e w' => e = .returned (.int .i64 p) ∧ wr = w' := rnow_any B p m wr h.rk
theorem mayA (h0 : 0 ≤ n) (h1 : n ≤ m) (h2 : m ≤ 1099511627776) : Calls Try.prog 16 #[.pointer (some ⟨A, 0, none⟩), .int .i64 k] wr fun e w' => e = .returned (.bool (mayB k (m - n))) ∧ St w0 w' s A B a q n p m := by
  by_cases hk : 0 ≤ k
  · refine (may_guard A n m k wr h.ck hk h0 h1 h2).mono ?_
    rintro e w' ⟨rfl, z, rfl⟩
    exact ⟨by rw [mayB_in hk], h.onA (h.ck.drewN z) (only_drawn _ _ _)⟩
  · refine (may_neg A k wr (by omega)).mono ?_
    rintro e w' ⟨rfl, z, rfl⟩
    exact ⟨by rw [← mayB_out (by omega)], h.onA (h.ck.drewN z) (only_drawn _ _ _)⟩
theorem mayBB (h0 : 0 ≤ p) (h1 : p ≤ m) (h2 : m ≤ 1099511627776) : Calls Try.prog 17 #[.pointer (some ⟨B, 0, none⟩), .int .i64 k] wr fun e w' => e = .returned (.bool (mayB k (m - p))) ∧ St w0 w' s A B a q n p m := by
  refine (rmay_any B p m k wr h.rk h0 h1 h2).mono ?_
  rintro e w' ⟨rfl, z, rfl⟩
  exact ⟨rfl, h.onB (h.rk.drewN z) (only_drawn _ _ _)⟩
theorem tickA_yes (h0 : 0 ≤ n) (h1 : n < m) (h2 : m ≤ 1099511627776) : Calls Try.prog 12 #[.pointer (some ⟨A, 0, none⟩)] wr fun e w' => e = .returned (.tuple #[.int .i64 (n + 1), .bool true]) ∧ St w0 w' s A B a q (n + 1) p m :=
  (tick_yes A n m wr h.ck h0 h1 h2).mono fun _ _ ⟨he, hc, hg⟩ => ⟨he, h.onA hc hg⟩
theorem tickA_no (h0 : 0 ≤ n) (h1 : n ≤ m ∧ m ≤ n) (h2 : m ≤ 1099511627776) : Calls Try.prog 12 #[.pointer (some ⟨A, 0, none⟩)] wr fun e w' => e = .returned (.tuple #[.int .i64 0, .bool false]) ∧ St w0 w' s A B a q n p m :=
  (tick_any_no A n m wr h.ck h0 h1 h2).mono fun _ _ ⟨he, hc, hg⟩ => ⟨he, h.onA hc hg⟩
theorem tickB_yes (h0 : 0 ≤ p) (h1 : p < m) (h2 : m ≤ 1099511627776) : Calls Try.prog 13 #[.pointer (some ⟨B, 0, none⟩)] wr fun e w' => e = .returned (.tuple #[.int .i64 (p + 1), .bool true]) ∧ St w0 w' s A B a q n (p + 1) m :=
  (rtick_yes B p m wr h.rk h0 h1 h2).mono fun _ _ ⟨he, hc, hg⟩ => ⟨he, h.onB hc hg⟩
theorem tickB_no (h1 : m ≤ p) : Calls Try.prog 13 #[.pointer (some ⟨B, 0, none⟩)] wr fun e w' => e = .returned (.tuple #[.int .i64 0, .bool false]) ∧ St w0 w' s A B a q n p m :=
  (rtick_no B p m wr h.rk h1).mono fun _ _ ⟨he, hc, hg⟩ => ⟨he, h.onB hc hg⟩
end
/-- New, the list of two at hand. -/
theorem newA (most : Int) (w0 wr : World) (s : Nat) (a q : Int) (hs : SL wr s a q) (hb : Below w0.heap.size w0 wr) :
    Calls Try.prog 10 #[.int .i64 most] wr fun e w' => ∃ A, e = .returned (.pointer (some ⟨A, 0, none⟩)) ∧ SL w' s a q ∧ Below w0.heap.size w0 w' ∧ w0.heap.size ≤ A ∧ A < w'.heap.size ∧ CK w' A 0 (clamp most) :=
  (new_t most wr).mono fun _ _ ⟨he, hc, hg⟩ => ⟨_, he, hs.below hg hs.lt, hb.trans (hg.mono hb.size), hb.size, hc.lt, hc⟩
theorem newB (most : Int) (w0 wr : World) (s A : Nat) (a q : Int) (hs : SL wr s a q) (hb : Below w0.heap.size w0 wr) (hA : w0.heap.size ≤ A) (hc : CK wr A 0 (clamp most)) :
    Calls Try.prog 11 #[.int .i64 most] wr fun e w' => ∃ B, e = .returned (.pointer (some ⟨B, 0, none⟩)) ∧ St w0 w' s A B a q 0 0 (clamp most) :=
  (rnew_t most wr).mono fun _ _ ⟨he, hr, hg⟩ => ⟨_, he, hs.below hg hs.lt, (hg.block A hc.lt).trans hc, hr, hb.trans (hg.mono hb.size), hA, hb.size⟩
end Go.Proofs.Ytfiijlnmgkkhmaa
