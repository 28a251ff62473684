/-
  PROVED: the contracts of package clock's New, Now, May and Tick (and of sync/atomic's Int64.Load and Add under them), and of the reference's clock: what each returns and what becomes of the world. No condition but that the cells hold a clock.
-/
import Derived.Test.YtfiijlnmgkkhmaaRows
import Derived.WalkKit
import Derived.Handy
import Derived.Laws.LoneSync
import Derived.Deep.QuietTactic
import Derived.BigQuiet
import Derived.WalkLawsBesides
import Derived.WalkSpells
import Derived.Lib.Hide
namespace Go.Proofs.Ytfiijlnmgkkhmaa
open Go.RowKit

/-- Block b is a clock that is at n and goes up to m. -/
def CK (w : World) (b : Nat) (n m : Int) : Prop := w.heap[b]? = some (.cells #[.int .i64 n, .int .i64 m] 41 (0, 0))
/-- Block b is a clock of the reference. -/
def RK (w : World) (b : Nat) (n m : Int) : Prop := w.heap[b]? = some (.cells #[.int .i64 n, .int .i64 m] 43 (0, 0))

theorem load_any (b off : Nat) (x : Int) (w : World) (hc : w.cell? ⟨b, off, none⟩ = some (.int .i64 x)) :
    Calls Try.prog 19 #[.pointer (some ⟨b, off, none⟩)] w fun e w' => e = .returned (.int .i64 x) ∧ w = w' := by
  have hl := run_call_load (P := Try.prog) Try.func21 (by kernel_rfl) (by kernel_rfl) (by kernel_rfl) .i64 (by kernel_rfl) hc
  go_enter Try.func19, Try.ntmps19
  go_wp2
  go_ret
  exact ⟨rfl, rfl⟩

theorem add_any (b off : Nat) (x y : Int) (w : World) (hc : w.cell? ⟨b, off, none⟩ = some (.int .i64 x)) (hf : w.frozen? ⟨b, off, none⟩ = false)
    (h0 : -9223372036854775808 ≤ x + y) (h1 : x + y ≤ 9223372036854775807) :
    Calls Try.prog 18 #[.pointer (some ⟨b, off, none⟩), .int .i64 y] w fun e w' => e = .returned (.int .i64 (x + y)) ∧ w.setCell ⟨b, off, none⟩ (.int .i64 (x + y)) = w' := by
  have hl := run_call_add (P := Try.prog) Try.func20 (by kernel_rfl) (by kernel_rfl) (by kernel_rfl) .i64 (by kernel_rfl) (y := y) (s := x + y) hc hf (by simp [go_sem, IntKind.wrap_i64]; omega)
  go_enter Try.func18, Try.ntmps18
  go_wp2
  go_ret
  exact ⟨rfl, rfl⟩

theorem CK.c0 {w : World} {b : Nat} {n m : Int} (h : CK w b n m) : w.cell? ⟨b, 0, none⟩ = some (.int .i64 n) := by unfold CK at h; simp [World.cell?, h]
theorem CK.c1 {w : World} {b : Nat} {n m : Int} (h : CK w b n m) : w.cell? ⟨b, 1, none⟩ = some (.int .i64 m) := by unfold CK at h; simp [World.cell?, h]
theorem CK.fz {w : World} {b : Nat} {n m : Int} (h : CK w b n m) (i : Nat) : w.frozen? ⟨b, i, none⟩ = false := by unfold CK at h; simp [World.frozen?, h]
theorem CK.lt {w : World} {b : Nat} {n m : Int} (h : CK w b n m) : b < w.heap.size := lt_of_block h
theorem RK.c0 {w : World} {b : Nat} {n m : Int} (h : RK w b n m) : w.cell? ⟨b, 0, none⟩ = some (.int .i64 n) := by unfold RK at h; simp [World.cell?, h]
theorem RK.c1 {w : World} {b : Nat} {n m : Int} (h : RK w b n m) : w.cell? ⟨b, 1, none⟩ = some (.int .i64 m) := by unfold RK at h; simp [World.cell?, h]
theorem RK.fz {w : World} {b : Nat} {n m : Int} (h : RK w b n m) (i : Nat) : w.frozen? ⟨b, i, none⟩ = false := by unfold RK at h; simp [World.frozen?, h]
theorem RK.lt {w : World} {b : Nat} {n m : Int} (h : RK w b n m) : b < w.heap.size := lt_of_block h

/-- Now. -/
theorem now_any (b : Nat) (n m : Int) (w : World) (h : CK w b n m) :
    Calls Try.prog 14 #[.pointer (some ⟨b, 0, none⟩)] w fun e w' => e = .returned (.int .i64 n) ∧ w = w' := by
  have hc := h.c0
  clear h
  go_enter Try.func14, Try.ntmps14
  go_wp2_with (go_at_call 19; refine (load_any b 0 n _ hc).mono ?_; rintro e w' ⟨rfl, rfl⟩)
  go_ret
  exact ⟨rfl, rfl⟩


/-- A bound that may be. -/
def clamp (most : Int) : Int := min (max most 0) 1099511627776
theorem clamp_lo (most : Int) : 0 ≤ clamp most := by unfold clamp; omega
theorem clamp_hi (most : Int) : clamp most ≤ 1099511627776 := by unfold clamp; omega
theorem cells_of {a b : Int} (w : World) (t : TypeId) (h : a = b) : w.alloc (.cells #[.int .i64 0, .int .i64 a] t) = w.alloc (.cells #[.int .i64 0, .int .i64 b] t) := by rw [h]

/-- New. -/
theorem new_any (most : Int) (w : World) :
    Calls Try.prog 10 #[.int .i64 most] w fun e w' => e = .returned (.pointer (some ⟨w.heap.size, 0, none⟩)) ∧ w' = w.alloc (.cells #[.int .i64 0, .int .i64 (clamp most)] 41) := by
  go_enter Try.func10, Try.ntmps10
  go_wp2
  all_goals
    go_ret
    exact ⟨rfl, cells_of _ _ (by unfold clamp; omega)⟩
theorem rnew_any (most : Int) (w : World) :
    Calls Try.prog 11 #[.int .i64 most] w fun e w' => e = .returned (.pointer (some ⟨w.heap.size, 0, none⟩)) ∧ w' = w.alloc (.cells #[.int .i64 0, .int .i64 (clamp most)] 43) := by
  go_enter Try.func11, Try.ntmps11
  go_wp2
  all_goals
    go_ret
    exact ⟨rfl, cells_of _ _ (by unfold clamp; omega)⟩

theorem CK.new (w : World) (m : Int) : CK (w.alloc (.cells #[.int .i64 0, .int .i64 m] 41)) w.heap.size 0 m := heap_alloc_new w _
theorem RK.new (w : World) (m : Int) : RK (w.alloc (.cells #[.int .i64 0, .int .i64 m] 43)) w.heap.size 0 m := heap_alloc_new w _
theorem CK.drewN {w : World} {b : Nat} {n m : Int} (h : CK w b n m) (q : Nat) : CK (w.drewN q) b n m := h
theorem RK.drewN {w : World} {b : Nat} {n m : Int} (h : RK w b n m) (q : Nat) : RK (w.drewN q) b n m := h
theorem CK.alloc {w : World} {b : Nat} {n m : Int} (h : CK w b n m) (o : Obj) : CK (w.alloc o) b n m := (Below.heap_alloc w o b h.lt).trans h
theorem RK.alloc {w : World} {b : Nat} {n m : Int} (h : RK w b n m) (o : Obj) : RK (w.alloc o) b n m := (Below.heap_alloc w o b h.lt).trans h
theorem CK.grown {w w' : World} {b c : Nat} {n m : Int} (h : CK w b n m) (g : w.grownBy w' (some c)) (hne : b ≠ c) : CK w' b n m := (g.block b h.lt (fun e => hne (by injection e))).trans h
theorem RK.grown {w w' : World} {b c : Nat} {n m : Int} (h : RK w b n m) (g : w.grownBy w' (some c)) (hne : b ≠ c) : RK w' b n m := (g.block b h.lt (fun e => hne (by injection e))).trans h
theorem CK.ne_ {w : World} {b c : Nat} {n m n' m' : Int} (h : CK w b n m) (k : RK w c n' m') : b ≠ c := by
  rintro rfl
  unfold CK at h; unfold RK at k
  rw [h] at k
  simp at k
theorem CK.set0 {w : World} {b : Nat} {n m : Int} (h : CK w b n m) (x : Int) : CK (w.setCell ⟨b, 0, none⟩ (.int .i64 x)) b x m := by
  unfold CK at h ⊢
  simp [World.setCell, Array.getElem?_modify, h]
theorem RK.set0 {w : World} {b : Nat} {n m : Int} (h : RK w b n m) (x : Int) : RK (w.setCell ⟨b, 0, none⟩ (.int .i64 x)) b x m := by
  unfold RK at h ⊢
  simp [World.setCell, Array.getElem?_modify, h]
theorem only_set (w : World) (b : Nat) (v : Value) (q : Nat) : w.grownBy ((w.setCell ⟨b, 0, none⟩ v).drewN q) (some b) :=
  ⟨rfl, rfl, rfl, by simp [World.setCell, World.drewN], fun i _ hne => Below.heap_setCell w ⟨b, 0, none⟩ v i (fun e => hne (by rw [e]))⟩
theorem only_drawn (w : World) (b : Option Nat) (q : Nat) : w.grownBy (w.drewN q) b := ⟨rfl, rfl, rfl, Nat.le_refl _, fun _ _ _ => rfl⟩

/-- May. -/
theorem may_guard (b : Nat) (n m k : Int) (w : World) (h : CK w b n m) (hk : 0 ≤ k) (hm0 : 0 ≤ n) (hm1 : n ≤ m) (hm2 : m ≤ 1099511627776) :
    Calls Try.prog 16 #[.pointer (some ⟨b, 0, none⟩), .int .i64 k] w fun e w' => e = .returned (.bool (decide (k ≤ m - n))) ∧ ∃ q, w' = w.drewN q := by
  have hc := h.c1
  have H := Lib.hid h
  clear h
  go_enter Try.func16, Try.ntmps16
  go_wp2_with fail
  go_quiet ((go_at_call 14; exact Calls.quiet_of_same ((now_any b n m _ (H.out.drewN _)).mono fun _ _ ⟨he, hw⟩ => ⟨he, hw.symm⟩)))
  go_wp2
  go_ret
  exact ⟨rfl, _, rfl⟩
theorem may_neg (b : Nat) (k : Int) (w : World) (hk : k < 0) :
    Calls Try.prog 16 #[.pointer (some ⟨b, 0, none⟩), .int .i64 k] w fun e w' => e = .returned (.bool false) ∧ ∃ q, w' = w.drewN q := by
  have hd : decide (0 ≤ k) = false := by simp; omega
  go_enter Try.func16, Try.ntmps16
  go_wp2_with fail
  go_quiet (fail)
  go_wp2
  go_ret
  exact ⟨rfl, _, rfl⟩
theorem may_yes (b : Nat) (n m k : Int) (w : World) (h : CK w b n m) (hk : 0 ≤ k) (hm0 : 0 ≤ n) (hm2 : m ≤ 1099511627776) (hle : k ≤ m - n) :
    Calls Try.prog 16 #[.pointer (some ⟨b, 0, none⟩), .int .i64 k] w fun e w' => e = .returned (.bool true) ∧ ∃ q, w' = w.drewN q := by
  refine (may_guard b n m k w h hk hm0 (by omega) hm2).mono ?_
  rintro e w' ⟨rfl, hw⟩
  exact ⟨by rw [decide_eq_true hle], hw⟩
theorem may_no (b : Nat) (n m k : Int) (w : World) (h : CK w b n m) (hm0 : 0 ≤ n) (hm1 : n ≤ m) (hm2 : m ≤ 1099511627776) (hle : k < 0 ∨ m - n < k) :
    Calls Try.prog 16 #[.pointer (some ⟨b, 0, none⟩), .int .i64 k] w fun e w' => e = .returned (.bool false) ∧ ∃ q, w' = w.drewN q := by
  by_cases hk : k < 0
  · exact may_neg b k w hk
  · refine (may_guard b n m k w h (by omega) hm0 hm1 hm2).mono ?_
    rintro e w' ⟨rfl, hw⟩
    exact ⟨by rw [decide_eq_false (by omega)], hw⟩

/-- Tick. -/
theorem tick_yes (b : Nat) (n m : Int) (w : World) (h : CK w b n m) (hm0 : 0 ≤ n) (hm1 : n < m) (hm2 : m ≤ 1099511627776) :
    Calls Try.prog 12 #[.pointer (some ⟨b, 0, none⟩)] w fun e w' => e = .returned (.tuple #[.int .i64 (n + 1), .bool true]) ∧ CK w' b (n + 1) m ∧ w.grownBy w' (some b) := by
  have H := Lib.hid h
  clear h
  go_enter Try.func12, Try.ntmps12
  go_wp2_with (first
    | (go_at_call 16; refine (may_yes b n m 1 _ H.out (by omega) hm0 hm2 (by omega)).mono ?_; rintro e w' ⟨rfl, q, rfl⟩)
    | (go_at_call 18; refine (add_any b 0 n 1 _ (H.out.drewN _).c0 ((H.out.drewN _).fz 0) (by omega) (by omega)).mono ?_; rintro e w' ⟨rfl, rfl⟩))
  go_ret2
  exact ⟨rfl, H.out.set0 _, only_set _ _ _ _⟩
theorem tick_no (b : Nat) (m : Int) (w : World) (h : CK w b m m) (hm0 : 0 ≤ m) (hm2 : m ≤ 1099511627776) :
    Calls Try.prog 12 #[.pointer (some ⟨b, 0, none⟩)] w fun e w' => e = .returned (.tuple #[.int .i64 0, .bool false]) ∧ CK w' b m m ∧ w.grownBy w' (some b) := by
  have H := Lib.hid h
  clear h
  go_enter Try.func12, Try.ntmps12
  go_wp2_with (go_at_call 16; refine (may_no b m m 1 _ H.out hm0 (by omega) hm2 (by omega)).mono ?_; rintro e w' ⟨rfl, q, rfl⟩)
  go_ret2
  exact ⟨rfl, H.out.drewN _, only_drawn _ _ _⟩

end Go.Proofs.Ytfiijlnmgkkhmaa
