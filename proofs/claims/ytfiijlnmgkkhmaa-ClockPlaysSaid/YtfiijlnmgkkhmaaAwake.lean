/-
  PROVED: the contracts of the laws' own helpers (pick, awake) and of the reference's clock. No condition but the cells'.
-/
import Derived.Test.YtfiijlnmgkkhmaaClock
namespace Go.Proofs.Ytfiijlnmgkkhmaa
open Go.RowKit

/-- What pick answers. -/
def pickZ (c n : Int) : Int := (if c < 0 then -(c + 1) else c) % n
theorem pickZ_lo (c n : Int) (h : 0 < n) : 0 ≤ pickZ c n := Int.emod_nonneg _ (by omega)
theorem pickZ_hi (c n : Int) (h : 0 < n) : pickZ c n < n := Int.emod_lt_of_pos _ h
theorem ret_int {k : IntKind} {a b : Int} (h : a = b) : Ending.returned (.int k a) = .returned (.int k b) := by rw [h]
theorem pick_any (c n : Int) (w : World) (h1 : -9223372036854775808 ≤ c) (h2 : c ≤ 9223372036854775807) (hn : 0 < n) (hn2 : n ≤ 9223372036854775807) :
    Calls Try.prog 9 #[.int .i64 c, .int .i64 n] w fun e w' => e = .returned (.int .i64 (pickZ c n)) ∧ w = w' := by
  have hz : ¬ n = 0 := by omega
  by_cases hc : c < 0
  · go_enter Try.func9, Try.ntmps9
    go_wp2
    go_ret
    exact ⟨ret_int (by unfold pickZ; rw [if_pos hc]; rw [← Int.neg_tmod]; exact Int.tmod_eq_emod_of_nonneg (show (0 : Int) ≤ -(c + 1) by omega)), rfl⟩
  · go_enter Try.func9, Try.ntmps9
    go_wp2
    go_ret
    exact ⟨ret_int (by unfold pickZ; rw [if_neg (by omega)]), rfl⟩

/-- What a call leaves of the world: only block b, and new blocks, may have turned. -/
theorem bstep {w a a' : World} {b : Nat} (h : Below w.heap.size w a) (g : a.grownBy a' (some b)) (hb : w.heap.size ≤ b) : Below w.heap.size w a' :=
  h.grown g h.size (fun _ e => by injection e; omega)
theorem may_t (b : Nat) (n m k : Int) (w : World) (h : CK w b n m) (hk : 0 ≤ k) (hm0 : 0 ≤ n) (hm2 : m ≤ 1099511627776) (hle : k ≤ m - n) :
    Calls Try.prog 16 #[.pointer (some ⟨b, 0, none⟩), .int .i64 k] w fun e w' => e = .returned (.bool true) ∧ CK w' b n m ∧ w.grownBy w' (some b) :=
  (may_yes b n m k w h hk hm0 hm2 hle).mono fun _ _ ⟨he, q, hw⟩ => ⟨he, by rw [hw]; exact h, by rw [hw]; exact only_drawn _ _ _⟩
theorem may_f (b : Nat) (n m k : Int) (w : World) (h : CK w b n m) (hm0 : 0 ≤ n) (hm1 : n ≤ m) (hm2 : m ≤ 1099511627776) (hle : k < 0 ∨ m - n < k) :
    Calls Try.prog 16 #[.pointer (some ⟨b, 0, none⟩), .int .i64 k] w fun e w' => e = .returned (.bool false) ∧ CK w' b n m ∧ w.grownBy w' (some b) :=
  (may_no b n m k w h hm0 hm1 hm2 hle).mono fun _ _ ⟨he, q, hw⟩ => ⟨he, by rw [hw]; exact h, by rw [hw]; exact only_drawn _ _ _⟩
theorem new_t (most : Int) (w : World) :
    Calls Try.prog 10 #[.int .i64 most] w fun e w' => e = .returned (.pointer (some ⟨w.heap.size, 0, none⟩)) ∧ CK w' w.heap.size 0 (clamp most) ∧ Below w.heap.size w w' :=
  (new_any most w).mono fun _ _ ⟨he, hw⟩ => ⟨he, by rw [hw]; exact CK.new _ _, by rw [hw]; exact (Below.refl _ _).alloc (Nat.le_refl _) _⟩
theorem rnew_t (most : Int) (w : World) :
    Calls Try.prog 11 #[.int .i64 most] w fun e w' => e = .returned (.pointer (some ⟨w.heap.size, 0, none⟩)) ∧ RK w' w.heap.size 0 (clamp most) ∧ Below w.heap.size w w' :=
  (rnew_any most w).mono fun _ _ ⟨he, hw⟩ => ⟨he, by rw [hw]; exact RK.new _ _, by rw [hw]; exact (Below.refl _ _).alloc (Nat.le_refl _) _⟩

theorem tick_any_no (b : Nat) (n m : Int) (w : World) (h : CK w b n m) (hm0 : 0 ≤ n) (hm1 : n ≤ m ∧ m ≤ n) (hm2 : m ≤ 1099511627776) :
    Calls Try.prog 12 #[.pointer (some ⟨b, 0, none⟩)] w fun e w' => e = .returned (.tuple #[.int .i64 0, .bool false]) ∧ CK w' b n m ∧ w.grownBy w' (some b) := by
  obtain rfl : n = m := by omega
  exact tick_no b n w h hm0 hm2

set_option maxHeartbeats 400000 in
theorem awake_any (w : World) : Calls Try.prog 8 #[] w fun e w' => e = .returned (.bool true) ∧ Below w.heap.size w w' := by
  go_enter Try.func8, Try.ntmps8
  go_wp2_with (first
    | (go_at_call 10; refine (new_t _ _).mono ?_; rintro e w1 ⟨rfl, hc, hb⟩; have hc2 : CK w1 w.heap.size 0 2 := hc; clear hc)
    | (go_at_call 12; refine (tick_yes _ _ _ _ (by assumption) (by omega) (by omega) (by omega)).mono ?_; rintro e w1 ⟨rfl, hc, hg⟩; have hb := bstep (by assumption) hg (by omega))
    | (go_at_call 12; refine (tick_no _ _ _ (by assumption) (by omega) (by omega)).mono ?_; rintro e w1 ⟨rfl, hc, hg⟩; have hb := bstep (by assumption) hg (by omega))
    | (go_at_call 14; refine (now_any _ _ _ _ (by assumption)).mono ?_; rintro e w1 ⟨rfl, rfl⟩)
    | (go_at_call 16; refine (may_t _ _ _ _ _ (by assumption) (by omega) (by omega) (by omega) (by omega)).mono ?_; rintro e w1 ⟨rfl, hc, hg⟩; have hb := bstep (by assumption) hg (by omega))
    | (go_at_call 16; refine (may_f _ _ _ _ _ (by assumption) (by omega) (by omega) (by omega) (by omega)).mono ?_; rintro e w1 ⟨rfl, hc, hg⟩; have hb := bstep (by assumption) hg (by omega)))
  go_ret
  exact ⟨rfl, by assumption⟩

end Go.Proofs.Ytfiijlnmgkkhmaa
