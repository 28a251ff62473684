/-
  PROVED: middenheaplaw12.ClockFar returns true for every int; nothing that was there is written. No condition.
  THE SHELL OF A PROOF OF 'Rows.ClockFarSaid' ('middenheap/middenheaplaw12.ClockFar'), WRITTEN BY PROGRAM (proof-skeleton.mjs) off the guide's own print for that function. Not trusted: Lean checks it.
  YOURS ARE THE HOLES MARKED 'HOLE' (each bears 'sorry'). ALL ELSE IS THE GUIDE's TEMPLATE (howto/template/XProofs.lean) at this function's number and types: leave it.
-/
import Derived.Test.YtfiijlnmgkkhmaaRows
import Derived.WalkKit
import Derived.ProofKit
import Derived.OpenShut
import Derived.Below
import Derived.Test.YtfiijlnmgkkhmaaClock
import Derived.Test.YtfiijlnmgkkhmaaAwake
namespace Go.Proofs.Ytfiijlnmgkkhmaa.clockFar
open Go.ChangeShapes Go.WideShapes Go.ChangeAt Go.RowKit
set_option linter.unusedVariables false      -- a walk need not use every 'w<i>' (that an integer argument fits its kind)

theorem own : ownKnob Try.prog.godebug = none := by kernel_rfl

/-! ### THE WALK -/
theorem may_t2 (b c : Nat) (n m k p q : Int) (w : World) (h : CK w b n m) (h2 : CK w c p q) (hk : 0 ≤ k) (hm0 : 0 ≤ n) (hm2 : m ≤ 1099511627776) (hle : k ≤ m - n) :
    Calls Try.prog 16 #[.pointer (some ⟨b, 0, none⟩), .int .i64 k] w fun e w' => e = .returned (.bool true) ∧ CK w' b n m ∧ CK w' c p q ∧ w.grownBy w' (some b) :=
  (may_yes b n m k w h hk hm0 hm2 hle).mono fun _ _ ⟨he, q, hw⟩ => ⟨he, by rw [hw]; exact h, by rw [hw]; exact h2, by rw [hw]; exact only_drawn _ _ _⟩
theorem may_f2 (b c : Nat) (n m k p q : Int) (w : World) (h : CK w b n m) (h2 : CK w c p q) (hm0 : 0 ≤ n) (hm1 : n ≤ m) (hm2 : m ≤ 1099511627776) (hle : k < 0 ∨ m - n < k) :
    Calls Try.prog 16 #[.pointer (some ⟨b, 0, none⟩), .int .i64 k] w fun e w' => e = .returned (.bool false) ∧ CK w' b n m ∧ CK w' c p q ∧ w.grownBy w' (some b) :=
  (may_no b n m k w h hm0 hm1 hm2 hle).mono fun _ _ ⟨he, q, hw⟩ => ⟨he, by rw [hw]; exact h, by rw [hw]; exact h2, by rw [hw]; exact only_drawn _ _ _⟩
theorem new_t2 (A : Nat) (most n m : Int) (w : World) (h : CK w A n m) :
    Calls Try.prog 10 #[.int .i64 most] w fun e w' => ∃ B, e = .returned (.pointer (some ⟨B, 0, none⟩)) ∧ A < B ∧ B = w.heap.size ∧ CK w' A n m ∧ CK w' B 0 (clamp most) ∧ Below w.heap.size w w' :=
  (new_t most w).mono fun _ _ ⟨he, hc, hb⟩ => ⟨_, he, h.lt, rfl, (hb.block A h.lt).trans h, hc, hb⟩
theorem new_t1 (most : Int) (w : World) :
    Calls Try.prog 10 #[.int .i64 most] w fun e w' => ∃ A, e = .returned (.pointer (some ⟨A, 0, none⟩)) ∧ A = w.heap.size ∧ CK w' A 0 (clamp most) ∧ Below w.heap.size w w' :=
  (new_t most w).mono fun _ _ ⟨he, hc, hb⟩ => ⟨_, he, rfl, hc, hb⟩

set_option maxHeartbeats 800000 in
theorem far_any (a0 m : Int) (w : World) (hcl : clamp a0 = m)
    (hcase : (a0 < 0 ∧ 0 ≤ m ∧ m ≤ 0) ∨ (1099511627776 < a0 ∧ 1099511627776 ≤ m ∧ m ≤ 1099511627776) ∨ (a0 = 0 ∧ 0 ≤ m ∧ m ≤ 0) ∨ (0 < a0 ∧ a0 ≤ 1099511627776 ∧ a0 ≤ m ∧ m ≤ a0 ∧ (a0 == 0) = false)) :
    Calls Try.prog 5 #[.int .i64 a0] w fun e w' => e = .returned (.bool true) ∧ Below w.heap.size w w' := by
  have HC := Lib.hid hcl
  clear hcl
  rcases hcase with ⟨h1, h2, h3⟩ | ⟨h1, h2, h3⟩ | ⟨rfl, h2, h3⟩ | ⟨h1, h2, h3, h4, h5⟩
  all_goals
    go_enter Try.func5, Try.ntmps5
    go_wp2_with (first
      | (go_at_call 8; refine (awake_any _).mono ?_; rintro e wa ⟨rfl, hb⟩; have tok : True := trivial)
      | (go_at_call 10; have _t := tok; refine (new_t1 _ _).mono ?_; rw [HC.out]; rintro e wb ⟨A, rfl, hA, hca, hg⟩; clear tok; have hbb := hb.trans (hg.mono hb.size); have hwa : w.heap.size ≤ A := by rw [hA]; exact hb.size
         clear hA hb hg)
      | (go_at_call 10; refine (new_t2 A _ _ _ _ hca).mono ?_; rw [HC.out]; rintro e wc ⟨B, rfl, hAB, hB, hca2, hcb, hg⟩; have hbc := hbb.trans (hg.mono hbb.size); clear hB hbb hg)
      | (go_at_call 12; refine (tick_yes A _ _ _ (by assumption) (by omega) (by omega) (by omega)).mono ?_; rintro e w1 ⟨rfl, hc, hg⟩; have hd := hcb.grown hg (by omega); have hb := bstep (by assumption) hg (by omega))
      | (go_at_call 12; refine (tick_any_no A _ _ _ (by assumption) (by omega) (by omega) (by omega)).mono ?_; rintro e w1 ⟨rfl, hc, hg⟩; have hd := hcb.grown hg (by omega); have hb := bstep (by assumption) hg (by omega))
      | (go_at_call 14; refine (now_any B _ _ _ (by assumption)).mono ?_; rintro e w' ⟨rfl, rfl⟩)
      | (go_at_call 16; with_reducible refine (may_t2 B A _ _ _ _ _ _ (by assumption) (by assumption) (by omega) (by omega) (by omega) (by omega)).mono ?_; rintro e w1 ⟨rfl, hc, hd, hg⟩; have hb := bstep (by assumption) hg (by omega))
      | (go_at_call 16; with_reducible refine (may_f2 B A _ _ _ _ _ _ (by assumption) (by assumption) (by omega) (by omega) (by omega) (by omega)).mono ?_; rintro e w1 ⟨rfl, hc, hd, hg⟩; have hb := bstep (by assumption) hg (by omega))
      | (go_at_call 16; with_reducible refine (may_t2 A B _ _ _ _ _ _ (by assumption) (by assumption) (by omega) (by omega) (by omega) (by omega)).mono ?_; rintro e w1 ⟨rfl, hc, hd, hg⟩; have hb := bstep (by assumption) hg (by omega))
      | (go_at_call 16; with_reducible refine (may_f2 A B _ _ _ _ _ _ (by assumption) (by assumption) (by omega) (by omega) (by omega) (by omega)).mono ?_; rintro e w1 ⟨rfl, hc, hd, hg⟩; have hb := bstep (by assumption) hg (by omega)))
    go_ret
    exact ⟨rfl, by assumption⟩

theorem walk (a0 : Int) (w0 : (Lit.int .i64 a0).wf = true) (w : World) :
    Calls Try.prog 5 #[.int .i64 a0] w fun e w' => e = .returned (.bool true) ∧ Below w.heap.size w w' :=
  far_any a0 _ w rfl (by
    have e : 0 < a0 → (a0 == 0) = false := fun h => by simp; omega
    unfold clamp
    by_cases h : 0 < a0
    · by_cases h2 : a0 ≤ 1099511627776
      · exact .inr (.inr (.inr ⟨h, h2, by omega, by omega, e h⟩))
      · exact .inr (.inl ⟨by omega, by omega, by omega⟩)
    · omega)

/-! ### THE ROW's STEP: WRITTEN OUT: LEAVE IT -/
set_option maxRecDepth 100000 in
theorem lifted (os : Os) (started : os.Started) (H : Type) (enc : TypeId × Value → H) :
    ReturnsInHanded {} Try.checked os 5 .any (Rows.clockFarSpec.pre6 enc Try.prog Try.f5 Rows.clockFarRow.domain false) (Rows.clockFarSpec.post enc Try.prog Try.f5 false true false false) := by
  refine returnsInHanded_of_change (C := Try.checked) own started (by kernel_rfl) Try.func5
    (ChangeSpec.witness6 (enc := enc) (C := Try.checked) false ⟨#[], #[.int .i64 0], []⟩ 8 (by kernel_rfl) (by kernel_rfl) (by kernel_rfl) (by kernel_rfl)) ?_
  intro W base args ds gs before hval0 hW hcnd _
  have hval : ∀ (j : Nat) t v, Try.f5.params[j]? = some t → args[j]? = some v → Value.okWide Try.prog W .any base t v := hval0
  have hW' := hW
  obtain ⟨p, q, hA0, hV, rfl, hfz, hnd⟩ := hW
  have hA : DataW.TrodAll enc Try.prog W 0 (fun _ => true) true Try.f5.params.toList args.toList ds p := hA0
  rw [Try.params5] at hA hval
  obtain ⟨v0, vs0, d0, ds0, p0, q0, hargs, rfl, rfl, h0, r0⟩ := trodAll_cons hA
  obtain ⟨rfl, rfl, rfl⟩ := trodAll_nil r0
  obtain rfl : args = #[v0] := by cases args; simp_all
  obtain ⟨rfl, rfl⟩ := trodVars_none hV
  obtain ⟨a0, rfl, rfl, rfl, w0⟩ := open_int Try.underlying3 (hval 0 3 v0 rfl rfl) h0
  clear hA0 hval0
  simp only [List.append_nil] at hW'
  refine (walk a0 w0 W).mono fun e W' ⟨he, hg⟩ => ?_
  subst he
  exact ⟨_, rfl, _, _, _, [], [], [], hW', (trodAll_cons_mk (shut_bool Try.underlying4 _) trodAll_mk0), (trodAll_cons_mk (shut_int Try.underlying3 w0) trodAll_mk0), rfl, hg.frame _, fun h => by cases h⟩

theorem over : Rows.clockFarRow.holds Try.pinned (OpenSpec.ofChange Rows.clockFarSpec) :=
  OpenClaim.holds_of_wide 5 Try.f5 rfl rfl rfl rfl rfl rfl rfl ⟨rfl, rfl, rfl, rfl, rfl⟩ rfl rfl rfl rfl rfl (by kernel_rfl) Try.func5 (by kernel_rfl)
    (of_decide_eq_true (by kernel_rfl)) (by unfold Func.isWrapper; first | (rw [if_pos (by decide +kernel)]; kernel_rfl) | (rw [if_neg (by decide +kernel)]; exact ⟨rfl, rfl⟩))
    (fun os started H enc _ => lifted os started H enc)

/-- ████ THE STATEMENT ████ -/
theorem proved : Rows.ClockFarSaid :=
  over
#print axioms proved
end Go.Proofs.Ytfiijlnmgkkhmaa.clockFar
