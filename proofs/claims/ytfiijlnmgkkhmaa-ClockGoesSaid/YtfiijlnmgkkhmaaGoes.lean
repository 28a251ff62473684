/-
  PROVED: middenheaplaw12.ClockGoes returns true for every two ints; nothing that was there is written. No condition.
  THE SHELL OF A PROOF OF 'Rows.ClockGoesSaid' ('middenheap/middenheaplaw12.ClockGoes'), WRITTEN BY PROGRAM (proof-skeleton.mjs) off the guide's own print for that function. Not trusted: Lean checks it.
  YOURS ARE THE HOLES MARKED 'HOLE' (each bears 'sorry'). ALL ELSE IS THE GUIDE's TEMPLATE (howto/template/XProofs.lean) at this function's number and types: leave it.
-/
import Derived.Test.YtfiijlnmgkkhmaaRows
import Derived.WalkKit
import Derived.ProofKit
import Derived.OpenShut
import Derived.Below
import Derived.Test.YtfiijlnmgkkhmaaClock
import Derived.Test.YtfiijlnmgkkhmaaAwake
namespace Go.Proofs.Ytfiijlnmgkkhmaa.clockGoes
open Go.ChangeShapes Go.WideShapes Go.ChangeAt Go.RowKit
set_option linter.unusedVariables false      -- a walk need not use every 'w<i>' (that an integer argument fits its kind)

theorem own : ownKnob Try.prog.godebug = none := by kernel_rfl

/-! ### THE WALK -/
theorem goes_round (b : Nat) (i m n : Int) (w : World) (h : CK w b i m) (hn0 : 0 ≤ n) (h0 : 0 ≤ i) (h1 : i ≤ m) (h2 : m ≤ 1099511627776) :
    Calls Try.prog 16 #[.pointer (some ⟨b, 0, none⟩), .int .i64 n] w fun e w' => e = .returned (.bool (decide (n ≤ m - i))) ∧ CK w' b i m ∧ w.grownBy w' (some b) :=
  (may_guard b i m n w h hn0 h0 h1 h2).mono fun _ _ ⟨he, q, hw⟩ => ⟨he, by rw [hw]; exact h, by rw [hw]; exact only_drawn _ _ _⟩

set_option maxHeartbeats 400000 in
theorem walk (a0 : Int) (a1 : Int) (w0 : (Lit.int .i64 a0).wf = true) (w1 : (Lit.int .i64 a1).wf = true) (w : World) :
    Calls Try.prog 4 #[.int .i64 a0, .int .i64 a1] w fun e w' => e = .returned (.bool true) ∧ Below w.heap.size w w' := by
  obtain ⟨hl0, hh0⟩ := bounds_i64 w0
  obtain ⟨hl1, hh1⟩ := bounds_i64 w1
  clear w0 w1
  have pm0 := pickZ_lo a0 201 (by omega)
  have pm1 := pickZ_hi a0 201 (by omega)
  have pn0 := pickZ_lo a1 300 (by omega)
  have pn1 := pickZ_hi a1 300 (by omega)
  obtain ⟨m, hm⟩ : ∃ m, m = pickZ a0 201 := ⟨_, rfl⟩
  have hcl : clamp m = m := by unfold clamp; omega
  have HC := Lib.hid hcl
  clear hcl
  have HM := Lib.hid hm
  rw [← hm] at pm0 pm1
  clear hm
  go_enter Try.func4, Try.ntmps4
  go_wp2_with (first
    | (go_at_call 8; refine (awake_any _).mono ?_; rintro e wa ⟨rfl, hb⟩)
    | (go_at_call 9; refine (pick_any _ _ _ hl0 hh0 (by omega) (by omega)).mono ?_; rintro e w' ⟨rfl, rfl⟩; rw [← HM.out])
    | (go_at_call 10; refine (new_t _ _).mono ?_; rw [HC.out]; rintro e wb ⟨rfl, hc, hg⟩))
  have hbb : Below w.heap.size w wb := hb.trans (hg.mono hb.size)
  have hsz : w.heap.size ≤ wa.heap.size := hb.size
  clear hb hg
  go_loopw [8] (fun i wr => ∃ k : Nat, (k : Int) ≤ m ∧ i = .int .i64 k ∧ CK wr wa.heap.size k m ∧ Below w.heap.size w wr) (fun i _ => (m - intOf i).toNat)
  case atStart => exact ⟨0, by omega, rfl, hc, hbb⟩
  case round =>
    clear hc hbb
    obtain ⟨k, hk, rfl, hc, hb⟩ := hrel
    by_cases hlt : (k : Int) < m
    · go_wp2_with (first
        | (go_at_call 14; refine (now_any _ _ _ _ (by assumption)).mono ?_; rintro e w' ⟨rfl, rfl⟩)
        | (go_at_call 9; refine (pick_any _ _ _ hl1 hh1 (by omega) (by omega)).mono ?_; rintro e w' ⟨rfl, rfl⟩)
        | (go_at_call 16; refine (goes_round _ _ _ _ _ (by assumption) (by omega) (by omega) (by omega) (by omega)).mono ?_; rintro e w1 ⟨rfl, hc, hg⟩; have hb := bstep (by assumption) hg (by omega))
        | (go_at_call 12; refine (tick_yes _ _ _ _ (by assumption) (by omega) (by omega) (by omega)).mono ?_; rintro e w1 ⟨rfl, hc, hg⟩; have hb := bstep (by assumption) hg (by omega)))
      go_roundw
      case rel => exact ⟨k + 1, by omega, by go_num, by assumption, by assumption⟩
      case measure => simp [intOf]; omega
    · obtain rfl : (k : Int) = m := by omega
      go_wp2_with (first
        | (go_at_call 14; refine (now_any _ _ _ _ (by assumption)).mono ?_; rintro e w' ⟨rfl, rfl⟩)
        | (go_at_call 16; refine (may_t _ _ _ _ _ (by assumption) (by omega) (by omega) (by omega) (by omega)).mono ?_; rintro e w1 ⟨rfl, hc, hg⟩; have hb := bstep (by assumption) hg (by omega))
        | (go_at_call 16; refine (may_f _ _ _ _ _ (by assumption) (by omega) (by omega) (by omega) (by omega)).mono ?_; rintro e w1 ⟨rfl, hc, hg⟩; have hb := bstep (by assumption) hg (by omega))
        | (go_at_call 12; refine (tick_no _ _ _ (by assumption) (by omega) (by omega)).mono ?_; rintro e w1 ⟨rfl, hc, hg⟩; have hb := bstep (by assumption) hg (by omega)))
      go_ret
      exact ⟨rfl, by assumption⟩

/-! ### THE ROW's STEP: WRITTEN OUT: LEAVE IT -/
set_option maxRecDepth 100000 in
theorem lifted (os : Os) (started : os.Started) (H : Type) (enc : TypeId × Value → H) :
    ReturnsInHanded {} Try.checked os 4 .any (Rows.clockGoesSpec.pre6 enc Try.prog Try.f4 Rows.clockGoesRow.domain false) (Rows.clockGoesSpec.post enc Try.prog Try.f4 false true false false) := by
  refine returnsInHanded_of_change (C := Try.checked) own started (by kernel_rfl) Try.func4
    (ChangeSpec.witness6 (enc := enc) (C := Try.checked) false ⟨#[], #[.int .i64 0, .int .i64 0], []⟩ 8 (by kernel_rfl) (by kernel_rfl) (by kernel_rfl) (by kernel_rfl)) ?_
  intro W base args ds gs before hval0 hW hcnd _
  have hval : ∀ (j : Nat) t v, Try.f4.params[j]? = some t → args[j]? = some v → Value.okWide Try.prog W .any base t v := hval0
  have hW' := hW
  obtain ⟨p, q, hA0, hV, rfl, hfz, hnd⟩ := hW
  have hA : DataW.TrodAll enc Try.prog W 0 (fun _ => true) true Try.f4.params.toList args.toList ds p := hA0
  rw [Try.params4] at hA hval
  obtain ⟨v0, vs0, d0, ds0, p0, q0, hargs, rfl, rfl, h0, r0⟩ := trodAll_cons hA
  obtain ⟨v1, vs1, d1, ds1, p1, q1, rfl, rfl, rfl, h1, r1⟩ := trodAll_cons r0
  obtain ⟨rfl, rfl, rfl⟩ := trodAll_nil r1
  obtain rfl : args = #[v0, v1] := by cases args; simp_all
  obtain ⟨rfl, rfl⟩ := trodVars_none hV
  obtain ⟨a0, rfl, rfl, rfl, w0⟩ := open_int Try.underlying3 (hval 0 3 v0 rfl rfl) h0
  obtain ⟨a1, rfl, rfl, rfl, w1⟩ := open_int Try.underlying3 (hval 1 3 v1 rfl rfl) h1
  clear hA0 hval0
  simp only [List.append_nil] at hW'
  refine (walk a0 a1 w0 w1 W).mono fun e W' ⟨he, hg⟩ => ?_
  subst he
  exact ⟨_, rfl, _, _, _, [], [], [], hW', (trodAll_cons_mk (shut_bool Try.underlying4 _) trodAll_mk0), (trodAll_cons_mk (shut_int Try.underlying3 w0) (trodAll_cons_mk (shut_int Try.underlying3 w1) trodAll_mk0)), rfl, hg.frame _, fun h => by cases h⟩

theorem over : Rows.clockGoesRow.holds Try.pinned (OpenSpec.ofChange Rows.clockGoesSpec) :=
  OpenClaim.holds_of_wide 4 Try.f4 rfl rfl rfl rfl rfl rfl rfl ⟨rfl, rfl, rfl, rfl, rfl⟩ rfl rfl rfl rfl rfl (by kernel_rfl) Try.func4 (by kernel_rfl)
    (of_decide_eq_true (by kernel_rfl)) (by unfold Func.isWrapper; first | (rw [if_pos (by decide +kernel)]; kernel_rfl) | (rw [if_neg (by decide +kernel)]; exact ⟨rfl, rfl⟩))
    (fun os started H enc _ => lifted os started H enc)

/-- ████ THE STATEMENT ████ -/
theorem proved : Rows.ClockGoesSaid :=
  over
#print axioms proved
end Go.Proofs.Ytfiijlnmgkkhmaa.clockGoes
