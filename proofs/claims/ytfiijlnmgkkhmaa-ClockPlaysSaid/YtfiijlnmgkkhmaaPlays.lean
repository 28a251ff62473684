/-
  PROVED: middenheaplaw12.ClockPlays returns true for every three ints; nothing that was there is written. No condition.
  THE SHELL OF A PROOF OF 'Rows.ClockPlaysSaid' ('middenheap/middenheaplaw12.ClockPlays'), WRITTEN BY PROGRAM (proof-skeleton.mjs) off the guide's own print for that function. Not trusted: Lean checks it.
  YOURS ARE THE HOLES MARKED 'HOLE' (each bears 'sorry'). ALL ELSE IS THE GUIDE's TEMPLATE (howto/template/XProofs.lean) at this function's number and types: leave it.
-/
import Derived.Test.YtfiijlnmgkkhmaaRows
import Derived.WalkKit
import Derived.ProofKit
import Derived.OpenShut
import Derived.Below
import Derived.Test.YtfiijlnmgkkhmaaClock
import Derived.Test.YtfiijlnmgkkhmaaAwake
import Derived.Test.YtfiijlnmgkkhmaaBoth
namespace Go.Proofs.Ytfiijlnmgkkhmaa.clockPlays
open Go.ChangeShapes Go.WideShapes Go.ChangeAt Go.RowKit
set_option linter.unusedVariables false      -- a walk need not use every 'w<i>' (that an integer argument fits its kind)

theorem own : ownKnob Try.prog.godebug = none := by kernel_rfl

/-! ### THE WALK -/
theorem sl_at {w : World} {s : Nat} {a q : Int} (h : SL w s a q) (j : Nat) (hj : j < 2) : ∃ x, w.cell? ⟨s, j, none⟩ = some (.int .i64 x) := by
  rcases (show j = 0 ∨ j = 1 by omega) with rfl | rfl
  · exact ⟨_, h.c0⟩
  · exact ⟨_, h.c1⟩
set_option maxRecDepth 100000 in
set_option maxHeartbeats 1600000 in
theorem walk (a0 : Int) (a1 : Int) (a2 : Int) (w0 : (Lit.int .i64 a0).wf = true) (w1 : (Lit.int .i64 a1).wf = true) (w2 : (Lit.int .i64 a2).wf = true) (w : World) :
    Calls Try.prog 3 #[.int .i64 a0, .int .i64 a1, .int .i64 a2] w fun e w' => e = .returned (.bool true) ∧ Below w.heap.size w w' := by
  obtain ⟨hl0, hh0⟩ := bounds_i64 w0
  obtain ⟨hl1, hh1⟩ := bounds_i64 w1
  clear w0 w1 w2
  have pt0 := pickZ_lo a1 60 (by omega)
  have pt1 := pickZ_hi a1 60 (by omega)
  obtain ⟨t, ht⟩ : ∃ t, t = pickZ a1 60 := ⟨_, rfl⟩
  obtain ⟨q, hq⟩ : ∃ q, q = pickZ a0 50 := ⟨_, rfl⟩
  have HT := Lib.hid ht
  have HQ := Lib.hid hq
  rw [← ht] at pt0 pt1
  clear ht hq
  go_enter Try.func3, Try.ntmps3
  go_wp2_with (first
    | (go_at_call 8; refine (awake_any _).mono ?_; rintro e wa ⟨rfl, hb⟩)
    | (go_at_call 9; refine (pick_any _ _ _ hl0 hh0 (by omega) (by omega)).mono ?_; rintro e w' ⟨rfl, rfl⟩; rw [← HQ.out]))
  have hsl : SL (wa.alloc (.cells #[.int .i64 a0, .int .i64 q] 3)) wa.heap.size a0 q := heap_alloc_new wa _
  have hbl : Below w.heap.size w (wa.alloc (.cells #[.int .i64 a0, .int .i64 q] 3)) := hb.alloc hb.size _
  clear hb
  obtain ⟨S, hS⟩ : ∃ S, S = wa.heap.size := ⟨_, rfl⟩
  rw [← hS] at hsl ⊢
  clear hS
  go_loopw [23] (fun i wr => ∃ k : Nat, k ≤ 2 ∧ i = .int .i64 k ∧ SL wr S a0 q ∧ Below w.heap.size w wr) (fun i _ => (2 - intOf i).toNat)
  case atStart => exact ⟨0, by omega, rfl, hsl, hbl⟩
  case round =>
    clear hsl hbl
    obtain ⟨j, hj, rfl, hs, hb⟩ := hrel
    by_cases hlt : j < 2
    · obtain ⟨x, hx⟩ := sl_at hs j hlt
      obtain ⟨c, hc⟩ : ∃ c, c = clamp x := ⟨_, rfl⟩
      have hc0 : 0 ≤ c := by rw [hc]; exact clamp_lo x
      have hc1 : c ≤ 1099511627776 := by rw [hc]; exact clamp_hi x
      have HC := Lib.hid hc
      clear hc
      obtain ⟨wo, rfl⟩ : ∃ wo : World, wo = wr := ⟨_, rfl⟩
      go_wp2_with (first
        | (go_at_call 10; refine (newA _ _ _ _ _ _ hs hb).mono ?_; rw [← HC.out]; rintro e wb ⟨A, rfl, hs2, hb2, hA, hA2, hcA⟩)
        | (go_at_call 11; refine (newB _ _ _ _ A _ _ hs2 hb2 hA (by rw [← HC.out]; exact hcA)).mono ?_; rw [← HC.out]; rintro e wc ⟨B, rfl, hst⟩))
      go_loopw [12] (fun i wr => ∃ (k : Nat) (p : Int), (k : Int) ≤ t ∧ i = .int .i64 k ∧ 0 ≤ p ∧ p ≤ c ∧ St w wr S A B a0 q p p c) (fun i _ => (t - intOf i).toNat)
      case atStart => exact ⟨0, 0, by omega, rfl, by omega, by omega, hst⟩
      case round =>
        clear hst hs hb hx hs2 hb2 hcA
        obtain ⟨k, p, hk, rfl, hp0, hp1, hst⟩ := hrel
        by_cases hlt2 : (k : Int) < t
        · by_cases hpc : p < c
          all_goals
            go_wp2_with (first
              | (go_at_call 9; (with_reducible refine (pick_any _ _ _ hl1 hh1 (by omega) (by omega)).mono ?_); rw [← HT.out]; rintro e w' ⟨rfl, rfl⟩)
              | (go_at_call 12; refine (tickA_yes hst (by omega) (by omega) (by omega)).mono ?_; clear hst; rintro e w1 ⟨rfl, hst⟩)
              | (go_at_call 12; refine (tickA_no hst (by omega) (by omega) (by omega)).mono ?_; clear hst; rintro e w1 ⟨rfl, hst⟩)
              | (go_at_call 13; refine (tickB_yes hst (by omega) (by omega) (by omega)).mono ?_; clear hst; rintro e w1 ⟨rfl, hst⟩)
              | (go_at_call 13; refine (tickB_no hst (by omega)).mono ?_; clear hst; rintro e w1 ⟨rfl, hst⟩)
              | (go_at_call 14; refine (nowA hst).mono ?_; rintro e w1 ⟨rfl, rfl⟩)
              | (go_at_call 15; refine (nowB hst).mono ?_; rintro e w1 ⟨rfl, rfl⟩)
              | (go_at_call 16; refine (mayA _ hst (by omega) (by omega) (by omega)).mono ?_; clear hst; rintro e w1 ⟨rfl, hst⟩)
              | (go_at_call 17; refine (mayBB _ hst (by omega) (by omega) (by omega)).mono ?_; clear hst; rintro e w1 ⟨rfl, hst⟩))
            go_roundw
            case rel => first | exact ⟨k + 1, p + 1, by omega, by go_num, by omega, by omega, by assumption⟩ | exact ⟨k + 1, p, by omega, by go_num, by omega, by omega, by assumption⟩
            case measure => simp [intOf]; omega
        · go_wp2_with (go_at_call 9; (with_reducible refine (pick_any _ _ _ hl1 hh1 (by omega) (by omega)).mono ?_); rw [← HT.out]; rintro e w' ⟨rfl, rfl⟩)
          go_roundw
          case rel => exact ⟨j + 1, by omega, by go_num, hst.sl, hst.bel⟩
          case measure => simp [intOf]; omega
    · obtain rfl : j = 2 := by omega
      go_wp2
      go_ret
      exact ⟨rfl, hb⟩

/-! ### THE ROW's STEP: WRITTEN OUT: LEAVE IT -/
set_option maxRecDepth 100000 in
theorem lifted (os : Os) (started : os.Started) (H : Type) (enc : TypeId × Value → H) :
    ReturnsInHanded {} Try.checked os 3 .any (Rows.clockPlaysSpec.pre6 enc Try.prog Try.f3 Rows.clockPlaysRow.domain false) (Rows.clockPlaysSpec.post enc Try.prog Try.f3 false true false false) := by
  refine returnsInHanded_of_change (C := Try.checked) own started (by kernel_rfl) Try.func3
    (ChangeSpec.witness6 (enc := enc) (C := Try.checked) false ⟨#[], #[.int .i64 0, .int .i64 0, .int .i64 0], []⟩ 8 (by kernel_rfl) (by kernel_rfl) (by kernel_rfl) (by kernel_rfl)) ?_
  intro W base args ds gs before hval0 hW hcnd _
  have hval : ∀ (j : Nat) t v, Try.f3.params[j]? = some t → args[j]? = some v → Value.okWide Try.prog W .any base t v := hval0
  have hW' := hW
  obtain ⟨p, q, hA0, hV, rfl, hfz, hnd⟩ := hW
  have hA : DataW.TrodAll enc Try.prog W 0 (fun _ => true) true Try.f3.params.toList args.toList ds p := hA0
  rw [Try.params3] at hA hval
  obtain ⟨v0, vs0, d0, ds0, p0, q0, hargs, rfl, rfl, h0, r0⟩ := trodAll_cons hA
  obtain ⟨v1, vs1, d1, ds1, p1, q1, rfl, rfl, rfl, h1, r1⟩ := trodAll_cons r0
  obtain ⟨v2, vs2, d2, ds2, p2, q2, rfl, rfl, rfl, h2, r2⟩ := trodAll_cons r1
  obtain ⟨rfl, rfl, rfl⟩ := trodAll_nil r2
  obtain rfl : args = #[v0, v1, v2] := by cases args; simp_all
  obtain ⟨rfl, rfl⟩ := trodVars_none hV
  obtain ⟨a0, rfl, rfl, rfl, w0⟩ := open_int Try.underlying3 (hval 0 3 v0 rfl rfl) h0
  obtain ⟨a1, rfl, rfl, rfl, w1⟩ := open_int Try.underlying3 (hval 1 3 v1 rfl rfl) h1
  obtain ⟨a2, rfl, rfl, rfl, w2⟩ := open_int Try.underlying3 (hval 2 3 v2 rfl rfl) h2
  clear hA0 hval0
  simp only [List.append_nil] at hW'
  refine (walk a0 a1 a2 w0 w1 w2 W).mono fun e W' ⟨he, hg⟩ => ?_
  subst he
  exact ⟨_, rfl, _, _, _, [], [], [], hW', (trodAll_cons_mk (shut_bool Try.underlying4 _) trodAll_mk0), (trodAll_cons_mk (shut_int Try.underlying3 w0) (trodAll_cons_mk (shut_int Try.underlying3 w1) (trodAll_cons_mk (shut_int Try.underlying3 w2) trodAll_mk0))), rfl, hg.frame _, fun h => by cases h⟩

theorem over : Rows.clockPlaysRow.holds Try.pinned (OpenSpec.ofChange Rows.clockPlaysSpec) :=
  OpenClaim.holds_of_wide 3 Try.f3 rfl rfl rfl rfl rfl rfl rfl ⟨rfl, rfl, rfl, rfl, rfl⟩ rfl rfl rfl rfl rfl (by kernel_rfl) Try.func3 (by kernel_rfl)
    (of_decide_eq_true (by kernel_rfl)) (by unfold Func.isWrapper; first | (rw [if_pos (by decide +kernel)]; kernel_rfl) | (rw [if_neg (by decide +kernel)]; exact ⟨rfl, rfl⟩))
    (fun os started H enc _ => lifted os started H enc)

/-- ████ THE STATEMENT ████ -/
theorem proved : Rows.ClockPlaysSaid :=
  over
#print axioms proved
end Go.Proofs.Ytfiijlnmgkkhmaa.clockPlays
