/-
  PROVED: middenheaplaw12.ClockMay returns true for every three ints; nothing that was there is written. No condition.
  THE SHELL OF A PROOF OF 'Rows.ClockMaySaid' ('middenheap/middenheaplaw12.ClockMay'), WRITTEN BY PROGRAM (proof-skeleton.mjs) off the guide's own print for that function. Not trusted: Lean checks it.
  YOURS ARE THE HOLES MARKED 'HOLE' (each bears 'sorry'). ALL ELSE IS THE GUIDE's TEMPLATE (howto/template/XProofs.lean) at this function's number and types: leave it.
-/
import Derived.Test.YtfiijlnmgkkhmaaRows
import Derived.WalkKit
import Derived.ProofKit
import Derived.OpenShut
import Derived.Below
import Derived.Test.YtfiijlnmgkkhmaaClock
import Derived.Test.YtfiijlnmgkkhmaaAwake
namespace Go.Proofs.Ytfiijlnmgkkhmaa.clockMay
open Go.ChangeShapes Go.WideShapes Go.ChangeAt Go.RowKit
set_option linter.unusedVariables false      -- a walk need not use every 'w<i>' (that an integer argument fits its kind)

theorem own : ownKnob Try.prog.godebug = none := by kernel_rfl

/-! ### THE WALK -/
/-- Where a clock is behind t Ticks. -/
def at_ (t m : Int) : Int := min t m
theorem may_g (b : Nat) (i m n : Int) (w : World) (h : CK w b i m) (hn0 : 0 ≤ n) (h0 : 0 ≤ i) (h1 : i ≤ m) (h2 : m ≤ 1099511627776) :
    Calls Try.prog 16 #[.pointer (some ⟨b, 0, none⟩), .int .i64 n] w fun e w' => e = .returned (.bool (decide (n ≤ m - i))) ∧ CK w' b i m ∧ w.grownBy w' (some b) :=
  (may_guard b i m n w h hn0 h0 h1 h2).mono fun _ _ ⟨he, q, hw⟩ => ⟨he, by rw [hw]; exact h, by rw [hw]; exact only_drawn _ _ _⟩
/-- One Tick, wherever the clock is. -/
theorem tick_g (b : Nat) (n m : Int) (w : World) (h : CK w b n m) (hm0 : 0 ≤ n) (hm1 : n ≤ m) (hm2 : m ≤ 1099511627776) :
    Calls Try.prog 12 #[.pointer (some ⟨b, 0, none⟩)] w fun e w' => ∃ v n', e = .returned (.tuple #[.int .i64 v, .bool (decide (n < m))]) ∧ CK w' b n' m ∧ n' ≤ m ∧ 0 ≤ n' ∧ n' ≤ n + 1 ∧ (n < m → n + 1 ≤ n') ∧ (m ≤ n → m ≤ n') ∧ w.grownBy w' (some b) := by
  by_cases hlt : n < m
  · refine (tick_yes b n m w h hm0 hlt hm2).mono ?_
    rintro e w' ⟨rfl, hc, hg⟩
    exact ⟨n + 1, n + 1, by rw [decide_eq_true hlt], hc, by omega, by omega, by omega, by omega, by omega, hg⟩
  · refine (tick_any_no b n m w h hm0 (by omega) hm2).mono ?_
    rintro e w' ⟨rfl, hc, hg⟩
    exact ⟨0, n, by rw [decide_eq_false hlt], hc, by omega, by omega, by omega, by omega, by omega, hg⟩

set_option maxHeartbeats 1000000 in
theorem walk (a0 : Int) (a1 : Int) (a2 : Int) (w0 : (Lit.int .i64 a0).wf = true) (w1 : (Lit.int .i64 a1).wf = true) (w2 : (Lit.int .i64 a2).wf = true) (w : World) :
    Calls Try.prog 6 #[.int .i64 a0, .int .i64 a1, .int .i64 a2] w fun e w' => e = .returned (.bool true) ∧ Below w.heap.size w w' := by
  obtain ⟨hl0, hh0⟩ := bounds_i64 w0
  obtain ⟨hl1, hh1⟩ := bounds_i64 w1
  obtain ⟨hl2, hh2⟩ := bounds_i64 w2
  clear w0 w1 w2
  have pm0 := pickZ_lo a0 201 (by omega)
  have pm1 := pickZ_hi a0 201 (by omega)
  have pt0 := pickZ_lo a1 220 (by omega)
  have pt1 := pickZ_hi a1 220 (by omega)
  have pn0 := pickZ_lo a2 220 (by omega)
  have pn1 := pickZ_hi a2 220 (by omega)
  obtain ⟨m, hm⟩ : ∃ m, m = pickZ a0 201 := ⟨_, rfl⟩
  obtain ⟨t, ht⟩ : ∃ t, t = pickZ a1 220 := ⟨_, rfl⟩
  obtain ⟨n, hn⟩ : ∃ n, n = pickZ a2 220 := ⟨_, rfl⟩
  have hcl : clamp m = m := by unfold clamp; omega
  have HC := Lib.hid hcl
  clear hcl
  have HM := Lib.hid hm
  have HT := Lib.hid ht
  have HN := Lib.hid hn
  rw [← hm] at pm0 pm1
  rw [← ht] at pt0 pt1
  rw [← hn] at pn0 pn1
  clear hm ht hn
  go_enter Try.func6, Try.ntmps6
  go_wp2_with (first
    | (go_at_call 8; refine (awake_any _).mono ?_; rintro e wa ⟨rfl, hb⟩)
    | (go_at_call 9; refine (pick_any _ _ _ hl0 hh0 (by omega) (by omega)).mono ?_; rintro e w' ⟨rfl, rfl⟩; rw [← HM.out])
    | (go_at_call 10; refine (new_t _ _).mono ?_; rw [HC.out]; rintro e wb ⟨rfl, hc, hg⟩))
  have hbb : Below w.heap.size w wb := hb.trans (hg.mono hb.size)
  have hsz : w.heap.size ≤ wa.heap.size := hb.size
  clear hb hg
  go_loopw [10] (fun i wr => ∃ (k : Nat) (p : Int), (k : Int) ≤ t ∧ i = .int .i64 k ∧ 0 ≤ p ∧ p ≤ m ∧ p ≤ k ∧ (p < m → (k : Int) ≤ p) ∧ CK wr wa.heap.size p m ∧ Below w.heap.size w wr) (fun i _ => (t - intOf i).toNat)
  case atStart => exact ⟨0, 0, by omega, rfl, by omega, by omega, by omega, by omega, hc, hbb⟩
  case round =>
    clear hc hbb
    obtain ⟨k, p, hk, rfl, hp0, hp1, hp2, hp3, hc, hb⟩ := hrel
    have HP3 := Lib.hid hp3
    clear hp3
    by_cases hlt : (k : Int) < t
    · go_wp2_with (first
        | (go_at_call 9; refine (pick_any _ _ _ hl1 hh1 (by omega) (by omega)).mono ?_; rintro e w' ⟨rfl, rfl⟩; rw [← HT.out])
        | (go_at_call 12; refine (tick_g _ _ _ _ (by assumption) (by omega) (by omega) (by omega)).mono ?_; rintro e w1 ⟨v, p', rfl, hc, q1, q2, q3, q4, q5, hg⟩; have hb := bstep (by assumption) hg (by omega); have Q4 := Lib.hid q4; have Q5 := Lib.hid q5; clear q4 q5))
      go_roundw
      case rel =>
        have h3 := HP3.out
        have h4 := Q4.out
        have h5 := Q5.out
        exact ⟨k + 1, p', by omega, by go_num, by omega, by omega, by omega, by omega, by assumption, by assumption⟩
      case measure => simp [intOf]; omega
    · have hkt : (k : Int) ≤ t ∧ t ≤ k := by omega
      by_cases c1 : n ≤ m - p
      all_goals
        by_cases c2 : n + 1 ≤ m - p
        all_goals
          by_cases c3 : 0 < n
          all_goals
            try (exfalso; omega)
            go_wp2_with (first
              | (go_at_call 9; (with_reducible refine (pick_any _ _ _ hl2 hh2 (by omega) (by omega)).mono ?_); rw [← HN.out]; rintro e w' ⟨rfl, rfl⟩)
              | (go_at_call 9; (with_reducible refine (pick_any _ _ _ hl1 hh1 (by omega) (by omega)).mono ?_); rw [← HT.out]; rintro e w' ⟨rfl, rfl⟩)
              | (go_at_call 14; refine (now_any _ _ _ _ (by assumption)).mono ?_; rintro e w' ⟨rfl, rfl⟩)
              | (go_at_call 16; refine (may_t _ _ _ _ _ (by assumption) (by omega) (by omega) (by omega) (by omega)).mono ?_; rintro e w1 ⟨rfl, hc, hg⟩; have hb := bstep (by assumption) hg (by omega))
              | (go_at_call 16; refine (may_f _ _ _ _ _ (by assumption) (by omega) (by omega) (by omega) (by omega)).mono ?_; rintro e w1 ⟨rfl, hc, hg⟩; have hb := bstep (by assumption) hg (by omega))
              | (go_at_call 12; refine (tick_g _ _ _ _ (by assumption) (by omega) (by omega) (by omega)).mono ?_; rintro e w1 ⟨v, p', rfl, hc, q1, q2, q3, q4, q5, hg⟩; have hb := bstep (by assumption) hg (by omega); have Q4 := Lib.hid q4; have Q5 := Lib.hid q5; clear q4 q5))
            all_goals first
              | (exfalso; have h3 := HP3.out; omega)
              | (go_ret; exact ⟨rfl, by assumption⟩)

/-! ### THE ROW's STEP: WRITTEN OUT: LEAVE IT -/
set_option maxRecDepth 100000 in
theorem lifted (os : Os) (started : os.Started) (H : Type) (enc : TypeId × Value → H) :
    ReturnsInHanded {} Try.checked os 6 .any (Rows.clockMaySpec.pre6 enc Try.prog Try.f6 Rows.clockMayRow.domain false) (Rows.clockMaySpec.post enc Try.prog Try.f6 false true false false) := by
  refine returnsInHanded_of_change (C := Try.checked) own started (by kernel_rfl) Try.func6
    (ChangeSpec.witness6 (enc := enc) (C := Try.checked) false ⟨#[], #[.int .i64 0, .int .i64 0, .int .i64 0], []⟩ 8 (by kernel_rfl) (by kernel_rfl) (by kernel_rfl) (by kernel_rfl)) ?_
  intro W base args ds gs before hval0 hW hcnd _
  have hval : ∀ (j : Nat) t v, Try.f6.params[j]? = some t → args[j]? = some v → Value.okWide Try.prog W .any base t v := hval0
  have hW' := hW
  obtain ⟨p, q, hA0, hV, rfl, hfz, hnd⟩ := hW
  have hA : DataW.TrodAll enc Try.prog W 0 (fun _ => true) true Try.f6.params.toList args.toList ds p := hA0
  rw [Try.params6] at hA hval
  obtain ⟨v0, vs0, d0, ds0, p0, q0, hargs, rfl, rfl, h0, r0⟩ := trodAll_cons hA
  obtain ⟨v1, vs1, d1, ds1, p1, q1, rfl, rfl, rfl, h1, r1⟩ := trodAll_cons r0
  obtain ⟨v2, vs2, d2, ds2, p2, q2, rfl, rfl, rfl, h2, r2⟩ := trodAll_cons r1
  obtain ⟨rfl, rfl, rfl⟩ := trodAll_nil r2
  obtain rfl : args = #[v0, v1, v2] := by cases args; simp_all
  obtain ⟨rfl, rfl⟩ := trodVars_none hV
  obtain ⟨a0, rfl, rfl, rfl, w0⟩ := open_int Try.underlying3 (hval 0 3 v0 rfl rfl) h0
  obtain ⟨a1, rfl, rfl, rfl, w1⟩ := open_int Try.underlying3 (hval 1 3 v1 rfl rfl) h1
  obtain ⟨a2, rfl, rfl, rfl, w2⟩ := open_int Try.underlying3 (hval 2 3 v2 rfl rfl) h2
  clear hA0 hval0
  simp only [List.append_nil] at hW'
  refine (walk a0 a1 a2 w0 w1 w2 W).mono fun e W' ⟨he, hg⟩ => ?_
  subst he
  exact ⟨_, rfl, _, _, _, [], [], [], hW', (trodAll_cons_mk (shut_bool Try.underlying4 _) trodAll_mk0), (trodAll_cons_mk (shut_int Try.underlying3 w0) (trodAll_cons_mk (shut_int Try.underlying3 w1) (trodAll_cons_mk (shut_int Try.underlying3 w2) trodAll_mk0))), rfl, hg.frame _, fun h => by cases h⟩

theorem over : Rows.clockMayRow.holds Try.pinned (OpenSpec.ofChange Rows.clockMaySpec) :=
  OpenClaim.holds_of_wide 6 Try.f6 rfl rfl rfl rfl rfl rfl rfl ⟨rfl, rfl, rfl, rfl, rfl⟩ rfl rfl rfl rfl rfl (by kernel_rfl) Try.func6 (by kernel_rfl)
    (of_decide_eq_true (by kernel_rfl)) (by unfold Func.isWrapper; first | (rw [if_pos (by decide +kernel)]; kernel_rfl) | (rw [if_neg (by decide +kernel)]; exact ⟨rfl, rfl⟩))
    (fun os started H enc _ => lifted os started H enc)

/-- ████ THE STATEMENT ████ -/
theorem proved : Rows.ClockMaySaid :=
  over
#print axioms proved
end Go.Proofs.Ytfiijlnmgkkhmaa.clockMay
