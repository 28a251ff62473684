/-
  PROVED: middenheaplaw03.BitmapBound returns true for every two ints; nothing that was there is written. No condition but that the library's table math/bits.deBruijn64tab is as its initialiser lays it, which the card ties to the program's text.
-/
import Derived.Test.YtlcibahafcaojaaDoorSets
namespace Go.Proofs.YtlcibahafcaojaaDoor
open Go.RowKit
set_option maxHeartbeats 1000000 in
theorem bound_walk (a0 a1 : Int) (h1 : -9223372036854775808 ≤ a0) (h2 : a0 ≤ 9223372036854775807) (w : World) (hT : Tab w) (hpos : 0 < w.heap.size) :
    Calls Tryd.prog 4 #[.int .i64 a0, .int .i64 a1] w fun e w' => e = .returned (.bool true) ∧ Below w.heap.size w w' := by
  have hm := pickN_lt a0 65537 (by omega)
  obtain ⟨m, hme⟩ : ∃ m, m = pickN a0 65537 := ⟨_, rfl⟩
  have HM := Lib.hid hme
  rw [← hme] at hm
  clear hme
  have aw := awake_any w hT hpos
  by_cases hin : 0 ≤ a1 ∧ a1 < m
  · obtain ⟨hi0, hi1⟩ := hin
    obtain ⟨i, rfl⟩ : ∃ i : Nat, a1 = i := ⟨a1.toNat, by omega⟩
    by_cases hlast : i + 1 = m
    · have l1 : i ≤ m - 1 := by omega
      have l2 : m ≤ i + 1 := by omega
      clear hlast
      have q1 : (!non i) = true := rfl
      have q2 := ins_self non i
      go_enter Tryd.func4, Tryd.ntmps4
      go_wp2_with fail
      refine aw.mono ?_
      rintro e wa ⟨rfl, hb⟩
      go_wp2_with fail
      refine (pick_any _ 65537 _ h1 h2 (by omega) (by omega)).mono ?_
      rintro e w' ⟨rfl, rfl⟩
      rw [← HM.out]
      go_wp2_with fail
      refine (new_in m w _ hb hT hpos (by omega)).mono ?_
      rintro e w1 ⟨B, rfl, s1⟩
      go_wp2_with fail
      refine (set_z _ i _ s1 rfl (by omega) q1).mono ?_
      rintro e w2 ⟨rfl, s2⟩
      go_wp2_with fail
      refine (has_z _ i _ s2 rfl (by omega) q2).mono ?_
      rintro e w3 ⟨rfl, s3⟩
      go_wp2_with fail
      refine (set_not _ s3 (.inr (by omega))).mono ?_
      rintro e w4 ⟨rfl, s4⟩
      go_wp2_with fail
      refine (set_not _ s4 (.inl (by omega))).mono ?_
      rintro e w5 ⟨rfl, s5⟩
      go_wp2_with fail
      refine (next_z _ ((m : Int) - 1) i s5 (by omega) (by omega) q2 (fun j h1 h2 => by omega)).mono ?_
      rintro e w6 ⟨rfl, s6⟩
      go_wp2_with fail
      go_ret
      exact ⟨rfl, s6.bel⟩
    · have l1 : i < m - 1 := by omega
      clear hlast
      have q1 : (!non i) = true := rfl
      have q2 := ins_self non i
      have q3 : (!ins non i (m - 1)) = true := by rw [ins_ne _ (by omega)]; rfl
      have q4 := ins_self (ins non i) (m - 1)
      go_enter Tryd.func4, Tryd.ntmps4
      go_wp2_with fail
      refine aw.mono ?_
      rintro e wa ⟨rfl, hb⟩
      go_wp2_with fail
      refine (pick_any _ 65537 _ h1 h2 (by omega) (by omega)).mono ?_
      rintro e w' ⟨rfl, rfl⟩
      rw [← HM.out]
      go_wp2_with fail
      refine (new_in m w _ hb hT hpos (by omega)).mono ?_
      rintro e w1 ⟨B, rfl, s1⟩
      go_wp2_with fail
      refine (set_z _ i _ s1 rfl (by omega) q1).mono ?_
      rintro e w2 ⟨rfl, s2⟩
      go_wp2_with fail
      refine (has_z _ i _ s2 rfl (by omega) q2).mono ?_
      rintro e w3 ⟨rfl, s3⟩
      go_wp2_with fail
      refine (set_not _ s3 (.inr (by omega))).mono ?_
      rintro e w4 ⟨rfl, s4⟩
      go_wp2_with fail
      refine (set_not _ s4 (.inl (by omega))).mono ?_
      rintro e w5 ⟨rfl, s5⟩
      go_wp2_with fail
      refine (set_z _ (m - 1) _ s5 (by omega) (by omega) q3).mono ?_
      rintro e w6 ⟨rfl, s6⟩
      go_wp2_with fail
      refine (next_z _ ((m : Int) - 1) (m - 1) s6 (by omega) (by omega) q4 (fun j h1 h2 => by omega)).mono ?_
      rintro e w7 ⟨rfl, s7⟩
      go_wp2_with fail
      go_ret
      exact ⟨rfl, s7.bel⟩
  · have q3 : (!non (m - 1)) = true := rfl
    have q4 := ins_self non (m - 1)
    rcases (show (a1 < 0 ∧ 0 < m) ∨ (a1 < 0 ∧ m ≤ 0) ∨ ((m : Int) ≤ a1 ∧ 0 ≤ a1 ∧ 0 < m) ∨ ((m : Int) ≤ a1 ∧ 0 ≤ a1 ∧ m ≤ 0) by omega) with ⟨g1, g2⟩ | ⟨g1, g2⟩ | ⟨g1, g3, g2⟩ | ⟨g1, g3, g2⟩
    all_goals
      clear hin
      go_enter Tryd.func4, Tryd.ntmps4
      go_wp2_with fail
      refine aw.mono ?_
      rintro e wa ⟨rfl, hb⟩
      go_wp2_with fail
      refine (pick_any _ 65537 _ h1 h2 (by omega) (by omega)).mono ?_
      rintro e w' ⟨rfl, rfl⟩
      rw [← HM.out]
      go_wp2_with fail
      refine (new_in m w _ hb hT hpos (by omega)).mono ?_
      rintro e w1 ⟨B, rfl, s1⟩
      go_wp2_with fail
      refine (set_not _ s1 (by omega)).mono ?_
      rintro e w2 ⟨rfl, s2⟩
      go_wp2_with fail
      refine (has_not _ s2 (by omega)).mono ?_
      rintro e w3 ⟨rfl, s3⟩
      go_wp2_with fail
      refine (set_not _ s3 (.inr (by omega))).mono ?_
      rintro e w4 ⟨rfl, s4⟩
      go_wp2_with fail
      refine (set_not _ s4 (.inl (by omega))).mono ?_
      rintro e w5 ⟨rfl, s5⟩
      go_wp2_with fail
      first
        | (refine (next_none _ s5 (fun j _ => rfl)).mono ?_
           rintro e w6 ⟨rfl, s6⟩)
        | (refine (set_z _ (m - 1) _ s5 (by omega) (by omega) q3).mono ?_
           rintro e w5 ⟨rfl, s5⟩
           go_wp2_with fail
           refine (next_z _ ((m : Int) - 1) (m - 1) s5 (by omega) (by omega) q4 (fun j h1 h2 => by omega)).mono ?_
           rintro e w6 ⟨rfl, s6⟩)
      go_wp2_with fail
      go_ret
      exact ⟨rfl, by exact (by assumption : St w _ B m _).bel⟩
end Go.Proofs.YtlcibahafcaojaaDoor
