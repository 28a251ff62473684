/-
  PROVED: middenheaplaw03.BitmapClears returns true for every list of ops and every int; nothing that was there is written. No condition but that the library's table math/bits.deBruijn64tab is as its initialiser lays it, which the card ties to the program's text.
-/
import Derived.Test.YtlcibahafcaojaaDoorOps
import Derived.Test.YtlcibahafcaojaaDoorWhole
namespace Go.Proofs.YtlcibahafcaojaaDoor
open Go.RowKit

theorem many_five (S : Nat → Bool) (x : Nat) (hx : S x = true) : many S 300 = many (del (del (ins (ins S x) x) x) x) 300 + (if x < 300 then 1 else 0) := by
  have e : del (del (ins (ins S x) x) x) x = del S x := by
    funext j
    by_cases h : j = x
    · subst h; simp [del_self]
    · rw [del_ne _ h, del_ne _ h, ins_ne _ h, ins_ne _ h, del_ne _ h]
  rw [e]
  split
  · exact many_del hx 300 (by assumption)
  · exact many_same 300 (fun j hj => (del_ne S (by omega)).symm)
theorem many_back (S : Nat → Bool) (x : Nat) (hx : S x = true) : many (ins (del (del (ins (ins S x) x) x) x) x) 300 = many S 300 := by
  congr 1
  funext j
  by_cases h : j = x
  · subst h; rw [ins_self, hx]
  · rw [ins_ne _ h, del_ne _ h, del_ne _ h, ins_ne _ h, ins_ne _ h]
theorem many_gone (S : Nat → Bool) (x : Nat) (hx : S x = false) : many (del (del (ins (ins S x) x) x) x) 300 = many S 300 := by
  congr 1
  funext j
  by_cases h : j = x
  · subst h; rw [del_self, hx]
  · rw [del_ne _ h, del_ne _ h, ins_ne _ h, ins_ne _ h]
theorem many_at {S : Nat → Bool} {k : Nat} (h : many S 300 = k) : ahead (elems S 0 300) 300 = k := by rw [ahead_many (by omega)]; exact h

set_option maxRecDepth 100000 in
set_option maxHeartbeats 1600000 in
theorem clears_walk (a : Option Addr) (len cap : Nat) (ops : List (Bool × Int)) (a1 : Int) (h1 : -9223372036854775808 ≤ a1) (h2 : a1 ≤ 9223372036854775807) (w : World) (o : Ops w a len ops) (hT : Tab w) (hpos : 0 < w.heap.size) :
    Calls Tryd.prog 6 #[.slice a len cap, .int .i64 a1] w fun e w' => e = .returned (.bool true) ∧ Below w.heap.size w w' := by
  have aw := awake_any w hT hpos
  have hbig := o.big
  have O := Lib.hid o
  clear o
  go_enter Tryd.func6, Tryd.ntmps6
  go_wp2_with fail
  refine aw.mono ?_
  rintro e wa ⟨rfl, hb⟩
  go_wp2_with fail
  refine (new_in 300 w _ hb hT hpos (by omega)).mono ?_
  rintro e w1 ⟨B, rfl, s1⟩
  go_wp2_with fail
  go_loopw [7] (fun v wr => ∃ (k : Nat) (S : Nat → Bool), k ≤ len ∧ k ≤ 40 ∧ v = .int .i64 k ∧ St w wr B 300 S) (fun v _ => len - (intOf v).toNat)
  case atStart => exact ⟨0, non, by omega, by omega, rfl, s1⟩
  case round =>
    clear s1 hb
    obtain ⟨k, S, hk, hk2, rfl, hs⟩ := hrel
    by_cases hlt : k < len ∧ k < 40
    · obtain ⟨g1, g2⟩ := hlt
      obtain ⟨b, off, rfl, hbl, hat⟩ := O.out.at_ (by omega)
      obtain ⟨_, hc, l0, u0⟩ := hat k g1
      have hc' := (hs.bel.cell (p := ⟨b, off + k * 2 + 1, none⟩) hbl).trans hc
      obtain ⟨x, hx⟩ : ∃ x, x = (ops.getD k (false, 0)).2 := ⟨_, rfl⟩
      rw [← hx] at hc' l0 u0
      have hp := pickN_lt x 300 (by omega)
      clear hat hc hx
      have g3 : decide ((k : Int) < 40) = true := by simp; omega
      go_wp2_with fail
      refine (pick_any x 300 _ l0 u0 (by omega) (by omega)).mono ?_
      rintro e w' ⟨rfl, rfl⟩
      go_wp2_with fail
      refine (set_z _ (pickN x 300) _ hs rfl hp rfl).mono ?_
      clear hs hc'
      rintro e w2 ⟨rfl, hs⟩
      go_wp2_with fail
      go_roundw
      case rel => exact ⟨k + 1, _, by omega, by omega, by go_num, hs⟩
      case measure => simp [intOf]; omega
    · have hp := pickN_lt a1 300 (by omega)
      obtain ⟨x, hx⟩ : ∃ x, x = pickN a1 300 := ⟨_, rfl⟩
      have hpk := fun W : World => pick_any a1 300 W h1 h2 (by omega) (by omega)
      rw [← hx] at hp hpk
      have PK := Lib.hid hpk
      clear hx hpk
      have cells := hs
      rcases (show (len ≤ k) ∨ (k < len ∧ 40 ≤ k) by omega) with g1 | ⟨g1, g2⟩
      all_goals
        clear hlt cells
        cases hS : S x with
        | true =>
          have m5 := many_five S x hS
          rw [if_pos hp] at m5
          have m6 := many_back S x hS
          obtain ⟨c, hc⟩ : ∃ c, c = many (del (del (ins (ins S x) x) x) x) 300 := ⟨_, rfl⟩
          rw [← hc] at m5
          have hc3 : c ≤ 300 := by rw [hc]; exact many_le _ _
          have q1 := many_at m5
          have q2 := many_at hc.symm
          have q3 := many_at (m6.trans m5)
          have q4 : (!S x) = false := by rw [hS]; rfl
          have q5 : (!ins S x x) = false := by rw [ins_self]; rfl
          have q6 : ins (ins S x) x x = true := ins_self _ _
          have q7 : del (ins (ins S x) x) x x = false := del_self _ _
          have q8 : del (del (ins (ins S x) x) x) x x = false := del_self _ _
          have q9 : (!del (del (ins (ins S x) x) x) x x) = true := by rw [del_self]; rfl
          have Q1 := Lib.hid q1
          have Q2 := Lib.hid q2
          have Q3 := Lib.hid q3
          have Q4 := Lib.hid q4
          have Q5 := Lib.hid q5
          have Q6 := Lib.hid q6
          have Q7 := Lib.hid q7
          have Q8 := Lib.hid q8
          have Q9 := Lib.hid q9
          have QS := Lib.hid hS
          clear m5 m6 hc q1 q2 q3 q4 q5 q6 q7 q8 q9 hS
          go_wp2_with fail
          refine (PK.out _).mono ?_
          rintro e w' ⟨rfl, rfl⟩
          go_wp2_with fail
          refine (count_z _ _ 0 (c + 1) hs rfl Q1.out).mono ?_
          rintro e w2 ⟨rfl, s2⟩
          go_wp2_with fail
          refine (has_z _ x _ s2 rfl hp QS.out).mono ?_
          rintro e w3 ⟨rfl, s3⟩
          go_wp2_with fail
          refine (set_z _ x _ s3 rfl hp Q4.out).mono ?_
          rintro e w4 ⟨rfl, s4⟩
          go_wp2_with fail
          refine (set_z _ x _ s4 rfl hp Q5.out).mono ?_
          rintro e w5 ⟨rfl, s5⟩
          go_wp2_with fail
          refine (has_z _ x _ s5 rfl hp Q6.out).mono ?_
          rintro e w6 ⟨rfl, s6⟩
          go_wp2_with fail
          refine (clear_z _ x _ s6 rfl hp Q6.out).mono ?_
          rintro e w7 ⟨rfl, s7⟩
          go_wp2_with fail
          refine (clear_z _ x _ s7 rfl hp Q7.out).mono ?_
          rintro e w8 ⟨rfl, s8⟩
          go_wp2_with fail
          refine (has_z _ x _ s8 rfl hp Q8.out).mono ?_
          rintro e w9 ⟨rfl, s9⟩
          go_wp2_with fail
          refine (count_z _ _ 0 c s9 rfl Q2.out).mono ?_
          rintro e wa ⟨rfl, sa⟩
          go_wp2_with fail
          refine (set_z _ x _ sa rfl hp Q9.out).mono ?_
          rintro e wb ⟨rfl, sb⟩
          go_wp2_with fail
          refine (count_z _ _ 0 (c + 1) sb rfl Q3.out).mono ?_
          rintro e wc ⟨rfl, sc⟩
          go_wp2_with fail
          go_ret
          exact ⟨rfl, sc.bel⟩
        | false =>
          have m6 := many_gone S x hS
          obtain ⟨c, hc⟩ : ∃ c, c = many S 300 := ⟨_, rfl⟩
          have hc3 : c ≤ 300 := by rw [hc]; exact many_le _ _
          have q1 := many_at hc.symm
          have q2 := many_at (m6.trans hc.symm)
          have q4 : (!S x) = true := by rw [hS]; rfl
          have q5 : (!ins S x x) = false := by rw [ins_self]; rfl
          have q6 : ins (ins S x) x x = true := ins_self _ _
          have q7 : del (ins (ins S x) x) x x = false := del_self _ _
          have q8 : del (del (ins (ins S x) x) x) x x = false := del_self _ _
          have Q1 := Lib.hid q1
          have Q2 := Lib.hid q2
          have Q4 := Lib.hid q4
          have Q5 := Lib.hid q5
          have Q6 := Lib.hid q6
          have Q7 := Lib.hid q7
          have Q8 := Lib.hid q8
          have QS := Lib.hid hS
          clear m6 hc q1 q2 q4 q5 q6 q7 q8 hS
          go_wp2_with fail
          refine (PK.out _).mono ?_
          rintro e w' ⟨rfl, rfl⟩
          go_wp2_with fail
          refine (count_z _ _ 0 c hs rfl Q1.out).mono ?_
          rintro e w2 ⟨rfl, s2⟩
          go_wp2_with fail
          refine (has_z _ x _ s2 rfl hp QS.out).mono ?_
          rintro e w3 ⟨rfl, s3⟩
          go_wp2_with fail
          refine (set_z _ x _ s3 rfl hp Q4.out).mono ?_
          rintro e w4 ⟨rfl, s4⟩
          go_wp2_with fail
          refine (set_z _ x _ s4 rfl hp Q5.out).mono ?_
          rintro e w5 ⟨rfl, s5⟩
          go_wp2_with fail
          refine (has_z _ x _ s5 rfl hp Q6.out).mono ?_
          rintro e w6 ⟨rfl, s6⟩
          go_wp2_with fail
          refine (clear_z _ x _ s6 rfl hp Q6.out).mono ?_
          rintro e w7 ⟨rfl, s7⟩
          go_wp2_with fail
          refine (clear_z _ x _ s7 rfl hp Q7.out).mono ?_
          rintro e w8 ⟨rfl, s8⟩
          go_wp2_with fail
          refine (has_z _ x _ s8 rfl hp Q8.out).mono ?_
          rintro e w9 ⟨rfl, s9⟩
          go_wp2_with fail
          refine (count_z _ _ 0 c s9 rfl Q2.out).mono ?_
          rintro e wa ⟨rfl, sa⟩
          go_wp2_with fail
          go_ret
          exact ⟨rfl, sa.bel⟩
end Go.Proofs.YtlcibahafcaojaaDoor
