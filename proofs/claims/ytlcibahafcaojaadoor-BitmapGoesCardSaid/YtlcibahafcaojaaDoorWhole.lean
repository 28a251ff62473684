/-
  PROVED: middenheaplaw03.BitmapWhole returns true for every two ints; nothing that was there is written. No condition but that the library's table math/bits.deBruijn64tab is as its initialiser lays it, which the card ties to the program's text.
-/
import Derived.Test.YtlcibahafcaojaaDoorCounts
namespace Go.Proofs.YtlcibahafcaojaaDoor
open Go.RowKit
section
variable {w0 w : World} {B n : Nat} {S : Nat → Bool}
theorem count_z (i hi : Int) (lo k : Nat) (h : St w0 w B n S) (hl : i = lo) (hk : ahead (elems S lo n) hi = k) :
    Calls Tryd.prog 14 #[.pointer (some ⟨B, 0, none⟩), .int .i64 i, .int .i64 hi] w fun e w' => e = .returned (.int .i64 (k : Nat)) ∧ St w0 w' B n S := by
  subst hl
  exact count_l lo hi k h (by simpa using hk)
end
set_option maxRecDepth 100000 in
set_option maxHeartbeats 1600000 in
theorem whole_walk (a0 a1 : Int) (h1 : -9223372036854775808 ≤ a0) (h2 : a0 ≤ 9223372036854775807) (h3 : -9223372036854775808 ≤ a1) (h4 : a1 ≤ 9223372036854775807) (w : World) (hT : Tab w) (hpos : 0 < w.heap.size) :
    Calls Tryd.prog 5 #[.int .i64 a0, .int .i64 a1] w fun e w' => e = .returned (.bool true) ∧ Below w.heap.size w w' := by
  have hf := pickN_lt a0 300 (by omega)
  obtain ⟨f, hfe⟩ : ∃ f, f = pickN a0 300 := ⟨_, rfl⟩
  rw [← hfe] at hf
  have hn := pickN_lt a1 (300 - f + 1) (by omega)
  obtain ⟨n, hne⟩ : ∃ n, n = pickN a1 (300 - f + 1) := ⟨_, rfl⟩
  rw [← hne] at hn
  have hpn := fun W : World => pick_any a1 (300 - f + 1) W h3 h4 (by omega) (by omega)
  rw [← hne] at hpn
  have e300 : ((300 - f + 1 : Nat) : Int) = 300 - (f : Int) + 1 := by omega
  rw [e300] at hpn
  have HF := Lib.hid hfe
  have HN := Lib.hid hpn
  clear hfe hne e300 hpn
  have aw := awake_any w hT hpos
  go_enter Tryd.func5, Tryd.ntmps5
  go_wp2_with fail
  refine aw.mono ?_
  rintro e wa ⟨rfl, hb⟩
  go_wp2_with fail
  refine (new_in 300 w _ hb hT hpos (by omega)).mono ?_
  rintro e w1 ⟨B, rfl, s1⟩
  go_wp2_with fail
  refine (pick_any _ 300 _ h1 h2 (by omega) (by omega)).mono ?_
  rintro e w' ⟨rfl, rfl⟩
  rw [← HF.out]
  go_wp2_with fail
  refine (HN.out _).mono ?_
  rintro e w' ⟨rfl, rfl⟩
  go_wp2_with fail
  go_loopw [9] (fun v wr => ∃ k : Nat, k ≤ n ∧ v = .int .i64 k ∧ St w wr B 300 (rng f k)) (fun v _ => n - (intOf v).toNat)
  case atStart => exact ⟨0, by omega, rfl, by rw [rng_zero]; exact s1⟩
  case round =>
    clear s1 hb
    obtain ⟨k, hk, rfl, hs⟩ := hrel
    by_cases hlt : k < n
    · have q1 : (!rng f k (f + k)) = true := by rw [rng_next]; rfl
      go_wp2_with fail
      refine (set_z _ (f + k) _ hs (by omega) (by omega) q1).mono ?_
      clear hs
      rintro e w2 ⟨rfl, hs⟩
      rw [ins_rng] at hs
      go_wp2_with fail
      go_roundw
      case rel => exact ⟨k + 1, by omega, by go_num, hs⟩
      case measure => simp [intOf]; omega
    · obtain rfl : n = k := by omega
      clear hk hlt
      go_wp2_with fail
      go_loopw [10] (fun v wr => ∃ k : Nat, k ≤ n ∧ v = .int .i64 k ∧ St w wr B 300 (rng f n)) (fun v _ => n - (intOf v).toNat)
      case atStart => exact ⟨0, by omega, rfl, hs⟩
      case round =>
        clear hs
        obtain ⟨k, hk, rfl, hs⟩ := hrel
        by_cases hlt : k < n
        · have q1 : rng f n (f + k) = true := rng_in hlt
          have q2 : ahead (elems (rng f n) f 300) ((f : Int) + (k : Int)) = k := by rw [elems_rng_at (by omega)]; exact ahead_range (by omega)
          have Q2 := Lib.hid q2
          clear q2
          go_wp2_with fail
          refine (next_z _ ((f : Int) + (k : Int)) (f + k) hs (by omega) (by omega) q1 (fun j h1 h2 => by omega)).mono ?_
          clear hs
          rintro e w2 ⟨rfl, hs⟩
          go_wp2_with fail
          refine (count_z _ _ f k hs rfl Q2.out).mono ?_
          clear hs
          rintro e w3 ⟨rfl, hs⟩
          go_wp2_with fail
          go_roundw
          case rel => exact ⟨k + 1, by omega, by go_num, hs⟩
          case measure => simp [intOf]; omega
        · obtain rfl : n = k := by omega
          clear hk hlt
          have q3 : ahead (elems (rng f n) 0 300) 300 = n := by
            rw [elems_rng_all (by omega), ahead_all]
            · simp
            · intro x hx
              simp only [List.mem_range'_1] at hx
              omega
          have Q3 := Lib.hid q3
          clear q3
          go_wp2_with fail
          refine (next_none _ hs (fun j h1 => rng_high (by omega))).mono ?_
          clear hs
          rintro e w2 ⟨rfl, hs⟩
          go_wp2_with fail
          refine (count_z _ _ 0 n hs rfl Q3.out).mono ?_
          clear hs
          rintro e w3 ⟨rfl, hs⟩
          go_wp2_with fail
          go_ret
          exact ⟨rfl, hs.bel⟩
end Go.Proofs.YtlcibahafcaojaaDoor
