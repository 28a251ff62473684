/-
  PROVED: plain facts on how many numbers of a set there are. No program in sight. No condition.
-/
import Derived.Test.YtlcibahafcaojaaDoorSets
namespace Go.Proofs.YtlcibahafcaojaaDoor

/-- The numbers from f on, k of them. -/
def rng (f k : Nat) : Nat → Bool := fun j => decide (f ≤ j) && decide (j < f + k)
theorem rng_zero (f : Nat) : rng f 0 = non := by
  funext j
  unfold rng non
  by_cases h : f ≤ j
  · simp
  · simp [h]
theorem ins_rng (f k : Nat) : ins (rng f k) (f + k) = rng f (k + 1) := by
  funext j
  unfold ins rng
  by_cases h : j = f + k
  · subst h; simp
  · have : (j < f + (k + 1)) ↔ (j < f + k) := by omega
    simp [h, this]
theorem rng_next (f k : Nat) : rng f k (f + k) = false := by simp [rng]
theorem rng_in {f k i : Nat} (h : i < k) : rng f k (f + i) = true := by simp [rng, h]
theorem rng_low {f k j : Nat} (h : j < f) : rng f k j = false := by
  have : ¬ f ≤ j := by omega
  simp [rng, this]
theorem rng_high {f k j : Nat} (h : f + k ≤ j) : rng f k j = false := by
  have : ¬ j < f + k := by omega
  simp [rng, this]
theorem elems_rng {f n N : Nat} (hN : f + n ≤ N) : ∀ d k, k + d = n → elems (rng f n) (f + k) N = List.range' (f + k) d
  | 0, k, hk => by
    rw [elems_nil (fun j h1 _ => rng_high (by omega))]
    rfl
  | d + 1, k, hk => by
    rw [elems_cons (x := f + k) (by omega) (by omega) (rng_in (by omega)) (fun j h1 h2 => by omega)]
    have := elems_rng hN d (k + 1) (by omega)
    rw [show f + (k + 1) = f + k + 1 from rfl] at this
    rw [this]
    rfl
theorem elems_rng_at {f n N : Nat} (hN : f + n ≤ N) : elems (rng f n) f N = List.range' f n := by simpa using elems_rng hN n 0 (by omega)
theorem elems_rng_all {f n N : Nat} (hN : f + n ≤ N) : elems (rng f n) 0 N = List.range' f n := by
  rw [elems_skip (lo := 0) (mid := f) (by omega) (fun j _ h2 => rng_low h2), elems_rng_at hN]
theorem ahead_range {f n i : Nat} (h : i ≤ n) : ahead (List.range' f n) ((f : Int) + (i : Int)) = i := by
  rcases Nat.lt_or_ge i n with hlt | hge
  · obtain ⟨d, rfl⟩ : ∃ d, n = i + (d + 1) := ⟨n - i - 1, by omega⟩
    rw [← List.range'_append_1 (s := f) (m := i) (n := d + 1), List.range'_succ, ahead_stop]
    · simp
    · intro x hx
      simp only [List.mem_range'_1] at hx
      omega
    · omega
  · obtain rfl : i = n := by omega
    rw [ahead_all]
    · simp
    · intro x hx
      simp only [List.mem_range'_1] at hx
      omega

/-- How many there are below N. -/
def many (S : Nat → Bool) (N : Nat) : Nat := (elems S 0 N).length
theorem many_zero (S : Nat → Bool) : many S 0 = 0 := rfl
theorem many_succ (S : Nat → Bool) (N : Nat) : many S (N + 1) = many S N + (if S N then 1 else 0) := by
  unfold many elems
  rw [List.range_succ, List.filter_append, List.length_append]
  congr 1
  cases h : S N <;> simp [h]
theorem many_le (S : Nat → Bool) (N : Nat) : many S N ≤ N := elems_len S 0 N
theorem many_same {S T : Nat → Bool} : ∀ N, (∀ j, j < N → S j = T j) → many S N = many T N
  | 0, _ => rfl
  | N + 1, h => by rw [many_succ, many_succ, many_same N (fun j hj => h j (by omega)), h N (by omega)]
theorem many_del {S : Nat → Bool} {x : Nat} (hx : S x = true) : ∀ N, x < N → many S N = many (del S x) N + 1
  | 0, h => by omega
  | N + 1, h => by
    rw [many_succ, many_succ]
    by_cases e : x = N
    · subst e
      rw [hx, del_self, many_same x (S := S) (T := del S x) (fun j hj => (del_ne S (by omega)).symm)]
      simp
    · rw [many_del hx N (by omega), del_ne S (fun h => e h.symm)]
      omega
theorem ahead_many {S : Nat → Bool} {N : Nat} {hi : Int} (h : (N : Int) ≤ hi) : ahead (elems S 0 N) hi = many S N := by
  unfold many
  apply ahead_all
  intro x hx
  unfold elems at hx
  have := (List.mem_filter.1 hx).1
  simp only [List.mem_range] at this
  omega
end Go.Proofs.YtlcibahafcaojaaDoor
