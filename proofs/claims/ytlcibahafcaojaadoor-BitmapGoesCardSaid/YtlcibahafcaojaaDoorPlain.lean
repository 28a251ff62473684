/-
  PROVED: plain facts on numbers, bits and lists: a list of words as a set of numbers. No program in sight. No condition.
-/
import Derived.Lib.TrailingZeros
namespace Go.Proofs.YtlcibahafcaojaaDoor
open Go

/-- A word in which one bit is set. -/
def bitv (k : Nat) : Nat := 2 ^ k
theorem bitv_lt {k : Nat} (h : k < 64) : bitv k < 18446744073709551616 := by
  have := Nat.pow_lt_pow_right (a := 2) (by omega) h
  simpa [bitv] using this
theorem and_bitv (x k : Nat) : x &&& bitv k = if x.testBit k then bitv k else 0 := by
  apply Nat.eq_of_testBit_eq
  intro j
  unfold bitv
  rw [Nat.testBit_and, Nat.testBit_two_pow]
  by_cases hj : k = j
  · subst hj
    cases h : x.testBit k <;> simp
  · cases h : x.testBit k <;> simp [hj]
theorem bitv_pos (k : Nat) : 0 < bitv k := Nat.two_pow_pos k
theorem and_yes {x k : Nat} (h : x.testBit k = true) : 0 < x &&& bitv k := by rw [and_bitv, h]; simpa using bitv_pos k
theorem and_no {x k : Nat} (h : x.testBit k = false) : x &&& bitv k = 0 := by rw [and_bitv, h]; simp
theorem or_bit (x k j : Nat) : (x ||| bitv k).testBit j = (x.testBit j || decide (j = k)) := by
  unfold bitv
  rw [Nat.testBit_or, Nat.testBit_two_pow]
  by_cases h : k = j <;> simp [h, eq_comm]
theorem or_lt {x k : Nat} (hx : x < 18446744073709551616) (hk : k < 64) : x ||| bitv k < 18446744073709551616 := by
  have := Nat.or_lt_two_pow (n := 64) (x := x) (y := bitv k) (by simpa using hx) (by simpa using bitv_lt hk)
  simpa using this
theorem strike_lt {x k : Nat} (hx : x < 18446744073709551616) : x &&& (18446744073709551615 - bitv k) < 18446744073709551616 := by
  exact Nat.lt_of_le_of_lt Nat.and_le_left hx
theorem strike_bit {x k j : Nat} (hk : k < 64) (hj : j < 64) : (x &&& (18446744073709551615 - bitv k)).testBit j = (x.testBit j && !decide (j = k)) := by
  rw [Nat.testBit_and]
  have h : (18446744073709551615 - bitv k) = 2 ^ 64 - (bitv k + 1) := by omega
  rw [h, Nat.testBit_two_pow_sub_succ (by simpa using bitv_lt hk)]
  unfold bitv
  rw [Nat.testBit_two_pow]
  by_cases he : k = j <;> simp [he, hj, eq_comm]

/-- Is i in? -/
def has (ws : List Nat) (i : Nat) : Bool := (ws.getD (i / 64) 0).testBit (i % 64)
theorem has_set (ws : List Nat) (i j : Nat) (hi : i / 64 < ws.length) :
    has (ws.set (i / 64) (ws.getD (i / 64) 0 ||| bitv (i % 64))) j = (has ws j || decide (j = i)) := by
  unfold has
  by_cases hw : i / 64 = j / 64
  · rw [← hw, List.getD_eq_getElem?_getD, List.getElem?_set_self (by omega)]
    simp only [Option.getD_some]
    rw [or_bit]
    congr 1
    by_cases e : j % 64 = i % 64
    · have : j = i := by omega
      simp [this]
    · have : j ≠ i := by rintro rfl; exact e rfl
      simp [e, this]
  · rw [List.getD_eq_getElem?_getD, List.getElem?_set_ne hw, ← List.getD_eq_getElem?_getD]
    have : j ≠ i := by rintro rfl; exact hw rfl
    simp [this]
theorem has_strike (ws : List Nat) (i j : Nat) (hi : i / 64 < ws.length) :
    has (ws.set (i / 64) (ws.getD (i / 64) 0 &&& (18446744073709551615 - bitv (i % 64)))) j = (has ws j && !decide (j = i)) := by
  unfold has
  by_cases hw : i / 64 = j / 64
  · rw [← hw, List.getD_eq_getElem?_getD, List.getElem?_set_self (by omega)]
    simp only [Option.getD_some]
    rw [strike_bit (by omega) (by omega)]
    congr 1
    by_cases e : j % 64 = i % 64
    · have : j = i := by omega
      simp [this]
    · have : j ≠ i := by rintro rfl; exact e rfl
      simp [e, this]
  · rw [List.getD_eq_getElem?_getD, List.getElem?_set_ne hw, ← List.getD_eq_getElem?_getD]
    have : j ≠ i := by rintro rfl; exact hw rfl
    simp [this]
/-- Each word is one of 64 bits. -/
def Words (ws : List Nat) : Prop := ∀ x ∈ ws, x < 18446744073709551616
theorem Words.getD {ws : List Nat} (h : Words ws) (k : Nat) : ws.getD k 0 < 18446744073709551616 := by
  rw [List.getD_eq_getElem?_getD]
  cases e : ws[k]? with
  | none => simp
  | some x => exact h x (List.mem_of_getElem? e)
theorem Words.set {ws : List Nat} (h : Words ws) (k : Nat) {x : Nat} (hx : x < 18446744073709551616) : Words (ws.set k x) := by
  intro y hy
  rcases List.mem_or_eq_of_mem_set hy with h1 | h1
  · exact h y h1
  · rw [h1]; exact hx

/-- Numbers below n from lo on that are in. -/
def elems (S : Nat → Bool) (lo n : Nat) : List Nat := ((List.range n).filter fun j => decide (lo ≤ j) && S j)
/-- How many numbers below n are in, from lo on, below hi. -/
def cnt (S : Nat → Bool) (n : Nat) (lo hi : Int) : Nat := ((List.range n).filter fun (j : Nat) => decide (lo ≤ (j : Int)) && decide ((j : Int) < hi) && S j).length

theorem elems_nil {S : Nat → Bool} {lo n : Nat} (h : ∀ j, lo ≤ j → j < n → S j = false) : elems S lo n = [] := by
  unfold elems
  rw [List.filter_eq_nil_iff]
  intro j hj
  have := h j
  simp only [List.mem_range] at hj
  by_cases hl : lo ≤ j
  · simp [this hl hj]
  · simp [hl]
theorem elems_cons {S : Nat → Bool} {lo x n : Nat} (h0 : lo ≤ x) (hx : x < n) (hS : S x = true) (h : ∀ j, lo ≤ j → j < x → S j = false) : elems S lo n = x :: elems S (x + 1) n := by
  obtain ⟨d, rfl⟩ : ∃ d, n = x + 1 + d := ⟨n - (x + 1), by omega⟩
  unfold elems
  rw [List.range_add, List.range_succ, List.filter_append, List.filter_append, List.filter_append, List.filter_append]
  have e1 : (List.range x).filter (fun j => decide (lo ≤ j) && S j) = [] := elems_nil (S := S) (lo := lo) (n := x) h
  have e2 : (List.range x).filter (fun j => decide (x + 1 ≤ j) && S j) = [] := by
    rw [List.filter_eq_nil_iff]
    intro j hj
    simp only [List.mem_range] at hj
    have : ¬ x + 1 ≤ j := by omega
    simp [this]
  rw [e1, e2]
  have e3 : ([x].filter fun j => decide (lo ≤ j) && S j) = [x] := by simp [h0, hS]
  have e4 : ([x].filter fun j => decide (x + 1 ≤ j) && S j) = [] := by
    have : ¬ x + 1 ≤ x := by omega
    simp [this]
  rw [e3, e4]
  simp only [List.nil_append, List.singleton_append, List.cons.injEq, true_and]
  rw [List.filter_map, List.filter_map]
  congr 1
  apply List.filter_congr
  intro j hj
  have e1 : decide (lo ≤ x + 1 + j) = true := by simp; omega
  have e2 : decide (x + 1 ≤ x + 1 + j) = true := by simp
  simp only [Function.comp, e1, e2]

/-- Where the first bit of a word is. -/
theorem ctz_at {x : Nat} (hx : x < 18446744073709551616) (h0 : x ≠ 0) : Lib.ctz 64 x < 64 ∧ x.testBit (Lib.ctz 64 x) = true ∧ ∀ j, j < Lib.ctz 64 x → x.testBit j = false := by
  obtain ⟨h1, h2⟩ := Lib.lowest_bit 64 x h0 (by simpa using hx)
  refine ⟨h2, ?_, fun j hj => ?_⟩
  · have : (x &&& (2 ^ 64 - x)).testBit (Lib.ctz 64 x) = true := by rw [h1, Nat.testBit_two_pow_self]
    rw [Nat.testBit_and] at this
    exact (Bool.and_eq_true_iff.1 this).1
  · -- below the lowest bit none is set: x is a multiple of it
    obtain ⟨m, hm, _⟩ := Lib.ctzFrom_spec 64 x (by omega) (by simpa using hx)
    have hc : Lib.ctz 64 x = Lib.ctzFrom 64 x := by unfold Lib.ctz; rw [if_neg h0]
    rw [hc] at hj
    rw [hm, Nat.testBit_two_pow_mul]
    simp
    omega
theorem shift_bit (x k j : Nat) : (x >>> k).testBit j = x.testBit (k + j) := by rw [Nat.testBit_shiftRight]
/-- A word from a bit on is nothing: none is in, up to the word's end. -/
theorem word_none {ws : List Nat} {i : Nat} (h : (ws.getD (i / 64) 0) >>> (i % 64) = 0) (j : Nat) (h1 : i ≤ j) (h2 : j < 64 * (i / 64) + 64) : has ws j = false := by
  unfold has
  have e : j / 64 = i / 64 := by omega
  have := shift_bit (ws.getD (i / 64) 0) (i % 64) (j % 64 - i % 64)
  rw [h] at this
  rw [e]
  have e2 : i % 64 + (j % 64 - i % 64) = j % 64 := by omega
  rw [e2] at this
  rw [← this]
  simp
/-- The first one in from i on, if its word from that bit on is x. -/
theorem word_some {ws : List Nat} {i x : Nat} (hw : Words ws) (hx : x = (ws.getD (i / 64) 0) >>> (i % 64)) (h0 : x ≠ 0) :
    has ws (i + Lib.ctz 64 x) = true ∧ (∀ j, i ≤ j → j < i + Lib.ctz 64 x → has ws j = false) ∧ Lib.ctz 64 x < 64 := by
  have hlt : x < 18446744073709551616 := by
    rw [hx]
    exact Nat.lt_of_le_of_lt (Nat.shiftRight_le _ _) (hw.getD _)
  obtain ⟨h1, h2, h3⟩ := ctz_at hlt h0
  have hb : ∀ j, x.testBit j = (ws.getD (i / 64) 0).testBit (i % 64 + j) := fun j => by rw [hx]; exact shift_bit _ _ _
  -- the bit lies in this word: beyond its end there is none
  have hin : i % 64 + Lib.ctz 64 x < 64 := by
    rw [hb] at h2
    have := Nat.ge_two_pow_of_testBit h2
    have hg := hw.getD (i / 64)
    rcases Nat.lt_or_ge (i % 64 + Lib.ctz 64 x) 64 with h | h
    · exact h
    · have h5 : 2 ^ 64 ≤ 2 ^ (i % 64 + Lib.ctz 64 x) := Nat.pow_le_pow_right (by omega) h
      have h6 : (2 : Nat) ^ 64 = 18446744073709551616 := by decide
      omega
  have hat : ∀ j, i % 64 + j < 64 → has ws (i + j) = x.testBit j := fun j hj => by
    unfold has
    have e1 : (i + j) / 64 = i / 64 := by omega
    have e2 : (i + j) % 64 = i % 64 + j := by omega
    rw [e1, e2, hb]
  refine ⟨by rw [hat _ hin]; exact h2, fun j hj1 hj2 => ?_, h1⟩
  obtain ⟨d, rfl⟩ : ∃ d, j = i + d := ⟨j - i, by omega⟩
  rw [hat d (by omega)]
  exact h3 d (by omega)
theorem elems_skip {S : Nat → Bool} {lo mid n : Nat} (h0 : lo ≤ mid) (h : ∀ j, lo ≤ j → j < mid → S j = false) : elems S lo n = elems S mid n := by
  unfold elems
  apply List.filter_congr
  intro j _
  by_cases h1 : lo ≤ j
  · by_cases h2 : mid ≤ j
    · simp [h1, h2]
    · simp [h2, h j h1 (by omega)]
  · have : ¬ mid ≤ j := by omega
    simp [h1, this]
theorem elems_len (S : Nat → Bool) (lo n : Nat) : (elems S lo n).length ≤ n := by
  unfold elems
  have := List.length_filter_le (fun j => decide (lo ≤ j) && S j) (List.range n)
  simpa using this
/-- How many of a list are ahead of a number. -/
def ahead (l : List Nat) (hi : Int) : Nat := (l.takeWhile fun (x : Nat) => decide ((x : Int) < hi)).length
theorem ahead_all {l : List Nat} {hi : Int} (h : ∀ x ∈ l, (x : Int) < hi) : ahead l hi = l.length := by
  induction l with
  | nil => rfl
  | cons a l ih =>
    have h1 := ih (fun x hx => h x (List.mem_cons_of_mem _ hx))
    unfold ahead at h1 ⊢
    rw [List.takeWhile_cons_of_pos (by simpa using h a List.mem_cons_self)]
    simp [h1]
theorem ahead_stop {l tl : List Nat} {x : Nat} {hi : Int} (h : ∀ x ∈ l, (x : Int) < hi) (hx : hi ≤ (x : Int)) : ahead (l ++ x :: tl) hi = l.length := by
  unfold ahead
  rw [List.takeWhile_append_of_pos (fun a ha => by simpa using h a ha), List.takeWhile_cons_of_neg (by simpa using hx)]
  simp
end Go.Proofs.YtlcibahafcaojaaDoor
