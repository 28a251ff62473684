/-
  PROVED: the contracts of package bitmap over sets of numbers, and those of the laws' helpers pick and awake. No condition but that the cells hold a bitmap, and the library's table as its initialiser lays it.
-/
import Derived.Test.YtlcibahafcaojaaDoorNext
namespace Go.Proofs.YtlcibahafcaojaaDoor
open Go.RowKit

def ins (S : Nat → Bool) (i : Nat) : Nat → Bool := fun j => S j || decide (j = i)
def del (S : Nat → Bool) (i : Nat) : Nat → Bool := fun j => S j && !decide (j = i)
def non : Nat → Bool := fun _ => false

/-- Block B is a bitmap below n, in which are the numbers of S; the library's table lies; nothing that lay in w0 has turned. -/
structure St (w0 w : World) (B n : Nat) (S : Nat → Bool) : Prop where
  ex : ∃ A ws, BM w B A n ws ∧ S = has ws ∧ w0.heap.size ≤ B ∧ w0.heap.size ≤ A
  bel : Below w0.heap.size w0 w
  tab : Tab w0
  pos : 0 < w0.heap.size
theorem St.step {w0 w w' : World} {B n A : Nat} {S S' : Nat → Bool} {ws' : List Nat} (h : St w0 w B n S) (hM : BM w' B A n ws') (hS : S' = has ws') (hB : w0.heap.size ≤ B) (hA : w0.heap.size ≤ A) (g : w.grownBy w' (some A)) : St w0 w' B n S' :=
  ⟨⟨A, ws', hM, hS, hB, hA⟩, h.bel.grown g h.bel.size (fun _ e => by injection e; omega), h.tab, h.pos⟩
theorem St.keep {w0 w w' : World} {B n : Nat} {S : Nat → Bool} (h : St w0 w B n S) (hb : Below w.heap.size w w') : St w0 w' B n S := by
  obtain ⟨A, ws, hM, hS, hB, hA⟩ := h.ex
  exact ⟨⟨A, ws, hM.below hb hM.ltB hM.ltA, hS, hB, hA⟩, h.bel.trans (hb.mono h.bel.size), h.tab, h.pos⟩
theorem St.tabAt {w0 w : World} {B n : Nat} {S : Nat → Bool} (h : St w0 w B n S) : Tab w := h.tab.below h.bel h.pos
theorem St.top {w0 w : World} {B n : Nat} {S : Nat → Bool} (h : St w0 w B n S) : n ≤ 65536 := by
  obtain ⟨A, ws, hM, _⟩ := h.ex
  exact hM.top
theorem St.lt {w0 w : World} {B n : Nat} {S : Nat → Bool} (h : St w0 w B n S) {i : Nat} (hi : S i = true) : i < n := by
  obtain ⟨A, ws, hM, rfl, _⟩ := h.ex
  exact hM.ins i hi
theorem ins_same {S : Nat → Bool} {i : Nat} (h : S i = true) : ins S i = S := by
  funext j
  unfold ins
  by_cases e : j = i
  · subst e; simp [h]
  · simp [e]
theorem del_same {S : Nat → Bool} {i : Nat} (h : S i = false) : del S i = S := by
  funext j
  unfold del
  by_cases e : j = i
  · subst e; simp [h]
  · simp [e]

section
variable {w0 w : World} {B n : Nat} {S : Nat → Bool}
theorem set_in (i : Nat) (h : St w0 w B n S) (hi : i < n) :
    Calls Tryd.prog 11 #[.pointer (some ⟨B, 0, none⟩), .int .i64 i] w fun e w' => e = .returned (.bool (!S i)) ∧ St w0 w' B n (ins S i) := by
  obtain ⟨A, ws, hM, rfl, hB, hA⟩ := h.ex
  cases hs : has ws i with
  | true =>
    refine (set_had B A n i ws w hM hi hs).mono ?_
    rintro e w' ⟨rfl, hM', g⟩
    exact ⟨rfl, h.step hM' (ins_same hs) hB hA g⟩
  | false =>
    refine (set_c B A n i ws w hM hi hs).mono ?_
    rintro e w' ⟨rfl, ws', hM', hw, g⟩
    exact ⟨rfl, h.step hM' (by funext j; rw [hw]; rfl) hB hA g⟩
theorem set_not (i : Int) (h : St w0 w B n S) (hi : i < 0 ∨ n ≤ i) :
    Calls Tryd.prog 11 #[.pointer (some ⟨B, 0, none⟩), .int .i64 i] w fun e w' => e = .returned (.bool false) ∧ St w0 w' B n S := by
  obtain ⟨A, ws, hM, rfl, hB, hA⟩ := h.ex
  refine (set_out B A n i ws w hM hi).mono ?_
  rintro e w' ⟨rfl, hM', g⟩
  exact ⟨rfl, h.step hM' rfl hB hA g⟩
theorem clear_in (i : Nat) (h : St w0 w B n S) (hi : i < n) :
    Calls Tryd.prog 10 #[.pointer (some ⟨B, 0, none⟩), .int .i64 i] w fun e w' => e = .returned (.bool (S i)) ∧ St w0 w' B n (del S i) := by
  obtain ⟨A, ws, hM, rfl, hB, hA⟩ := h.ex
  cases hs : has ws i with
  | true =>
    refine (clear_c B A n i ws w hM hi hs).mono ?_
    rintro e w' ⟨rfl, ws', hM', hw, g⟩
    exact ⟨rfl, h.step hM' (by funext j; rw [hw]; rfl) hB hA g⟩
  | false =>
    refine (clear_not B A n i ws w hM hi hs).mono ?_
    rintro e w' ⟨rfl, hM', g⟩
    exact ⟨rfl, h.step hM' (del_same hs) hB hA g⟩
theorem has_in (i : Nat) (h : St w0 w B n S) (hi : i < n) :
    Calls Tryd.prog 13 #[.pointer (some ⟨B, 0, none⟩), .int .i64 i] w fun e w' => e = .returned (.bool (S i)) ∧ St w0 w' B n S := by
  obtain ⟨A, ws, hM, rfl, hB, hA⟩ := h.ex
  refine (has_c B A n i ws w hM hi).mono ?_
  rintro e w' ⟨rfl, hM', g⟩
  exact ⟨rfl, h.step hM' rfl hB hA g⟩
theorem has_not (i : Int) (h : St w0 w B n S) (hi : i < 0 ∨ n ≤ i) :
    Calls Tryd.prog 13 #[.pointer (some ⟨B, 0, none⟩), .int .i64 i] w fun e w' => e = .returned (.bool false) ∧ St w0 w' B n S := by
  obtain ⟨A, ws, hM, rfl, hB, hA⟩ := h.ex
  refine (has_out B A n i ws w hM hi).mono ?_
  rintro e w' ⟨rfl, hM', g⟩
  exact ⟨rfl, h.step hM' rfl hB hA g⟩
theorem next_in (i : Int) (h : St w0 w B n S) :
    Calls Tryd.prog 12 #[.pointer (some ⟨B, 0, none⟩), .int .i64 i] w fun e w' => e = .returned (nextOf (elems S i.toNat n)) ∧ St w0 w' B n S := by
  obtain ⟨A, ws, hM, rfl, hB, hA⟩ := h.ex
  refine (next_any B A n ws i w hM h.tabAt (Nat.lt_of_lt_of_le h.pos h.bel.size)).mono ?_
  rintro e w' ⟨rfl, hb⟩
  exact ⟨rfl, h.keep hb⟩
theorem next_some (i : Int) (x : Nat) (h : St w0 w B n S) (h0 : i ≤ (x : Int)) (hS : S x = true) (hno : ∀ j : Nat, i ≤ (j : Int) → j < x → S j = false) :
    Calls Tryd.prog 12 #[.pointer (some ⟨B, 0, none⟩), .int .i64 i] w fun e w' => e = .returned (.tuple #[.int .i64 (x : Int), .bool true]) ∧ St w0 w' B n S := by
  have hx := h.lt hS
  refine (next_in i h).mono ?_
  rintro e w' ⟨rfl, hs⟩
  exact ⟨by rw [elems_cons (x := x) (by omega) hx hS (fun j h1 h2 => hno j (by omega) h2)]; rfl, hs⟩
theorem next_none (i : Int) (h : St w0 w B n S) (hno : ∀ j : Nat, i ≤ (j : Int) → S j = false) :
    Calls Tryd.prog 12 #[.pointer (some ⟨B, 0, none⟩), .int .i64 i] w fun e w' => e = .returned (.tuple #[.int .i64 0, .bool false]) ∧ St w0 w' B n S := by
  refine (next_in i h).mono ?_
  rintro e w' ⟨rfl, hs⟩
  exact ⟨by rw [elems_nil (fun j h1 _ => hno j (by omega))]; rfl, hs⟩
theorem count_in (i hi : Int) (h : St w0 w B n S) :
    Calls Tryd.prog 14 #[.pointer (some ⟨B, 0, none⟩), .int .i64 i, .int .i64 hi] w fun e w' => e = .returned (.int .i64 (ahead (elems S i.toNat n) hi : Nat)) ∧ St w0 w' B n S := by
  obtain ⟨A, ws, hM, rfl, hB, hA⟩ := h.ex
  refine (count_any B A n ws i hi w hM h.tabAt (Nat.lt_of_lt_of_le h.pos h.bel.size)).mono ?_
  rintro e w' ⟨rfl, hb⟩
  exact ⟨rfl, h.keep hb⟩
end
theorem new_in (n : Nat) (w0 w : World) (hb : Below w0.heap.size w0 w) (hT : Tab w0) (hpos : 0 < w0.heap.size) (hn : n ≤ 65536) :
    Calls Tryd.prog 8 #[.int .i64 n] w fun e w' => ∃ B, e = .returned (.pointer (some ⟨B, 0, none⟩)) ∧ St w0 w' B n non := by
  refine (new_c n w hn).mono ?_
  rintro e w' ⟨rfl, hM, hb'⟩
  have := hb.size
  exact ⟨_, rfl, ⟨_, _, hM, by funext i; rw [has_none]; rfl, by omega, this⟩, hb.trans (hb'.mono hb.size), hT, hpos⟩

/-- What pick answers. -/
def pickN (c : Int) (n : Nat) : Nat := ((if c < 0 then -(c + 1) else c) % (n : Int)).toNat
theorem pickN_lt (c : Int) (n : Nat) (h : 0 < n) : pickN c n < n := by
  unfold pickN
  have h1 : (if c < 0 then -(c + 1) else c) % (n : Int) < n := Int.emod_lt_of_pos _ (by omega)
  have h2 : 0 ≤ (if c < 0 then -(c + 1) else c) % (n : Int) := Int.emod_nonneg _ (by omega)
  omega
theorem ret_int {k : IntKind} {a b : Int} (h : a = b) : Ending.returned (.int k a) = .returned (.int k b) := by rw [h]
theorem pick_any (c : Int) (n : Nat) (w : World) (h1 : -9223372036854775808 ≤ c) (h2 : c ≤ 9223372036854775807) (hn : 0 < n) (hn2 : n ≤ 9223372036854775807) :
    Calls Tryd.prog 9 #[.int .i64 c, .int .i64 n] w fun e w' => e = .returned (.int .i64 (pickN c n : Nat)) ∧ w = w' := by
  have hz : ¬ n = 0 := by omega
  have hp : ((pickN c n : Nat) : Int) = (if c < 0 then -(c + 1) else c) % (n : Int) := by
    unfold pickN
    exact Int.toNat_of_nonneg (Int.emod_nonneg _ (by omega))
  rw [hp]
  clear hp
  by_cases hc : c < 0
  · go_enter Tryd.func9, Tryd.ntmps9
    go_wp2
    go_ret
    exact ⟨ret_int (by rw [← Int.neg_tmod]; exact Int.tmod_eq_emod_of_nonneg (show (0 : Int) ≤ -(c + 1) by omega)), rfl⟩
  · go_enter Tryd.func9, Tryd.ntmps9
    go_wp2
    go_ret
    exact ⟨rfl, rfl⟩

/-- Literal answers. -/
theorem val_eq {b c : Bool} (h : b = c) : Ending.returned (.bool b) = .returned (.bool c) := by rw [h]
section
variable {w0 w : World} {B n : Nat} {S : Nat → Bool}
theorem set_l (i : Nat) (b : Bool) (h : St w0 w B n S) (hi : i < n) (hb : (!S i) = b) :
    Calls Tryd.prog 11 #[.pointer (some ⟨B, 0, none⟩), .int .i64 i] w fun e w' => e = .returned (.bool b) ∧ St w0 w' B n (ins S i) :=
  (set_in i h hi).mono fun _ _ ⟨he, hs⟩ => ⟨by rw [he, hb], hs⟩
theorem clear_l (i : Nat) (b : Bool) (h : St w0 w B n S) (hi : i < n) (hb : S i = b) :
    Calls Tryd.prog 10 #[.pointer (some ⟨B, 0, none⟩), .int .i64 i] w fun e w' => e = .returned (.bool b) ∧ St w0 w' B n (del S i) :=
  (clear_in i h hi).mono fun _ _ ⟨he, hs⟩ => ⟨by rw [he, hb], hs⟩
theorem has_l (i : Nat) (b : Bool) (h : St w0 w B n S) (hi : i < n) (hb : S i = b) :
    Calls Tryd.prog 13 #[.pointer (some ⟨B, 0, none⟩), .int .i64 i] w fun e w' => e = .returned (.bool b) ∧ St w0 w' B n S :=
  (has_in i h hi).mono fun _ _ ⟨he, hs⟩ => ⟨by rw [he, hb], hs⟩
theorem count_l (i hi : Int) (k : Nat) (h : St w0 w B n S) (hk : ahead (elems S i.toNat n) hi = k) :
    Calls Tryd.prog 14 #[.pointer (some ⟨B, 0, none⟩), .int .i64 i, .int .i64 hi] w fun e w' => e = .returned (.int .i64 (k : Nat)) ∧ St w0 w' B n S :=
  (count_in i hi h).mono fun _ _ ⟨he, hs⟩ => ⟨by rw [he, hk], hs⟩
end

section
variable {w0 w : World} {B n : Nat} {S : Nat → Bool}
theorem set_z (x : Int) (i : Nat) (b : Bool) (h : St w0 w B n S) (hx : x = i) (hi : i < n) (hb : (!S i) = b) :
    Calls Tryd.prog 11 #[.pointer (some ⟨B, 0, none⟩), .int .i64 x] w fun e w' => e = .returned (.bool b) ∧ St w0 w' B n (ins S i) := by
  subst hx
  exact set_l i b h hi hb
theorem clear_z (x : Int) (i : Nat) (b : Bool) (h : St w0 w B n S) (hx : x = i) (hi : i < n) (hb : S i = b) :
    Calls Tryd.prog 10 #[.pointer (some ⟨B, 0, none⟩), .int .i64 x] w fun e w' => e = .returned (.bool b) ∧ St w0 w' B n (del S i) := by
  subst hx
  exact clear_l i b h hi hb
theorem has_z (x : Int) (i : Nat) (b : Bool) (h : St w0 w B n S) (hx : x = i) (hi : i < n) (hb : S i = b) :
    Calls Tryd.prog 13 #[.pointer (some ⟨B, 0, none⟩), .int .i64 x] w fun e w' => e = .returned (.bool b) ∧ St w0 w' B n S := by
  subst hx
  exact has_l i b h hi hb
theorem next_z (i y : Int) (x : Nat) (h : St w0 w B n S) (hy : y = x) (h0 : i ≤ (x : Int)) (hS : S x = true) (hno : ∀ j : Nat, i ≤ (j : Int) → j < x → S j = false) :
    Calls Tryd.prog 12 #[.pointer (some ⟨B, 0, none⟩), .int .i64 i] w fun e w' => e = .returned (.tuple #[.int .i64 y, .bool true]) ∧ St w0 w' B n S := by
  subst hy
  exact next_some i x h h0 hS hno
end
theorem ins_self (S : Nat → Bool) (i : Nat) : ins S i i = true := by simp [ins]
theorem ins_ne (S : Nat → Bool) {i j : Nat} (h : j ≠ i) : ins S i j = S j := by simp [ins, h]
theorem del_self (S : Nat → Bool) (i : Nat) : del S i i = false := by simp [del]
theorem del_ne (S : Nat → Bool) {i j : Nat} (h : j ≠ i) : del S i j = S j := by simp [del, h]

theorem aw1 : (!non 3) = true := by decide
theorem aw2 : (!ins non 3 70) = true := by decide
theorem aw3 : (!ins (ins non 3) 70 70) = false := by decide
def awS : Nat → Bool := ins (ins (ins non 3) 70) 70
theorem aw4 : awS 70 = true := by decide
theorem aw5 : ∀ j : Nat, (4 : Int) ≤ (j : Int) → j < 70 → awS j = false := by
  intro j h1 h2
  have e1 : j ≠ 3 := by omega
  have e2 : j ≠ 70 := by omega
  simp [awS, ins, non, e1, e2]
theorem aw6 : ahead (elems awS (Int.toNat 0) 100) 70 = 1 := by decide +kernel
theorem aw7 : awS 3 = true := by decide
theorem aw8 : del awS 3 3 = false := by decide

set_option maxHeartbeats 400000 in
theorem awake_any (w : World) (hT : Tab w) (hpos : 0 < w.heap.size) : Calls Tryd.prog 7 #[] w fun e w' => e = .returned (.bool true) ∧ Below w.heap.size w w' := by
  go_enter Tryd.func7, Tryd.ntmps7
  go_wp2_with fail
  refine (new_in 100 w _ (Below.refl _ _) hT hpos (by omega)).mono ?_
  rintro e w1 ⟨B, rfl, h1⟩
  go_wp2_with fail
  refine (set_l 3 _ h1 (by omega) aw1).mono ?_
  rintro e w2 ⟨rfl, h2⟩
  go_wp2_with fail
  refine (set_l 70 _ h2 (by omega) aw2).mono ?_
  rintro e w3 ⟨rfl, h3⟩
  go_wp2_with fail
  refine (set_l 70 _ h3 (by omega) aw3).mono ?_
  rintro e w4 ⟨rfl, h4⟩
  have h4' : St w w4 B 100 awS := h4
  clear h4
  go_wp2_with fail
  refine (next_some 4 70 h4' (by omega) aw4 aw5).mono ?_
  rintro e w5 ⟨rfl, h5⟩
  go_wp2_with fail
  refine (count_l 0 70 1 h5 aw6).mono ?_
  rintro e w6 ⟨rfl, h6⟩
  go_wp2_with fail
  refine (has_l 3 _ h6 (by omega) aw7).mono ?_
  rintro e w7 ⟨rfl, h7⟩
  go_wp2_with fail
  refine (clear_l 3 _ h7 (by omega) aw7).mono ?_
  rintro e w8 ⟨rfl, h8⟩
  go_wp2_with fail
  refine (has_l 3 _ h8 (by omega) aw8).mono ?_
  rintro e w9 ⟨rfl, h9⟩
  go_wp2_with fail
  go_ret
  exact ⟨rfl, h9.bel⟩
end Go.Proofs.YtlcibahafcaojaaDoor
