/-
  PROVED: plain facts on memory: what a call leaves where only some blocks may have turned; slices that own their row. No program in sight. No condition.
-/
import Derived.WalkKit
import Derived.Below
import Derived.Deep.AppendLies
import Derived.Deep.Draws
import Derived.Lib.Hide
import Derived.OpenShut
namespace Go.Proofs.Ytbmedngnfkkhdaa
open Go.RowKit

/-- Only the blocks of F, and new ones, may have turned. -/
structure Only (F : Nat → Prop) (w w' : World) : Prop where
  os : w'.os = w.os
  tape : w'.tape = w.tape
  output : w'.output = w.output
  size : w.heap.size ≤ w'.heap.size
  block : ∀ i, i < w.heap.size → ¬ F i → w'.heap[i]? = w.heap[i]?
namespace Only
variable {F G : Nat → Prop} {a b c w w' : World}
theorem refl (F : Nat → Prop) (w : World) : Only F w w := ⟨rfl, rfl, rfl, Nat.le_refl _, fun _ _ _ => rfl⟩
theorem trans (h : Only F a b) (k : Only G b c) (hG : ∀ i, G i → F i ∨ a.heap.size ≤ i) : Only F a c :=
  ⟨k.os.trans h.os, k.tape.trans h.tape, k.output.trans h.output, Nat.le_trans h.size k.size, fun i hi hn =>
    (k.block i (Nat.lt_of_lt_of_le hi h.size) (fun hg => (hG i hg).elim hn (fun hle => by omega))).trans (h.block i hi hn)⟩
theorem mono (h : Only F a b) (hF : ∀ i, i < a.heap.size → F i → G i) : Only G a b := ⟨h.os, h.tape, h.output, h.size, fun i hi hn => h.block i hi (fun hf => hn (hF i hi hf))⟩
theorem drew (h : Only F a b) : Only F a b.drew := ⟨h.os, h.tape, h.output, h.size, h.block⟩
theorem drewN (h : Only F a b) (q : Nat) : Only F a (b.drewN q) := ⟨h.os, h.tape, h.output, h.size, h.block⟩
theorem alloc (h : Only F a b) (o : Obj) : Only F a (b.alloc o) :=
  ⟨h.os, h.tape, h.output, Nat.le_trans h.size (by simp), fun i hi hn => (Below.heap_alloc b o i (Nat.lt_of_lt_of_le hi h.size)).trans (h.block i hi hn)⟩
theorem setCell (h : Only F a b) {p : Addr} (hp : F p.block ∨ a.heap.size ≤ p.block) (v : Value) : Only F a (b.setCell p v) :=
  ⟨h.os, h.tape, h.output, by simpa [World.setCell] using h.size, fun i hi hn => (Below.heap_setCell b p v i (by rintro rfl; rcases hp with hp | hp; exact hn hp; omega)).trans (h.block i hi hn)⟩
theorem grown (h : Only F a b) {row : Option Nat} (g : b.grownBy c row) (hr : ∀ k, row = some k → F k ∨ a.heap.size ≤ k) : Only F a c :=
  ⟨g.os.trans h.os, g.tape.trans h.tape, g.output.trans h.output, Nat.le_trans h.size g.size, fun i hi hn =>
    (g.block i (Nat.lt_of_lt_of_le hi h.size) (fun e => (hr i e.symm).elim hn (fun hle => by omega))).trans (h.block i hi hn)⟩
theorem of_below (h : Below a.heap.size a b) : Only F a b := ⟨h.os, h.tape, h.output, h.size, fun i hi _ => h.block i hi⟩
theorem after_below (h : Only F a b) (k : Below b.heap.size b c) : Only F a c :=
  ⟨k.os.trans h.os, k.tape.trans h.tape, k.output.trans h.output, Nat.le_trans h.size k.size, fun i hi hn => (k.block i (Nat.lt_of_lt_of_le hi h.size)).trans (h.block i hi hn)⟩
/-- Where nothing of what lay in w0 is among the blocks. -/
theorem below {w0 : World} (h : Below w0.heap.size w0 a) (k : Only F a b) (hF : ∀ i, F i → w0.heap.size ≤ i) : Below w0.heap.size w0 b :=
  ⟨k.os.trans h.os, k.tape.trans h.tape, k.output.trans h.output, Nat.le_trans h.size k.size, fun i hi => (k.block i (Nat.lt_of_lt_of_le hi h.size) (fun hf => by have := hF i hf; omega)).trans (h.block i hi)⟩
theorem cell (h : Only F a b) {p : Addr} (hl : p.block < a.heap.size) (hn : ¬ F p.block) : b.cell? p = a.cell? p := World.cell?_of_block (h.block p.block hl hn)
theorem frozen (h : Only F a b) {p : Addr} (hl : p.block < a.heap.size) (hn : ¬ F p.block) : b.frozen? p = a.frozen? p := World.frozen?_of_block (h.block p.block hl hn)
end Only

/-- The block in which a slice lies. -/
def rowOf (A : Option Addr) : Option Nat := A.map (·.block)
theorem ownBlock_slice (A : Option Addr) (n c : Nat) : (Value.slice A n c).ownBlock = rowOf A := by cases A <;> rfl

/-- The slice at A of n elements (size cells each, of type E) owns a whole row; its cells are xs. -/
def Row (w : World) (E size : Nat) (A : Option Addr) (n c : Nat) (xs : List Value) : Prop := w.ownsRow 0 E size (.slice A n c) n xs
section
variable {w w' : World} {E size : Nat} {A : Option Addr} {n c : Nat} {xs : List Value}
theorem Row.nil (w : World) (E size : Nat) : Row w E size none 0 0 [] := World.ownsRow_nil _ _ _ _
theorem Row.length (h : Row w E size A n c xs) : xs.length = n * size := h.1
theorem Row.form (h : Row w E size A n c xs) : (A = none ∧ n = 0 ∧ c = 0 ∧ xs = []) ∨ ∃ g cur, A = some ⟨g, 0, none⟩ ∧ w.heap[g]? = some (.cells cur E (0, 0)) ∧ n ≤ c ∧ c ≤ maxLen ∧ cur.size = c * size ∧ cur.toList.take (n * size) = xs := by
  rcases h.2 with ⟨he, hn⟩ | ⟨g, cap, cur, he, _, hh, h1, h2, h3, h4⟩
  · injection he with e1 e2 e3
    exact .inl ⟨e1, e2, e3, List.eq_nil_of_length_eq_zero (by rw [h.1, hn]; simp)⟩
  · injection he with e1 e2 e3
    subst e3
    exact .inr ⟨g, cur, e1, hh, h1, h2, h3, h4⟩
theorem Row.lt (h : Row w E size A n c xs) {k : Nat} (hk : rowOf A = some k) : k < w.heap.size := (World.ownsRow.lt h k (by rw [ownBlock_slice]; exact hk)).2
theorem Row.big (h : Row w E size A n c xs) : n ≤ maxLen := by
  rcases h.form with ⟨_, hn, _⟩ | ⟨g, cur, _, _, h1, h2, _⟩
  · rw [hn]; exact Nat.zero_le _
  · omega
/-- An element is at hand: where the row lies, and what its cells are. -/
theorem Row.at_ (h : Row w E size A n c xs) (hn : 0 < n) : ∃ g, A = some ⟨g, 0, none⟩ ∧ g < w.heap.size ∧ (∀ j u, xs[j]? = some u → w.cell? ⟨g, j, none⟩ = some u) ∧ ∀ j, w.frozen? ⟨g, j, none⟩ = false := by
  rcases h.form with ⟨_, h0, _⟩ | ⟨g, cur, rfl, hh, h1, h2, h3, h4⟩
  · omega
  · refine ⟨g, rfl, lt_of_block hh, fun j u hu => ?_, fun j => by simp [World.frozen?, hh]⟩
    rw [cell_of_row w g j cur E (0, 0) hh]
    rw [← h4, List.getElem?_take] at hu
    split at hu
    · simpa using hu
    · cases hu
theorem Row.keep (h : Row w E size A n c xs) (hk : ∀ k, rowOf A = some k → w'.heap[k]? = w.heap[k]?) : Row w' E size A n c xs := by
  refine ⟨h.1, ?_⟩
  rcases h.2 with hn | ⟨g, cap, cur, he, hb, hg, rest⟩
  · exact .inl hn
  · injection he with e1 e2 e3
    refine .inr ⟨g, cap, cur, by rw [e1, e3], hb, ?_, rest⟩
    rw [hk g (by rw [e1]; rfl)]
    exact hg
theorem Row.only {F : Nat → Prop} (h : Row w E size A n c xs) (k : Only F w w') (hF : ∀ k, rowOf A = some k → ¬ F k) : Row w' E size A n c xs := h.keep fun g hg => k.block g (h.lt hg) (hF g hg)
theorem Row.below {B : Nat} (h : Row w E size A n c xs) (k : Below B w w') (hB : ∀ k, rowOf A = some k → k < B) : Row w' E size A n c xs := h.keep fun g hg => k.block g (hB g hg)
theorem Row.fresh (h : Row w E size A n c xs) (k : Below w.heap.size w w') : Row w' E size A n c xs := h.below k fun _ hg => h.lt hg
theorem Row.alloc (h : Row w E size A n c xs) (o : Obj) : Row (w.alloc o) E size A n c xs := h.keep fun g hg => Below.heap_alloc w o g (h.lt hg)
theorem Row.far (h : Row w E size A n c xs) {p : Addr} (hp : rowOf A ≠ some p.block) (v : Value) : Row (w.setCell p v) E size A n c xs := h.keep fun g hg => Below.heap_setCell w p v g (by rintro rfl; exact hp hg)
theorem Row.drew (h : Row w E size A n c xs) : Row w.drew E size A n c xs := h.keep fun _ _ => rfl
theorem Row.drewN (h : Row w E size A n c xs) (q : Nat) : Row (w.drewN q) E size A n c xs := h.keep fun _ _ => rfl
/-- Rows of different types lie in different blocks. -/
theorem Row.not_block (h : Row w E size A n c xs) {g t : Nat} {cs : Array Value} {fr : Nat × Nat} (hg : w.heap[g]? = some (.cells cs t fr)) (hne : E ≠ t) : rowOf A ≠ some g := by
  rcases h.form with ⟨rfl, _⟩ | ⟨g', cur, rfl, hh, _⟩
  · intro e; cases e
  · intro e
    have : g' = g := by simpa [rowOf] using e
    subst this
    rw [hh] at hg
    injection hg with hg
    injection hg with _ ht
    exact hne ht
theorem Row.apart {E' size' : Nat} {A' : Option Addr} {n' c' : Nat} {xs' : List Value} (h : Row w E size A n c xs) (k : Row w E' size' A' n' c' xs') (hne : E ≠ E') : ∀ g, rowOf A = some g → rowOf A' ≠ some g := by
  intro g hg hg'
  rcases k.form with ⟨rfl, _⟩ | ⟨g', cur, rfl, hh, _⟩
  · cases hg'
  · have : g' = g := by simpa [rowOf] using hg'
    subst this
    exact h.not_block hh hne hg
end
/-- A new row (of the law's own words) is a row. -/
theorem Row.of_own {w : World} {base E size : Nat} {v : Value} {n : Nat} {xs : List Value} (h : w.ownsRow base E size v n xs) : ∃ A c, v = .slice A n c ∧ Row w E size A n c xs ∧ ∀ k, rowOf A = some k → base ≤ k := by
  rcases h.2 with ⟨rfl, rfl⟩ | ⟨g, cap, cur, rfl, hb, hg, rest⟩
  · exact ⟨none, 0, rfl, ⟨h.1, .inl ⟨rfl, rfl⟩⟩, fun k hk => by cases hk⟩
  · exact ⟨_, _, rfl, ⟨h.1, .inr ⟨g, cap, cur, rfl, Nat.zero_le _, hg, rest⟩⟩, fun k hk => by simp [rowOf] at hk; omega⟩

theorem lies_ne {A : Option Addr} {n c g L H : Nat} (hat : (Value.slice A n c).ownBlock = some g ∨ g = H) (hL : rowOf A ≠ some L) (hlt : L < H) : ¬ g = L := by
  rintro rfl
  rcases hat with h | h
  · rw [ownBlock_slice] at h
    exact hL h
  · omega
theorem lies_new {A : Option Addr} {n c g H k m : Nat} (hat : (Value.slice A n c).ownBlock = some g ∨ g = H) (hm : m ≤ H) (hk : rowOf (some ⟨g, 0, none⟩) = some k) : rowOf A = some k ∨ m ≤ k := by
  have e : g = k := by simpa [rowOf] using hk
  subst e
  rcases hat with h | h
  · rw [ownBlock_slice] at h
    exact .inl h
  · exact .inr (by omega)
theorem lies_block {w w1 : World} {A : Option Addr} {n c L : Nat} {o : Obj} (hgrow : (w.alloc o).grownBy w1 (Value.slice A n c).ownBlock) (hL : rowOf A ≠ some L) (hlt : L < w.heap.size) : w1.heap[L]? = w.heap[L]? :=
  (hgrow.block L (by simp; omega) (by rw [ownBlock_slice]; exact fun e => hL e.symm)).trans (Below.heap_alloc w _ L hlt)
/-- The ints of a row. -/
def intCells (R : List Int) : List Value := R.map (Value.int .i64)
abbrev IntRow (w : World) (A : Option Addr) (c : Nat) (R : List Int) : Prop := Row w 3 1 A R.length c (intCells R)
theorem IntRow.get {w : World} {A : Option Addr} {c : Nat} {R : List Int} (h : IntRow w A c R) {k : Nat} (hk : k < R.length) : ∃ g, A = some ⟨g, 0, none⟩ ∧ g < w.heap.size ∧ w.cell? ⟨g, k, none⟩ = some (.int .i64 R[k]) := by
  obtain ⟨g, hA, hl, hc, _⟩ := h.at_ (by omega)
  exact ⟨g, hA, hl, hc k _ (by simp [intCells, hk])⟩
theorem intCells_one (R : List Int) : ∀ u ∈ intCells R, u.oneCell' = true := by
  intro u hu
  obtain ⟨x, _, rfl⟩ := List.mem_map.1 hu
  rfl
end Go.Proofs.Ytbmedngnfkkhdaa
