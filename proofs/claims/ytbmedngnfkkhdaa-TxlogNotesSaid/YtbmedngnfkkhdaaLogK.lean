/-
  PROVED: what a law of package txlog keeps at hand: a log of its own, a row of its own; the contracts of the laws' pick and awake. No condition.
-/
import Derived.Test.YtbmedngnfkkhdaaLogJ
namespace Go.Proofs.Ytbmedngnfkkhdaa
open Go.RowKit

/-- What pick answers. -/
def pickN (c : Int) (n : Nat) : Nat := ((if c < 0 then -(c + 1) else c) % (n : Int)).toNat
theorem pickN_lt (c : Int) (n : Nat) (h : 0 < n) : pickN c n < n := by
  unfold pickN
  have h1 : (if c < 0 then -(c + 1) else c) % (n : Int) < n := Int.emod_lt_of_pos _ (by omega)
  have h2 : 0 ≤ (if c < 0 then -(c + 1) else c) % (n : Int) := Int.emod_nonneg _ (by omega)
  omega
theorem pick_any (c : Int) (n : Nat) (w : World) (h1 : -9223372036854775808 ≤ c) (h2 : c ≤ 9223372036854775807) (hn : 0 < n) (hn2 : n ≤ 9223372036854775807) :
    Calls Try.prog 7 #[.int .i64 c, .int .i64 n] w fun e w' => e = .returned (.int .i64 (pickN c n : Nat)) ∧ w = w' := by
  have hz : ¬ n = 0 := by omega
  have hp : ((pickN c n : Nat) : Int) = (if c < 0 then -(c + 1) else c) % (n : Int) := by
    unfold pickN
    exact Int.toNat_of_nonneg (Int.emod_nonneg _ (by omega))
  rw [hp]
  clear hp
  by_cases hc : c < 0
  · go_enter Try.func7, Try.ntmps7
    go_wp2
    go_ret
    exact ⟨ret_int (by rw [← Int.neg_tmod]; exact Int.tmod_eq_emod_of_nonneg (show (0 : Int) ≤ -(c + 1) by omega)), rfl⟩
  · go_enter Try.func7, Try.ntmps7
    go_wp2
    go_ret
    exact ⟨rfl, rfl⟩

/-- A log of the law's own, and a row of its own beside it; nothing that lay there has turned. -/
structure Own (w W : World) (L : Nat) (a : LgA) (d : LgD) (E size : Nat) (A : Option Addr) (n c : Nat) (xs : List Value) : Prop where
  lg : LG W L a d
  foot : ∀ i, Foot L a i → w.heap.size ≤ i
  below : Below w.heap.size w W
  row : Row W E size A n c xs
  far : ∀ k, rowOf A = some k → w.heap.size ≤ k ∧ ¬ Foot L a k
section
variable {w W W' : World} {L : Nat} {a : LgA} {d d' : LgD} {E size : Nat} {A : Option Addr} {n c : Nat} {xs : List Value}
theorem Own.step (h : Own w W L a d E size A n c xs) (hs : Stepped W W' L a d') : ∃ a', Own w W' L a' d' E size A n c xs := by
  obtain ⟨a', h1, h2, h3⟩ := hs
  refine ⟨a', h1, fun i hi => ?_, Only.below h.below h2 h.foot, h.row.only h2 (fun k hk => (h.far k hk).2), fun k hk => ⟨(h.far k hk).1, fun hf => ?_⟩⟩
  · rcases h3 i hi with e | e
    · exact h.foot i e
    · have := h.below.size
      omega
  · rcases h3 k hf with e | e
    · exact (h.far k hk).2 e
    · have := h.row.lt hk
      omega
theorem Own.fresh (h : Own w W L a d E size A n c xs) (hb : Below W.heap.size W W') : Own w W' L a d E size A n c xs :=
  ⟨h.lg.below hb, h.foot, h.below.trans (hb.mono h.below.size), h.row.fresh hb, h.far⟩
theorem Own.alloc (h : Own w W L a d E size A n c xs) (o : Obj) : Own w (W.alloc o) L a d E size A n c xs := h.fresh ((Below.refl _ _).alloc (Nat.le_refl _) _)
theorem Own.drewN (h : Own w W L a d E size A n c xs) (q : Nat) : Own w (W.drewN q) L a d E size A n c xs := h.fresh (below_drewN' _ _)
theorem Own.push {W1 W2 : World} {g c' n' : Nat} {ys : List Value} (h : Own w W L a d E size A n c xs) (hb : Below W.heap.size W W1) (hown : W2.ownsRow 0 E size (.slice (some ⟨g, 0, none⟩) n' c') n' ys) (hgrow : W1.grownBy W2 (Value.slice A n c).ownBlock) (hat : (Value.slice A n c).ownBlock = some g ∨ g = W1.heap.size) :
    Own w W2 L a d E size (some ⟨g, 0, none⟩) n' c' ys := by
  have O : Only (fun i => rowOf A = some i) W W2 := (Only.of_below hb).grown hgrow (fun k hk => .inl (by rw [ownBlock_slice] at hk; exact hk))
  have hs := hb.size
  have hs0 := h.below.size
  have hg : rowOf A = some g ∨ W.heap.size ≤ g := by
    rcases hat with e | e
    · rw [ownBlock_slice] at e
      exact .inl e
    · exact .inr (by omega)
  refine ⟨h.lg.only O (fun i hi e => (h.far i e).2 hi), h.foot, Only.below h.below O (fun i e => (h.far i e).1), hown, fun k hk => ?_⟩
  have e : g = k := by simpa [rowOf] using hk
  subst e
  rcases hg with e | e
  · exact h.far _ e
  · exact ⟨by omega, fun hf => by have := h.lg.foot_lt hf; omega⟩
theorem Own.of_new {W : World} {r u : Nat} (hb : Below w.heap.size w W) (hl : LG W' W.heap.size nilA (emptyD r u)) (hW : Below W.heap.size W W') : Own w W' W.heap.size nilA (emptyD r u) E size none 0 0 [] := by
  have hs := hb.size
  refine ⟨hl, fun i hi => ?_, hb.trans (hW.mono hs), Row.nil _ _ _, fun k hk => by cases hk⟩
  rcases hi with rfl | hi | hi | hi | hi
  · exact hs
  all_goals cases hi
end
/-- A row that is laid. -/
theorem row_lit (w : World) (cs : Array Value) (E n : Nat) (hn : cs.size = n) (hm : n ≤ maxLen) : Row (w.alloc (.cells cs E)) E 1 (some ⟨w.heap.size, 0, none⟩) n n cs.toList :=
  ⟨by simp [hn], .inr ⟨w.heap.size, n, cs, rfl, Nat.zero_le _, heap_alloc_new w _, Nat.le_refl _, hm, by simp [hn], by rw [List.take_of_length_le]; simp [hn]⟩⟩

/-- The example's log, without a row beside it. -/
abbrev Own0 (w W : World) (L : Nat) (a : LgA) (d : LgD) : Prop := Own w W L a d 3 1 none 0 0 []
def exA : LgD := { R := [5], K := [], H := [], U := [], mr := 1, mu := 1 }
def exB : LgD := { R := [5], K := [], H := [], U := [⟨1, 7, 0, 8⟩], mr := 1, mu := 1 }
def Kept3 (d : LgD) : Prop := d.roots = [1, 2, 3] ∧ d.K = [] ∧ d.mr = 1
section
variable {w W : World} {L : Nat} {a : LgA} {d : LgD}
theorem ex_read (d' : LgD) (b : Bool) (x : Int) (h : Own0 w W L a d) (hb : d.readB x = b) (hd : d.read x = d') :
    Calls Try.prog 13 #[.pointer (some ⟨L, 0, none⟩), .int .i64 x] W fun e W' => e = .returned (.bool b) ∧ ∃ a', Own0 w W' L a' d' := by
  subst hb hd
  exact (read_any L a d x W h.lg).mono fun e W' ⟨he, hs⟩ => ⟨he, h.step hs⟩
theorem ex_keep (b : Bool) (x : Int) (h : Own0 w W L a d) (hb : d.keepB x = b) :
    Calls Try.prog 9 #[.pointer (some ⟨L, 0, none⟩), .int .i64 x] W fun e W' => e = .returned (.bool b) ∧ ∃ a', Own0 w W' L a' (d.keep x) := by
  subst hb
  exact (keep_any L a d x W h.lg).mono fun e W' ⟨he, hs⟩ => ⟨he, h.step hs⟩
theorem ex_undo (d' : LgD) (b : Bool) (u : Un) (h : Own0 w W L a d) (hb : d.undoB = b) (hd : d.undo u = d') :
    Calls Try.prog 14 #[.pointer (some ⟨L, 0, none⟩), .agg #[.int .i64 u.kind, .int .i64 u.at_, .int .i64 u.i, .int .i64 u.old]] W fun e W' => e = .returned (.bool b) ∧ ∃ a', Own0 w W' L a' d' := by
  subst hb hd
  exact (undo_any L a d u W h.lg).mono fun e W' ⟨he, hs⟩ => ⟨he, h.step hs⟩
theorem ex_replace (S : List Int) (X : Option Addr) (c : Nat) (h : Own0 w W L a d) (hX : IntRow W X c S) (hap : ∀ k, rowOf X = some k → ¬ Foot L a k) (hl : S.length = d.roots.length) (hK : d.K = []) :
    Calls Try.prog 20 #[.pointer (some ⟨L, 0, none⟩), .slice X S.length c] W fun e W' => e = .returned (.bool true) ∧ ∃ a' d', Own0 w W' L a' d' ∧ d'.roots = S ∧ d'.K = [] ∧ d'.mr = d.mr := by
  refine (replace_any L a d S X c W h.lg hX hap).mono ?_
  rintro e W' ⟨d', rfl, hs, _, hyes⟩
  obtain ⟨h1, h2⟩ := hyes hl
  obtain ⟨a', ha'⟩ := h.step hs
  exact ⟨by rw [decide_eq_true hl], a', d', ha', h1, by rw [h2]; simp [LgD.reread, hK], by rw [h2]; rfl⟩
theorem ex_replace_no (h : Own0 w W L a d) (hl : 0 < d.roots.length) :
    Calls Try.prog 20 #[.pointer (some ⟨L, 0, none⟩), .slice none 0 0] W fun e W' => e = .returned (.bool false) ∧ ∃ a', Own0 w W' L a' d := by
  refine (replace_any L a d [] none 0 W h.lg (Row.nil _ _ _) (fun k hk => by cases hk)).mono ?_
  have hne : ([] : List Int).length ≠ d.roots.length := by simp; omega
  rintro e W' ⟨d', rfl, hs, hno, _⟩
  rw [hno hne] at hs
  exact ⟨by rw [decide_eq_false hne], h.step hs⟩
theorem ex_roots (h : Own0 w W L a d) :
    Calls Try.prog 11 #[.pointer (some ⟨L, 0, none⟩)] W fun e W' => ∃ A c, e = .returned (.slice A d.roots.length c) ∧ IntRow W' A c d.roots ∧ Own0 w W' L a d :=
  (roots_any L a d W h.lg).mono fun _ _ ⟨A, c, he, hr, hb, _⟩ => ⟨A, c, he, hr, h.fresh hb⟩
theorem ex_ints {A B : Option Addr} {c c' : Nat} {R S : List Int} (b : Bool) (h : Own0 w W L a d) (hR : IntRow W A c R) (hS : IntRow W B c' S) (hb : decide (R = S) = b) :
    Calls Try.prog 10 #[.slice A R.length c, .slice B S.length c'] W fun e W' => e = .returned (.bool b) ∧ Own0 w W' L a d := by
  subst hb
  exact (ints_any A B c c' R S W hR hS).mono fun _ _ ⟨he, hs⟩ => ⟨he, h.fresh hs⟩
end
set_option maxRecDepth 100000 in
set_option maxHeartbeats 4000000 in
theorem awake_any (w : World) : Calls Try.prog 6 #[] w fun e w' => e = .returned (.bool true) ∧ Below w.heap.size w w' := by
  go_enter Try.func6, Try.ntmps6
  go_wp2_with (go_at_call 8; refine (lognew_any 1 1 w).mono ?_; rintro e W ⟨rfl, hl, hb⟩; have H0 := Lib.hid (Own.of_new (E := 3) (size := 1) (Below.refl _ w) hl hb); clear hl hb)
  go_at_call 13
  refine (ex_read exA true 5 H0.out rfl rfl).mono ?_
  rintro e W1 ⟨rfl, a1, h1⟩
  have H1 := Lib.hid h1
  clear h1
  go_wp2_with (fail)
  go_at_call 13
  refine (ex_read exA true 5 H1.out rfl rfl).mono ?_
  rintro e W2 ⟨rfl, a2, h2⟩
  have H2 := Lib.hid h2
  clear h2
  go_wp2_with (fail)
  go_at_call 13
  refine (ex_read exA false 6 H2.out rfl rfl).mono ?_
  rintro e W3 ⟨rfl, a3, h3⟩
  have H3 := Lib.hid h3
  clear h3
  go_wp2_with (fail)
  go_at_call 14
  refine (ex_undo exB true ⟨1, 7, 0, 8⟩ H3.out rfl rfl).mono ?_
  rintro e W4 ⟨rfl, a4, h4⟩
  have H4 := Lib.hid h4
  clear h4
  go_wp2_with (fail)
  go_at_call 14
  refine (ex_undo exB false ⟨0, 0, 0, 0⟩ H4.out rfl rfl).mono ?_
  rintro e W5 ⟨rfl, a5, h5⟩
  have H5 := Lib.hid h5
  clear h5
  go_wp2_with (fail)
  go_at_call 11
  refine (ex_roots H5.out).mono ?_
  rintro e W6 ⟨A6, c6, rfl, hr6, h6⟩
  have H6 := Lib.hid h6
  have R6 := Lib.hid hr6
  clear h6 hr6
  go_wp2_with (fail)
  go_at_call 10
  refine (ex_ints (R := exB.roots) (S := [5, 7, 8]) true (H6.out.alloc _) (R6.out.alloc _) (row_lit W6 _ _ 3 rfl (by decide)) (by decide)).mono ?_
  rintro e W7 ⟨rfl, h7⟩
  have H7 := Lib.hid h7
  clear h7
  go_wp2_with (fail)
  go_at_call 20
  refine (ex_replace [1, 2, 3] _ 3 (H7.out.alloc _) (row_lit W7 _ _ 3 rfl (by decide)) (fun k hk hf => by have := H7.out.lg.foot_lt hf; simp [rowOf] at hk; omega) rfl rfl).mono ?_
  rintro e W8 ⟨rfl, a8, d8, h8, hd8, hk8, hm8⟩
  have H8 := Lib.hid h8
  have D8 := Lib.hid hd8
  have K8 := Lib.hid hk8
  have M8 := Lib.hid hm8
  clear h8 hd8 hk8 hm8
  go_wp2_with (fail)
  go_at_call 20
  refine (ex_replace_no H8.out (by rw [D8.out]; decide)).mono ?_
  rintro e W9 ⟨rfl, a9, h9⟩
  have H9 := Lib.hid h9
  clear h9
  go_wp2_with (fail)
  go_at_call 11
  refine (ex_roots H9.out).mono ?_
  rw [D8.out]
  rintro e W10 ⟨A10, c10, rfl, hr10, h10⟩
  have H10 := Lib.hid h10
  have R10 := Lib.hid hr10
  clear h10 hr10
  go_wp2_with (fail)
  go_at_call 10
  refine (ex_ints (R := [1, 2, 3]) (S := [1, 2, 3]) true (H10.out.alloc _) (R10.out.alloc _) (row_lit W10 _ _ 3 rfl (by decide)) (by decide)).mono ?_
  rintro e W11 ⟨rfl, h11⟩
  have H11 := Lib.hid h11
  clear h11
  go_wp2_with (fail)
  go_at_call 9
  refine (ex_keep true 4 H11.out (by unfold LgD.keepB; rw [K8.out, M8.out]; rfl)).mono ?_
  rintro e W12 ⟨rfl, a12, h12⟩
  have HB := Lib.hid h12.below
  clear h12
  go_wp2
  go_ret
  exact ⟨rfl, HB.out⟩
end Go.Proofs.Ytbmedngnfkkhdaa
