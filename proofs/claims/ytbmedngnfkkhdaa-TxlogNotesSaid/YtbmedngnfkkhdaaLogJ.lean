/-
  PROVED: the contract of package txlog's Replace: all places become others; all else stays. No condition but that the cells hold a log, and that what is handed in lies elsewhere.
-/
import Derived.Test.YtbmedngnfkkhdaaLogI
namespace Go.Proofs.Ytbmedngnfkkhdaa
open Go.RowKit Go.Shelf
attribute [local go_sem] Oper.semAt_some

/-- How far the range has come. -/
def Rng (w : World) (L : Nat) (a : LgA) (d : LgD) (S : List Int) (X : Option Addr) (c : Nat) (pre : List Addr) (W : World) : Prop :=
  Rep w L a d S pre W ∧ ∃ v, Boxed W w.heap.size 22 v ∧ (pre.length < S.length → v = .slice (some ⟨bk X, pre.length, none⟩) (S.length - pre.length) (c - pre.length))
theorem rng_own (w : World) (L : Nat) (a : LgA) (d : LgD) (S : List Int) (X : Option Addr) (c : Nat) (h : LG w L a d) (B : Nat) (hB : w.heap.size ≤ B) {β : Type} (F : β → List Addr) : OwnFrom B (fun (s : β) W => Rng w L a d S X c (F s) W) := by
  rintro s W W' row ⟨hr, v, hb, hv⟩ hg hrow
  refine ⟨hr.grow h ⟨hg.os, hg.tape, hg.output, hg.size, fun i hi => hg.block i (Nat.lt_of_lt_of_le hi hr.only.size) (fun e => ?_)⟩, v, ?_, hv⟩
  · have := (hrow i e.symm).1
    omega
  · exact boxed_own w.heap.size 22 (fun _ : Unit => v) () W W' row hb hg (fun r e => (hrow r e).2)
theorem modify_comm {α : Type} (xs : Array α) (i j : Nat) (f g : α → α) (h : i ≠ j) : (xs.modify i f).modify j g = (xs.modify j g).modify i f := by
  apply Array.ext_getElem?
  intro k
  simp only [Array.getElem?_modify]
  by_cases h1 : j = k <;> by_cases h2 : i = k <;> simp_all
theorem setCell_comm (w : World) (p q : Addr) (u v : Value) (h : p.block ≠ q.block) : (w.setCell p u).setCell q v = (w.setCell q v).setCell p u := by
  unfold World.setCell
  simp only [modify_comm _ _ _ _ _ h]
/-- What a round does. -/
theorem rng_step {w W W' : World} {L : Nat} {a : LgA} {d : LgD} {S : List Int} {X : Option Addr} {c B bx : Nat} {pre : List Addr} {p : Addr} {v : Int} {s : Value} (h : LG w L a d) (hr : Rng w L a d S X c pre W) (hp : p ∈ allAt a d) (hv : S[pre.length]? = some v)
    (hs : pre.length + 1 < S.length → s = .slice (some ⟨bk X, pre.length + 1, none⟩) (S.length - (pre.length + 1)) (c - (pre.length + 1))) (hB : w.heap.size < B) (hbx : w.heap.size < bx) (hbB : bx < B)
    (hW : W' = (W.setCell p (.int .i64 v)).setCell ⟨w.heap.size, 0, none⟩ s ∨ W' = (W.setCell ⟨w.heap.size, 0, none⟩ s).setCell p (.int .i64 v)) :
    KeepsFrom B W W' ∧ KpL L a d B bx W W' ∧ Rng w L a d S X c (pre ++ [p]) W' := by
  obtain ⟨hrep, v0, hb, _⟩ := hr
  obtain ⟨y, hy⟩ := mem_at (roots_at h) hp
  have hpl := cell_lt hy
  have hcomm : W' = (W.setCell p (.int .i64 v)).setCell ⟨w.heap.size, 0, none⟩ s := by
    rcases hW with e | e
    · exact e
    · rw [e]
      exact setCell_comm _ _ _ _ _ (by simp only; omega)
  subst hcomm
  have hblk : ∀ i, i ≠ p.block → i ≠ w.heap.size → ((W.setCell p (.int .i64 v)).setCell ⟨w.heap.size, 0, none⟩ s).heap[i]? = W.heap[i]? := fun i h1 h2 => (Below.heap_setCell _ _ _ i h2).trans (Below.heap_setCell _ _ _ i h1)
  have hrow := allAt_row h hp
  have hne : L ≠ p.block := by
    obtain ⟨n1, n2, n3, n4⟩ := h.notL
    intro e
    rw [← e] at hrow
    rcases hrow with e | e | e | e
    · exact n1 e
    · exact n2 e
    · exact n3 e
    · exact n4 e
  have hlt := h.lt
  refine ⟨((KeepsOthers.setCell _ _ _).trans (KeepsOthers.setCell _ _ _)).from _, ⟨by simp [World.setCell], hblk L hne (by omega), hblk bx (by omega) (by omega), ?_, ?_⟩, ?_, s, ?_, ?_⟩
  · intro k hk
    obtain ⟨g, hA, hgl, _⟩ := h.u.at_ (by omega)
    have e : bk a.aU = g := by rw [hA]; rfl
    rw [e]
    refine (World.cell?_of_block (a := ⟨g, k * 4, none⟩) (Below.heap_setCell _ _ _ g (by simp only; omega))).trans (World.cell?_setCell_other _ _ _ _ ?_)
    rintro rfl
    obtain ⟨k', _, hk' | ⟨hk', _⟩⟩ := mem_u_off h (by rw [hA]; rfl) hp <;> omega
  · intro i cs fr hi hc
    rw [hblk i (by omega) (by omega)]
    exact hc
  · exact (Rep.step h hrep hp hv).grow h ((Below.refl w.heap.size _).setCell (p := ⟨w.heap.size, 0, none⟩) (Nat.le_refl _) s)
  · have hb' : Boxed (W.setCell p (.int .i64 v)) w.heap.size 22 v0 := (Below.heap_setCell W p _ _ (by omega)).trans hb
    exact hb'.set s
  · intro hl
    have e : (pre ++ [p]).length = pre.length + 1 := by simp
    rw [e] at hl ⊢
    exact hs hl

theorem rng_drew {w W W' : World} {L : Nat} {a : LgA} {d : LgD} {S : List Int} {X : Option Addr} {c B bx : Nat} {pre : List Addr} (h : KeepsFrom B W W' ∧ KpL L a d B bx W W' ∧ Rng w L a d S X c pre W') :
    KeepsFrom B W W'.drew ∧ KpL L a d B bx W W'.drew ∧ Rng w L a d S X c pre W'.drew :=
  ⟨⟨h.1.size, h.1.same⟩, ⟨h.2.1.size, h.2.1.head, h.2.1.box, h.2.1.kinds, h.2.1.rows⟩, ⟨h.2.2.1.only.drew, h.2.2.1.shape, h.2.2.1.other, h.2.2.1.good⟩, h.2.2.2⟩
theorem rep_cell {w W : World} {L : Nat} {a : LgA} {d : LgD} {S : List Int} {pre : List Addr} {p : Addr} (h : LG w L a d) (hr : Rep w L a d S pre W) (hp : p ∈ allAt a d) : (∃ u, W.cell? p = some u) ∧ W.frozen? p = false ∧ Foot L a p.block := by
  obtain ⟨y, hy⟩ := mem_at (roots_at h) hp
  have key : ∀ (E size n c : Nat) (A : Option Addr) (xs : List Value), Row w E size A n c xs → rowOf A = some p.block → (∃ u, W.cell? p = some u) ∧ W.frozen? p = false := by
    intro E size n c A xs hR hA
    rcases hR.form with ⟨rfl, _⟩ | ⟨g, cur, rfl, hh, _⟩
    · cases hA
    · obtain rfl : g = p.block := by simpa [rowOf] using hA
      obtain ⟨cs', h1, h2⟩ := hr.shape _ _ _ _ hh
      rw [allAt_plain hp] at hy ⊢
      simp only [World.cell?, hh, wordAt] at hy
      have ho : p.off < cur.size := by
        rcases Nat.lt_or_ge p.off cur.size with hl | hl
        · exact hl
        · simp [Array.getElem?_eq_none hl] at hy
      refine ⟨⟨cs'[p.off]'(by omega), ?_⟩, ?_⟩
      · simp [World.cell?, h1, h2, ho]
      · simp [World.frozen?, h1]
  rcases allAt_row h hp with e | e | e | e
  · obtain ⟨h1, h2⟩ := key _ _ _ _ _ _ h.r e
    exact ⟨h1, h2, .inr (.inl e)⟩
  · obtain ⟨h1, h2⟩ := key _ _ _ _ _ _ h.k e
    exact ⟨h1, h2, .inr (.inr (.inl e))⟩
  · obtain ⟨h1, h2⟩ := key _ _ _ _ _ _ h.h e
    exact ⟨h1, h2, .inr (.inr (.inr (.inl e)))⟩
  · obtain ⟨h1, h2⟩ := key _ _ _ _ _ _ h.u e
    exact ⟨h1, h2, .inr (.inr (.inr (.inr e)))⟩
/-- A region that does not stop the walk: whatever is wanted of a panic. -/
theorem wp_nopanic {P : Program} {c : Code} {K : Act → World → Prop} {Q : Exit → Act → World → Prop} {a : Act} {w : World} (h : c.wp P (Exit.then K (fun _ _ _ => False)) a w) : c.wp P (Exit.then K Q) a w :=
  wp_mono h (fun e a w he => by cases e <;> first | exact he | exact False.elim he)
theorem wp_then {P : Program} {c : Code} {K : Act → World → Prop} {Q : Exit → Act → World → Prop} {a : Act} {w : World} (K' : Act → World → Prop) (h : c.wp P (Exit.then K' (fun _ _ _ => False)) a w) (hK : ∀ a w, K' a w → K a w) : c.wp P (Exit.then K Q) a w :=
  wp_mono h (fun e a w he => by cases e <;> first | exact hK _ _ he | exact False.elim he)
theorem replace_no (L : Nat) (a : LgA) (d : LgD) (S : List Int) (X : Option Addr) (c : Nat) (w : World) (h : LG w L a d) (hX : IntRow w X c S) (hne : S.length ≠ d.roots.length) :
    Calls Try.prog 20 #[.pointer (some ⟨L, 0, none⟩), .slice X S.length c] w fun e w' => e = .returned (.bool false) ∧ Below w.heap.size w w' := by
  have hlt := h.lt
  have hlen := roots_len h
  have HL := Lib.hid h
  have hbig := hX.big
  have hnb : ((S.length : Int) != (d.roots.length : Int)) = true := by simp; omega
  have bx : (w.alloc (.cells #[.slice X S.length c] 22)).cell? ⟨w.heap.size, 0, none⟩ = some (.slice X S.length c) := cell_of_block (heap_alloc_new w _) 0
  have BX := Lib.hid bx
  clear h hX bx
  have BXd := Lib.hid ((show (w.alloc (.cells #[.slice X S.length c] 22)).drew.cell? ⟨w.heap.size, 0, none⟩ = some (.slice X S.length c) from BX.out))
  go_enter Try.func20, Try.ntmps20
  go_wp2
  go_region_with (go_at_call 11; refine (roots_any L a d _ (by first | exact (HL.out.alloc _).drew | exact HL.out.alloc _)).mono ?_; rintro e w' ⟨A', c', rfl, hr⟩; have cbx : w'.cell? ⟨w.heap.size, 0, none⟩ = some (.slice X S.length c) := (hr.2.1.cell (by simp)).trans BXd.out; have HR := Lib.hid hr; clear hr)
  all_goals
    go_wp2
    go_ret
    exact ⟨rfl, ((Below.refl _ w).alloc (Nat.le_refl _) _).trans (((below_drew' _).mono (by simp)).trans (HR.out.2.1.mono (by simp)))⟩

set_option maxRecDepth 100000 in
set_option maxHeartbeats 4000000 in
theorem replace_yes (L : Nat) (a : LgA) (d : LgD) (S : List Int) (X : Option Addr) (c : Nat) (w : World) (h : LG w L a d) (hX : IntRow w X c S) (heq : S.length = d.roots.length) (hap : ∀ k, rowOf X = some k → ¬ Foot L a k) :
    Calls Try.prog 20 #[.pointer (some ⟨L, 0, none⟩), .slice X S.length c] w fun e w' => e = .returned (.bool true) ∧ Rep w L a d S (allAt a d) w' := by
  have hlt := h.lt
  have hlen := roots_len h
  have hall := allAt_len h
  have HL := Lib.hid h
  have HX := Lib.hid hX
  have HAP := Lib.hid hap
  have hnb : ((S.length : Int) != (d.roots.length : Int)) = false := by simp; omega
  have bx : (w.alloc (.cells #[.slice X S.length c] 22)).cell? ⟨w.heap.size, 0, none⟩ = some (.slice X S.length c) := cell_of_block (heap_alloc_new w _) 0
  have BX := Lib.hid bx
  have HEQ := Lib.hid heq
  have BXd := Lib.hid ((show (w.alloc (.cells #[.slice X S.length c] 22)).drew.cell? ⟨w.heap.size, 0, none⟩ = some (.slice X S.length c) from BX.out))
  clear h hX bx hap heq
  refine (callsIn_wide (n := 6)).1 ?_
  refine callsIn_of_wp_marks Try.func20 rfl trivial ?_ rfl
  simp only [Try.ntmps20, List.size_toArray, List.length_cons, List.length_nil, Nat.reduceAdd, Nat.reduceSub, Array.replicate_succ, Array.replicate_zero, List.push_toArray, List.append_toArray, List.nil_append, List.cons_append]
  gi_wp2
  refine wpIn_wide.2 (wp_then (fun a' w' => ∃ A' c', a' = { tmps := #[.pointer (some ⟨L, 0, none⟩), .slice X S.length c, undef, .pointer (some ⟨w.heap.size, 0, none⟩), .bool false, undef, .slice X S.length c, .int .i64 S.length, .pointer (some ⟨L, 0, none⟩), .slice A' d.roots.length c', .int .i64 d.roots.length, .bool false,
      undef, undef, undef, undef, undef, undef, undef, undef, undef, undef], defers := [] } ∧ Below w.heap.size w w' ∧ w.heap.size + 1 ≤ w'.heap.size ∧ Boxed w' w.heap.size 22 (.slice X S.length c)) ?_ ?_)
  · go_region_with (go_at_call 11; refine (roots_any L a d _ (by first | exact (HL.out.alloc _).drew | exact HL.out.alloc _)).mono ?_; rintro e w' ⟨A', c', rfl, hr⟩; have cbx : w'.cell? ⟨w.heap.size, 0, none⟩ = some (.slice X S.length c) := (hr.2.1.cell (by simp)).trans BXd.out; have HR := Lib.hid hr; clear hr)
    all_goals
      refine ⟨A', c', rfl, ?_, ?_, ?_⟩
      · exact ((Below.refl _ w).alloc (Nat.le_refl _) _).trans (((below_drew' _).mono (by simp)).trans (HR.out.2.1.mono (by simp)))
      · have := HR.out.2.1.size
        simpa using this
      · exact (HR.out.2.1.block w.heap.size (by simp)).trans (heap_alloc_new w _)
  · rintro a' w' ⟨A', c', rfl, hb0, hsw, hbox0⟩
    gi_wp2_with (refine ⟨trivial, ?_⟩; gi_at_call 23; refine (callsIn_wide.2 (places_any _ _)).mono ?_; rintro e w2 ⟨rfl, rfl⟩)
    obtain ⟨W0, hW0⟩ : ∃ W0, (w'.alloc (.cells #[.pointer (some ⟨L, 0, none⟩)] 25)) = W0 := ⟨_, rfl⟩
    have hsz : W0.heap.size = w'.heap.size + 1 := by rw [← hW0]; simp
    have hbx : W0.heap[w'.heap.size]? = some (.cells #[.pointer (some ⟨L, 0, none⟩)] 25 (0, 0)) := by rw [← hW0]; exact heap_alloc_new w' _
    have hbel : Below w.heap.size w W0 := by rw [← hW0]; exact hb0.alloc (by omega) _
    have hbox1 : Boxed W0 w.heap.size 22 (.slice X S.length c) := by rw [← hW0]; exact hbox0.alloc _
    rw [hW0]
    have HBEL := Lib.hid hbel
    clear hW0 hb0 hbox0 hbel
    refine wpIn_rangeFunc_ownG rfl (by omega) (gf := 30) (lb := #[.pointer (some ⟨w'.heap.size, 0, none⟩)]) rfl trivial (enters_of Try.func30 (by kernel_rfl) rfl)
      (places1_stops L W0.heap.size w'.heap.size a d W0 (HL.out.below HBEL.out) (Nat.le_refl _) hbx)
      (fun h k => KpL.trans h k) (KpL.put (by omega) (by omega) (fun hp => by obtain ⟨g, hg, hgl, _⟩ := HL.out.u.at_ hp; rw [hg]; simp [bk, rowOf]; omega)) (Below.refl _ _) (fun _ => rfl)
      (fun pre W => Rng w L a d S X c (pre.map (·.1)) W)
      (fun c pre W => False)
      (rng_own w L a d S X c HL.out _ (by omega) _)
      (fun c => fun _ _ _ _ h _ _ => h)
      ⟨Rep.start w L a d S HBEL.out, _, hbox1, fun hp => by
        obtain ⟨g, hg, _⟩ := HX.out.at_ hp
        rw [hg]
        rfl⟩
      (fun x => { tmps := #[.pointer (some ⟨L, 0, none⟩), .slice X S.length c, undef, .pointer (some ⟨w.heap.size, 0, none⟩), .bool false, .pointer (some x.1), .slice X S.length c, .int .i64 S.length, .pointer (some ⟨L, 0, none⟩), .slice A' d.roots.length c', .int .i64 d.roots.length, .bool false,
          .pointer (some ⟨L, 0, none⟩), .func (.func 30) #[] #[.pointer (some ⟨w'.heap.size, 0, none⟩)], .pointer (some x.1), undef, undef, undef, undef, undef, undef, undef], defers := [] }) ?assign ?body ?done ?stop
    case assign =>
      intro l x W K hK
      gi_wp2
      exact hK
    case body =>
      rintro l pre ⟨p, hpm⟩ W hrng hl
      have hrng' := hrng
      obtain ⟨hrep, v0, hb, hv0⟩ := hrng'
      have hj : pre.length < S.length := by rw [HEQ.out, ← hall]; exact hl
      obtain ⟨j, hjj⟩ : ∃ j, j = pre.length := ⟨_, rfl⟩
      have hmj : (pre.map (·.1)).length = j := by rw [List.length_map, hjj]
      rw [← hjj] at hj
      obtain ⟨g, hgX, hgl, hgc⟩ := HX.out.get hj
      have hnc : S.length ≤ c := by
        rcases HX.out.form with ⟨e, _⟩ | ⟨_, _, _, _, h1, _⟩
        · rw [hgX] at e; cases e
        · exact h1
      have hbk : bk X = g := by rw [hgX]; rfl
      have hgF : ¬ Foot L a g := HAP.out g (by rw [hgX]; rfl)
      obtain ⟨v, hv⟩ : ∃ v, v = S[j] := ⟨_, rfl⟩
      rw [← hv] at hgc
      have hsc : W.cell? ⟨g, j, none⟩ = some (.int .i64 v) := (hrep.only.cell (p := ⟨g, j, none⟩) hgl (fun e => hgF e.1)).trans hgc
      obtain ⟨m, hm⟩ : ∃ m, S.length = j + (m + 1) := ⟨S.length - j - 1, by omega⟩
      obtain ⟨q, hq⟩ : ∃ q, c = j + (q + 1) := ⟨c - j - 1, by omega⟩
      have hv1 := hv0 (by rw [hmj]; exact hj)
      rw [hmj, hbk, show S.length - j = m + 1 by omega, show c - j = q + 1 by omega] at hv1
      subst hv1
      have hc0 := hb.cell
      have hf0 := hb.frozen
      have hpc := pl_cell HL.out ⟨p, hpm⟩
      have hplt := cell_lt hpc
      obtain ⟨pb, po, rfl⟩ : ∃ pb po, p = ⟨pb, po, none⟩ := ⟨_, _, allAt_plain hpm⟩
      simp only at hplt
      have hmq : m ≤ q := by omega
      have hstep := fun (s : Value) (hs : (pre.map (·.1)).length + 1 < S.length → s = Value.slice (some ⟨bk X, (pre.map (·.1)).length + 1, none⟩) (S.length - ((pre.map (·.1)).length + 1)) (c - ((pre.map (·.1)).length + 1))) (W' : World) hW' =>
        rng_step (W' := W') (B := W0.heap.size) (bx := w'.heap.size) (v := v) (s := s) HL.out hrng hpm (by rw [hmj, List.getElem?_eq_getElem hj, hv]) hs (by omega) (by omega) (by omega) hW'
      rw [hmj, hbk, show S.length - (j + 1) = m by omega, show c - (j + 1) = q by omega] at hstep
      have HST := Lib.hid hstep
      have HM := Lib.hid hm
      obtain ⟨⟨u, hu⟩, hfu, hFp⟩ := rep_cell HL.out hrep hpm
      simp only at hFp
      have hpg : pb ≠ g := by rintro rfl; exact hgF hFp
      have hpg' : g ≠ pb := fun e => hpg e.symm
      have hne : pb ≠ w.heap.size := by omega
      have hne' : w.heap.size ≠ pb := fun e => hne e.symm
      have hge : g ≠ w.heap.size := by omega
      have hge' : w.heap.size ≠ g := fun e => hge e.symm
      have HPL := Lib.hid (show (pre ++ [(⟨⟨pb, po, none⟩, hpm⟩ : Pl a d)]).map (·.1) = pre.map (·.1) ++ [⟨pb, po, none⟩] by rw [List.map_append]; rfl)
      clear hrng hrep hb hv0 hpc hgc hstep hm hq hv hmj hjj hl hgF hFp hgX hbk hnc hbx hbox1 hsz hsw hall hj
      rcases q with _ | q
      · obtain rfl : m = 0 := by omega
        have H1 := Lib.hid (fun W' hW' => rng_drew (HST.out (.slice (some ⟨g, j, none⟩) 0 0) (fun h => absurd h (by have := HM.out; omega)) W' hW'))
        gi_wp2
        gi_region
        all_goals
          have HF := H1.out _ (by first | exact .inl rfl | exact .inr rfl)
          refine ⟨HF.1, HF.2.1, ?_⟩
          show Rng w L a d S X c ((pre ++ [(⟨⟨pb, po, none⟩, hpm⟩ : Pl a d)]).map (·.1)) _
          rw [HPL.out]
          exact HF.2.2
      · have H1 := Lib.hid (fun W' hW' => rng_drew (HST.out (.slice (some ⟨g, j + 1, none⟩) m (q + 1)) (fun _ => rfl) W' hW'))
        gi_wp2
        gi_region
        all_goals
          have HF := H1.out _ (by first | exact .inl rfl | exact .inr rfl)
          refine ⟨HF.1, HF.2.1, ?_⟩
          show Rng w L a d S X c ((pre ++ [(⟨⟨pb, po, none⟩, hpm⟩ : Pl a d)]).map (·.1)) _
          rw [HPL.out]
          exact HF.2.2
    case done =>
      rintro D ys W hD hys hR hK
      rw [hys] at hR
      gi_wp2
      obtain ⟨hr', _⟩ := rng_own w L a d S X c HL.out W0.heap.size (by omega) (fun _ : Unit => allAt a d) () W _ (some D) hR (grownBy_putObj' W D (.deferred none)) (fun r e => by cases e; exact ⟨hD, _, hK, rfl⟩)
      refine ⟨by simp, .inl ⟨_, _, rfl, run_takeDeferred hK, ?_⟩⟩
      refine ⟨.bool true, ?_, rfl, hr'⟩
      simp [results, Try.f20, go_sem]
    case stop =>
      rintro D c pre W hD _ hF _
      exact hF.elim
theorem replace_any (L : Nat) (a : LgA) (d : LgD) (S : List Int) (X : Option Addr) (c : Nat) (w : World) (h : LG w L a d) (hX : IntRow w X c S) (hap : ∀ k, rowOf X = some k → ¬ Foot L a k) :
    Calls Try.prog 20 #[.pointer (some ⟨L, 0, none⟩), .slice X S.length c] w fun e w' => ∃ d', e = .returned (.bool (decide (S.length = d.roots.length))) ∧ Stepped w w' L a d' ∧
      (S.length ≠ d.roots.length → d' = d) ∧ (S.length = d.roots.length → d'.roots = S ∧ d' = d.reread a w') := by
  by_cases heq : S.length = d.roots.length
  · refine (replace_yes L a d S X c w h hX heq hap).mono ?_
    rintro e w' ⟨rfl, hr⟩
    obtain ⟨h1, h2⟩ := hr.finish h heq
    exact ⟨d.reread a w', by rw [decide_eq_true heq], ⟨a, h1, hr.only.mono (fun i _ hi => hi.1), fun i hi => .inl hi⟩, fun hn => absurd heq hn, fun _ => ⟨h2, rfl⟩⟩
  · refine (replace_no L a d S X c w h hX heq).mono ?_
    rintro e w' ⟨rfl, hb⟩
    exact ⟨d, by rw [decide_eq_false heq], Stepped.same h hb, fun _ => rfl, fun he => absurd he heq⟩
end Go.Proofs.Ytbmedngnfkkhdaa
