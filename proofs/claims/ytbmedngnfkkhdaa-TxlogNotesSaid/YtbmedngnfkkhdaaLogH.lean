/-
  PROVED: the contract of package txlog's Roots: all places, in their order. No condition but that the cells hold a log.
-/
import Derived.Test.YtbmedngnfkkhdaaLogG
import Derived.Stop.RegionWithIn
namespace Go.Proofs.Ytbmedngnfkkhdaa
open Go.RowKit Go.Shelf
attribute [local go_sem] Oper.semAt_some
attribute [-go_sem] Builtin.append_

def unRoots (u : Un) : List Int := if u.kind = 1 then [u.at_, u.old] else [u.at_]
/-- All places. -/
def LgD.roots (d : LgD) : List Int := d.R ++ (d.K ++ (d.H.map (·.1) ++ d.U.flatMap unRoots))
def wordAt (x : Int) : Option Value := some (.int .i64 x)
theorem seg_map {α : Type} (c : Addr → Option Value) (f : Nat → List Addr) (G : α → List Int) (xs : List α) (h : ∀ k (hk : k < xs.length), (f k).map c = (G xs[k]).map wordAt) :
    (seg f xs.length 0).map c = (xs.flatMap G).map wordAt := by
  have key : ∀ m k, k + m = xs.length → (seg f xs.length k).map c = ((xs.drop k).flatMap G).map wordAt := by
    intro m
    induction m with
    | zero =>
      intro k hk
      obtain rfl : k = xs.length := by omega
      simp [seg_end]
    | succ m ih =>
      intro k hk
      have hk' : k < xs.length := by omega
      rw [seg_step hk', List.drop_eq_getElem_cons hk', List.map_append, List.flatMap_cons, List.map_append, h k hk', ih (k + 1) (by omega)]
  exact key xs.length 0 (by omega)
theorem flatMap_one (R : List Int) : R.flatMap (fun x => [x]) = R := by
  induction R with
  | nil => rfl
  | cons x R ih => simp [ih]
theorem flatMap_fst (H : List (Int × Int)) : H.flatMap (fun x => [x.1]) = H.map (·.1) := by
  induction H with
  | nil => rfl
  | cons x R ih => simp [ih]
theorem roots_at {w : World} {L : Nat} {a : LgA} {d : LgD} (h : LG w L a d) : (allAt a d).map w.cell? = d.roots.map wordAt := by
  have e1 : (seg (fI a.aR) d.R.length 0).map w.cell? = d.R.map wordAt := by
    rw [seg_map w.cell? _ (fun x => [x]) d.R, flatMap_one]
    intro k hk
    obtain ⟨g, hA, _, hc⟩ := h.r.get hk
    simp [fI, bk, rowOf, hA, wordAt, hc]
  have e2 : (seg (fI a.aK) d.K.length 0).map w.cell? = d.K.map wordAt := by
    rw [seg_map w.cell? _ (fun x => [x]) d.K, flatMap_one]
    intro k hk
    obtain ⟨g, hA, _, hc⟩ := h.k.get hk
    simp [fI, bk, rowOf, hA, wordAt, hc]
  have e3 : (seg (fH a.aH) d.H.length 0).map w.cell? = (d.H.map (·.1)).map wordAt := by
    rw [seg_map w.cell? _ (fun x => [x.1]) d.H, flatMap_fst]
    intro k hk
    obtain ⟨g, hA, _, hc, _⟩ := h.h.at_ (by omega)
    simp [fH, bk, rowOf, hA, wordAt, hc _ _ (hdCells_at d.H hk).1]
  have e4 : (seg (fU a.aU d.U) d.U.length 0).map w.cell? = (d.U.flatMap unRoots).map wordAt := by
    refine seg_map w.cell? _ unRoots d.U ?_
    intro k hk
    obtain ⟨g, hA, _, hc, _⟩ := h.u.at_ (by omega)
    obtain ⟨_, p2, _, p4⟩ := unCells_at d.U hk
    have e : bk a.aU = g := by rw [hA]; rfl
    have ek : kindOf d.U k = d.U[k].kind := by simp [kindOf, List.getElem?_eq_getElem hk]
    by_cases h1 : d.U[k].kind = 1
    · simp [fU, unRoots, ek, h1, e, hc _ _ p2, hc _ _ p4, wordAt]
    · simp [fU, unRoots, ek, h1, e, hc _ _ p2, wordAt]
  unfold allAt LgD.roots
  simp only [List.map_append, e1, e2, e3, e4]
/-- The number at a place. -/
def valOf (w : World) (p : Addr) : Int := match w.cell? p with
  | some (.int _ x) => x
  | _ => 0
theorem mem_at {α β : Type} {f : α → β} {g : Int → β} : ∀ {xs : List α} {ys : List Int} {x : α}, xs.map f = ys.map g → x ∈ xs → ∃ y, f x = g y := by
  intro xs
  induction xs with
  | nil => intro ys x _ hx; cases hx
  | cons z xs ih =>
    intro ys x h hx
    cases ys with
    | nil => cases h
    | cons y ys =>
      simp only [List.map_cons, List.cons.injEq] at h
      rcases List.mem_cons.1 hx with rfl | hx
      · exact ⟨y, h.1⟩
      · exact ih h.2 hx
theorem pl_cell {w : World} {L : Nat} {a : LgA} {d : LgD} (h : LG w L a d) (p : Pl a d) : w.cell? p.1 = some (.int .i64 (valOf w p.1)) := by
  obtain ⟨y, hy⟩ := mem_at (roots_at h) p.2
  unfold valOf
  rw [hy]
  rfl
theorem cell_lt {w : World} {p : Addr} {v : Value} (h : w.cell? p = some v) : p.block < w.heap.size := by
  rcases Nat.lt_or_ge p.block w.heap.size with hl | hl
  · exact hl
  · simp [World.cell?, Array.getElem?_eq_none hl] at h
theorem map_valOf {w : World} {xs : List Addr} {ys : List Int} (h : xs.map w.cell? = ys.map wordAt) : xs.map (valOf w) = ys := by
  induction xs generalizing ys with
  | nil => cases ys with
    | nil => rfl
    | cons y ys => cases h
  | cons x xs ih => cases ys with
    | nil => cases h
    | cons y ys =>
      simp only [List.map_cons, List.cons.injEq] at h
      simp only [List.map_cons, List.cons.injEq]
      refine ⟨?_, ih h.2⟩
      unfold valOf
      rw [h.1]
      rfl
theorem roots_val {w : World} {L : Nat} {a : LgA} {d : LgD} (h : LG w L a d) : (allAt a d).map (valOf w) = d.roots := map_valOf (roots_at h)
theorem allAt_len {w : World} {L : Nat} {a : LgA} {d : LgD} (h : LG w L a d) : (allAt a d).length = d.roots.length := by rw [← roots_val h, List.length_map]
theorem flatMap_len2 (U : List Un) : (U.flatMap unRoots).length ≤ 2 * U.length := by
  induction U with
  | nil => simp
  | cons u U ih =>
    simp only [List.flatMap_cons, List.length_append, List.length_cons]
    have : (unRoots u).length ≤ 2 := by unfold unRoots; split <;> simp
    omega
theorem roots_len {w : World} {L : Nat} {a : LgA} {d : LgD} (h : LG w L a d) : d.roots.length ≤ 1000 := by
  unfold LgD.roots
  have := flatMap_len2 d.U
  have := h.lr
  have := h.lk
  have := h.lh
  have := h.lu
  have := h.mr
  have := h.mu
  simp only [List.length_append, List.length_map]
  omega

/-- Two boxes, one behind the other. -/
theorem boxes2 {w W0 : World} {v0 v1 : Value} {t0 t1 : TypeId} (h : ((w.alloc (.cells #[v0] t0)).alloc (.cells #[v1] t1)) = W0) :
    Boxed W0 w.heap.size t0 v0 ∧ Boxed W0 (w.heap.size + 1) t1 v1 ∧ Below w.heap.size w W0 ∧ W0.heap.size = w.heap.size + 2 := by
  subst h
  have b0 := Boxed.new w t0 v0
  have b1 := Boxed.new (w.alloc (.cells #[v0] t0)) t1 v1
  simp only [World.size_alloc] at b1
  exact ⟨b0.alloc _, b1, ((Below.refl _ w).alloc (Nat.le_refl _) _).alloc (by simp) _, by simp⟩

/-- What the range has gathered. -/
def Gath (w : World) (R : List Int) (W : World) : Prop := (Below w.heap.size w W ∧ w.heap.size + 2 ≤ W.heap.size) ∧ ∃ A c, Boxed W w.heap.size 22 (.slice A R.length c) ∧ IntRow W A c R ∧ ∀ k, rowOf A = some k → w.heap.size + 2 ≤ k
theorem gath_own (w : World) (B : Nat) (hB : w.heap.size ≤ B) {β : Type} (F : β → List Int) : OwnFrom B (fun (s : β) W => Gath w (F s) W) := by
  rintro s W W' row ⟨⟨hb, hs2⟩, A, c, hbox, hr, hk⟩ hg hrow
  refine ⟨⟨?_, Nat.le_trans hs2 hg.size⟩, A, c, ?_, ?_, hk⟩
  · refine hb.trans ⟨hg.os, hg.tape, hg.output, hg.size, fun i hi => hg.block i (Nat.lt_of_lt_of_le hi hb.size) (fun e => ?_)⟩
    have := (hrow i e.symm).1
    omega
  · exact boxed_own w.heap.size 22 (fun _ : Unit => Value.slice A (F s).length c) () W W' row hbox hg (fun r e => (hrow r e).2)
  · refine hr.keep fun g hgg => hg.block g (hr.lt hgg) (fun e => ?_)
    obtain ⟨_, o, ho, hc⟩ := hrow g e.symm
    rcases hr.form with ⟨rfl, _⟩ | ⟨g', cur, rfl, hh, _⟩
    · cases hgg
    · have : g' = g := by simpa [rowOf] using hgg
      subst this
      rw [hh] at ho
      injection ho with ho
      subst ho
      cases hc
theorem infoInt_parts : ∃ i0, Try.prog.info? 3 = some i0 ∧ i0.zero = some (.int .i64 0) ∧ i0.size = 1 ∧ i0.bytes = 8 := info_parts infoInt

theorem push_gath {w W w1 : World} {L B g c c' : Nat} {a : LgA} {d : LgD} {A : Option Addr} {R : List Int} {v : Int} {o : Obj} (h : LG w L a d) (hbl : Below w.heap.size w W) (hsW : w.heap.size + 2 ≤ W.heap.size)
    (hbx : Boxed W w.heap.size 22 (.slice A R.length c)) (hr : IntRow W A c R) (hk : ∀ k, rowOf A = some k → w.heap.size + 2 ≤ k) (hB : w.heap.size + 2 ≤ B)
    (hown : w1.ownsRow 0 3 1 (.slice (some ⟨g, 0, none⟩) (R.length + 1) c') (R.length + 1) (intCells R ++ [.int .i64 v])) (hgrow : ((W.alloc o).drew).grownBy w1 (Value.slice A R.length c).ownBlock)
    (hat : (Value.slice A R.length c).ownBlock = some g ∨ g = ((W.alloc o).drew).heap.size) :
    KeepsFrom B W (w1.setCell ⟨w.heap.size, 0, none⟩ (.slice (some ⟨g, 0, none⟩) (R.length + 1) c')) ∧ KpL L a d (w.heap.size + 2) (w.heap.size + 1) W (w1.setCell ⟨w.heap.size, 0, none⟩ (.slice (some ⟨g, 0, none⟩) (R.length + 1) c')) ∧
      Gath w (R ++ [v]) (w1.setCell ⟨w.heap.size, 0, none⟩ (.slice (some ⟨g, 0, none⟩) (R.length + 1) c')) := by
  have hA : rowOf A ≠ some w.heap.size := fun e => by have := hk _ e; omega
  have P := pushed_of (o := 0) (((Below.refl _ W).alloc (Nat.le_refl _) o).trans ((below_drew' _).mono (by simp))) hA (by omega) hown hgrow hat
  have hlt := h.lt
  have hnot : ∀ i, i ≠ w.heap.size → rowOf A ≠ some i → ¬ (i = w.heap.size ∨ rowOf A = some i) := fun i h1 h2 h3 => h3.elim h1 h2
  have hlow : ∀ i, i < w.heap.size + 2 → rowOf A ≠ some i := fun i hi e => by have := hk _ e; omega
  have hsz := P.only.size
  refine ⟨⟨hsz, fun k o' hkB hko hcs => ?_⟩, ⟨hsz, ?_, ?_, ?_, ?_⟩, ⟨Only.below hbl P.only ?_, by omega⟩, some ⟨g, 0, none⟩, c', ?_, ?_, ?_⟩
  · refine (P.only.block k (lt_of_block hko) (hnot k (by omega) (fun e => ?_))).trans hko
    rcases hr.form with ⟨rfl, _⟩ | ⟨g', cur, rfl, hh, _⟩
    · cases e
    · have : g' = k := by simpa [rowOf] using e
      subst this
      rw [hh] at hko
      injection hko with hko
      subst hko
      cases hcs
  · exact P.only.block L (by omega) (hnot L (by omega) (hlow L (by omega)))
  · exact P.only.block _ (by omega) (hnot _ (by omega) (hlow _ (by omega)))
  · intro k hkU
    obtain ⟨g', hg, hgl, _⟩ := h.u.at_ (by omega)
    have e : bk a.aU = g' := by rw [hg]; rfl
    refine World.cell?_of_block (P.only.block _ ?_ (hnot _ ?_ (hlow _ ?_))) <;> simp only [e] <;> omega
  · intro i cs fr hi hc
    exact (P.only.block i (lt_of_block hc) (hnot i (by omega) (hr.not_block hc (by decide)))).trans hc
  · intro i hi
    rcases hi with rfl | hi
    · exact Nat.le_refl _
    · have := hk _ hi
      omega
  · have := P.fld _ _ hbx
    simpa [Boxed] using this
  · have := P.row
    simpa [IntRow, intCells] using this
  · intro k hkk
    rcases P.new_ k hkk with e | e
    · exact hk _ e
    · omega

set_option maxRecDepth 100000 in
set_option maxHeartbeats 4000000 in
theorem roots_any (L : Nat) (a : LgA) (d : LgD) (w : World) (h : LG w L a d) :
    Calls Try.prog 11 #[.pointer (some ⟨L, 0, none⟩)] w (Cloned 3 1 d.roots.length (intCells d.roots) w) := by
  refine (callsIn_wide (n := 6)).1 ?_
  have hlt := h.lt
  have hlen := roots_len h
  have hall := allAt_len h
  obtain ⟨i0, hi, hz0, hz1, hz2⟩ := infoInt_parts
  refine callsIn_of_wp_marks Try.func11 rfl trivial ?_ rfl
  simp only [Try.ntmps11, List.size_toArray, List.length_cons, List.length_nil, Nat.reduceAdd, Nat.reduceSub, Array.replicate_succ, Array.replicate_zero, List.push_toArray, List.append_toArray, List.nil_append, List.cons_append]
  have H := Lib.hid h
  clear h
  gi_wp2_with (refine ⟨trivial, ?_⟩; gi_at_call 23; refine (callsIn_wide.2 (places_any _ _)).mono ?_; rintro e w' ⟨rfl, rfl⟩)
  obtain ⟨W0, hW0⟩ : ∃ W0, ((w.alloc (.cells #[.slice none 0 0] 22)).alloc (.cells #[.pointer (some ⟨L, 0, none⟩)] 25)) = W0 := ⟨_, rfl⟩
  obtain ⟨b0, b1, hbel, hsz⟩ := boxes2 hW0
  rw [hW0]
  clear hW0
  refine wpIn_rangeFunc_ownG rfl (by omega) (gf := 30) (lb := #[.pointer (some ⟨w.heap.size + 1, 0, none⟩)]) rfl trivial (enters_of Try.func30 (by kernel_rfl) rfl)
    (places1_stops L (w.heap.size + 2) (w.heap.size + 1) a d W0 (H.out.below hbel) (by omega) b1)
    (fun h k => KpL.trans h k) (KpL.put (by omega) (by omega) (fun hp => by obtain ⟨g, hg, hgl, _⟩ := H.out.u.at_ hp; rw [hg]; simp [bk, rowOf]; omega)) (Below.refl _ _) (fun _ => rfl)
    (fun pre W => Gath w (pre.map (fun p => valOf w p.1)) W)
    (fun c pre W => False)
    (gath_own w _ (by omega) _)
    (fun c => fun _ _ _ _ h _ _ => h)
    ⟨⟨hbel, by omega⟩, none, 0, b0, Row.nil _ _ _, fun k hk => by cases hk⟩
    (fun x => { tmps := #[.pointer (some ⟨L, 0, none⟩), undef, .pointer (some ⟨w.heap.size, 0, none⟩), .pointer (some x.1), .pointer (some ⟨L, 0, none⟩), .func (.func 30) #[] #[.pointer (some ⟨w.heap.size + 1, 0, none⟩)], .pointer (some x.1), undef, undef, undef, undef, undef, undef], defers := [] }) ?assign ?body ?done ?stop
  case assign =>
    intro l x W K hK
    gi_wp2
    exact hK
  case body =>
    rintro l pre ⟨p, hpm⟩ W ⟨⟨hbl, hsW⟩, A, c, hbx, hr, hk⟩ hl
    have hcx := pl_cell H.out ⟨p, hpm⟩
    have hpx := (hbl.cell (cell_lt hcx)).trans hcx
    obtain ⟨v, hv⟩ : ∃ v, v = valOf w p := ⟨_, rfl⟩
    obtain ⟨R, hR⟩ : ∃ R, R = pre.map (fun p => valOf w p.1) := ⟨_, rfl⟩
    simp only at hpx
    rw [← hv] at hpx
    rw [← hR] at hbx hr
    have hRl : R.length = pre.length := by rw [hR, List.length_map]
    have hn : R.length < 1000 := by omega
    have hlt0 : w.heap.size < W.heap.size := by omega
    have hlp : p.block < W.heap.size := Nat.lt_of_lt_of_le (cell_lt hcx) hbl.size
    obtain ⟨g, c', w1, hrun, hown, hgrow, hat, hlt1⟩ := run_append_lies (P := Try.prog) ((W.alloc (.cells #[.int .i64 v] 3)).drew) 22 22 0 3 i0 _ 1 8 Try.underlying22 hi hz0 hz1 hz2 rfl (by decide) (.slice A R.length c) R.length _ (Row.drew (hr.alloc _)) ⟨W.heap.size, 0, none⟩ 1 1 [.int .i64 v] rfl (World.news_of_block (heap_alloc_new W _)) (by intro u hu; simp at hu; subst hu; rfl) (by decide) (by unfold maxLen; omega) (by omega) (Nat.zero_le _) _ rfl
    have hc0 := hbx.cell
    have hB : rowOf A ≠ some w.heap.size := fun e => by have := hk _ e; omega
    have hb1 : w1.heap[w.heap.size]? = W.heap[w.heap.size]? := pushed_block (((Below.refl _ W).alloc (Nat.le_refl _) _).trans ((below_drew' _).mono (by simp))) hB (lt_of_block hbx) hgrow
    have hc1 : w1.cell? ⟨w.heap.size, 0, none⟩ = some (.slice A R.length c) := (World.cell?_of_block (a := ⟨w.heap.size, 0, none⟩) hb1).trans hc0
    have hf1 : w1.frozen? ⟨w.heap.size, 0, none⟩ = false := (World.frozen?_of_block (a := ⟨w.heap.size, 0, none⟩) hb1).trans hbx.frozen
    have HBL := Lib.hid hbl
    have HRR := Lib.hid hr
    have HBX := Lib.hid hbx
    have HV := Lib.hid hv
    have HR := Lib.hid hR
    have HRL := Lib.hid hRl
    have HFIN := Lib.hid (push_gath (B := W0.heap.size) H.out hbl hsW hbx hr hk (by omega) hown hgrow hat)
    clear hgrow hown hat hbl hr hbx hcx hb1 hv hR hRl hl hall
    gi_wp2
    gi_region
    all_goals
      refine ⟨HFIN.out.1, HFIN.out.2.1, ?_⟩
      have e : (pre ++ [(⟨p, hpm⟩ : Pl a d)]).map (fun p => valOf w p.1) = R ++ [v] := by rw [List.map_append, ← HR.out, HV.out]; rfl
      show Gath w ((pre ++ [(⟨p, hpm⟩ : Pl a d)]).map (fun p => valOf w p.1)) _
      rw [e]
      exact HFIN.out.2.2
  case done =>
    rintro D ys W hD hys ⟨⟨hbl, hsW⟩, A, c, hbx, hr, hk⟩ hK
    have hR : ys.map (fun p => valOf w p.1) = d.roots := by
      have e := congrArg (List.map (valOf w)) hys
      rw [List.map_map, roots_val H.out] at e
      exact e
    rw [hR] at hbx hr
    gi_wp2
    obtain ⟨⟨hb', _⟩, A', c', hbx', hr', hk'⟩ := gath_own w W0.heap.size (by omega) (fun _ : Unit => d.roots) () W _ (some D) ⟨⟨hbl, hsW⟩, A, c, hbx, hr, hk⟩ (grownBy_putObj' W D (.deferred none)) (fun r e => by cases e; exact ⟨hD, _, hK, rfl⟩)
    refine ⟨by simp, .inl ⟨_, _, rfl, run_takeDeferred hK, ?_⟩⟩
    refine ⟨.slice A' d.roots.length c', ?_, A', c', rfl, hr', hb', fun k hk => by have := hk' k hk; omega⟩
    simp [results, Try.f11, go_sem, hbx'.cell]
  case stop =>
    rintro D c pre W hD _ hF _
    exact hF.elim
end Go.Proofs.Ytbmedngnfkkhdaa
