/-
  PROVED: the contracts of slices.Clone at []int, []api.Hold and []api.Undo, and of package txlog's Reads, Holds, Undos and Reset. No condition but that the cells hold a log.
-/
import Derived.Test.YtbmedngnfkkhdaaLogD
import Derived.Lib.SliceRun
namespace Go.Proofs.Ytbmedngnfkkhdaa
open Go.RowKit

theorem hdCells_one (H : List (Int × Int)) : ∀ u ∈ hdCells H, u.oneCell' = true := by
  intro u hu
  obtain ⟨x, _, hx⟩ := List.mem_flatMap.1 hu
  simp [hdCells1] at hx
  rcases hx with rfl | rfl <;> rfl
theorem unCells_one (H : List Un) : ∀ u ∈ unCells H, u.oneCell' = true := by
  intro u hu
  obtain ⟨x, _, hx⟩ := List.mem_flatMap.1 hu
  simp [unCells1] at hx
  rcases hx with rfl | rfl | rfl | rfl <;> rfl
/-- An append of nothing, where the source is not nil. -/
theorem run_append_empty {P : Program} {w : World} (t ty e : TypeId) (i : TypeInfo) (ht : P.underlying t = some (.slice e)) (hi : P.info? e = some i) (v : Value) (ad : Addr) (k c : Nat) (hv : ∃ ad' c', v = .slice (some ad') k c') (hk : k = 0) :
    (Builtin.append_ #[t, t] ty #[v, .slice (some ad) 0 c]).run P w = .ok v w := by
  subst hk
  obtain ⟨ad', c', rfl⟩ := hv
  simp [Builtin.append_, run_underlying ht, sizeOf, typeInfo, hi, Builtin.lenOf, Builtin.firstCells, storeCells, loadCells, loadCellsFrom]
theorem wpList_append_empty {P : Program} {w : World} {ops : Array Oper} {rest : List Oper} {o : Oper} {a : Act} {Q : Exit → Act → World → Prop} (hgd : o.guard = none) (s x : Operand) (t : TypeId)
    (ho : o.op = .call { callee := .builtin .append, args := #[s, x], argTypes := #[t, t] })
    (e : TypeId) (i : TypeInfo) (ht : P.underlying t = some (.slice e)) (hi : P.info? e = some i)
    (v : Value) (ad : Addr) (c : Nat) (hs : a.eval s = v) (hx : a.eval x = .slice (some ad) 0 c) (hv : ∃ ad' c', v = .slice (some ad') 0 c')
    (h : wpList P ops Q rest (a.put o.dst v) w) : wpList P ops Q (o :: rest) a w := by
  refine wpList_plain hgd fun K hK => ?_
  have hrun := run_append_empty (P := P) (w := w) t o.type e i ht hi v ad 0 c hv rfl
  unfold Oper.wp
  simp [execOp, ho, resolve, invoke, builtin, hs, hx, hrun, Result.andThen]
  exact hK _ _ h
/-- What a clone is: a row of its own. -/
def Cloned (E size n : Nat) (xs : List Value) (w : World) (e : Ending) (w' : World) : Prop := ∃ A c, e = .returned (.slice A n c) ∧ Row w' E size A n c xs ∧ Below w.heap.size w w' ∧ ∀ k, rowOf A = some k → w.heap.size ≤ k

theorem cloneI (A : Option Addr) (c n : Nat) (xs : List Value) (w : World) (h : Row w 3 1 A n c xs) (h1 : ∀ u ∈ xs, u.oneCell' = true) (hn : n ≤ 1000) :
    Calls Try.prog 24 #[.slice A n c] w (Cloned 3 1 n xs w) := by
  obtain ⟨i0, hi, hz0, hz1, hz2⟩ := info_parts infoInt
  have HH := Lib.hid h
  have H1 := Lib.hid h1
  rcases A with _ | ad
  · obtain ⟨rfl, rfl, rfl⟩ : n = 0 ∧ c = 0 ∧ xs = [] := by
      rcases h.form with ⟨_, h2, h3, h4⟩ | ⟨g, cur, e, _⟩
      · exact ⟨h2, h3, h4⟩
      · cases e
    clear h h1
    have he : ∀ W, (binOp .eql 22 (.slice none 0 0) (.slice none 0 0)).run Try.prog W = .ok (.bool true) W := fun W => Lib.run_eql_slice_nil W 22 3 none 0 0 0 0 rfl
    have HE := Lib.hid he
    clear he
    go_enter Try.func24, Try.ntmps24
    go_wp2_with (simp only [HE.out])
    go_ret
    exact ⟨none, 0, rfl, Row.nil _ _ _, Below.refl _ _, fun _ e => by cases e⟩
  · have he : ∀ W, (binOp .eql 22 (.slice (some ad) n c) (.slice none 0 0)).run Try.prog W = .ok (.bool false) W := fun W => Lib.run_eql_slice_nil W 22 3 (some ad) n c 0 0 rfl
    have HE := Lib.hid he
    clear he
    have hr0 : Row (w.alloc (.cells #[] 3)) 3 1 (some ⟨w.heap.size, 0, none⟩) 0 0 [] := ⟨rfl, .inr ⟨w.heap.size, 0, #[], rfl, Nat.zero_le _, heap_alloc_new w _, by omega, Nat.zero_le _, rfl, by simp⟩⟩
    have HR := Lib.hid hr0
    by_cases h0 : n = 0
    · subst h0
      have hx : xs = [] := List.eq_nil_of_length_eq_zero (by simpa using h.length)
      subst hx
      clear h h1 hr0
      go_enter Try.func24, Try.ntmps24
      go_wp2_with (first
        | (at_builtin; refine wpList_append_empty rfl _ _ 22 rfl 3 i0 Try.underlying22 hi (.slice (some ⟨w.heap.size, 0, none⟩) 0 0) ad c rfl rfl ⟨_, _, rfl⟩ ?_)
        | simp only [HE.out])
      go_ret
      exact ⟨some ⟨w.heap.size, 0, none⟩, 0, rfl, HR.out, (Below.refl _ _).alloc (Nat.le_refl _) _, fun k e => by simp [rowOf] at e; omega⟩
    · obtain ⟨g0, e0, hg0, hc0, _⟩ := h.at_ (by omega)
      obtain rfl : ad = ⟨g0, 0, none⟩ := by injection e0
      have hl := h.length
      have HC := Lib.hid (show ∀ j u, xs[j]? = some u → (w.alloc (.cells #[] 3)).cell? ((⟨g0, 0, none⟩ : Addr).add j) = some u from fun j u hu => by
        have e : (⟨g0, 0, none⟩ : Addr).add j = ⟨g0, j, none⟩ := by unfold Addr.add; split <;> simp_all
        rw [e]
        exact (World.cell?_of_block (a := ⟨g0, j, none⟩) (Below.heap_alloc w _ g0 hg0)).trans (hc0 j u hu))
      clear h h1 hr0 hc0 e0
      go_enter Try.func24, Try.ntmps24
      go_wp2_with (first
      | simp only [HE.out]
      | skip
        at_builtin
        refine wpList_append_lies _ rfl _ _ 22 rfl 0 3 i0 _ 1 8 Try.underlying22 hi hz0 hz1 hz2 rfl (by decide) (.slice (some ⟨w.heap.size, 0, none⟩) 0 0) 0 [] rfl HR.out ⟨g0, 0, none⟩ n c xs rfl hl HC.out H1.out (by omega) (by unfold maxLen; omega) (by omega) (Nat.zero_le _) (w.heap.size + 1) (by simp) ?_
        intro g c' w1 hown hgrow hat hlt1
        have HO := Lib.hid hown
        have HG := Lib.hid hgrow
        have HA := Lib.hid hat
        clear hown hgrow hat)
      go_ret
      refine ⟨some ⟨g, 0, none⟩, c', by simp, by simpa [Row] using HO.out, ?_, fun k e => ?_⟩
      · refine Only.below (Below.refl _ w) (((Only.refl (fun i => w.heap.size ≤ i) w).alloc _).grown HG.out (fun k hk => .inl ?_)) (fun i hi => hi)
        simp [Value.ownBlock] at hk
        omega
      · have e' : g = k := by simpa [rowOf] using e
        subst e'
        rcases HA.out with e | e
        · simp [Value.ownBlock] at e
          omega
        · omega

theorem cloneH (A : Option Addr) (c n : Nat) (xs : List Value) (w : World) (h : Row w 42 2 A n c xs) (h1 : ∀ u ∈ xs, u.oneCell' = true) (hn : n ≤ 1000) :
    Calls Try.prog 26 #[.slice A n c] w (Cloned 42 2 n xs w) := by
  obtain ⟨i0, hi, hz0, hz1, hz2⟩ := info_parts infoHd
  have HH := Lib.hid h
  have H1 := Lib.hid h1
  rcases A with _ | ad
  · obtain ⟨rfl, rfl, rfl⟩ : n = 0 ∧ c = 0 ∧ xs = [] := by
      rcases h.form with ⟨_, h2, h3, h4⟩ | ⟨g, cur, e, _⟩
      · exact ⟨h2, h3, h4⟩
      · cases e
    clear h h1
    have he : ∀ W, (binOp .eql 37 (.slice none 0 0) (.slice none 0 0)).run Try.prog W = .ok (.bool true) W := fun W => Lib.run_eql_slice_nil W 37 42 none 0 0 0 0 rfl
    have HE := Lib.hid he
    clear he
    go_enter Try.func26, Try.ntmps26
    go_wp2_with (simp only [HE.out])
    go_ret
    exact ⟨none, 0, rfl, Row.nil _ _ _, Below.refl _ _, fun _ e => by cases e⟩
  · have he : ∀ W, (binOp .eql 37 (.slice (some ad) n c) (.slice none 0 0)).run Try.prog W = .ok (.bool false) W := fun W => Lib.run_eql_slice_nil W 37 42 (some ad) n c 0 0 rfl
    have HE := Lib.hid he
    clear he
    have hr0 : Row (w.alloc (.cells #[] 42)) 42 2 (some ⟨w.heap.size, 0, none⟩) 0 0 [] := ⟨rfl, .inr ⟨w.heap.size, 0, #[], rfl, Nat.zero_le _, heap_alloc_new w _, by omega, Nat.zero_le _, rfl, by simp⟩⟩
    have HR := Lib.hid hr0
    by_cases h0 : n = 0
    · subst h0
      have hx : xs = [] := List.eq_nil_of_length_eq_zero (by simpa using h.length)
      subst hx
      clear h h1 hr0
      go_enter Try.func26, Try.ntmps26
      go_wp2_with (first
        | (at_builtin; refine wpList_append_empty rfl _ _ 37 rfl 42 i0 Try.underlying37 hi (.slice (some ⟨w.heap.size, 0, none⟩) 0 0) ad c rfl rfl ⟨_, _, rfl⟩ ?_)
        | simp only [HE.out])
      go_ret
      exact ⟨some ⟨w.heap.size, 0, none⟩, 0, rfl, HR.out, (Below.refl _ _).alloc (Nat.le_refl _) _, fun k e => by simp [rowOf] at e; omega⟩
    · obtain ⟨g0, e0, hg0, hc0, _⟩ := h.at_ (by omega)
      obtain rfl : ad = ⟨g0, 0, none⟩ := by injection e0
      have hl := h.length
      have HC := Lib.hid (show ∀ j u, xs[j]? = some u → (w.alloc (.cells #[] 42)).cell? ((⟨g0, 0, none⟩ : Addr).add j) = some u from fun j u hu => by
        have e : (⟨g0, 0, none⟩ : Addr).add j = ⟨g0, j, none⟩ := by unfold Addr.add; split <;> simp_all
        rw [e]
        exact (World.cell?_of_block (a := ⟨g0, j, none⟩) (Below.heap_alloc w _ g0 hg0)).trans (hc0 j u hu))
      clear h h1 hr0 hc0 e0
      go_enter Try.func26, Try.ntmps26
      go_wp2_with (first
      | simp only [HE.out]
      | skip
        at_builtin
        refine wpList_append_lies _ rfl _ _ 37 rfl 0 42 i0 _ 2 16 Try.underlying37 hi hz0 hz1 hz2 rfl (by decide) (.slice (some ⟨w.heap.size, 0, none⟩) 0 0) 0 [] rfl HR.out ⟨g0, 0, none⟩ n c xs rfl hl HC.out H1.out (by omega) (by unfold maxLen; omega) (by omega) (Nat.zero_le _) (w.heap.size + 1) (by simp) ?_
        intro g c' w1 hown hgrow hat hlt1
        have HO := Lib.hid hown
        have HG := Lib.hid hgrow
        have HA := Lib.hid hat
        clear hown hgrow hat)
      go_ret
      refine ⟨some ⟨g, 0, none⟩, c', by simp, by simpa [Row] using HO.out, ?_, fun k e => ?_⟩
      · refine Only.below (Below.refl _ w) (((Only.refl (fun i => w.heap.size ≤ i) w).alloc _).grown HG.out (fun k hk => .inl ?_)) (fun i hi => hi)
        simp [Value.ownBlock] at hk
        omega
      · have e' : g = k := by simpa [rowOf] using e
        subst e'
        rcases HA.out with e | e
        · simp [Value.ownBlock] at e
          omega
        · omega

theorem cloneU (A : Option Addr) (c n : Nat) (xs : List Value) (w : World) (h : Row w 34 4 A n c xs) (h1 : ∀ u ∈ xs, u.oneCell' = true) (hn : n ≤ 1000) :
    Calls Try.prog 25 #[.slice A n c] w (Cloned 34 4 n xs w) := by
  obtain ⟨i0, hi, hz0, hz1, hz2⟩ := info_parts infoUn
  have HH := Lib.hid h
  have H1 := Lib.hid h1
  rcases A with _ | ad
  · obtain ⟨rfl, rfl, rfl⟩ : n = 0 ∧ c = 0 ∧ xs = [] := by
      rcases h.form with ⟨_, h2, h3, h4⟩ | ⟨g, cur, e, _⟩
      · exact ⟨h2, h3, h4⟩
      · cases e
    clear h h1
    have he : ∀ W, (binOp .eql 31 (.slice none 0 0) (.slice none 0 0)).run Try.prog W = .ok (.bool true) W := fun W => Lib.run_eql_slice_nil W 31 34 none 0 0 0 0 rfl
    have HE := Lib.hid he
    clear he
    go_enter Try.func25, Try.ntmps25
    go_wp2_with (simp only [HE.out])
    go_ret
    exact ⟨none, 0, rfl, Row.nil _ _ _, Below.refl _ _, fun _ e => by cases e⟩
  · have he : ∀ W, (binOp .eql 31 (.slice (some ad) n c) (.slice none 0 0)).run Try.prog W = .ok (.bool false) W := fun W => Lib.run_eql_slice_nil W 31 34 (some ad) n c 0 0 rfl
    have HE := Lib.hid he
    clear he
    have hr0 : Row (w.alloc (.cells #[] 34)) 34 4 (some ⟨w.heap.size, 0, none⟩) 0 0 [] := ⟨rfl, .inr ⟨w.heap.size, 0, #[], rfl, Nat.zero_le _, heap_alloc_new w _, by omega, Nat.zero_le _, rfl, by simp⟩⟩
    have HR := Lib.hid hr0
    by_cases h0 : n = 0
    · subst h0
      have hx : xs = [] := List.eq_nil_of_length_eq_zero (by simpa using h.length)
      subst hx
      clear h h1 hr0
      go_enter Try.func25, Try.ntmps25
      go_wp2_with (first
        | (at_builtin; refine wpList_append_empty rfl _ _ 31 rfl 34 i0 Try.underlying31 hi (.slice (some ⟨w.heap.size, 0, none⟩) 0 0) ad c rfl rfl ⟨_, _, rfl⟩ ?_)
        | simp only [HE.out])
      go_ret
      exact ⟨some ⟨w.heap.size, 0, none⟩, 0, rfl, HR.out, (Below.refl _ _).alloc (Nat.le_refl _) _, fun k e => by simp [rowOf] at e; omega⟩
    · obtain ⟨g0, e0, hg0, hc0, _⟩ := h.at_ (by omega)
      obtain rfl : ad = ⟨g0, 0, none⟩ := by injection e0
      have hl := h.length
      have HC := Lib.hid (show ∀ j u, xs[j]? = some u → (w.alloc (.cells #[] 34)).cell? ((⟨g0, 0, none⟩ : Addr).add j) = some u from fun j u hu => by
        have e : (⟨g0, 0, none⟩ : Addr).add j = ⟨g0, j, none⟩ := by unfold Addr.add; split <;> simp_all
        rw [e]
        exact (World.cell?_of_block (a := ⟨g0, j, none⟩) (Below.heap_alloc w _ g0 hg0)).trans (hc0 j u hu))
      clear h h1 hr0 hc0 e0
      go_enter Try.func25, Try.ntmps25
      go_wp2_with (first
      | simp only [HE.out]
      | skip
        at_builtin
        refine wpList_append_lies _ rfl _ _ 31 rfl 0 34 i0 _ 4 32 Try.underlying31 hi hz0 hz1 hz2 rfl (by decide) (.slice (some ⟨w.heap.size, 0, none⟩) 0 0) 0 [] rfl HR.out ⟨g0, 0, none⟩ n c xs rfl hl HC.out H1.out (by omega) (by unfold maxLen; omega) (by omega) (Nat.zero_le _) (w.heap.size + 1) (by simp) ?_
        intro g c' w1 hown hgrow hat hlt1
        have HO := Lib.hid hown
        have HG := Lib.hid hgrow
        have HA := Lib.hid hat
        clear hown hgrow hat)
      go_ret
      refine ⟨some ⟨g, 0, none⟩, c', by simp, by simpa [Row] using HO.out, ?_, fun k e => ?_⟩
      · refine Only.below (Below.refl _ w) (((Only.refl (fun i => w.heap.size ≤ i) w).alloc _).grown HG.out (fun k hk => .inl ?_)) (fun i hi => hi)
        simp [Value.ownBlock] at hk
        omega
      · have e' : g = k := by simpa [rowOf] using e
        subst e'
        rcases HA.out with e | e
        · simp [Value.ownBlock] at e
          omega
        · omega

theorem reads_any (L : Nat) (a : LgA) (d : LgD) (w : World) (h : LG w L a d) :
    Calls Try.prog 12 #[.pointer (some ⟨L, 0, none⟩)] w (Cloned 3 1 d.R.length (intCells d.R) w) := by
  have c0' : w.cell? ⟨L, 0, none⟩ = some (.slice a.aR d.R.length a.cR) := by simpa [lgCells] using h.cell 0
  have hc := cloneI a.aR a.cR d.R.length (intCells d.R) w h.r (intCells_one d.R) (by have := h.lr; have := h.mr; omega)
  have HC := Lib.hid hc
  clear hc h
  go_enter Try.func12, Try.ntmps12
  go_wp2_with (go_at_call 24; refine HC.out.mono ?_; rintro e w' ⟨A', c', rfl, hr⟩; have HR := Lib.hid hr; clear hr)
  go_ret
  exact ⟨A', c', rfl, HR.out⟩

theorem holds_any (L : Nat) (a : LgA) (d : LgD) (w : World) (h : LG w L a d) :
    Calls Try.prog 17 #[.pointer (some ⟨L, 0, none⟩)] w (Cloned 42 2 d.H.length (hdCells d.H) w) := by
  have c0' : w.cell? ⟨L, 2, none⟩ = some (.slice a.aH d.H.length a.cH) := by simpa [lgCells] using h.cell 2
  have hc := cloneH a.aH a.cH d.H.length (hdCells d.H) w h.h (hdCells_one d.H) (by have := h.lh; have := h.mu; omega)
  have HC := Lib.hid hc
  clear hc h
  go_enter Try.func17, Try.ntmps17
  go_wp2_with (go_at_call 26; refine HC.out.mono ?_; rintro e w' ⟨A', c', rfl, hr⟩; have HR := Lib.hid hr; clear hr)
  go_ret
  exact ⟨A', c', rfl, HR.out⟩

theorem undos_any (L : Nat) (a : LgA) (d : LgD) (w : World) (h : LG w L a d) :
    Calls Try.prog 16 #[.pointer (some ⟨L, 0, none⟩)] w (Cloned 34 4 d.U.length (unCells d.U) w) := by
  have c0' : w.cell? ⟨L, 3, none⟩ = some (.slice a.aU d.U.length a.cU) := by simpa [lgCells] using h.cell 3
  have hc := cloneU a.aU a.cU d.U.length (unCells d.U) w h.u (unCells_one d.U) (by have := h.lu; have := h.mu; omega)
  have HC := Lib.hid hc
  clear hc h
  go_enter Try.func16, Try.ntmps16
  go_wp2_with (go_at_call 25; refine HC.out.mono ?_; rintro e w' ⟨A', c', rfl, hr⟩; have HR := Lib.hid hr; clear hr)
  go_ret
  exact ⟨A', c', rfl, HR.out⟩

theorem setCell_block {w : World} {L i : Nat} {cs : Array Value} {t : TypeId} {v : Value} (hb : w.heap[L]? = some (.cells cs t (0, 0))) : (w.setCell ⟨L, i, none⟩ v).heap[L]? = some (.cells (cs.setIfInBounds i v) t (0, 0)) := by
  simp [World.setCell, Array.getElem?_modify, hb]
/-- Reset. -/
theorem reset_any (L : Nat) (a : LgA) (d : LgD) (w : World) (h : LG w L a d) :
    Calls Try.prog 18 #[.pointer (some ⟨L, 0, none⟩)] w fun e w' => (∃ v, e = .returned v) ∧ Stepped w w' L a (emptyD d.mr d.mu) := by
  have hlt := h.lt
  have c0 : w.cell? ⟨L, 0, none⟩ = some (.slice a.aR d.R.length a.cR) := by simpa [lgCells] using h.cell 0
  have c1 : w.cell? ⟨L, 1, none⟩ = some (.slice a.aK d.K.length a.cK) := by simpa [lgCells] using h.cell 1
  have c2 : w.cell? ⟨L, 2, none⟩ = some (.slice a.aH d.H.length a.cH) := by simpa [lgCells] using h.cell 2
  have c3 : w.cell? ⟨L, 3, none⟩ = some (.slice a.aU d.U.length a.cU) := by simpa [lgCells] using h.cell 3
  have f0 := h.fz 0
  have f1 := h.fz 1
  have f2 := h.fz 2
  have f3 := h.fz 3
  have H := Lib.hid h
  clear h
  go_enter Try.func18, Try.ntmps18
  go_wp2
  refine bodyPost_end (v := .tuple #[]) (by simp [results, Try.f18, go_sem]) rfl ?_
  have O := ((((Only.refl (Foot L a) w).setCell (p := ⟨L, 0, none⟩) (.inl (.inl rfl)) (.slice none 0 0)).setCell (p := ⟨L, 1, none⟩) (.inl (.inl rfl)) (.slice none 0 0)).setCell (p := ⟨L, 2, none⟩) (.inl (.inl rfl)) (.slice none 0 0)).setCell (p := ⟨L, 3, none⟩) (.inl (.inl rfl)) (.slice none 0 0)
  refine ⟨⟨_, rfl⟩, nilA, ⟨setCell_block (setCell_block (setCell_block (setCell_block H.out.blk))), Row.nil _ _ _, Row.nil _ _ _, Row.nil _ _ _, Row.nil _ _ _, (fun _ hg => by cases hg), H.out.mr, H.out.mu, Nat.zero_le _, Nat.zero_le _, Nat.zero_le _, Nat.zero_le _⟩, O, fun i hi => ?_⟩
  rcases hi with rfl | hi | hi | hi | hi
  · exact .inl (.inl rfl)
  all_goals cases hi
end Go.Proofs.Ytbmedngnfkkhdaa
