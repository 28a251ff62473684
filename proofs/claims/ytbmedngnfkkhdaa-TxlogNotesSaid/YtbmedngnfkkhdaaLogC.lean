/-
  PROVED: the contracts of package txlog's Undo and Hold over a log's data (and of slices.ContainsFunc and IndexFunc at []api.Hold under it). No condition but that the cells hold a log.
-/
import Derived.Test.YtbmedngnfkkhdaaLogB
namespace Go.Proofs.Ytbmedngnfkkhdaa
open Go.RowKit

theorem infoUn : (Try.prog.info? 34).map (fun i => (i.zero, i.size, i.bytes)) = some (some (.agg #[.int .i64 0, .int .i64 0, .int .i64 0, .int .i64 0]), 4, 32) := by kernel_rfl
theorem infoHd : (Try.prog.info? 42).map (fun i => (i.zero, i.size, i.bytes)) = some (some (.agg #[.int .i64 0, .int .i64 0]), 2, 16) := by kernel_rfl

/-- What an append to a field leaves: the field at ⟨L, o⟩ holds the longer row. -/
structure Pushed (w w' : World) (L o E size : Nat) (A A' : Option Addr) (n' c' : Nat) (ys : List Value) : Prop where
  row : Row w' E size A' n' c' ys
  fld : ∀ cs t, w.heap[L]? = some (.cells cs t (0, 0)) → w'.heap[L]? = some (.cells (cs.setIfInBounds o (.slice A' n' c')) t (0, 0))
  only : Only (fun i => i = L ∨ rowOf A = some i) w w'
  new_ : ∀ k, rowOf A' = some k → rowOf A = some k ∨ w.heap.size ≤ k
theorem pushed_block {w W1 w1 : World} {L n c : Nat} {A : Option Addr} (hW : Below w.heap.size w W1) (hL : rowOf A ≠ some L) (hlt : L < w.heap.size) (hgrow : W1.grownBy w1 (Value.slice A n c).ownBlock) : w1.heap[L]? = w.heap[L]? :=
  (hgrow.block L (Nat.lt_of_lt_of_le hlt hW.size) (by rw [ownBlock_slice]; exact fun e => hL e.symm)).trans (hW.block L hlt)
theorem pushed_of {w W1 w1 : World} {L o E size n c g n' c' : Nat} {A : Option Addr} {ys : List Value} (hW : Below w.heap.size w W1) (hL : rowOf A ≠ some L) (hlt : L < w.heap.size) (hown : w1.ownsRow 0 E size (.slice (some ⟨g, 0, none⟩) n' c') n' ys)
    (hgrow : W1.grownBy w1 (Value.slice A n c).ownBlock) (hat : (Value.slice A n c).ownBlock = some g ∨ g = W1.heap.size) :
    Pushed w (w1.setCell ⟨L, o, none⟩ (.slice (some ⟨g, 0, none⟩) n' c')) L o E size A (some ⟨g, 0, none⟩) n' c' ys := by
  have hs := hW.size
  have hb := pushed_block hW hL hlt hgrow
  refine ⟨Row.far (w := w1) (p := ⟨L, o, none⟩) hown (by simpa [rowOf] using lies_ne hat hL (by omega)) _, ?_, ?_, ?_⟩
  · intro cs t hcs
    have : w1.heap[L]? = some (.cells cs t (0, 0)) := hb.trans hcs
    simp [World.setCell, Array.getElem?_modify, this]
  · refine ((Only.of_below hW).grown hgrow (fun k hk => ?_)).setCell (.inl (.inl rfl)) _
    rw [ownBlock_slice] at hk
    exact .inl (.inr hk)
  · exact fun k hk => lies_new hat hs hk
theorem pushed_undo {w w' : World} {L : Nat} {a : LgA} {d : LgD} {u : Un} {A' : Option Addr} {c' : Nat} (h : LG w L a d) (hN : Pushed w w' L 3 34 4 a.aU A' (d.U.length + 1) c' (unCells d.U ++ unCells1 u)) (hm : d.U.length < d.mu) :
    Stepped w w' L a { d with U := d.U ++ [u] } := by
  obtain ⟨nL1, nL2, nL3, nL4⟩ := h.notL
  have hb := hN.fld _ _ h.blk
  have hle : Only (Foot L a) w w' := ⟨hN.only.os, hN.only.tape, hN.only.output, hN.only.size, fun i hi hn => hN.only.block i hi (fun hf => hn (by rcases hf with hf | hf; exact .inl hf; exact .inr (.inr (.inr (.inr hf)))))⟩
  have away : ∀ k, k < w.heap.size → k ≠ L → rowOf a.aU ≠ some k → w'.heap[k]? = w.heap[k]? := fun k h1 h2 h3 => hN.only.block k h1 (fun hf => by rcases hf with hf | hf; exact h2 hf; exact h3 hf)
  refine ⟨{ a with aU := A', cU := c' }, ⟨?_, ?_, ?_, ?_, ?_, h.ne, h.mr, h.mu, h.lr, h.lk, h.lh, ?_⟩, hle, ?_⟩
  · rw [hb]
    simp [lgCells]
  · exact h.r.keep fun g hg => away g (h.r.lt hg) (by rintro rfl; exact nL1 hg) (fun e => h.r.apart h.u (by decide) g hg e)
  · exact h.k.keep fun g hg => away g (h.k.lt hg) (by rintro rfl; exact nL2 hg) (fun e => h.k.apart h.u (by decide) g hg e)
  · exact h.h.keep fun g hg => away g (h.h.lt hg) (by rintro rfl; exact nL3 hg) (fun e => h.h.apart h.u (by decide) g hg e)
  · have := hN.row
    simpa [unCells] using this
  · simp; omega
  · intro i hi
    rcases hi with rfl | hi | hi | hi | hi
    · exact .inl (.inl rfl)
    · exact .inl (.inr (.inl hi))
    · exact .inl (.inr (.inr (.inl hi)))
    · exact .inl (.inr (.inr (.inr (.inl hi))))
    · rcases hN.new_ i hi with e | e
      · exact .inl (.inr (.inr (.inr (.inr e))))
      · exact .inr e
theorem pushed_hold {w w' : World} {L : Nat} {a : LgA} {d : LgD} {x : Int × Int} {A' : Option Addr} {c' : Nat} (h : LG w L a d) (hN : Pushed w w' L 2 42 2 a.aH A' (d.H.length + 1) c' (hdCells d.H ++ hdCells1 x)) (hm : d.H.length < d.mu) :
    Stepped w w' L a { d with H := d.H ++ [x] } := by
  obtain ⟨nL1, nL2, nL3, nL4⟩ := h.notL
  have hb := hN.fld _ _ h.blk
  have hle : Only (Foot L a) w w' := ⟨hN.only.os, hN.only.tape, hN.only.output, hN.only.size, fun i hi hn => hN.only.block i hi (fun hf => hn (by rcases hf with hf | hf; exact .inl hf; exact .inr (.inr (.inr (.inl hf)))))⟩
  have away : ∀ k, k < w.heap.size → k ≠ L → rowOf a.aH ≠ some k → w'.heap[k]? = w.heap[k]? := fun k h1 h2 h3 => hN.only.block k h1 (fun hf => by rcases hf with hf | hf; exact h2 hf; exact h3 hf)
  refine ⟨{ a with aH := A', cH := c' }, ⟨?_, ?_, ?_, ?_, ?_, h.ne, h.mr, h.mu, h.lr, h.lk, ?_, h.lu⟩, hle, ?_⟩
  · rw [hb]
    simp [lgCells]
  · exact h.r.keep fun g hg => away g (h.r.lt hg) (by rintro rfl; exact nL1 hg) (fun e => h.r.apart h.h (by decide) g hg e)
  · exact h.k.keep fun g hg => away g (h.k.lt hg) (by rintro rfl; exact nL2 hg) (fun e => h.k.apart h.h (by decide) g hg e)
  · have := hN.row
    simpa [hdCells] using this
  · exact h.u.keep fun g hg => away g (h.u.lt hg) (by rintro rfl; exact nL4 hg) (fun e => h.u.apart h.h (by decide) g hg e)
  · simp; omega
  · intro i hi
    rcases hi with rfl | hi | hi | hi | hi
    · exact .inl (.inl rfl)
    · exact .inl (.inr (.inl hi))
    · exact .inl (.inr (.inr (.inl hi)))
    · rcases hN.new_ i hi with e | e
      · exact .inl (.inr (.inr (.inr (.inl e))))
      · exact .inr e
    · exact .inl (.inr (.inr (.inr (.inr hi))))
def unVal (u : Un) : Value := .agg #[.int .i64 u.kind, .int .i64 u.at_, .int .i64 u.i, .int .i64 u.old]
def LgD.undo (d : LgD) (u : Un) : LgD := if d.U.length < d.mu then { d with U := d.U ++ [u] } else d
theorem undo_no (L : Nat) (a : LgA) (d : LgD) (u : Un) (w : World) (h : LG w L a d) (hm : d.mu ≤ d.U.length) :
    Calls Try.prog 14 #[.pointer (some ⟨L, 0, none⟩), .agg #[.int .i64 u.kind, .int .i64 u.at_, .int .i64 u.i, .int .i64 u.old]] w fun e w' => e = .returned (.bool false) ∧ Stepped w w' L a d := by
  have c3' : w.cell? ⟨L, 3, none⟩ = some (.slice a.aU d.U.length a.cU) := by simpa [lgCells] using h.cell 3
  have c5' : w.cell? ⟨L, 5, none⟩ = some (.int .i64 d.mu) := by simpa [lgCells] using h.cell 5
  have H := Lib.hid h
  have hlt := h.lt
  clear h
  go_enter Try.func14, Try.ntmps14
  go_wp2
  go_quiet (fail)
  go_wp2
  go_ret
  exact ⟨rfl, Stepped.same H.out (((Below.refl _ _).alloc (Nat.le_refl _) _).trans ((below_drewN' _ _).mono (by simp)))⟩
set_option maxRecDepth 100000 in
set_option maxHeartbeats 1000000 in
theorem undo_yes (L : Nat) (a : LgA) (d : LgD) (u : Un) (w : World) (h : LG w L a d) (hm : d.U.length < d.mu) :
    Calls Try.prog 14 #[.pointer (some ⟨L, 0, none⟩), .agg #[.int .i64 u.kind, .int .i64 u.at_, .int .i64 u.i, .int .i64 u.old]] w fun e w' => e = .returned (.bool true) ∧ Stepped w w' L a { d with U := d.U ++ [u] } := by
  have c3' : w.cell? ⟨L, 3, none⟩ = some (.slice a.aU d.U.length a.cU) := by simpa [lgCells] using h.cell 3
  have c5' : w.cell? ⟨L, 5, none⟩ = some (.int .i64 d.mu) := by simpa [lgCells] using h.cell 5
  have H := Lib.hid h
  have hlt := h.lt
  have hmu := h.mu
  have f3 := h.fz 3
  clear h
  obtain ⟨i0, hi, hz0, hz1, hz2⟩ := info_parts infoUn
  go_enter Try.func14, Try.ntmps14
  go_wp2
  go_quiet (fail)
  go_wp2
  obtain ⟨W0, hW0⟩ : ∃ W0 : World, W0 = (w.alloc (.cells #[.int .i64 u.kind, .int .i64 u.at_, .int .i64 u.i, .int .i64 u.old] 34)).drewN nq := ⟨_, rfl⟩
  rw [← hW0]
  have hs0 : W0.heap.size = w.heap.size + 1 := by rw [hW0]; exact World.size_alloc _ _
  have hb0 : Below w.heap.size w W0 := by rw [hW0]; exact ((Below.refl _ _).alloc (Nat.le_refl _) _).trans ((below_drewN' _ _).mono (by simp))
  have hbox : W0.heap[w.heap.size]? = some (.cells #[.int .i64 u.kind, .int .i64 u.at_, .int .i64 u.i, .int .i64 u.old] 34 (0, 0)) := by rw [hW0]; exact heap_alloc_new w _
  have h0 := H.out.below hb0
  have H0 := Lib.hid h0
  have HB0 := Lib.hid hb0
  have g3 : W0.cell? ⟨L, 3, none⟩ = some (.slice a.aU d.U.length a.cU) := by simpa [lgCells] using h0.cell 3
  have g3f := h0.fz 3
  have b0 : W0.cell? ⟨w.heap.size, 0, none⟩ = some (.int .i64 u.kind) := by simp [World.cell?, hbox]
  have b1 : W0.cell? ⟨w.heap.size, 1, none⟩ = some (.int .i64 u.at_) := by simp [World.cell?, hbox]
  have b2 : W0.cell? ⟨w.heap.size, 2, none⟩ = some (.int .i64 u.i) := by simp [World.cell?, hbox]
  have b3 : W0.cell? ⟨w.heap.size, 3, none⟩ = some (.int .i64 u.old) := by simp [World.cell?, hbox]
  have hlt0 : L < W0.heap.size := by omega
  have HS := Lib.hid hs0
  have hx : ∀ w1, ((W0.alloc (.cells #[.int .i64 u.kind, .int .i64 u.at_, .int .i64 u.i, .int .i64 u.old] 34)).drew).grownBy w1 (Value.slice a.aU d.U.length a.cU).ownBlock → w1.heap[L]? = w.heap[L]? := fun w1 hg => pushed_block ((hb0.alloc (by omega) _).trans ((below_drew' _).mono (by simp; omega))) H.out.notL.2.2.2 hlt hg
  have hy := fun w1 g c' (ho : w1.ownsRow 0 34 4 (.slice (some ⟨g, 0, none⟩) (d.U.length + 1) c') (d.U.length + 1) (unCells d.U ++ unCells1 u)) (hg : ((W0.alloc (.cells #[.int .i64 u.kind, .int .i64 u.at_, .int .i64 u.i, .int .i64 u.old] 34)).drew).grownBy w1 (Value.slice a.aU d.U.length a.cU).ownBlock) (ha : (Value.slice a.aU d.U.length a.cU).ownBlock = some g ∨ g = ((W0.alloc (.cells #[.int .i64 u.kind, .int .i64 u.at_, .int .i64 u.i, .int .i64 u.old] 34)).drew).heap.size) =>
    pushed_of (o := 3) ((hb0.alloc (by omega) _).trans ((below_drew' _).mono (by simp; omega))) H.out.notL.2.2.2 hlt ho hg ha
  have HX := Lib.hid hx
  have HY := Lib.hid hy
  have C3 := Lib.hid c3'
  have HM := Lib.hid hm
  clear hW0 h0 hb0 hbox c3' c5' hs0 hx hy
  go_region_law (
    refine step_append_lies _ rfl _ _ 31 rfl 0 34 i0 _ 4 32 Try.underlying31 hi hz0 hz1 hz2 rfl (by decide) (.slice a.aU d.U.length a.cU) d.U.length _ rfl ((H0.out.alloc _).drew.u) ⟨W0.heap.size, 0, none⟩ 1 1 [.int .i64 u.kind, .int .i64 u.at_, .int .i64 u.i, .int .i64 u.old] rfl rfl (World.news_of_block (heap_alloc_new W0 _)) (by intro v hv; simp at hv; rcases hv with rfl | rfl | rfl | rfl <;> rfl) (by decide) (by unfold maxLen; omega) (by omega) (Nat.zero_le _) _ rfl ?_
    intro g c' w1 hown hgrow hat hlt1
    have hbl := HX.out _ hgrow
    have k0 := (World.cell?_of_block (a := ⟨L, 3, none⟩) hbl).trans C3.out
    have k1 := (World.frozen?_of_block (a := ⟨L, 3, none⟩) hbl).trans f3
    have HP := Lib.hid (HY.out _ _ _ hown hgrow (by simpa using hat))
    clear hbl hown hgrow hat)
  all_goals
    try go_wp2
    go_ret
    exact ⟨rfl, pushed_undo H.out HP.out HM.out⟩
end Go.Proofs.Ytbmedngnfkkhdaa
