/-
  PROVED: the contracts of package txlog's Hold over a log's data (and of slices.ContainsFunc and IndexFunc at []api.Hold under it). No condition but that the cells hold a log.
-/
import Derived.Test.YtbmedngnfkkhdaaLogC
namespace Go.Proofs.Ytbmedngnfkkhdaa
open Go.RowKit

theorem hdCells_len (H : List (Int × Int)) : (hdCells H).length = H.length * 2 := by
  induction H with
  | nil => rfl
  | cons x H ih => simp [hdCells, hdCells1] at *; omega
theorem hdCells_at (H : List (Int × Int)) {k : Nat} (hk : k < H.length) : (hdCells H)[k * 2]? = some (.int .i64 H[k].1) ∧ (hdCells H)[k * 2 + 1]? = some (.int .i64 H[k].2) := by
  induction H generalizing k with
  | nil => cases hk
  | cons x H ih =>
    cases k with
    | zero => exact ⟨rfl, rfl⟩
    | succ k =>
      have := ih (k := k) (by simpa using hk)
      have e : (k + 1) * 2 = k * 2 + 1 + 1 := by omega
      rw [e]
      exact this
theorem heldeq_any (p : Nat) (x : Int) (y v : Int) (w : World) (hp : w.cell? ⟨p, 0, none⟩ = some (.int .i64 x)) (hl : p < w.heap.size) :
    Calls Try.prog 28 #[.agg #[.int .i64 y, .int .i64 v], .pointer (some ⟨p, 0, none⟩)] w fun e w' => e = .returned (.bool (y == x)) ∧ Below w.heap.size w w' := by
  go_enter Try.func28, Try.ntmps28
  go_wp2
  go_ret
  exact ⟨rfl, (Below.refl _ _).alloc (Nat.le_refl _) _⟩

theorem hidx_any (A : Option Addr) (c : Nat) (H : List (Int × Int)) (x : Int) (p : Nat) (w : World) (h : Row w 42 2 A H.length c (hdCells H)) (hp : w.cell? ⟨p, 0, none⟩ = some (.int .i64 x)) (hl : p < w.heap.size) :
    Calls Try.prog 31 #[.slice A H.length c, .func (.func 28) #[] #[.pointer (some ⟨p, 0, none⟩)]] w fun e w' => (∃ r : Int, e = .returned (.int .i64 r) ∧ decide (0 ≤ r) = H.any (fun y => y.1 == x)) ∧ Below w.heap.size w w' := by
  have hbig := h.big
  unfold maxLen at hbig
  have HH := Lib.hid h
  have HP := Lib.hid hp
  clear h hp
  go_enter Try.func31, Try.ntmps31
  go_wp2
  go_loopw [8] (fun v wr => ∃ k : Nat, k ≤ H.length ∧ v = .int .i64 k ∧ (∀ j (hj : j < H.length), j < k → (H[j].1 == x) = false) ∧ Below w.heap.size w wr) (fun v _ => H.length - (intOf v).toNat)
  case atStart => exact ⟨0, by omega, rfl, fun j _ h => by omega, Below.refl _ _⟩
  case round =>
    obtain ⟨k, hk, rfl, hno, hbl⟩ := hrel
    have HNO := Lib.hid hno
    have HB := Lib.hid hbl
    clear hno
    by_cases hlt : k < H.length
    · obtain ⟨g, rfl, hg, hc, _⟩ := HH.out.at_ (by omega)
      have hc1 := (hbl.cell (p := ⟨g, k * 2, none⟩) hg).trans (hc _ _ (hdCells_at H hlt).1)
      have hc2 := (hbl.cell (p := ⟨g, k * 2 + 1, none⟩) hg).trans (hc _ _ (hdCells_at H hlt).2)
      obtain ⟨y, hy⟩ : ∃ y, y = H[k] := ⟨_, rfl⟩
      rw [← hy] at hc1 hc2
      have HY := Lib.hid hy
      have hq := heldeq_any p x y.1 y.2 wr ((hbl.cell (p := ⟨p, 0, none⟩) hl).trans HP.out) (Nat.lt_of_lt_of_le hl hbl.size)
      have HQ := Lib.hid hq
      clear hy hc hq hbl
      by_cases he : (y.1 == x) = true
      · rw [he] at HQ
        go_wp2_with (go_at_call 28; refine HQ.out.mono ?_; rintro e w' ⟨rfl, hb'⟩; have HB' := Lib.hid hb'; clear hb')
        go_ret
        refine ⟨⟨k, rfl, ?_⟩, HB.out.trans (HB'.out.mono HB.out.size)⟩
        rw [decide_eq_true (by omega), eq_comm, List.any_eq_true]
        exact ⟨y, by rw [HY.out]; exact List.getElem_mem hlt, he⟩
      · have he' : (y.1 == x) = false := by simpa using he
        rw [he'] at HQ
        go_wp2_with (go_at_call 28; refine HQ.out.mono ?_; rintro e w' ⟨rfl, hb'⟩; have HB' := Lib.hid hb'; clear hb')
        go_roundw
        case rel =>
          refine ⟨k + 1, by omega, by go_num, fun j hj hjk => ?_, HB.out.trans (HB'.out.mono HB.out.size)⟩
          by_cases e : j = k
          · subst e
            rw [← HY.out]
            exact he'
          · exact HNO.out j hj (by omega)
        case measure => simp [intOf]; omega
    · obtain rfl : H.length = k := by omega
      go_wp2
      go_ret
      refine ⟨⟨-1, rfl, ?_⟩, HB.out⟩
      rw [decide_eq_false (by omega), eq_comm, ← Bool.not_eq_true, List.any_eq_true]
      rintro ⟨y, hm, e⟩
      obtain ⟨j, hj, rfl⟩ := List.getElem_of_mem hm
      exact absurd e (by simp [HNO.out j hj hj])
theorem hhas_any (A : Option Addr) (c : Nat) (H : List (Int × Int)) (x : Int) (p : Nat) (w : World) (h : Row w 42 2 A H.length c (hdCells H)) (hp : w.cell? ⟨p, 0, none⟩ = some (.int .i64 x)) (hl : p < w.heap.size) :
    Calls Try.prog 27 #[.slice A H.length c, .func (.func 28) #[] #[.pointer (some ⟨p, 0, none⟩)]] w fun e w' => e = .returned (.bool (H.any (fun y => y.1 == x))) ∧ Below w.heap.size w w' := by
  have hi := hidx_any A c H x p w h hp hl
  have HI := Lib.hid hi
  clear hi h hp
  go_enter Try.func27, Try.ntmps27
  go_wp2_with (go_at_call 31; refine HI.out.mono ?_; rintro e w' ⟨⟨r, rfl, hr⟩, hb⟩; have HR := Lib.hid hr; have HB := Lib.hid hb; clear hr hb)
  go_ret
  refine ⟨?_, HB.out⟩
  rw [← HR.out]
  rfl

/-- Hold. -/
def LgD.held (d : LgD) (x : Int) : Bool := d.H.any (fun y => y.1 == x)
def LgD.hold (d : LgD) (x : Int × Int) : LgD := if d.held x.1 = false ∧ d.H.length < d.mu then { d with H := d.H ++ [x] } else d
def LgD.holdB (d : LgD) (x : Int) : Bool := !d.held x && decide (d.H.length < d.mu)
theorem cell_of_block {W : World} {B : Nat} {cs : Array Value} {t : TypeId} (hb : W.heap[B]? = some (.cells cs t (0, 0))) (j : Nat) : W.cell? ⟨B, j, none⟩ = cs[j]? := by simp [World.cell?, hb]
/-- A box that a call leaves. -/
theorem box_after {w W0 : World} {o : Obj} (hb : Below (w.alloc o).heap.size (w.alloc o) W0) : Below w.heap.size w W0 ∧ W0.heap[w.heap.size]? = (w.alloc o).heap[w.heap.size]? :=
  ⟨((Below.refl _ w).alloc (Nat.le_refl _) o).trans (hb.mono (by simp)), hb.block _ (by simp)⟩
set_option maxRecDepth 100000 in
set_option maxHeartbeats 1000000 in
theorem hold_no (L : Nat) (a : LgA) (d : LgD) (x y : Int) (w : World) (h : LG w L a d) (hm : d.held x = true ∨ d.mu ≤ d.H.length) :
    Calls Try.prog 19 #[.pointer (some ⟨L, 0, none⟩), .agg #[.int .i64 x, .int .i64 y]] w fun e w' => e = .returned (.bool false) ∧ Stepped w w' L a d := by
  have H := Lib.hid h
  have hlt := h.lt
  have HM := Lib.hid hm
  have c2' : w.cell? ⟨L, 2, none⟩ = some (.slice a.aH d.H.length a.cH) := by simpa [lgCells] using h.cell 2
  clear h hm
  have key : ∀ (b : Bool), d.held x = b → Calls Try.prog 19 #[.pointer (some ⟨L, 0, none⟩), .agg #[.int .i64 x, .int .i64 y]] w fun e w' => e = .returned (.bool false) ∧ Stepped w w' L a d := by
    intro b hb
    have hq := fun (W : World) (p : Nat) (hW : LG W L a d) (hp : W.cell? ⟨p, 0, none⟩ = some (.int .i64 x)) (hl : p < W.heap.size) => hhas_any a.aH a.cH d.H x p W hW.h hp hl
    rw [show (d.H.any fun y => y.1 == x) = b from hb] at hq
    have HQ := Lib.hid hq
    have hnot : b = false → d.mu ≤ d.H.length := fun e => (HM.out.resolve_left (by rw [hb, e]; decide))
    clear hq hb
    have bx : (w.alloc (.cells #[.int .i64 x, .int .i64 y] 42)).cell? ⟨w.heap.size, 0, none⟩ = some (.int .i64 x) := cell_of_block (heap_alloc_new w _) 0
    have BX := Lib.hid bx
    clear bx
    cases b with
    | true =>
      go_enter Try.func19, Try.ntmps19
      go_wp2_with (go_at_call 27; refine (HQ.out _ _ (H.out.alloc _) BX.out (by simp)).mono ?_; rintro e w' ⟨rfl, hb'⟩; have hb0 := (box_after hb').1; have HB' := Lib.hid hb0; clear hb' hb0)
      go_quiet (fail)
      go_wp2
      go_ret
      exact ⟨rfl, Stepped.same H.out (HB'.out.trans ((below_drewN' _ _).mono HB'.out.size))⟩
    | false =>
      have hnot := hnot rfl
      go_enter Try.func19, Try.ntmps19
      go_wp2_with (go_at_call 27; refine (HQ.out _ _ (H.out.alloc _) BX.out (by simp)).mono ?_; rintro e w' ⟨rfl, hb'⟩; have hb0 := (box_after hb').1; have h0 := H.out.below hb0; have g2 : w'.cell? ⟨L, 2, none⟩ = some (.slice a.aH d.H.length a.cH) := by { simpa [lgCells] using h0.cell 2 }; have g5 : w'.cell? ⟨L, 5, none⟩ = some (.int .i64 d.mu) := by { simpa [lgCells] using h0.cell 5 }; have HB' := Lib.hid hb0; clear hb' hb0 h0)
      go_quiet (fail)
      go_wp2
      go_ret
      exact ⟨rfl, Stepped.same H.out (HB'.out.trans ((below_drewN' _ _).mono HB'.out.size))⟩
  exact key _ rfl
set_option maxRecDepth 100000 in
set_option maxHeartbeats 1000000 in
theorem hold_yes (L : Nat) (a : LgA) (d : LgD) (x y : Int) (w : World) (h : LG w L a d) (hn : d.held x = false) (hm : d.H.length < d.mu) :
    Calls Try.prog 19 #[.pointer (some ⟨L, 0, none⟩), .agg #[.int .i64 x, .int .i64 y]] w fun e w' => e = .returned (.bool true) ∧ Stepped w w' L a { d with H := d.H ++ [(x, y)] } := by
  have H := Lib.hid h
  have hlt := h.lt
  have hmu := h.mu
  have c2' : w.cell? ⟨L, 2, none⟩ = some (.slice a.aH d.H.length a.cH) := by simpa [lgCells] using h.cell 2
  have hq := fun (W : World) (p : Nat) (hW : LG W L a d) (hp : W.cell? ⟨p, 0, none⟩ = some (.int .i64 x)) (hl : p < W.heap.size) => hhas_any a.aH a.cH d.H x p W hW.h hp hl
  rw [show (d.H.any fun y => y.1 == x) = false from hn] at hq
  have HQ := Lib.hid hq
  have HM := Lib.hid hm
  have bx : (w.alloc (.cells #[.int .i64 x, .int .i64 y] 42)).cell? ⟨w.heap.size, 0, none⟩ = some (.int .i64 x) := cell_of_block (heap_alloc_new w _) 0
  have BX := Lib.hid bx
  clear bx hq h hn
  obtain ⟨i0, hi, hz0, hz1, hz2⟩ := info_parts infoHd
  go_enter Try.func19, Try.ntmps19
  go_wp2_with (go_at_call 27; refine (HQ.out _ _ (H.out.alloc _) BX.out (by simp)).mono ?_; rintro e W1 ⟨rfl, hb'⟩; have hb1 := (box_after hb').1; have hbox := (box_after hb').2.trans (heap_alloc_new w _); have h0 := H.out.below hb1; have g2 : W1.cell? ⟨L, 2, none⟩ = some (.slice a.aH d.H.length a.cH) := by { simpa [lgCells] using h0.cell 2 }; have g5 : W1.cell? ⟨L, 5, none⟩ = some (.int .i64 d.mu) := by { simpa [lgCells] using h0.cell 5 }; have HB1 := Lib.hid hb1; have HBOX := Lib.hid hbox; clear hb' hb1 h0 hbox)
  go_quiet (fail)
  go_wp2
  obtain ⟨W0, hW0⟩ : ∃ W0 : World, W0 = W1.drewN nq := ⟨_, rfl⟩
  rw [← hW0]
  have hb0 : Below w.heap.size w W0 := by rw [hW0]; exact HB1.out.trans ((below_drewN' _ _).mono HB1.out.size)
  have hbox : W0.heap[w.heap.size]? = some (.cells #[.int .i64 x, .int .i64 y] 42 (0, 0)) := by rw [hW0]; exact HBOX.out
  have hle0 := hb0.size
  have h0 := H.out.below hb0
  have H0 := Lib.hid h0
  have g3 : W0.cell? ⟨L, 2, none⟩ = some (.slice a.aH d.H.length a.cH) := by simpa [lgCells] using h0.cell 2
  have g3f := h0.fz 2
  have b0 : W0.cell? ⟨w.heap.size, 0, none⟩ = some (.int .i64 x) := by simp [World.cell?, hbox]
  have b1 : W0.cell? ⟨w.heap.size, 1, none⟩ = some (.int .i64 y) := by simp [World.cell?, hbox]
  have hlt0 : L < W0.heap.size := by omega
  have hbx0 : w.heap.size < W0.heap.size := lt_of_block hbox
  have C2 := Lib.hid c2'
  have f2 := H.out.fz 2
  have hx : ∀ w1, ((W0.alloc (.cells #[.int .i64 x, .int .i64 y] 42)).drew).grownBy w1 (Value.slice a.aH d.H.length a.cH).ownBlock → w1.heap[L]? = w.heap[L]? := fun w1 hg => pushed_block ((hb0.alloc (by omega) _).trans ((below_drew' _).mono (by simp; omega))) H.out.notL.2.2.1 hlt hg
  have hy := fun w1 g c' (ho : w1.ownsRow 0 42 2 (.slice (some ⟨g, 0, none⟩) (d.H.length + 1) c') (d.H.length + 1) (hdCells d.H ++ hdCells1 (x, y))) (hg : ((W0.alloc (.cells #[.int .i64 x, .int .i64 y] 42)).drew).grownBy w1 (Value.slice a.aH d.H.length a.cH).ownBlock) (ha : (Value.slice a.aH d.H.length a.cH).ownBlock = some g ∨ g = ((W0.alloc (.cells #[.int .i64 x, .int .i64 y] 42)).drew).heap.size) =>
    pushed_of (o := 2) ((hb0.alloc (by omega) _).trans ((below_drew' _).mono (by simp; omega))) H.out.notL.2.2.1 hlt ho hg ha
  have HX := Lib.hid hx
  have HY := Lib.hid hy
  clear hW0 h0 hb0 hbox c2' hx hy g2 g5
  go_region_law (
    refine step_append_lies _ rfl _ _ 37 rfl 0 42 i0 _ 2 16 Try.underlying37 hi hz0 hz1 hz2 rfl (by decide) (.slice a.aH d.H.length a.cH) d.H.length _ rfl ((H0.out.alloc _).drew.h) ⟨W0.heap.size, 0, none⟩ 1 1 [.int .i64 x, .int .i64 y] rfl rfl (World.news_of_block (heap_alloc_new W0 _)) (by intro v hv; simp at hv; rcases hv with rfl | rfl <;> rfl) (by decide) (by unfold maxLen; omega) (by omega) (Nat.zero_le _) _ rfl ?_
    intro g c' w1 hown hgrow hat hlt1
    have hbl := HX.out _ hgrow
    have k0 := (World.cell?_of_block (a := ⟨L, 2, none⟩) hbl).trans C2.out
    have k1 := (World.frozen?_of_block (a := ⟨L, 2, none⟩) hbl).trans f2
    have HP := Lib.hid (HY.out _ _ _ hown hgrow (by simpa using hat))
    clear hbl hown hgrow hat)
  all_goals
    try go_wp2
    go_ret
    exact ⟨rfl, pushed_hold H.out HP.out HM.out⟩
theorem hold_any (L : Nat) (a : LgA) (d : LgD) (x y : Int) (w : World) (h : LG w L a d) :
    Calls Try.prog 19 #[.pointer (some ⟨L, 0, none⟩), .agg #[.int .i64 x, .int .i64 y]] w fun e w' => e = .returned (.bool (d.holdB x)) ∧ Stepped w w' L a (d.hold (x, y)) := by
  by_cases hc : d.held x = false ∧ d.H.length < d.mu
  · have e1 : d.holdB x = true := by simp [LgD.holdB, hc.1, hc.2]
    have e2 : d.hold (x, y) = { d with H := d.H ++ [(x, y)] } := by unfold LgD.hold; rw [if_pos hc]
    rw [e1, e2]
    exact hold_yes L a d x y w h hc.1 hc.2
  · have e1 : d.holdB x = false := by
      unfold LgD.holdB
      cases hh : d.held x
      · simp only [hh, true_and] at hc; simp; omega
      · rfl
    have e2 : d.hold (x, y) = d := by unfold LgD.hold; rw [if_neg hc]
    rw [e1, e2]
    refine hold_no L a d x y w h ?_
    cases hh : d.held x
    · simp only [hh, true_and] at hc; exact .inr (by omega)
    · exact .inl rfl
def LgD.undoB (d : LgD) : Bool := decide (d.U.length < d.mu)
theorem undo_any (L : Nat) (a : LgA) (d : LgD) (u : Un) (w : World) (h : LG w L a d) :
    Calls Try.prog 14 #[.pointer (some ⟨L, 0, none⟩), .agg #[.int .i64 u.kind, .int .i64 u.at_, .int .i64 u.i, .int .i64 u.old]] w fun e w' => e = .returned (.bool d.undoB) ∧ Stepped w w' L a (d.undo u) := by
  by_cases hc : d.U.length < d.mu
  · have e1 : d.undoB = true := decide_eq_true hc
    have e2 : d.undo u = { d with U := d.U ++ [u] } := by unfold LgD.undo; rw [if_pos hc]
    rw [e1, e2]
    exact undo_yes L a d u w h hc
  · have e1 : d.undoB = false := decide_eq_false hc
    have e2 : d.undo u = d := by unfold LgD.undo; rw [if_neg hc]
    rw [e1, e2]
    exact undo_no L a d u w h (by omega)
end Go.Proofs.Ytbmedngnfkkhdaa
