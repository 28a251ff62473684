/-
  PROVED: the contracts of package bitmap's Next and Count. No condition but that the cells hold a bitmap, and the library's table as its initialiser lays it.
-/
import Derived.Test.YtlcibahafcaojaaDoorIter
namespace Go.Proofs.YtlcibahafcaojaaDoor
open Go.RowKit Go.Shelf
attribute [local go_sem] Oper.semAt_some

/-- What from hands back goes through all that are in. -/
theorem from_stops (B A n n₀ bx bi : Nat) (ws : List Nat) (i : Int) (w : World) (hB : B < n₀) (hA : A < n₀) (h00 : 0 < n₀) (hn : n₀ ≤ w.heap.size) (hbx : bx < w.heap.size) (hbi : bi < w.heap.size)
    (hb : w.heap[bx]? = some (.cells #[.pointer (some ⟨B, 0, none⟩)] 24 (0, 0))) (hi : w.cell? ⟨bi, 0, none⟩ = some (.int .i64 i)) (hM : BM w B A n ws) (hT : Tab w) :
    SeqStopsK Fence.wide 5 Tryd.prog 17 #[.pointer (some ⟨bi, 0, none⟩), .pointer (some ⟨bx, 0, none⟩)] (fun x : Nat => #[Value.int .i64 (x : Int)]) (Kp n₀ bx)
      (fun ys => ys = elems (has ws) i.toNat n) (fun pre => pre <+: elems (has ws) i.toNat n) (elems (has ws) i.toNat n).length w := fun l J Jx W hW _ _ hY h0 =>
  from1_any l B A n n₀ bx bi ws i J Jx hB hA h00 hY W ((hW.block bx hbx).trans hb) ((hW.cell (p := ⟨bi, 0, none⟩) hbi).trans hi) (hM.below hW (by omega) (by omega)) (hT.below hW (by omega)) h0

/-- What Next tells, of those that are in from a number on. -/
def nextOf : List Nat → Value
  | [] => .tuple #[.int .i64 0, .bool false]
  | x :: _ => .tuple #[.int .i64 (x : Nat), .bool true]

/-- Four boxes, one behind the other. -/
theorem boxes4 {w W0 : World} {v0 v1 v2 v3 : Value} {t0 t1 t2 t3 : TypeId} (h : (((w.alloc (.cells #[v0] t0)).alloc (.cells #[v1] t1)).alloc (.cells #[v2] t2)).alloc (.cells #[v3] t3) = W0) :
    Boxed W0 w.heap.size t0 v0 ∧ Boxed W0 (w.heap.size + 1) t1 v1 ∧ Boxed W0 (w.heap.size + 1 + 1) t2 v2 ∧ Boxed W0 (w.heap.size + 1 + 1 + 1) t3 v3 ∧ Below w.heap.size w W0 ∧ W0.heap.size = w.heap.size + 4 := by
  subst h
  have b0 := Boxed.new w t0 v0
  have b1 := Boxed.new (w.alloc (.cells #[v0] t0)) t1 v1
  have b2 := Boxed.new ((w.alloc (.cells #[v0] t0)).alloc (.cells #[v1] t1)) t2 v2
  have b3 := Boxed.new (((w.alloc (.cells #[v0] t0)).alloc (.cells #[v1] t1)).alloc (.cells #[v2] t2)) t3 v3
  simp only [World.size_alloc] at b1 b2 b3
  refine ⟨((b0.alloc _).alloc _).alloc _, (b1.alloc _).alloc _, b2.alloc _, b3, ?_, by simp⟩
  exact ((((Below.refl _ w).alloc (Nat.le_refl _) _).alloc (by simp) _).alloc (by simp; omega) _).alloc (by simp; omega) _

set_option maxRecDepth 100000 in
set_option maxHeartbeats 2000000 in
theorem next_any (B A n : Nat) (ws : List Nat) (i : Int) (w : World) (hM : BM w B A n ws) (hT : Tab w) (hpos : 0 < w.heap.size) :
    Calls Tryd.prog 12 #[.pointer (some ⟨B, 0, none⟩), .int .i64 i] w fun e w' => e = .returned (nextOf (elems (has ws) i.toNat n)) ∧ Below w.heap.size w w' := by
  refine (callsIn_wide (n := 6)).1 ?_
  have hB := hM.ltB
  have hA := hM.ltA
  refine callsIn_of_wp_marks Tryd.func12 rfl trivial ?_ rfl
  simp only [Tryd.ntmps12, List.size_toArray, List.length_cons, List.length_nil, Nat.reduceAdd, Nat.reduceSub, Array.replicate_succ, Array.replicate_zero, List.push_toArray, List.append_toArray, List.nil_append, List.cons_append]
  have HM := Lib.hid hM
  have HT := Lib.hid hT
  clear hM hT
  gi_wp2_with (refine ⟨trivial, ?_⟩; gi_at_call 16; refine (callsIn_wide.2 (from_any _ _ _)).mono ?_; rintro e w' ⟨rfl, rfl⟩)
  obtain ⟨W0, hW0⟩ : ∃ W0, (((w.alloc (.cells #[.int .i64 0] 3)).alloc (.cells #[.bool false] 4)).alloc (.cells #[.pointer (some ⟨B, 0, none⟩)] 24)).alloc (.cells #[.int .i64 i] 3) = W0 := ⟨_, rfl⟩
  obtain ⟨b0, b1, b2, b3, hbel, hsz⟩ := boxes4 hW0
  rw [hW0]
  clear hW0
  refine wpIn_rangeFunc_ownG rfl (by omega) (gf := 17) (lb := #[.pointer (some ⟨w.heap.size + 1 + 1 + 1, 0, none⟩), .pointer (some ⟨w.heap.size + 1 + 1, 0, none⟩)]) rfl trivial (enters_of Tryd.func17 (by kernel_rfl) rfl)
    (from_stops B A n w.heap.size (w.heap.size + 1 + 1) (w.heap.size + 1 + 1 + 1) ws i W0 hB hA hpos (by omega) (by omega) (by omega) b2 b3.cell (HM.out.below hbel hB hA) (HT.out.below hbel hpos))
    Kp.t (Kp.b (by omega) (by omega)) (Below.refl _ _) (fun _ => rfl)
    (fun pre W => (pre = [] ∧ Boxed W w.heap.size 3 (.int .i64 0) ∧ Boxed W (w.heap.size + 1) 4 (.bool false)) ∧ Below w.heap.size w W)
    (fun c pre W => (c = .ret ∧ ∃ x : Nat, pre = [x] ∧ Boxed W w.heap.size 3 (.int .i64 (x : Int)) ∧ Boxed W (w.heap.size + 1) 4 (.bool true)) ∧ Below w.heap.size w W)
    (OwnFrom.and (Own.from (fun s A B row hs hg hr => ⟨hs.1, boxed_own w.heap.size 3 (fun _ : List Nat => Value.int .i64 0) s A B row hs.2.1 hg hr, boxed_own (w.heap.size + 1) 4 (fun _ : List Nat => Value.bool false) s A B row hs.2.2 hg hr⟩) _) (ownFrom_below (Nat.le_refl _) (by omega)))
    (fun c => OwnFrom.and (Own.from (fun s A B row hs hg hr => by obtain ⟨hc, x, e1, e2, e3⟩ := hs; exact ⟨hc, x, e1, boxed_own w.heap.size 3 (fun _ : List Nat => Value.int .i64 (x : Int)) s A B row e2 hg hr, boxed_own (w.heap.size + 1) 4 (fun _ : List Nat => Value.bool true) s A B row e3 hg hr⟩) _) (ownFrom_below (Nat.le_refl _) (by omega)))
    ⟨⟨rfl, b0, b1⟩, hbel⟩
    (fun x => { tmps := #[.pointer (some ⟨B, 0, none⟩), .int .i64 i, undef, undef, .pointer (some ⟨w.heap.size, 0, none⟩), .pointer (some ⟨w.heap.size + 1, 0, none⟩), .int .i64 (x : Int), .pointer (some ⟨B, 0, none⟩), .int .i64 i, .func (.func 17) #[] #[.pointer (some ⟨w.heap.size + 1 + 1 + 1, 0, none⟩), .pointer (some ⟨w.heap.size + 1 + 1, 0, none⟩)], .int .i64 (x : Int), undef], defers := [] }) ?assign ?body ?done ?stop
  case assign =>
    intro l x W K hK
    gi_wp2
    exact hK
  case body =>
    rintro l pre x W ⟨⟨rfl, hb0, hb1⟩, hbl⟩ _
    have hc0 := hb0.cell
    have hf0 := hb0.frozen
    have hc1 := hb1.cell
    have hf1 := hb1.frozen
    gi_wp2
    exact ⟨((KeepsOthers.setCell _ _ _).trans (KeepsOthers.setCell _ _ _)).from _, ⟨rfl, x, rfl, (hb0.set _).other (by omega) _, (hb1.other (by omega) _).set _⟩,
      (hbl.setCell (p := ⟨w.heap.size, 0, none⟩) (Nat.le_refl _) _).setCell (p := ⟨w.heap.size + 1, 0, none⟩) (by simp) _⟩
  case done =>
    rintro D ys W hD hys ⟨⟨rfl, hb0, hb1⟩, hbl⟩ hK
    have hc0 := hb0.cell
    have hf0 := hb0.frozen
    have hc1 := hb1.cell
    have hf1 := hb1.frozen
    gi_wp2
    have hK' := ((KeepsOthers.setCell W ⟨w.heap.size, 0, none⟩ (.int .i64 0)).trans (KeepsOthers.setCell _ ⟨w.heap.size + 1, 0, none⟩ (.bool false))).same D _ hK rfl
    have e0 := boxed_own w.heap.size 3 (fun _ : Unit => Value.int .i64 0) () _ _ (some D) ((hb0.set (.int .i64 0)).other (B' := w.heap.size + 1) (by omega) (.bool false)) (grownBy_putObj' _ D (.deferred none)) (fun r e => by cases e; exact ⟨_, hK', rfl⟩)
    have e1 := boxed_own (w.heap.size + 1) 4 (fun _ : Unit => Value.bool false) () _ _ (some D) ((hb1.other (B' := w.heap.size) (by omega) (.int .i64 0)).set (.bool false)) (grownBy_putObj' _ D (.deferred none)) (fun r e => by cases e; exact ⟨_, hK', rfl⟩)
    refine ⟨by simp, .inl ⟨_, _, rfl, run_takeDeferred hK', ?_⟩⟩
    refine ⟨.tuple #[.int .i64 0, .bool false], ?_, by rw [← hys]; rfl, ((hbl.setCell (p := ⟨w.heap.size, 0, none⟩) (Nat.le_refl _) _).setCell (p := ⟨w.heap.size + 1, 0, none⟩) (by simp) _).trans (belowK_b (w := w) (Nat.le_refl _) _ D _ _ (by omega) hK' rfl rfl)⟩
    simp [results, Tryd.f12, go_sem, e0.cell, e1.cell]
  case stop =>
    rintro D c pre W hD ⟨tl, hpre⟩ ⟨⟨rfl, x, rfl, hb0, hb1⟩, hbl⟩ hK
    gi_wp2
    have e0 := boxed_own w.heap.size 3 (fun _ : Unit => Value.int .i64 (x : Int)) () _ _ (some D) hb0 (grownBy_putObj' _ D (.deferred none)) (fun r e => by cases e; exact ⟨_, hK, rfl⟩)
    have e1 := boxed_own (w.heap.size + 1) 4 (fun _ : Unit => Value.bool true) () _ _ (some D) hb1 (grownBy_putObj' _ D (.deferred none)) (fun r e => by cases e; exact ⟨_, hK, rfl⟩)
    refine ⟨by simp, .inl ⟨_, _, rfl, run_takeDeferred hK, ?_⟩⟩
    refine ⟨.tuple #[.int .i64 (x : Int), .bool true], ?_, by rw [← hpre]; rfl, hbl.trans (belowK_b (w := w) (Nat.le_refl _) _ D _ _ (by omega) hK rfl rfl)⟩
    simp [results, Tryd.f12, go_sem, e0.cell, e1.cell]

set_option maxRecDepth 100000 in
set_option maxHeartbeats 2000000 in
theorem count_any (B A n : Nat) (ws : List Nat) (i hi : Int) (w : World) (hM : BM w B A n ws) (hT : Tab w) (hpos : 0 < w.heap.size) :
    Calls Tryd.prog 14 #[.pointer (some ⟨B, 0, none⟩), .int .i64 i, .int .i64 hi] w fun e w' => e = .returned (.int .i64 (ahead (elems (has ws) i.toNat n) hi : Nat)) ∧ Below w.heap.size w w' := by
  refine (callsIn_wide (n := 6)).1 ?_
  have hB := hM.ltB
  have hA := hM.ltA
  have htop := hM.top
  have hlen := elems_len (has ws) i.toNat n
  refine callsIn_of_wp_marks Tryd.func14 rfl trivial ?_ rfl
  simp only [Tryd.ntmps14, List.size_toArray, List.length_cons, List.length_nil, Nat.reduceAdd, Nat.reduceSub, Array.replicate_succ, Array.replicate_zero, List.push_toArray, List.append_toArray, List.nil_append, List.cons_append]
  have HM := Lib.hid hM
  have HT := Lib.hid hT
  clear hM hT
  gi_wp2_with (refine ⟨trivial, ?_⟩; gi_at_call 16; refine (callsIn_wide.2 (from_any _ _ _)).mono ?_; rintro e w' ⟨rfl, rfl⟩)
  obtain ⟨W0, hW0⟩ : ∃ W0, (((w.alloc (.cells #[.int .i64 hi] 3)).alloc (.cells #[.int .i64 0] 3)).alloc (.cells #[.pointer (some ⟨B, 0, none⟩)] 24)).alloc (.cells #[.int .i64 i] 3) = W0 := ⟨_, rfl⟩
  obtain ⟨b0, b1, b2, b3, hbel, hsz⟩ := boxes4 hW0
  rw [hW0]
  clear hW0
  refine wpIn_rangeFunc_ownG rfl (by omega) (gf := 17) (lb := #[.pointer (some ⟨w.heap.size + 1 + 1 + 1, 0, none⟩), .pointer (some ⟨w.heap.size + 1 + 1, 0, none⟩)]) rfl trivial (enters_of Tryd.func17 (by kernel_rfl) rfl)
    (from_stops B A n w.heap.size (w.heap.size + 1 + 1) (w.heap.size + 1 + 1 + 1) ws i W0 hB hA hpos (by omega) (by omega) (by omega) b2 b3.cell (HM.out.below hbel hB hA) (HT.out.below hbel hpos))
    Kp.t (Kp.b (by omega) (by omega)) (Below.refl _ _) (fun _ => rfl)
    (fun pre W => ((∀ x ∈ pre, (x : Int) < hi) ∧ Boxed W w.heap.size 3 (.int .i64 hi) ∧ Boxed W (w.heap.size + 1) 3 (.int .i64 (pre.length : Nat))) ∧ Below w.heap.size w W)
    (fun c pre W => (c = .exit 0 ∧ ∃ (ini : List Nat) (x : Nat), pre = ini ++ [x] ∧ (∀ x ∈ ini, (x : Int) < hi) ∧ hi ≤ (x : Int) ∧ Boxed W (w.heap.size + 1) 3 (.int .i64 (ini.length : Nat))) ∧ Below w.heap.size w W)
    (OwnFrom.and (Own.from (fun s A B row hs hg hr => ⟨hs.1, boxed_own w.heap.size 3 (fun _ : List Nat => Value.int .i64 hi) s A B row hs.2.1 hg hr, boxed_own (w.heap.size + 1) 3 (fun s : List Nat => Value.int .i64 (s.length : Nat)) s A B row hs.2.2 hg hr⟩) _) (ownFrom_below (Nat.le_refl _) (by omega)))
    (fun c => OwnFrom.and (Own.from (fun s A B row hs hg hr => by obtain ⟨hc, ini, x, e1, e2, e3, e4⟩ := hs; exact ⟨hc, ini, x, e1, e2, e3, boxed_own (w.heap.size + 1) 3 (fun _ : List Nat => Value.int .i64 (ini.length : Nat)) s A B row e4 hg hr⟩) _) (ownFrom_below (Nat.le_refl _) (by omega)))
    ⟨⟨by simp, b0, b1⟩, hbel⟩
    (fun x => { tmps := #[.pointer (some ⟨B, 0, none⟩), .int .i64 i, .int .i64 hi, undef, undef, .pointer (some ⟨w.heap.size, 0, none⟩), .pointer (some ⟨w.heap.size + 1, 0, none⟩), .int .i64 (x : Int), .pointer (some ⟨B, 0, none⟩), .int .i64 i, .func (.func 17) #[] #[.pointer (some ⟨w.heap.size + 1 + 1 + 1, 0, none⟩), .pointer (some ⟨w.heap.size + 1 + 1, 0, none⟩)], .int .i64 (x : Int), undef, undef, undef, undef, undef], defers := [] }) ?assign ?body ?done ?stop
  case assign =>
    intro l x W K hK
    gi_wp2
    exact hK
  case body =>
    rintro l pre x W ⟨⟨hp, hb0, hb1⟩, hbl⟩ hl
    have hc0 := hb0.cell
    have hc1 := hb1.cell
    have hf1 := hb1.frozen
    by_cases hx : (x : Int) < hi
    · gi_wp2
      refine ⟨(KeepsOthers.setCell _ _ _).from _, ⟨(Below.refl w.heap.size W).setCell (p := ⟨w.heap.size + 1, 0, none⟩) (by simp) _, ?_⟩, ⟨⟨fun y hy => (List.mem_append.1 hy).elim (hp y) (fun e => by simp at e; subst e; exact hx), hb0.other (by omega) _, ?_⟩, hbl.setCell (p := ⟨w.heap.size + 1, 0, none⟩) (by simp) _⟩⟩
      · exact Below.heap_setCell _ _ _ _ (by simp)
      · have := hb1.set (.int .i64 ((pre.length : Int) + 1))
        simpa using this
    · gi_wp2
      exact ⟨KeepsFrom.refl _ _, ⟨rfl, pre, x, rfl, hp, by omega, hb1⟩, hbl⟩
  case done =>
    rintro D ys W hD hys ⟨⟨hp, hb0, hb1⟩, hbl⟩ hK
    gi_wp2
    have e1 := boxed_own (w.heap.size + 1) 3 (fun _ : Unit => Value.int .i64 (ys.length : Nat)) () _ _ (some D) hb1 (grownBy_putObj' _ D (.deferred none)) (fun r e => by cases e; exact ⟨_, hK, rfl⟩)
    refine ⟨by simp, .inl ⟨_, _, rfl, run_takeDeferred hK, ?_⟩⟩
    refine ⟨.int .i64 (ys.length : Nat), ?_, by rw [← hys, ahead_all hp], hbl.trans (belowK_b (w := w) (Nat.le_refl _) _ D _ _ (by omega) hK rfl rfl)⟩
    simp [results, Tryd.f14, go_sem, e1.cell]
  case stop =>
    rintro D c pre W hD ⟨tl, hpre⟩ ⟨⟨rfl, ini, x, rfl, hp, hx, hb1⟩, hbl⟩ hK
    gi_wp2
    have e1 := boxed_own (w.heap.size + 1) 3 (fun _ : Unit => Value.int .i64 (ini.length : Nat)) () _ _ (some D) hb1 (grownBy_putObj' _ D (.deferred none)) (fun r e => by cases e; exact ⟨_, hK, rfl⟩)
    refine ⟨by simp, .inl ⟨_, _, rfl, run_takeDeferred hK, ?_⟩⟩
    refine ⟨.int .i64 (ini.length : Nat), ?_, by rw [← hpre]; simp [ahead_stop hp hx], hbl.trans (belowK_b (w := w) (Nat.le_refl _) _ D _ _ (by omega) hK rfl rfl)⟩
    simp [results, Tryd.f14, go_sem, e1.cell]
end Go.Proofs.YtlcibahafcaojaaDoor
