/-
  PROVED: the contract of package txlog's Replace: all places become others; all else stays. No condition but that the cells hold a log, and that what is handed in lies elsewhere.
-/
import Derived.Test.YtbmedngnfkkhdaaLogH
import Derived.Stop.RegionWithIn
namespace Go.Proofs.Ytbmedngnfkkhdaa
open Go.RowKit Go.Shelf
attribute [local go_sem] Oper.semAt_some

theorem mem_seg {f : Nat → List Addr} {n : Nat} {p : Addr} : p ∈ seg f n 0 ↔ ∃ k, k < n ∧ p ∈ f k := by
  unfold seg
  simp [List.mem_flatMap]
theorem seg_nodup {f : Nat → List Addr} {n : Nat} (h1 : ∀ k, k < n → (f k).Nodup) (h2 : ∀ j k, j < k → k < n → ∀ x ∈ f j, ∀ y ∈ f k, x ≠ y) : (seg f n 0).Nodup := by
  unfold seg List.Nodup
  rw [List.pairwise_flatMap]
  refine ⟨fun k hk => h1 k (by simpa using hk), ?_⟩
  have h := List.pairwise_lt_range' (s := 0) (n := n - 0) 1
  refine List.Pairwise.imp_of_mem ?_ h
  intro j k _ hk hlt
  exact h2 j k hlt (by simpa using hk)
section
variable {w : World} {L : Nat} {a : LgA} {d : LgD}
theorem in_r (h : LG w L a d) {p : Addr} (hp : p ∈ seg (fI a.aR) d.R.length 0) : rowOf a.aR = some p.block := by
  obtain ⟨k, hk, hp⟩ := mem_seg.1 hp
  obtain ⟨g, hA, _⟩ := h.r.at_ (by omega)
  simp [fI, bk, hA, rowOf] at hp
  simp [hA, rowOf, hp]
theorem in_k (h : LG w L a d) {p : Addr} (hp : p ∈ seg (fI a.aK) d.K.length 0) : rowOf a.aK = some p.block := by
  obtain ⟨k, hk, hp⟩ := mem_seg.1 hp
  obtain ⟨g, hA, _⟩ := h.k.at_ (by omega)
  simp [fI, bk, hA, rowOf] at hp
  simp [hA, rowOf, hp]
theorem in_h (h : LG w L a d) {p : Addr} (hp : p ∈ seg (fH a.aH) d.H.length 0) : rowOf a.aH = some p.block := by
  obtain ⟨k, hk, hp⟩ := mem_seg.1 hp
  obtain ⟨g, hA, _⟩ := h.h.at_ (by omega)
  simp [fH, bk, hA, rowOf] at hp
  simp [hA, rowOf, hp]
theorem mem_fU {A : Option Addr} {U : List Un} {k : Nat} {p : Addr} (hp : p ∈ fU A U k) : p.block = bk A ∧ (p.off = k * 4 + 1 ∨ p.off = k * 4 + 3) := by
  unfold fU at hp
  split at hp
  · simp at hp
    rcases hp with rfl | rfl
    · exact ⟨rfl, .inl rfl⟩
    · exact ⟨rfl, .inr rfl⟩
  · simp at hp
    subst hp
    exact ⟨rfl, .inl rfl⟩
theorem in_u (h : LG w L a d) {p : Addr} (hp : p ∈ seg (fU a.aU d.U) d.U.length 0) : rowOf a.aU = some p.block := by
  obtain ⟨k, hk, hp⟩ := mem_seg.1 hp
  obtain ⟨g, hA, _⟩ := h.u.at_ (by omega)
  have := (mem_fU hp).1
  simp [hA, rowOf, this, bk]
theorem allAt_nodup (h : LG w L a d) : (allAt a d).Nodup := by
  unfold allAt
  simp only [List.nodup_append, List.mem_append]
  have nI : ∀ (A : Option Addr) n, (seg (fI A) n 0).Nodup := fun A n => seg_nodup (fun k _ => by simp [fI]) (fun j k hlt _ x hx y hy => by simp [fI] at hx hy; subst hx hy; simp; try omega)
  refine ⟨nI _ _, ⟨nI _ _, ⟨?_, ?_, ?_⟩, ?_⟩, ?_⟩
  · exact seg_nodup (fun k _ => by simp [fH]) (fun j k hlt _ x hx y hy => by simp [fH] at hx hy; subst hx hy; simp; try omega)
  · refine seg_nodup (fun k _ => by unfold fU; split <;> simp) (fun j k hlt _ x hx y hy e => ?_)
    subst e
    have := (mem_fU hx).2
    have := (mem_fU hy).2
    omega
  · rintro x hx y hy rfl
    exact h.h.apart h.u (by decide) _ (in_h h hx) (in_u h hy)
  · rintro x hx y (hy | hy) rfl
    · exact h.k.apart h.h (by decide) _ (in_k h hx) (in_h h hy)
    · exact h.k.apart h.u (by decide) _ (in_k h hx) (in_u h hy)
  · rintro x hx y (hy | hy | hy) rfl
    · exact h.ne _ (in_r h hx) (in_k h hy)
    · exact h.r.apart h.h (by decide) _ (in_r h hx) (in_h h hy)
    · exact h.r.apart h.u (by decide) _ (in_r h hx) (in_u h hy)
theorem allAt_row (h : LG w L a d) {p : Addr} (hp : p ∈ allAt a d) : rowOf a.aR = some p.block ∨ rowOf a.aK = some p.block ∨ rowOf a.aH = some p.block ∨ rowOf a.aU = some p.block := by
  unfold allAt at hp
  simp only [List.mem_append] at hp
  rcases hp with hp | hp | hp | hp
  · exact .inl (in_r h hp)
  · exact .inr (.inl (in_k h hp))
  · exact .inr (.inr (.inl (in_h h hp)))
  · exact .inr (.inr (.inr (in_u h hp)))
theorem allAt_plain {p : Addr} (hp : p ∈ allAt a d) : p = ⟨p.block, p.off, none⟩ := by
  unfold allAt at hp
  simp only [List.mem_append, mem_seg] at hp
  rcases hp with ⟨k, _, hp⟩ | ⟨k, _, hp⟩ | ⟨k, _, hp⟩ | ⟨k, _, hp⟩
  · simp [fI] at hp; subst hp; rfl
  · simp [fI] at hp; subst hp; rfl
  · simp [fH] at hp; subst hp; rfl
  · unfold fU at hp
    split at hp <;> simp at hp
    · rcases hp with rfl | rfl <;> rfl
    · subst hp; rfl
end

/-- How far Replace has come: pre has been written. -/
structure Rep (w : World) (L : Nat) (a : LgA) (d : LgD) (S : List Int) (pre : List Addr) (W : World) : Prop where
  only : Only (fun i => Foot L a i ∧ i ≠ L) w W
  shape : ∀ (k : Nat) (cs : Array Value) (E : TypeId) (fr : Nat × Nat), w.heap[k]? = some (Obj.cells cs E fr) → ∃ cs' : Array Value, W.heap[k]? = some (Obj.cells cs' E fr) ∧ cs'.size = cs.size
  other : ∀ b o, b < w.heap.size → (⟨b, o, none⟩ : Addr) ∉ allAt a d → W.cell? ⟨b, o, none⟩ = w.cell? ⟨b, o, none⟩
  good : pre <+: allAt a d → pre.map W.cell? = (S.take pre.length).map wordAt
theorem Rep.start (w : World) (L : Nat) (a : LgA) (d : LgD) (S : List Int) {W : World} (hb : Below w.heap.size w W) : Rep w L a d S [] W :=
  ⟨Only.of_below hb, fun k cs _ _ h => ⟨cs, (hb.block k (lt_of_block h)).trans h, rfl⟩, fun b o hl _ => hb.cell (p := ⟨b, o, none⟩) hl, fun _ => rfl⟩
theorem Rep.grow {w : World} {L : Nat} {a : LgA} {d : LgD} {S : List Int} {pre : List Addr} {W W' : World} (h : Rep w L a d S pre W) (hg : LG w L a d) (hb : Below w.heap.size W W') : Rep w L a d S pre W' := by
  refine ⟨?_, ?_, ?_, ?_⟩
  · exact ⟨hb.os.trans h.only.os, hb.tape.trans h.only.tape, hb.output.trans h.only.output, Nat.le_trans h.only.size hb.size, fun i hi hn => (hb.block i hi).trans (h.only.block i hi hn)⟩
  · intro k cs _ _ hk
    obtain ⟨cs', h1, h2⟩ := h.shape k cs _ _ hk
    exact ⟨cs', (hb.block k (lt_of_block hk)).trans h1, h2⟩
  · intro b o hl hn
    exact (hb.cell (p := ⟨b, o, none⟩) hl).trans (h.other b o hl hn)
  · intro hp
    rw [← h.good hp]
    refine List.map_congr_left fun q hq => ?_
    have hqm : q ∈ allAt a d := hp.subset hq
    obtain ⟨y, hy⟩ := mem_at (roots_at hg) hqm
    exact hb.cell (cell_lt hy)
theorem Rep.step {w : World} {L : Nat} {a : LgA} {d : LgD} {S : List Int} {pre : List Addr} {W : World} {p : Addr} {v : Int} (hg : LG w L a d) (h : Rep w L a d S pre W) (hp : p ∈ allAt a d) (hv : S[pre.length]? = some v) :
    Rep w L a d S (pre ++ [p]) (W.setCell p (.int .i64 v)) := by
  obtain ⟨b, o, rfl⟩ : ∃ b o, p = ⟨b, o, none⟩ := ⟨_, _, allAt_plain hp⟩
  obtain ⟨y, hy⟩ := mem_at (roots_at hg) hp
  have hbl := cell_lt hy
  have hrow := allAt_row hg hp
  have hne : b ≠ L := by
    obtain ⟨n1, n2, n3, n4⟩ := hg.notL
    rintro rfl
    rcases hrow with e | e | e | e
    · exact n1 e
    · exact n2 e
    · exact n3 e
    · exact n4 e
  obtain ⟨cs, E, fr, hh, hval⟩ : ∃ (cs : Array Value) (E : TypeId) (fr : Nat × Nat), w.heap[b]? = some (Obj.cells cs E fr) ∧ cs[o]? = wordAt y := by
    unfold World.cell? at hy
    simp only at hy
    split at hy
    · rename_i cs E fr he
      exact ⟨cs, E, fr, he, by simpa using hy⟩
    · simp [wordAt] at hy
  obtain ⟨cs', hW, hsz⟩ := h.shape b cs E fr hh
  have ho : o < cs'.size := by rw [hsz]; exact (Array.getElem?_eq_some_iff.1 hval).1
  have hnew : (W.setCell ⟨b, o, none⟩ (.int .i64 v)).heap[b]? = some (Obj.cells (cs'.setIfInBounds o (.int .i64 v)) E fr) := by simp [World.setCell, Array.getElem?_modify, hW]
  have hoth : ∀ b' o', ¬ (b' = b ∧ o' = o) → (W.setCell ⟨b, o, none⟩ (.int .i64 v)).cell? ⟨b', o', none⟩ = W.cell? ⟨b', o', none⟩ := by
    intro b' o' hn
    by_cases e : b' = b
    · subst e
      have hn' : o ≠ o' := fun e => hn ⟨rfl, e.symm⟩
      simp [World.cell?, hnew, hW, hn']
    · exact World.cell?_of_block (Below.heap_setCell W _ _ b' e)
  refine ⟨h.only.setCell (.inl ⟨?_, hne⟩) _, ?_, ?_, ?_⟩
  · rcases hrow with e | e | e | e
    · exact .inr (.inl e)
    · exact .inr (.inr (.inl e))
    · exact .inr (.inr (.inr (.inl e)))
    · exact .inr (.inr (.inr (.inr e)))
  · intro k c0 E0 f0 hk
    obtain ⟨c1, h1, h2⟩ := h.shape k c0 E0 f0 hk
    by_cases e : k = b
    · subst e
      rw [hh] at hk
      injection hk with hk
      injection hk with e1 e2 e3
      subst e1 e2 e3
      exact ⟨_, hnew, by simp [hsz]⟩
    · exact ⟨c1, (Below.heap_setCell W _ _ k e).trans h1, h2⟩
  · intro b' o' hl hn
    refine (hoth b' o' ?_).trans (h.other b' o' hl hn)
    rintro ⟨rfl, rfl⟩
    exact hn hp
  · intro hpre
    have hnd := allAt_nodup hg
    obtain ⟨t, ht⟩ := hpre
    have hpre' : pre <+: allAt a d := ⟨⟨b, o, none⟩ :: t, by rw [← ht]; simp⟩
    have hnot : (⟨b, o, none⟩ : Addr) ∉ pre := by
      intro hm
      rw [← ht] at hnd
      simp only [List.nodup_append] at hnd
      exact hnd.1.2.2 _ hm _ (by simp) rfl
    have hlen : pre.length < S.length := (List.getElem?_eq_some_iff.1 hv).1
    rw [List.length_append, List.length_singleton, List.take_succ_eq_append_getElem hlen, List.map_append, List.map_append, ← h.good hpre']
    congr 1
    · refine List.map_congr_left fun q hq => ?_
      have hqm : q ∈ allAt a d := hpre'.subset hq
      rw [allAt_plain hqm]
      refine hoth _ _ ?_
      rintro ⟨e1, e2⟩
      refine hnot ?_
      have := allAt_plain hqm
      rw [e1, e2] at this
      rw [← this]
      exact hq
    · have e : S[pre.length] = v := (List.getElem?_eq_some_iff.1 hv).2
      simp [e, wordAt, World.cell?, hnew, ho]
section
variable {w W : World} {L : Nat} {a : LgA} {d : LgD} {S : List Int}
theorem mem_u_off (h : LG w L a d) {g o : Nat} (hg : rowOf a.aU = some g) (hp : (⟨g, o, none⟩ : Addr) ∈ allAt a d) : ∃ k, k < d.U.length ∧ (o = k * 4 + 1 ∨ (o = k * 4 + 3 ∧ kindOf d.U k = 1)) := by
  unfold allAt at hp
  simp only [List.mem_append] at hp
  rcases hp with hp | hp | hp | hp
  · exact absurd hg (h.r.apart h.u (by decide) _ (in_r h hp))
  · exact absurd hg (h.k.apart h.u (by decide) _ (in_k h hp))
  · exact absurd hg (h.h.apart h.u (by decide) _ (in_h h hp))
  · obtain ⟨k, hk, hp⟩ := mem_seg.1 hp
    refine ⟨k, hk, ?_⟩
    unfold fU at hp
    split at hp <;> rename_i hkind <;> simp at hp
    · rcases hp with ⟨_, e⟩ | ⟨_, e⟩
      · exact .inl e
      · exact .inr ⟨e, hkind⟩
    · exact .inl hp.2
theorem mem_h_off (h : LG w L a d) {g o : Nat} (hg : rowOf a.aH = some g) (hp : (⟨g, o, none⟩ : Addr) ∈ allAt a d) : ∃ k, o = k * 2 := by
  unfold allAt at hp
  simp only [List.mem_append] at hp
  rcases hp with hp | hp | hp | hp
  · exact absurd hg (h.r.apart h.h (by decide) _ (in_r h hp))
  · exact absurd hg (h.k.apart h.h (by decide) _ (in_k h hp))
  · obtain ⟨k, hk, hp⟩ := mem_seg.1 hp
    simp [fH] at hp
    exact ⟨k, hp.2⟩
  · exact absurd hg (fun e => h.h.apart h.u (by decide) _ e (in_u h hp))
/-- A row of the same shape, read anew. -/
theorem row_read {E size : Nat} {A : Option Addr} {n c : Nat} {xs ys : List Value} (hr : Row w E size A n c xs)
    (hs : ∀ (k : Nat) (cs : Array Value) (E : TypeId) (fr : Nat × Nat), w.heap[k]? = some (Obj.cells cs E fr) → ∃ cs' : Array Value, W.heap[k]? = some (Obj.cells cs' E fr) ∧ cs'.size = cs.size)
    (hl : ys.length = n * size) (hc : ∀ j, j < n * size → W.cell? ⟨bk A, j, none⟩ = ys[j]?) : Row W E size A n c ys := by
  refine ⟨hl, ?_⟩
  rcases hr.form with ⟨rfl, rfl, rfl, _⟩ | ⟨g, cur, rfl, hh, h1, h2, h3, h4⟩
  · exact .inl ⟨rfl, rfl⟩
  · obtain ⟨cs', hW, hsz⟩ := hs _ _ _ _ hh
    refine .inr ⟨g, c, cs', rfl, Nat.zero_le _, hW, h1, h2, by rw [hsz, h3], ?_⟩
    have hle : n * size ≤ cs'.size := by rw [hsz, h3]; exact Nat.mul_le_mul_right _ h1
    refine List.ext_getElem? fun j => ?_
    by_cases hj : j < n * size
    · have := hc j hj
      rw [show bk (some ⟨g, 0, none⟩) = g from rfl, cell_of_row W g j cs' E (0, 0) hW] at this
      rw [List.getElem?_take_of_lt hj, Array.getElem?_toList, this]
    · rw [List.getElem?_take_eq_none (by omega), List.getElem?_eq_none (by omega)]
theorem wordAt_inj {xs ys : List Int} (h : xs.map wordAt = ys.map wordAt) : xs = ys := by
  induction xs generalizing ys with
  | nil => cases ys with
    | nil => rfl
    | cons y ys => cases h
  | cons x xs ih => cases ys with
    | nil => cases h
    | cons y ys =>
      simp only [List.map_cons, List.cons.injEq, wordAt, Option.some.injEq, Value.int.injEq, true_and] at h
      rw [h.1, ih h.2]
theorem val_of {p : Addr} {x : Int} (h : W.cell? p = wordAt x) : W.cell? p = some (.int .i64 (valOf W p)) := by
  unfold valOf
  rw [h]
  rfl
/-- The log as its cells tell it. -/
def LgD.reread (d : LgD) (a : LgA) (W : World) : LgD :=
  { d with R := d.R.mapIdx (fun k _ => valOf W ⟨bk a.aR, k, none⟩), K := d.K.mapIdx (fun k _ => valOf W ⟨bk a.aK, k, none⟩), H := d.H.mapIdx (fun k h => (valOf W ⟨bk a.aH, k * 2, none⟩, h.2)),
           U := d.U.mapIdx (fun k u => { u with at_ := valOf W ⟨bk a.aU, k * 4 + 1, none⟩, old := valOf W ⟨bk a.aU, k * 4 + 3, none⟩ }) }
theorem reread_allAt : allAt a (d.reread a W) = allAt a d := by
  have hk : ∀ k, kindOf (d.reread a W).U k = kindOf d.U k := by
    intro k
    unfold kindOf LgD.reread
    simp only [List.getElem?_mapIdx, Option.map_map]
    rfl
  have hf : fU a.aU (d.reread a W).U = fU a.aU d.U := by
    funext k
    unfold fU
    rw [hk k]
  unfold allAt
  rw [hf]
  simp only [LgD.reread, List.length_mapIdx]
theorem Rep.finish (hg : LG w L a d) (h : Rep w L a d S (allAt a d) W) (hl : S.length = d.roots.length) : LG W L a (d.reread a W) ∧ (d.reread a W).roots = S := by
  have hgood := h.good (List.prefix_refl _)
  rw [allAt_len hg, ← hl, List.take_length] at hgood
  have hin : ∀ p, p ∈ allAt a d → W.cell? p = some (.int .i64 (valOf W p)) := fun p hp => by
    obtain ⟨y, hy⟩ := mem_at hgood hp
    exact val_of hy
  have hLG : LG W L a (d.reread a W) := by
    refine ⟨?_, ?_, ?_, ?_, ?_, hg.ne, hg.mr, hg.mu, by simpa [LgD.reread] using hg.lr, by simpa [LgD.reread] using hg.lk, by simpa [LgD.reread] using hg.lh, by simpa [LgD.reread] using hg.lu⟩
    · rw [h.only.block L hg.lt (fun e => e.2 rfl), hg.blk]
      simp [lgCells, LgD.reread]
    · refine row_read (xs := intCells d.R) (by simpa [LgD.reread] using hg.r) h.shape (by simp [LgD.reread, intCells]) fun j hj => ?_
      have hj' : j < d.R.length := by simpa [LgD.reread] using hj
      have hm : (⟨bk a.aR, j, none⟩ : Addr) ∈ allAt a d := by
        unfold allAt
        simp only [List.mem_append, mem_seg]
        exact .inl ⟨j, hj', by simp [fI]⟩
      rw [hin _ hm]
      simp [LgD.reread, intCells, hj']
    · refine row_read (xs := intCells d.K) (by simpa [LgD.reread] using hg.k) h.shape (by simp [LgD.reread, intCells]) fun j hj => ?_
      have hj' : j < d.K.length := by simpa [LgD.reread] using hj
      have hm : (⟨bk a.aK, j, none⟩ : Addr) ∈ allAt a d := by
        unfold allAt
        simp only [List.mem_append, mem_seg]
        exact .inr (.inl ⟨j, hj', by simp [fI]⟩)
      rw [hin _ hm]
      simp [LgD.reread, intCells, hj']
    · refine row_read (xs := hdCells d.H) (by simpa [LgD.reread] using hg.h) h.shape (by rw [hdCells_len]) fun j hj => ?_
      have hj' : j < d.H.length * 2 := by simpa [LgD.reread] using hj
      obtain ⟨g, hA, hgl, hc, _⟩ := hg.h.at_ (by omega)
      have hb : bk a.aH = g := by rw [hA]; rfl
      have hro : rowOf a.aH = some g := by rw [hA]; rfl
      have hk : j / 2 < d.H.length := by omega
      have hk' : j / 2 < (d.reread a W).H.length := by simpa [LgD.reread] using hk
      obtain ⟨q1, q2⟩ := hdCells_at (d.reread a W).H hk'
      obtain ⟨p1, p2⟩ := hdCells_at d.H hk
      rcases Nat.mod_two_eq_zero_or_one j with hm | hm
      · have e : j = j / 2 * 2 := by omega
        rw [e, q1]
        have hmem : (⟨bk a.aH, j / 2 * 2, none⟩ : Addr) ∈ allAt a d := by
          unfold allAt
          simp only [List.mem_append, mem_seg]
          exact .inr (.inr (.inl ⟨j / 2, hk, by simp [fH]⟩))
        rw [hin _ hmem]
        simp [LgD.reread]
      · have e : j = j / 2 * 2 + 1 := by omega
        rw [e, q2, hb, h.other g _ hgl (fun hp => by obtain ⟨k, hk⟩ := mem_h_off hg hro hp; omega), hc _ _ p2]
        simp [LgD.reread]
    · refine row_read (xs := unCells d.U) (by simpa [LgD.reread] using hg.u) h.shape ?_ fun j hj => ?_
      · have := hg.u.length
        have e : ∀ U : List Un, (unCells U).length = U.length * 4 := by
          intro U
          induction U with
          | nil => rfl
          | cons x U ih => simp [unCells, unCells1] at *; omega
        rw [e]
      · have hj' : j < d.U.length * 4 := by simpa [LgD.reread] using hj
        obtain ⟨g, hA, hgl, hc, _⟩ := hg.u.at_ (by omega)
        have hb : bk a.aU = g := by rw [hA]; rfl
        have hro : rowOf a.aU = some g := by rw [hA]; rfl
        have hk : j / 4 < d.U.length := by omega
        have hk' : j / 4 < (d.reread a W).U.length := by simpa [LgD.reread] using hk
        obtain ⟨q1, q2, q3, q4⟩ := unCells_at (d.reread a W).U hk'
        obtain ⟨p1, p2, p3, p4⟩ := unCells_at d.U hk
        have hkind : kindOf d.U (j / 4) = d.U[j / 4].kind := by simp [kindOf, List.getElem?_eq_getElem hk]
        rcases (by omega : j % 4 = 0 ∨ j % 4 = 1 ∨ j % 4 = 2 ∨ j % 4 = 3) with hm | hm | hm | hm
        · have e : j = j / 4 * 4 := by omega
          rw [e, q1, hb, h.other g _ hgl (fun hp => by obtain ⟨k, _, hk | ⟨hk, _⟩⟩ := mem_u_off hg hro hp <;> omega), hc _ _ p1]
          simp [LgD.reread]
        · have e : j = j / 4 * 4 + 1 := by omega
          rw [e, q2]
          have hmem : (⟨bk a.aU, j / 4 * 4 + 1, none⟩ : Addr) ∈ allAt a d := by
            unfold allAt
            simp only [List.mem_append, mem_seg]
            refine .inr (.inr (.inr ⟨j / 4, hk, ?_⟩))
            unfold fU
            split <;> simp
          rw [hin _ hmem]
          simp [LgD.reread]
        · have e : j = j / 4 * 4 + 2 := by omega
          rw [e, q3, hb, h.other g _ hgl (fun hp => by obtain ⟨k, _, hk | ⟨hk, _⟩⟩ := mem_u_off hg hro hp <;> omega), hc _ _ p3]
          simp [LgD.reread]
        · have e : j = j / 4 * 4 + 3 := by omega
          rw [e, q4]
          by_cases h1 : kindOf d.U (j / 4) = 1
          · have hmem : (⟨bk a.aU, j / 4 * 4 + 3, none⟩ : Addr) ∈ allAt a d := by
              unfold allAt
              simp only [List.mem_append, mem_seg]
              refine .inr (.inr (.inr ⟨j / 4, hk, ?_⟩))
              unfold fU
              rw [if_pos h1]
              simp
            rw [hin _ hmem]
            simp [LgD.reread]
          · have hold : W.cell? ⟨bk a.aU, j / 4 * 4 + 3, none⟩ = wordAt d.U[j / 4].old := by
              rw [hb, h.other g _ hgl (fun hp => ?_), hc _ _ p4]
              · rfl
              · obtain ⟨k, hk, hk2 | ⟨hk2, hk3⟩⟩ := mem_u_off hg hro hp
                · omega
                · obtain rfl : k = j / 4 := by omega
                  exact h1 hk3
            rw [val_of hold]
            simp [LgD.reread]
  refine ⟨hLG, ?_⟩
  have := roots_at hLG
  rw [reread_allAt, hgood] at this
  exact (wordAt_inj this).symm
end
end Go.Proofs.Ytbmedngnfkkhdaa
