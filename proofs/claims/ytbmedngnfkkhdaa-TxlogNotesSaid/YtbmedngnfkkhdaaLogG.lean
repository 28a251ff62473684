/-
  PROVED: the contract of package txlog's iterator: it hands out where all places of a log lie, in their order. No condition but that the cells hold a log.
-/
import Derived.Test.YtbmedngnfkkhdaaLogF
import Derived.RangeFuncNested
import Derived.RangeFuncBound
import Derived.RangeFuncCalls
import Derived.RangeFuncLeaves
import Derived.RangeFuncBox
import Derived.Shelf.Abstract
import Derived.OwnWalkIn
import Derived.TacticsInMore
import Derived.LoopNIn
import Derived.LoopIn
import Derived.RegionIn
namespace Go.Proofs.Ytbmedngnfkkhdaa
open Go.RowKit Go.Shelf
attribute [local go_sem] Oper.semAt_some

/-- The block of a row. -/
def bk (A : Option Addr) : Nat := (rowOf A).getD 0
/-- What a stage hands out from k on. -/
def seg (f : Nat → List Addr) (n k : Nat) : List Addr := (List.range' k (n - k)).flatMap f
theorem seg_step {f : Nat → List Addr} {n k : Nat} (h : k < n) : seg f n k = f k ++ seg f n (k + 1) := by
  unfold seg
  rw [show n - k = (n - (k + 1)) + 1 by omega, List.range'_succ]
  simp
theorem seg_end {f : Nat → List Addr} (n : Nat) : seg f n n = [] := by simp [seg]
def fI (A : Option Addr) (k : Nat) : List Addr := [⟨bk A, k, none⟩]
def fH (A : Option Addr) (k : Nat) : List Addr := [⟨bk A, k * 2, none⟩]
def kindOf (U : List Un) (k : Nat) : Int := ((U[k]?).map (·.kind)).getD 0
def fU (A : Option Addr) (U : List Un) (k : Nat) : List Addr := if kindOf U k = 1 then [⟨bk A, k * 4 + 1, none⟩, ⟨bk A, k * 4 + 3, none⟩] else [⟨bk A, k * 4 + 1, none⟩]
/-- All that the iterator hands out. -/
def allAt (a : LgA) (d : LgD) : List Addr := seg (fI a.aR) d.R.length 0 ++ (seg (fI a.aK) d.K.length 0 ++ (seg (fH a.aH) d.H.length 0 ++ seg (fU a.aU d.U) d.U.length 0))

/-- What a round keeps: the log's head, the kinds of what it undoes, the box, and of the rows of rows whatever is not older than n₀. -/
structure KpL (L : Nat) (a : LgA) (d : LgD) (n₀ bx : Nat) (W W' : World) : Prop where
  size : W.heap.size ≤ W'.heap.size
  head : W'.heap[L]? = W.heap[L]?
  box : W'.heap[bx]? = W.heap[bx]?
  kinds : ∀ k, k < d.U.length → W'.cell? ⟨bk a.aU, k * 4, none⟩ = W.cell? ⟨bk a.aU, k * 4, none⟩
  rows : ∀ i cs fr, n₀ ≤ i → W.heap[i]? = some (.cells cs 22 fr) → W'.heap[i]? = some (.cells cs 22 fr)
namespace KpL
variable {L n₀ bx : Nat} {a : LgA} {d : LgD} {X Y Z : World}
theorem refl (L : Nat) (a : LgA) (d : LgD) (n₀ bx : Nat) (W : World) : KpL L a d n₀ bx W W := ⟨Nat.le_refl _, rfl, rfl, fun _ _ => rfl, fun _ _ _ _ h => h⟩
theorem trans (h : KpL L a d n₀ bx X Y) (k : KpL L a d n₀ bx Y Z) : KpL L a d n₀ bx X Z :=
  ⟨Nat.le_trans h.size k.size, k.head.trans h.head, k.box.trans h.box, fun j hj => (k.kinds j hj).trans (h.kinds j hj), fun i cs fr hi hc => k.rows i cs fr hi (h.rows i cs fr hi hc)⟩
theorem put {w : World} (hL : L < w.heap.size) (hb : bx < w.heap.size) (hU : 0 < d.U.length → bk a.aU < w.heap.size) (W : World) (l : Nat) (o o' : Obj) (hl : w.heap.size ≤ l) (h : W.heap[l]? = some o) (h1 : o.isCells = false) (_ : o.isWalk = false) : KpL L a d n₀ bx W (W.putObj l o') := by
  refine ⟨by simp [World.putObj], World.putObj_heap_other (by omega), World.putObj_heap_other (by omega), fun k hk => World.cell?_of_block (World.putObj_heap_other ?_), fun i cs fr _ hc => ?_⟩
  · have := hU (by omega)
    simp only
    omega
  · by_cases e : i = l
    · subst e
      rw [h] at hc
      injection hc with hc
      subst hc
      cases h1
    · rw [World.putObj_heap_other e]
      exact hc
end KpL

theorem places_any (L : Nat) (w : World) :
    Calls Try.prog 23 #[.pointer (some ⟨L, 0, none⟩)] w fun e w' => e = .returned (.func (.func 30) #[] #[.pointer (some ⟨w.heap.size, 0, none⟩)]) ∧ w' = w.alloc (.cells #[.pointer (some ⟨L, 0, none⟩)] 25) := by
  go_enter Try.func23, Try.ntmps23
  go_wp2
  go_ret
  exact ⟨rfl, rfl⟩

theorem mem_of_pre {p : Addr} {pre all : List Addr} (h : pre ++ [p] <+: all) : p ∈ all := by
  obtain ⟨t, rfl⟩ := h
  simp
theorem bad_undef {b : Bool} {p : Prop} (h : some undef = some (Value.bool b)) : p := by simp [undef] at h
set_option maxRecDepth 100000 in
set_option maxHeartbeats 4000000 in
theorem places1_any (l L n₀ bx : Nat) (a : LgA) (d : LgD) (J Jx : List Addr → World → Prop) (w0 : World)
    (hY : ∀ pre x W, J pre W → pre ++ [x] <+: allAt a d → YieldAt Fence.wide 4 Try.prog l #[.pointer (some x)] W fun e W' =>
      (e = .returned (.bool true) ∧ J (pre ++ [x]) W' ∧ KpL L a d n₀ bx W W') ∨ (e = .returned (.bool false) ∧ Jx (pre ++ [x]) W'))
    (h : LG w0 L a d) (hJa : AbidesFrom w0.heap.size J) (hn : n₀ ≤ w0.heap.size)
    (hb : w0.heap[bx]? = some (.cells #[.pointer (some ⟨L, 0, none⟩)] 25 (0, 0))) (h0 : J [] w0) :
    CallsIn Fence.wide 5 Try.prog 30 #[.func (.yield l) #[] #[], .pointer (some ⟨bx, 0, none⟩)] w0 fun e W' => (∃ v, e = .returned v) ∧
      ((∃ ys, ys = allAt a d ∧ J ys W') ∨ (∃ pre, pre <+: allAt a d ∧ Jx pre W')) := by
  have hbx := lt_of_block hb
  have hlt := h.lt
  have H := Lib.hid h
  have c0 : w0.cell? ⟨L, 0, none⟩ = some (.slice a.aR d.R.length a.cR) := by simpa [lgCells] using h.cell 0
  have c1 : w0.cell? ⟨L, 1, none⟩ = some (.slice a.aK d.K.length a.cK) := by simpa [lgCells] using h.cell 1
  have cb : w0.cell? ⟨bx, 0, none⟩ = some (.pointer (some ⟨L, 0, none⟩)) := cell_of_block hb 0
  refine callsIn_of_wp Try.func30 rfl trivial ?_ rfl
  simp only [Try.ntmps30, List.size_toArray, List.length_cons, List.length_nil, Nat.reduceAdd, Nat.reduceSub, Array.replicate_succ, Array.replicate_zero, List.push_toArray, List.append_toArray, List.nil_append, List.cons_append]
  have hR := h.r.at_
  have hK := h.k.at_
  have hH := h.h.at_
  have hU := h.u.at_
  have hlR := h.lr
  have hlK := h.lk
  have hlH := h.lh
  have hlU := h.lu
  have hmr := h.mr
  have hmu := h.mu
  clear h
  gi_wp2
  gi_region
  obtain ⟨W1, hW1⟩ : ∃ W1 : World, W1 = (w0.alloc (.cells #[.slice a.aR d.R.length a.cR, .slice a.aK d.K.length a.cK] 22)).drew := ⟨_, rfl⟩
  rw [← hW1]
  have hb1 : Below w0.heap.size w0 W1 := by rw [hW1]; exact ((Below.refl _ _).alloc (Nat.le_refl _) _).trans ((below_drew' _).mono (by simp))
  have hJ1 : J [] W1 := by rw [hW1]; exact hJa _ _ _ none (hJa _ _ _ none h0 (World.grownBy_alloc _ _ none) (fun r e => by cases e)) ⟨rfl, rfl, rfl, Nat.le_refl _, fun _ _ _ => rfl⟩ (fun r e => by cases e)
  have hrow : W1.heap[w0.heap.size]? = some (.cells #[.slice a.aR d.R.length a.cR, .slice a.aK d.K.length a.cK] 22 (0, 0)) := by rw [hW1]; exact heap_alloc_new w0 _
  have hbox : W1.heap[bx]? = some (.cells #[.pointer (some ⟨L, 0, none⟩)] 25 (0, 0)) := (hb1.block bx hbx).trans hb
  have HL1 := Lib.hid (H.out.below hb1)
  have HROW := Lib.hid hrow
  have HBOX := Lib.hid hbox
  have HHH := Lib.hid hH
  have HUU := Lib.hid hU
  -- what stands in any world behind
  have hAt : ∀ W, KpL L a d n₀ bx W1 W → (∀ i, W.cell? ⟨L, i, none⟩ = (lgCells a d)[i]?) ∧ W.cell? ⟨bx, 0, none⟩ = some (.pointer (some ⟨L, 0, none⟩)) ∧ (∀ k x, d.U[k]? = some x → W.cell? ⟨bk a.aU, k * 4, none⟩ = some (.int .i64 x.kind)) := by
    intro W hk
    refine ⟨fun i => cell_of_block (hk.head.trans HL1.out.blk) i, cell_of_block (hk.box.trans HBOX.out) 0, fun k x hx => ?_⟩
    have hkl : k < d.U.length := (List.getElem?_eq_some_iff.1 hx).1
    rw [hk.kinds k hkl]
    obtain ⟨g, hg, hgl, hc, _⟩ := HL1.out.u.at_ (by omega)
    obtain ⟨p1, _⟩ := unCells_at d.U hkl
    have e : bk a.aU = g := by rw [hg]; rfl
    rw [e, hc _ _ p1]
    rw [(List.getElem?_eq_some_iff.1 hx).2]
  have HAT := Lib.hid hAt
  have HY := Lib.hid hY
  obtain ⟨rest, hrest⟩ : ∃ rest : Nat → List Addr, rest = fun o => if o = 0 then allAt a d else if o = 1 then seg (fI a.aK) d.K.length 0 ++ (seg (fH a.aH) d.H.length 0 ++ seg (fU a.aU d.U) d.U.length 0) else seg (fH a.aH) d.H.length 0 ++ seg (fU a.aU d.U) d.U.length 0 := ⟨_, rfl⟩
  have hlist : ∀ o, o < 2 → ∃ A n c, (#[Value.slice a.aR d.R.length a.cR, .slice a.aK d.K.length a.cK])[o]? = some (.slice A n c) ∧ n ≤ 200 ∧ (0 < n → ∃ g, A = some ⟨g, 0, none⟩) ∧ rest o = seg (fI A) n 0 ++ rest (o + 1) := by
    intro o ho
    match o, ho with
    | 0, _ => exact ⟨a.aR, d.R.length, a.cR, rfl, by omega, fun hp => by obtain ⟨g, hg, _⟩ := hR hp; exact ⟨g, hg⟩, by rw [hrest]; rfl⟩
    | 1, _ => exact ⟨a.aK, d.K.length, a.cK, rfl, by omega, fun hp => by obtain ⟨g, hg, _⟩ := hK hp; exact ⟨g, hg⟩, by rw [hrest]; rfl⟩
  have hr0 : rest 0 = allAt a d := by rw [hrest]; rfl
  have hr2 : rest 2 = seg (fH a.aH) d.H.length 0 ++ seg (fU a.aU d.U) d.U.length 0 := by rw [hrest]; rfl
  have HLI := Lib.hid hlist
  have HR2 := Lib.hid hr2
  have hkr := KpL.refl L a d n₀ bx W1
  have hst : ([] : List Addr) ++ rest 0 = allAt a d := by rw [hr0]; rfl
  clear hrest hlist hr0 hr2 hR hK hH hU hAt hY hrow hbox hb1 hW1 hJa h0 hb c0 c1 cb
  gi_wp2
  gi_loopw [19] (fun v wr => ∃ (o : Nat) (pre : List Addr), o ≤ 2 ∧ v = .int .i64 o ∧ pre ++ rest o = allAt a d ∧ J pre wr ∧ KpL L a d n₀ bx W1 wr) (fun v _ => 2 - (intOf v).toNat)
  case atStart => exact ⟨0, [], by omega, rfl, hst, hJ1, hkr⟩
  case round =>
    obtain ⟨o, pre, ho, rfl, hel, hJo, hko⟩ := hrel
    by_cases ho2 : o < 2
    · obtain ⟨A, n, c, hA, hn2, hg, hres⟩ := HLI.out o ho2
      have hcr : wr.cell? ⟨w0.heap.size, o, none⟩ = some (.slice A n c) := (cell_of_block (hko.rows _ _ _ hn HROW.out) o).trans hA
      have hel' : pre ++ (seg (fI A) n 0 ++ rest (o + 1)) = allAt a d := by rw [← hres]; exact hel
      have hd2 : decide ((o : Int) < 2) = true := decide_eq_true (by omega)
      clear hA hres hel
      gi_wp2
      gi_loopw [25] (fun v wr => ∃ (k : Nat) (pre : List Addr), k ≤ n ∧ v = .int .i64 k ∧ pre ++ (seg (fI A) n k ++ rest (o + 1)) = allAt a d ∧ J pre wr ∧ KpL L a d n₀ bx W1 wr) (fun v _ => n - (intOf v).toNat)
      case atStart => exact ⟨0, pre, by omega, rfl, hel', hJo, hko⟩
      case round =>
        obtain ⟨k, pre, hk, rfl, hel, hJ, hkk⟩ := hrel
        by_cases hkn : k < n
        · obtain ⟨g, rfl⟩ := hg (by omega)
          rw [seg_step hkn] at hel
          have hlen : pre ++ [(⟨g, k, none⟩ : Addr)] <+: allAt a d := ⟨seg (fI (some ⟨g, 0, none⟩)) n (k + 1) ++ rest (o + 1), by rw [← hel]; simp [fI, bk, rowOf]⟩
          obtain ⟨fn, tmps, assign, body, hy, hRR⟩ := HY.out pre ⟨g, k, none⟩ _ hJ hlen
          have HEL := Lib.hid hel
          have HKK := Lib.hid hkk
          clear hel hkk hlen hel'
          gi_wp2
          refine hRR.mono ?_
          rintro e W3 (⟨rfl, hJ3, hk3⟩ | ⟨rfl, hJx3⟩)
          · gi_wp2
            go_roundw
            case rel => exact ⟨k + 1, pre ++ [⟨g, k, none⟩], by omega, by go_num, by rw [← HEL.out]; simp [fI, bk, rowOf], hJ3, HKK.out.trans hk3⟩
            case measure => simp [intOf]; omega
          · gi_wp2
            refine bodyPost_ret (results_none rfl _ _ _) rfl ?_
            exact ⟨⟨_, rfl⟩, .inr ⟨pre ++ [⟨g, k, none⟩], ⟨seg (fI (some ⟨g, 0, none⟩)) n (k + 1) ++ rest (o + 1), by rw [← HEL.out]; simp [fI, bk, rowOf]⟩, hJx3⟩⟩
        · obtain rfl : n = k := by omega
          rw [seg_end, List.nil_append] at hel
          gi_wp2
          go_roundw
          case rel => exact ⟨o + 1, pre, by omega, by go_num, hel, hJ, hkk⟩
          case measure => simp [intOf]; omega
    · have e2 : rest o = rest 2 := by rw [show o = 2 by omega]
      rw [e2, HR2.out] at hel
      have hd2 : decide ((o : Int) < 2) = false := decide_eq_false (by omega)
      clear e2
      have hh := HAT.out _ hko
      have g2 : wr.cell? ⟨L, 2, none⟩ = some (.slice a.aH d.H.length a.cH) := hh.1 2
      have gb := hh.2.1
      clear hh
      gi_wp2
      gi_loopw [41] (fun v wr => ∃ (k : Nat) (pre : List Addr), k ≤ d.H.length ∧ v = .int .i64 k ∧ pre ++ (seg (fH a.aH) d.H.length k ++ seg (fU a.aU d.U) d.U.length 0) = allAt a d ∧ J pre wr ∧ KpL L a d n₀ bx W1 wr) (fun v _ => d.H.length - (intOf v).toNat)
      case atStart => exact ⟨0, pre, by omega, rfl, hel, hJo, hko⟩
      case round =>
        obtain ⟨k, pre, hk, rfl, hel, hJ, hkk⟩ := hrel
        have hh := HAT.out _ hkk
        have g2 : wr.cell? ⟨L, 2, none⟩ = some (.slice a.aH d.H.length a.cH) := hh.1 2
        have g3 : wr.cell? ⟨L, 3, none⟩ = some (.slice a.aU d.U.length a.cU) := hh.1 3
        have gb := hh.2.1
        by_cases hkn : k < d.H.length
        · obtain ⟨g, hg, _⟩ := HHH.out (by omega)
          have hf : fH a.aH k = [⟨g, k * 2, none⟩] := by unfold fH; rw [hg]; rfl
          rw [seg_step hkn, hf] at hel
          rw [hg] at g2
          have hlen : pre ++ [(⟨g, k * 2, none⟩ : Addr)] <+: allAt a d := ⟨_, by rw [← hel]; simp; rfl⟩
          obtain ⟨fn, tmps, assign, body, hy, hRR⟩ := HY.out pre ⟨g, k * 2, none⟩ _ hJ hlen
          have HEL := Lib.hid hel
          have HKK := Lib.hid hkk
          clear hel hkk hlen hh hg hf
          gi_wp2
          refine hRR.mono ?_
          rintro e W3 (⟨rfl, hJ3, hk3⟩ | ⟨rfl, hJx3⟩)
          · gi_wp2
            go_roundw
            case rel => exact ⟨k + 1, pre ++ [⟨g, k * 2, none⟩], by omega, by go_num, by rw [← HEL.out]; simp, hJ3, HKK.out.trans hk3⟩
            case measure => simp [intOf]; omega
          · gi_wp2
            refine bodyPost_ret (results_none rfl _ _ _) rfl ?_
            exact ⟨⟨_, rfl⟩, .inr ⟨pre ++ [⟨g, k * 2, none⟩], ⟨_, by rw [← HEL.out]; simp; rfl⟩, hJx3⟩⟩
        · obtain rfl : d.H.length = k := by omega
          rw [seg_end, List.nil_append] at hel
          have hd3 : decide ((d.H.length : Int) < (d.H.length : Int)) = false := decide_eq_false (by omega)
          clear hh
          gi_wp2
          gi_loopw [60] (fun v wr => ∃ (k : Nat) (pre : List Addr), k ≤ d.U.length ∧ v = .int .i64 k ∧ pre ++ seg (fU a.aU d.U) d.U.length k = allAt a d ∧ J pre wr ∧ KpL L a d n₀ bx W1 wr) (fun v _ => d.U.length - (intOf v).toNat)
          case atStart => exact ⟨0, pre, by omega, rfl, hel, hJ, hkk⟩
          case round =>
            obtain ⟨k, pre, hk, rfl, hel, hJ, hkk⟩ := hrel
            have hh := HAT.out _ hkk
            have g3 : wr.cell? ⟨L, 3, none⟩ = some (.slice a.aU d.U.length a.cU) := hh.1 3
            have gb := hh.2.1
            by_cases hkn : k < d.U.length
            · obtain ⟨g, hg, _⟩ := HUU.out (by omega)
              obtain ⟨x, hx⟩ : ∃ x, x = d.U[k].kind := ⟨_, rfl⟩
              have hkind : kindOf d.U k = x := by rw [hx]; simp [kindOf, List.getElem?_eq_getElem hkn]
              have ebk : bk a.aU = g := by rw [hg]; rfl
              have ck : ∀ W, KpL L a d n₀ bx W1 W → W.cell? ⟨g, k * 4, none⟩ = some (.int .i64 x) := fun W hW => by
                have := (HAT.out W hW).2.2 k d.U[k] (List.getElem?_eq_getElem hkn)
                rw [ebk] at this
                rw [this, hx]
              rw [seg_step hkn] at hel
              rw [hg] at g3
              by_cases hx1 : x = 1
              · have hf : fU a.aU d.U k = [⟨g, k * 4 + 1, none⟩, ⟨g, k * 4 + 3, none⟩] := by unfold fU; rw [hkind, if_pos hx1, ebk]
                rw [hf] at hel
                have hlen : pre ++ [(⟨g, k * 4 + 1, none⟩ : Addr)] <+: allAt a d := ⟨_, by rw [← hel]; simp; rfl⟩
                have hlen2 : (pre ++ [(⟨g, k * 4 + 1, none⟩ : Addr)]) ++ [⟨g, k * 4 + 3, none⟩] <+: allAt a d := ⟨_, by rw [← hel]; simp; rfl⟩
                obtain ⟨fn, tmps, assign, body, hy, hRR⟩ := HY.out pre ⟨g, k * 4 + 1, none⟩ _ hJ hlen
                have HEL := Lib.hid hel
                have HKK := Lib.hid hkk
                have CK := Lib.hid ck
                have HL2 := Lib.hid hlen2
                clear hel hkk hlen hh hg ck hlen2 hf hkind ebk hx
                subst hx1
                gi_wp2
                refine hRR.mono ?_
                rintro e W3 (⟨rfl, hJ3, hk3⟩ | ⟨rfl, hJx3⟩)
                · have ck3 := CK.out _ (HKK.out.trans hk3)
                  obtain ⟨fn, tmps, assign, body, hy, hRR⟩ := HY.out _ ⟨g, k * 4 + 3, none⟩ _ hJ3 HL2.out
                  have HK3 := Lib.hid hk3
                  clear hk3
                  gi_wp2
                  refine hRR.mono ?_
                  rintro e W4 (⟨rfl, hJ4, hk4⟩ | ⟨rfl, hJx4⟩)
                  · gi_wp2
                    go_roundw
                    case rel => exact ⟨k + 1, pre ++ [⟨g, k * 4 + 1, none⟩] ++ [⟨g, k * 4 + 3, none⟩], by omega, by go_num, by rw [← HEL.out]; simp, hJ4, (HKK.out.trans HK3.out).trans hk4⟩
                    case measure => simp [intOf]; omega
                  · gi_wp2
                    refine bodyPost_ret (results_none rfl _ _ _) rfl ?_
                    exact ⟨⟨_, rfl⟩, .inr ⟨pre ++ [⟨g, k * 4 + 1, none⟩] ++ [⟨g, k * 4 + 3, none⟩], ⟨_, by rw [← HEL.out]; simp; rfl⟩, hJx4⟩⟩
                · gi_wp2_with (exact bad_undef (by assumption))
                  refine ⟨(fun f hf => by cases hf), ?_⟩
                  gi_wp2
                  refine bodyPost_ret (results_none rfl _ _ _) rfl ?_
                  exact ⟨⟨_, rfl⟩, .inr ⟨pre ++ [⟨g, k * 4 + 1, none⟩], ⟨_, by rw [← HEL.out]; simp; rfl⟩, hJx3⟩⟩
              · have hf : fU a.aU d.U k = [⟨g, k * 4 + 1, none⟩] := by unfold fU; rw [hkind, if_neg hx1, ebk]
                rw [hf] at hel
                have hlen : pre ++ [(⟨g, k * 4 + 1, none⟩ : Addr)] <+: allAt a d := ⟨_, by rw [← hel]; simp; rfl⟩
                obtain ⟨fn, tmps, assign, body, hy, hRR⟩ := HY.out pre ⟨g, k * 4 + 1, none⟩ _ hJ hlen
                have HEL := Lib.hid hel
                have HKK := Lib.hid hkk
                have CK := Lib.hid ck
                have hxb : (x == 1) = false := by simpa using hx1
                clear hel hkk hlen hh hg ck hf hkind ebk hx hx1
                gi_wp2
                refine hRR.mono ?_
                rintro e W3 (⟨rfl, hJ3, hk3⟩ | ⟨rfl, hJx3⟩)
                · have ck3 := CK.out _ (HKK.out.trans hk3)
                  gi_wp2_with (exact bad_undef (by assumption))
                  refine ⟨(fun f hf => by cases hf), ?_⟩
                  gi_wp2
                  go_roundw
                  case rel => exact ⟨k + 1, pre ++ [⟨g, k * 4 + 1, none⟩], by omega, by go_num, by rw [← HEL.out]; simp, hJ3, HKK.out.trans hk3⟩
                  case measure => simp [intOf]; omega
                · gi_wp2_with (exact bad_undef (by assumption))
                  refine ⟨(fun f hf => by cases hf), ?_⟩
                  gi_wp2
                  refine bodyPost_ret (results_none rfl _ _ _) rfl ?_
                  exact ⟨⟨_, rfl⟩, .inr ⟨pre ++ [⟨g, k * 4 + 1, none⟩], ⟨_, by rw [← HEL.out]; simp; rfl⟩, hJx3⟩⟩
            · obtain rfl : d.U.length = k := by omega
              rw [seg_end, List.append_nil] at hel
              subst hel
              clear hh
              gi_wp2
              go_end0
              exact ⟨⟨_, rfl⟩, .inl ⟨_, rfl, hJ⟩⟩
/-- Where a place lies: it is one of those that are handed out. -/
abbrev Pl (a : LgA) (d : LgD) := { p : Addr // p ∈ allAt a d }
theorem places1_stops (L n₀ bx : Nat) (a : LgA) (d : LgD) (w0 : World) (h : LG w0 L a d) (hn : n₀ ≤ w0.heap.size)
    (hb : w0.heap[bx]? = some (.cells #[.pointer (some ⟨L, 0, none⟩)] 25 (0, 0))) :
    SeqStopsK Fence.wide 5 Try.prog 30 #[.pointer (some ⟨bx, 0, none⟩)] (fun x : Pl a d => #[Value.pointer (some x.1)]) (KpL L a d n₀ bx)
      (fun ys => ys.map (·.1) = allAt a d) (fun pre => pre.map (·.1) <+: allAt a d) (allAt a d).length w0 := by
  intro l J Jx W hW hJ _ hY h0
  have hbx := lt_of_block hb
  refine (places1_any l L n₀ bx a d (fun pre W => ∃ ys : List (Pl a d), ys.map (·.1) = pre ∧ J ys W) (fun pre W => ∃ ys : List (Pl a d), ys.map (·.1) = pre ∧ Jx ys W) W ?_ (h.below hW) ?_ (Nat.le_trans hn hW.size) ((hW.block bx hbx).trans hb) ⟨[], rfl, h0⟩).mono ?_
  · rintro pre x W1 ⟨ys, rfl, hj⟩ hp
    have hlen : ys.length < (allAt a d).length := by
      obtain ⟨t, ht⟩ := hp
      rw [← ht]
      simp
    obtain ⟨fn, tmps, assign, body, hy, hR⟩ := hY ys ⟨x, mem_of_pre hp⟩ W1 hj hlen
    refine ⟨fn, tmps, assign, body, hy, hR.mono ?_⟩
    rintro e W' (⟨rfl, h1, h2⟩ | ⟨rfl, h1⟩)
    · exact .inl ⟨rfl, ⟨ys ++ [⟨x, mem_of_pre hp⟩], by simp, h1⟩, h2⟩
    · exact .inr ⟨rfl, ys ++ [⟨x, mem_of_pre hp⟩], by simp, h1⟩
  · rintro s W1 W' row ⟨ys, rfl, hj⟩ hg hr
    exact ⟨ys, rfl, hJ ys W1 W' row hj hg hr⟩
  · rintro e W' ⟨h1, (⟨ys, rfl, zs, hz, hj⟩ | ⟨pre, hp, zs, rfl, hj⟩)⟩
    · exact ⟨h1, .inl ⟨zs, hz, hj⟩⟩
    · exact ⟨h1, .inr ⟨zs, hp, hj⟩⟩
end Go.Proofs.Ytbmedngnfkkhdaa
