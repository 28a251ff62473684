/-
  PROVED: the contracts of math/bits.TrailingZeros64 (its table as its initialiser lays it) and of package bitmap's iterator: it hands out all that are in from a number on, by rising numbers. No condition but that the cells hold a bitmap and the table.
-/
import Derived.Test.YtlcibahafcaojaaDoorBits
import Derived.RangeFuncNested
import Derived.RangeFuncBound
import Derived.RangeFuncCalls
import Derived.RangeFuncLeaves
import Derived.RangeFuncBox
import Derived.Shelf.Abstract
import Derived.OwnWalkIn
import Derived.TacticsInMore
import Derived.LoopNIn
import Derived.LoopIn
namespace Go.Proofs.YtlcibahafcaojaaDoor
open Go.RowKit Go.Shelf
attribute [local go_sem] Oper.semAt_some

/-- The library's table lies in its variable. -/
def Tab (w : World) : Prop := ∀ j, j < Lib.deBruijn64tab.length → w.cell? ⟨0, j, none⟩ = some (.int .u8 (Lib.deBruijn64tab.getD j 0 : Nat))
theorem Tab.below {w w' : World} {B : Nat} (h : Tab w) (hb : Below B w w') (h0 : 0 < B) : Tab w' := fun j hj => (hb.cell (p := ⟨0, j, none⟩) h0).trans (h j hj)

set_option maxHeartbeats 1000000 in
theorem tz_core (x k idx : Nat) (w : World) (hx0 : ((x : Int) == 0) = false)
    (key : IntKind.u64.wrap (bits BinOp.and IntKind.u64 (x : Int) (IntKind.u64.wrap (-(x : Int))) * 285870213051353865) / 288230376151711744 = (idx : Int))
    (hi : idx < 64) (hk : k < 64) (hcell : w.cell? ⟨0, idx, none⟩ = some (.int .u8 (k : Int))) :
    Calls Tryd.prog 18 #[.int .u64 x] w fun e w' => e = .returned (.int .i64 k) ∧ w = w' := by
  go_enter Tryd.func18, Tryd.ntmps18
  go_wp2_with (simp only [key])
  go_ret
  exact ⟨rfl, rfl⟩
theorem tz_key (x a : Nat) (hx : x < 18446744073709551616) (hx0 : x ≠ 0) (hlow : x &&& (18446744073709551616 - x) = a) :
    IntKind.u64.wrap (bits BinOp.and IntKind.u64 (x : Int) (IntKind.u64.wrap (-(x : Int))) * 285870213051353865) / 288230376151711744 = ((a * 285870213051353865 % 18446744073709551616 / 288230376151711744 : Nat) : Int) := by
  have e1 : IntKind.u64.wrap (-(x : Int)) = ((18446744073709551616 - x : Nat) : Int) := by rw [IntKind.wrap_u64]; omega
  rw [e1, u64_and_nat x _ hx (by omega), hlow, IntKind.wrap_u64]
  omega
/-- math/bits.TrailingZeros64, where x is not 0. -/
theorem tz_any (x : Nat) (hx : x < 18446744073709551616) (hx0 : x ≠ 0) (w : World) (hT : Tab w) :
    Calls Tryd.prog 18 #[.int .u64 x] w fun e w' => e = .returned (.int .i64 (Lib.ctz 64 x : Nat)) ∧ w = w' := by
  obtain ⟨hlow, hk⟩ := Lib.lowest_bit 64 x hx0 hx
  obtain ⟨hi, htab⟩ := Lib.deBruijn64_at _ hk
  have hcell := hT _ hi
  rw [htab] at hcell
  exact tz_core x _ _ w (by simp; omega) (tz_key x _ hx hx0 hlow) hi hk hcell

/-- from: both are boxed; the function value captures the boxes. -/
theorem from_any (B : Nat) (i : Int) (w : World) :
    Calls Tryd.prog 16 #[.pointer (some ⟨B, 0, none⟩), .int .i64 i] w fun e w' => e = .returned (.func (.func 17) #[] #[.pointer (some ⟨w.heap.size + 1, 0, none⟩), .pointer (some ⟨w.heap.size, 0, none⟩)]) ∧
      w' = (w.alloc (.cells #[.pointer (some ⟨B, 0, none⟩)] 24)).alloc (.cells #[.int .i64 i] 3) := by
  go_enter Tryd.func16, Tryd.ntmps16
  go_wp2
  go_ret
  exact ⟨rfl, rfl⟩

/-- What a round that goes on keeps: whatever lay below n₀, and the box. -/
def Kp (n₀ b : Nat) (W W' : World) : Prop := Below n₀ W W' ∧ W'.heap[b]? = W.heap[b]?
theorem Kp.t {n₀ b : Nat} {A B C : World} (h : Kp n₀ b A B) (k : Kp n₀ b B C) : Kp n₀ b A C := ⟨h.1.trans k.1, k.2.trans h.2⟩
theorem Kp.b {n₀ b : Nat} {w : World} (hn : n₀ ≤ w.heap.size) (hb : b < w.heap.size) (W : World) (l : Nat) (o o' : Obj) (hl : w.heap.size ≤ l) (h : W.heap[l]? = some o) (h1 : o.isCells = false) (h2 : o.isWalk = false) : Kp n₀ b W (W.putObj l o') :=
  ⟨belowK_b hn W l o o' hl h h1 h2, World.putObj_heap_other (by omega)⟩
theorem box_cell {W : World} {b : Nat} {v : Value} {t : TypeId} (h : W.heap[b]? = some (.cells #[v] t (0, 0))) : W.cell? ⟨b, 0, none⟩ = some v := by simp [World.cell?, h]

/-- i | 63: the last of its word. -/
theorem low63 : ∀ r, r < 64 → r ||| 63 = 63 := by decide
theorem nat63 (k : Nat) : k ||| 63 = 64 * (k / 64) + 63 := by
  have h1 := nat_join 6 (64 * (k / 64)) (k % 64) (by omega) (by omega)
  have h2 : 64 * (k / 64) + k % 64 = k := by omega
  rw [h2] at h1
  have h3 := nat_join 6 (64 * (k / 64)) 63 (by omega) (by omega)
  calc k ||| 63 = (64 * (k / 64) ||| k % 64) ||| 63 := by rw [h1]
    _ = 64 * (k / 64) ||| (k % 64 ||| 63) := Nat.or_assoc _ _ _
    _ = 64 * (k / 64) + 63 := by rw [low63 _ (by omega), h3]
theorem or63 (k : Nat) (hk : k < 9223372036854775808 - 64) : bits .or .i64 (k : Int) 63 = ((64 * (k / 64) + 63 : Nat) : Int) := by
  show IntKind.i64.wrap ((BitVec.ofInt 64 (k : Int) ||| BitVec.ofInt 64 63).toNat : Int) = _
  have h1 : (BitVec.ofInt 64 (k : Int)).toNat = k := by
    rw [BitVec.ofInt_natCast, BitVec.toNat_ofNat]; exact Nat.mod_eq_of_lt (by omega)
  have h2 : (BitVec.ofInt 64 63).toNat = 63 := by decide
  rw [BitVec.toNat_or, h1, h2, nat63, IntKind.wrap_i64]
  omega

set_option maxRecDepth 100000 in
set_option maxHeartbeats 2000000 in
theorem from1_any (l B A n n₀ bx bi : Nat) (ws : List Nat) (i : Int) (J Jx : List Nat → World → Prop) (hB : B < n₀) (hA : A < n₀) (h00 : 0 < n₀)
    (hY : ∀ pre x W, J pre W → pre.length < (elems (has ws) i.toNat n).length → YieldAt Fence.wide 4 Tryd.prog l #[.int .i64 (x : Nat)] W fun e W' =>
      (e = .returned (.bool true) ∧ J (pre ++ [x]) W' ∧ Kp n₀ bx W W') ∨ (e = .returned (.bool false) ∧ Jx (pre ++ [x]) W'))
    (W : World) (hb : W.heap[bx]? = some (.cells #[.pointer (some ⟨B, 0, none⟩)] 24 (0, 0))) (hi : W.cell? ⟨bi, 0, none⟩ = some (.int .i64 i)) (hM : BM W B A n ws) (hT : Tab W) (h0 : J [] W) :
    CallsIn Fence.wide 5 Tryd.prog 17 #[.func (.yield l) #[] #[], .pointer (some ⟨bi, 0, none⟩), .pointer (some ⟨bx, 0, none⟩)] W fun e W' => (∃ v, e = .returned v) ∧
      ((∃ ys, ys = elems (has ws) i.toNat n ∧ J ys W') ∨ (∃ pre, pre <+: elems (has ws) i.toNat n ∧ Jx pre W')) := by
  have ht := hM.top
  have hr := hM.room
  by_cases hneg : i < 0
  all_goals
    refine callsIn_of_wp Tryd.func17 rfl trivial ?_ rfl
    simp only [Tryd.ntmps17, List.size_toArray, List.length_cons, List.length_nil, Nat.reduceAdd, Nat.reduceSub, Array.replicate_succ, Array.replicate_zero, List.push_toArray, List.append_toArray, List.nil_append, List.cons_append]
    gi_wp2
    gi_loopw [4] (fun v wr => ∃ (k : Nat) (pre : List Nat), v = .int .i64 k ∧ pre ++ elems (has ws) k n = elems (has ws) i.toNat n ∧ J pre wr ∧ Below n₀ W wr ∧ wr.heap[bx]? = some (.cells #[.pointer (some ⟨B, 0, none⟩)] 24 (0, 0)))
      (fun v _ => n - (intOf v).toNat)
    case atStart =>
      first
        | exact ⟨0, [], rfl, by rw [show i.toNat = 0 by omega]; rfl, h0, Below.refl _ _, hb⟩
        | exact ⟨i.toNat, [], by rw [Int.toNat_of_nonneg (by omega)], rfl, h0, Below.refl _ _, hb⟩
    case round =>
      obtain ⟨k, pre, rfl, hel, hJs, hnx, hbx⟩ := hrel
      have hMr := hM.below hnx hB hA
      have hTr := hT.below hnx h00
      have hcx := box_cell hbx
      have hn := hMr.c1
      have h00 := hMr.c0
      by_cases hlt : k < n
      · have hkl : k / 64 < ws.length := by omega
        have hat := hMr.at_ hkl
        obtain ⟨x0, hx0⟩ : ∃ x0, x0 = ws.getD (k / 64) 0 := ⟨_, rfl⟩
        rw [← hx0] at hat
        have HEL := Lib.hid hel
        have HX0 := Lib.hid hx0
        have HMr := Lib.hid hMr
        have HTr := Lib.hid hTr
        have HBX := Lib.hid hbx
        clear hel hx0 hMr hTr hbx
        obtain ⟨y, hy0⟩ : ∃ y, y = x0 >>> (k % 64) := ⟨_, rfl⟩
        have hsh : ((x0 : Int) / 2 ^ (k % 64)) = (y : Int) := by
          rw [hy0, Nat.shiftRight_eq_div_pow]
          simp
        have hyx : y = (ws.getD (k / 64) 0) >>> (k % 64) := by rw [hy0, ← HX0.out]
        clear hy0
        by_cases hz : y = 0
        · -- NOTHING FROM HERE UP TO THE WORD's END
          have hno := word_none (ws := ws) (i := k) (by rw [← hyx]; exact hz)
          have HNO := Lib.hid hno
          have hor := or63 k (by omega)
          obtain ⟨m, hm⟩ : ∃ m, m = 64 * (k / 64) + 63 := ⟨_, rfl⟩
          rw [← hm] at hor
          have hm1 : k ≤ m := by omega
          have hm2 : m ≤ 65600 := by omega
          have HM2 := Lib.hid hm
          rw [hz] at hsh
          clear hno hyx hz hm
          gi_wp2
          go_roundw
          case rel =>
            refine ⟨m + 1, pre, by go_num, ?_, hJs, hnx, HBX.out⟩
            rw [← HEL.out, elems_skip (lo := k) (mid := m + 1) (by omega) (fun j h1 h2 => HNO.out j h1 (by have := HM2.out; omega))]
          case measure => simp [intOf]; omega
        · -- THE NEXT ONE IS HANDED OUT
          obtain ⟨q1, q2, q3⟩ := word_some (ws := ws) (i := k) (x := y) HMr.out.words hyx hz
          have hyl : y < 18446744073709551616 := by
            rw [hyx]
            exact Nat.lt_of_le_of_lt (Nat.shiftRight_le _ _) (HMr.out.words.getD _)
          have htz := tz_any y hyl hz wr HTr.out
          have q4 := HMr.out.ins _ q1
          obtain ⟨c, hc⟩ : ∃ c, c = Lib.ctz 64 y := ⟨_, rfl⟩
          rw [← hc] at q1 q2 q3 q4 htz
          have hel2 := elems_cons (S := has ws) (lo := k) (x := k + c) (n := n) (by omega) q4 q1 q2
          rw [hel2] at HEL
          have hlen : pre.length < (elems (has ws) i.toNat n).length := by
            rw [← HEL.out]
            simp
          obtain ⟨fn, tmps, assign, body, hy, hR⟩ := hY pre (k + c) wr hJs hlen
          simp only [Int.natCast_add] at hy
          have HTZ := Lib.hid htz
          have hyz : ((y : Int) == 0) = false := by simp; omega
          clear htz hc q1 q2 hyx hz hel2 hlen
          gi_wp2_with (refine ⟨trivial, ?_⟩; gi_at_call 18; refine (callsIn_wide.2 HTZ.out).mono ?_; rintro e w' ⟨rfl, rfl⟩)
          refine hR.mono ?_
          rintro e W3 (⟨rfl, hJ3, hk3⟩ | ⟨rfl, hJx3⟩)
          · gi_wp2
            go_roundw
            case rel => exact ⟨k + c + 1, pre ++ [k + c], by go_num, by rw [← HEL.out]; simp, hJ3, hnx.trans hk3.1, by rw [hk3.2]; exact HBX.out⟩
            case measure => simp [intOf]; omega
          · gi_wp2
            refine bodyPost_ret (results_none rfl _ _ _) rfl ?_
            exact ⟨⟨_, rfl⟩, .inr ⟨pre ++ [k + c], ⟨elems (has ws) (k + c + 1) n, by rw [← HEL.out]; simp⟩, hJx3⟩⟩
      · obtain ⟨d, rfl⟩ : ∃ d, k = n + d := ⟨k - n, by omega⟩
        rw [elems_nil (by omega), List.append_nil] at hel
        subst hel
        gi_wp2
        go_end0
        exact ⟨⟨_, rfl⟩, .inl ⟨_, rfl, hJs⟩⟩
end Go.Proofs.YtlcibahafcaojaaDoor
