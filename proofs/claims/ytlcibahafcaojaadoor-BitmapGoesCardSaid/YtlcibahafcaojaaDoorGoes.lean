/-
  PROVED: middenheaplaw03.BitmapGoes returns true for every list of ops; nothing that was there is written. No condition but that the library's table math/bits.deBruijn64tab is as its initialiser lays it, which the card ties to the program's text.
-/
import Derived.Test.YtlcibahafcaojaaDoorOps
import Derived.Test.YtlcibahafcaojaaDoorWhole
import Derived.Deep.RegionWith
namespace Go.Proofs.YtlcibahafcaojaaDoor
open Go.RowKit Go.Deep

/-- Block C is an array of 300 bools: is each in? -/
structure Arr (w : World) (C : Nat) (T : Nat → Bool) : Prop where
  ex : ∃ cs : Array Value, w.heap[C]? = some (.cells cs 26 (0, 0)) ∧ ∀ j, j < 300 → cs[j]? = some (.bool (T j))
def noneIn : Array Value := Array.replicate 300 (.bool false)
theorem zero26 (w : World) : (zeroValue 26).run Tryd.prog w = .ok (.agg noneIn) w := by kernel_rfl
theorem Arr.cell {w : World} {C : Nat} {T : Nat → Bool} (h : Arr w C T) {j : Nat} (hj : j < 300) : w.cell? ⟨C, j, none⟩ = some (.bool (T j)) := by
  obtain ⟨cs, hb, hc⟩ := h.ex
  simp [World.cell?, hb, hc j hj]
theorem Arr.fz {w : World} {C : Nat} {T : Nat → Bool} (h : Arr w C T) (j : Nat) : w.frozen? ⟨C, j, none⟩ = false := by
  obtain ⟨cs, hb, hc⟩ := h.ex
  simp [World.frozen?, hb]
theorem Arr.drew {w : World} {C : Nat} {T : Nat → Bool} (h : Arr w C T) : Arr w.drew C T := ⟨h.ex⟩
theorem Arr.lt {w : World} {C : Nat} {T : Nat → Bool} (h : Arr w C T) : C < w.heap.size := by
  obtain ⟨cs, hb, _⟩ := h.ex
  exact lt_of_block hb
theorem Arr.below {w w' : World} {C : Nat} {T : Nat → Bool} (h : Arr w C T) (hb : Below w.heap.size w w') : Arr w' C T := by
  obtain ⟨cs, hc, ha⟩ := h.ex
  exact ⟨cs, (hb.block C h.lt).trans hc, ha⟩
theorem Arr.new (w : World) : Arr (w.alloc (.cells noneIn 26)) w.heap.size non :=
  ⟨noneIn, heap_alloc_new w _, fun j hj => by unfold noneIn; simp [non, hj]⟩
theorem Arr.set_ {w : World} {C : Nat} {T T' : Nat → Bool} (h : Arr w C T) {x : Nat} (hx : x < 300) (b : Bool) (hT : ∀ j, j ≠ x → T' j = T j) (hb : T' x = b) : Arr (w.setCell ⟨C, x, none⟩ (.bool b)) C T' := by
  obtain ⟨cs, hc, ha⟩ := h.ex
  refine ⟨cs.setIfInBounds x (.bool b), by simp [World.setCell, Array.getElem?_modify, hc], fun j hj => ?_⟩
  by_cases e : j = x
  · subst e
    have : j < cs.size := (Array.getElem?_eq_some_iff.1 (ha j hj)).1
    rw [Array.getElem?_setIfInBounds_self, if_pos this, hb]
  · rw [Array.getElem?_setIfInBounds_ne (Ne.symm e), ha j hj, hT j e]

/-- A bitmap, and an array beside it. -/
structure Both (w0 w : World) (B C : Nat) (S : Nat → Bool) : Prop where
  st : St w0 w B 300 S
  arr : Arr w C S
  hC : w0.heap.size ≤ C
theorem St.drew {w0 w : World} {B n : Nat} {S : Nat → Bool} (h : St w0 w B n S) : St w0 w.drew B n S := by
  obtain ⟨A, ws, hM, hS, hB, hA⟩ := h.ex
  exact ⟨⟨A, ws, ⟨hM.hB, hM.hA, hM.words, hM.top, hM.room, hM.ins⟩, hS, hB, hA⟩, h.bel.drew, h.tab, h.pos⟩
/-- A store into the array leaves the bitmap. -/
theorem St.beside {w0 w : World} {B C n : Nat} {S T : Nat → Bool} (h : St w0 w B n S) (k : Arr w C T) (hC : w0.heap.size ≤ C) (x : Nat) (v : Value) : St w0 (w.setCell ⟨C, x, none⟩ v) B n S := by
  obtain ⟨A, ws, hM, hS, hB, hA⟩ := h.ex
  obtain ⟨cs, hc, _⟩ := k.ex
  have e1 : B ≠ C := by rintro rfl; rw [hM.hB] at hc; simp at hc
  have e2 : A ≠ C := by rintro rfl; rw [hM.hA] at hc; simp at hc
  exact ⟨⟨A, ws, ⟨(Below.heap_setCell _ _ _ _ e1).trans hM.hB, (Below.heap_setCell _ _ _ _ e2).trans hM.hA, hM.words, hM.top, hM.room, hM.ins⟩, hS, hB, hA⟩, h.bel.setCell hC _, h.tab, h.pos⟩
theorem Arr.only {w w' : World} {A B C n : Nat} {ws : List Nat} {T : Nat → Bool} (h : Arr w C T) (hM : BM w B A n ws) (g : w.grownBy w' (some A)) : Arr w' C T := by
  obtain ⟨cs, hc, ha⟩ := h.ex
  have e : C ≠ A := by rintro rfl; rw [hM.hA] at hc; simp at hc
  exact ⟨cs, (g.block C h.lt (fun h => e (by injection h))).trans hc, ha⟩

section
variable {w0 w : World} {B C : Nat} {S T : Nat → Bool}
theorem set_b (x : Int) (i : Nat) (b : Bool) (h : St w0 w B 300 S) (k : Arr w C T) (hx : x = i) (hi : i < 300) (hb : (!S i) = b) :
    Calls Tryd.prog 11 #[.pointer (some ⟨B, 0, none⟩), .int .i64 x] w fun e w' => e = .returned (.bool b) ∧ St w0 w' B 300 (ins S i) ∧ Arr w' C T := by
  subst hx
  obtain ⟨A, ws, hM, rfl, hB, hA⟩ := h.ex
  cases hs : has ws i with
  | true =>
    rw [hs] at hb
    subst hb
    refine (set_had B A 300 i ws w hM hi hs).mono ?_
    rintro e w' ⟨rfl, hM', g⟩
    exact ⟨rfl, h.step hM' (ins_same hs) hB hA g, k.only hM g⟩
  | false =>
    rw [hs] at hb
    subst hb
    refine (set_c B A 300 i ws w hM hi hs).mono ?_
    rintro e w' ⟨rfl, ws', hM', hw, g⟩
    exact ⟨rfl, h.step hM' (by funext j; rw [hw]; rfl) hB hA g, k.only hM g⟩
theorem clear_b (x : Int) (i : Nat) (b : Bool) (h : St w0 w B 300 S) (k : Arr w C T) (hx : x = i) (hi : i < 300) (hb : S i = b) :
    Calls Tryd.prog 10 #[.pointer (some ⟨B, 0, none⟩), .int .i64 x] w fun e w' => e = .returned (.bool b) ∧ St w0 w' B 300 (del S i) ∧ Arr w' C T := by
  subst hx
  obtain ⟨A, ws, hM, rfl, hB, hA⟩ := h.ex
  cases hs : has ws i with
  | true =>
    rw [hs] at hb
    subst hb
    refine (clear_c B A 300 i ws w hM hi hs).mono ?_
    rintro e w' ⟨rfl, ws', hM', hw, g⟩
    exact ⟨rfl, h.step hM' (by funext j; rw [hw]; rfl) hB hA g, k.only hM g⟩
  | false =>
    rw [hs] at hb
    subst hb
    refine (clear_not B A 300 i ws w hM hi hs).mono ?_
    rintro e w' ⟨rfl, hM', g⟩
    exact ⟨rfl, h.step hM' (del_same hs) hB hA g, k.only hM g⟩
theorem has_b (x : Int) (i : Nat) (b : Bool) (h : St w0 w B 300 S) (k : Arr w C T) (hx : x = i) (hi : i < 300) (hb : S i = b) :
    Calls Tryd.prog 13 #[.pointer (some ⟨B, 0, none⟩), .int .i64 x] w fun e w' => e = .returned (.bool b) ∧ St w0 w' B 300 S ∧ Arr w' C T := by
  subst hx
  obtain ⟨A, ws, hM, rfl, hB, hA⟩ := h.ex
  refine (has_c B A 300 i ws w hM hi).mono ?_
  rintro e w' ⟨rfl, hM', g⟩
  exact ⟨by rw [hb], h.step hM' rfl hB hA g, k.only hM g⟩
theorem next_b (i y : Int) (x : Nat) (h : St w0 w B 300 S) (k : Arr w C T) (hy : y = x) (h0 : i ≤ (x : Int)) (hS : S x = true) (hno : ∀ j : Nat, i ≤ (j : Int) → j < x → S j = false) :
    Calls Tryd.prog 12 #[.pointer (some ⟨B, 0, none⟩), .int .i64 i] w fun e w' => e = .returned (.tuple #[.int .i64 y, .bool true]) ∧ St w0 w' B 300 S ∧ Arr w' C T := by
  subst hy
  have hx := h.lt hS
  obtain ⟨A, ws, hM, rfl, hB, hA⟩ := h.ex
  refine (next_any B A 300 ws i w hM h.tabAt (Nat.lt_of_lt_of_le h.pos h.bel.size)).mono ?_
  rintro e w' ⟨rfl, hb⟩
  exact ⟨by rw [elems_cons (x := x) (by omega) hx hS (fun j h1 h2 => hno j (by omega) h2)]; rfl, h.keep hb, k.below hb⟩
end

set_option maxRecDepth 100000 in
set_option maxHeartbeats 1600000 in
theorem goes_walk (a : Option Addr) (len cap : Nat) (ops : List (Bool × Int)) (w : World) (o : Ops w a len ops) (hT : Tab w) (hpos : 0 < w.heap.size) :
    Calls Tryd.prog 3 #[.slice a len cap] w fun e w' => e = .returned (.bool true) ∧ Below w.heap.size w w' := by
  have aw := awake_any w hT hpos
  have hbig := o.big
  have O := Lib.hid o
  clear o
  have hz := zero26
  go_enter Tryd.func3, Tryd.ntmps3
  go_wp2_with fail
  refine aw.mono ?_
  rintro e wa ⟨rfl, hb⟩
  go_wp2_with fail
  refine (new_in 300 w _ hb hT hpos (by omega)).mono ?_
  rintro e w1 ⟨B, rfl, s1⟩
  go_wp2_with fail
  have hb1 : Both w (w1.alloc (.cells noneIn 26)) B w1.heap.size non := ⟨s1.keep ((Below.refl _ _).alloc (Nat.le_refl _) _), Arr.new w1, s1.bel.size⟩
  obtain ⟨C, hC⟩ : ∃ C, C = w1.heap.size := ⟨_, rfl⟩
  rw [← hC] at hb1 ⊢
  clear hC s1 hb hz
  go_loopw [6] (fun v wr => ∃ (k : Nat) (S : Nat → Bool), k ≤ len ∧ k ≤ 60 ∧ v = .int .i64 k ∧ Both w wr B C S) (fun v _ => len - (intOf v).toNat)
  case atStart => exact ⟨0, non, by omega, by omega, rfl, hb1⟩
  case round =>
    clear hb1
    obtain ⟨k, S, hk, hk2, rfl, hs, ha, hC⟩ := hrel
    by_cases hlt : k < len ∧ k < 60
    · obtain ⟨g1, g2⟩ := hlt
      obtain ⟨b, off, rfl, hbl, hat⟩ := O.out.at_ (by omega)
      obtain ⟨hc0, hc, l0, u0⟩ := hat k g1
      have hc' := (hs.bel.cell (p := ⟨b, off + k * 2 + 1, none⟩) hbl).trans hc
      have hc0' := (hs.bel.cell (p := ⟨b, off + k * 2, none⟩) hbl).trans hc0
      obtain ⟨x, hx⟩ : ∃ x, x = (ops.getD k (false, 0)).2 := ⟨_, rfl⟩
      obtain ⟨cl, hcl⟩ : ∃ cl, cl = (ops.getD k (false, 0)).1 := ⟨_, rfl⟩
      rw [← hx] at hc' l0 u0
      rw [← hcl] at hc0'
      have hp := pickN_lt x 300 (by omega)
      obtain ⟨i, hi⟩ : ∃ i, i = pickN x 300 := ⟨_, rfl⟩
      have hpk := fun W : World => pick_any x 300 W l0 u0 (by omega) (by omega)
      rw [← hi] at hp hpk
      have PK := Lib.hid hpk
      have g3 : decide ((k : Int) < 60) = true := by simp; omega
      have hcell := ha.cell hp
      have hfz := ha.fz i
      clear hat hc hc0 hx hcl hi hpk
      cases cl with
      | true =>
        cases hS : S i with
        | true =>
          rw [hS] at hcell
          have QS := Lib.hid hS
          clear hS
          go_wp2_with fail
          refine (PK.out _).mono ?_
          rintro e w' ⟨rfl, rfl⟩
          go_wp2_with fail
          go_region_with (go_at_call 10; refine (clear_b _ i _ (C := C) (T := S) (by first | exact hs | exact hs.drew) (by first | exact ha | exact ha.drew) rfl hp QS.out).mono ?_; rintro e w2 ⟨rfl, hs2, ha2⟩; have hcell2 : w2.cell? ⟨C, i, none⟩ = some (.bool true) := by (rw [ha2.cell hp, QS.out]))
          all_goals
            have hfz2 := ha2.fz i
            go_wp2_with fail
            go_roundw
            case rel => exact ⟨k + 1, del S i, by omega, by omega, by go_num, hs2.beside ha2 hC _ _, ha2.set_ hp false (fun j hj => del_ne S hj) (del_self S i), hC⟩
            case measure => simp [intOf]; omega
        | false =>
          rw [hS] at hcell
          have QS := Lib.hid hS
          clear hS
          go_wp2_with fail
          refine (PK.out _).mono ?_
          rintro e w' ⟨rfl, rfl⟩
          go_wp2_with fail
          go_region_with (go_at_call 10; refine (clear_b _ i _ (C := C) (T := S) (by first | exact hs | exact hs.drew) (by first | exact ha | exact ha.drew) rfl hp QS.out).mono ?_; rintro e w2 ⟨rfl, hs2, ha2⟩; have hcell2 : w2.cell? ⟨C, i, none⟩ = some (.bool false) := by (rw [ha2.cell hp, QS.out]))
          all_goals
            have hfz2 := ha2.fz i
            go_wp2_with fail
            go_roundw
            case rel => exact ⟨k + 1, del S i, by omega, by omega, by go_num, hs2.beside ha2 hC _ _, ha2.set_ hp false (fun j hj => del_ne S hj) (del_self S i), hC⟩
            case measure => simp [intOf]; omega
      | false =>
        cases hS : S i with
        | true =>
          rw [hS] at hcell
          have QS : Hid ((!S i) = false) := by (show (!S i) = false; rw [hS]; rfl)
          have QT := Lib.hid hS
          clear hS
          go_wp2_with fail
          refine (PK.out _).mono ?_
          rintro e w' ⟨rfl, rfl⟩
          go_wp2_with fail
          go_region_with (go_at_call 11; refine (set_b _ i _ (C := C) (T := S) (by first | exact hs | exact hs.drew) (by first | exact ha | exact ha.drew) rfl hp QS.out).mono ?_; rintro e w2 ⟨rfl, hs2, ha2⟩; have hcell2 : w2.cell? ⟨C, i, none⟩ = some (.bool true) := by (rw [ha2.cell hp, QT.out]))
          all_goals
            have hfz2 := ha2.fz i
            go_wp2_with fail
            go_roundw
            case rel => exact ⟨k + 1, ins S i, by omega, by omega, by go_num, hs2.beside ha2 hC _ _, ha2.set_ hp true (fun j hj => ins_ne S hj) (ins_self S i), hC⟩
            case measure => simp [intOf]; omega
        | false =>
          rw [hS] at hcell
          have QS : Hid ((!S i) = true) := by (show (!S i) = true; rw [hS]; rfl)
          have QT := Lib.hid hS
          clear hS
          go_wp2_with fail
          refine (PK.out _).mono ?_
          rintro e w' ⟨rfl, rfl⟩
          go_wp2_with fail
          go_region_with (go_at_call 11; refine (set_b _ i _ (C := C) (T := S) (by first | exact hs | exact hs.drew) (by first | exact ha | exact ha.drew) rfl hp QS.out).mono ?_; rintro e w2 ⟨rfl, hs2, ha2⟩; have hcell2 : w2.cell? ⟨C, i, none⟩ = some (.bool false) := by (rw [ha2.cell hp, QT.out]))
          all_goals
            have hfz2 := ha2.fz i
            go_wp2_with fail
            go_roundw
            case rel => exact ⟨k + 1, ins S i, by omega, by omega, by go_num, hs2.beside ha2 hC _ _, ha2.set_ hp true (fun j hj => ins_ne S hj) (ins_self S i), hC⟩
            case measure => simp [intOf]; omega
    · -- WHAT IS IN IS TOLD
      clear O
      rcases (show (len ≤ k) ∨ (k < len ∧ 60 ≤ k) by omega) with g1 | ⟨g1, g2⟩
      all_goals
        clear hlt
        go_wp2_with fail
        go_loopw [8, 9, 10] (fun nx cn v wr => ∃ (x j : Nat), x ≤ 300 ∧ j ≤ x ∧ v = .int .i64 x ∧ nx = .int .i64 j ∧ cn = .int .i64 (many S x : Nat) ∧ (∀ y, j ≤ y → y < x → S y = false) ∧ Both w wr B C S) (fun _ _ v _ => 300 - (intOf v).toNat)
        case atStart => exact ⟨0, 0, by omega, by omega, rfl, rfl, by rw [many_zero]; rfl, fun y h1 h2 => by omega, hs, ha, hC⟩
        case round =>
          clear hs ha
          obtain ⟨x, j, hx, hj, rfl, rfl, rfl, hno, hs, ha, hC⟩ := hrel
          have hml := many_le S x
          have HNO := Lib.hid hno
          clear hno
          by_cases hlt : x < 300
          · have hcell := ha.cell hlt
            cases hS : S x with
            | true =>
              rw [hS] at hcell
              have QS := Lib.hid hS
              clear hS
              go_wp2_with fail
              refine (next_b _ (x : Int) x hs ha rfl (by omega) QS.out (fun y h1 h2 => HNO.out y (by omega) h2)).mono ?_
              clear hs ha hcell
              rintro e w2 ⟨rfl, hs, ha⟩
              go_wp2_with fail
              refine (has_b _ x _ hs ha rfl hlt QS.out).mono ?_
              clear hs ha
              rintro e w3 ⟨rfl, hs, ha⟩
              go_wp2_with fail
              go_roundw
              case rel => exact ⟨x + 1, x + 1, by omega, by omega, by go_num, by go_num, by rw [many_succ, QS.out]; rfl, fun y h1 h2 => by omega, hs, ha, hC⟩
              case measure => simp [intOf]; omega
            | false =>
              rw [hS] at hcell
              have QS := Lib.hid hS
              clear hS
              go_wp2_with fail
              go_roundw
              case rel =>
                refine ⟨x + 1, j, by omega, by omega, by go_num, rfl, by rw [many_succ, QS.out]; rfl, fun y h1 h2 => ?_, hs, ha, hC⟩
                by_cases e : y = x
                · rw [e]; exact QS.out
                · exact HNO.out y h1 (by omega)
              case measure => simp [intOf]; omega
          · obtain rfl : 300 = x := by omega
            obtain ⟨c, hc⟩ : ∃ c, c = many S 300 := ⟨_, rfl⟩
            have q1 := ahead_many (S := S) (N := 300) (hi := 300) (by omega)
            have q2 := ahead_many (S := S) (N := 300) (hi := 1099511627776) (by omega)
            rw [← hc] at q1 q2 hml ⊢
            have Q1 := Lib.hid q1
            have Q2 := Lib.hid q2
            clear hc q1 q2
            go_wp2_with fail
            refine (next_none _ hs (fun y h1 => ?_)).mono ?_
            · rcases Nat.lt_or_ge y 300 with g | g
              · exact HNO.out y (by omega) g
              · cases hy : S y with
                | false => rfl
                | true => have := hs.lt hy; omega
            clear hs ha
            rintro e w2 ⟨rfl, hs⟩
            go_wp2_with fail
            refine (count_z _ _ 0 c hs rfl Q1.out).mono ?_
            clear hs
            rintro e w3 ⟨rfl, hs⟩
            go_wp2_with fail
            refine (count_l (-9) 1099511627776 c hs (by rw [show Int.toNat (-9) = 0 from rfl]; exact Q2.out)).mono ?_
            clear hs
            rintro e w4 ⟨rfl, hs⟩
            go_wp2_with fail
            go_ret
            exact ⟨rfl, hs.bel⟩
end Go.Proofs.YtlcibahafcaojaaDoor
