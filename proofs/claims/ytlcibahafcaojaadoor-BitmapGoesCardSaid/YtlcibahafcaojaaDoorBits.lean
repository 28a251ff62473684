/-
  PROVED: the contracts of package bitmap's New, bit, Set, Clear and Has. No condition but that the cells hold a bitmap.
-/
import Derived.Test.YtlcibahafcaojaaDoorRows
import Derived.Test.YtlcibahafcaojaaDoorPlain
import Derived.WalkKit
import Derived.Handy
import Derived.Deep.QuietTactic
import Derived.BigQuiet
import Derived.WalkLawsBesides
import Derived.WalkSpells
import Derived.Lib.Hide
import Derived.Laws.BitsAllLaws
import Derived.Deep.OwnRows
namespace Go.Proofs.YtlcibahafcaojaaDoor
open Go.RowKit Go.Deep

theorem ret3 {v v' : Value} (h : v = v') : Ending.returned v = .returned v' := by rw [h]
theorem bit_in (B A len n : Nat) (i : Nat) (w : World) (h0 : w.cell? ⟨B, 0, none⟩ = some (.slice (some ⟨A, 0, none⟩) len len)) (h1 : w.cell? ⟨B, 1, none⟩ = some (.int .i64 n))
    (hi : i < n) (hn : n ≤ 65536) (hl : i / 64 < len) :
    Calls Tryd.prog 15 #[.pointer (some ⟨B, 0, none⟩), .int .i64 i] w fun e w' => e = .returned (.tuple #[.pointer (some ⟨A, i / 64, none⟩), .int .u64 (bitv (i % 64) : Nat), .bool true]) ∧ ∃ q, w' = w.drewN q := by
  have hb : IntKind.u64.wrap ((2 : Int) ^ (i % 64)) = ((bitv (i % 64) : Nat) : Int) := by
    have := bitv_lt (k := i % 64) (by omega)
    have e : ((2 : Int) ^ (i % 64)) = ((bitv (i % 64) : Nat) : Int) := by unfold bitv; simp
    rw [e]
    exact IntWalk.u64_in _ (by omega)
  have HB := Lib.hid hb
  clear hb
  go_enter Tryd.func15, Tryd.ntmps15
  go_wp2
  go_quiet (fail)
  go_wp2
  go_ret3
  refine ⟨ret3 ?_, _, rfl⟩
  show Value.tuple #[_, .int .u64 (IntKind.u64.wrap ((2 : Int) ^ (i % 64))), _] = _
  rw [HB.out]
  rfl
theorem bit_out (B n : Nat) (i : Int) (w : World) (h1 : w.cell? ⟨B, 1, none⟩ = some (.int .i64 n)) (hi : i < 0 ∨ n ≤ i) :
    Calls Tryd.prog 15 #[.pointer (some ⟨B, 0, none⟩), .int .i64 i] w fun e w' => e = .returned (.tuple #[.pointer none, .int .u64 0, .bool false]) ∧ ∃ q, w' = w.drewN q := by
  by_cases h : i < 0
  · go_enter Tryd.func15, Tryd.ntmps15
    go_wp2
    go_ret3
    exact ⟨rfl, 0, rfl⟩
  · go_enter Tryd.func15, Tryd.ntmps15
    go_wp2
    go_ret3
    exact ⟨rfl, 0, rfl⟩

/-- Block B is a bitmap below n over the words ws, which lie in block A. -/
structure BM (w : World) (B A n : Nat) (ws : List Nat) : Prop where
  hB : w.heap[B]? = some (.cells #[.slice (some ⟨A, 0, none⟩) ws.length ws.length, .int .i64 n] 38 (0, 0))
  hA : w.heap[A]? = some (.cells (ws.map fun (x : Nat) => Value.int .u64 (x : Int)).toArray 40 (0, 0))
  words : Words ws
  top : n ≤ 65536
  room : n ≤ 64 * ws.length
  ins : ∀ i, has ws i = true → i < n

theorem BM.c0 {w : World} {B A n : Nat} {ws : List Nat} (h : BM w B A n ws) : w.cell? ⟨B, 0, none⟩ = some (.slice (some ⟨A, 0, none⟩) ws.length ws.length) := by have := h.hB; simp [World.cell?, this]
theorem BM.c1 {w : World} {B A n : Nat} {ws : List Nat} (h : BM w B A n ws) : w.cell? ⟨B, 1, none⟩ = some (.int .i64 n) := by have := h.hB; simp [World.cell?, this]
theorem BM.at_ {w : World} {B A n : Nat} {ws : List Nat} (h : BM w B A n ws) {k : Nat} (hk : k < ws.length) : w.cell? ⟨A, k, none⟩ = some (.int .u64 (ws.getD k 0 : Nat)) := by
  have := h.hA
  simp [World.cell?, this, List.getElem?_eq_getElem hk]
theorem BM.fz {w : World} {B A n : Nat} {ws : List Nat} (h : BM w B A n ws) (k : Nat) : w.frozen? ⟨A, k, none⟩ = false := by have := h.hA; simp [World.frozen?, this]
theorem BM.ltB {w : World} {B A n : Nat} {ws : List Nat} (h : BM w B A n ws) : B < w.heap.size := lt_of_block h.hB
theorem BM.ltA {w : World} {B A n : Nat} {ws : List Nat} (h : BM w B A n ws) : A < w.heap.size := lt_of_block h.hA
theorem BM.ne_ {w : World} {B A n : Nat} {ws : List Nat} (h : BM w B A n ws) : B ≠ A := by
  rintro rfl
  have h1 := h.hB
  have h2 := h.hA
  rw [h1] at h2
  simp at h2
theorem BM.drewN {w : World} {B A n : Nat} {ws : List Nat} (h : BM w B A n ws) (q : Nat) : BM (w.drewN q) B A n ws := ⟨h.hB, h.hA, h.words, h.top, h.room, h.ins⟩
theorem BM.below {w w' : World} {B A n m : Nat} {ws : List Nat} (h : BM w B A n ws) (hb : Below m w w') (hB : B < m) (hA : A < m) : BM w' B A n ws :=
  ⟨(hb.block B hB).trans h.hB, (hb.block A hA).trans h.hA, h.words, h.top, h.room, h.ins⟩
theorem BM.store {w : World} {B A n : Nat} {ws : List Nat} (h : BM w B A n ws) (k : Nat) {x : Nat} (hx : x < 18446744073709551616) (hi : ∀ i, has (ws.set k x) i = true → i < n) :
    BM (w.setCell ⟨A, k, none⟩ (.int .u64 (x : Int))) B A n (ws.set k x) := by
  refine ⟨?_, ?_, h.words.set k hx, h.top, by simpa using h.room, hi⟩
  · rw [Below.heap_setCell _ _ _ _ h.ne_]
    simpa using h.hB
  · have := h.hA
    simp [World.setCell, Array.getElem?_modify, this, List.map_set]


theorem room_ (n : Nat) : n ≤ 64 * ((n + 63) / 64) := by omega
theorem has_none (k i : Nat) : has (List.replicate k 0) i = false := by
  unfold has
  rw [List.getD_eq_getElem?_getD, List.getElem?_replicate]
  split <;> simp


/-- What a call leaves: only block A, and new blocks, may have turned. -/
theorem only_set (w : World) (A k : Nat) (v : Value) (q : Nat) : w.grownBy ((w.drewN q).setCell ⟨A, k, none⟩ v) (some A) :=
  ⟨rfl, rfl, rfl, by simp [World.setCell, World.drewN], fun i _ hne => Below.heap_setCell (w.drewN q) ⟨A, k, none⟩ v i (fun e => hne (by rw [e]))⟩
theorem only_drawn (w : World) (b : Option Nat) (q : Nat) : w.grownBy (w.drewN q) b := ⟨rfl, rfl, rfl, Nat.le_refl _, fun _ _ _ => rfl⟩

/-- Set: i is put in. -/
theorem set_c (B A n i : Nat) (ws : List Nat) (w : World) (h : BM w B A n ws) (hi : i < n) (hno : has ws i = false) :
    Calls Tryd.prog 11 #[.pointer (some ⟨B, 0, none⟩), .int .i64 i] w fun e w' => e = .returned (.bool true) ∧ ∃ ws', BM w' B A n ws' ∧ (∀ j, has ws' j = (has ws j || decide (j = i))) ∧ w.grownBy w' (some A) := by
  have hr := h.room
  have ht := h.top
  have hil : i / 64 < ws.length := by omega
  have hx := h.words.getD (i / 64)
  obtain ⟨x, hxe⟩ : ∃ x, x = ws.getD (i / 64) 0 := ⟨_, rfl⟩
  have hc : w.cell? ⟨A, i / 64, none⟩ = some (.int .u64 (x : Int)) := by rw [hxe]; exact h.at_ hil
  have hf := h.fz (i / 64)
  have h0 := h.c0
  have h1 := h.c1
  have hnb : x.testBit (i % 64) = false := by rw [hxe]; exact hno
  have hbl := bitv_lt (k := i % 64) (by omega)
  rw [← hxe] at hx
  have hand : bits .and .u64 (x : Int) ((bitv (i % 64) : Nat) : Int) = 0 := by rw [u64_and_nat _ _ hx hbl, and_no hnb]; rfl
  have hor : bits .or .u64 (x : Int) ((bitv (i % 64) : Nat) : Int) = ((x ||| bitv (i % 64) : Nat) : Int) := u64_or_nat _ _ hx hbl
  have hol := or_lt (x := x) (k := i % 64) hx (by omega)
  have HX := Lib.hid hxe
  have H := Lib.hid h
  clear hxe h hnb hno
  go_enter Tryd.func11, Tryd.ntmps11
  go_wp2_with (go_at_call 15; refine (bit_in B A ws.length n i _ h0 h1 hi ht hil).mono ?_; rintro e w' ⟨rfl, q, rfl⟩)
  go_ret
  have hs := has_set ws i (hi := hil)
  rw [← HX.out] at hs
  refine ⟨rfl, _, (H.out.drewN q).store (i / 64) hol (fun j hj => ?_), hs, only_set _ _ _ _ _⟩
  rw [hs] at hj
  rcases Bool.or_eq_true_iff.1 hj with h2 | h2
  · exact H.out.ins j h2
  · have := of_decide_eq_true h2; omega
theorem set_had (B A n i : Nat) (ws : List Nat) (w : World) (h : BM w B A n ws) (hi : i < n) (hyes : has ws i = true) :
    Calls Tryd.prog 11 #[.pointer (some ⟨B, 0, none⟩), .int .i64 i] w fun e w' => e = .returned (.bool false) ∧ BM w' B A n ws ∧ w.grownBy w' (some A) := by
  have hr := h.room
  have ht := h.top
  have hil : i / 64 < ws.length := by omega
  have hx := h.words.getD (i / 64)
  obtain ⟨x, hxe⟩ : ∃ x, x = ws.getD (i / 64) 0 := ⟨_, rfl⟩
  have hc : w.cell? ⟨A, i / 64, none⟩ = some (.int .u64 (x : Int)) := by rw [hxe]; exact h.at_ hil
  have h0 := h.c0
  have h1 := h.c1
  have hnb : x.testBit (i % 64) = true := by rw [hxe]; exact hyes
  have hbl := bitv_lt (k := i % 64) (by omega)
  rw [← hxe] at hx
  have hand : (bits .and .u64 (x : Int) ((bitv (i % 64) : Nat) : Int) == 0) = false := by
    rw [u64_and_nat _ _ hx hbl]
    have := and_yes hnb
    simp
    omega
  have H := Lib.hid h
  clear hxe h hnb hyes
  go_enter Tryd.func11, Tryd.ntmps11
  go_wp2_with (go_at_call 15; refine (bit_in B A ws.length n i _ h0 h1 hi ht hil).mono ?_; rintro e w' ⟨rfl, q, rfl⟩)
  go_ret
  exact ⟨rfl, H.out.drewN _, only_drawn _ _ _⟩
theorem set_out (B A n : Nat) (i : Int) (ws : List Nat) (w : World) (h : BM w B A n ws) (hi : i < 0 ∨ n ≤ i) :
    Calls Tryd.prog 11 #[.pointer (some ⟨B, 0, none⟩), .int .i64 i] w fun e w' => e = .returned (.bool false) ∧ BM w' B A n ws ∧ w.grownBy w' (some A) := by
  have h1 := h.c1
  have H := Lib.hid h
  clear h
  go_enter Tryd.func11, Tryd.ntmps11
  go_wp2_with (go_at_call 15; refine (bit_out B n i _ h1 hi).mono ?_; rintro e w' ⟨rfl, q, rfl⟩)
  go_ret
  exact ⟨rfl, H.out.drewN _, only_drawn _ _ _⟩

/-- Clear: i is taken out. -/
theorem clear_c (B A n i : Nat) (ws : List Nat) (w : World) (h : BM w B A n ws) (hi : i < n) (hyes : has ws i = true) :
    Calls Tryd.prog 10 #[.pointer (some ⟨B, 0, none⟩), .int .i64 i] w fun e w' => e = .returned (.bool true) ∧ ∃ ws', BM w' B A n ws' ∧ (∀ j, has ws' j = (has ws j && !decide (j = i))) ∧ w.grownBy w' (some A) := by
  have hr := h.room
  have ht := h.top
  have hil : i / 64 < ws.length := by omega
  have hx := h.words.getD (i / 64)
  obtain ⟨x, hxe⟩ : ∃ x, x = ws.getD (i / 64) 0 := ⟨_, rfl⟩
  have hc : w.cell? ⟨A, i / 64, none⟩ = some (.int .u64 (x : Int)) := by rw [hxe]; exact h.at_ hil
  have hf := h.fz (i / 64)
  have h0 := h.c0
  have h1 := h.c1
  have hnb : x.testBit (i % 64) = true := by rw [hxe]; exact hyes
  have hbl := bitv_lt (k := i % 64) (by omega)
  rw [← hxe] at hx
  have hand : (bits .and .u64 (x : Int) ((bitv (i % 64) : Nat) : Int) == 0) = false := by
    rw [u64_and_nat _ _ hx hbl]
    have := and_yes hnb
    simp
    omega
  obtain ⟨y, hy⟩ : ∃ y, y = x &&& (18446744073709551615 - bitv (i % 64)) := ⟨_, rfl⟩
  have hol : y < 18446744073709551616 := by rw [hy]; exact strike_lt hx
  have hor : bits .andNot .u64 (x : Int) ((bitv (i % 64) : Nat) : Int) = (y : Int) := by rw [hy]; exact u64_andNot_nat _ _ hx hbl
  have HX := Lib.hid hxe
  have H := Lib.hid h
  have HY := Lib.hid hy
  clear hxe h hnb hyes hy
  go_enter Tryd.func10, Tryd.ntmps10
  go_wp2_with (go_at_call 15; refine (bit_in B A ws.length n i _ h0 h1 hi ht hil).mono ?_; rintro e w' ⟨rfl, q, rfl⟩)
  go_ret
  have hs := has_strike ws i (hi := hil)
  rw [← HX.out, ← HY.out] at hs
  refine ⟨rfl, _, (H.out.drewN q).store (i / 64) hol (fun j hj => ?_), hs, only_set _ _ _ _ _⟩
  rw [hs] at hj
  exact H.out.ins j (Bool.and_eq_true_iff.1 hj).1
theorem clear_not (B A n i : Nat) (ws : List Nat) (w : World) (h : BM w B A n ws) (hi : i < n) (hno : has ws i = false) :
    Calls Tryd.prog 10 #[.pointer (some ⟨B, 0, none⟩), .int .i64 i] w fun e w' => e = .returned (.bool false) ∧ BM w' B A n ws ∧ w.grownBy w' (some A) := by
  have hr := h.room
  have ht := h.top
  have hil : i / 64 < ws.length := by omega
  have hx := h.words.getD (i / 64)
  obtain ⟨x, hxe⟩ : ∃ x, x = ws.getD (i / 64) 0 := ⟨_, rfl⟩
  have hc : w.cell? ⟨A, i / 64, none⟩ = some (.int .u64 (x : Int)) := by rw [hxe]; exact h.at_ hil
  have h0 := h.c0
  have h1 := h.c1
  have hnb : x.testBit (i % 64) = false := by rw [hxe]; exact hno
  have hbl := bitv_lt (k := i % 64) (by omega)
  rw [← hxe] at hx
  have hand : bits .and .u64 (x : Int) ((bitv (i % 64) : Nat) : Int) = 0 := by rw [u64_and_nat _ _ hx hbl, and_no hnb]; rfl
  have H := Lib.hid h
  clear hxe h hnb hno
  go_enter Tryd.func10, Tryd.ntmps10
  go_wp2_with (go_at_call 15; refine (bit_in B A ws.length n i _ h0 h1 hi ht hil).mono ?_; rintro e w' ⟨rfl, q, rfl⟩)
  go_ret
  exact ⟨rfl, H.out.drewN _, only_drawn _ _ _⟩

/-- Has. -/
theorem has_c (B A n i : Nat) (ws : List Nat) (w : World) (h : BM w B A n ws) (hi : i < n) :
    Calls Tryd.prog 13 #[.pointer (some ⟨B, 0, none⟩), .int .i64 i] w fun e w' => e = .returned (.bool (has ws i)) ∧ BM w' B A n ws ∧ w.grownBy w' (some A) := by
  have hr := h.room
  have ht := h.top
  have hil : i / 64 < ws.length := by omega
  have hx := h.words.getD (i / 64)
  obtain ⟨x, hxe⟩ : ∃ x, x = ws.getD (i / 64) 0 := ⟨_, rfl⟩
  have hc : w.cell? ⟨A, i / 64, none⟩ = some (.int .u64 (x : Int)) := by rw [hxe]; exact h.at_ hil
  have h0 := h.c0
  have h1 := h.c1
  have hbl := bitv_lt (k := i % 64) (by omega)
  rw [← hxe] at hx
  have H := Lib.hid h
  have hb : has ws i = x.testBit (i % 64) := by rw [hxe]; rfl
  rw [hb]
  clear hxe h hb
  cases hnb : x.testBit (i % 64) with
  | true =>
    have hand : (bits .and .u64 (x : Int) ((bitv (i % 64) : Nat) : Int) == 0) = false := by
      rw [u64_and_nat _ _ hx hbl]
      have := and_yes hnb
      simp
      omega
    have hne : (bits .and .u64 (x : Int) ((bitv (i % 64) : Nat) : Int) != 0) = true := by rw [bne, hand]; rfl
    clear hnb
    go_enter Tryd.func13, Tryd.ntmps13
    go_wp2_with (go_at_call 15; refine (bit_in B A ws.length n i _ h0 h1 hi ht hil).mono ?_; rintro e w' ⟨rfl, q, rfl⟩)
    go_ret
    exact ⟨rfl, H.out.drewN _, only_drawn _ _ _⟩
  | false =>
    have hand : bits .and .u64 (x : Int) ((bitv (i % 64) : Nat) : Int) = 0 := by rw [u64_and_nat _ _ hx hbl, and_no hnb]; rfl
    clear hnb
    go_enter Tryd.func13, Tryd.ntmps13
    go_wp2_with (go_at_call 15; refine (bit_in B A ws.length n i _ h0 h1 hi ht hil).mono ?_; rintro e w' ⟨rfl, q, rfl⟩)
    go_ret
    exact ⟨rfl, H.out.drewN _, only_drawn _ _ _⟩
theorem has_out (B A n : Nat) (i : Int) (ws : List Nat) (w : World) (h : BM w B A n ws) (hi : i < 0 ∨ n ≤ i) :
    Calls Tryd.prog 13 #[.pointer (some ⟨B, 0, none⟩), .int .i64 i] w fun e w' => e = .returned (.bool false) ∧ BM w' B A n ws ∧ w.grownBy w' (some A) := by
  have h1 := h.c1
  have H := Lib.hid h
  clear h
  go_enter Tryd.func13, Tryd.ntmps13
  go_wp2_with (go_at_call 15; refine (bit_out B n i _ h1 hi).mono ?_; rintro e w' ⟨rfl, q, rfl⟩)
  go_ret
  exact ⟨rfl, H.out.drewN _, only_drawn _ _ _⟩

/-- New. -/
theorem info40 : (Tryd.prog.info? 40).map (fun i => (i.zero, i.size, i.bytes)) = some (some (.int .u64 0), 1, 8) := by kernel_rfl
theorem made_words (k : Nat) : madeCells #[Value.int .u64 0] k = ((List.replicate k 0).map fun (x : Nat) => Value.int .u64 (x : Int)).toArray := by
  apply Array.ext
  · simp [size_madeCells]
  · intro i h1 h2
    simp [madeCells]
    rw [Nat.mod_one]
    rfl
theorem new_c (n : Nat) (w : World) (hn : n ≤ 65536) :
    Calls Tryd.prog 8 #[.int .i64 n] w fun e w' => e = .returned (.pointer (some ⟨w.heap.size + 1, 0, none⟩)) ∧ BM w' (w.heap.size + 1) w.heap.size n (List.replicate ((n + 63) / 64) 0) ∧ Below w.heap.size w w' := by
  have hmk := run_make_row' (P := Tryd.prog) 36 40 (.int .u64 0) 8 Tryd.underlying36 info40 rfl .i64 .i64 ((n + 63) / 64) (by omega) (by omega)
  have ec : (((n + 63) / 64 : Nat) : Int) = ((n : Int) + 64 - 1) / 64 := by omega
  simp only [ec] at hmk
  clear ec
  go_enter Tryd.func8, Tryd.ntmps8
  go_wp2
  go_ret
  refine ⟨rfl, ?_, ((Below.refl _ _).alloc (Nat.le_refl _) _).alloc (by simp) _⟩
  have hz : (w.alloc (.cells (madeCells #[Value.int .u64 0] ((n + 63) / 64)) 40)).heap.size = w.heap.size + 1 := World.size_alloc _ _
  refine ⟨?_, ?_, fun x hx => ?_, hn, ?_, fun i h => ?_⟩
  · have := heap_alloc_new (w.alloc (.cells (madeCells #[Value.int .u64 0] ((n + 63) / 64)) 40)) (.cells #[Value.slice (some ⟨w.heap.size, 0, none⟩) ((n + 63) / 64) ((n + 63) / 64), .int .i64 n] 38)
    rw [hz] at this
    simpa using this
  · rw [← made_words]
    exact (Below.heap_alloc _ _ _ (by rw [hz]; omega)).trans (heap_alloc_new w _)
  · rw [List.eq_of_mem_replicate hx]; omega
  · simp; omega
  · rw [has_none] at h; cases h
end Go.Proofs.YtlcibahafcaojaaDoor
