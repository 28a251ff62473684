/-
  PROVED: the contracts of package txlog's bound, New, note, Read and Keep (and of slices.Index and slices.Contains at []int under them). No condition but that the cells hold a log.
-/
import Derived.Test.YtbmedngnfkkhdaaRows
import Derived.Test.YtbmedngnfkkhdaaMem
import Derived.WalkKit
import Derived.Handy
import Derived.Deep.QuietTactic
import Derived.BigQuiet
import Derived.WalkLawsBesides
import Derived.WalkSpells
import Derived.Deep.RegionWith
import Derived.Deep.RegionLaw
import Derived.Deep.AppendLies
namespace Go.Proofs.Ytbmedngnfkkhdaa
open Go.RowKit

theorem infoInt : (Try.prog.info? 3).map (fun i => (i.zero, i.size, i.bytes)) = some (some (.int .i64 0), 1, 8) := by kernel_rfl

/-- What slices.Index tells: is it among them? -/
def Tells (R : List Int) (x : Int) (w : World) (e : Ending) (w' : World) : Prop := (∃ r : Int, e = .returned (.int .i64 r) ∧ decide (0 ≤ r) = R.contains x) ∧ w = w'
/-- slices.Index at []int. -/
theorem index_any (A : Option Addr) (c : Nat) (R : List Int) (x : Int) (w : World) (h : IntRow w A c R) :
    Calls Try.prog 32 #[.slice A R.length c, .int .i64 x] w (Tells R x w) := by
  have hbig := h.big
  unfold maxLen at hbig
  have H := Lib.hid h
  clear h
  go_enter Try.func32, Try.ntmps32
  go_wp2
  go_loop [8] (fun v => ∃ k : Nat, k ≤ R.length ∧ v = .int .i64 k ∧ ∀ j (hj : j < R.length), j < k → R[j] ≠ x) (fun v => R.length - (intOf v).toNat)
  case atStart => exact ⟨0, by omega, rfl, fun j _ h => by omega⟩
  case round =>
    obtain ⟨k, hk, rfl, hno⟩ := hrel
    have HNO := Lib.hid hno
    clear hno
    by_cases hlt : k < R.length
    · obtain ⟨g, rfl, _, hc⟩ := H.out.get hlt
      obtain ⟨y, hy⟩ : ∃ y, y = R[k] := ⟨_, rfl⟩
      rw [← hy] at hc
      by_cases he : x = y
      · subst he
        have HY := Lib.hid hy
        clear hy
        go_wp2
        go_ret
        refine ⟨⟨k, rfl, ?_⟩, rfl⟩
        rw [decide_eq_true (by omega), eq_comm, List.contains_iff_mem, HY.out]
        exact List.getElem_mem hlt
      · have HY := Lib.hid hy
        clear hy
        go_wp2
        go_round
        case rel =>
          refine ⟨k + 1, by omega, by go_num, fun j hj hjk => ?_⟩
          by_cases e : j = k
          · subst e
            rw [← HY.out]
            exact fun h => he h.symm
          · exact HNO.out j hj (by omega)
        case measure => simp [intOf]; omega
    · obtain rfl : R.length = k := by omega
      go_wp2
      go_ret
      refine ⟨⟨-1, rfl, ?_⟩, rfl⟩
      rw [decide_eq_false (by omega), eq_comm, ← Bool.not_eq_true, List.contains_iff_mem]
      intro hm
      obtain ⟨j, hj, e⟩ := List.getElem_of_mem hm
      exact HNO.out j hj hj e

theorem contains_any (A : Option Addr) (c : Nat) (R : List Int) (x : Int) (w : World) (h : IntRow w A c R) :
    Calls Try.prog 29 #[.slice A R.length c, .int .i64 x] w fun e w' => e = .returned (.bool (R.contains x)) ∧ w = w' := by
  have hi := index_any A c R x w h
  have HI := Lib.hid hi
  clear hi h
  go_enter Try.func29, Try.ntmps29
  go_wp2_with (go_at_call 32; refine HI.out.mono ?_; rintro e w' ⟨⟨r, rfl, hr⟩, rfl⟩; have HR := Lib.hid hr; clear hr)
  go_ret
  refine ⟨?_, rfl⟩
  rw [← HR.out]
  rfl

/-- What note leaves: the field at ⟨L, o⟩ holds a row longer by one. -/
structure Noted (w w' : World) (L o : Nat) (A : Option Addr) (R : List Int) (x : Int) (A' : Option Addr) (c' : Nat) : Prop where
  row : Row w' 3 1 A' (R.length + 1) c' (intCells (R ++ [x]))
  fld : ∀ cs t, w.heap[L]? = some (.cells cs t (0, 0)) → w'.heap[L]? = some (.cells (cs.setIfInBounds o (.slice A' (R.length + 1) c')) t (0, 0))
  only : Only (fun i => i = L ∨ rowOf A = some i) w w'
  new_ : ∀ k, rowOf A' = some k → rowOf A = some k ∨ w.heap.size ≤ k
  lt : ∀ k, rowOf A' = some k → k < w'.heap.size

theorem note_had (L o : Nat) (A : Option Addr) (c : Nat) (R : List Int) (x : Int) (m : Nat) (w : World) (h : IntRow w A c R) (hf : w.cell? ⟨L, o, none⟩ = some (.slice A R.length c)) (hx : R.contains x = true) :
    Calls Try.prog 22 #[.pointer (some ⟨L, o, none⟩), .int .i64 x, .int .i64 m] w fun e w' => e = .returned (.bool true) ∧ w = w' := by
  have hc := contains_any A c R x w h
  rw [hx] at hc
  have HC := Lib.hid hc
  clear hc h hx
  go_enter Try.func22, Try.ntmps22
  go_wp2_with (go_at_call 29; refine HC.out.mono ?_; rintro e w' ⟨rfl, rfl⟩)
  go_ret
  exact ⟨rfl, rfl⟩
theorem note_full (L o : Nat) (A : Option Addr) (c : Nat) (R : List Int) (x : Int) (m : Nat) (w : World) (h : IntRow w A c R) (hf : w.cell? ⟨L, o, none⟩ = some (.slice A R.length c)) (hx : R.contains x = false) (hm : m ≤ R.length) :
    Calls Try.prog 22 #[.pointer (some ⟨L, o, none⟩), .int .i64 x, .int .i64 m] w fun e w' => e = .returned (.bool false) ∧ w = w' := by
  have hc := contains_any A c R x w h
  rw [hx] at hc
  have HC := Lib.hid hc
  clear hc h hx
  go_enter Try.func22, Try.ntmps22
  go_wp2_with (go_at_call 29; refine HC.out.mono ?_; rintro e w' ⟨rfl, rfl⟩)
  go_ret
  exact ⟨rfl, rfl⟩
theorem one_new {w : World} {g : Nat} {u : Value} {t : TypeId} (h : w.heap[g]? = some (.cells #[u] t (0, 0))) : ∀ j v, [u][j]? = some v → w.cell? ((⟨g, 0, none⟩ : Addr).add j) = some v := by
  intro j v hj
  match j, hj with
  | 0, hj => simp at hj; subst hj; simp [Addr.add, World.cell?, h]
set_option maxHeartbeats 400000 in
theorem note_new (L o : Nat) (A : Option Addr) (c : Nat) (R : List Int) (x : Int) (m : Nat) (w : World) (h : IntRow w A c R) (hf : w.cell? ⟨L, o, none⟩ = some (.slice A R.length c)) (hfz : w.frozen? ⟨L, o, none⟩ = false) (hL : rowOf A ≠ some L) (hLt : L < w.heap.size)
    (hx : R.contains x = false) (hm : R.length < m) (hm2 : m ≤ 200) :
    Calls Try.prog 22 #[.pointer (some ⟨L, o, none⟩), .int .i64 x, .int .i64 m] w fun e w' => e = .returned (.bool true) ∧ ∃ A' c', Noted w w' L o A R x A' c' := by
  have hc := contains_any A c R x w h
  rw [hx] at hc
  have HC := Lib.hid hc
  have HR := Lib.hid h
  clear hc h hx
  obtain ⟨i0, hi, hz0, hz1, hz2⟩ := info_parts infoInt
  go_enter Try.func22, Try.ntmps22
  go_wp2_with (first
    | (go_at_call 29; refine HC.out.mono ?_; rintro e w' ⟨rfl, rfl⟩)
    | (at_builtin
       refine wpList_append_lies _ rfl _ _ 22 rfl 0 3 i0 (.int .i64 0) 1 8 Try.underlying22 hi hz0 hz1 hz2 rfl (by decide) (.slice A R.length c) R.length _ rfl (HR.out.alloc _) ⟨w.heap.size, 0, none⟩ 1 1 [.int .i64 x] rfl rfl (one_new (heap_alloc_new w _)) (by intro u hu; simp at hu; subst hu; rfl) (by decide) (by unfold maxLen; omega) (by omega) (Nat.zero_le _) (w.heap.size + 1) (by simp) ?_
       intro g c' w1 hown hgrow hat hlt
       have hbl := lies_block hgrow hL hLt
       have k0 := (World.cell?_of_block (a := ⟨L, o, none⟩) hbl).trans hf
       have k1 := (World.frozen?_of_block (a := ⟨L, o, none⟩) hbl).trans hfz
       have hgL := lies_ne hat hL (by omega)
       have HAT := Lib.hid hat
       have HG := Lib.hid hgL
       have HB := Lib.hid hbl
       clear hat hgL hbl))
  go_ret
  refine ⟨rfl, some ⟨g, 0, none⟩, c', ?_, ?_, ?_, ?_, ?_⟩
  · have := Row.far (w := w1) (p := ⟨L, o, none⟩) (E := 3) (size := 1) (A := some ⟨g, 0, none⟩) (n := R.length + 1) (c := c') (xs := intCells R ++ [Value.int .i64 x]) hown (by simpa [rowOf] using HG.out) (.slice (some ⟨g, 0, none⟩) (R.length + 1) c')
    simpa [intCells] using this
  · intro cs t hcs
    have : w1.heap[L]? = some (.cells cs t (0, 0)) := HB.out.trans hcs
    simp [World.setCell, Array.getElem?_modify, this]
  · refine (((Only.refl _ w).alloc _).grown hgrow (fun k hk => ?_)).setCell (.inl (.inl rfl)) _
    rw [ownBlock_slice] at hk
    exact .inl (.inr hk)
  · exact fun k hk => lies_new HAT.out (by omega) hk
  · intro k hk
    have e : g = k := by simpa [rowOf] using hk
    subst e
    simpa [World.setCell] using hlt
end Go.Proofs.Ytbmedngnfkkhdaa
