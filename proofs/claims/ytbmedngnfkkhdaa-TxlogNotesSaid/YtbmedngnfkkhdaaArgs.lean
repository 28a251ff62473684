/-
  PROVED: what a list of ints that came in looks like in the cells. No condition.
-/
import Derived.Test.YtbmedngnfkkhdaaKept
import Derived.ProofKit
import Derived.OpenShut
import Derived.Carry
import Derived.Deep.SlicePairs
namespace Go.Proofs.Ytbmedngnfkkhdaa
open Go.ChangeShapes Go.WideShapes Go.ChangeAt Go.RowKit Go.Deep

theorem own : ownKnob Try.prog.godebug = none := by kernel_rfl
theorem laidOut : laidOutB Try.prog = true := by kernel_rfl
theorem plain_of_cell {W : World} {x : Addr} {v : Value} (h : W.cell? x = some v) : x = ⟨x.block, x.off, none⟩ ∧ x.block < W.heap.size := by
  have hs : x.spot = none := World.cell?_spot h
  refine ⟨by cases x; simp_all, ?_⟩
  unfold World.cell? at h
  rcases Nat.lt_or_ge x.block W.heap.size with hlt | hge
  · exact hlt
  · rw [Array.getElem?_eq_none hge] at h
    simp at h
theorem add_plain (b o i : Nat) : (⟨b, o, none⟩ : Addr).add i = ⟨b, o + i, none⟩ := by unfold Addr.add; split <;> simp_all
theorem add_zero (x : Addr) : x.add 0 = x := by unfold Addr.add; split <;> simp_all
theorem ints_of {H : Type} {enc : TypeId × Value → H} {W : World} {a : Option Addr} {len cap : Nat} {d : DataW H} {p : List MemPlace}
    (h : DataW.Trod enc Try.prog W 0 (fun _ => true) true 22 (.slice a len cap) d p) : ∃ zs : List Int, zs.length = len ∧ InInts W a zs := by
  obtain ⟨fuel, hf⟩ := h
  rcases open_slice1 Try.underlying22 (by kernel_rfl) hf with ⟨hcs, _⟩ | ⟨x, l, c, m, n, V, D, P, hcs, _, hl, hm, hmm, _, hi⟩
  · simp [Value.cells] at hcs
    obtain ⟨rfl, rfl, rfl⟩ := hcs
    exact ⟨[], rfl, by simp, fun h => by simp at h⟩
  · simp [Value.cells] at hcs
    obtain ⟨rfl, rfl, rfl⟩ := hcs
    have hml : len ≤ m := by rw [hmm]; simpa using hl
    have hv : ∀ i, i < len → V i = .int .i64 (intOf (V i)) := fun i hil => by
      obtain ⟨_, h0⟩ := hi i (by omega)
      obtain ⟨k, e1, _, _⟩ := DataW.trod_int Try.underlying3 h0
      simp at e1
      rw [e1]
      rfl
    refine ⟨(List.range len).map fun i => intOf (V i), by simp, by simp; unfold maxLen at hm; omega, fun hpos => ?_⟩
    have hpos' : 0 < len := by simpa using hpos
    have h0 := (hi 0 (by omega)).1
    rw [add_zero] at h0
    obtain ⟨hx, hxl⟩ := plain_of_cell h0
    refine ⟨x.block, x.off, by rw [← hx], hxl, fun i hil => ?_⟩
    have hil' : i < len := by simpa using hil
    have hci := (hi i (by omega)).1
    rw [hx, add_plain, hv i hil'] at hci
    simpa using hci
end Go.Proofs.Ytbmedngnfkkhdaa
