/-
  PROVED: a slice of ops that came in reads as a list of pairs; each is in memory that was there. No condition.
-/
import Derived.Test.YtlcibahafcaojaaDoorCounts
import Derived.ProofKit
import Derived.OpenShut
import Derived.Deep.SlicePairs
namespace Go.Proofs.YtlcibahafcaojaaDoor
open Go.ChangeShapes Go.WideShapes Go.ChangeAt Go.RowKit Go.Deep

/-- The slice value at a, of len elements, holds these ops. -/
structure Ops (w : World) (a : Option Addr) (len : Nat) (ops : List (Bool × Int)) : Prop where
  size : ops.length = len
  big : len ≤ 9223372036854775807
  at_ : 0 < len → ∃ b off, a = some ⟨b, off, none⟩ ∧ b < w.heap.size ∧ ∀ i, i < len → w.cell? ⟨b, off + i * 2, none⟩ = some (.bool (ops.getD i (false, 0)).1) ∧ w.cell? ⟨b, off + i * 2 + 1, none⟩ = some (.int .i64 (ops.getD i (false, 0)).2) ∧
    -9223372036854775808 ≤ (ops.getD i (false, 0)).2 ∧ (ops.getD i (false, 0)).2 ≤ 9223372036854775807

def boolOf : Value → Bool | .bool b => b | _ => false
theorem ops_of {H : Type} {enc : TypeId × Value → H} {W : World} {a : Option Addr} {len cap : Nat} {d : DataW H} {p : List MemPlace}
    (h : DataW.Trod enc Tryd.prog W 0 (fun _ => true) true 22 (.slice a len cap) d p) : ∃ ops, Ops W a len ops := by
  obtain ⟨fuel, hf⟩ := h
  rcases open_slice_pairs Tryd.underlying22 Tryd.underlying29 (by kernel_rfl) rfl rfl (by kernel_rfl) (by kernel_rfl) hf with ⟨hcs, _⟩ | ⟨x, l, c, m, n, V0, V1, D0, D1, P0, P1, hcs, _, hl, hm, hmm, _, hi⟩
  · simp [Value.cells] at hcs
    obtain ⟨rfl, rfl, rfl⟩ := hcs
    exact ⟨[], rfl, by omega, fun h => by omega⟩
  · simp [Value.cells] at hcs
    obtain ⟨rfl, rfl, rfl⟩ := hcs
    have hml : len ≤ m := by rw [hmm]; simpa using hl
    have hv : ∀ i, i < len → V0 i = .bool (boolOf (V0 i)) ∧ V1 i = .int .i64 (intOf (V1 i)) ∧ -9223372036854775808 ≤ intOf (V1 i) ∧ intOf (V1 i) ≤ 9223372036854775807 := fun i hil => by
      obtain ⟨_, _, h0, h1⟩ := hi i (by omega)
      obtain ⟨b, e0, _⟩ := DataW.trod_bool Tryd.underlying4 h0
      obtain ⟨k, e1, _, wk⟩ := DataW.trod_int Tryd.underlying3 h1
      simp at e0 e1
      have := bounds_i64 wk
      refine ⟨by rw [e0]; rfl, by rw [e1]; rfl, by rw [e1]; exact this.1, by rw [e1]; exact this.2⟩
    refine ⟨(List.range len).map fun i => (boolOf (V0 i), intOf (V1 i)), by simp, ?_, fun hpos => ?_⟩
    · unfold maxLen at hm; omega
    · obtain ⟨b, off, spot⟩ := x
      have hc0 := (hi 0 (by omega)).1
      have hspot : spot = none := by simpa [Addr.add] using World.cell?_spot hc0
      subst hspot
      refine ⟨b, off, rfl, ?_, fun i hil => ?_⟩
      · have hc : W.cell? ⟨b, off, none⟩ = some (V0 0) := by simpa [Addr.add] using hc0
        unfold World.cell? at hc
        rcases Nat.lt_or_ge b W.heap.size with hlt | hge
        · exact hlt
        · rw [Array.getElem?_eq_none hge] at hc
          cases hc
      · have hg : ((List.range len).map fun i => (boolOf (V0 i), intOf (V1 i))).getD i (false, 0) = (boolOf (V0 i), intOf (V1 i)) := by
          rw [List.getD_eq_getElem?_getD, List.getElem?_map, List.getElem?_range hil]
          rfl
        rw [hg]
        obtain ⟨e0, e1, _, _⟩ := hi i (by omega)
        obtain ⟨f0, f1, f2, f3⟩ := hv i hil
        rw [f0] at e0
        rw [f1] at e1
        have ad : ∀ k, (Addr.add ⟨b, off, none⟩ k) = ⟨b, off + k, none⟩ := fun k => by
          unfold Addr.add
          split
          · simp
          · rfl
        rw [ad] at e0 e1
        exact ⟨e0, e1, f2, f3⟩
end Go.Proofs.YtlcibahafcaojaaDoor
