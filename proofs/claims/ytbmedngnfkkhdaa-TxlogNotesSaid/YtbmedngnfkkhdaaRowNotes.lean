/-
  PROVED: middenheaplaw13.TxlogNotes returns true for every two ints, every list of ints and every list of undos; nothing that was there is written. No condition.
-/
import Derived.Test.YtbmedngnfkkhdaaArgs
import Derived.Test.YtbmedngnfkkhdaaNotes
import Derived.Lib.SmallJoins
namespace Go.Proofs.Ytbmedngnfkkhdaa.txlogNotes
open Go.ChangeShapes Go.WideShapes Go.ChangeAt Go.RowKit Go.Deep

instance : Inhabited Un := ⟨⟨0, 0, 0, 0⟩⟩
theorem add_two (b o i j : Nat) : ((⟨b, o, none⟩ : Addr).add i).add j = ⟨b, o + i + j, none⟩ := by rw [add_plain, add_plain]
theorem uns_of {H : Type} {enc : TypeId × Value → H} {W : World} {a : Option Addr} {len cap : Nat} {d : DataW H} {p : List MemPlace}
    (h : DataW.Trod enc Try.prog W 0 (fun _ => true) true 31 (.slice a len cap) d p) : ∃ us : List Un, us.length = len ∧ InUns W a us := by
  obtain ⟨fuel, hf⟩ := h
  rcases open_slice Try.underlying31 hf with ⟨hcs, _⟩ | ⟨x, l, c, m, n, D, P, hcs, _, hl, hm, hmm, _, hi⟩
  · simp [Value.cells] at hcs
    obtain ⟨rfl, rfl, rfl⟩ := hcs
    exact ⟨[], rfl, by simp, fun h => by simp at h⟩
  · simp [Value.cells] at hcs
    obtain ⟨rfl, rfl, rfl⟩ := hcs
    have hml : len ≤ m := by rw [hmm]; simpa using hl
    have ce : Try.prog.cellsOf 34 = 4 := by kernel_rfl
    rw [ce] at hi
    have each : ∀ i, i < len → ∃ u : Un, W.cell? ((x.add (i * 4)).add 0) = some (.int .i64 u.kind) ∧ W.cell? ((x.add (i * 4)).add 1) = some (.int .i64 u.at_) ∧ W.cell? ((x.add (i * 4)).add 2) = some (.int .i64 u.i) ∧ W.cell? ((x.add (i * 4)).add 3) = some (.int .i64 u.old) := by
      intro i hil
      obtain ⟨cs', h1, h2⟩ := hi i (by omega)
      obtain ⟨_, hlen, hcell⟩ := World.cells?_some h1
      obtain ⟨y0, y1, y2, y3, k, _, _, g0, g1, g2, g3⟩ := Joins.trod_struct4 Try.underlying34 h2
      match cs', hlen with
      | [v0, v1, v2, v3], _ =>
        have c1 : Try.prog.cellsOf 3 = 1 := by kernel_rfl
        simp only [c1, List.drop, List.take] at g0 g1 g2 g3
        obtain ⟨k0, e0, _, _⟩ := DataW.trod_int Try.underlying3 g0
        obtain ⟨k1, e1, _, _⟩ := DataW.trod_int Try.underlying3 g1
        obtain ⟨k2, e2, _, _⟩ := DataW.trod_int Try.underlying3 g2
        obtain ⟨k3, e3, _, _⟩ := DataW.trod_int Try.underlying3 g3
        simp at e0 e1 e2 e3
        have q0 := hcell 0 (by omega)
        have q1 := hcell 1 (by omega)
        have q2 := hcell 2 (by omega)
        have q3 := hcell 3 (by omega)
        rw [e0, e1, e2, e3] at q0 q1 q2 q3
        exact ⟨⟨k0, k1, k2, k3⟩, by simpa using q0, by simpa using q1, by simpa using q2, by simpa using q3⟩
    obtain ⟨F, hF⟩ := choose_lt each
    refine ⟨(List.range len).map F, by simp, by simp; unfold maxLen at hm; omega, fun hpos => ?_⟩
    have hpos' : 0 < len := by simpa using hpos
    have h0 := (hF 0 hpos').1
    rw [Nat.zero_mul, add_zero, add_zero] at h0
    obtain ⟨hx, hxl⟩ := plain_of_cell h0
    refine ⟨x.block, x.off, by rw [← hx], hxl, fun i hil => ?_⟩
    have hil' : i < len := by simpa using hil
    obtain ⟨q0, q1, q2, q3⟩ := hF i hil'
    rw [hx, add_two] at q0 q1 q2 q3
    simp only [List.getElem_map, List.getElem_range]
    exact ⟨q0, q1, q2, q3⟩

set_option maxRecDepth 100000 in
theorem lifted (os : Os) (started : os.Started) (H : Type) (enc : TypeId × Value → H) :
    ReturnsInHanded {} Try.checked os 4 .any (Rows.txlogNotesSpec.pre6 enc Try.prog Try.f4 Rows.txlogNotesRow.domain false) (Rows.txlogNotesSpec.post enc Try.prog Try.f4 false true false false) := by
  refine returnsInHanded_of_change (C := Try.checked) own started (by kernel_rfl) Try.func4
    (ChangeSpec.witness6 (enc := enc) (C := Try.checked) false ⟨#[], #[.int .i64 0, .int .i64 0, .slice none 0 0, .slice none 0 0], []⟩ 8 (by kernel_rfl) (by kernel_rfl) (by kernel_rfl) (by kernel_rfl)) ?_
  intro W base args ds gs before hval0 hW hcnd _
  have hval : ∀ (j : Nat) t v, Try.f4.params[j]? = some t → args[j]? = some v → Value.okWide Try.prog W .any base t v := hval0
  have hW' := hW
  obtain ⟨p, q, hA0, hV, rfl, hfz, hnd⟩ := hW
  have hA : DataW.TrodAll enc Try.prog W 0 (fun _ => true) true Try.f4.params.toList args.toList ds p := hA0
  rw [Try.params4] at hA hval
  obtain ⟨v0, vs0, d0, ds0, p0, q0, hargs, rfl, rfl, h0, r0⟩ := trodAll_cons hA
  obtain ⟨v1, vs1, d1, ds1, p1, q1, hargs1, rfl, rfl, h1, r1⟩ := trodAll_cons r0
  obtain ⟨v2, vs2, d2, ds2, p2, q2, hargs2, rfl, rfl, h2, r2⟩ := trodAll_cons r1
  obtain ⟨v3, vs3, d3, ds3, p3, q3, hargs3, rfl, rfl, h3, r3⟩ := trodAll_cons r2
  obtain ⟨rfl, rfl, rfl⟩ := trodAll_nil r3
  subst hargs3
  subst hargs2
  subst hargs1
  obtain rfl : args = #[v0, v1, v2, v3] := by cases args; simp_all
  obtain ⟨rfl, rfl⟩ := trodVars_none hV
  obtain ⟨a0, rfl, rfl, rfl, w0⟩ := open_int Try.underlying3 (hval 0 3 v0 rfl rfl) h0
  obtain ⟨a1, rfl, rfl, rfl, w1⟩ := open_int Try.underlying3 (hval 1 3 v1 rfl rfl) h1
  have k2 := h2
  have lt2 : ∀ x ∈ p2, x.block < W.heap.size := by obtain ⟨m, hm⟩ := k2; exact DataW.trod_lt m _ _ _ hm
  have k3 := h3
  have lt3 : ∀ x ∈ p3, x.block < W.heap.size := by obtain ⟨m, hm⟩ := k3; exact DataW.trod_lt m _ _ _ hm
  obtain ⟨a2, len2, cap2, rfl⟩ := okWide_slice Try.underlying22 (hval 2 22 v2 rfl rfl)
  obtain ⟨a3, len3, cap3, rfl⟩ := okWide_slice Try.underlying31 (hval 3 31 v3 rfl rfl)
  obtain ⟨zs, rfl, hz⟩ := ints_of h2
  obtain ⟨us, rfl, hu⟩ := uns_of h3
  have hb := bounds_i64 w0
  have hb1 := bounds_i64 w1
  clear hA0 hval0
  simp only [List.append_nil, List.nil_append] at hW'
  refine (notes_walk a0 a1 a2 cap2 zs a3 cap3 us W hb.1 hb.2 hb1.1 hb1.2 hz hu).mono fun e W' ⟨he, bel⟩ => ?_
  subst he
  exact ⟨_, rfl, _, _, _, [], _, [], hW', trodAll_mk1 (shut_bool Try.underlying4 _), trodAll_cons_mk (shut_int Try.underlying3 w0) (trodAll_cons_mk (shut_int Try.underlying3 w1) (trodAll_cons_mk (Below.trod laidOut (by kernel_rfl) (of_decide_eq_true (by kernel_rfl)) k2 bel lt2) (trodAll_cons_mk (Below.trod laidOut (by kernel_rfl) (of_decide_eq_true (by kernel_rfl)) k3 bel lt3) trodAll_mk0))), rfl, bel.frame _, fun h => by cases h⟩

theorem over : Rows.txlogNotesRow.holds Try.pinned (OpenSpec.ofChange Rows.txlogNotesSpec) :=
  OpenClaim.holds_of_wide 4 Try.f4 rfl rfl rfl rfl rfl rfl rfl ⟨rfl, rfl, rfl, rfl, rfl⟩ rfl rfl rfl rfl rfl (by kernel_rfl) Try.func4 (by kernel_rfl)
    (of_decide_eq_true (by kernel_rfl)) (by unfold Func.isWrapper; first | (rw [if_pos (by decide +kernel)]; kernel_rfl) | (rw [if_neg (by decide +kernel)]; exact ⟨rfl, rfl⟩))
    (fun os started H enc _ => lifted os started H enc)

/-- THE STATEMENT. -/
theorem proved : Rows.TxlogNotesSaid := over
#print axioms proved
end Go.Proofs.Ytbmedngnfkkhdaa.txlogNotes
