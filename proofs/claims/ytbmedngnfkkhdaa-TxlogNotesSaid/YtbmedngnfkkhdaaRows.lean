/-
  No cell of these rows narrows 'for every input' (looked for: loops, veiled, ifaces, maps, wideKeys, modest, calm, conditions, laid).
  DERIVED. THE GIVEN ROWS OF THIS SEAT. 3 by the template 'for every input the law returns true; each argument reads behind the call as it read before'; 0 by the template 'total and deterministic' (their statements: YtbmedngnfkkhdaaTotals.lean).
  GIVEN WITH THE SEED: the statements are not yours to turn. If you find one false, say at which input.
  Laid BY PROGRAM, IN A SANDBOX (cutbox-rows.mjs): the forced cells as the released guide's own fill.sh prints them over the translation f319a201d3188f99… (all of the seat's roots in one cut). By AI agents, Wed Nov 11 2026. No macro, syntax, notation, axiom, sorry.
-/
import Derived.Test.YtbmedngnfkkhdaaChecked
import GoSem.Claim
import GoSem.ClaimJoined
import GoSem.ClaimMapViews
import Derived.JoinedTies
import Derived.KernelRfl
namespace Go.Proofs.Ytbmedngnfkkhdaa
/- THE CELL 'sum', in the pinned program and in every row, IS THE sha256 OF THE DUMP (.gsa) THAT YtbmedngnfkkhdaaProg.lean LOADS. Nothing in Lean hashes anything: it is a label: what it is worth is what the hold of that sum in a sandbox is worth. -/
noncomputable def Try.pinned : Pinned := { name := "ytbmedngnfkkhdaa", sum := "f319a201d3188f992bd1866c6b007e81000b01dfec3ec7d5e91a8b99f4de38a9", checked := Try.checked }
namespace Rows
def none {H : Type} : Left H := { results := [], args := [] }

/-- 'middenheaplaw13.TxlogKept': WHATEVER THE INPUT: true; the input reads as it did. -/
def txlogKeptSpec : ChangeSpec := { name := "txlogKept", fn := fun _ => fun
  | [d1, d2] => { results := [.lit (.bool true)], args := [d1, d2] }
  | _ => none }
def txlogKeptRow : OpenClaim := { program := "ytbmedngnfkkhdaa", sum := "f319a201d3188f992bd1866c6b007e81000b01dfec3ec7d5e91a8b99f4de38a9", func := "middenheap/middenheaplaw13.TxlogKept", spec := "txlogKept", unfollowed := true, recurses := true, apart := false }
def TxlogKeptSaid : Prop := txlogKeptRow.holds Try.pinned (OpenSpec.ofChange txlogKeptSpec)

/-- ITS FALSE NEIGHBOUR: 'it returns false'. Refute it at one input. -/
def txlogKeptWrong : ChangeSpec := { name := "txlogKept", fn := fun _ => fun
  | [d1, d2] => { results := [.lit (.bool false)], args := [d1, d2] }
  | _ => none }
def TxlogKeptWrongFalsely : Prop := txlogKeptRow.holds Try.pinned (OpenSpec.ofChange txlogKeptWrong)

/-- 'middenheaplaw13.TxlogNotes': WHATEVER THE INPUT: true; the input reads as it did. -/
def txlogNotesSpec : ChangeSpec := { name := "txlogNotes", fn := fun _ => fun
  | [d1, d2, d3, d4] => { results := [.lit (.bool true)], args := [d1, d2, d3, d4] }
  | _ => none }
def txlogNotesRow : OpenClaim := { program := "ytbmedngnfkkhdaa", sum := "f319a201d3188f992bd1866c6b007e81000b01dfec3ec7d5e91a8b99f4de38a9", func := "middenheap/middenheaplaw13.TxlogNotes", spec := "txlogNotes", unfollowed := true, recurses := true, apart := false }
def TxlogNotesSaid : Prop := txlogNotesRow.holds Try.pinned (OpenSpec.ofChange txlogNotesSpec)

/-- ITS FALSE NEIGHBOUR: 'it returns false'. Refute it at one input. -/
def txlogNotesWrong : ChangeSpec := { name := "txlogNotes", fn := fun _ => fun
  | [d1, d2, d3, d4] => { results := [.lit (.bool false)], args := [d1, d2, d3, d4] }
  | _ => none }
def TxlogNotesWrongFalsely : Prop := txlogNotesRow.holds Try.pinned (OpenSpec.ofChange txlogNotesWrong)

/-- 'middenheaplaw13.TxlogHolds': WHATEVER THE INPUT: true; the input reads as it did. -/
def txlogHoldsSpec : ChangeSpec := { name := "txlogHolds", fn := fun _ => fun
  | [d1, d2] => { results := [.lit (.bool true)], args := [d1, d2] }
  | _ => none }
def txlogHoldsRow : OpenClaim := { program := "ytbmedngnfkkhdaa", sum := "f319a201d3188f992bd1866c6b007e81000b01dfec3ec7d5e91a8b99f4de38a9", func := "middenheap/middenheaplaw13.TxlogHolds", spec := "txlogHolds", unfollowed := true, recurses := true, apart := false }
def TxlogHoldsSaid : Prop := txlogHoldsRow.holds Try.pinned (OpenSpec.ofChange txlogHoldsSpec)

/-- ITS FALSE NEIGHBOUR: 'it returns false'. Refute it at one input. -/
def txlogHoldsWrong : ChangeSpec := { name := "txlogHolds", fn := fun _ => fun
  | [d1, d2] => { results := [.lit (.bool false)], args := [d1, d2] }
  | _ => none }
def TxlogHoldsWrongFalsely : Prop := txlogHoldsRow.holds Try.pinned (OpenSpec.ofChange txlogHoldsWrong)

/- THE SECOND FORM. 'bulk': how many values and letters a reading holds, each counted each time it is reached (what is shared counts as often as it is met; a slice's spare places count too). A statement '..UptoSaid' is the law's where the arguments, and the package variables that the reading takes, are together of bulk at most 1048576: NARROWER than '..Said'. Prove '..Said' where nothing that the law and all that it calls make is longer than what came in: it says more and counts as full. Else prove '..UptoSaid'. A law counts once. -/
mutual
def uptoBulk {H : Type} : DataW H → Nat
  | .lit (.string bytes) => bytes.length + 1
  | .lit _ => 1
  | .nil => 1
  | .ptr d => uptoBulk d + 1
  | .slice elems spare => uptoBulkAll elems + uptoBulkAll spare + 1
  | .agg parts => uptoBulkAll parts + 1
  | .iface _ d => uptoBulk d + 1
  | .map entries => uptoBulkEntries entries + 1
  | .held _ => 1
def uptoBulkAll {H : Type} : List (DataW H) → Nat
  | [] => 0
  | d :: r => uptoBulk d + uptoBulkAll r
def uptoBulkEntries {H : Type} : List (Lit × DataW H) → Nat
  | [] => 0
  | x :: r => uptoBulkEntry x + uptoBulkEntries r
def uptoBulkEntry {H : Type} : Lit × DataW H → Nat
  | (.string bytes, d) => bytes.length + uptoBulk d + 1
  | (_, d) => uptoBulk d + 1
 end
def uptoSmall : (H : Type) → List (DataW H) → Bool := fun _ ds => decide (uptoBulkAll ds ≤ 1048576)
def OpenSpec.upto (s : _root_.Go.ChangeSpec) : _root_.Go.OpenSpec := { _root_.Go.OpenSpec.ofChange s with cond := some uptoSmall }

/-- 'middenheaplaw13.TxlogKept', WHERE WHAT IT READS IS OF BULK AT MOST 1048576: true; the input reads as it did. -/
def txlogKeptUptoRow : OpenClaim := { program := "ytbmedngnfkkhdaa", sum := "f319a201d3188f992bd1866c6b007e81000b01dfec3ec7d5e91a8b99f4de38a9", func := "middenheap/middenheaplaw13.TxlogKept", spec := "txlogKept", unfollowed := true, recurses := true, apart := false, narrowed := true }
def TxlogKeptUptoSaid : Prop := txlogKeptUptoRow.holds Try.pinned (OpenSpec.upto txlogKeptSpec)

/-- 'middenheaplaw13.TxlogNotes', WHERE WHAT IT READS IS OF BULK AT MOST 1048576: true; the input reads as it did. -/
def txlogNotesUptoRow : OpenClaim := { program := "ytbmedngnfkkhdaa", sum := "f319a201d3188f992bd1866c6b007e81000b01dfec3ec7d5e91a8b99f4de38a9", func := "middenheap/middenheaplaw13.TxlogNotes", spec := "txlogNotes", unfollowed := true, recurses := true, apart := false, narrowed := true }
def TxlogNotesUptoSaid : Prop := txlogNotesUptoRow.holds Try.pinned (OpenSpec.upto txlogNotesSpec)

/-- 'middenheaplaw13.TxlogHolds', WHERE WHAT IT READS IS OF BULK AT MOST 1048576: true; the input reads as it did. -/
def txlogHoldsUptoRow : OpenClaim := { program := "ytbmedngnfkkhdaa", sum := "f319a201d3188f992bd1866c6b007e81000b01dfec3ec7d5e91a8b99f4de38a9", func := "middenheap/middenheaplaw13.TxlogHolds", spec := "txlogHolds", unfollowed := true, recurses := true, apart := false, narrowed := true }
def TxlogHoldsUptoSaid : Prop := txlogHoldsUptoRow.holds Try.pinned (OpenSpec.upto txlogHoldsSpec)

end Rows
end Go.Proofs.Ytbmedngnfkkhdaa
