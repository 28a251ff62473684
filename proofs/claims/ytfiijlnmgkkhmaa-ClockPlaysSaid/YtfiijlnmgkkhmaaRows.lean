/-
  No cell of these rows narrows 'for every input' (looked for: loops, veiled, ifaces, maps, wideKeys, modest, calm, conditions, laid).
  DERIVED. THE GIVEN ROWS OF THIS SEAT. 5 by the template 'for every input the law returns true; each argument reads behind the call as it read before'; 0 by the template 'total and deterministic' (their statements: YtfiijlnmgkkhmaaTotals.lean).
  GIVEN WITH THE SEED: the statements are not yours to turn. If you find one false, say at which input.
  Laid BY PROGRAM, IN A SANDBOX (cutbox-rows.mjs): the forced cells as the released guide's own fill.sh prints them over the translation c1e53cbd2eb77d0e… (all of the seat's roots in one cut). By AI agents, Wed Nov 11 2026. No macro, syntax, notation, axiom, sorry.
-/
import Derived.Test.YtfiijlnmgkkhmaaChecked
import GoSem.Claim
import GoSem.ClaimJoined
import GoSem.ClaimMapViews
import Derived.JoinedTies
import Derived.KernelRfl
namespace Go.Proofs.Ytfiijlnmgkkhmaa
/- THE CELL 'sum', in the pinned program and in every row, IS THE sha256 OF THE DUMP (.gsa) THAT YtfiijlnmgkkhmaaProg.lean LOADS. Nothing in Lean hashes anything: it is a label: what it is worth is what the hold of that sum in a sandbox is worth. -/
noncomputable def Try.pinned : Pinned := { name := "ytfiijlnmgkkhmaa", sum := "c1e53cbd2eb77d0e4c0b897a463c6ad1f12e9dcfb6febf13056ac13408e3bc16", checked := Try.checked }
namespace Rows
def none {H : Type} : Left H := { results := [], args := [] }

/-- 'middenheaplaw12.ClockPlays': WHATEVER THE INPUT: true; the input reads as it did. -/
def clockPlaysSpec : ChangeSpec := { name := "clockPlays", fn := fun _ => fun
  | [d1, d2, d3] => { results := [.lit (.bool true)], args := [d1, d2, d3] }
  | _ => none }
def clockPlaysRow : OpenClaim := { program := "ytfiijlnmgkkhmaa", sum := "c1e53cbd2eb77d0e4c0b897a463c6ad1f12e9dcfb6febf13056ac13408e3bc16", func := "middenheap/middenheaplaw12.ClockPlays", spec := "clockPlays", inPlace := ["sync/atomic.LoadInt64", "sync/atomic.AddInt64"], apart := false }
def ClockPlaysSaid : Prop := clockPlaysRow.holds Try.pinned (OpenSpec.ofChange clockPlaysSpec)

/-- ITS FALSE NEIGHBOUR: 'it returns false'. Refute it at one input. -/
def clockPlaysWrong : ChangeSpec := { name := "clockPlays", fn := fun _ => fun
  | [d1, d2, d3] => { results := [.lit (.bool false)], args := [d1, d2, d3] }
  | _ => none }
def ClockPlaysWrongFalsely : Prop := clockPlaysRow.holds Try.pinned (OpenSpec.ofChange clockPlaysWrong)

/-- 'middenheaplaw12.ClockGoes': WHATEVER THE INPUT: true; the input reads as it did. -/
def clockGoesSpec : ChangeSpec := { name := "clockGoes", fn := fun _ => fun
  | [d1, d2] => { results := [.lit (.bool true)], args := [d1, d2] }
  | _ => none }
def clockGoesRow : OpenClaim := { program := "ytfiijlnmgkkhmaa", sum := "c1e53cbd2eb77d0e4c0b897a463c6ad1f12e9dcfb6febf13056ac13408e3bc16", func := "middenheap/middenheaplaw12.ClockGoes", spec := "clockGoes", inPlace := ["sync/atomic.LoadInt64", "sync/atomic.AddInt64"], apart := false }
def ClockGoesSaid : Prop := clockGoesRow.holds Try.pinned (OpenSpec.ofChange clockGoesSpec)

/-- ITS FALSE NEIGHBOUR: 'it returns false'. Refute it at one input. -/
def clockGoesWrong : ChangeSpec := { name := "clockGoes", fn := fun _ => fun
  | [d1, d2] => { results := [.lit (.bool false)], args := [d1, d2] }
  | _ => none }
def ClockGoesWrongFalsely : Prop := clockGoesRow.holds Try.pinned (OpenSpec.ofChange clockGoesWrong)

/-- 'middenheaplaw12.ClockFar': WHATEVER THE INPUT: true; the input reads as it did. -/
def clockFarSpec : ChangeSpec := { name := "clockFar", fn := fun _ => fun
  | [d] => { results := [.lit (.bool true)], args := [d] }
  | _ => none }
def clockFarRow : OpenClaim := { program := "ytfiijlnmgkkhmaa", sum := "c1e53cbd2eb77d0e4c0b897a463c6ad1f12e9dcfb6febf13056ac13408e3bc16", func := "middenheap/middenheaplaw12.ClockFar", spec := "clockFar", inPlace := ["sync/atomic.LoadInt64", "sync/atomic.AddInt64"], apart := false }
def ClockFarSaid : Prop := clockFarRow.holds Try.pinned (OpenSpec.ofChange clockFarSpec)

/-- ITS FALSE NEIGHBOUR: 'it returns false'. Refute it at one input. -/
def clockFarWrong : ChangeSpec := { name := "clockFar", fn := fun _ => fun
  | [d] => { results := [.lit (.bool false)], args := [d] }
  | _ => none }
def ClockFarWrongFalsely : Prop := clockFarRow.holds Try.pinned (OpenSpec.ofChange clockFarWrong)

/-- 'middenheaplaw12.ClockMay': WHATEVER THE INPUT: true; the input reads as it did. -/
def clockMaySpec : ChangeSpec := { name := "clockMay", fn := fun _ => fun
  | [d1, d2, d3] => { results := [.lit (.bool true)], args := [d1, d2, d3] }
  | _ => none }
def clockMayRow : OpenClaim := { program := "ytfiijlnmgkkhmaa", sum := "c1e53cbd2eb77d0e4c0b897a463c6ad1f12e9dcfb6febf13056ac13408e3bc16", func := "middenheap/middenheaplaw12.ClockMay", spec := "clockMay", inPlace := ["sync/atomic.LoadInt64", "sync/atomic.AddInt64"], apart := false }
def ClockMaySaid : Prop := clockMayRow.holds Try.pinned (OpenSpec.ofChange clockMaySpec)

/-- ITS FALSE NEIGHBOUR: 'it returns false'. Refute it at one input. -/
def clockMayWrong : ChangeSpec := { name := "clockMay", fn := fun _ => fun
  | [d1, d2, d3] => { results := [.lit (.bool false)], args := [d1, d2, d3] }
  | _ => none }
def ClockMayWrongFalsely : Prop := clockMayRow.holds Try.pinned (OpenSpec.ofChange clockMayWrong)

/-- 'middenheaptop.Names': WHATEVER THE INPUT: true; the input reads as it did. -/
def namesSpec : ChangeSpec := { name := "names", fn := fun _ => fun
  | [] => { results := [.lit (.bool true)], args := [] }
  | _ => none }
def namesRow : OpenClaim := { program := "ytfiijlnmgkkhmaa", sum := "c1e53cbd2eb77d0e4c0b897a463c6ad1f12e9dcfb6febf13056ac13408e3bc16", func := "middenheap/middenheaptop.Names", spec := "names", apart := false }
def NamesSaid : Prop := namesRow.holds Try.pinned (OpenSpec.ofChange namesSpec)

/-- ITS FALSE NEIGHBOUR: 'it returns false'. Refute it at one input. -/
def namesWrong : ChangeSpec := { name := "names", fn := fun _ => fun
  | [] => { results := [.lit (.bool false)], args := [] }
  | _ => none }
def NamesWrongFalsely : Prop := namesRow.holds Try.pinned (OpenSpec.ofChange namesWrong)

/- THE SECOND FORM. 'bulk': how many values and letters a reading holds, each counted each time it is reached (what is shared counts as often as it is met; a slice's spare places count too). A statement '..UptoSaid' is the law's where the arguments, and the package variables that the reading takes, are together of bulk at most 1048576: NARROWER than '..Said'. Prove '..Said' where nothing that the law and all that it calls make is longer than what came in: it says more and counts as full. Else prove '..UptoSaid'. A law counts once. -/
mutual
def uptoBulk {H : Type} : DataW H → Nat
  | .lit (.string bytes) => bytes.length + 1
  | .lit _ => 1
  | .nil => 1
  | .ptr d => uptoBulk d + 1
  | .slice elems spare => uptoBulkAll elems + uptoBulkAll spare + 1
  | .agg parts => uptoBulkAll parts + 1
  | .iface _ d => uptoBulk d + 1
  | .map entries => uptoBulkEntries entries + 1
  | .held _ => 1
def uptoBulkAll {H : Type} : List (DataW H) → Nat
  | [] => 0
  | d :: r => uptoBulk d + uptoBulkAll r
def uptoBulkEntries {H : Type} : List (Lit × DataW H) → Nat
  | [] => 0
  | x :: r => uptoBulkEntry x + uptoBulkEntries r
def uptoBulkEntry {H : Type} : Lit × DataW H → Nat
  | (.string bytes, d) => bytes.length + uptoBulk d + 1
  | (_, d) => uptoBulk d + 1
 end
def uptoSmall : (H : Type) → List (DataW H) → Bool := fun _ ds => decide (uptoBulkAll ds ≤ 1048576)
def OpenSpec.upto (s : _root_.Go.ChangeSpec) : _root_.Go.OpenSpec := { _root_.Go.OpenSpec.ofChange s with cond := some uptoSmall }

/-- 'middenheaplaw12.ClockPlays', WHERE WHAT IT READS IS OF BULK AT MOST 1048576: true; the input reads as it did. -/
def clockPlaysUptoRow : OpenClaim := { program := "ytfiijlnmgkkhmaa", sum := "c1e53cbd2eb77d0e4c0b897a463c6ad1f12e9dcfb6febf13056ac13408e3bc16", func := "middenheap/middenheaplaw12.ClockPlays", spec := "clockPlays", inPlace := ["sync/atomic.LoadInt64", "sync/atomic.AddInt64"], apart := false, narrowed := true }
def ClockPlaysUptoSaid : Prop := clockPlaysUptoRow.holds Try.pinned (OpenSpec.upto clockPlaysSpec)

/-- 'middenheaplaw12.ClockGoes', WHERE WHAT IT READS IS OF BULK AT MOST 1048576: true; the input reads as it did. -/
def clockGoesUptoRow : OpenClaim := { program := "ytfiijlnmgkkhmaa", sum := "c1e53cbd2eb77d0e4c0b897a463c6ad1f12e9dcfb6febf13056ac13408e3bc16", func := "middenheap/middenheaplaw12.ClockGoes", spec := "clockGoes", inPlace := ["sync/atomic.LoadInt64", "sync/atomic.AddInt64"], apart := false, narrowed := true }
def ClockGoesUptoSaid : Prop := clockGoesUptoRow.holds Try.pinned (OpenSpec.upto clockGoesSpec)

/-- 'middenheaplaw12.ClockFar', WHERE WHAT IT READS IS OF BULK AT MOST 1048576: true; the input reads as it did. -/
def clockFarUptoRow : OpenClaim := { program := "ytfiijlnmgkkhmaa", sum := "c1e53cbd2eb77d0e4c0b897a463c6ad1f12e9dcfb6febf13056ac13408e3bc16", func := "middenheap/middenheaplaw12.ClockFar", spec := "clockFar", inPlace := ["sync/atomic.LoadInt64", "sync/atomic.AddInt64"], apart := false, narrowed := true }
def ClockFarUptoSaid : Prop := clockFarUptoRow.holds Try.pinned (OpenSpec.upto clockFarSpec)

/-- 'middenheaplaw12.ClockMay', WHERE WHAT IT READS IS OF BULK AT MOST 1048576: true; the input reads as it did. -/
def clockMayUptoRow : OpenClaim := { program := "ytfiijlnmgkkhmaa", sum := "c1e53cbd2eb77d0e4c0b897a463c6ad1f12e9dcfb6febf13056ac13408e3bc16", func := "middenheap/middenheaplaw12.ClockMay", spec := "clockMay", inPlace := ["sync/atomic.LoadInt64", "sync/atomic.AddInt64"], apart := false, narrowed := true }
def ClockMayUptoSaid : Prop := clockMayUptoRow.holds Try.pinned (OpenSpec.upto clockMaySpec)

/-- 'middenheaptop.Names', WHERE WHAT IT READS IS OF BULK AT MOST 1048576: true; the input reads as it did. -/
def namesUptoRow : OpenClaim := { program := "ytfiijlnmgkkhmaa", sum := "c1e53cbd2eb77d0e4c0b897a463c6ad1f12e9dcfb6febf13056ac13408e3bc16", func := "middenheap/middenheaptop.Names", spec := "names", apart := false, narrowed := true }
def NamesUptoSaid : Prop := namesUptoRow.holds Try.pinned (OpenSpec.upto namesSpec)

end Rows
end Go.Proofs.Ytfiijlnmgkkhmaa
