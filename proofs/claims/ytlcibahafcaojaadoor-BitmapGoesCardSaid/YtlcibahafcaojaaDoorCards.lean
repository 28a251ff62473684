/-
  DERIVED. GIVEN WITH THE SEED: THE CARDS: each row of YtlcibahafcaojaaDoorRows.lean that lists a variable, with what it lists TIED to the program's text (the seventh form; the later family's looks); each row that meets fmt, with fmt's text TOLD by the authors' own Lean function (tested against real Go, not proved from fmt's source: count such statements apart). THE CARD IS WHAT COUNTS. Prove the row's statement (the work); the ties are given (YtlcibahafcaojaaDoorTie.lean); close each card by the builder's one call (the guide's Derived/Test/ToyasCard.lean, 'card_holds'). Laid BY PROGRAM, IN A SANDBOX (cutbox-door.mjs). By AI agents, Wed Nov 11 2026. No macro, syntax, notation, axiom, sorry.
-/
import Derived.Test.YtlcibahafcaojaaDoorRows
import GoSem.ClaimSeven
namespace Go.Proofs.YtlcibahafcaojaaDoor
namespace Rows

/-- THE TIED CARD OF 'middenheaplaw03.BitmapGoes'. -/
def bitmapGoesCard : Claim7 := { stood := { row := bitmapGoesRow, standIns := [], harness := (true, "2d1c59158680fba63df0401fd2265925f9ff556d8f8c694342f28a51eeca9af7"), looks := false }, kinds := [], alts := [], laidByText := true, laidKinds := [.data], laidTests := true, laidLooks := .later }
def BitmapGoesCardSaid : Prop := Claim7.holds Tryd.pinned (.plain (OpenSpec.ofChange bitmapGoesSpec)) bitmapGoesCard

/-- THE TIED CARD OF 'middenheaplaw03.BitmapBound'. -/
def bitmapBoundCard : Claim7 := { stood := { row := bitmapBoundRow, standIns := [], harness := (true, "2d1c59158680fba63df0401fd2265925f9ff556d8f8c694342f28a51eeca9af7"), looks := false }, kinds := [], alts := [], laidByText := true, laidKinds := [.data], laidTests := true, laidLooks := .later }
def BitmapBoundCardSaid : Prop := Claim7.holds Tryd.pinned (.plain (OpenSpec.ofChange bitmapBoundSpec)) bitmapBoundCard

/-- THE TIED CARD OF 'middenheaplaw03.BitmapWhole'. -/
def bitmapWholeCard : Claim7 := { stood := { row := bitmapWholeRow, standIns := [], harness := (true, "2d1c59158680fba63df0401fd2265925f9ff556d8f8c694342f28a51eeca9af7"), looks := false }, kinds := [], alts := [], laidByText := true, laidKinds := [.data], laidTests := true, laidLooks := .later }
def BitmapWholeCardSaid : Prop := Claim7.holds Tryd.pinned (.plain (OpenSpec.ofChange bitmapWholeSpec)) bitmapWholeCard

/-- THE TIED CARD OF 'middenheaplaw03.BitmapClears'. -/
def bitmapClearsCard : Claim7 := { stood := { row := bitmapClearsRow, standIns := [], harness := (true, "2d1c59158680fba63df0401fd2265925f9ff556d8f8c694342f28a51eeca9af7"), looks := false }, kinds := [], alts := [], laidByText := true, laidKinds := [.data], laidTests := true, laidLooks := .later }
def BitmapClearsCardSaid : Prop := Claim7.holds Tryd.pinned (.plain (OpenSpec.ofChange bitmapClearsSpec)) bitmapClearsCard

/-- THE SECOND FORM's CARD OF 'middenheaplaw03.BitmapGoes'. -/
def bitmapGoesUptoCard : Claim7 := { stood := { row := bitmapGoesUptoRow, standIns := [], harness := (true, "2d1c59158680fba63df0401fd2265925f9ff556d8f8c694342f28a51eeca9af7"), looks := false }, kinds := [], alts := [], laidByText := true, laidKinds := [.data], laidTests := true, laidLooks := .later }
def BitmapGoesUptoCardSaid : Prop := Claim7.holds Tryd.pinned (.plain (OpenSpec.upto bitmapGoesSpec)) bitmapGoesUptoCard

/-- THE SECOND FORM's CARD OF 'middenheaplaw03.BitmapBound'. -/
def bitmapBoundUptoCard : Claim7 := { stood := { row := bitmapBoundUptoRow, standIns := [], harness := (true, "2d1c59158680fba63df0401fd2265925f9ff556d8f8c694342f28a51eeca9af7"), looks := false }, kinds := [], alts := [], laidByText := true, laidKinds := [.data], laidTests := true, laidLooks := .later }
def BitmapBoundUptoCardSaid : Prop := Claim7.holds Tryd.pinned (.plain (OpenSpec.upto bitmapBoundSpec)) bitmapBoundUptoCard

/-- THE SECOND FORM's CARD OF 'middenheaplaw03.BitmapWhole'. -/
def bitmapWholeUptoCard : Claim7 := { stood := { row := bitmapWholeUptoRow, standIns := [], harness := (true, "2d1c59158680fba63df0401fd2265925f9ff556d8f8c694342f28a51eeca9af7"), looks := false }, kinds := [], alts := [], laidByText := true, laidKinds := [.data], laidTests := true, laidLooks := .later }
def BitmapWholeUptoCardSaid : Prop := Claim7.holds Tryd.pinned (.plain (OpenSpec.upto bitmapWholeSpec)) bitmapWholeUptoCard

/-- THE SECOND FORM's CARD OF 'middenheaplaw03.BitmapClears'. -/
def bitmapClearsUptoCard : Claim7 := { stood := { row := bitmapClearsUptoRow, standIns := [], harness := (true, "2d1c59158680fba63df0401fd2265925f9ff556d8f8c694342f28a51eeca9af7"), looks := false }, kinds := [], alts := [], laidByText := true, laidKinds := [.data], laidTests := true, laidLooks := .later }
def BitmapClearsUptoCardSaid : Prop := Claim7.holds Tryd.pinned (.plain (OpenSpec.upto bitmapClearsSpec)) bitmapClearsUptoCard
end Rows
end Go.Proofs.YtlcibahafcaojaaDoor
