/-
  DERIVED. GIVEN WITH THE SEED: THE CARDS: each row of YtmapmeacjpoaoaaDoorRows.lean that lists a variable, with what it lists TIED to the program's text (the seventh form; the later family's looks); each row that meets fmt, with fmt's text TOLD by the authors' own Lean function (tested against real Go, not proved from fmt's source: count such statements apart). THE CARD IS WHAT COUNTS. Prove the row's statement (the work); the ties are given (YtmapmeacjpoaoaaDoorTie.lean); close each card by the builder's one call (the guide's Derived/Test/ToyasCard.lean, 'card_holds'). Laid BY PROGRAM, IN A SANDBOX (cutbox-door.mjs). By AI agents, Wed Nov 11 2026. No macro, syntax, notation, axiom, sorry.
-/
import Derived.Test.YtmapmeacjpoaoaaDoorRows
import GoSem.ClaimSeven
namespace Go.Proofs.YtmapmeacjpoaoaaDoor
namespace Rows

/-- THE TIED CARD OF 'jalousielaw32.PurgeModel'. -/
def purgeModelCard : Claim7 := { stood := { row := purgeModelRow, standIns := [], harness := (true, "2ec5f1dad515b626ca00abd54b0eeaa24ae94f1103ec7f85dd5b561d5565f39d"), looks := false }, kinds := [], alts := [], laidByText := true, laidKinds := [.data], laidTests := true, laidLooks := .later }
def PurgeModelCardSaid : Prop := Claim7.holds Tryd.pinned (.plain (OpenSpec.ofChange purgeModelSpec)) purgeModelCard

/-- THE SECOND FORM's CARD OF 'jalousielaw32.PurgeModel'. -/
def purgeModelUptoCard : Claim7 := { stood := { row := purgeModelUptoRow, standIns := [], harness := (true, "2ec5f1dad515b626ca00abd54b0eeaa24ae94f1103ec7f85dd5b561d5565f39d"), looks := false }, kinds := [], alts := [], laidByText := true, laidKinds := [.data], laidTests := true, laidLooks := .later }
def PurgeModelUptoCardSaid : Prop := Claim7.holds Tryd.pinned (.plain (OpenSpec.upto purgeModelSpec)) purgeModelUptoCard
end Rows
end Go.Proofs.YtmapmeacjpoaoaaDoor
