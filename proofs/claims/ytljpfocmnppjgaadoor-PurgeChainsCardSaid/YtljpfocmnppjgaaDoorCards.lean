/-
  DERIVED. GIVEN WITH THE SEED: THE CARDS: each row of YtljpfocmnppjgaaDoorRows.lean that lists a variable, with what it lists TIED to the program's text (the seventh form; the later family's looks); each row that meets fmt, with fmt's text TOLD by the authors' own Lean function (tested against real Go, not proved from fmt's source: count such statements apart). THE CARD IS WHAT COUNTS. Prove the row's statement (the work); the ties are given (YtljpfocmnppjgaaDoorTie.lean); close each card by the builder's one call (the guide's Derived/Test/ToyasCard.lean, 'card_holds'). Laid BY PROGRAM, IN A SANDBOX (cutbox-door.mjs). By AI agents, Wed Nov 11 2026. No macro, syntax, notation, axiom, sorry.
-/
import Derived.Test.YtljpfocmnppjgaaDoorRows
import GoSem.ClaimSeven
namespace Go.Proofs.YtljpfocmnppjgaaDoor
namespace Rows

/-- THE TIED CARD OF 'jalousielaw32.PurgeTells'. -/
def purgeTellsCard : Claim7 := { stood := { row := purgeTellsRow, standIns := [], harness := (true, "1f9e93c3c77b205d1dc64604d0898847726a034bca88f5371536bf35e02ce88a"), looks := false }, kinds := [], alts := [], laidByText := true, laidKinds := [.data], laidTests := true, laidLooks := .later }
def PurgeTellsCardSaid : Prop := Claim7.holds Tryd.pinned (.plain (OpenSpec.ofChange purgeTellsSpec)) purgeTellsCard

/-- THE TIED CARD OF 'jalousielaw32.PurgeGrows'. -/
def purgeGrowsCard : Claim7 := { stood := { row := purgeGrowsRow, standIns := [], harness := (true, "1f9e93c3c77b205d1dc64604d0898847726a034bca88f5371536bf35e02ce88a"), looks := false }, kinds := [], alts := [], laidByText := true, laidKinds := [.data], laidTests := true, laidLooks := .later }
def PurgeGrowsCardSaid : Prop := Claim7.holds Tryd.pinned (.plain (OpenSpec.ofChange purgeGrowsSpec)) purgeGrowsCard

/-- THE TIED CARD OF 'jalousielaw32.PurgeChains'. -/
def purgeChainsCard : Claim7 := { stood := { row := purgeChainsRow, standIns := [], harness := (true, "1f9e93c3c77b205d1dc64604d0898847726a034bca88f5371536bf35e02ce88a"), looks := false }, kinds := [], alts := [], laidByText := true, laidKinds := [.data], laidTests := true, laidLooks := .later }
def PurgeChainsCardSaid : Prop := Claim7.holds Tryd.pinned (.plain (OpenSpec.ofChange purgeChainsSpec)) purgeChainsCard

/-- THE SECOND FORM's CARD OF 'jalousielaw32.PurgeTells'. -/
def purgeTellsUptoCard : Claim7 := { stood := { row := purgeTellsUptoRow, standIns := [], harness := (true, "1f9e93c3c77b205d1dc64604d0898847726a034bca88f5371536bf35e02ce88a"), looks := false }, kinds := [], alts := [], laidByText := true, laidKinds := [.data], laidTests := true, laidLooks := .later }
def PurgeTellsUptoCardSaid : Prop := Claim7.holds Tryd.pinned (.plain (OpenSpec.upto purgeTellsSpec)) purgeTellsUptoCard

/-- THE SECOND FORM's CARD OF 'jalousielaw32.PurgeGrows'. -/
def purgeGrowsUptoCard : Claim7 := { stood := { row := purgeGrowsUptoRow, standIns := [], harness := (true, "1f9e93c3c77b205d1dc64604d0898847726a034bca88f5371536bf35e02ce88a"), looks := false }, kinds := [], alts := [], laidByText := true, laidKinds := [.data], laidTests := true, laidLooks := .later }
def PurgeGrowsUptoCardSaid : Prop := Claim7.holds Tryd.pinned (.plain (OpenSpec.upto purgeGrowsSpec)) purgeGrowsUptoCard

/-- THE SECOND FORM's CARD OF 'jalousielaw32.PurgeChains'. -/
def purgeChainsUptoCard : Claim7 := { stood := { row := purgeChainsUptoRow, standIns := [], harness := (true, "1f9e93c3c77b205d1dc64604d0898847726a034bca88f5371536bf35e02ce88a"), looks := false }, kinds := [], alts := [], laidByText := true, laidKinds := [.data], laidTests := true, laidLooks := .later }
def PurgeChainsUptoCardSaid : Prop := Claim7.holds Tryd.pinned (.plain (OpenSpec.upto purgeChainsSpec)) purgeChainsUptoCard
end Rows
end Go.Proofs.YtljpfocmnppjgaaDoor
