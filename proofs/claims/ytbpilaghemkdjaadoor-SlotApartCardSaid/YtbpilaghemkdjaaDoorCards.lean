/-
  DERIVED. GIVEN WITH THE SEED: THE CARDS: each row of YtbpilaghemkdjaaDoorRows.lean that lists a variable, with what it lists TIED to the program's text (the seventh form; the later family's looks); each row that meets fmt, with fmt's text TOLD by the authors' own Lean function (tested against real Go, not proved from fmt's source: count such statements apart). THE CARD IS WHAT COUNTS. Prove the row's statement (the work); the ties are given (YtbpilaghemkdjaaDoorTie.lean); close each card by the builder's one call (the guide's Derived/Test/ToyasCard.lean, 'card_holds'). Laid BY PROGRAM, IN A SANDBOX (cutbox-door.mjs). By AI agents, Wed Nov 11 2026. No macro, syntax, notation, axiom, sorry.
-/
import Derived.Test.YtbpilaghemkdjaaDoorRows
import GoSem.ClaimSeven
namespace Go.Proofs.YtbpilaghemkdjaaDoor
namespace Rows

/-- THE TIED CARD OF 'keepsakelaw06.SlotBack'. -/
def slotBackCard : Claim7 := { stood := { row := slotBackRow, standIns := [], harness := (true, "286cfe8a6d390c54ff701b75c4d15572c59fbe76a01d06601093e04ee5e91cc0"), looks := false }, kinds := [], alts := [], laidByText := true, laidKinds := [.data], laidTests := true, laidLooks := .later }
def SlotBackCardSaid : Prop := Claim7.holds Tryd.pinned (.plain (OpenSpec.ofChange slotBackSpec)) slotBackCard

/-- THE TIED CARD OF 'keepsakelaw06.SlotApart'. -/
def slotApartCard : Claim7 := { stood := { row := slotApartRow, standIns := [], harness := (true, "286cfe8a6d390c54ff701b75c4d15572c59fbe76a01d06601093e04ee5e91cc0"), looks := false }, kinds := [], alts := [], laidByText := true, laidKinds := [.data], laidTests := true, laidLooks := .later }
def SlotApartCardSaid : Prop := Claim7.holds Tryd.pinned (.plain (OpenSpec.ofChange slotApartSpec)) slotApartCard

/-- THE SECOND FORM's CARD OF 'keepsakelaw06.SlotBack'. -/
def slotBackUptoCard : Claim7 := { stood := { row := slotBackUptoRow, standIns := [], harness := (true, "286cfe8a6d390c54ff701b75c4d15572c59fbe76a01d06601093e04ee5e91cc0"), looks := false }, kinds := [], alts := [], laidByText := true, laidKinds := [.data], laidTests := true, laidLooks := .later }
def SlotBackUptoCardSaid : Prop := Claim7.holds Tryd.pinned (.plain (OpenSpec.upto slotBackSpec)) slotBackUptoCard

/-- THE SECOND FORM's CARD OF 'keepsakelaw06.SlotApart'. -/
def slotApartUptoCard : Claim7 := { stood := { row := slotApartUptoRow, standIns := [], harness := (true, "286cfe8a6d390c54ff701b75c4d15572c59fbe76a01d06601093e04ee5e91cc0"), looks := false }, kinds := [], alts := [], laidByText := true, laidKinds := [.data], laidTests := true, laidLooks := .later }
def SlotApartUptoCardSaid : Prop := Claim7.holds Tryd.pinned (.plain (OpenSpec.upto slotApartSpec)) slotApartUptoCard
end Rows
end Go.Proofs.YtbpilaghemkdjaaDoor
