/-
  DERIVED. GIVEN WITH THE SEED: THE CARDS: each row of YthdcblpadgdamaaGreatDoorRows.lean that lists a variable, with what it lists TIED to the program's text (the seventh form; the later family's looks); each row that meets fmt, with fmt's text TOLD by the authors' own Lean function (tested against real Go, not proved from fmt's source: count such statements apart). THE CARD IS WHAT COUNTS. Prove the row's statement (the work); the ties are given (YthdcblpadgdamaaGreatDoorTie.lean); close each card by the builder's one call (the guide's Derived/Test/ToyasCard.lean, 'card_holds'). Laid BY PROGRAM, IN A SANDBOX (cutbox-door.mjs). By AI agents, Wed Nov 11 2026. No macro, syntax, notation, axiom, sorry.
-/
import Derived.Test.YthdcblpadgdamaaGreatDoorRows
import GoSem.ClaimSeven
namespace Go.Proofs.YthdcblpadgdamaaGreatDoor
namespace Rows

/-- THE TIED CARD OF 'trystlaw20.ShelfLays'. -/
def shelfLaysCard : Claim7 := { stood := { row := shelfLaysRow, standIns := [], harness := (true, "721b33f52f3213cfda080bb7e3765eceac85db1d7b024be53e26374dea144954"), looks := false }, kinds := [], alts := [], laidByText := true, laidKinds := [.data, .data, .data], laidTests := true, laidLooks := .later }
def ShelfLaysCardSaid : Prop := Claim7.holds Tryz.pinned (.plain (OpenSpec.ofChange shelfLaysSpec)) shelfLaysCard

/-- THE TIED CARD OF 'trystlaw20.ShelfTakes'. -/
def shelfTakesCard : Claim7 := { stood := { row := shelfTakesRow, standIns := [], harness := (true, "721b33f52f3213cfda080bb7e3765eceac85db1d7b024be53e26374dea144954"), looks := false }, kinds := [], alts := [], laidByText := true, laidKinds := [.data, .data, .data], laidTests := true, laidLooks := .later }
def ShelfTakesCardSaid : Prop := Claim7.holds Tryz.pinned (.plain (OpenSpec.ofChange shelfTakesSpec)) shelfTakesCard

/-- THE TIED CARD OF 'trystlaw20.ShelfSame'. -/
def shelfSameCard : Claim7 := { stood := { row := shelfSameRow, standIns := [], harness := (true, "721b33f52f3213cfda080bb7e3765eceac85db1d7b024be53e26374dea144954"), looks := false }, kinds := [], alts := [], laidByText := true, laidKinds := [.data, .data, .data], laidTests := true, laidLooks := .later }
def ShelfSameCardSaid : Prop := Claim7.holds Tryz.pinned (.plain (OpenSpec.ofChange shelfSameSpec)) shelfSameCard

/-- THE TIED CARD OF 'trystlaw20.ShelfShort'. -/
def shelfShortCard : Claim7 := { stood := { row := shelfShortRow, standIns := [], harness := (true, "721b33f52f3213cfda080bb7e3765eceac85db1d7b024be53e26374dea144954"), looks := false }, kinds := [], alts := [], laidByText := true, laidKinds := [.data, .data, .data], laidTests := true, laidLooks := .later }
def ShelfShortCardSaid : Prop := Claim7.holds Tryz.pinned (.plain (OpenSpec.ofChange shelfShortSpec)) shelfShortCard

/-- THE SECOND FORM's CARD OF 'trystlaw20.ShelfLays'. -/
def shelfLaysUptoCard : Claim7 := { stood := { row := shelfLaysUptoRow, standIns := [], harness := (true, "721b33f52f3213cfda080bb7e3765eceac85db1d7b024be53e26374dea144954"), looks := false }, kinds := [], alts := [], laidByText := true, laidKinds := [.data, .data, .data], laidTests := true, laidLooks := .later }
def ShelfLaysUptoCardSaid : Prop := Claim7.holds Tryz.pinned (.plain (OpenSpec.upto shelfLaysSpec)) shelfLaysUptoCard

/-- THE SECOND FORM's CARD OF 'trystlaw20.ShelfTakes'. -/
def shelfTakesUptoCard : Claim7 := { stood := { row := shelfTakesUptoRow, standIns := [], harness := (true, "721b33f52f3213cfda080bb7e3765eceac85db1d7b024be53e26374dea144954"), looks := false }, kinds := [], alts := [], laidByText := true, laidKinds := [.data, .data, .data], laidTests := true, laidLooks := .later }
def ShelfTakesUptoCardSaid : Prop := Claim7.holds Tryz.pinned (.plain (OpenSpec.upto shelfTakesSpec)) shelfTakesUptoCard

/-- THE SECOND FORM's CARD OF 'trystlaw20.ShelfSame'. -/
def shelfSameUptoCard : Claim7 := { stood := { row := shelfSameUptoRow, standIns := [], harness := (true, "721b33f52f3213cfda080bb7e3765eceac85db1d7b024be53e26374dea144954"), looks := false }, kinds := [], alts := [], laidByText := true, laidKinds := [.data, .data, .data], laidTests := true, laidLooks := .later }
def ShelfSameUptoCardSaid : Prop := Claim7.holds Tryz.pinned (.plain (OpenSpec.upto shelfSameSpec)) shelfSameUptoCard

/-- THE SECOND FORM's CARD OF 'trystlaw20.ShelfShort'. -/
def shelfShortUptoCard : Claim7 := { stood := { row := shelfShortUptoRow, standIns := [], harness := (true, "721b33f52f3213cfda080bb7e3765eceac85db1d7b024be53e26374dea144954"), looks := false }, kinds := [], alts := [], laidByText := true, laidKinds := [.data, .data, .data], laidTests := true, laidLooks := .later }
def ShelfShortUptoCardSaid : Prop := Claim7.holds Tryz.pinned (.plain (OpenSpec.upto shelfShortSpec)) shelfShortUptoCard
end Rows
end Go.Proofs.YthdcblpadgdamaaGreatDoor
