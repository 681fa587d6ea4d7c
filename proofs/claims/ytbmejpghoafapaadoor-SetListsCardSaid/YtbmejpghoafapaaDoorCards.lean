/-
  DERIVED. GIVEN WITH THE SEED: THE CARDS: each row of YtbmejpghoafapaaDoorRows.lean that lists a variable, with what it lists TIED to the program's text (the seventh form; the later family's looks); each row that meets fmt, with fmt's text TOLD by the authors' own Lean function (tested against real Go, not proved from fmt's source: count such statements apart). THE CARD IS WHAT COUNTS. Prove the row's statement (the work); the ties are given (YtbmejpghoafapaaDoorTie.lean); close each card by the builder's one call (the guide's Derived/Test/ToyasCard.lean, 'card_holds'). Laid BY PROGRAM, IN A SANDBOX (cutbox-door.mjs). By AI agents, Wed Nov 11 2026. No macro, syntax, notation, axiom, sorry.
-/
import Derived.Test.YtbmejpghoafapaaDoorRows
import GoSem.ClaimSeven
namespace Go.Proofs.YtbmejpghoafapaaDoor
namespace Rows

/-- THE TIED CARD OF 'bolterlaw02.ClassesMembers'. -/
def classesMembersCard : Claim7 := { stood := { row := classesMembersRow, standIns := [], harness := (true, "451873abfc22fdf015f9556e82267dadff52a153204b1dfd35a8c87941113ad8"), looks := false }, kinds := [], alts := [], laidByText := true, laidKinds := [.data], laidTests := true, laidLooks := .later }
def ClassesMembersCardSaid : Prop := Claim7.holds Tryd.pinned (.plain (OpenSpec.ofChange classesMembersSpec)) classesMembersCard

/-- THE TIED CARD OF 'bolterlaw01.SetLists'. -/
def setListsCard : Claim7 := { stood := { row := setListsRow, standIns := [], harness := (true, "451873abfc22fdf015f9556e82267dadff52a153204b1dfd35a8c87941113ad8"), looks := false }, kinds := [], alts := [], laidByText := true, laidKinds := [.data], laidTests := true, laidLooks := .later }
def SetListsCardSaid : Prop := Claim7.holds Tryd.pinned (.plain (OpenSpec.ofChange setListsSpec)) setListsCard

/-- THE SECOND FORM's CARD OF 'bolterlaw02.ClassesMembers'. -/
def classesMembersUptoCard : Claim7 := { stood := { row := classesMembersUptoRow, standIns := [], harness := (true, "451873abfc22fdf015f9556e82267dadff52a153204b1dfd35a8c87941113ad8"), looks := false }, kinds := [], alts := [], laidByText := true, laidKinds := [.data], laidTests := true, laidLooks := .later }
def ClassesMembersUptoCardSaid : Prop := Claim7.holds Tryd.pinned (.plain (OpenSpec.upto classesMembersSpec)) classesMembersUptoCard

/-- THE SECOND FORM's CARD OF 'bolterlaw01.SetLists'. -/
def setListsUptoCard : Claim7 := { stood := { row := setListsUptoRow, standIns := [], harness := (true, "451873abfc22fdf015f9556e82267dadff52a153204b1dfd35a8c87941113ad8"), looks := false }, kinds := [], alts := [], laidByText := true, laidKinds := [.data], laidTests := true, laidLooks := .later }
def SetListsUptoCardSaid : Prop := Claim7.holds Tryd.pinned (.plain (OpenSpec.upto setListsSpec)) setListsUptoCard
end Rows
end Go.Proofs.YtbmejpghoafapaaDoor
