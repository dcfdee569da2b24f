/-
  DERIVED. GIVEN WITH THE SEED: THE CARDS: each row of YtpijehmhgjkkoaaDoorRows.lean that lists a variable, with what it lists TIED to the program's text (the seventh form; the later family's looks); each row that meets fmt, with fmt's text TOLD by the authors' own Lean function (tested against real Go, not proved from fmt's source: count such statements apart). THE CARD IS WHAT COUNTS. Prove the row's statement (the work); the ties are given (YtpijehmhgjkkoaaDoorTie.lean); close each card by the builder's one call (the guide's Derived/Test/ToyasCard.lean, 'card_holds'). Laid BY PROGRAM, IN A SANDBOX (cutbox-door.mjs). By AI agents, Wed Nov 11 2026. No macro, syntax, notation, axiom, sorry.
-/
import Derived.Test.YtpijehmhgjkkoaaDoorRows
import GoSem.ClaimSeven
namespace Go.Proofs.YtpijehmhgjkkoaaDoor
namespace Rows

/-- THE TIED CARD OF 'manciplelaw1.VerAny'. -/
def verAnyCard : Claim7 := { stood := { row := verAnyRow, standIns := [], harness := (true, "22eb9a4a591ec51f730d741aefba18d1574fd24d8b022d785b15060f865c39ab"), looks := true }, kinds := [], alts := [], laidByText := true, laidKinds := [.data, .pinned], laidTests := true, laidLooks := .later }
def VerAnyCardSaid : Prop := Claim7.holds Tryd.pinned (.plain (OpenSpec.ofChange verAnySpec)) verAnyCard

/-- THE TIED CARD OF 'manciplelaw1.VerPairs'. -/
def verPairsCard : Claim7 := { stood := { row := verPairsRow, standIns := [], harness := (true, "22eb9a4a591ec51f730d741aefba18d1574fd24d8b022d785b15060f865c39ab"), looks := true }, kinds := [], alts := [], laidByText := true, laidKinds := [.data, .pinned], laidTests := true, laidLooks := .later }
def VerPairsCardSaid : Prop := Claim7.holds Tryd.pinned (.plain (OpenSpec.ofChange verPairsSpec)) verPairsCard

/-- THE TIED CARD OF 'manciplelaw1.VerRows'. -/
def verRowsCard : Claim7 := { stood := { row := verRowsRow, standIns := [], harness := (true, "22eb9a4a591ec51f730d741aefba18d1574fd24d8b022d785b15060f865c39ab"), looks := true }, kinds := [], alts := [], laidByText := true, laidKinds := [.data, .pinned], laidTests := true, laidLooks := .later }
def VerRowsCardSaid : Prop := Claim7.holds Tryd.pinned (.plain (OpenSpec.ofChange verRowsSpec)) verRowsCard

/-- THE TIED CARD OF 'manciplelaw1.VerNumbers'. -/
def verNumbersCard : Claim7 := { stood := { row := verNumbersRow, standIns := [], harness := (true, "22eb9a4a591ec51f730d741aefba18d1574fd24d8b022d785b15060f865c39ab"), looks := true }, kinds := [], alts := [], laidByText := true, laidKinds := [.data, .pinned], laidTests := true, laidLooks := .later }
def VerNumbersCardSaid : Prop := Claim7.holds Tryd.pinned (.plain (OpenSpec.ofChange verNumbersSpec)) verNumbersCard

/-- THE TIED CARD OF 'manciplelaw1.VerMarks'. -/
def verMarksCard : Claim7 := { stood := { row := verMarksRow, standIns := [], harness := (true, "22eb9a4a591ec51f730d741aefba18d1574fd24d8b022d785b15060f865c39ab"), looks := true }, kinds := [], alts := [], laidByText := true, laidKinds := [.data, .pinned], laidTests := true, laidLooks := .later }
def VerMarksCardSaid : Prop := Claim7.holds Tryd.pinned (.plain (OpenSpec.ofChange verMarksSpec)) verMarksCard

/-- THE SECOND FORM's CARD OF 'manciplelaw1.VerAny'. -/
def verAnyUptoCard : Claim7 := { stood := { row := verAnyUptoRow, standIns := [], harness := (true, "22eb9a4a591ec51f730d741aefba18d1574fd24d8b022d785b15060f865c39ab"), looks := true }, kinds := [], alts := [], laidByText := true, laidKinds := [.data, .pinned], laidTests := true, laidLooks := .later }
def VerAnyUptoCardSaid : Prop := Claim7.holds Tryd.pinned (.plain (OpenSpec.upto verAnySpec)) verAnyUptoCard

/-- THE SECOND FORM's CARD OF 'manciplelaw1.VerPairs'. -/
def verPairsUptoCard : Claim7 := { stood := { row := verPairsUptoRow, standIns := [], harness := (true, "22eb9a4a591ec51f730d741aefba18d1574fd24d8b022d785b15060f865c39ab"), looks := true }, kinds := [], alts := [], laidByText := true, laidKinds := [.data, .pinned], laidTests := true, laidLooks := .later }
def VerPairsUptoCardSaid : Prop := Claim7.holds Tryd.pinned (.plain (OpenSpec.upto verPairsSpec)) verPairsUptoCard

/-- THE SECOND FORM's CARD OF 'manciplelaw1.VerRows'. -/
def verRowsUptoCard : Claim7 := { stood := { row := verRowsUptoRow, standIns := [], harness := (true, "22eb9a4a591ec51f730d741aefba18d1574fd24d8b022d785b15060f865c39ab"), looks := true }, kinds := [], alts := [], laidByText := true, laidKinds := [.data, .pinned], laidTests := true, laidLooks := .later }
def VerRowsUptoCardSaid : Prop := Claim7.holds Tryd.pinned (.plain (OpenSpec.upto verRowsSpec)) verRowsUptoCard

/-- THE SECOND FORM's CARD OF 'manciplelaw1.VerNumbers'. -/
def verNumbersUptoCard : Claim7 := { stood := { row := verNumbersUptoRow, standIns := [], harness := (true, "22eb9a4a591ec51f730d741aefba18d1574fd24d8b022d785b15060f865c39ab"), looks := true }, kinds := [], alts := [], laidByText := true, laidKinds := [.data, .pinned], laidTests := true, laidLooks := .later }
def VerNumbersUptoCardSaid : Prop := Claim7.holds Tryd.pinned (.plain (OpenSpec.upto verNumbersSpec)) verNumbersUptoCard

/-- THE SECOND FORM's CARD OF 'manciplelaw1.VerMarks'. -/
def verMarksUptoCard : Claim7 := { stood := { row := verMarksUptoRow, standIns := [], harness := (true, "22eb9a4a591ec51f730d741aefba18d1574fd24d8b022d785b15060f865c39ab"), looks := true }, kinds := [], alts := [], laidByText := true, laidKinds := [.data, .pinned], laidTests := true, laidLooks := .later }
def VerMarksUptoCardSaid : Prop := Claim7.holds Tryd.pinned (.plain (OpenSpec.upto verMarksSpec)) verMarksUptoCard
end Rows
end Go.Proofs.YtpijehmhgjkkoaaDoor
