/-
  DERIVED. GIVEN WITH THE SEED: THE CARDS: each row of YtgbogkmbgedkkaaDoorRows.lean that lists a variable, with what it lists TIED to the program's text (the seventh form; the later family's looks); each row that meets fmt, with fmt's text TOLD by the authors' own Lean function (tested against real Go, not proved from fmt's source: count such statements apart). THE CARD IS WHAT COUNTS. Prove the row's statement (the work); the ties are given (YtgbogkmbgedkkaaDoorTie.lean); close each card by the builder's one call (the guide's Derived/Test/ToyasCard.lean, 'card_holds'). Laid BY PROGRAM, IN A SANDBOX (cutbox-door.mjs). By AI agents, Wed Nov 11 2026. No macro, syntax, notation, axiom, sorry.
-/
import Derived.Test.YtgbogkmbgedkkaaDoorRows
import GoSem.ClaimSeven
namespace Go.Proofs.YtgbogkmbgedkkaaDoor
namespace Rows

/-- THE TIED CARD OF 'bloomerylaw04.GlobsMatch'. -/
def globsMatchCard : Claim7 := { stood := { row := globsMatchRow, standIns := [], harness := (true, "f1355223706724004984e95edb2f3621ae7583bf42aa4dc52a11fef6b5463b52"), looks := false }, kinds := [], alts := [], laidByText := true, laidKinds := [.data, .pinned], laidTests := true, laidLooks := .later }
def GlobsMatchCardSaid : Prop := Claim7.holds Tryd.pinned (.plain (OpenSpec.ofChange globsMatchSpec)) globsMatchCard

/-- THE TIED CARD OF 'bloomerylaw04.GlobsBelow'. -/
def globsBelowCard : Claim7 := { stood := { row := globsBelowRow, standIns := [], harness := (true, "f1355223706724004984e95edb2f3621ae7583bf42aa4dc52a11fef6b5463b52"), looks := false }, kinds := [], alts := [], laidByText := true, laidKinds := [.data, .pinned], laidTests := true, laidLooks := .later }
def GlobsBelowCardSaid : Prop := Claim7.holds Tryd.pinned (.plain (OpenSpec.ofChange globsBelowSpec)) globsBelowCard

/-- THE TIED CARD OF 'bloomerylaw04.GlobsFixed'. -/
def globsFixedCard : Claim7 := { stood := { row := globsFixedRow, standIns := [], harness := (true, "f1355223706724004984e95edb2f3621ae7583bf42aa4dc52a11fef6b5463b52"), looks := false }, kinds := [], alts := [], laidByText := true, laidKinds := [.data, .pinned], laidTests := true, laidLooks := .later }
def GlobsFixedCardSaid : Prop := Claim7.holds Tryd.pinned (.plain (OpenSpec.ofChange globsFixedSpec)) globsFixedCard

/-- THE TIED CARD OF 'bloomerylaw04.GlobsPick'. -/
def globsPickCard : Claim7 := { stood := { row := globsPickRow, standIns := [], harness := (true, "f1355223706724004984e95edb2f3621ae7583bf42aa4dc52a11fef6b5463b52"), looks := false }, kinds := [], alts := [], laidByText := true, laidKinds := [.data, .pinned], laidTests := true, laidLooks := .later }
def GlobsPickCardSaid : Prop := Claim7.holds Tryd.pinned (.plain (OpenSpec.ofChange globsPickSpec)) globsPickCard

/-- THE TIED CARD OF 'bloomerylaw04.GlobsSets'. -/
def globsSetsCard : Claim7 := { stood := { row := globsSetsRow, standIns := [], harness := (true, "f1355223706724004984e95edb2f3621ae7583bf42aa4dc52a11fef6b5463b52"), looks := false }, kinds := [], alts := [], laidByText := true, laidKinds := [.data, .pinned], laidTests := true, laidLooks := .later }
def GlobsSetsCardSaid : Prop := Claim7.holds Tryd.pinned (.plain (OpenSpec.ofChange globsSetsSpec)) globsSetsCard

/-- THE SECOND FORM's CARD OF 'bloomerylaw04.GlobsMatch'. -/
def globsMatchUptoCard : Claim7 := { stood := { row := globsMatchUptoRow, standIns := [], harness := (true, "f1355223706724004984e95edb2f3621ae7583bf42aa4dc52a11fef6b5463b52"), looks := false }, kinds := [], alts := [], laidByText := true, laidKinds := [.data, .pinned], laidTests := true, laidLooks := .later }
def GlobsMatchUptoCardSaid : Prop := Claim7.holds Tryd.pinned (.plain (OpenSpec.upto globsMatchSpec)) globsMatchUptoCard

/-- THE SECOND FORM's CARD OF 'bloomerylaw04.GlobsBelow'. -/
def globsBelowUptoCard : Claim7 := { stood := { row := globsBelowUptoRow, standIns := [], harness := (true, "f1355223706724004984e95edb2f3621ae7583bf42aa4dc52a11fef6b5463b52"), looks := false }, kinds := [], alts := [], laidByText := true, laidKinds := [.data, .pinned], laidTests := true, laidLooks := .later }
def GlobsBelowUptoCardSaid : Prop := Claim7.holds Tryd.pinned (.plain (OpenSpec.upto globsBelowSpec)) globsBelowUptoCard

/-- THE SECOND FORM's CARD OF 'bloomerylaw04.GlobsFixed'. -/
def globsFixedUptoCard : Claim7 := { stood := { row := globsFixedUptoRow, standIns := [], harness := (true, "f1355223706724004984e95edb2f3621ae7583bf42aa4dc52a11fef6b5463b52"), looks := false }, kinds := [], alts := [], laidByText := true, laidKinds := [.data, .pinned], laidTests := true, laidLooks := .later }
def GlobsFixedUptoCardSaid : Prop := Claim7.holds Tryd.pinned (.plain (OpenSpec.upto globsFixedSpec)) globsFixedUptoCard

/-- THE SECOND FORM's CARD OF 'bloomerylaw04.GlobsPick'. -/
def globsPickUptoCard : Claim7 := { stood := { row := globsPickUptoRow, standIns := [], harness := (true, "f1355223706724004984e95edb2f3621ae7583bf42aa4dc52a11fef6b5463b52"), looks := false }, kinds := [], alts := [], laidByText := true, laidKinds := [.data, .pinned], laidTests := true, laidLooks := .later }
def GlobsPickUptoCardSaid : Prop := Claim7.holds Tryd.pinned (.plain (OpenSpec.upto globsPickSpec)) globsPickUptoCard

/-- THE SECOND FORM's CARD OF 'bloomerylaw04.GlobsSets'. -/
def globsSetsUptoCard : Claim7 := { stood := { row := globsSetsUptoRow, standIns := [], harness := (true, "f1355223706724004984e95edb2f3621ae7583bf42aa4dc52a11fef6b5463b52"), looks := false }, kinds := [], alts := [], laidByText := true, laidKinds := [.data, .pinned], laidTests := true, laidLooks := .later }
def GlobsSetsUptoCardSaid : Prop := Claim7.holds Tryd.pinned (.plain (OpenSpec.upto globsSetsSpec)) globsSetsUptoCard
end Rows
end Go.Proofs.YtgbogkmbgedkkaaDoor
