/-
  DERIVED. GIVEN WITH THE SEED: THE CARDS: each row of YtpeflgfldbjflaaGreatDoorRows.lean that lists a variable, with what it lists TIED to the program's text (the seventh form; the later family's looks); each row that meets fmt, with fmt's text TOLD by the authors' own Lean function (tested against real Go, not proved from fmt's source: count such statements apart). THE CARD IS WHAT COUNTS. Prove the row's statement (the work); the ties are given (YtpeflgfldbjflaaGreatDoorTie.lean); close each card by the builder's one call (the guide's Derived/Test/ToyasCard.lean, 'card_holds'). Laid BY PROGRAM, IN A SANDBOX (cutbox-door.mjs). By AI agents, Wed Nov 11 2026. No macro, syntax, notation, axiom, sorry.
-/
import Derived.Test.YtpeflgfldbjflaaGreatDoorRows
import GoSem.ClaimSeven
namespace Go.Proofs.YtpeflgfldbjflaaGreatDoor
namespace Rows

/-- THE TIED CARD OF 'orchardlaw20.JudgeReads'. -/
def judgeReadsCard : Claim7 := { stood := { row := judgeReadsRow, standIns := [], harness := (true, "8968bef31b5b056d6ea092095416f16565235cffec2c0af1f84ae2bbf8512311"), looks := true }, kinds := [], alts := [], laidByText := true, laidKinds := [.data, .data, .data, .data, .pinned], laidTests := true, laidLooks := .later }
def JudgeReadsCardSaid : Prop := Claim7.holds Tryz.pinned (.plain (OpenSpec.ofChange judgeReadsSpec)) judgeReadsCard

/-- THE TIED CARD OF 'orchardlaw20.JudgeAnswers'. -/
def judgeAnswersCard : Claim7 := { stood := { row := judgeAnswersRow, standIns := [], harness := (true, "8968bef31b5b056d6ea092095416f16565235cffec2c0af1f84ae2bbf8512311"), looks := true }, kinds := [], alts := [], laidByText := true, laidKinds := [.data, .data, .data, .data, .pinned], laidTests := true, laidLooks := .later }
def JudgeAnswersCardSaid : Prop := Claim7.holds Tryz.pinned (.plain (OpenSpec.ofChange judgeAnswersSpec)) judgeAnswersCard

/-- THE SECOND FORM's CARD OF 'orchardlaw20.JudgeReads'. -/
def judgeReadsUptoCard : Claim7 := { stood := { row := judgeReadsUptoRow, standIns := [], harness := (true, "8968bef31b5b056d6ea092095416f16565235cffec2c0af1f84ae2bbf8512311"), looks := true }, kinds := [], alts := [], laidByText := true, laidKinds := [.data, .data, .data, .data, .pinned], laidTests := true, laidLooks := .later }
def JudgeReadsUptoCardSaid : Prop := Claim7.holds Tryz.pinned (.plain (OpenSpec.upto judgeReadsSpec)) judgeReadsUptoCard

/-- THE SECOND FORM's CARD OF 'orchardlaw20.JudgeAnswers'. -/
def judgeAnswersUptoCard : Claim7 := { stood := { row := judgeAnswersUptoRow, standIns := [], harness := (true, "8968bef31b5b056d6ea092095416f16565235cffec2c0af1f84ae2bbf8512311"), looks := true }, kinds := [], alts := [], laidByText := true, laidKinds := [.data, .data, .data, .data, .pinned], laidTests := true, laidLooks := .later }
def JudgeAnswersUptoCardSaid : Prop := Claim7.holds Tryz.pinned (.plain (OpenSpec.upto judgeAnswersSpec)) judgeAnswersUptoCard
end Rows
end Go.Proofs.YtpeflgfldbjflaaGreatDoor
