/-
  DERIVED. GIVEN WITH THE SEED: THE CARDS: each row of YtdbbnoffoaldfaaDoorRows.lean that lists a variable, with what it lists TIED to the program's text (the seventh form; the later family's looks); each row that meets fmt, with fmt's text TOLD by the authors' own Lean function (tested against real Go, not proved from fmt's source: count such statements apart). THE CARD IS WHAT COUNTS. Prove the row's statement (the work); the ties are given (YtdbbnoffoaldfaaDoorTie.lean); close each card by the builder's one call (the guide's Derived/Test/ToyasCard.lean, 'card_holds'). Laid BY PROGRAM, IN A SANDBOX (cutbox-door.mjs). By AI agents, Wed Nov 11 2026. No macro, syntax, notation, axiom, sorry.
-/
import Derived.Test.YtdbbnoffoaldfaaDoorRows
import GoSem.ClaimSeven
namespace Go.Proofs.YtdbbnoffoaldfaaDoor
namespace Rows

/-- THE TIED CARD OF 'worksteallaw01.WordsEarlier'. -/
def wordsEarlierCard : Claim7 := { stood := { row := wordsEarlierRow, standIns := [], harness := (true, "4218abebdaefbe6fb4c4a97b30391b25c95a74d7344140f3673191b41872d21f"), looks := false }, kinds := [], alts := [], laidByText := true, laidKinds := [.data], laidTests := true, laidLooks := .later }
def WordsEarlierCardSaid : Prop := Claim7.holds Tryd.pinned (.plain (OpenSpec.ofChange wordsEarlierSpec)) wordsEarlierCard

/-- THE SECOND FORM's CARD OF 'worksteallaw01.WordsEarlier'. -/
def wordsEarlierUptoCard : Claim7 := { stood := { row := wordsEarlierUptoRow, standIns := [], harness := (true, "4218abebdaefbe6fb4c4a97b30391b25c95a74d7344140f3673191b41872d21f"), looks := false }, kinds := [], alts := [], laidByText := true, laidKinds := [.data], laidTests := true, laidLooks := .later }
def WordsEarlierUptoCardSaid : Prop := Claim7.holds Tryd.pinned (.plain (OpenSpec.upto wordsEarlierSpec)) wordsEarlierUptoCard
end Rows
end Go.Proofs.YtdbbnoffoaldfaaDoor
