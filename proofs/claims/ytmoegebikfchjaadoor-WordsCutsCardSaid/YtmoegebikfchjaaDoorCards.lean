/-
  DERIVED. GIVEN WITH THE SEED: THE CARDS: each row of YtmoegebikfchjaaDoorRows.lean that lists a variable, with what it lists TIED to the program's text (the seventh form; the later family's looks); each row that meets fmt, with fmt's text TOLD by the authors' own Lean function (tested against real Go, not proved from fmt's source: count such statements apart). THE CARD IS WHAT COUNTS. Prove the row's statement (the work); the ties are given (YtmoegebikfchjaaDoorTie.lean); close each card by the builder's one call (the guide's Derived/Test/ToyasCard.lean, 'card_holds'). Laid BY PROGRAM, IN A SANDBOX (cutbox-door.mjs). By AI agents, Wed Nov 11 2026. No macro, syntax, notation, axiom, sorry.
-/
import Derived.Test.YtmoegebikfchjaaDoorRows
import GoSem.ClaimSeven
namespace Go.Proofs.YtmoegebikfchjaaDoor
namespace Rows

/-- THE TIED CARD OF 'worksteallaw01.WordsBits'. -/
def wordsBitsCard : Claim7 := { stood := { row := wordsBitsRow, standIns := [], harness := (true, "278f9facdca4cb1e0c71854f3ccffe5c366b927981010ba4af17d52eed0cc7b0"), looks := false }, kinds := [], alts := [], laidByText := true, laidKinds := [.data], laidTests := true, laidLooks := .later }
def WordsBitsCardSaid : Prop := Claim7.holds Tryd.pinned (.plain (OpenSpec.ofChange wordsBitsSpec)) wordsBitsCard

/-- THE TIED CARD OF 'worksteallaw01.WordsSpans'. -/
def wordsSpansCard : Claim7 := { stood := { row := wordsSpansRow, standIns := [], harness := (true, "278f9facdca4cb1e0c71854f3ccffe5c366b927981010ba4af17d52eed0cc7b0"), looks := false }, kinds := [], alts := [], laidByText := true, laidKinds := [.data], laidTests := true, laidLooks := .later }
def WordsSpansCardSaid : Prop := Claim7.holds Tryd.pinned (.plain (OpenSpec.ofChange wordsSpansSpec)) wordsSpansCard

/-- THE TIED CARD OF 'worksteallaw01.WordsCuts'. -/
def wordsCutsCard : Claim7 := { stood := { row := wordsCutsRow, standIns := [], harness := (true, "278f9facdca4cb1e0c71854f3ccffe5c366b927981010ba4af17d52eed0cc7b0"), looks := false }, kinds := [], alts := [], laidByText := true, laidKinds := [.data], laidTests := true, laidLooks := .later }
def WordsCutsCardSaid : Prop := Claim7.holds Tryd.pinned (.plain (OpenSpec.ofChange wordsCutsSpec)) wordsCutsCard

/-- THE TIED CARD OF 'worksteallaw01.WordsOrder'. -/
def wordsOrderCard : Claim7 := { stood := { row := wordsOrderRow, standIns := [], harness := (true, "278f9facdca4cb1e0c71854f3ccffe5c366b927981010ba4af17d52eed0cc7b0"), looks := false }, kinds := [], alts := [], laidByText := true, laidKinds := [.data], laidTests := true, laidLooks := .later }
def WordsOrderCardSaid : Prop := Claim7.holds Tryd.pinned (.plain (OpenSpec.ofChange wordsOrderSpec)) wordsOrderCard

/-- THE TIED CARD OF 'worksteallaw01.WordsClasses'. -/
def wordsClassesCard : Claim7 := { stood := { row := wordsClassesRow, standIns := [], harness := (true, "278f9facdca4cb1e0c71854f3ccffe5c366b927981010ba4af17d52eed0cc7b0"), looks := false }, kinds := [], alts := [], laidByText := true, laidKinds := [.data], laidTests := true, laidLooks := .later }
def WordsClassesCardSaid : Prop := Claim7.holds Tryd.pinned (.plain (OpenSpec.ofChange wordsClassesSpec)) wordsClassesCard

/-- THE TIED CARD OF 'worksteallaw01.WordsEarlier'. -/
def wordsEarlierCard : Claim7 := { stood := { row := wordsEarlierRow, standIns := [], harness := (true, "278f9facdca4cb1e0c71854f3ccffe5c366b927981010ba4af17d52eed0cc7b0"), looks := false }, kinds := [], alts := [], laidByText := true, laidKinds := [.data], laidTests := true, laidLooks := .later }
def WordsEarlierCardSaid : Prop := Claim7.holds Tryd.pinned (.plain (OpenSpec.ofChange wordsEarlierSpec)) wordsEarlierCard

/-- THE TIED CARD OF 'worksteallaw01.WordsKeys'. -/
def wordsKeysCard : Claim7 := { stood := { row := wordsKeysRow, standIns := [], harness := (true, "278f9facdca4cb1e0c71854f3ccffe5c366b927981010ba4af17d52eed0cc7b0"), looks := false }, kinds := [], alts := [], laidByText := true, laidKinds := [.data], laidTests := true, laidLooks := .later }
def WordsKeysCardSaid : Prop := Claim7.holds Tryd.pinned (.plain (OpenSpec.ofChange wordsKeysSpec)) wordsKeysCard

/-- THE SECOND FORM's CARD OF 'worksteallaw01.WordsBits'. -/
def wordsBitsUptoCard : Claim7 := { stood := { row := wordsBitsUptoRow, standIns := [], harness := (true, "278f9facdca4cb1e0c71854f3ccffe5c366b927981010ba4af17d52eed0cc7b0"), looks := false }, kinds := [], alts := [], laidByText := true, laidKinds := [.data], laidTests := true, laidLooks := .later }
def WordsBitsUptoCardSaid : Prop := Claim7.holds Tryd.pinned (.plain (OpenSpec.upto wordsBitsSpec)) wordsBitsUptoCard

/-- THE SECOND FORM's CARD OF 'worksteallaw01.WordsSpans'. -/
def wordsSpansUptoCard : Claim7 := { stood := { row := wordsSpansUptoRow, standIns := [], harness := (true, "278f9facdca4cb1e0c71854f3ccffe5c366b927981010ba4af17d52eed0cc7b0"), looks := false }, kinds := [], alts := [], laidByText := true, laidKinds := [.data], laidTests := true, laidLooks := .later }
def WordsSpansUptoCardSaid : Prop := Claim7.holds Tryd.pinned (.plain (OpenSpec.upto wordsSpansSpec)) wordsSpansUptoCard

/-- THE SECOND FORM's CARD OF 'worksteallaw01.WordsCuts'. -/
def wordsCutsUptoCard : Claim7 := { stood := { row := wordsCutsUptoRow, standIns := [], harness := (true, "278f9facdca4cb1e0c71854f3ccffe5c366b927981010ba4af17d52eed0cc7b0"), looks := false }, kinds := [], alts := [], laidByText := true, laidKinds := [.data], laidTests := true, laidLooks := .later }
def WordsCutsUptoCardSaid : Prop := Claim7.holds Tryd.pinned (.plain (OpenSpec.upto wordsCutsSpec)) wordsCutsUptoCard

/-- THE SECOND FORM's CARD OF 'worksteallaw01.WordsOrder'. -/
def wordsOrderUptoCard : Claim7 := { stood := { row := wordsOrderUptoRow, standIns := [], harness := (true, "278f9facdca4cb1e0c71854f3ccffe5c366b927981010ba4af17d52eed0cc7b0"), looks := false }, kinds := [], alts := [], laidByText := true, laidKinds := [.data], laidTests := true, laidLooks := .later }
def WordsOrderUptoCardSaid : Prop := Claim7.holds Tryd.pinned (.plain (OpenSpec.upto wordsOrderSpec)) wordsOrderUptoCard

/-- THE SECOND FORM's CARD OF 'worksteallaw01.WordsClasses'. -/
def wordsClassesUptoCard : Claim7 := { stood := { row := wordsClassesUptoRow, standIns := [], harness := (true, "278f9facdca4cb1e0c71854f3ccffe5c366b927981010ba4af17d52eed0cc7b0"), looks := false }, kinds := [], alts := [], laidByText := true, laidKinds := [.data], laidTests := true, laidLooks := .later }
def WordsClassesUptoCardSaid : Prop := Claim7.holds Tryd.pinned (.plain (OpenSpec.upto wordsClassesSpec)) wordsClassesUptoCard

/-- THE SECOND FORM's CARD OF 'worksteallaw01.WordsEarlier'. -/
def wordsEarlierUptoCard : Claim7 := { stood := { row := wordsEarlierUptoRow, standIns := [], harness := (true, "278f9facdca4cb1e0c71854f3ccffe5c366b927981010ba4af17d52eed0cc7b0"), looks := false }, kinds := [], alts := [], laidByText := true, laidKinds := [.data], laidTests := true, laidLooks := .later }
def WordsEarlierUptoCardSaid : Prop := Claim7.holds Tryd.pinned (.plain (OpenSpec.upto wordsEarlierSpec)) wordsEarlierUptoCard

/-- THE SECOND FORM's CARD OF 'worksteallaw01.WordsKeys'. -/
def wordsKeysUptoCard : Claim7 := { stood := { row := wordsKeysUptoRow, standIns := [], harness := (true, "278f9facdca4cb1e0c71854f3ccffe5c366b927981010ba4af17d52eed0cc7b0"), looks := false }, kinds := [], alts := [], laidByText := true, laidKinds := [.data], laidTests := true, laidLooks := .later }
def WordsKeysUptoCardSaid : Prop := Claim7.holds Tryd.pinned (.plain (OpenSpec.upto wordsKeysSpec)) wordsKeysUptoCard
end Rows
end Go.Proofs.YtmoegebikfchjaaDoor
