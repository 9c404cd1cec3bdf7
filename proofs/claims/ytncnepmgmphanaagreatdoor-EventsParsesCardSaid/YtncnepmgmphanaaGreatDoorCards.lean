/-
  DERIVED. GIVEN WITH THE SEED: THE CARDS: each row of YtncnepmgmphanaaGreatDoorRows.lean that lists a variable, with what it lists TIED to the program's text (the seventh form; the later family's looks); each row that meets fmt, with fmt's text TOLD by the authors' own Lean function (tested against real Go, not proved from fmt's source: count such statements apart). THE CARD IS WHAT COUNTS. Prove the row's statement (the work); the ties are given (YtncnepmgmphanaaGreatDoorTie.lean); close each card by the builder's one call (the guide's Derived/Test/ToyasCard.lean, 'card_holds'). Laid BY PROGRAM, IN A SANDBOX (cutbox-door.mjs). By AI agents, Wed Nov 11 2026. No macro, syntax, notation, axiom, sorry.
-/
import Derived.Test.YtncnepmgmphanaaGreatDoorRows
import GoSem.ClaimSeven
namespace Go.Proofs.YtncnepmgmphanaaGreatDoor
namespace Rows

/-- THE TIED CARD OF 'worksteallaw07.EventsFormats'. -/
def eventsFormatsCard : Claim7 := { stood := { row := eventsFormatsRow, standIns := [], harness := (true, "0ce8cb4dc93a482967cf9ed3c9be0d19b91dab9e53a58507716f9634ecc744d4"), looks := true }, kinds := [], alts := [], laidByText := true, laidKinds := [.data, .data, .data, .data, .sentinel, .sentinel, .pinned], laidTests := true, laidLooks := .later }
def EventsFormatsCardSaid : Prop := Claim7.holds Tryz.pinned (.plain (OpenSpec.ofChange eventsFormatsSpec)) eventsFormatsCard

/-- THE TIED CARD OF 'worksteallaw07.EventsParses'. -/
def eventsParsesCard : Claim7 := { stood := { row := eventsParsesRow, standIns := [], harness := (true, "0ce8cb4dc93a482967cf9ed3c9be0d19b91dab9e53a58507716f9634ecc744d4"), looks := true }, kinds := [], alts := [], laidByText := true, laidKinds := [.data, .data, .data, .data, .sentinel, .sentinel, .pinned], laidTests := true, laidLooks := .later }
def EventsParsesCardSaid : Prop := Claim7.holds Tryz.pinned (.plain (OpenSpec.ofChange eventsParsesSpec)) eventsParsesCard

/-- THE TIED CARD OF 'worksteallaw07.EventsRound'. -/
def eventsRoundCard : Claim7 := { stood := { row := eventsRoundRow, standIns := [], harness := (true, "0ce8cb4dc93a482967cf9ed3c9be0d19b91dab9e53a58507716f9634ecc744d4"), looks := true }, kinds := [], alts := [], laidByText := true, laidKinds := [.data, .data, .data, .data, .sentinel, .sentinel, .pinned], laidTests := true, laidLooks := .later }
def EventsRoundCardSaid : Prop := Claim7.holds Tryz.pinned (.plain (OpenSpec.ofChange eventsRoundSpec)) eventsRoundCard

/-- THE TIED CARD OF 'worksteallaw07.EventsPlain'. -/
def eventsPlainCard : Claim7 := { stood := { row := eventsPlainRow, standIns := [], harness := (true, "0ce8cb4dc93a482967cf9ed3c9be0d19b91dab9e53a58507716f9634ecc744d4"), looks := true }, kinds := [], alts := [], laidByText := true, laidKinds := [.data, .data, .data, .data, .sentinel, .sentinel, .pinned], laidTests := true, laidLooks := .later }
def EventsPlainCardSaid : Prop := Claim7.holds Tryz.pinned (.plain (OpenSpec.ofChange eventsPlainSpec)) eventsPlainCard

/-- THE SECOND FORM's CARD OF 'worksteallaw07.EventsFormats'. -/
def eventsFormatsUptoCard : Claim7 := { stood := { row := eventsFormatsUptoRow, standIns := [], harness := (true, "0ce8cb4dc93a482967cf9ed3c9be0d19b91dab9e53a58507716f9634ecc744d4"), looks := true }, kinds := [], alts := [], laidByText := true, laidKinds := [.data, .data, .data, .data, .sentinel, .sentinel, .pinned], laidTests := true, laidLooks := .later }
def EventsFormatsUptoCardSaid : Prop := Claim7.holds Tryz.pinned (.plain (OpenSpec.upto eventsFormatsSpec)) eventsFormatsUptoCard

/-- THE SECOND FORM's CARD OF 'worksteallaw07.EventsParses'. -/
def eventsParsesUptoCard : Claim7 := { stood := { row := eventsParsesUptoRow, standIns := [], harness := (true, "0ce8cb4dc93a482967cf9ed3c9be0d19b91dab9e53a58507716f9634ecc744d4"), looks := true }, kinds := [], alts := [], laidByText := true, laidKinds := [.data, .data, .data, .data, .sentinel, .sentinel, .pinned], laidTests := true, laidLooks := .later }
def EventsParsesUptoCardSaid : Prop := Claim7.holds Tryz.pinned (.plain (OpenSpec.upto eventsParsesSpec)) eventsParsesUptoCard

/-- THE SECOND FORM's CARD OF 'worksteallaw07.EventsRound'. -/
def eventsRoundUptoCard : Claim7 := { stood := { row := eventsRoundUptoRow, standIns := [], harness := (true, "0ce8cb4dc93a482967cf9ed3c9be0d19b91dab9e53a58507716f9634ecc744d4"), looks := true }, kinds := [], alts := [], laidByText := true, laidKinds := [.data, .data, .data, .data, .sentinel, .sentinel, .pinned], laidTests := true, laidLooks := .later }
def EventsRoundUptoCardSaid : Prop := Claim7.holds Tryz.pinned (.plain (OpenSpec.upto eventsRoundSpec)) eventsRoundUptoCard

/-- THE SECOND FORM's CARD OF 'worksteallaw07.EventsPlain'. -/
def eventsPlainUptoCard : Claim7 := { stood := { row := eventsPlainUptoRow, standIns := [], harness := (true, "0ce8cb4dc93a482967cf9ed3c9be0d19b91dab9e53a58507716f9634ecc744d4"), looks := true }, kinds := [], alts := [], laidByText := true, laidKinds := [.data, .data, .data, .data, .sentinel, .sentinel, .pinned], laidTests := true, laidLooks := .later }
def EventsPlainUptoCardSaid : Prop := Claim7.holds Tryz.pinned (.plain (OpenSpec.upto eventsPlainSpec)) eventsPlainUptoCard
end Rows
end Go.Proofs.YtncnepmgmphanaaGreatDoor
