/-
  DERIVED. GIVEN WITH THE SEED: THE CARDS: each row of YtncnepmgmphanaaDoorRows.lean that lists a variable, with what it lists TIED to the program's text (the seventh form; the later family's looks); each row that meets fmt, with fmt's text TOLD by the authors' own Lean function (tested against real Go, not proved from fmt's source: count such statements apart). THE CARD IS WHAT COUNTS. Prove the row's statement (the work); the ties are given (YtncnepmgmphanaaDoorTie.lean); close each card by the builder's one call (the guide's Derived/Test/ToyasCard.lean, 'card_holds'). Laid BY PROGRAM, IN A SANDBOX (cutbox-door.mjs). By AI agents, Wed Nov 11 2026. No macro, syntax, notation, axiom, sorry.
-/
import Derived.Test.YtncnepmgmphanaaDoorRows
import GoSem.ClaimSeven
namespace Go.Proofs.YtncnepmgmphanaaDoor
namespace Rows

/-- THE TIED CARD OF 'worksteallaw07.EventsValid'. -/
def eventsValidCard : Claim7 := { stood := { row := eventsValidRow, standIns := [], harness := (true, "8d3893f1b56a8e96e980880ce99e07638838633aff30bdc7cfe19753bb1b6ba2"), looks := true }, kinds := [], alts := [], laidByText := true, laidKinds := [.data, .data, .data, .data, .sentinel, .sentinel, .pinned], laidTests := true, laidLooks := .later }
def EventsValidCardSaid : Prop := Claim7.holds Tryd.pinned (.plain (OpenSpec.ofChange eventsValidSpec)) eventsValidCard

/-- THE TIED CARD OF 'worksteallaw07.EventsMany'. -/
def eventsManyCard : Claim7 := { stood := { row := eventsManyRow, standIns := [], harness := (true, "8d3893f1b56a8e96e980880ce99e07638838633aff30bdc7cfe19753bb1b6ba2"), looks := true }, kinds := [], alts := [], laidByText := true, laidKinds := [.data, .data, .data, .data, .sentinel, .sentinel, .pinned], laidTests := true, laidLooks := .later }
def EventsManyCardSaid : Prop := Claim7.holds Tryd.pinned (.plain (OpenSpec.ofChange eventsManySpec)) eventsManyCard

/-- THE SECOND FORM's CARD OF 'worksteallaw07.EventsValid'. -/
def eventsValidUptoCard : Claim7 := { stood := { row := eventsValidUptoRow, standIns := [], harness := (true, "8d3893f1b56a8e96e980880ce99e07638838633aff30bdc7cfe19753bb1b6ba2"), looks := true }, kinds := [], alts := [], laidByText := true, laidKinds := [.data, .data, .data, .data, .sentinel, .sentinel, .pinned], laidTests := true, laidLooks := .later }
def EventsValidUptoCardSaid : Prop := Claim7.holds Tryd.pinned (.plain (OpenSpec.upto eventsValidSpec)) eventsValidUptoCard

/-- THE SECOND FORM's CARD OF 'worksteallaw07.EventsMany'. -/
def eventsManyUptoCard : Claim7 := { stood := { row := eventsManyUptoRow, standIns := [], harness := (true, "8d3893f1b56a8e96e980880ce99e07638838633aff30bdc7cfe19753bb1b6ba2"), looks := true }, kinds := [], alts := [], laidByText := true, laidKinds := [.data, .data, .data, .data, .sentinel, .sentinel, .pinned], laidTests := true, laidLooks := .later }
def EventsManyUptoCardSaid : Prop := Claim7.holds Tryd.pinned (.plain (OpenSpec.upto eventsManySpec)) eventsManyUptoCard
end Rows
end Go.Proofs.YtncnepmgmphanaaDoor
