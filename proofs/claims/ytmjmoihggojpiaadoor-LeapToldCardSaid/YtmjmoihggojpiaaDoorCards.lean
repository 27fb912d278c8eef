/-
  DERIVED. GIVEN WITH THE SEED: THE CARDS: each row of YtmjmoihggojpiaaDoorRows.lean that lists a variable, with what it lists TIED to the program's text (the seventh form; the later family's looks); each row that meets fmt, with fmt's text TOLD by the authors' own Lean function (tested against real Go, not proved from fmt's source: count such statements apart). THE CARD IS WHAT COUNTS. Prove the row's statement (the work); the ties are given (YtmjmoihggojpiaaDoorTie.lean); close each card by the builder's one call (the guide's Derived/Test/ToyasCard.lean, 'card_holds'). Laid BY PROGRAM, IN A SANDBOX (cutbox-door.mjs). By AI agents, Wed Nov 11 2026. No macro, syntax, notation, axiom, sorry.
-/
import Derived.Test.YtmjmoihggojpiaaDoorRows
import GoSem.ClaimSeven
namespace Go.Proofs.YtmjmoihggojpiaaDoor
namespace Rows

/-- THE TIED CARD OF 'horologelaw16.LeapBy'. -/
def leapByCard : Claim7 := { stood := { row := leapByRow, standIns := [], harness := (true, "1a6380dbb09ddbd078858bd09bc9b993b2edb1ee10f96bb043e1058abbb04d76"), looks := false }, kinds := [], alts := [], laidByText := true, laidKinds := [.data, .data, .data], laidTests := true, laidLooks := .later }
def LeapByCardSaid : Prop := Claim7.holds Tryd.pinned (.plain (OpenSpec.ofChange leapBySpec)) leapByCard

/-- THE TIED CARD OF 'horologelaw16.LeapTold'. -/
def leapToldCard : Claim7 := { stood := { row := leapToldRow, standIns := [], harness := (true, "1a6380dbb09ddbd078858bd09bc9b993b2edb1ee10f96bb043e1058abbb04d76"), looks := false }, kinds := [], alts := [], laidByText := true, laidKinds := [.data, .data, .data], laidTests := true, laidLooks := .later }
def LeapToldCardSaid : Prop := Claim7.holds Tryd.pinned (.plain (OpenSpec.ofChange leapToldSpec)) leapToldCard

/-- THE SECOND FORM's CARD OF 'horologelaw16.LeapBy'. -/
def leapByUptoCard : Claim7 := { stood := { row := leapByUptoRow, standIns := [], harness := (true, "1a6380dbb09ddbd078858bd09bc9b993b2edb1ee10f96bb043e1058abbb04d76"), looks := false }, kinds := [], alts := [], laidByText := true, laidKinds := [.data, .data, .data], laidTests := true, laidLooks := .later }
def LeapByUptoCardSaid : Prop := Claim7.holds Tryd.pinned (.plain (OpenSpec.upto leapBySpec)) leapByUptoCard

/-- THE SECOND FORM's CARD OF 'horologelaw16.LeapTold'. -/
def leapToldUptoCard : Claim7 := { stood := { row := leapToldUptoRow, standIns := [], harness := (true, "1a6380dbb09ddbd078858bd09bc9b993b2edb1ee10f96bb043e1058abbb04d76"), looks := false }, kinds := [], alts := [], laidByText := true, laidKinds := [.data, .data, .data], laidTests := true, laidLooks := .later }
def LeapToldUptoCardSaid : Prop := Claim7.holds Tryd.pinned (.plain (OpenSpec.upto leapToldSpec)) leapToldUptoCard
end Rows
end Go.Proofs.YtmjmoihggojpiaaDoor
