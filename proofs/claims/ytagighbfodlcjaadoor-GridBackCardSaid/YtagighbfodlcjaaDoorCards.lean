/-
  DERIVED. GIVEN WITH THE SEED: THE CARDS: each row of YtagighbfodlcjaaDoorRows.lean that lists a variable, with what it lists TIED to the program's text (the seventh form; the later family's looks); each row that meets fmt, with fmt's text TOLD by the authors' own Lean function (tested against real Go, not proved from fmt's source: count such statements apart). THE CARD IS WHAT COUNTS. Prove the row's statement (the work); the ties are given (YtagighbfodlcjaaDoorTie.lean); close each card by the builder's one call (the guide's Derived/Test/ToyasCard.lean, 'card_holds'). Laid BY PROGRAM, IN A SANDBOX (cutbox-door.mjs). By AI agents, Wed Nov 11 2026. No macro, syntax, notation, axiom, sorry.
-/
import Derived.Test.YtagighbfodlcjaaDoorRows
import GoSem.ClaimSeven
namespace Go.Proofs.YtagighbfodlcjaaDoor
namespace Rows

/-- THE TIED CARD OF 'dynamolaw14.GridBack'. -/
def gridBackCard : Claim7 := { stood := { row := gridBackRow, standIns := [], harness := (true, "05326b2d036f11d37873cc89c450f7e180a8c7c93db24326c302242d14e67ca9"), looks := true }, kinds := [], alts := [], laidByText := true, laidKinds := [.data, .handle, .pinned], laidTests := true, laidLooks := .later }
def GridBackCardSaid : Prop := Claim7.holds Tryd.pinned (.plain (OpenSpec.ofChange gridBackSpec)) gridBackCard

/-- THE TIED CARD OF 'dynamolaw14.GridPlays'. -/
def gridPlaysCard : Claim7 := { stood := { row := gridPlaysRow, standIns := [], harness := (true, "05326b2d036f11d37873cc89c450f7e180a8c7c93db24326c302242d14e67ca9"), looks := true }, kinds := [], alts := [], laidByText := true, laidKinds := [.data, .handle, .pinned], laidTests := true, laidLooks := .later }
def GridPlaysCardSaid : Prop := Claim7.holds Tryd.pinned (.plain (OpenSpec.ofChange gridPlaysSpec)) gridPlaysCard

/-- THE TIED CARD OF 'dynamolaw16.FieldDowns'. -/
def fieldDownsCard : Claim7 := { stood := { row := fieldDownsRow, standIns := [], harness := (true, "05326b2d036f11d37873cc89c450f7e180a8c7c93db24326c302242d14e67ca9"), looks := true }, kinds := [], alts := [], laidByText := true, laidKinds := [.data, .handle, .pinned], laidTests := true, laidLooks := .later }
def FieldDownsCardSaid : Prop := Claim7.holds Tryd.pinned (.plain (OpenSpec.ofChange fieldDownsSpec)) fieldDownsCard

/-- THE TIED CARD OF 'dynamolaw17.RouteNexts'. -/
def routeNextsCard : Claim7 := { stood := { row := routeNextsRow, standIns := [], harness := (true, "05326b2d036f11d37873cc89c450f7e180a8c7c93db24326c302242d14e67ca9"), looks := true }, kinds := [], alts := [], laidByText := true, laidKinds := [.data, .handle, .pinned], laidTests := true, laidLooks := .later }
def RouteNextsCardSaid : Prop := Claim7.holds Tryd.pinned (.plain (OpenSpec.ofChange routeNextsSpec)) routeNextsCard

/-- THE SECOND FORM's CARD OF 'dynamolaw14.GridBack'. -/
def gridBackUptoCard : Claim7 := { stood := { row := gridBackUptoRow, standIns := [], harness := (true, "05326b2d036f11d37873cc89c450f7e180a8c7c93db24326c302242d14e67ca9"), looks := true }, kinds := [], alts := [], laidByText := true, laidKinds := [.data, .handle, .pinned], laidTests := true, laidLooks := .later }
def GridBackUptoCardSaid : Prop := Claim7.holds Tryd.pinned (.plain (OpenSpec.upto gridBackSpec)) gridBackUptoCard

/-- THE SECOND FORM's CARD OF 'dynamolaw14.GridPlays'. -/
def gridPlaysUptoCard : Claim7 := { stood := { row := gridPlaysUptoRow, standIns := [], harness := (true, "05326b2d036f11d37873cc89c450f7e180a8c7c93db24326c302242d14e67ca9"), looks := true }, kinds := [], alts := [], laidByText := true, laidKinds := [.data, .handle, .pinned], laidTests := true, laidLooks := .later }
def GridPlaysUptoCardSaid : Prop := Claim7.holds Tryd.pinned (.plain (OpenSpec.upto gridPlaysSpec)) gridPlaysUptoCard

/-- THE SECOND FORM's CARD OF 'dynamolaw16.FieldDowns'. -/
def fieldDownsUptoCard : Claim7 := { stood := { row := fieldDownsUptoRow, standIns := [], harness := (true, "05326b2d036f11d37873cc89c450f7e180a8c7c93db24326c302242d14e67ca9"), looks := true }, kinds := [], alts := [], laidByText := true, laidKinds := [.data, .handle, .pinned], laidTests := true, laidLooks := .later }
def FieldDownsUptoCardSaid : Prop := Claim7.holds Tryd.pinned (.plain (OpenSpec.upto fieldDownsSpec)) fieldDownsUptoCard

/-- THE SECOND FORM's CARD OF 'dynamolaw17.RouteNexts'. -/
def routeNextsUptoCard : Claim7 := { stood := { row := routeNextsUptoRow, standIns := [], harness := (true, "05326b2d036f11d37873cc89c450f7e180a8c7c93db24326c302242d14e67ca9"), looks := true }, kinds := [], alts := [], laidByText := true, laidKinds := [.data, .handle, .pinned], laidTests := true, laidLooks := .later }
def RouteNextsUptoCardSaid : Prop := Claim7.holds Tryd.pinned (.plain (OpenSpec.upto routeNextsSpec)) routeNextsUptoCard
end Rows
end Go.Proofs.YtagighbfodlcjaaDoor
