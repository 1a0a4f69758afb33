/-
  NARROWER THAN 'FOR EVERY INPUT', by the rows' own cells (each row's printed sentence says how): GridBack: laid · GridPlays: laid · FieldDowns: laid · RouteNexts: laid.
  DERIVED. THE GIVEN ROWS OF THIS SEAT. 4 by the template 'for every input the law returns true; each argument reads behind the call as it read before'; 0 by the template 'total and deterministic' (their statements: YtagighbfodlcjaaDoorTotals.lean).
  GIVEN WITH THE SEED: the statements are not yours to turn. If you find one false, say at which input.
  Laid BY PROGRAM, IN A SANDBOX (cutbox-rows.mjs): the forced cells as the released guide's own fill.sh prints them over the translation 8e4c63749c75e5bb… (all of the seat's roots in one cut). By AI agents, Wed Nov 11 2026. No macro, syntax, notation, axiom, sorry.
-/
import Derived.Test.YtagighbfodlcjaaDoorChecked
import GoSem.PinnedTables
import GoSem.Claim
import GoSem.ClaimJoined
import GoSem.ClaimMapViews
import Derived.JoinedTies
import Derived.KernelRfl
namespace Go.Proofs.YtagighbfodlcjaaDoor
/- THE CELL 'sum', in the pinned program and in every row, IS THE sha256 OF THE DUMP (.gsa) THAT YtagighbfodlcjaaDoorProg.lean LOADS. Nothing in Lean hashes anything: it is a label: what it is worth is what the hold of that sum in a sandbox is worth. -/
noncomputable def Tryd.pinned : Pinned := { name := "ytagighbfodlcjaadoor", sum := "8e4c63749c75e5bbf73a6bc609cb58b07845ab0056112086892df8a5aa0f295d", checked := Tryd.checked }
namespace Rows
def none {H : Type} : Left H := { results := [], args := [] }

/- WHAT THE LISTED PACKAGE-LEVEL VARIABLES READ AS WHEN THE CALL BEGINS. Each datum BY PROGRAM (the guide's laid-datum.mjs) off the statement by which the dump's own 'gosem.cut.vars' lays the variable. In a bare row this is a premise. The card (YtagighbfodlcjaaDoorCards.lean) ties it to the program's text. -/
def laid_unicode_utf8_acceptRanges {H : Type} : DataW H := .agg [.agg [.lit (.int .u8 128), .lit (.int .u8 191)], .agg [.lit (.int .u8 160), .lit (.int .u8 191)], .agg [.lit (.int .u8 128), .lit (.int .u8 159)], .agg [.lit (.int .u8 144), .lit (.int .u8 191)], .agg [.lit (.int .u8 128), .lit (.int .u8 143)], .agg [.lit (.int .u8 0), .lit (.int .u8 0)], .agg [.lit (.int .u8 0), .lit (.int .u8 0)], .agg [.lit (.int .u8 0), .lit (.int .u8 0)], .agg [.lit (.int .u8 0), .lit (.int .u8 0)], .agg [.lit (.int .u8 0), .lit (.int .u8 0)], .agg [.lit (.int .u8 0), .lit (.int .u8 0)], .agg [.lit (.int .u8 0), .lit (.int .u8 0)], .agg [.lit (.int .u8 0), .lit (.int .u8 0)], .agg [.lit (.int .u8 0), .lit (.int .u8 0)], .agg [.lit (.int .u8 0), .lit (.int .u8 0)], .agg [.lit (.int .u8 0), .lit (.int .u8 0)]]
def laid_errors_errorType {H : Type} : DataW H := .iface "internal/reflectlite.rtype" (.agg [.ptr (.lit (.string [101, 114, 114, 111, 114]))])
/-- One of Go's own tables, pinned by name: the form's constant. -/
def laid_unicode_utf8_first : DataW Unit := Go.Pinned.utf8First

/-- 'dynamolaw14.GridBack': WHATEVER THE INPUT: true; the input reads as it did. -/
def gridBackSpec : ChangeSpec := { name := "gridBack", fn := fun _ => fun
  | [d1, d2] => { results := [.lit (.bool true)], args := [d1, d2] }
  | _ => none }
def gridBackRow : OpenClaim := { program := "ytagighbfodlcjaadoor", sum := "8e4c63749c75e5bbf73a6bc609cb58b07845ab0056112086892df8a5aa0f295d", func := "dynamo/dynamolaw14.GridBack", spec := "gridBack", inPlace := ["internal/bytealg.IndexByteString", "internal/bytealg.IndexString", "internal/bytealg.CountString", "internal/reflectlite.ValueOf", "(internal/reflectlite.Value).Type", "(internal/reflectlite.Value).IsNil", "internal/reflectlite.TypeOf", "(internal/reflectlite.Value).Elem", "(internal/reflectlite.Value).Set", "internal/abi.NoEscape"], unfollowed := true, recurses := true, named := ["unicode/utf8.first", "unicode/utf8.acceptRanges", "internal/bytealg.MaxLen", "errors.errorType"], apart := false, laid := [("unicode/utf8.acceptRanges", laid_unicode_utf8_acceptRanges), ("errors.errorType", laid_errors_errorType), ("unicode/utf8.first", laid_unicode_utf8_first)] }
def GridBackSaid : Prop := gridBackRow.holds Tryd.pinned (OpenSpec.ofChange gridBackSpec)

/-- ITS FALSE NEIGHBOUR: 'it returns false'. Refute it at one input. -/
def gridBackWrong : ChangeSpec := { name := "gridBack", fn := fun _ => fun
  | [d1, d2] => { results := [.lit (.bool false)], args := [d1, d2] }
  | _ => none }
def GridBackWrongFalsely : Prop := gridBackRow.holds Tryd.pinned (OpenSpec.ofChange gridBackWrong)

/-- 'dynamolaw14.GridPlays': WHATEVER THE INPUT: true; the input reads as it did. -/
def gridPlaysSpec : ChangeSpec := { name := "gridPlays", fn := fun _ => fun
  | [d1, d2] => { results := [.lit (.bool true)], args := [d1, d2] }
  | _ => none }
def gridPlaysRow : OpenClaim := { program := "ytagighbfodlcjaadoor", sum := "8e4c63749c75e5bbf73a6bc609cb58b07845ab0056112086892df8a5aa0f295d", func := "dynamo/dynamolaw14.GridPlays", spec := "gridPlays", inPlace := ["internal/bytealg.IndexByteString", "internal/bytealg.IndexString", "internal/bytealg.CountString", "internal/reflectlite.ValueOf", "(internal/reflectlite.Value).Type", "(internal/reflectlite.Value).IsNil", "internal/reflectlite.TypeOf", "(internal/reflectlite.Value).Elem", "(internal/reflectlite.Value).Set", "internal/abi.NoEscape"], unfollowed := true, recurses := true, named := ["unicode/utf8.first", "unicode/utf8.acceptRanges", "internal/bytealg.MaxLen", "errors.errorType"], apart := false, laid := [("unicode/utf8.acceptRanges", laid_unicode_utf8_acceptRanges), ("errors.errorType", laid_errors_errorType), ("unicode/utf8.first", laid_unicode_utf8_first)] }
def GridPlaysSaid : Prop := gridPlaysRow.holds Tryd.pinned (OpenSpec.ofChange gridPlaysSpec)

/-- ITS FALSE NEIGHBOUR: 'it returns false'. Refute it at one input. -/
def gridPlaysWrong : ChangeSpec := { name := "gridPlays", fn := fun _ => fun
  | [d1, d2] => { results := [.lit (.bool false)], args := [d1, d2] }
  | _ => none }
def GridPlaysWrongFalsely : Prop := gridPlaysRow.holds Tryd.pinned (OpenSpec.ofChange gridPlaysWrong)

/-- 'dynamolaw16.FieldDowns': WHATEVER THE INPUT: true; the input reads as it did. -/
def fieldDownsSpec : ChangeSpec := { name := "fieldDowns", fn := fun _ => fun
  | [d1, d2, d3] => { results := [.lit (.bool true)], args := [d1, d2, d3] }
  | _ => none }
def fieldDownsRow : OpenClaim := { program := "ytagighbfodlcjaadoor", sum := "8e4c63749c75e5bbf73a6bc609cb58b07845ab0056112086892df8a5aa0f295d", func := "dynamo/dynamolaw16.FieldDowns", spec := "fieldDowns", inPlace := ["internal/bytealg.IndexByteString", "internal/bytealg.IndexString", "internal/bytealg.CountString", "internal/reflectlite.ValueOf", "(internal/reflectlite.Value).Type", "(internal/reflectlite.Value).IsNil", "internal/reflectlite.TypeOf", "(internal/reflectlite.Value).Elem", "(internal/reflectlite.Value).Set"], unfollowed := true, recurses := true, named := ["unicode/utf8.first", "unicode/utf8.acceptRanges", "internal/bytealg.MaxLen", "errors.errorType"], apart := false, laid := [("unicode/utf8.acceptRanges", laid_unicode_utf8_acceptRanges), ("errors.errorType", laid_errors_errorType), ("unicode/utf8.first", laid_unicode_utf8_first)] }
def FieldDownsSaid : Prop := fieldDownsRow.holds Tryd.pinned (OpenSpec.ofChange fieldDownsSpec)

/-- ITS FALSE NEIGHBOUR: 'it returns false'. Refute it at one input. -/
def fieldDownsWrong : ChangeSpec := { name := "fieldDowns", fn := fun _ => fun
  | [d1, d2, d3] => { results := [.lit (.bool false)], args := [d1, d2, d3] }
  | _ => none }
def FieldDownsWrongFalsely : Prop := fieldDownsRow.holds Tryd.pinned (OpenSpec.ofChange fieldDownsWrong)

/-- 'dynamolaw17.RouteNexts': WHATEVER THE INPUT: true; the input reads as it did. -/
def routeNextsSpec : ChangeSpec := { name := "routeNexts", fn := fun _ => fun
  | [d1, d2, d3, d4] => { results := [.lit (.bool true)], args := [d1, d2, d3, d4] }
  | _ => none }
def routeNextsRow : OpenClaim := { program := "ytagighbfodlcjaadoor", sum := "8e4c63749c75e5bbf73a6bc609cb58b07845ab0056112086892df8a5aa0f295d", func := "dynamo/dynamolaw17.RouteNexts", spec := "routeNexts", inPlace := ["internal/bytealg.IndexByteString", "internal/bytealg.IndexString", "internal/bytealg.CountString", "internal/reflectlite.ValueOf", "(internal/reflectlite.Value).Type", "(internal/reflectlite.Value).IsNil", "internal/reflectlite.TypeOf", "(internal/reflectlite.Value).Elem", "(internal/reflectlite.Value).Set"], unfollowed := true, recurses := true, named := ["unicode/utf8.first", "unicode/utf8.acceptRanges", "internal/bytealg.MaxLen", "errors.errorType"], apart := false, laid := [("unicode/utf8.acceptRanges", laid_unicode_utf8_acceptRanges), ("errors.errorType", laid_errors_errorType), ("unicode/utf8.first", laid_unicode_utf8_first)] }
def RouteNextsSaid : Prop := routeNextsRow.holds Tryd.pinned (OpenSpec.ofChange routeNextsSpec)

/-- ITS FALSE NEIGHBOUR: 'it returns false'. Refute it at one input. -/
def routeNextsWrong : ChangeSpec := { name := "routeNexts", fn := fun _ => fun
  | [d1, d2, d3, d4] => { results := [.lit (.bool false)], args := [d1, d2, d3, d4] }
  | _ => none }
def RouteNextsWrongFalsely : Prop := routeNextsRow.holds Tryd.pinned (OpenSpec.ofChange routeNextsWrong)

/- THE SECOND FORM. 'bulk': how many values and letters a reading holds, each counted each time it is reached (what is shared counts as often as it is met; a slice's spare places count too). A statement '..UptoSaid' is the law's where the arguments, and the package variables that the reading takes, are together of bulk at most 1048576: NARROWER than '..Said'. Prove '..Said' where nothing that the law and all that it calls make is longer than what came in: it says more and counts as full. Else prove '..UptoSaid'. A law counts once. -/
mutual
def uptoBulk {H : Type} : DataW H → Nat
  | .lit (.string bytes) => bytes.length + 1
  | .lit _ => 1
  | .nil => 1
  | .ptr d => uptoBulk d + 1
  | .slice elems spare => uptoBulkAll elems + uptoBulkAll spare + 1
  | .agg parts => uptoBulkAll parts + 1
  | .iface _ d => uptoBulk d + 1
  | .map entries => uptoBulkEntries entries + 1
  | .held _ => 1
def uptoBulkAll {H : Type} : List (DataW H) → Nat
  | [] => 0
  | d :: r => uptoBulk d + uptoBulkAll r
def uptoBulkEntries {H : Type} : List (Lit × DataW H) → Nat
  | [] => 0
  | x :: r => uptoBulkEntry x + uptoBulkEntries r
def uptoBulkEntry {H : Type} : Lit × DataW H → Nat
  | (.string bytes, d) => bytes.length + uptoBulk d + 1
  | (_, d) => uptoBulk d + 1
 end
def uptoSmall : (H : Type) → List (DataW H) → Bool := fun _ ds => decide (uptoBulkAll ds ≤ 1048576)
def OpenSpec.upto (s : _root_.Go.ChangeSpec) : _root_.Go.OpenSpec := { _root_.Go.OpenSpec.ofChange s with cond := some uptoSmall }

/-- 'dynamolaw14.GridBack', WHERE WHAT IT READS IS OF BULK AT MOST 1048576: true; the input reads as it did. -/
def gridBackUptoRow : OpenClaim := { program := "ytagighbfodlcjaadoor", sum := "8e4c63749c75e5bbf73a6bc609cb58b07845ab0056112086892df8a5aa0f295d", func := "dynamo/dynamolaw14.GridBack", spec := "gridBack", inPlace := ["internal/bytealg.IndexByteString", "internal/bytealg.IndexString", "internal/bytealg.CountString", "internal/reflectlite.ValueOf", "(internal/reflectlite.Value).Type", "(internal/reflectlite.Value).IsNil", "internal/reflectlite.TypeOf", "(internal/reflectlite.Value).Elem", "(internal/reflectlite.Value).Set", "internal/abi.NoEscape"], unfollowed := true, recurses := true, named := ["unicode/utf8.first", "unicode/utf8.acceptRanges", "internal/bytealg.MaxLen", "errors.errorType"], apart := false, laid := [("unicode/utf8.acceptRanges", laid_unicode_utf8_acceptRanges), ("errors.errorType", laid_errors_errorType), ("unicode/utf8.first", laid_unicode_utf8_first)], narrowed := true }
def GridBackUptoSaid : Prop := gridBackUptoRow.holds Tryd.pinned (OpenSpec.upto gridBackSpec)

/-- 'dynamolaw14.GridPlays', WHERE WHAT IT READS IS OF BULK AT MOST 1048576: true; the input reads as it did. -/
def gridPlaysUptoRow : OpenClaim := { program := "ytagighbfodlcjaadoor", sum := "8e4c63749c75e5bbf73a6bc609cb58b07845ab0056112086892df8a5aa0f295d", func := "dynamo/dynamolaw14.GridPlays", spec := "gridPlays", inPlace := ["internal/bytealg.IndexByteString", "internal/bytealg.IndexString", "internal/bytealg.CountString", "internal/reflectlite.ValueOf", "(internal/reflectlite.Value).Type", "(internal/reflectlite.Value).IsNil", "internal/reflectlite.TypeOf", "(internal/reflectlite.Value).Elem", "(internal/reflectlite.Value).Set", "internal/abi.NoEscape"], unfollowed := true, recurses := true, named := ["unicode/utf8.first", "unicode/utf8.acceptRanges", "internal/bytealg.MaxLen", "errors.errorType"], apart := false, laid := [("unicode/utf8.acceptRanges", laid_unicode_utf8_acceptRanges), ("errors.errorType", laid_errors_errorType), ("unicode/utf8.first", laid_unicode_utf8_first)], narrowed := true }
def GridPlaysUptoSaid : Prop := gridPlaysUptoRow.holds Tryd.pinned (OpenSpec.upto gridPlaysSpec)

/-- 'dynamolaw16.FieldDowns', WHERE WHAT IT READS IS OF BULK AT MOST 1048576: true; the input reads as it did. -/
def fieldDownsUptoRow : OpenClaim := { program := "ytagighbfodlcjaadoor", sum := "8e4c63749c75e5bbf73a6bc609cb58b07845ab0056112086892df8a5aa0f295d", func := "dynamo/dynamolaw16.FieldDowns", spec := "fieldDowns", inPlace := ["internal/bytealg.IndexByteString", "internal/bytealg.IndexString", "internal/bytealg.CountString", "internal/reflectlite.ValueOf", "(internal/reflectlite.Value).Type", "(internal/reflectlite.Value).IsNil", "internal/reflectlite.TypeOf", "(internal/reflectlite.Value).Elem", "(internal/reflectlite.Value).Set"], unfollowed := true, recurses := true, named := ["unicode/utf8.first", "unicode/utf8.acceptRanges", "internal/bytealg.MaxLen", "errors.errorType"], apart := false, laid := [("unicode/utf8.acceptRanges", laid_unicode_utf8_acceptRanges), ("errors.errorType", laid_errors_errorType), ("unicode/utf8.first", laid_unicode_utf8_first)], narrowed := true }
def FieldDownsUptoSaid : Prop := fieldDownsUptoRow.holds Tryd.pinned (OpenSpec.upto fieldDownsSpec)

/-- 'dynamolaw17.RouteNexts', WHERE WHAT IT READS IS OF BULK AT MOST 1048576: true; the input reads as it did. -/
def routeNextsUptoRow : OpenClaim := { program := "ytagighbfodlcjaadoor", sum := "8e4c63749c75e5bbf73a6bc609cb58b07845ab0056112086892df8a5aa0f295d", func := "dynamo/dynamolaw17.RouteNexts", spec := "routeNexts", inPlace := ["internal/bytealg.IndexByteString", "internal/bytealg.IndexString", "internal/bytealg.CountString", "internal/reflectlite.ValueOf", "(internal/reflectlite.Value).Type", "(internal/reflectlite.Value).IsNil", "internal/reflectlite.TypeOf", "(internal/reflectlite.Value).Elem", "(internal/reflectlite.Value).Set"], unfollowed := true, recurses := true, named := ["unicode/utf8.first", "unicode/utf8.acceptRanges", "internal/bytealg.MaxLen", "errors.errorType"], apart := false, laid := [("unicode/utf8.acceptRanges", laid_unicode_utf8_acceptRanges), ("errors.errorType", laid_errors_errorType), ("unicode/utf8.first", laid_unicode_utf8_first)], narrowed := true }
def RouteNextsUptoSaid : Prop := routeNextsUptoRow.holds Tryd.pinned (OpenSpec.upto routeNextsSpec)

end Rows
end Go.Proofs.YtagighbfodlcjaaDoor
