/-
  A map of the reference's as an argument: opened, and shut again.
-/
import Derived.Test.YtagighbfodlcjaaDoorGRowText
import Derived.Lib.SmallJoins
import Derived.OpenShut
namespace Go.Proofs.YtagighbfodlcjaaDoor
open Go.ChangeShapes Go.WideShapes Go.RowKit Go.Joins
open Go.ChangeMaps (open_string shut_string)
variable {H : Type} {enc : TypeId × Value → H}

abbrev mapD (x y : Int) (c : ByteArray) : DataW H := .agg [.lit (.int .i64 x), .lit (.int .i64 y), .lit (.string c.data.toList)]
abbrev mapV (x y : Int) (c : ByteArray) : Value := .agg #[.int .i64 x, .int .i64 y, .string c]

theorem wf_i64 {n : Int} (h0 : -9223372036854775808 ≤ n) (h1 : n ≤ 9223372036854775807) : (Lit.int .i64 n).wf = true := by
  simp [Lit.wf, IntKind.min, IntKind.max, IntKind.signed, IntKind.bits]
  omega

theorem cellsMap : Tryd.prog.cellsOf 23 = 3 := by kernel_rfl

def Wide64 (n : Int) : Prop := -9223372036854775808 ≤ n ∧ n ≤ 9223372036854775807

set_option maxRecDepth 100000 in
theorem open_map3 {w : World} {r : Reach} {b0 base : Nat} {spare : Nat → Bool} {held : Bool} {v : Value} {d : DataW H} {p : List MemPlace}
    (hv : Value.okWide Tryd.prog w r b0 23 v) (h : DataW.Trod enc Tryd.prog w base spare held 23 v d p) :
    ∃ (x y : Int) (c : ByteArray), v = mapV x y c ∧ d = mapD x y c ∧ p = [] ∧ Wide64 x ∧ Wide64 y ∧ c.size ≤ maxLen := by
  obtain ⟨v0, v1, v2, y0, y1, y2, n, rfl, rfl, rfl, h0, h1, h2⟩ := open_agg3 Tryd.underlying23 (by kernel_rfl) cellsMap hv h
  obtain ⟨a, e0, rfl, wa⟩ := DataW.trod_int Tryd.underlying3 h0
  obtain ⟨b, e1, rfl, wb⟩ := DataW.trod_int Tryd.underlying3 h1
  obtain ⟨s, e2, rfl, hs⟩ := DataW.trod_string Tryd.underlying9 h2
  simp only [List.cons.injEq, and_true] at e0 e1 e2
  subst e0; subst e1; subst e2
  exact ⟨a, b, s, rfl, rfl, rfl, bounds_i64 wa, bounds_i64 wb, hs⟩

set_option maxRecDepth 100000 in
theorem shut_map3 {w : World} {base : Nat} {spare : Nat → Bool} {held : Bool} {x y : Int} {c : ByteArray} (hx : Wide64 x) (hy : Wide64 y) (hc : c.size ≤ maxLen) :
    DataW.Trod enc Tryd.prog w base spare held 23 (mapV x y c) (mapD x y c) [] :=
  shut_agg3 (y0 := (.lit (.int .i64 x), [])) (y1 := (.lit (.int .i64 y), [])) (y2 := (.lit (.string c.data.toList), [])) Tryd.underlying23 (by kernel_rfl) cellsMap
    ⟨1, by simp [DataW.trod, Tryd.underlying3, wf_i64 hx.1 hx.2]⟩ ⟨1, by simp [DataW.trod, Tryd.underlying3, wf_i64 hy.1 hy.2]⟩ ⟨1, by simp [DataW.trod, Tryd.underlying9, hc]⟩
end Go.Proofs.YtagighbfodlcjaaDoor
