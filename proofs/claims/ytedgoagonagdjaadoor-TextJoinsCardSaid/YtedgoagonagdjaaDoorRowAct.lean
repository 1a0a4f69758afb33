/-
  An act as an argument: opened, and shut again.
-/
import Derived.Test.YtedgoagonagdjaaDoorRowText
import Derived.Test.YtedgoagonagdjaaDoorPlain2
import Derived.Lib.SmallJoins
import Derived.OpenShut
namespace Go.Proofs.YtedgoagonagdjaaDoor
open Go.ChangeShapes Go.WideShapes Go.RowKit Go.Joins
open Go.ChangeMaps (open_string shut_string)
variable {H : Type} {enc : TypeId × Value → H}

abbrev actD (nm : ByteArray) (t : Abc) : DataW H := .agg [.lit (.string nm.data.toList), .lit (.int .i64 t.a), .lit (.int .i64 t.b), .lit (.int .i64 t.c)]
abbrev actV (nm : ByteArray) (t : Abc) : Value := .agg #[.string nm, .int .i64 t.a, .int .i64 t.b, .int .i64 t.c]

theorem wf_i64 {n : Int} (h0 : -9223372036854775808 ≤ n) (h1 : n ≤ 9223372036854775807) : (Lit.int .i64 n).wf = true := by
  simp [Lit.wf, IntKind.min, IntKind.max, IntKind.signed, IntKind.bits]
  omega

theorem cellsAct : Tryd.prog.cellsOf 23 = 4 := by kernel_rfl

set_option maxRecDepth 100000 in
theorem open_act {w : World} {r : Reach} {b0 base : Nat} {spare : Nat → Bool} {held : Bool} {v : Value} {d : DataW H} {p : List MemPlace}
    (hv : Value.okWide Tryd.prog w r b0 23 v) (h : DataW.Trod enc Tryd.prog w base spare held 23 v d p) :
    ∃ (nm : ByteArray) (t : Abc), v = actV nm t ∧ d = actD nm t ∧ p = [] ∧ t.ok ∧ nm.size ≤ maxLen := by
  obtain ⟨v0, v1, v2, v3, y0, y1, y2, y3, n, rfl, rfl, rfl, h0, h1, h2, h3⟩ := open_agg4 Tryd.underlying23 (by kernel_rfl) cellsAct hv h
  obtain ⟨s, e0, rfl, hs⟩ := DataW.trod_string Tryd.underlying9 h0
  obtain ⟨a, e1, rfl, wa⟩ := DataW.trod_int Tryd.underlying3 h1
  obtain ⟨b, e2, rfl, wb⟩ := DataW.trod_int Tryd.underlying3 h2
  obtain ⟨c, e3, rfl, wc⟩ := DataW.trod_int Tryd.underlying3 h3
  simp only [List.cons.injEq, and_true] at e0 e1 e2 e3
  subst e0; subst e1; subst e2; subst e3
  refine ⟨s, ⟨a, b, c⟩, rfl, rfl, rfl, ?_, hs⟩
  exact ⟨(bounds_i64 wa).1, (bounds_i64 wa).2, (bounds_i64 wb).1, (bounds_i64 wb).2, (bounds_i64 wc).1, (bounds_i64 wc).2⟩

set_option maxRecDepth 100000 in
theorem shut_act {w : World} {base : Nat} {spare : Nat → Bool} {held : Bool} {nm : ByteArray} {t : Abc} (hs : nm.size ≤ maxLen) (ht : t.ok) :
    DataW.Trod enc Tryd.prog w base spare held 23 (actV nm t) (actD nm t) [] :=
  shut_agg4 (y0 := (.lit (.string nm.data.toList), [])) (y1 := (.lit (.int .i64 t.a), [])) (y2 := (.lit (.int .i64 t.b), [])) (y3 := (.lit (.int .i64 t.c), [])) Tryd.underlying23 (by kernel_rfl) cellsAct
    ⟨1, by simp [DataW.trod, Tryd.underlying9, hs]⟩
    ⟨1, by simp [DataW.trod, Tryd.underlying3, wf_i64 ht.a0 ht.a1]⟩ ⟨1, by simp [DataW.trod, Tryd.underlying3, wf_i64 ht.b0 ht.b1]⟩ ⟨1, by simp [DataW.trod, Tryd.underlying3, wf_i64 ht.c0 ht.c1]⟩
end Go.Proofs.YtedgoagonagdjaaDoor
