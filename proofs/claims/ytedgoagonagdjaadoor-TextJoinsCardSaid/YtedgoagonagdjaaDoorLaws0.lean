/-
  The laws' example (awake), and Of.
-/
import Derived.Test.YtedgoagonagdjaaDoorLayB
namespace Go.Proofs.YtedgoagonagdjaaDoor
open Go.RowKit Go.Sort

theorem of_any (nm : ByteArray) (a b c : Int) (w : World) :
    Calls Tryd.prog 11 #[.agg #[.string nm, .int .i64 a, .int .i64 b, .int .i64 c]] w fun e w' =>
      e = .returned (.agg #[.string nm, .int .i64 a, .int .i64 b, .int .i64 c]) ∧ Below w.heap.size w w' := by
  go_enter Tryd.func11, Tryd.ntmps11
  go_wp2
  refine bodyPost_ret (v := .agg #[.string nm, .int .i64 a, .int .i64 b, .int .i64 c]) (by simp [results, Tryd.results11, go_sem]) rfl ⟨rfl, ?_⟩
  exact ((Below.refl _ _).alloc (Nat.le_refl _) _).alloc (by simp) _

theorem example_reads : readP ⟨#[116, 101, 108, 108, 32, 49, 32, 53, 48, 10]⟩ = some (⟨#[116, 101, 108, 108]⟩, ⟨1, 50, 0⟩) := by kernel_rfl

theorem awake_any (w : World) (hv : Vars w) :
    Calls Tryd.prog 9 #[] w fun e w' => e = .returned (.bool true) ∧ Below w.heap.size w w' := by
  go_enter Tryd.func9, Tryd.ntmps9
  go_wp2_with fail
  refine (read_some _ _ _ (by decide) example_reads _ hv).mono ?_
  rintro e w1 ⟨rfl, hB1⟩
  go_wp2_with fail
  refine (num_nil _).mono ?_
  rintro e w2 ⟨rfl, rfl⟩
  go_wp2_with fail
  go_ret
  exact ⟨rfl, hB1.trans ((Below.refl _ _).alloc hB1.size _)⟩
end Go.Proofs.YtedgoagonagdjaaDoor
