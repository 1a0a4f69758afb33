/-
  GridBack: what grid.Lay lays of a right map grid.Parse reads as that map, a map that is not right is refused with ErrArg; a text that grid.Parse reads is laid by grid.Lay as it stands there, what it does not read is refused with ErrForm: the law returns true at every map and every string. The row lists package variables of Go's library, tied to the program's text.
-/
import Derived.Test.YtagighbfodlcjaaDoorGRowMap
import Derived.Test.YtagighbfodlcjaaDoorGBack
import Derived.Test.YtagighbfodlcjaaDoorTie
import Derived.Test.YtagighbfodlcjaaDoorCards
namespace Go.Proofs.YtagighbfodlcjaaDoor
open Go.ChangeShapes Go.WideShapes Go.ChangeAt Go.WideMaps Go.WideElems Go.RowKit
open Go.ChangeMaps (setBlock shut_map_nil open_string shut_string keptBut_setBlock frozen?_setBlock heap_setBlock_same)

set_option maxRecDepth 100000 in
theorem back_lifted (os : Os) (started : os.Started) (H : Type) (enc : TypeId × Value → H) :
    ReturnsInHanded {} Tryd.checked os 3 .any (fun w args => (Rows.gridBackSpec.pre enc Tryd.prog Tryd.f3 [] false w args ∧ laidMetH Tryd.prog laid3 w) ∧ sizedMet enc Tryd.prog Tryd.f3 (OpenSpec.ofChange Rows.gridBackSpec) false w args)
      (Rows.gridBackSpec.post enc Tryd.prog Tryd.f3 false true false false) := by
  refine returns_shaped (C := Tryd.checked) (X := fun w _ => laidMetH Tryd.prog laid3 w) (fun _ _ _ hh h => h.of_heap hh) own started (by kernel_rfl) Tryd.func3
    (ChangeSpec.witness_shaped (enc := enc) (C := Tryd.checked) (os := os) (X := fun w _ => laidMetH Tryd.prog laid3 w) false (laidWorld os) #[mapV 0 0 ⟨#[]⟩, .string ⟨#[]⟩] 8 rfl (laidWorld_shaped os _) (by kernel_rfl) (by kernel_rfl) (by kernel_rfl) (laidWorld_met os _)) ?_
  intro W base args ds gs before hval0 hW _ _ hL hS _
  have hval : ∀ (j : Nat) t v, Tryd.f3.params[j]? = some t → args[j]? = some v → Value.okWide Tryd.prog W .any base t v := hval0
  have hW' := hW
  obtain ⟨p, q, hA0, hV, rfl, hfz, hnd⟩ := hW
  have hA : DataW.TrodAll enc Tryd.prog W 0 (fun _ => true) true Tryd.f3.params.toList args.toList ds p := hA0
  rw [Tryd.params3] at hA hval
  obtain ⟨v0, v1, d0, d1, p0, p1, rfl, rfl, rfl, h0, h1⟩ := trodAll_two hA
  obtain ⟨rfl, rfl⟩ := trodVars_none hV
  obtain ⟨x, y, c, rfl, rfl, rfl, wx, wy, hc⟩ := open_map3 (hval 0 _ v0 rfl rfl) h0
  obtain ⟨s, rfl, rfl, rfl, hs⟩ := open_string Tryd.underlying9 (hval 1 _ v1 rfl rfl) h1
  have hv := vars_of_laid hL hS
  simp only [List.append_nil] at hW'
  refine (back_any x y c s W hv).mono fun e W' ⟨he, hb⟩ => ?_
  subst he
  have e1 : Rows.gridBackSpec.fn H ([mapD x y c, .lit (.string s.data.toList)] ++ []) = { results := [.lit (.bool true)], args := [mapD x y c, .lit (.string s.data.toList)] } := by simp [Rows.gridBackSpec]
  refine ⟨_, rfl, _, _, _, [], [], [], hW', ?_, ?_, ?_, hb.frame _, fun h => by cases h⟩
  · rw [e1]; exact trodAll_mk1 (shut_bool Tryd.underlying4 true)
  · rw [e1]; exact trodAll_mk2 (shut_map3 wx wy hc) (shut_string Tryd.underlying9 hs)
  · rw [e1]; rfl

theorem back_holds : Rows.GridBackSaid :=
  OpenClaim.holds_of_wide 3 Tryd.f3 rfl rfl rfl rfl rfl rfl rfl ⟨rfl, rfl, rfl, rfl, rfl⟩ rfl rfl rfl rfl rfl (by kernel_rfl) Tryd.func3 (by kernel_rfl)
    (of_decide_eq_true (by kernel_rfl)) (by unfold Func.isWrapper; rw [if_neg (of_decide_eq_false (by kernel_rfl))]; exact ⟨rfl, rfl⟩)
    (fun os started H enc _ => back_lifted os started H enc)

theorem back_card : Rows.GridBackCardSaid :=
  Claim7.holds_tied_plain_at .later [] [.data, .handle, .pinned] true (true, "05326b2d036f11d37873cc89c450f7e180a8c7c93db24326c302242d14e67ca9") true
    back_holds (fun _ h => by cases h) (by kernel_rfl) (fun _ h => by cases h) gridBack_row_tie rfl ⟨rfl, rfl⟩ (by kernel_rfl) rfl
    (fun f fn hf hfn => by
      obtain rfl : f = 3 := Option.some.inj ((show Tryd.prog.funcNamed "dynamo/dynamolaw14.GridBack" = some 3 by kernel_rfl).symm.trans hf) |>.symm
      obtain rfl : fn = Tryd.f3 := (Option.some.inj (Tryd.func3.symm.trans hfn)).symm
      exact ⟨by kernel_rfl, fun j t ht => by
        rw [Tryd.params3] at ht
        rcases j with _ | _ | j
        · have h3 : t = 23 := by simpa using ht.symm
          subst h3
          exact (show Tryd.prog.wantsStandIn 23 = false by kernel_rfl)
        · have h3 : t = 9 := by simpa using ht.symm
          subst h3
          exact (show Tryd.prog.wantsStandIn 9 = false by kernel_rfl)
        · simp at ht⟩)
    (by kernel_rfl)
#print axioms back_card
end Go.Proofs.YtagighbfodlcjaaDoor
