/-
  TextBack: text.Lay lays any act's request as the reference does and refuses what is none, and text.Read reads what is laid as it was: the law returns true at every act. The row lists package variables of Go's library, tied to the program's text.
-/
import Derived.Test.YtedgoagonagdjaaDoorRowAct
import Derived.Test.YtedgoagonagdjaaDoorBack
import Derived.Test.YtedgoagonagdjaaDoorTie
import Derived.Test.YtedgoagonagdjaaDoorCards
namespace Go.Proofs.YtedgoagonagdjaaDoor
open Go.ChangeShapes Go.WideShapes Go.ChangeAt Go.WideMaps Go.WideElems Go.RowKit
open Go.ChangeMaps (setBlock shut_map_nil open_string shut_string keptBut_setBlock frozen?_setBlock heap_setBlock_same)

set_option maxRecDepth 100000 in
theorem back_lifted (os : Os) (started : os.Started) (H : Type) (enc : TypeId × Value → H) :
    ReturnsInHanded {} Tryd.checked os 3 .any (fun w args => (Rows.textBackSpec.pre enc Tryd.prog Tryd.f3 [] false w args ∧ laidMetH Tryd.prog laid8 w) ∧ sizedMet enc Tryd.prog Tryd.f3 (OpenSpec.ofChange Rows.textBackSpec) false w args)
      (Rows.textBackSpec.post enc Tryd.prog Tryd.f3 false true false false) := by
  refine returns_shaped (C := Tryd.checked) (X := fun w _ => laidMetH Tryd.prog laid8 w) (fun _ _ _ hh h => h.of_heap hh) own started (by kernel_rfl) Tryd.func3
    (ChangeSpec.witness_shaped (enc := enc) (C := Tryd.checked) (os := os) (X := fun w _ => laidMetH Tryd.prog laid8 w) false (laidWorld os) #[actV ⟨#[]⟩ ⟨0, 0, 0⟩] 8 rfl (laidWorld_shaped os _) (by kernel_rfl) (by kernel_rfl) (by kernel_rfl) (laidWorld_met os _)) ?_
  intro W base args ds gs before hval0 hW _ _ hL hS _
  have hval : ∀ (j : Nat) t v, Tryd.f3.params[j]? = some t → args[j]? = some v → Value.okWide Tryd.prog W .any base t v := hval0
  have hW' := hW
  obtain ⟨p, q, hA0, hV, rfl, hfz, hnd⟩ := hW
  have hA : DataW.TrodAll enc Tryd.prog W 0 (fun _ => true) true Tryd.f3.params.toList args.toList ds p := hA0
  rw [Tryd.params3] at hA hval
  obtain ⟨v0, d0, rfl, rfl, h0⟩ := trodAll_one hA
  obtain ⟨rfl, rfl⟩ := trodVars_none hV
  obtain ⟨n1, t1, rfl, rfl, rfl, ok1, hs1⟩ := open_act (hval 0 _ v0 rfl rfl) h0
  have hv := vars_of_laid hL hS
  simp only [List.append_nil] at hW'
  refine (back_any n1 t1 ok1 W hv).mono fun e W' ⟨he, hb⟩ => ?_
  subst he
  have e1 : Rows.textBackSpec.fn H ([actD n1 t1] ++ []) = { results := [.lit (.bool true)], args := [actD n1 t1] } := by simp [Rows.textBackSpec]
  refine ⟨_, rfl, _, _, _, [], [], [], hW', ?_, ?_, ?_, hb.frame _, fun h => by cases h⟩
  · rw [e1]; exact trodAll_mk1 (shut_bool Tryd.underlying4 true)
  · rw [e1]; exact trodAll_mk1 (shut_act hs1 ok1)
  · rw [e1]; rfl

theorem back_holds : Rows.TextBackSaid :=
  OpenClaim.holds_of_wide 3 Tryd.f3 rfl rfl rfl rfl rfl rfl rfl ⟨rfl, rfl, rfl, rfl, rfl⟩ rfl rfl rfl rfl rfl (by kernel_rfl) Tryd.func3 (by kernel_rfl)
    (of_decide_eq_true (by kernel_rfl)) (by unfold Func.isWrapper; rw [if_neg (of_decide_eq_false (by kernel_rfl))]; exact ⟨rfl, rfl⟩)
    (fun os started H enc _ => back_lifted os started H enc)

theorem back_card : Rows.TextBackCardSaid :=
  Claim7.holds_tied_plain_at .later [] [.data, .data, .data, .data, .handle, .sentinel, .sentinel, .pinned] true (true, "21450f126c6002248aef50938e327199e5f58db2e406999577dc27a49d5e4f50") true
    back_holds (fun _ h => by cases h) (by kernel_rfl) (fun _ h => by cases h) textBack_row_tie rfl ⟨rfl, rfl⟩ (by kernel_rfl) rfl
    (fun f fn hf hfn => by
      obtain rfl : f = 3 := Option.some.inj ((show Tryd.prog.funcNamed "dynamo/dynamolaw25.TextBack" = some 3 by kernel_rfl).symm.trans hf) |>.symm
      obtain rfl : fn = Tryd.f3 := (Option.some.inj (Tryd.func3.symm.trans hfn)).symm
      exact ⟨by kernel_rfl, fun j t ht => by
        rw [Tryd.params3] at ht
        have h3 : t = 23 := by
          rcases j with _ | j
          · simpa using ht.symm
          · simp at ht
        subst h3
        exact (show Tryd.prog.wantsStandIn 23 = false by kernel_rfl)⟩)
    (by kernel_rfl)
#print axioms back_card
end Go.Proofs.YtedgoagonagdjaaDoor
