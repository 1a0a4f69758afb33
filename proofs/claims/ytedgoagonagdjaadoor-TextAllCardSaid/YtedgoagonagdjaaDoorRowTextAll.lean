/-
  TextAll: text.All of any text of up to 3000 bytes answers the acts of its lines, one by one, or the number of the first line that is none with ErrForm; of a text that is too long it answers ErrSize: the law returns true at every string. The row lists package variables of Go's library, tied to the program's text.
-/
import Derived.Test.YtedgoagonagdjaaDoorRowText
import Derived.Test.YtedgoagonagdjaaDoorTextAll
import Derived.Test.YtedgoagonagdjaaDoorTie
import Derived.Test.YtedgoagonagdjaaDoorCards
namespace Go.Proofs.YtedgoagonagdjaaDoor
open Go.ChangeShapes Go.WideShapes Go.ChangeAt Go.WideMaps Go.WideElems Go.RowKit
open Go.ChangeMaps (setBlock shut_map_nil open_string shut_string keptBut_setBlock frozen?_setBlock heap_setBlock_same)

set_option maxRecDepth 100000 in
theorem textall_lifted (os : Os) (started : os.Started) (H : Type) (enc : TypeId × Value → H) :
    ReturnsInHanded {} Tryd.checked os 7 .any (fun w args => (Rows.textAllSpec.pre enc Tryd.prog Tryd.f7 [] false w args ∧ laidMetH Tryd.prog laid8 w) ∧ sizedMet enc Tryd.prog Tryd.f7 (OpenSpec.ofChange Rows.textAllSpec) false w args)
      (Rows.textAllSpec.post enc Tryd.prog Tryd.f7 false true false false) := by
  refine returns_shaped (C := Tryd.checked) (X := fun w _ => laidMetH Tryd.prog laid8 w) (fun _ _ _ hh h => h.of_heap hh) own started (by kernel_rfl) Tryd.func7
    (ChangeSpec.witness_shaped (enc := enc) (C := Tryd.checked) (os := os) (X := fun w _ => laidMetH Tryd.prog laid8 w) false (laidWorld os) #[.string ⟨#[]⟩] 8 rfl (laidWorld_shaped os _) (by kernel_rfl) (by kernel_rfl) (by kernel_rfl) (laidWorld_met os _)) ?_
  intro W base args ds gs before hval0 hW _ _ hL hS _
  have hval : ∀ (j : Nat) t v, Tryd.f7.params[j]? = some t → args[j]? = some v → Value.okWide Tryd.prog W .any base t v := hval0
  have hW' := hW
  obtain ⟨p, q, hA0, hV, rfl, hfz, hnd⟩ := hW
  have hA : DataW.TrodAll enc Tryd.prog W 0 (fun _ => true) true Tryd.f7.params.toList args.toList ds p := hA0
  rw [Tryd.params7] at hA hval
  obtain ⟨v0, d0, rfl, rfl, h0⟩ := trodAll_one hA
  obtain ⟨rfl, rfl⟩ := trodVars_none hV
  obtain ⟨s, rfl, rfl, rfl, hs⟩ := open_string Tryd.underlying9 (hval 0 9 v0 rfl rfl) h0
  have hv := vars_of_laid hL hS
  simp only [List.append_nil] at hW'
  refine (textall_law s W hv).mono fun e W' ⟨he, hb⟩ => ?_
  subst he
  have e1 : Rows.textAllSpec.fn H ([.lit (.string s.data.toList)] ++ []) = { results := [.lit (.bool true)], args := [.lit (.string s.data.toList)] } := by simp [Rows.textAllSpec]
  refine ⟨_, rfl, _, _, _, [], [], [], hW', ?_, ?_, ?_, hb.frame _, fun h => by cases h⟩
  · rw [e1]; exact trodAll_mk1 (shut_bool Tryd.underlying4 true)
  · rw [e1]; exact trodAll_mk1 (shut_string Tryd.underlying9 hs)
  · rw [e1]; rfl

theorem textall_holds : Rows.TextAllSaid :=
  OpenClaim.holds_of_wide 7 Tryd.f7 rfl rfl rfl rfl rfl rfl rfl ⟨rfl, rfl, rfl, rfl, rfl⟩ rfl rfl rfl rfl rfl (by kernel_rfl) Tryd.func7 (by kernel_rfl)
    (of_decide_eq_true (by kernel_rfl)) (by unfold Func.isWrapper; rw [if_neg (of_decide_eq_false (by kernel_rfl))]; exact ⟨rfl, rfl⟩)
    (fun os started H enc _ => textall_lifted os started H enc)

theorem textall_card : Rows.TextAllCardSaid :=
  Claim7.holds_tied_plain_at .later [] [.data, .data, .data, .data, .handle, .sentinel, .sentinel, .pinned] true (true, "21450f126c6002248aef50938e327199e5f58db2e406999577dc27a49d5e4f50") true
    textall_holds (fun _ h => by cases h) (by kernel_rfl) (fun _ h => by cases h) textAll_row_tie rfl ⟨rfl, rfl⟩ (by kernel_rfl) rfl
    (fun f fn hf hfn => by
      obtain rfl : f = 7 := Option.some.inj ((show Tryd.prog.funcNamed "dynamo/dynamolaw25.TextAll" = some 7 by kernel_rfl).symm.trans hf) |>.symm
      obtain rfl : fn = Tryd.f7 := (Option.some.inj (Tryd.func7.symm.trans hfn)).symm
      exact ⟨by kernel_rfl, fun j t ht => by
        rw [Tryd.params7] at ht
        have h3 : t = 9 := by
          rcases j with _ | j
          · simpa using ht.symm
          · simp at ht
        subst h3
        exact (show Tryd.prog.wantsStandIn 9 = false by kernel_rfl)⟩)
    (by kernel_rfl)
#print axioms textall_card
end Go.Proofs.YtedgoagonagdjaaDoor
