/-
  TextTells: text.Tell tells each command's robot and cell in decimal, one command a line, as the reference does: the law returns true at every slice of commands. The row lists package variables of Go's library, tied to the program's text.
-/
import Derived.Test.YtedgoagonagdjaaDoorRowText
import Derived.Test.YtedgoagonagdjaaDoorTells
import Derived.Deep.Slices
import Derived.Carry
import Derived.OpenShut
import Derived.Test.YtedgoagonagdjaaDoorTie
import Derived.Test.YtedgoagonagdjaaDoorCards
namespace Go.Proofs.YtedgoagonagdjaaDoor
open Go.Deep
open Go.ChangeShapes Go.WideShapes Go.ChangeAt Go.WideMaps Go.WideElems Go.RowKit
open Go.ChangeMaps (setBlock shut_map_nil open_string shut_string keptBut_setBlock frozen?_setBlock heap_setBlock_same)


theorem laidOut : laidOutB Tryd.prog = true := by kernel_rfl
theorem cellsCommand : Tryd.prog.cellsOf 41 = 2 := by kernel_rfl

set_option maxRecDepth 100000 in
/-- a command, read -/
theorem open_command {H : Type} {enc : TypeId × Value → H} {w : World} {base n : Nat} {spare : Nat → Bool} {held : Bool} {cs : List Value} {x : DataW H × List MemPlace}
    (h : DataW.trod enc Tryd.prog w base spare held n 41 cs = some x) : ∃ z : Int × Int, cs = [.int .i64 z.1, .int .i64 z.2] ∧ Wide z := by
  obtain ⟨y0, y1, m, _, hl, h0, h1⟩ := trod_struct2 Tryd.underlying41 h
  rw [cellsCommand] at hl
  obtain ⟨c0, c1, rfl⟩ : ∃ c0 c1, cs = [c0, c1] := by
    match cs, hl with
    | [c0, c1], _ => exact ⟨c0, c1, rfl⟩
  obtain ⟨a, e0, _, wa⟩ := DataW.trod_int Tryd.underlying3 h0
  obtain ⟨b, e1, _, wb⟩ := DataW.trod_int Tryd.underlying3 h1
  have hc3 : Tryd.prog.cellsOf 3 = 1 := by kernel_rfl
  rw [hc3] at e0 e1
  simp at e0 e1
  subst e0; subst e1
  exact ⟨(a, b), rfl, bounds_i64 wa, bounds_i64 wb⟩

set_option maxRecDepth 100000 in
theorem tells_lifted (os : Os) (started : os.Started) (H : Type) (enc : TypeId × Value → H) :
    ReturnsInHanded {} Tryd.checked os 6 .any (fun w args => (Rows.textTellsSpec.pre enc Tryd.prog Tryd.f6 [] false w args ∧ laidMetH Tryd.prog laid8 w) ∧ sizedMet enc Tryd.prog Tryd.f6 (OpenSpec.ofChange Rows.textTellsSpec) false w args)
      (Rows.textTellsSpec.post enc Tryd.prog Tryd.f6 false true false false) := by
  refine returns_shaped (C := Tryd.checked) (X := fun w _ => laidMetH Tryd.prog laid8 w) (fun _ _ _ hh h => h.of_heap hh) own started (by kernel_rfl) Tryd.func6
    (ChangeSpec.witness_shaped (enc := enc) (C := Tryd.checked) (os := os) (X := fun w _ => laidMetH Tryd.prog laid8 w) false (laidWorld os) #[.slice none 0 0] 8 rfl (laidWorld_shaped os _) (by kernel_rfl) (by kernel_rfl) (by kernel_rfl) (laidWorld_met os _)) ?_
  intro W base args ds gs before hval0 hW _ _ hL hS _
  have hval : ∀ (j : Nat) t v, Tryd.f6.params[j]? = some t → args[j]? = some v → Value.okWide Tryd.prog W .any base t v := hval0
  have hW' := hW
  obtain ⟨p, q, hA0, hV, rfl, hfz, hnd⟩ := hW
  have hA : DataW.TrodAll enc Tryd.prog W 0 (fun _ => true) true Tryd.f6.params.toList args.toList ds p := hA0
  rw [Tryd.params6] at hA hval
  obtain ⟨v0, d0, rfl, rfl, h0⟩ := trodAll_one hA
  obtain ⟨rfl, rfl⟩ := trodVars_none hV
  obtain ⟨a0, len, cap, rfl⟩ := okWide_slice Tryd.underlying38 (hval 0 _ v0 rfl rfl)
  have h0k := h0
  obtain ⟨fuel, hf⟩ := h0
  have hv := vars_of_laid hL hS
  simp only [List.append_nil] at hW'
  have hlt : ∀ x ∈ p, x.block < W.heap.size := fun x hx => by simpa using hW'.lt x hx
  have e1 : Rows.textTellsSpec.fn H ([d0] ++ []) = { results := [.lit (.bool true)], args := [d0] } := by simp [Rows.textTellsSpec]
  have fin : ∀ (e : Ending) (W' : World), e = .returned (.bool true) ∧ Below W.heap.size W W' →
      ∃ v, e = .returned v ∧ Rows.textTellsSpec.post enc Tryd.prog Tryd.f6 false true false false W #[.slice a0 len cap] v W' := by
    rintro e W' ⟨rfl, hb⟩
    refine ⟨_, rfl, _, _, _, [], p, [], hW', ?_, ?_, ?_, hb.frame _, fun h => by cases h⟩
    · rw [e1]; exact trodAll_mk1 (shut_bool Tryd.underlying4 true)
    · rw [e1]; exact trodAll_mk1 (Below.trod laidOut (by kernel_rfl) (of_decide_eq_true (by kernel_rfl)) h0k hb hlt)
    · rw [e1]; rfl
  by_cases hlong : 60 < len
  · exact (tells_long a0 len cap hlong W hv).mono fin
  rcases open_slice Tryd.underlying38 hf with ⟨hcs, _⟩ | ⟨a, len', cap', m, n, D, Pl, hcs, _, hl, hm, hmm, _, hel⟩
  · simp only [Value.cells, List.cons.injEq, Value.slice.injEq, and_true] at hcs
    obtain ⟨rfl, rfl, rfl⟩ := hcs
    exact (tells_nil none 0 W hv).mono fin
  · simp only [Value.cells, List.cons.injEq, Value.slice.injEq, and_true] at hcs
    obtain ⟨rfl, rfl, rfl⟩ := hcs
    cases len with
    | zero => exact (tells_nil (some a) cap W hv).mono fin
    | succ len =>
      simp only [if_true] at hmm
      have hel' : ∀ i, i < len + 1 → ∃ z : Int × Int, Wide z ∧ W.cell? (a.add (i * 2)) = some (.int .i64 z.1) ∧ W.cell? ((a.add (i * 2)).add 1) = some (.int .i64 z.2) := by
        intro i hi
        obtain ⟨cs', h1, h2⟩ := hel i (by rw [hmm]; omega)
        obtain ⟨z, rfl, hz⟩ := open_command h2
        rw [cellsCommand] at h1
        obtain ⟨_, _, hg⟩ := World.cells?_some h1
        exact ⟨z, hz, by have := hg 0 (by omega); simpa [Addr.add] using this, by have := hg 1 (by omega); simpa using this⟩
      obtain ⟨Z, hZ⟩ := choose_lt hel'
      have hsp : a.spot = none := by
        have := (hZ 0 (by omega)).2.1
        simp only [Nat.zero_mul, Addr.add, if_true] at this
        unfold World.cell? at this
        split at this
        · cases hs : a.spot with
          | none => rfl
          | some _ => rw [hs] at this; simp at this
        · cases this
      obtain ⟨b, off, sp⟩ := a
      simp only at hsp
      subst hsp
      have hadd : ∀ o j, (⟨b, o, none⟩ : Addr).add j = ⟨b, o + j, none⟩ := fun o j => by unfold Addr.add; split <;> simp_all
      have hbw : b < W.heap.size := by
        have := (hZ 0 (by omega)).2.1
        rw [hadd] at this
        unfold World.cell? at this
        split at this
        · rename_i hh; exact (Array.getElem?_eq_some_iff.1 hh).1
        · cases this
      have hll : ((List.range (len + 1)).map Z).length = len + 1 := by simp
      have key := tells_any ((List.range (len + 1)).map Z) (fun z hz => by
        obtain ⟨i, hi, rfl⟩ := List.mem_map.1 hz
        exact (hZ i (List.mem_range.1 hi)).1) (by rw [hll]; omega) b off cap W hv hbw (fun i hi => by
        rw [hll] at hi
        have h := hZ i hi
        rw [hadd, hadd] at h
        simpa using h.2)
      rw [hll] at key
      exact key.mono fin

theorem tells_holds : Rows.TextTellsSaid :=
  OpenClaim.holds_of_wide 6 Tryd.f6 rfl rfl rfl rfl rfl rfl rfl ⟨rfl, rfl, rfl, rfl, rfl⟩ rfl rfl rfl rfl rfl (by kernel_rfl) Tryd.func6 (by kernel_rfl)
    (of_decide_eq_true (by kernel_rfl)) (by unfold Func.isWrapper; rw [if_neg (of_decide_eq_false (by kernel_rfl))]; exact ⟨rfl, rfl⟩)
    (fun os started H enc _ => tells_lifted os started H enc)

theorem tells_card : Rows.TextTellsCardSaid :=
  Claim7.holds_tied_plain_at .later [] [.data, .data, .data, .data, .handle, .sentinel, .sentinel, .pinned] true (true, "21450f126c6002248aef50938e327199e5f58db2e406999577dc27a49d5e4f50") true
    tells_holds (fun _ h => by cases h) (by kernel_rfl) (fun _ h => by cases h) textTells_row_tie rfl ⟨rfl, rfl⟩ (by kernel_rfl) rfl
    (fun f fn hf hfn => by
      obtain rfl : f = 6 := Option.some.inj ((show Tryd.prog.funcNamed "dynamo/dynamolaw25.TextTells" = some 6 by kernel_rfl).symm.trans hf) |>.symm
      obtain rfl : fn = Tryd.f6 := (Option.some.inj (Tryd.func6.symm.trans hfn)).symm
      exact ⟨by kernel_rfl, fun j t ht => by
        rw [Tryd.params6] at ht
        have h3 : t = 38 := by
          rcases j with _ | j
          · simpa using ht.symm
          · simp at ht
        subst h3
        exact (show Tryd.prog.wantsStandIn 38 = false by kernel_rfl)⟩)
    (by kernel_rfl)
#print axioms tells_card
end Go.Proofs.YtedgoagonagdjaaDoor
