/-
  TextJoins: the texts of requests, one behind the other, are read by text.All as the acts of both lists: the law returns true at any two slices of acts. The row lists package variables of Go's library, tied to the program's text.
-/
import Derived.Test.YtedgoagonagdjaaDoorRowAct
import Derived.Test.YtedgoagonagdjaaDoorJoins
import Derived.Deep.Slices
import Derived.Carry
import Derived.OpenShut
import Derived.Test.YtedgoagonagdjaaDoorTie
import Derived.Test.YtedgoagonagdjaaDoorCards
namespace Go.Proofs.YtedgoagonagdjaaDoor
open Go.Deep
open Go.ChangeShapes Go.WideShapes Go.ChangeAt Go.WideMaps Go.WideElems Go.RowKit Go.Joins
open Go.ChangeMaps (setBlock shut_map_nil open_string shut_string keptBut_setBlock frozen?_setBlock heap_setBlock_same)

theorem laidOut : laidOutB Tryd.prog = true := by kernel_rfl

set_option maxRecDepth 100000 in
/-- an act of a slice, read -/
theorem open_act_cells {H : Type} {enc : TypeId × Value → H} {w : World} {base n : Nat} {spare : Nat → Bool} {held : Bool} {cs : List Value} {x : DataW H × List MemPlace}
    (h : DataW.trod enc Tryd.prog w base spare held n 23 cs = some x) : ∃ z : ByteArray × Abc, cs = actCells z ∧ z.2.ok := by
  obtain ⟨y0, y1, y2, y3, m, _, hl, h0, h1, h2, h3⟩ := trod_struct4 Tryd.underlying23 h
  rw [cellsAct] at hl
  obtain ⟨c0, c1, c2, c3, rfl⟩ : ∃ c0 c1 c2 c3, cs = [c0, c1, c2, c3] := by
    match cs, hl with
    | [c0, c1, c2, c3], _ => exact ⟨c0, c1, c2, c3, rfl⟩
  have hci : Tryd.prog.cellsOf 3 = 1 := by kernel_rfl
  have hcs : Tryd.prog.cellsOf 9 = 1 := by kernel_rfl
  obtain ⟨s, e0, _, _⟩ := DataW.trod_string Tryd.underlying9 h0
  obtain ⟨a, e1, _, wa⟩ := DataW.trod_int Tryd.underlying3 h1
  obtain ⟨b, e2, _, wb⟩ := DataW.trod_int Tryd.underlying3 h2
  obtain ⟨c, e3, _, wc⟩ := DataW.trod_int Tryd.underlying3 h3
  simp [hci, hcs] at e0 e1 e2 e3
  subst e0; subst e1; subst e2; subst e3
  exact ⟨(s, ⟨a, b, c⟩), rfl, (bounds_i64 wa).1, (bounds_i64 wa).2, (bounds_i64 wb).1, (bounds_i64 wb).2, (bounds_i64 wc).1, (bounds_i64 wc).2⟩

set_option maxRecDepth 100000 in
/-- a slice of acts, opened -/
theorem open_acts {H : Type} {enc : TypeId × Value → H} {W : World} {fuel : Nat} {held : Bool} {a0 : Option Addr} {len cap : Nat} {x : DataW H × List MemPlace}
    (hf : DataW.trod enc Tryd.prog W 0 (fun _ => true) held fuel 48 (Value.slice a0 len cap).cells.toList = some x) :
    ∃ zs : List (ByteArray × Abc), zs.length = len ∧ (∀ z ∈ zs, z.2.ok) ∧ ActsAt W W.heap.size a0 zs := by
  rcases open_slice Tryd.underlying48 hf with ⟨hcs, _⟩ | ⟨a, len', cap', m, n, D, Pl, hcs, _, hl, hm, hmm, _, hel⟩
  · simp only [Value.cells, List.cons.injEq, Value.slice.injEq, and_true] at hcs
    obtain ⟨rfl, rfl, rfl⟩ := hcs
    exact ⟨[], rfl, fun z hz => by simp at hz, fun h => by simp at h⟩
  · simp only [Value.cells, List.cons.injEq, Value.slice.injEq, and_true] at hcs
    obtain ⟨rfl, rfl, rfl⟩ := hcs
    simp only [if_true] at hmm
    have hel' : ∀ i, i < len → ∃ z : ByteArray × Abc, z.2.ok ∧ ∀ j, j < 4 → W.cell? ((a.add (i * 4)).add j) = (actCells z)[j]? := by
      intro i hi
      obtain ⟨cs', h1, h2⟩ := hel i (by rw [hmm]; omega)
      obtain ⟨z, rfl, hz⟩ := open_act_cells h2
      rw [cellsAct] at h1
      obtain ⟨_, _, hg⟩ := World.cells?_some h1
      exact ⟨z, hz, fun j hj => hg j (by simpa [actCells] using hj)⟩
    haveI : Inhabited (ByteArray × Abc) := ⟨(⟨#[]⟩, ⟨0, 0, 0⟩)⟩
    obtain ⟨Z, hZ⟩ := choose_lt hel'
    refine ⟨(List.range len).map Z, by simp, fun z hz => ?_, fun h0 => ?_⟩
    · obtain ⟨i, hi, rfl⟩ := List.mem_map.1 hz
      exact (hZ i (List.mem_range.1 hi)).1
    · have h0' : 0 < len := by simpa using h0
      have hsp : a.spot = none ∧ a.block < W.heap.size := by
        have := (hZ 0 h0').2 0 (by omega)
        simp only [Nat.zero_mul, Addr.add, if_true, actCells] at this
        unfold World.cell? at this
        split at this
        · rename_i hh
          refine ⟨?_, (Array.getElem?_eq_some_iff.1 hh).1⟩
          cases hs : a.spot with
          | none => rfl
          | some _ => rw [hs] at this; simp at this
        · simp at this
      obtain ⟨b, off, sp⟩ := a
      obtain ⟨hsp, hbw⟩ := hsp
      simp only at hsp hbw
      subst hsp
      refine ⟨b, off, rfl, hbw, fun j u hu => ?_⟩
      have hadd : ∀ o j, (⟨b, o, none⟩ : Addr).add j = ⟨b, o + j, none⟩ := fun o j => by unfold Addr.add; split <;> simp_all
      have hjl : j < len * 4 := by
        have h2 := (List.getElem?_eq_some_iff.1 hu).1
        have h1 : ∀ L : List (ByteArray × Abc), (L.flatMap actCells).length = L.length * 4 := by
          intro L
          induction L with
          | nil => rfl
          | cons z zs ih => rw [List.flatMap_cons, List.length_append, ih]; simp [actCells]; omega
        rw [h1] at h2
        simpa using h2
      have hk : j / 4 < len := by omega
      have h3 := flat_get4 ((List.range len).map Z) (j / 4) (j % 4) (by simpa using hk) (by omega)
      rw [show j / 4 * 4 + j % 4 = j by omega, hu] at h3
      have h4 := (hZ (j / 4) hk).2 (j % 4) (by omega)
      rw [hadd, hadd] at h4
      rw [show off + j / 4 * 4 + j % 4 = off + j by omega] at h4
      rw [h4, h3]
      simp

set_option maxRecDepth 100000 in
theorem joins_lifted (os : Os) (started : os.Started) (H : Type) (enc : TypeId × Value → H) :
    ReturnsInHanded {} Tryd.checked os 8 .any (fun w args => (Rows.textJoinsSpec.pre enc Tryd.prog Tryd.f8 [] false w args ∧ laidMetH Tryd.prog laid8 w) ∧ sizedMet enc Tryd.prog Tryd.f8 (OpenSpec.ofChange Rows.textJoinsSpec) false w args)
      (Rows.textJoinsSpec.post enc Tryd.prog Tryd.f8 false true false false) := by
  refine returns_shaped (C := Tryd.checked) (X := fun w _ => laidMetH Tryd.prog laid8 w) (fun _ _ _ hh h => h.of_heap hh) own started (by kernel_rfl) Tryd.func8
    (ChangeSpec.witness_shaped (enc := enc) (C := Tryd.checked) (os := os) (X := fun w _ => laidMetH Tryd.prog laid8 w) false (laidWorld os) #[.slice none 0 0, .slice none 0 0] 8 rfl (laidWorld_shaped os _) (by kernel_rfl) (by kernel_rfl) (by kernel_rfl) (laidWorld_met os _)) ?_
  intro W base args ds gs before hval0 hW _ _ hL hS _
  have hval : ∀ (j : Nat) t v, Tryd.f8.params[j]? = some t → args[j]? = some v → Value.okWide Tryd.prog W .any base t v := hval0
  have hW' := hW
  obtain ⟨p, q, hA0, hV, rfl, hfz, hnd⟩ := hW
  have hA : DataW.TrodAll enc Tryd.prog W 0 (fun _ => true) true Tryd.f8.params.toList args.toList ds p := hA0
  rw [Tryd.params8] at hA hval
  obtain ⟨v0, v1, d0, d1, p0, p1, rfl, rfl, rfl, h0, h1⟩ := trodAll_two hA
  obtain ⟨rfl, rfl⟩ := trodVars_none hV
  obtain ⟨A1, l1, c1, rfl⟩ := okWide_slice Tryd.underlying48 (hval 0 _ v0 rfl rfl)
  obtain ⟨A2, l2, c2, rfl⟩ := okWide_slice Tryd.underlying48 (hval 1 _ v1 rfl rfl)
  have h0k := h0
  have h1k := h1
  obtain ⟨fuel0, hf0⟩ := h0
  obtain ⟨fuel1, hf1⟩ := h1
  have hv := vars_of_laid hL hS
  simp only [List.append_nil] at hW'
  have hlt : ∀ x ∈ p0 ++ p1, x.block < W.heap.size := fun x hx => by simpa using hW'.lt x hx
  refine (joins_any A1 A2 l1 l2 c1 c2 W hv (fun _ => open_acts hf0) (fun _ => open_acts hf1)).mono fun e W' ⟨he, hb⟩ => ?_
  subst he
  have e1 : Rows.textJoinsSpec.fn H ([d0, d1] ++ []) = { results := [.lit (.bool true)], args := [d0, d1] } := by simp [Rows.textJoinsSpec]
  refine ⟨_, rfl, _, _, _, [], p0 ++ p1, [], hW', ?_, ?_, ?_, hb.frame _, fun h => by cases h⟩
  · rw [e1]; exact trodAll_mk1 (shut_bool Tryd.underlying4 true)
  · rw [e1]; exact trodAll_mk2 (Below.trod laidOut (by kernel_rfl) (of_decide_eq_true (by kernel_rfl)) h0k hb fun x hx => hlt x (List.mem_append_left _ hx)) (Below.trod laidOut (by kernel_rfl) (of_decide_eq_true (by kernel_rfl)) h1k hb fun x hx => hlt x (List.mem_append_right _ hx))
  · rw [e1]; rfl

theorem joins_holds : Rows.TextJoinsSaid :=
  OpenClaim.holds_of_wide 8 Tryd.f8 rfl rfl rfl rfl rfl rfl rfl ⟨rfl, rfl, rfl, rfl, rfl⟩ rfl rfl rfl rfl rfl (by kernel_rfl) Tryd.func8 (by kernel_rfl)
    (of_decide_eq_true (by kernel_rfl)) (by unfold Func.isWrapper; rw [if_neg (of_decide_eq_false (by kernel_rfl))]; exact ⟨rfl, rfl⟩)
    (fun os started H enc _ => joins_lifted os started H enc)

theorem joins_card : Rows.TextJoinsCardSaid :=
  Claim7.holds_tied_plain_at .later [] [.data, .data, .data, .data, .handle, .sentinel, .sentinel, .pinned] true (true, "21450f126c6002248aef50938e327199e5f58db2e406999577dc27a49d5e4f50") true
    joins_holds (fun _ h => by cases h) (by kernel_rfl) (fun _ h => by cases h) textJoins_row_tie rfl ⟨rfl, rfl⟩ (by kernel_rfl) rfl
    (fun f fn hf hfn => by
      obtain rfl : f = 8 := Option.some.inj ((show Tryd.prog.funcNamed "dynamo/dynamolaw25.TextJoins" = some 8 by kernel_rfl).symm.trans hf) |>.symm
      obtain rfl : fn = Tryd.f8 := (Option.some.inj (Tryd.func8.symm.trans hfn)).symm
      exact ⟨by kernel_rfl, fun j t ht => by
        rw [Tryd.params8] at ht
        have h3 : t = 48 := by
          rcases j with _ | _ | j
          · simpa using ht.symm
          · simpa using ht.symm
          · simp at ht
        subst h3
        exact (show Tryd.prog.wantsStandIn 48 = false by kernel_rfl)⟩)
    (by kernel_rfl)
#print axioms joins_card
end Go.Proofs.YtedgoagonagdjaaDoor
