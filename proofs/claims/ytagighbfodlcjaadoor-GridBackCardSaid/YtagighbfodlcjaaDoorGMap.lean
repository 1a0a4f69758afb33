/-
  A map of the call's own, from int to bool, that is stored into with true alone: a set of numbers.
-/
import Derived.Test.YtagighbfodlcjaaDoorVars
namespace Go.Proofs.YtagighbfodlcjaaDoor
open Go.RowKit

/-- block b is a map whose keys are these numbers, each with true -/
def MetSet (w : World) (b : Nat) (met : List Nat) : Prop :=
  ∃ (es : Array MapEntry) (c : Nat), w.heap[b]? = some (.map es c) ∧ es.toList.map (fun e => (e.key, e.val)) = met.map (fun (n : Nat) => (Value.int .i64 (n : Int), Value.bool true))

theorem find_met : ∀ (es : List MapEntry) (met : List Nat) (i n : Nat), es.map (fun e => (e.key, e.val)) = met.map (fun (n : Nat) => (Value.int .i64 (n : Int), Value.bool true)) →
    (n ∈ met → ∃ j, Instr.findNow (.int .i64) (.int .i64 (n : Int)) es i = some (some (j, .bool true))) ∧ (n ∉ met → Instr.findNow (.int .i64) (.int .i64 (n : Int)) es i = some none)
  | [], [], i, n, _ => ⟨fun h => by simp at h, fun _ => rfl⟩
  | e :: es, m :: met, i, n, h => by
    simp only [List.map_cons, List.cons.injEq, Prod.mk.injEq] at h
    obtain ⟨⟨hk, hv⟩, ht⟩ := h
    have ih := find_met es met (i + 1) n ht
    by_cases hnm : n = m
    · subst hnm
      refine ⟨fun _ => ⟨i, ?_⟩, fun hn => by simp at hn⟩
      simp [Instr.findNow, Instr.sameNow, hk, hv]
    · have hne : ((n : Int) == (m : Int)) = false := by rw [beq_eq_false_iff_ne]; omega
      constructor
      · intro hm
        obtain ⟨j, hj⟩ := ih.1 (by rcases List.mem_cons.1 hm with e | e; exact (hnm e).elim; exact e)
        exact ⟨j, by simp [Instr.findNow, Instr.sameNow, hk, hne, hj]⟩
      · intro hm
        have := ih.2 (fun e => hm (by simp [e]))
        simp [Instr.findNow, Instr.sameNow, hk, hne, this]
  | [], _ :: _, _, _, h => by simp at h
  | _ :: _, [], _, _, h => by simp at h

theorem MetSet.made (w : World) : MetSet (w.alloc (.map #[] 0)) w.heap.size [] := ⟨#[], 0, heap_new w _, rfl⟩
theorem MetSet.lt {w : World} {b : Nat} {met : List Nat} (h : MetSet w b met) : b < w.heap.size := by
  obtain ⟨es, c, hb, _⟩ := h
  exact (Array.getElem?_eq_some_iff.1 hb).1
theorem MetSet.kept {w w' : World} {b : Nat} {met : List Nat} {row : Option Nat} (h : MetSet w b met) (hg : w.grownBy w' row) (hne : some b ≠ row) : MetSet w' b met := by
  obtain ⟨es, c, hb, h2⟩ := h
  exact ⟨es, c, (hg.block b (Array.getElem?_eq_some_iff.1 hb).1 hne).trans hb, h2⟩
theorem MetSet.below {w w' : World} {b : Nat} {met : List Nat} (h : MetSet w b met) (hb : Below w.heap.size w w') : MetSet w' b met := by
  obtain ⟨es, c, hh, h2⟩ := h
  exact ⟨es, c, (hb.block b (Array.getElem?_eq_some_iff.1 hh).1).trans hh, h2⟩

theorem MetSet.look {w : World} {b : Nat} {met : List Nat} (h : MetSet w b met) (n : Nat) :
    (Instr.lookup 106 (.map (some b)) (.int .i64 (n : Int)) false).run Tryd.prog w = .ok (.bool (decide (n ∈ met))) w := by
  obtain ⟨es, c, hb, h2⟩ := h
  unfold Instr.lookup
  simp only [Sem.run_bind, run_underlying Tryd.underlying106, Result.andThen, MapKept.run_getObj_map hb, Sem.run_pure]
  rw [MapKept.run_checkKey (d := .int .i64) Tryd.underlying3 (by simp [MapKept.IsKey])]
  have hf := find_met es.toList met 0 n h2
  have hz : (zeroValue 4).run Tryd.prog w = .ok (.bool false) w := by kernel_rfl
  by_cases hm : n ∈ met
  · obtain ⟨j, hj⟩ := hf.1 hm
    simp only [Instr.findKey, Sem.run_bind, run_underlying Tryd.underlying3, Result.andThen, hj, Sem.run_pure]
    simp [hm]
  · simp only [Instr.findKey, Sem.run_bind, run_underlying Tryd.underlying3, Result.andThen, hf.2 hm, Sem.run_pure]
    simp [hz, hm]

theorem MetSet.put {w : World} {b : Nat} {met : List Nat} (h : MetSet w b met) {n : Nat} (hn : n ∉ met) :
    ∃ w', (Instr.mapUpdate 106 (.map (some b)) (.int .i64 (n : Int)) (.bool true)).run Tryd.prog w = .ok () w' ∧ MetSet w' b (met ++ [n]) ∧ w.grownBy w' (some b) := by
  obtain ⟨es, c, hb, h2⟩ := h
  have hf := (find_met es.toList met 0 n h2).2 hn
  have hlt := (Array.getElem?_eq_some_iff.1 hb).1
  refine ⟨{ w with heap := w.heap.setIfInBounds b (.map (es.push { key := .int .i64 (n : Int), val := .bool true, born := c }) (c + 1)) }, ?_, ⟨es.push { key := .int .i64 (n : Int), val := .bool true, born := c }, c + 1, ?_, ?_⟩, ?_⟩
  · unfold Instr.mapUpdate
    simp only [Sem.run_bind, run_underlying Tryd.underlying106, Result.andThen, MapKept.run_getObj_map hb]
    rw [MapKept.run_checkKey (d := .int .i64) Tryd.underlying3 (by simp [MapKept.IsKey])]
    simp only [Instr.findKey, Sem.run_bind, run_underlying Tryd.underlying3, Result.andThen, hf, Sem.run_pure]
    rw [MapKept.run_setObj_map _ hb]
  · show (w.heap.setIfInBounds b _)[b]? = _
    rw [Array.getElem?_setIfInBounds_self_of_lt hlt]
  · simp [h2]
  · refine ⟨rfl, rfl, rfl, by simp, fun k hk hne => ?_⟩
    show (w.heap.setIfInBounds b _)[k]? = _
    rw [Array.getElem?_setIfInBounds_ne (fun e => hne (by rw [e]))]

theorem MetSet.len {w : World} {b : Nat} {met : List Nat} (h : MetSet w b met) (ty : TypeId) : (Builtin.len_ #[106] ty #[.map (some b)]).run Tryd.prog w = .ok (.int .i64 met.length) w := by
  obtain ⟨es, c, hb, h2⟩ := h
  have hl : es.size = met.length := by have := congrArg List.length h2; simpa using this
  simp [Builtin.len_, run_underlying Tryd.underlying106, MapKept.run_getObj_map hb, hl, goInt, Result.andThen]
end Go.Proofs.YtagighbfodlcjaaDoor
