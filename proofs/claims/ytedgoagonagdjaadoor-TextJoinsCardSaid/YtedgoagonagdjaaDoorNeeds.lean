/-
  text.needs: the table of requests.
-/
import Derived.Test.YtedgoagonagdjaaDoorBase
namespace Go.Proofs.YtedgoagonagdjaaDoor
open Go.RowKit

def needsTab : Array MapEntry :=
  #[{ key := .string ⟨#[114, 111, 98, 111, 116]⟩, val := .string ⟨#[97, 98, 99]⟩, born := 0 },
    { key := .string ⟨#[116, 97, 115, 107]⟩, val := .string ⟨#[97, 98, 99]⟩, born := 1 },
    { key := .string ⟨#[111, 102, 102]⟩, val := .string ⟨#[98]⟩, born := 2 },
    { key := .string ⟨#[111, 110]⟩, val := .string ⟨#[98]⟩, born := 3 },
    { key := .string ⟨#[116, 101, 108, 108]⟩, val := .string ⟨#[97, 98]⟩, born := 4 },
    { key := .string ⟨#[116, 105, 99, 107]⟩, val := .string ⟨#[]⟩, born := 5 }]

theorem upd_new (es : Array MapEntry) (c : Nat) (k v : ByteArray) (hk : Instr.findNow .string (.string k) es.toList 0 = some none) (w : World) :
    (Instr.mapUpdate 51 (.map (some w.heap.size)) (.string k) (.string v)).run Tryd.prog (w.alloc (.map es c)) =
      .ok () (w.alloc (.map (es.push { key := .string k, val := .string v, born := c }) (c + 1))) := by
  have hb : (w.alloc (.map es c)).heap[w.heap.size]? = some (.map es c) := by show (w.heap.push _)[w.heap.size]? = _; simp
  unfold Instr.mapUpdate
  simp only [Sem.run_bind, run_underlying Tryd.underlying51, Result.andThen, MapKept.run_getObj_map hb]
  rw [MapKept.run_checkKey (d := .string) Tryd.underlying9 (by simp [MapKept.IsKey])]
  simp only [Instr.findKey, Sem.run_bind, run_underlying Tryd.underlying9, Result.andThen, hk, Sem.run_pure]
  rw [MapKept.run_setObj_map _ hb]
  have e : (w.heap.push (Obj.map es c)).setIfInBounds w.heap.size (Obj.map (es.push { key := .string k, val := .string v, born := c }) (c + 1)) = w.heap.push (Obj.map (es.push { key := .string k, val := .string v, born := c }) (c + 1)) := by
    apply Array.ext
    · simp
    · intro i h1 h2
      rw [Array.getElem_setIfInBounds (by simpa using h1), Array.getElem_push, Array.getElem_push]
      split <;> rename_i hi
      · subst hi; simp
      · split
        · rfl
        · simp at h1; omega
  exact congrArg (fun h => Result.ok () { w with heap := h }) e

theorem needs_any (w : World) :
    Calls Tryd.prog 20 #[] w fun e w' => e = .returned (.map (some w.heap.size)) ∧ w' = w.alloc (.map needsTab 6) := by
  have hmm := @run_makeMap Tryd.prog
  have h0 := upd_new #[] 0 ⟨#[114, 111, 98, 111, 116]⟩ ⟨#[97, 98, 99]⟩ (by rfl) w
  have h1 := upd_new (needsTab.extract 0 1) 1 ⟨#[116, 97, 115, 107]⟩ ⟨#[97, 98, 99]⟩ (by rfl) w
  have h2 := upd_new (needsTab.extract 0 2) 2 ⟨#[111, 102, 102]⟩ ⟨#[98]⟩ (by rfl) w
  have h3 := upd_new (needsTab.extract 0 3) 3 ⟨#[111, 110]⟩ ⟨#[98]⟩ (by rfl) w
  have h4 := upd_new (needsTab.extract 0 4) 4 ⟨#[116, 101, 108, 108]⟩ ⟨#[97, 98]⟩ (by rfl) w
  have h5 := upd_new (needsTab.extract 0 5) 5 ⟨#[116, 105, 99, 107]⟩ ⟨#[]⟩ (by rfl) w
  replace h0 : _ = Result.ok () (w.alloc (.map (needsTab.extract 0 1) 1)) := h0
  replace h1 : _ = Result.ok () (w.alloc (.map (needsTab.extract 0 2) 2)) := h1
  replace h2 : _ = Result.ok () (w.alloc (.map (needsTab.extract 0 3) 3)) := h2
  replace h3 : _ = Result.ok () (w.alloc (.map (needsTab.extract 0 4) 4)) := h3
  replace h4 : _ = Result.ok () (w.alloc (.map (needsTab.extract 0 5) 5)) := h4
  replace h5 : _ = Result.ok () (w.alloc (.map needsTab 6)) := h5
  generalize needsTab.extract 0 1 = e1 at *
  generalize needsTab.extract 0 2 = e2 at *
  generalize needsTab.extract 0 3 = e3 at *
  generalize needsTab.extract 0 4 = e4 at *
  generalize needsTab.extract 0 5 = e5 at *
  generalize needsTab = e6 at *
  go_enter Tryd.func20, Tryd.ntmps20
  go_wp2
  go_ret
  exact ⟨rfl, rfl⟩

/-- What a request of this name needs. -/
def wantOf (s : ByteArray) : Option ByteArray :=
  if s = ⟨#[114, 111, 98, 111, 116]⟩ then some ⟨#[97, 98, 99]⟩ else
  if s = ⟨#[116, 97, 115, 107]⟩ then some ⟨#[97, 98, 99]⟩ else
  if s = ⟨#[111, 102, 102]⟩ then some ⟨#[98]⟩ else
  if s = ⟨#[111, 110]⟩ then some ⟨#[98]⟩ else
  if s = ⟨#[116, 101, 108, 108]⟩ then some ⟨#[97, 98]⟩ else
  if s = ⟨#[116, 105, 99, 107]⟩ then some ⟨#[]⟩ else none

theorem find_needs (s : ByteArray) : ∃ i, Instr.findNow .string (.string s) needsTab.toList 0 = some ((wantOf s).map fun v => (i, .string v)) := by
  unfold wantOf needsTab
  simp only [Instr.findNow, Instr.sameNow]
  by_cases h0 : s = ⟨#[114, 111, 98, 111, 116]⟩
  · exact ⟨0, by subst h0; rfl⟩
  by_cases h1 : s = ⟨#[116, 97, 115, 107]⟩
  · exact ⟨1, by subst h1; rfl⟩
  by_cases h2 : s = ⟨#[111, 102, 102]⟩
  · exact ⟨2, by subst h2; rfl⟩
  by_cases h3 : s = ⟨#[111, 110]⟩
  · exact ⟨3, by subst h3; rfl⟩
  by_cases h4 : s = ⟨#[116, 101, 108, 108]⟩
  · exact ⟨4, by subst h4; rfl⟩
  by_cases h5 : s = ⟨#[116, 105, 99, 107]⟩
  · exact ⟨5, by subst h5; rfl⟩
  refine ⟨0, ?_⟩
  rw [if_neg h0, if_neg h1, if_neg h2, if_neg h3, if_neg h4, if_neg h5]
  have e : ∀ k : ByteArray, ¬ s = k → (s == k) = false := fun k h => by rw [Bool.eq_false_iff, ne_eq, MapKept.bytes_beq]; exact h
  simp [e _ h0, e _ h1, e _ h2, e _ h3, e _ h4, e _ h5]

theorem look_needs (s : ByteArray) (r : Nat) (w : World) (c : Bool) (hb : w.heap[r]? = some (.map needsTab 6)) :
    (Instr.lookup 51 (.map (some r)) (.string s) c).run Tryd.prog w =
      .ok (if c then .tuple #[.string ((wantOf s).getD ⟨#[]⟩), .bool (wantOf s).isSome] else .string ((wantOf s).getD ⟨#[]⟩)) w := by
  unfold Instr.lookup
  simp only [Sem.run_bind, run_underlying Tryd.underlying51, Result.andThen, MapKept.run_getObj_map hb, Sem.run_pure]
  rw [MapKept.run_checkKey (d := .string) Tryd.underlying9 (by simp [MapKept.IsKey])]
  obtain ⟨i, hi⟩ := find_needs s
  simp only [Instr.findKey, Sem.run_bind, run_underlying Tryd.underlying9, Result.andThen, hi, Sem.run_pure]
  have hz : (zeroValue 9).run Tryd.prog w = .ok (.string ⟨#[]⟩) w := by kernel_rfl
  cases hx : wantOf s with
  | none => cases c <;> simp [Result.andThen, hz]
  | some v => cases c <;> simp
end Go.Proofs.YtedgoagonagdjaaDoor
