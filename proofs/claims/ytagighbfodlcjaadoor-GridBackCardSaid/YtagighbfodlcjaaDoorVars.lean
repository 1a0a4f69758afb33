/-
  What is known of the package-level variables; it stays through whatever leaves their blocks alone.
-/
import Derived.Test.YtagighbfodlcjaaDoorNum
import Derived.Test.YtagighbfodlcjaaDoorShelf
import Derived.Lib.LaidTab
namespace Go.Proofs.YtagighbfodlcjaaDoor
open Go.RowKit

structure Vars (w : World) : Prop where
  size : 4 ≤ w.heap.size
  err : ErrVar w
  max : ∃ m, w.cell? ⟨1, 0, none⟩ = some (.int .i64 m)

theorem var_keep {w w' : World} (hk : ∀ k, k < 4 → w'.heap[k]? = w.heap[k]?) {n : String} {g : Nat} (hg : Tryd.prog.globalNamed n = some g) (hb : g < 4) : w'.var? Tryd.prog n = w.var? Tryd.prog n := by
  unfold World.var?
  rw [hg]
  simp only [Option.bind_some]
  rw [hk g hb]

theorem Vars.keep {w w' : World} (h : Vars w) (hs : w.heap.size ≤ w'.heap.size) (hk : ∀ k, k < 4 → w'.heap[k]? = w.heap[k]?) : Vars w' where
  size := Nat.le_trans h.size hs
  err := by unfold ErrVar; rw [World.cell?_of_block (w := w) (hk 0 (by decide))]; exact h.err
  max := by rw [World.cell?_of_block (w := w) (hk 1 (by decide))]; exact h.max

theorem Vars.below {w w' : World} {B : Nat} (h : Vars w) (hb : Below B w w') (hB : 4 ≤ B) : Vars w' := h.keep hb.size fun k hk => hb.block k (by omega)
theorem Vars.below' {w w' : World} (h : Vars w) (hb : Below w.heap.size w w') : Vars w' := h.below hb h.size
theorem Vars.alloc {w : World} (h : Vars w) (o : Obj) : Vars (w.alloc o) := h.below' ((Below.refl _ _).alloc (Nat.le_refl _) _)
theorem Vars.up {w w' : World} {B : Nat} {S : Nat → Prop} (h : Vars w) (hb : Up B S w w') (hB : 4 ≤ B) (hS : ∀ k, S k → 4 ≤ k) : Vars w' := h.keep hb.size fun k hk => hb.block k (by omega) (fun x => by have := hS k x; omega)
theorem IsErr.below {w w' : World} {B : Nat} {n : Int} {e : Value} (h : IsErr w n e) (hb : Below B w w') (hB : w.heap.size ≤ B) : IsErr w' n e := by
  obtain ⟨b, s, he, hc⟩ := h
  exact ⟨b, s, he, (hb.block b (by have := (Array.getElem?_eq_some_iff.1 hc).1; omega)).trans hc⟩
theorem IsErr.below' {w w' : World} {n : Int} {e : Value} (h : IsErr w n e) (hb : Below w.heap.size w w') : IsErr w' n e := h.below hb (Nat.le_refl _)
theorem IsErr.new (w : World) (s : ByteArray) (n : Int) : IsErr (w.alloc (.cells #[.string s, .iface 51 (.int .i64 n)] 85)) n (.iface 83 (.pointer (some ⟨w.heap.size, 0, none⟩))) :=
  ⟨w.heap.size, s, rfl, by show (w.heap.push _)[w.heap.size]? = _; simp⟩

theorem heap_new (w : World) (o : Obj) : (w.alloc o).heap[w.heap.size]? = some o := by show (w.heap.push o)[w.heap.size]? = _; simp
theorem heap_set {w : World} {b : Nat} {cs : Array Value} {t : TypeId} {f : Nat × Nat} (h : w.heap[b]? = some (.cells cs t f)) (i : Nat) (v : Value) :
    (w.setCell ⟨b, i, none⟩ v).heap[b]? = some (.cells (cs.setIfInBounds i v) t f) := by
  simp [World.setCell, Array.getElem?_modify, h]
theorem cell_of {w : World} {b : Nat} {cs : Array Value} {t : TypeId} {f : Nat × Nat} (h : w.heap[b]? = some (.cells cs t f)) (i : Nat) : w.cell? ⟨b, i, none⟩ = cs[i]? := by
  simp [World.cell?, h]
theorem free_of {w : World} {b : Nat} {cs : Array Value} {t : TypeId} (h : w.heap[b]? = some (.cells cs t)) (i : Nat) : w.frozen? ⟨b, i, none⟩ = false := by
  simp [World.frozen?, h]
end Go.Proofs.YtagighbfodlcjaaDoor
