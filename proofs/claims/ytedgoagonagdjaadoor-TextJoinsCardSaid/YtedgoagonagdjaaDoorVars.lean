/-
  What is known of the package-level variables; it stays through whatever leaves their blocks alone.
-/
import Derived.Test.YtedgoagonagdjaaDoorNum
import Derived.Test.YtedgoagonagdjaaDoorShelf
import Derived.Lib.LaidTab
namespace Go.Proofs.YtedgoagonagdjaaDoor
open Go.RowKit

structure Vars (w : World) : Prop where
  size : 9 ≤ w.heap.size
  err : ErrVar w
  syn : ∃ tp p, w.var? Tryd.prog "strconv.ErrSyntax" = some #[.iface tp p]
  rng : ∃ tp p, w.var? Tryd.prog "strconv.ErrRange" = some #[.iface tp p]
  pow : Lib.TabIs Tryd.prog w "internal/strconv.uint64pow10" .u64 Lib.pow10Tab
  max : ∃ m, w.cell? ⟨2, 0, none⟩ = some (.int .i64 m)

theorem var_keep {w w' : World} (hk : ∀ k, k < 9 → w'.heap[k]? = w.heap[k]?) {n : String} {g : Nat} (hg : Tryd.prog.globalNamed n = some g) (hb : g < 9) : w'.var? Tryd.prog n = w.var? Tryd.prog n := by
  unfold World.var?
  rw [hg]
  simp only [Option.bind_some]
  rw [hk g hb]

theorem Vars.keep {w w' : World} (h : Vars w) (hs : w.heap.size ≤ w'.heap.size) (hk : ∀ k, k < 9 → w'.heap[k]? = w.heap[k]?) : Vars w' where
  size := Nat.le_trans h.size hs
  err := by unfold ErrVar; rw [World.cell?_of_block (w := w) (hk 0 (by decide))]; exact h.err
  syn := by rw [var_keep hk (g := 3) (by kernel_rfl) (by decide)]; exact h.syn
  rng := by rw [var_keep hk (g := 4) (by kernel_rfl) (by decide)]; exact h.rng
  pow := by unfold Lib.TabIs; rw [var_keep hk (g := 1) (by kernel_rfl) (by decide)]; exact h.pow
  max := by rw [World.cell?_of_block (w := w) (hk 2 (by decide))]; exact h.max

theorem Vars.below {w w' : World} {B : Nat} (h : Vars w) (hb : Below B w w') (hB : 9 ≤ B) : Vars w' := h.keep hb.size fun k hk => hb.block k (by omega)
theorem Vars.below' {w w' : World} (h : Vars w) (hb : Below w.heap.size w w') : Vars w' := h.below hb h.size
theorem Vars.alloc {w : World} (h : Vars w) (o : Obj) : Vars (w.alloc o) := h.below' ((Below.refl _ _).alloc (Nat.le_refl _) _)
theorem Vars.up {w w' : World} {B : Nat} {S : Nat → Prop} (h : Vars w) (hb : Up B S w w') (hB : 9 ≤ B) (hS : ∀ k, S k → 9 ≤ k) : Vars w' := h.keep hb.size fun k hk => hb.block k (by omega) (fun x => by have := hS k x; omega)
theorem IsErr.below {w w' : World} {B : Nat} {n : Int} {e : Value} (h : IsErr w n e) (hb : Below B w w') (hB : w.heap.size ≤ B) : IsErr w' n e := by
  obtain ⟨b, s, he, hc⟩ := h
  exact ⟨b, s, he, (hb.block b (by have := (Array.getElem?_eq_some_iff.1 hc).1; omega)).trans hc⟩
theorem IsErr.below' {w w' : World} {n : Int} {e : Value} (h : IsErr w n e) (hb : Below w.heap.size w w') : IsErr w' n e := h.below hb (Nat.le_refl _)
theorem IsErr.new (w : World) (s : ByteArray) (n : Int) : IsErr (w.alloc (.cells #[.string s, .iface 57 (.int .i64 n)] 81)) n (.iface 79 (.pointer (some ⟨w.heap.size, 0, none⟩))) :=
  ⟨w.heap.size, s, rfl, by show (w.heap.push _)[w.heap.size]? = _; simp⟩

theorem heap_new (w : World) (o : Obj) : (w.alloc o).heap[w.heap.size]? = some o := by show (w.heap.push o)[w.heap.size]? = _; simp
theorem heap_set {w : World} {b : Nat} {cs : Array Value} {t : TypeId} {f : Nat × Nat} (h : w.heap[b]? = some (.cells cs t f)) (i : Nat) (v : Value) :
    (w.setCell ⟨b, i, none⟩ v).heap[b]? = some (.cells (cs.setIfInBounds i v) t f) := by
  simp [World.setCell, Array.getElem?_modify, h]
theorem cell_of {w : World} {b : Nat} {cs : Array Value} {t : TypeId} {f : Nat × Nat} (h : w.heap[b]? = some (.cells cs t f)) (i : Nat) : w.cell? ⟨b, i, none⟩ = cs[i]? := by
  simp [World.cell?, h]
theorem free_of {w : World} {b : Nat} {cs : Array Value} {t : TypeId} (h : w.heap[b]? = some (.cells cs t)) (i : Nat) : w.frozen? ⟨b, i, none⟩ = false := by
  simp [World.frozen?, h]
end Go.Proofs.YtedgoagonagdjaaDoor
