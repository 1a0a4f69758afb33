/-
  'Up B S w w'': below block number B nothing has turned but the blocks of S.
-/
import Derived.Test.YtagighbfodlcjaaDoorProg
import Derived.WalkKit
import Derived.WalkSpells
import Derived.WalkLawsBesides
import Derived.Lib.Hide
import Derived.Sort.Grow
import Derived.Lib.ConvBytes
namespace Go.Proofs.YtagighbfodlcjaaDoor
open Go.RowKit Go.Sort

/-- Below block number B the world w' is as w was, but for the blocks of S; the streams are as they were; no block has gone. -/
structure Up (B : Nat) (S : Nat → Prop) (w w' : World) : Prop where
  os : w'.os = w.os
  tape : w'.tape = w.tape
  output : w'.output = w.output
  size : w.heap.size ≤ w'.heap.size
  block : ∀ k, k < B → ¬ S k → w'.heap[k]? = w.heap[k]?

namespace Up
variable {B : Nat} {S S' : Nat → Prop} {a w w' b c : World}
theorem refl (B : Nat) (S : Nat → Prop) (w : World) : Up B S w w := ⟨rfl, rfl, rfl, Nat.le_refl _, fun _ _ _ => rfl⟩
theorem trans (h : Up B S a b) (k : Up B S b c) : Up B S a c :=
  ⟨k.os.trans h.os, k.tape.trans h.tape, k.output.trans h.output, Nat.le_trans h.size k.size, fun i hi hs => (k.block i hi hs).trans (h.block i hi hs)⟩
theorem mono {B' : Nat} (h : Up B S w w') (hB : B' ≤ B) (hS : ∀ k, k < B' → S k → S' k) : Up B' S' w w' :=
  ⟨h.os, h.tape, h.output, h.size, fun k hk hs => h.block k (Nat.lt_of_lt_of_le hk hB) (fun x => hs (hS k hk x))⟩
theorem of_below (h : Below B w w') : Up B S w w' := ⟨h.os, h.tape, h.output, h.size, fun k hk _ => h.block k hk⟩
theorem below (h : Up B S w w') {B' : Nat} (hB : B' ≤ B) (hS : ∀ k, k < B' → ¬ S k) : Below B' w w' :=
  ⟨h.os, h.tape, h.output, h.size, fun k hk => h.block k (Nat.lt_of_lt_of_le hk hB) (hS k hk)⟩
theorem drew (h : Up B S a w) : Up B S a w.drew := ⟨h.os, h.tape, h.output, h.size, h.block⟩
theorem alloc (h : Up B S a w) (hB : B ≤ w.heap.size) (o : Obj) : Up B S a (w.alloc o) :=
  h.trans (of_below ((Below.refl B w).alloc hB o))
theorem setCell (h : Up B S a w) {p : Addr} (hp : B ≤ p.block ∨ S p.block) (u : Value) : Up B S a (w.setCell p u) :=
  h.trans ⟨rfl, rfl, rfl, by simp [World.setCell], fun k hk hs => Below.heap_setCell _ _ _ _ (by rintro rfl; rcases hp with hp | hp; omega; exact hs hp)⟩
theorem heap (h : Up B S w w') {k : Nat} (hk : k < B) (hs : ¬ S k) : w'.heap[k]? = w.heap[k]? := h.block k hk hs
theorem cell (h : Up B S w w') {p : Addr} (hp : p.block < B) (hs : ¬ S p.block) : w'.cell? p = w.cell? p := World.cell?_of_block (w := w) (h.block p.block hp hs)
theorem frozen (h : Up B S w w') {p : Addr} (hp : p.block < B) (hs : ¬ S p.block) : w'.frozen? p = w.frozen? p := World.frozen?_of_block (w := w) (h.block p.block hp hs)
end Up

theorem below_grow (w : World) (k : Nat) (os : Array Obj) : Below w.heap.size w (grow (w.drewN k) os) :=
  ⟨rfl, rfl, rfl, by simp [grow, World.drewN], fun i hi => by show (w.heap ++ os)[i]? = _; rw [Array.getElem?_append_left hi]⟩
theorem below_drewN (w : World) (k : Nat) (B : Nat) : Below B w (w.drewN k) := ⟨rfl, rfl, rfl, Nat.le_refl _, fun _ _ => rfl⟩
theorem Below.same_block {B : Nat} {w w' : World} (h : Below B w w') {b : Nat} {o : Obj} (ho : w.heap[b]? = some o) (hb : b < B) : w'.heap[b]? = some o := (h.block b hb).trans ho
theorem ret_int {k : IntKind} {a b : Int} (h : a = b) : Ending.returned (.int k a) = .returned (.int k b) := by rw [h]
end Go.Proofs.YtagighbfodlcjaaDoor
