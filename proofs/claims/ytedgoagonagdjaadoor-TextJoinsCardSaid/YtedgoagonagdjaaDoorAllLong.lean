/-
  text.All of a text that is too long.
-/
import Derived.Test.YtedgoagonagdjaaDoorAll
namespace Go.Proofs.YtedgoagonagdjaaDoor
open Go.RowKit Go.Shelf

set_option maxRecDepth 100000 in
theorem all_long (s : ByteArray) (hs : 20000 < s.size) (w : World) :
    Calls Tryd.prog 18 #[.string s] w fun e w' => ∃ v, e = .returned (.tuple #[.slice none 0 0, .int .i64 0, v]) ∧ IsErr w' 8 v ∧ Below w.heap.size w w' := by
  go_enter Tryd.func18, Tryd.ntmps18
  go_wp2_with fail
  all_goals first | (exfalso; omega) | skip
  refine (tag_any _ _ _).mono ?_
  rintro e w1 ⟨rfl, rfl⟩
  obtain ⟨W3, hW3⟩ : ∃ W3, (((w.alloc (Obj.cells #[Value.slice none 0 0] 44)).alloc (Obj.cells #[Value.int IntKind.i64 0] 3)).alloc (Obj.cells #[Value.nilIface] 26)) = W3 := ⟨_, rfl⟩
  rw [hW3]
  have q0 := Boxed.new w 44 (.slice none 0 0)
  have q1 := Boxed.new (w.alloc (Obj.cells #[Value.slice none 0 0] 44)) 3 (.int .i64 0)
  have q2 := Boxed.new ((w.alloc (Obj.cells #[Value.slice none 0 0] 44)).alloc (Obj.cells #[Value.int IntKind.i64 0] 3)) 26 .nilIface
  simp only [World.size_alloc] at q1 q2
  have hb : Below w.heap.size w W3 := by rw [← hW3]; exact (((Below.refl _ w).alloc (Nat.le_refl _) _).alloc (by simp) _).alloc (by simp; omega) _
  have r0 : Boxed W3 w.heap.size 44 (.slice none 0 0) := by rw [← hW3]; exact (q0.alloc _).alloc _
  have r1 : Boxed W3 (w.heap.size + 1) 3 (.int .i64 0) := by rw [← hW3]; exact q1.alloc _
  have r2 : Boxed W3 (w.heap.size + 1 + 1) 26 .nilIface := by rw [← hW3]; exact q2
  have hsz : w.heap.size + 3 ≤ W3.heap.size := by rw [← hW3]; simp
  clear hW3 q0 q1 q2
  have s0 := r0.alloc (Obj.cells #[.string ⟨#[116, 101, 120, 116]⟩, .iface 57 (.int .i64 8)] 81)
  have s1 := r1.alloc (Obj.cells #[.string ⟨#[116, 101, 120, 116]⟩, .iface 57 (.int .i64 8)] 81)
  have s2 := r2.alloc (Obj.cells #[.string ⟨#[116, 101, 120, 116]⟩, .iface 57 (.int .i64 8)] 81)
  have hE := heap_new W3 (Obj.cells #[.string ⟨#[116, 101, 120, 116]⟩, .iface 57 (.int .i64 8)] 81)
  have hb4 : Below w.heap.size w (W3.alloc (Obj.cells #[.string ⟨#[116, 101, 120, 116]⟩, .iface 57 (.int .i64 8)] 81)) := hb.alloc hb.size _
  obtain ⟨W4, hW4⟩ : ∃ W4, (W3.alloc (Obj.cells #[.string ⟨#[116, 101, 120, 116]⟩, .iface 57 (.int .i64 8)] 81)) = W4 := ⟨_, rfl⟩
  rw [hW4] at s0 s1 s2 hE hb4
  have c0 := s0.cell
  have f0 := s0.frozen
  have c1 := s1.cell
  have f1 := s1.frozen
  have c2 := s2.cell
  have f2 := s2.frozen
  go_wp2_with fail
  have t0 := ((s0.set (.slice none 0 0)).other (B' := w.heap.size + 1) (by omega) (.int .i64 0)).other (B' := w.heap.size + 1 + 1) (by omega) (.iface 79 (.pointer (some ⟨W3.heap.size, 0, none⟩)))
  have t1 := ((s1.other (B' := w.heap.size) (by omega) (.slice none 0 0)).set (.int .i64 0)).other (B' := w.heap.size + 1 + 1) (by omega) (.iface 79 (.pointer (some ⟨W3.heap.size, 0, none⟩)))
  have t2 := ((s2.other (B' := w.heap.size) (by omega) (.slice none 0 0)).other (B' := w.heap.size + 1) (by omega) (.int .i64 0)).set (.iface 79 (.pointer (some ⟨W3.heap.size, 0, none⟩)))
  refine bodyPost_ret (v := .tuple #[.slice none 0 0, .int .i64 0, .iface 79 (.pointer (some ⟨W3.heap.size, 0, none⟩))]) (by simp [results, Tryd.f18, go_sem, t0.cell, t1.cell, t2.cell]) rfl ⟨_, rfl, ⟨W3.heap.size, _, rfl, (Below.heap_setCell _ _ _ _ (by simp; omega)).trans ((Below.heap_setCell _ _ _ _ (by simp; omega)).trans ((Below.heap_setCell _ _ _ _ (by simp; omega)).trans hE))⟩, ?_⟩
  exact ((hb4.setCell (p := ⟨w.heap.size, 0, none⟩) (Nat.le_refl _) _).setCell (p := ⟨w.heap.size + 1, 0, none⟩) (by show w.heap.size ≤ w.heap.size + 1; omega) _).setCell (p := ⟨w.heap.size + 1 + 1, 0, none⟩) (by show w.heap.size ≤ w.heap.size + 1 + 1; omega) _
end Go.Proofs.YtedgoagonagdjaaDoor
