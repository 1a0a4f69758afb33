/-
  grid.Right, at every map.
-/
import Derived.Test.YtagighbfodlcjaaDoorGRight
namespace Go.Proofs.YtagighbfodlcjaaDoor
open Go.RowKit

set_option maxRecDepth 100000 in
set_option maxHeartbeats 2000000 in
theorem right_any (W H : Int) (s : ByteArray) (hs : s.size ≤ 9223372036854775807) (w : World) :
    Calls Tryd.prog 12 #[.agg #[.int .i64 W, .int .i64 H, .string s]] w fun e w' => e = .returned (.bool (rightB W H s)) ∧ Below w.heap.size w w' := by
  obtain ⟨W1, hW1⟩ : ∃ W1, w.alloc (.cells #[.int .i64 W, .int .i64 H, .string s] 29) = W1 := ⟨_, rfl⟩
  have hB1 : Below w.heap.size w W1 := by rw [← hW1]; exact (Below.refl _ w).alloc (Nat.le_refl _) _
  have hl1 : w.heap.size < W1.heap.size := by rw [← hW1]; simp
  have hb1 : W1.heap[w.heap.size]? = some (.cells #[.int .i64 W, .int .i64 H, .string s] 29) := by rw [← hW1]; exact heap_new _ _
  have q0 := cell_of hb1 0
  have q1 := cell_of hb1 1
  have q2 := cell_of hb1 2
  simp only [List.getElem?_toArray, List.getElem?_cons_zero, List.getElem?_cons_succ] at q0 q1 q2
  have HB := Lib.hid hb1
  clear hb1
  have cells : ∀ W', Below W1.heap.size W1 W' → W'.cell? ⟨w.heap.size, 0, none⟩ = some (.int .i64 W) ∧ W'.cell? ⟨w.heap.size, 1, none⟩ = some (.int .i64 H) ∧ W'.cell? ⟨w.heap.size, 2, none⟩ = some (.string s) := fun W' hb =>
    ⟨(hb.cell (p := ⟨w.heap.size, 0, none⟩) hl1).trans q0, (hb.cell (p := ⟨w.heap.size, 1, none⟩) hl1).trans q1, (hb.cell (p := ⟨w.heap.size, 2, none⟩) hl1).trans q2⟩
  have HC := Lib.hid cells
  clear cells
  by_cases hz : sizedP W H s
  · have hzb : sizedB W H s = true := decide_eq_true hz
    have hc1 := Tryd.strings_Index_one s 67
    by_cases hc : 0 ≤ Lib.indexByte s.data.toList 67
    · exact right_pos W H s hs w hz hc
    · have hno : rightB W H s = false := rightB_false.2 fun h => by
        obtain ⟨_, a, ha, _⟩ := h
        omega
      have hneg : Lib.indexByte s.data.toList 67 < 0 := by omega
      have hdec : decide (0 ≤ Lib.indexByte s.data.toList 67) = false := by simpa using hneg
      obtain ⟨I, hI⟩ : ∃ I, Lib.indexByte s.data.toList 67 = I := ⟨_, rfl⟩
      rw [hI] at hneg hdec
      simp only [hI] at hc1
      have HNO := Lib.hid hno
      have HZB := Lib.hid hzb
      clear hno hzb hI hc hz
      go_enter Tryd.func12, Tryd.ntmps12
      go_wp2_with fail
      refine (sized_any W H s hs _).mono ?_
      rw [HZB.out]
      rintro e w2 ⟨rfl, hB2⟩
      obtain ⟨r0, r1, r2⟩ := HC.out w2 hB2
      clear q0 q1 q2
      go_wp2_with ((with_reducible refine (hc1 _).mono ?_); rintro e w2 ⟨rfl, rfl⟩)
      go_quiet (fail)
      all_goals
        go_wp2_with fail
        go_ret
        exact ⟨by rw [HNO.out] <;> rfl, hB1.trans ((hB2.trans (below_drewN _ _ _)).mono hB1.size)⟩
  · have hzb : sizedB W H s = false := decide_eq_false hz
    have hno : rightB W H s = false := rightB_false.2 fun h => hz h.1
    have HZB := Lib.hid hzb
    clear hzb hz
    go_enter Tryd.func12, Tryd.ntmps12
    go_wp2_with fail
    refine (sized_any W H s hs _).mono ?_
    rw [HZB.out]
    rintro e w2 ⟨rfl, hB2⟩
    go_wp2_with fail
    go_ret
    exact ⟨by rw [hno] <;> rfl, hB1.trans (hB2.mono hB1.size)⟩
end Go.Proofs.YtagighbfodlcjaaDoor
