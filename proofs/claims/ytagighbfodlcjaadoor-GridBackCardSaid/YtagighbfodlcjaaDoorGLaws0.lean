/-
  The grid's laws: the example (awake), Of, what Parse and Lay answer.
-/
import Derived.Test.YtagighbfodlcjaaDoorGPlain
import Derived.Test.YtagighbfodlcjaaDoorVars
namespace Go.Proofs.YtagighbfodlcjaaDoor
open Go.RowKit Go.Sort

theorem parse_some (s : ByteArray) (hs : s.size ≤ 1000) (st : PS) (hp : parseP s = some st) (w : World) :
    Calls Tryd.prog 11 #[.string s] w fun e w' => e = .returned (.tuple #[.agg #[.int .i64 (st.w : Int), .int .i64 (st.h : Int), .string st.c], .nilIface]) ∧ Below w.heap.size w w' :=
  (parse_any s hs w).mono fun e w' h => by
    rcases h with ⟨st', h1, h2, h3⟩ | ⟨v, h1, _⟩
    · obtain rfl := Option.some.inj (hp.symm.trans h1)
      exact ⟨h2, h3⟩
    · rw [hp] at h1; cases h1

theorem parse_none (s : ByteArray) (hs : s.size ≤ 1000) (hp : parseP s = none) (w : World) :
    Calls Tryd.prog 11 #[.string s] w fun e w' => ∃ v, e = .returned (.tuple #[.agg #[.int .i64 0, .int .i64 0, .string ⟨#[]⟩], v]) ∧ IsErr w' 2 v ∧ Below w.heap.size w w' :=
  (parse_any s hs w).mono fun e w' h => by
    rcases h with ⟨st', h1, _⟩ | ⟨v, _, h2⟩
    · rw [hp] at h1; cases h1
    · exact ⟨v, h2⟩

theorem of_any (x y : Int) (c : ByteArray) (w : World) :
    Calls Tryd.prog 9 #[.agg #[.int .i64 x, .int .i64 y, .string c]] w fun e w' => e = .returned (.agg #[.int .i64 x, .int .i64 y, .string c]) ∧ Below w.heap.size w w' := by
  go_enter Tryd.func9, Tryd.ntmps9
  go_wp2
  refine bodyPost_ret (v := .agg #[.int .i64 x, .int .i64 y, .string c]) (by simp [results, Tryd.results9, go_sem]) rfl ⟨rfl, ?_⟩
  exact ((Below.refl _ _).alloc (Nat.le_refl _) _).alloc (by simp) _

theorem right_example : rightB 2 1 ⟨#[46, 67]⟩ = true := by
  refine rightB_true.2 ⟨by decide, 1, by decide, fun i hi => ?_⟩
  have hlt := open_lt hi
  have : i = 0 ∨ i = 1 := by
    simp at hlt
    omega
  rcases this with rfl | rfl
  · exact .step .refl (by decide) (by decide)
  · exact .refl

theorem parse_example : parseP ⟨#[46, 67, 10]⟩ = some ⟨2, 1, ⟨#[46, 67]⟩⟩ := by
  have h := parse_lay (wd := 2) (h := 1) right_example
  rwa [show layG ⟨#[46, 67]⟩ 2 1 = ⟨#[46, 67, 10]⟩ by rfl] at h

/-- grid.Open at a right map -/
theorem open_right (W H : Int) (s : ByteArray) (c : Int) (hs : s.size ≤ 9223372036854775807) (hr : rightB W H s = true) (w : World) :
    Calls Tryd.prog 23 #[.agg #[.int .i64 W, .int .i64 H, .string s], .int .i64 c] w fun e w' => e = .returned (.bool (openZ s c)) ∧ Below w.heap.size w w' := by
  obtain ⟨W1, hW1⟩ : ∃ W1, w.alloc (.cells #[.int .i64 W, .int .i64 H, .string s] 29) = W1 := ⟨_, rfl⟩
  have hB1 : Below w.heap.size w W1 := by rw [← hW1]; exact (Below.refl _ w).alloc (Nat.le_refl _) _
  have hl1 : w.heap.size < W1.heap.size := by rw [← hW1]; simp
  have hb1 : W1.heap[w.heap.size]? = some (.cells #[.int .i64 W, .int .i64 H, .string s] 29) := by rw [← hW1]; exact heap_new _ _
  have q0 := cell_of hb1 0
  have q1 := cell_of hb1 1
  have q2 := cell_of hb1 2
  simp only [List.getElem?_toArray, List.getElem?_cons_zero, List.getElem?_cons_succ] at q0 q1 q2
  have hrt := right_any W H s hs W1
  rw [hr] at hrt
  clear hr hb1
  go_enter Tryd.func23, Tryd.ntmps23
  go_wp2_with fail
  refine hrt.mono ?_
  rintro e w2 ⟨rfl, hB2⟩
  have r0 := (hB2.cell (p := ⟨w.heap.size, 0, none⟩) hl1).trans q0
  have r1 := (hB2.cell (p := ⟨w.heap.size, 1, none⟩) hl1).trans q1
  have r2 := (hB2.cell (p := ⟨w.heap.size, 2, none⟩) hl1).trans q2
  clear q0 q1 q2
  go_wp2_with fail
  refine (open_any W H s c w2).mono ?_
  rintro e w3 ⟨rfl, hB3⟩
  go_wp2_with fail
  go_ret
  exact ⟨rfl, hB1.trans ((hB2.trans (hB3.mono hB2.size)).mono hB1.size)⟩

theorem awake_any (w : World) (_hv : Vars w) :
    Calls Tryd.prog 7 #[] w fun e w' => e = .returned (.bool true) ∧ Below w.heap.size w w' := by
  have ho : openZ ⟨#[46, 67]⟩ 0 = true := by decide
  have HO := Lib.hid ho
  clear ho
  go_enter Tryd.func7, Tryd.ntmps7
  go_wp2_with fail
  refine (parse_some _ (by decide) _ parse_example _).mono ?_
  rintro e w1 ⟨rfl, hB1⟩
  go_wp2_with fail
  refine (num_nil _).mono ?_
  rintro e w2 ⟨rfl, rfl⟩
  go_wp2_with fail
  refine (open_right 2 1 ⟨#[46, 67]⟩ 0 (by decide) right_example _).mono ?_
  rintro e w3 ⟨rfl, hB3⟩
  rw [HO.out]
  go_wp2_with fail
  go_ret
  have hb : Below w.heap.size w (w1.alloc (.cells #[.int .i64 2, .int .i64 1, .string ⟨#[46, 67]⟩] 29)) := hB1.alloc hB1.size _
  exact ⟨rfl, hb.trans (hB3.mono hb.size)⟩
end Go.Proofs.YtagighbfodlcjaaDoor
