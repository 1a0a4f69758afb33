/-
  The law GridBack, walked.
-/
import Derived.Test.YtagighbfodlcjaaDoorGLaws0
import Derived.Deep.RegionWith
namespace Go.Proofs.YtagighbfodlcjaaDoor
open Go.RowKit Go.Sort

theorem lay_size {wd h : Nat} {s : ByteArray} (h8 : wd ≤ 8) (hh8 : h ≤ 8) : (layG s wd h).size ≤ 1000 := by
  have h1 := rowsL_len s wd (List.range h)
  rw [List.length_range] at h1
  have h2 : h * (wd + 1) ≤ 8 * 9 := Nat.mul_le_mul hh8 (by omega)
  show (rowsL s wd (List.range h)).toArray.size ≤ 1000
  rw [List.size_toArray]
  omega

/-- two maps' boxes, and what lies below -/
def KG (b1 b2 : Nat) (x y z x' y' z' : Value) (W0 w : World) : Prop :=
  (w.cell? ⟨b1, 0, none⟩ = some x ∧ w.cell? ⟨b1, 1, none⟩ = some y ∧ w.cell? ⟨b1, 2, none⟩ = some z) ∧ (w.cell? ⟨b2, 0, none⟩ = some x' ∧ w.cell? ⟨b2, 1, none⟩ = some y' ∧ w.cell? ⟨b2, 2, none⟩ = some z') ∧ Below W0.heap.size W0 w ∧ b1 < W0.heap.size ∧ b2 < W0.heap.size
theorem KG.drew {b1 b2 : Nat} {x y z x' y' z' : Value} {W0 w : World} (h : KG b1 b2 x y z x' y' z' W0 w) : KG b1 b2 x y z x' y' z' W0 w.drew := ⟨h.1, h.2.1, h.2.2.1.drew, h.2.2.2⟩
theorem KG.below {b1 b2 : Nat} {x y z x' y' z' : Value} {W0 w w' : World} (h : KG b1 b2 x y z x' y' z' W0 w) (hb : Below w.heap.size w w') : KG b1 b2 x y z x' y' z' W0 w' := by
  obtain ⟨⟨p0, p1, p2⟩, ⟨r0, r1, r2⟩, h3, h4, h5⟩ := h
  have l1 : b1 < w.heap.size := Nat.lt_of_lt_of_le h4 h3.size
  have l2 : b2 < w.heap.size := Nat.lt_of_lt_of_le h5 h3.size
  exact ⟨⟨(hb.cell (p := ⟨b1, 0, none⟩) l1).trans p0, (hb.cell (p := ⟨b1, 1, none⟩) l1).trans p1, (hb.cell (p := ⟨b1, 2, none⟩) l1).trans p2⟩,
    ⟨(hb.cell (p := ⟨b2, 0, none⟩) l2).trans r0, (hb.cell (p := ⟨b2, 1, none⟩) l2).trans r1, (hb.cell (p := ⟨b2, 2, none⟩) l2).trans r2⟩, h3.trans (hb.mono h3.size), h4, h5⟩

theorem of_kg {b1 b2 : Nat} {x y : Int} {c : ByteArray} {x' y' z' : Value} {W0 w : World} (h : KG b1 b2 (.int .i64 x) (.int .i64 y) (.string c) x' y' z' W0 w) :
    Calls Tryd.prog 9 #[.agg #[.int .i64 x, .int .i64 y, .string c]] w fun e w' => e = .returned (.agg #[.int .i64 x, .int .i64 y, .string c]) ∧
      (w'.cell? ⟨b1, 0, none⟩ = some (.int .i64 x) ∧ w'.cell? ⟨b1, 1, none⟩ = some (.int .i64 y) ∧ w'.cell? ⟨b1, 2, none⟩ = some (.string c)) ∧ (w'.cell? ⟨b2, 0, none⟩ = some x' ∧ w'.cell? ⟨b2, 1, none⟩ = some y' ∧ w'.cell? ⟨b2, 2, none⟩ = some z') ∧ KG b1 b2 (.int .i64 x) (.int .i64 y) (.string c) x' y' z' W0 w' :=
  (of_any x y c w).mono fun _ _ ⟨he, hb⟩ => ⟨he, (h.below hb).1, (h.below hb).2.1, h.below hb⟩

theorem num_nil_same (w : World) : Calls Tryd.prog 10 #[.nilIface] w fun e w' => e = .returned (.int .i64 0) ∧ w = w' := (num_nil w).mono fun _ _ ⟨he, hw⟩ => ⟨he, hw.symm⟩

set_option maxRecDepth 100000 in
set_option maxHeartbeats 2000000 in
theorem back_yes_none (W H : Int) (c s : ByteArray) (hc : c.size ≤ 200) (hs : s.size ≤ 200) (w : World) (hv : Vars w) (hr : rightB W H c = true) (hp : parseP s = none) :
    Calls Tryd.prog 3 #[.agg #[.int .i64 W, .int .i64 H, .string c], .string s] w fun e w' => e = .returned (.bool true) ∧ Below w.heap.size w w' := by
  obtain ⟨W1, hW1⟩ : ∃ W1, w.alloc (.cells #[.int .i64 W, .int .i64 H, .string c] 23) = W1 := ⟨_, rfl⟩
  have hB1 : Below w.heap.size w W1 := by rw [← hW1]; exact (Below.refl _ w).alloc (Nat.le_refl _) _
  have hl1 : w.heap.size < W1.heap.size := by rw [← hW1]; simp
  have hb1 : W1.heap[w.heap.size]? = some (.cells #[.int .i64 W, .int .i64 H, .string c] 23) := by rw [← hW1]; exact heap_new _ _
  have q0 := cell_of hb1 0
  have q1 := cell_of hb1 1
  have q2 := cell_of hb1 2
  simp only [List.getElem?_toArray, List.getElem?_cons_zero, List.getElem?_cons_succ] at q0 q1 q2
  have cells : ∀ W', Below W1.heap.size W1 W' → W'.cell? ⟨w.heap.size, 0, none⟩ = some (.int .i64 W) ∧ W'.cell? ⟨w.heap.size, 1, none⟩ = some (.int .i64 H) ∧ W'.cell? ⟨w.heap.size, 2, none⟩ = some (.string c) := fun W' hb =>
    ⟨(hb.cell (p := ⟨w.heap.size, 0, none⟩) hl1).trans q0, (hb.cell (p := ⟨w.heap.size, 1, none⟩) hl1).trans q1, (hb.cell (p := ⟨w.heap.size, 2, none⟩) hl1).trans q2⟩
  have HC := Lib.hid cells
  clear cells hb1
  have hv1 := hv.below' hB1
  have hc' : (c.size : Int) ≤ 200 := by omega
  have hs' : (s.size : Int) ≤ 200 := by omega
  have HP := Lib.hid hp
  clear hp
  obtain ⟨wd, h', rfl, rfl, z1, z2, z3, z4, z5⟩ := right_nat hr
  have hlay := fun W' => lay_yes wd h' c z1 z2 z3 z4 z5 hr W'
  have hpar := fun W' => parse_some (layG c wd h') (lay_size z2 z4) _ (parse_lay hr) W'
  have HLAY := Lib.hid hlay
  have HPAR := Lib.hid hpar
  have Z5 := Lib.hid z5
  clear hr hlay hpar z5
  go_enter Tryd.func3, Tryd.ntmps3
  go_wp2_with fail
  refine (awake_any _ hv1).mono ?_
  rintro e w2 ⟨rfl, hB2⟩
  obtain ⟨r0, r1, r2⟩ := HC.out _ hB2
  clear q0 q1 q2
  go_wp2_with fail
  refine (of_any _ _ _ _).mono ?_
  rintro e w3 ⟨rfl, hB3⟩
  clear r0 r1 r2
  go_wp2_with fail
  refine (HLAY.out _).mono ?_
  rintro e w4 ⟨rfl, hB4⟩
  go_wp2_with fail
  refine (num_nil_same _).mono ?_
  rintro e w4 ⟨rfl, rfl⟩
  go_wp2_with fail
  refine (HPAR.out _).mono ?_
  rintro e w5 ⟨rfl, hB5⟩
  go_wp2_with fail
  obtain ⟨W6, hW6⟩ : ∃ W6, w5.alloc (.cells #[.int .i64 (wd : Int), .int .i64 (h' : Int), .string c] 29) = W6 := ⟨_, rfl⟩
  have hB15 : Below W1.heap.size W1 w5 := by
    have a1 := hB2.trans (hB3.mono hB2.size)
    have a2 := a1.trans (hB4.mono a1.size)
    exact a2.trans (hB5.mono a2.size)
  have hB16 : Below W1.heap.size W1 W6 := by rw [← hW6]; exact hB15.alloc hB15.size _
  have hb6 : W6.heap[w5.heap.size]? = some (.cells #[.int .i64 (wd : Int), .int .i64 (h' : Int), .string c] 29) := by rw [← hW6]; exact heap_new _ _
  have hl6 : w5.heap.size < W6.heap.size := by rw [← hW6]; simp
  have s0 := cell_of hb6 0
  have s1 := cell_of hb6 1
  have s2 := cell_of hb6 2
  simp only [List.getElem?_toArray, List.getElem?_cons_zero, List.getElem?_cons_succ] at s0 s1 s2
  obtain ⟨r0, r1, r2⟩ := HC.out _ hB16
  have hkg : KG w.heap.size w5.heap.size (.int .i64 (wd : Int)) (.int .i64 (h' : Int)) (.string c) (.int .i64 (wd : Int)) (.int .i64 (h' : Int)) (.string c) W6 W6 := ⟨⟨r0, r1, r2⟩, ⟨s0, s1, s2⟩, Below.refl _ _, Nat.lt_of_lt_of_le hl1 hB16.size, hl6⟩
  rw [hW6]
  have HW6 := Lib.hid hW6
  clear hW6 hb6
  go_region_with (first
    | ((with_reducible refine (num_nil_same _).mono ?_); rintro e w7 ⟨rfl, rfl⟩)
    | ((with_reducible refine (of_kg (by first | assumption | exact KG.drew (by assumption))).mono ?_); rintro e w7 ⟨rfl, ⟨hx0, hx1, hx2⟩, ⟨hy0, hy1, hy2⟩, hkg7⟩))
  all_goals
    have hv7 := (hv1.below' hB16).below' hkg7.2.2.1
    have hB17 : Below w.heap.size w w7 := hB1.trans ((hB16.trans (hkg7.2.2.1.mono hB16.size)).mono hB1.size)
    clear hx0 hx1 hx2 hy0 hy1 hy2 s0 s1 s2 r0 r1 r2 hkg
    go_wp2_with fail
    refine (parse_none s (by omega) HP.out _).mono ?_
    rintro e w8 ⟨v8, rfl, hE8, hB8⟩
    go_wp2_with fail
    obtain ⟨W9, hW9⟩ : ∃ W9, w8.alloc (.cells #[.int .i64 0, .int .i64 0, .string ⟨#[]⟩] 29) = W9 := ⟨_, rfl⟩
    have hB9 : Below w8.heap.size w8 W9 := by rw [← hW9]; exact (Below.refl _ _).alloc (Nat.le_refl _) _
    have hl9 : w8.heap.size < W9.heap.size := by rw [← hW9]; simp
    have hb9 : W9.heap[w8.heap.size]? = some (.cells #[.int .i64 0, .int .i64 0, .string ⟨#[]⟩] 29) := by rw [← hW9]; exact heap_new _ _
    have hv9 := (hv7.below' hB8).below' hB9
    have hE9 := hE8.below' hB9
    rw [hW9]
    clear hW9
    refine (num_err v8 2 _ hv9.err hv9.size hE9).mono ?_
    rintro e w10 ⟨rfl, hB10⟩
    have hv10 := hv9.below' hB10
    have hE10 := hE9.below' hB10
    go_wp2_with fail
    refine (num_err v8 2 _ hv10.err hv10.size hE10).mono ?_
    rintro e w11 ⟨rfl, hB11⟩
    have hb11 := (hB11.block _ (Nat.lt_of_lt_of_le hl9 hB10.size)).trans ((hB10.block _ hl9).trans hb9)
    have t0 := cell_of hb11 0
    have t1 := cell_of hb11 1
    have t2 := cell_of hb11 2
    simp only [List.getElem?_toArray, List.getElem?_cons_zero, List.getElem?_cons_succ] at t0 t1 t2
    clear hb9 hb11
    go_wp2_with fail
    go_ret
    refine ⟨rfl, ?_⟩
    have a1 := hB17.trans (hB8.mono hB17.size)
    have a2 := a1.trans (hB9.mono a1.size)
    have a3 := a2.trans (hB10.mono a2.size)
    exact a3.trans (hB11.mono a3.size)

set_option maxRecDepth 100000 in
set_option maxHeartbeats 2000000 in
theorem back_yes_some (W H : Int) (c s : ByteArray) (hc : c.size ≤ 200) (hs : s.size ≤ 200) (w : World) (hv : Vars w) (hr : rightB W H c = true) (st : PS) (hp : parseP s = some st) :
    Calls Tryd.prog 3 #[.agg #[.int .i64 W, .int .i64 H, .string c], .string s] w fun e w' => e = .returned (.bool true) ∧ Below w.heap.size w w' := by
  obtain ⟨W1, hW1⟩ : ∃ W1, w.alloc (.cells #[.int .i64 W, .int .i64 H, .string c] 23) = W1 := ⟨_, rfl⟩
  have hB1 : Below w.heap.size w W1 := by rw [← hW1]; exact (Below.refl _ w).alloc (Nat.le_refl _) _
  have hl1 : w.heap.size < W1.heap.size := by rw [← hW1]; simp
  have hb1 : W1.heap[w.heap.size]? = some (.cells #[.int .i64 W, .int .i64 H, .string c] 23) := by rw [← hW1]; exact heap_new _ _
  have q0 := cell_of hb1 0
  have q1 := cell_of hb1 1
  have q2 := cell_of hb1 2
  simp only [List.getElem?_toArray, List.getElem?_cons_zero, List.getElem?_cons_succ] at q0 q1 q2
  have cells : ∀ W', Below W1.heap.size W1 W' → W'.cell? ⟨w.heap.size, 0, none⟩ = some (.int .i64 W) ∧ W'.cell? ⟨w.heap.size, 1, none⟩ = some (.int .i64 H) ∧ W'.cell? ⟨w.heap.size, 2, none⟩ = some (.string c) := fun W' hb =>
    ⟨(hb.cell (p := ⟨w.heap.size, 0, none⟩) hl1).trans q0, (hb.cell (p := ⟨w.heap.size, 1, none⟩) hl1).trans q1, (hb.cell (p := ⟨w.heap.size, 2, none⟩) hl1).trans q2⟩
  have HC := Lib.hid cells
  clear cells hb1
  have hv1 := hv.below' hB1
  have hc' : (c.size : Int) ≤ 200 := by omega
  have hs' : (s.size : Int) ≤ 200 := by omega
  obtain ⟨hlp, hrp⟩ := lay_parse hp
  obtain ⟨w2', h2', e1, e2, y1, y2, y3, y4, y5⟩ := right_nat hrp
  have e1' : st.w = w2' := by omega
  have e2' : st.h = h2' := by omega
  subst e1'
  subst e2'
  have HL2 : Hid (∀ W', Calls Tryd.prog 8 #[.agg #[.int .i64 (st.w : Int), .int .i64 (st.h : Int), .string st.c]] W' fun e w' => e = .returned (.tuple #[.string s, .nilIface]) ∧ Below W'.heap.size W' w') :=
    Lib.hid fun W' => (lay_yes st.w st.h st.c y1 y2 y3 y4 y5 hrp W').mono fun e w' h => by
      have h' : e = .returned (.tuple #[.string (layG st.c st.w st.h), .nilIface]) ∧ Below W'.heap.size W' w' := h
      rwa [hlp] at h'
  have hc64 : st.c.size ≤ 64 := by rw [y5]; exact Nat.mul_le_mul y4 y2
  have HR2 : Hid (∀ W', Calls Tryd.prog 12 #[.agg #[.int .i64 (st.w : Int), .int .i64 (st.h : Int), .string st.c]] W' fun e w' => e = .returned (.bool true) ∧ Below W'.heap.size W' w') :=
    Lib.hid fun W' => by have := right_any (st.w : Int) (st.h : Int) st.c (by omega) W'; rwa [hrp] at this
  have HP := Lib.hid hp
  clear hp hlp hrp y5
  obtain ⟨wd, h', rfl, rfl, z1, z2, z3, z4, z5⟩ := right_nat hr
  have hlay := fun W' => lay_yes wd h' c z1 z2 z3 z4 z5 hr W'
  have hpar := fun W' => parse_some (layG c wd h') (lay_size z2 z4) _ (parse_lay hr) W'
  have HLAY := Lib.hid hlay
  have HPAR := Lib.hid hpar
  have Z5 := Lib.hid z5
  clear hr hlay hpar z5
  go_enter Tryd.func3, Tryd.ntmps3
  go_wp2_with fail
  refine (awake_any _ hv1).mono ?_
  rintro e w2 ⟨rfl, hB2⟩
  obtain ⟨r0, r1, r2⟩ := HC.out _ hB2
  clear q0 q1 q2
  go_wp2_with fail
  refine (of_any _ _ _ _).mono ?_
  rintro e w3 ⟨rfl, hB3⟩
  clear r0 r1 r2
  go_wp2_with fail
  refine (HLAY.out _).mono ?_
  rintro e w4 ⟨rfl, hB4⟩
  go_wp2_with fail
  refine (num_nil_same _).mono ?_
  rintro e w4 ⟨rfl, rfl⟩
  go_wp2_with fail
  refine (HPAR.out _).mono ?_
  rintro e w5 ⟨rfl, hB5⟩
  go_wp2_with fail
  obtain ⟨W6, hW6⟩ : ∃ W6, w5.alloc (.cells #[.int .i64 (wd : Int), .int .i64 (h' : Int), .string c] 29) = W6 := ⟨_, rfl⟩
  have hB15 : Below W1.heap.size W1 w5 := by
    have a1 := hB2.trans (hB3.mono hB2.size)
    have a2 := a1.trans (hB4.mono a1.size)
    exact a2.trans (hB5.mono a2.size)
  have hB16 : Below W1.heap.size W1 W6 := by rw [← hW6]; exact hB15.alloc hB15.size _
  have hb6 : W6.heap[w5.heap.size]? = some (.cells #[.int .i64 (wd : Int), .int .i64 (h' : Int), .string c] 29) := by rw [← hW6]; exact heap_new _ _
  have hl6 : w5.heap.size < W6.heap.size := by rw [← hW6]; simp
  have s0 := cell_of hb6 0
  have s1 := cell_of hb6 1
  have s2 := cell_of hb6 2
  simp only [List.getElem?_toArray, List.getElem?_cons_zero, List.getElem?_cons_succ] at s0 s1 s2
  obtain ⟨r0, r1, r2⟩ := HC.out _ hB16
  have hkg : KG w.heap.size w5.heap.size (.int .i64 (wd : Int)) (.int .i64 (h' : Int)) (.string c) (.int .i64 (wd : Int)) (.int .i64 (h' : Int)) (.string c) W6 W6 := ⟨⟨r0, r1, r2⟩, ⟨s0, s1, s2⟩, Below.refl _ _, Nat.lt_of_lt_of_le hl1 hB16.size, hl6⟩
  rw [hW6]
  have HW6 := Lib.hid hW6
  clear hW6 hb6
  go_region_with (first
    | ((with_reducible refine (num_nil_same _).mono ?_); rintro e w7 ⟨rfl, rfl⟩)
    | ((with_reducible refine (of_kg (by first | assumption | exact KG.drew (by assumption))).mono ?_); rintro e w7 ⟨rfl, ⟨hx0, hx1, hx2⟩, ⟨hy0, hy1, hy2⟩, hkg7⟩))
  all_goals
    have hv7 := (hv1.below' hB16).below' hkg7.2.2.1
    have hB17 : Below w.heap.size w w7 := hB1.trans ((hB16.trans (hkg7.2.2.1.mono hB16.size)).mono hB1.size)
    clear hx0 hx1 hx2 hy0 hy1 hy2 s0 s1 s2 r0 r1 r2 hkg
    go_wp2_with fail
    refine (parse_some s (by omega) st HP.out _).mono ?_
    rintro e w8 ⟨rfl, hB8⟩
    go_wp2_with fail
    obtain ⟨W9, hW9⟩ : ∃ W9, w8.alloc (.cells #[.int .i64 (st.w : Int), .int .i64 (st.h : Int), .string st.c] 29) = W9 := ⟨_, rfl⟩
    have hB9 : Below w8.heap.size w8 W9 := by rw [← hW9]; exact (Below.refl _ _).alloc (Nat.le_refl _) _
    have hl9 : w8.heap.size < W9.heap.size := by rw [← hW9]; simp
    have hb9 : W9.heap[w8.heap.size]? = some (.cells #[.int .i64 (st.w : Int), .int .i64 (st.h : Int), .string st.c] 29) := by rw [← hW9]; exact heap_new _ _
    have t0 := cell_of hb9 0
    have t1 := cell_of hb9 1
    have t2 := cell_of hb9 2
    simp only [List.getElem?_toArray, List.getElem?_cons_zero, List.getElem?_cons_succ] at t0 t1 t2
    rw [hW9]
    clear hW9
    refine (num_nil_same _).mono ?_
    rintro e W9 ⟨rfl, rfl⟩
    go_wp2_with fail
    refine (HL2.out _).mono ?_
    rintro e w10 ⟨rfl, hB10⟩
    have hb10 := (hB10.block _ hl9).trans hb9
    have u0 := cell_of hb10 0
    have u1 := cell_of hb10 1
    have u2 := cell_of hb10 2
    simp only [List.getElem?_toArray, List.getElem?_cons_zero, List.getElem?_cons_succ] at u0 u1 u2
    clear t0 t1 t2 hb9 hb10
    go_wp2_with fail
    refine (num_nil_same _).mono ?_
    rintro e w10 ⟨rfl, rfl⟩
    go_wp2_with fail
    refine (HR2.out _).mono ?_
    rintro e w11 ⟨rfl, hB11⟩
    go_wp2_with fail
    go_ret
    refine ⟨rfl, ?_⟩
    have a1 := hB17.trans (hB8.mono hB17.size)
    have a2 := a1.trans (hB9.mono a1.size)
    have a3 := a2.trans (hB10.mono a2.size)
    exact a3.trans (hB11.mono a3.size)

set_option maxRecDepth 100000 in
set_option maxHeartbeats 2000000 in
theorem back_no_none (W H : Int) (c s : ByteArray) (hc : c.size ≤ 200) (hs : s.size ≤ 200) (w : World) (hv : Vars w) (hr : rightB W H c = false) (hp : parseP s = none) :
    Calls Tryd.prog 3 #[.agg #[.int .i64 W, .int .i64 H, .string c], .string s] w fun e w' => e = .returned (.bool true) ∧ Below w.heap.size w w' := by
  obtain ⟨W1, hW1⟩ : ∃ W1, w.alloc (.cells #[.int .i64 W, .int .i64 H, .string c] 23) = W1 := ⟨_, rfl⟩
  have hB1 : Below w.heap.size w W1 := by rw [← hW1]; exact (Below.refl _ w).alloc (Nat.le_refl _) _
  have hl1 : w.heap.size < W1.heap.size := by rw [← hW1]; simp
  have hb1 : W1.heap[w.heap.size]? = some (.cells #[.int .i64 W, .int .i64 H, .string c] 23) := by rw [← hW1]; exact heap_new _ _
  have q0 := cell_of hb1 0
  have q1 := cell_of hb1 1
  have q2 := cell_of hb1 2
  simp only [List.getElem?_toArray, List.getElem?_cons_zero, List.getElem?_cons_succ] at q0 q1 q2
  have cells : ∀ W', Below W1.heap.size W1 W' → W'.cell? ⟨w.heap.size, 0, none⟩ = some (.int .i64 W) ∧ W'.cell? ⟨w.heap.size, 1, none⟩ = some (.int .i64 H) ∧ W'.cell? ⟨w.heap.size, 2, none⟩ = some (.string c) := fun W' hb =>
    ⟨(hb.cell (p := ⟨w.heap.size, 0, none⟩) hl1).trans q0, (hb.cell (p := ⟨w.heap.size, 1, none⟩) hl1).trans q1, (hb.cell (p := ⟨w.heap.size, 2, none⟩) hl1).trans q2⟩
  have HC := Lib.hid cells
  clear cells hb1
  have hv1 := hv.below' hB1
  have hc' : (c.size : Int) ≤ 200 := by omega
  have hs' : (s.size : Int) ≤ 200 := by omega
  have HP := Lib.hid hp
  clear hp
  have hlno := fun W' => lay_no W H c (by omega) hr W'
  have HLNO := Lib.hid hlno
  clear hr hlno
  go_enter Tryd.func3, Tryd.ntmps3
  go_wp2_with fail
  refine (awake_any _ hv1).mono ?_
  rintro e w2 ⟨rfl, hB2⟩
  obtain ⟨r0, r1, r2⟩ := HC.out _ hB2
  clear q0 q1 q2
  go_wp2_with fail
  refine (of_any _ _ _ _).mono ?_
  rintro e w3 ⟨rfl, hB3⟩
  clear r0 r1 r2
  go_wp2_with fail
  refine (HLNO.out _).mono ?_
  rintro e w4 ⟨v4, rfl, hE4, hB4⟩
  have hB14 : Below W1.heap.size W1 w4 := by
    have a1 := hB2.trans (hB3.mono hB2.size)
    exact a1.trans (hB4.mono a1.size)
  have hv4 := hv1.below' hB14
  go_wp2_with fail
  refine (num_err v4 1 _ hv4.err hv4.size hE4).mono ?_
  rintro e w5 ⟨rfl, hB5⟩
  have hv5 := hv4.below' hB5
  go_wp2_with fail
  refine (num_err v4 1 _ hv5.err hv5.size (hE4.below' hB5)).mono ?_
  rintro e w7 ⟨rfl, hB7⟩
  all_goals
    have hv7 := hv5.below' hB7
    have hB17 : Below w.heap.size w w7 := by
      have a1 := hB1.trans (hB14.mono hB1.size)
      have a2 := a1.trans (hB5.mono a1.size)
      exact a2.trans (hB7.mono a2.size)
    go_wp2_with fail
    refine (parse_none s (by omega) HP.out _).mono ?_
    rintro e w8 ⟨v8, rfl, hE8, hB8⟩
    go_wp2_with fail
    obtain ⟨W9, hW9⟩ : ∃ W9, w8.alloc (.cells #[.int .i64 0, .int .i64 0, .string ⟨#[]⟩] 29) = W9 := ⟨_, rfl⟩
    have hB9 : Below w8.heap.size w8 W9 := by rw [← hW9]; exact (Below.refl _ _).alloc (Nat.le_refl _) _
    have hl9 : w8.heap.size < W9.heap.size := by rw [← hW9]; simp
    have hb9 : W9.heap[w8.heap.size]? = some (.cells #[.int .i64 0, .int .i64 0, .string ⟨#[]⟩] 29) := by rw [← hW9]; exact heap_new _ _
    have hv9 := (hv7.below' hB8).below' hB9
    have hE9 := hE8.below' hB9
    rw [hW9]
    clear hW9
    refine (num_err v8 2 _ hv9.err hv9.size hE9).mono ?_
    rintro e w10 ⟨rfl, hB10⟩
    have hv10 := hv9.below' hB10
    have hE10 := hE9.below' hB10
    go_wp2_with fail
    refine (num_err v8 2 _ hv10.err hv10.size hE10).mono ?_
    rintro e w11 ⟨rfl, hB11⟩
    have hb11 := (hB11.block _ (Nat.lt_of_lt_of_le hl9 hB10.size)).trans ((hB10.block _ hl9).trans hb9)
    have t0 := cell_of hb11 0
    have t1 := cell_of hb11 1
    have t2 := cell_of hb11 2
    simp only [List.getElem?_toArray, List.getElem?_cons_zero, List.getElem?_cons_succ] at t0 t1 t2
    clear hb9 hb11
    go_wp2_with fail
    go_ret
    refine ⟨rfl, ?_⟩
    have a1 := hB17.trans (hB8.mono hB17.size)
    have a2 := a1.trans (hB9.mono a1.size)
    have a3 := a2.trans (hB10.mono a2.size)
    exact a3.trans (hB11.mono a3.size)

set_option maxRecDepth 100000 in
set_option maxHeartbeats 2000000 in
theorem back_no_some (W H : Int) (c s : ByteArray) (hc : c.size ≤ 200) (hs : s.size ≤ 200) (w : World) (hv : Vars w) (hr : rightB W H c = false) (st : PS) (hp : parseP s = some st) :
    Calls Tryd.prog 3 #[.agg #[.int .i64 W, .int .i64 H, .string c], .string s] w fun e w' => e = .returned (.bool true) ∧ Below w.heap.size w w' := by
  obtain ⟨W1, hW1⟩ : ∃ W1, w.alloc (.cells #[.int .i64 W, .int .i64 H, .string c] 23) = W1 := ⟨_, rfl⟩
  have hB1 : Below w.heap.size w W1 := by rw [← hW1]; exact (Below.refl _ w).alloc (Nat.le_refl _) _
  have hl1 : w.heap.size < W1.heap.size := by rw [← hW1]; simp
  have hb1 : W1.heap[w.heap.size]? = some (.cells #[.int .i64 W, .int .i64 H, .string c] 23) := by rw [← hW1]; exact heap_new _ _
  have q0 := cell_of hb1 0
  have q1 := cell_of hb1 1
  have q2 := cell_of hb1 2
  simp only [List.getElem?_toArray, List.getElem?_cons_zero, List.getElem?_cons_succ] at q0 q1 q2
  have cells : ∀ W', Below W1.heap.size W1 W' → W'.cell? ⟨w.heap.size, 0, none⟩ = some (.int .i64 W) ∧ W'.cell? ⟨w.heap.size, 1, none⟩ = some (.int .i64 H) ∧ W'.cell? ⟨w.heap.size, 2, none⟩ = some (.string c) := fun W' hb =>
    ⟨(hb.cell (p := ⟨w.heap.size, 0, none⟩) hl1).trans q0, (hb.cell (p := ⟨w.heap.size, 1, none⟩) hl1).trans q1, (hb.cell (p := ⟨w.heap.size, 2, none⟩) hl1).trans q2⟩
  have HC := Lib.hid cells
  clear cells hb1
  have hv1 := hv.below' hB1
  have hc' : (c.size : Int) ≤ 200 := by omega
  have hs' : (s.size : Int) ≤ 200 := by omega
  obtain ⟨hlp, hrp⟩ := lay_parse hp
  obtain ⟨w2', h2', e1, e2, y1, y2, y3, y4, y5⟩ := right_nat hrp
  have e1' : st.w = w2' := by omega
  have e2' : st.h = h2' := by omega
  subst e1'
  subst e2'
  have HL2 : Hid (∀ W', Calls Tryd.prog 8 #[.agg #[.int .i64 (st.w : Int), .int .i64 (st.h : Int), .string st.c]] W' fun e w' => e = .returned (.tuple #[.string s, .nilIface]) ∧ Below W'.heap.size W' w') :=
    Lib.hid fun W' => (lay_yes st.w st.h st.c y1 y2 y3 y4 y5 hrp W').mono fun e w' h => by
      have h' : e = .returned (.tuple #[.string (layG st.c st.w st.h), .nilIface]) ∧ Below W'.heap.size W' w' := h
      rwa [hlp] at h'
  have hc64 : st.c.size ≤ 64 := by rw [y5]; exact Nat.mul_le_mul y4 y2
  have HR2 : Hid (∀ W', Calls Tryd.prog 12 #[.agg #[.int .i64 (st.w : Int), .int .i64 (st.h : Int), .string st.c]] W' fun e w' => e = .returned (.bool true) ∧ Below W'.heap.size W' w') :=
    Lib.hid fun W' => by have := right_any (st.w : Int) (st.h : Int) st.c (by omega) W'; rwa [hrp] at this
  have HP := Lib.hid hp
  clear hp hlp hrp y5
  have hlno := fun W' => lay_no W H c (by omega) hr W'
  have HLNO := Lib.hid hlno
  clear hr hlno
  go_enter Tryd.func3, Tryd.ntmps3
  go_wp2_with fail
  refine (awake_any _ hv1).mono ?_
  rintro e w2 ⟨rfl, hB2⟩
  obtain ⟨r0, r1, r2⟩ := HC.out _ hB2
  clear q0 q1 q2
  go_wp2_with fail
  refine (of_any _ _ _ _).mono ?_
  rintro e w3 ⟨rfl, hB3⟩
  clear r0 r1 r2
  go_wp2_with fail
  refine (HLNO.out _).mono ?_
  rintro e w4 ⟨v4, rfl, hE4, hB4⟩
  have hB14 : Below W1.heap.size W1 w4 := by
    have a1 := hB2.trans (hB3.mono hB2.size)
    exact a1.trans (hB4.mono a1.size)
  have hv4 := hv1.below' hB14
  go_wp2_with fail
  refine (num_err v4 1 _ hv4.err hv4.size hE4).mono ?_
  rintro e w5 ⟨rfl, hB5⟩
  have hv5 := hv4.below' hB5
  go_wp2_with fail
  refine (num_err v4 1 _ hv5.err hv5.size (hE4.below' hB5)).mono ?_
  rintro e w7 ⟨rfl, hB7⟩
  all_goals
    have hv7 := hv5.below' hB7
    have hB17 : Below w.heap.size w w7 := by
      have a1 := hB1.trans (hB14.mono hB1.size)
      have a2 := a1.trans (hB5.mono a1.size)
      exact a2.trans (hB7.mono a2.size)
    go_wp2_with fail
    refine (parse_some s (by omega) st HP.out _).mono ?_
    rintro e w8 ⟨rfl, hB8⟩
    go_wp2_with fail
    obtain ⟨W9, hW9⟩ : ∃ W9, w8.alloc (.cells #[.int .i64 (st.w : Int), .int .i64 (st.h : Int), .string st.c] 29) = W9 := ⟨_, rfl⟩
    have hB9 : Below w8.heap.size w8 W9 := by rw [← hW9]; exact (Below.refl _ _).alloc (Nat.le_refl _) _
    have hl9 : w8.heap.size < W9.heap.size := by rw [← hW9]; simp
    have hb9 : W9.heap[w8.heap.size]? = some (.cells #[.int .i64 (st.w : Int), .int .i64 (st.h : Int), .string st.c] 29) := by rw [← hW9]; exact heap_new _ _
    have t0 := cell_of hb9 0
    have t1 := cell_of hb9 1
    have t2 := cell_of hb9 2
    simp only [List.getElem?_toArray, List.getElem?_cons_zero, List.getElem?_cons_succ] at t0 t1 t2
    rw [hW9]
    clear hW9
    refine (num_nil_same _).mono ?_
    rintro e W9 ⟨rfl, rfl⟩
    go_wp2_with fail
    refine (HL2.out _).mono ?_
    rintro e w10 ⟨rfl, hB10⟩
    have hb10 := (hB10.block _ hl9).trans hb9
    have u0 := cell_of hb10 0
    have u1 := cell_of hb10 1
    have u2 := cell_of hb10 2
    simp only [List.getElem?_toArray, List.getElem?_cons_zero, List.getElem?_cons_succ] at u0 u1 u2
    clear t0 t1 t2 hb9 hb10
    go_wp2_with fail
    refine (num_nil_same _).mono ?_
    rintro e w10 ⟨rfl, rfl⟩
    go_wp2_with fail
    refine (HR2.out _).mono ?_
    rintro e w11 ⟨rfl, hB11⟩
    go_wp2_with fail
    go_ret
    refine ⟨rfl, ?_⟩
    have a1 := hB17.trans (hB8.mono hB17.size)
    have a2 := a1.trans (hB9.mono a1.size)
    have a3 := a2.trans (hB10.mono a2.size)
    exact a3.trans (hB11.mono a3.size)


theorem back_big (W H : Int) (c s : ByteArray) (hbig : 200 < c.size ∨ 200 < s.size) (w : World) (hv : Vars w) :
    Calls Tryd.prog 3 #[.agg #[.int .i64 W, .int .i64 H, .string c], .string s] w fun e w' => e = .returned (.bool true) ∧ Below w.heap.size w w' := by
  obtain ⟨W1, hW1⟩ : ∃ W1, w.alloc (.cells #[.int .i64 W, .int .i64 H, .string c] 23) = W1 := ⟨_, rfl⟩
  have hB1 : Below w.heap.size w W1 := by rw [← hW1]; exact (Below.refl _ w).alloc (Nat.le_refl _) _
  have hl1 : w.heap.size < W1.heap.size := by rw [← hW1]; simp
  have hb1 : W1.heap[w.heap.size]? = some (.cells #[.int .i64 W, .int .i64 H, .string c] 23) := by rw [← hW1]; exact heap_new _ _
  have q2 := cell_of hb1 2
  simp only [List.getElem?_toArray, List.getElem?_cons_zero, List.getElem?_cons_succ] at q2
  have hv1 := hv.below' hB1
  have HC : Hid (∀ W', Below W1.heap.size W1 W' → W'.cell? ⟨w.heap.size, 2, none⟩ = some (.string c)) := Lib.hid fun W' hb => (hb.cell (p := ⟨w.heap.size, 2, none⟩) hl1).trans q2
  clear hb1
  have fin : ∀ {w2 w3 : World}, Below W1.heap.size W1 w2 → Below w2.heap.size w2 w3 → Below w.heap.size w w3 := fun h2 h3 => hB1.trans ((h2.trans (h3.mono h2.size)).mono hB1.size)
  have FIN := Lib.hid (p := ∀ (w2 w3 : World), Below W1.heap.size W1 w2 → Below w2.heap.size w2 w3 → Below w.heap.size w w3) fun _ _ h2 h3 => fin h2 h3
  clear fin
  rcases Nat.lt_or_ge 200 c.size with hc | hc
  · have hc' : (200 : Int) < (c.size : Int) := by omega
    clear hbig
    go_enter Tryd.func3, Tryd.ntmps3
    go_wp2_with fail
    refine (awake_any _ hv1).mono ?_
    rintro e w2 ⟨rfl, hB2⟩
    have r2 := HC.out _ hB2
    have hv2 := hv1.below' hB2
    clear q2
    go_wp2_with fail
    refine (awake_any _ hv2).mono ?_
    rintro e w3 ⟨rfl, hB3⟩
    go_wp2_with fail
    go_ret
    exact ⟨rfl, FIN.out _ _ hB2 hB3⟩
  · have hc' : (c.size : Int) ≤ 200 := by omega
    have hs' : (200 : Int) < (s.size : Int) := by omega
    clear hbig
    go_enter Tryd.func3, Tryd.ntmps3
    go_wp2_with fail
    refine (awake_any _ hv1).mono ?_
    rintro e w2 ⟨rfl, hB2⟩
    have r2 := HC.out _ hB2
    have hv2 := hv1.below' hB2
    clear q2
    go_wp2_with fail
    refine (awake_any _ hv2).mono ?_
    rintro e w3 ⟨rfl, hB3⟩
    go_wp2_with fail
    go_ret
    exact ⟨rfl, FIN.out _ _ hB2 hB3⟩

theorem back_any (W H : Int) (c s : ByteArray) (w : World) (hv : Vars w) :
    Calls Tryd.prog 3 #[.agg #[.int .i64 W, .int .i64 H, .string c], .string s] w fun e w' => e = .returned (.bool true) ∧ Below w.heap.size w w' := by
  by_cases hc : c.size ≤ 200
  · by_cases hs : s.size ≤ 200
    · cases hr : rightB W H c with
      | true => cases hp : parseP s with
        | none => exact back_yes_none W H c s hc hs w hv hr hp
        | some st => exact back_yes_some W H c s hc hs w hv hr st hp
      | false => cases hp : parseP s with
        | none => exact back_no_none W H c s hc hs w hv hr hp
        | some st => exact back_no_some W H c s hc hs w hv hr st hp
    · exact back_big W H c s (.inr (by omega)) w hv
  · exact back_big W H c s (.inl (by omega)) w hv
end Go.Proofs.YtagighbfodlcjaaDoor
