/-
  The law TextBack, walked.
-/
import Derived.Test.YtedgoagonagdjaaDoorPlain3
import Derived.Test.YtedgoagonagdjaaDoorRefLay
import Derived.Test.YtedgoagonagdjaaDoorLaws0
namespace Go.Proofs.YtedgoagonagdjaaDoor
open Go.RowKit Go.Sort

/-- the law's two acts, in memory -/
def TB (w0 : World) (ba bx : Nat) (nm : ByteArray) (t : Abc) (w : World) : Prop :=
  w.heap[ba]? = some (.cells #[.string nm, .int .i64 t.a, .int .i64 t.b, .int .i64 t.c] 23) ∧
  w.heap[bx]? = some (.cells #[.string nm, .int .i64 t.a, .int .i64 t.b, .int .i64 t.c] 29) ∧ Below w0.heap.size w0 w
theorem TB.drew {w0 w : World} {ba bx : Nat} {nm : ByteArray} {t : Abc} (h : TB w0 ba bx nm t w) : TB w0 ba bx nm t w.drew := ⟨h.1, h.2.1, h.2.2.drew⟩
theorem TB.below {w0 w w' : World} {ba bx : Nat} {nm : ByteArray} {t : Abc} (h : TB w0 ba bx nm t w) (hb : Below w.heap.size w w') : TB w0 ba bx nm t w' :=
  ⟨(hb.block _ (Array.getElem?_eq_some_iff.1 h.1).1).trans h.1, (hb.block _ (Array.getElem?_eq_some_iff.1 h.2.1).1).trans h.2.1, h.2.2.trans (hb.mono h.2.2.size)⟩
theorem TB.cells {w0 w : World} {ba bx : Nat} {nm : ByteArray} {t : Abc} (h : TB w0 ba bx nm t w) :
    w.cell? ⟨ba, 0, none⟩ = some (.string nm) ∧ w.cell? ⟨ba, 1, none⟩ = some (.int .i64 t.a) ∧ w.cell? ⟨ba, 2, none⟩ = some (.int .i64 t.b) ∧ w.cell? ⟨ba, 3, none⟩ = some (.int .i64 t.c) ∧
    w.cell? ⟨bx, 0, none⟩ = some (.string nm) ∧ w.cell? ⟨bx, 1, none⟩ = some (.int .i64 t.a) ∧ w.cell? ⟨bx, 2, none⟩ = some (.int .i64 t.b) ∧ w.cell? ⟨bx, 3, none⟩ = some (.int .i64 t.c) :=
  ⟨cell_of h.1 0, cell_of h.1 1, cell_of h.1 2, cell_of h.1 3, cell_of h.2.1 0, cell_of h.2.1 1, cell_of h.2.1 2, cell_of h.2.1 3⟩

theorem layRef_tb {nm ks : ByteArray} {t : Abc} (ht : t.ok) (hn : nm.size ≤ 1000) (hw : wantOf nm = some ks) {w0 w : World} {ba bx : Nat} (h : TB w0 ba bx nm t w) :
    Calls Tryd.prog 15 #[.agg #[.string nm, .int .i64 t.a, .int .i64 t.b, .int .i64 t.c]] w fun e w' => e = .returned (.string (layS nm t)) ∧ TB w0 ba bx nm t w' :=
  (layRef_any nm ks t ht hn hw w).mono fun _ _ hh => ⟨hh.1, h.below hh.2⟩
theorem of_tb {nm : ByteArray} {t : Abc} {w0 w : World} {ba bx : Nat} (h : TB w0 ba bx nm t w) :
    Calls Tryd.prog 11 #[.agg #[.string nm, .int .i64 t.a, .int .i64 t.b, .int .i64 t.c]] w fun e w' =>
      e = .returned (.agg #[.string nm, .int .i64 t.a, .int .i64 t.b, .int .i64 t.c]) ∧ TB w0 ba bx nm t w' :=
  (of_any nm t.a t.b t.c w).mono fun _ _ hh => ⟨hh.1, h.below hh.2⟩
theorem num_tb {nm : ByteArray} {t : Abc} {w0 w : World} {ba bx : Nat} (h : TB w0 ba bx nm t w) :
    Calls Tryd.prog 13 #[.nilIface] w fun e w' => e = .returned (.int .i64 0) ∧ TB w0 ba bx nm t w' :=
  (num_nil w).mono fun _ _ hh => ⟨hh.1, by rw [hh.2]; exact h⟩

set_option maxRecDepth 100000 in
set_option maxHeartbeats 4000000 in
theorem back_any (nm : ByteArray) (t : Abc) (ht : t.ok) (w : World) (hv : Vars w) :
    Calls Tryd.prog 3 #[.agg #[.string nm, .int .i64 t.a, .int .i64 t.b, .int .i64 t.c]] w fun e w' => e = .returned (.bool true) ∧ Below w.heap.size w w' := by
  obtain ⟨W0, hW0⟩ : ∃ W0, w.alloc (.cells #[.string nm, .int .i64 t.a, .int .i64 t.b, .int .i64 t.c] 23) = W0 := ⟨_, rfl⟩
  have hB0 : Below w.heap.size w W0 := by rw [← hW0]; exact (Below.refl _ w).alloc (Nat.le_refl _) _
  have hs0 : w.heap.size < W0.heap.size := by rw [← hW0]; simp
  have hq : W0.heap[w.heap.size]? = some (.cells #[.string nm, .int .i64 t.a, .int .i64 t.b, .int .i64 t.c] 23) := by rw [← hW0]; exact heap_new _ _
  have HW0 := Lib.hid hW0
  have HQ := Lib.hid hq
  clear hW0 hq
  have hv0 := hv.below' hB0
  go_enter Tryd.func3, Tryd.ntmps3
  go_wp2_with fail
  rw [HW0.out]
  clear HW0
  refine (awake_any _ hv0).mono ?_
  rintro e w1 ⟨rfl, hB1⟩
  have hv1 := hv0.below' hB1
  have hq1 := (hB1.block _ hs0).trans HQ.out
  have c0 := cell_of hq1 0
  have c1 := cell_of hq1 1
  have c2 := cell_of hq1 2
  have c3 := cell_of hq1 3
  simp only [List.getElem?_toArray, List.getElem?_cons_zero, List.getElem?_cons_succ] at c0 c1 c2 c3
  have HQ1 := Lib.hid hq1
  clear hq1
  by_cases hn : nm.size ≤ 50
  · go_wp2_with fail
    refine (of_any _ _ _ _ _).mono ?_
    rintro e w2 ⟨rfl, hB2⟩
    have hv2 := hv1.below' hB2
    have hs1 : w.heap.size < w1.heap.size := Nat.lt_of_lt_of_le hs0 hB1.size
    have hq2 := (hB2.block _ hs1).trans HQ1.out
    have hs2 : w.heap.size < w2.heap.size := Nat.lt_of_lt_of_le hs1 hB2.size
    have HQ2 := Lib.hid hq2
    clear hq2 c0 c1 c2 c3
    have hB02 : Below w.heap.size w w2 := hB0.trans ((hB1.mono hB0.size).trans (hB2.mono (Nat.le_trans hB0.size hB1.size)))
    go_wp2_with fail
    cases hr : rightP nm t
    · have HR := Lib.hid hr
      have hno : ¬ readP (layS nm t) = some (nm, t) := fun h => by rw [reads_right h] at hr; cases hr
      clear hr
      have hbad : Calls Tryd.prog 10 #[.agg #[.string nm, .int .i64 t.a, .int .i64 t.b, .int .i64 t.c]] w2 (LayBad w2) := by
        cases hp : readP (layS nm t) with
        | none => exact lay_none nm t ht (by omega) hp w2 hv2
        | some p =>
          obtain ⟨y, u⟩ := p
          exact lay_other nm t ht (by omega) y u hp (fun hh => hno (by rw [hp, hh.1, hh.2])) w2 hv2
      refine hbad.mono ?_
      clear hbad hno
      rintro e w3 ⟨v, rfl, hE, hB3⟩
      have hv3 := hv2.below' hB3
      have hq3 := (hB3.block _ hs2).trans HQ2.out
      have d0 := cell_of hq3 0
      have d1 := cell_of hq3 1
      have d2 := cell_of hq3 2
      have d3 := cell_of hq3 3
      simp only [List.getElem?_toArray, List.getElem?_cons_zero, List.getElem?_cons_succ] at d0 d1 d2 d3
      clear hq3
      go_wp2_with fail
      refine (rightRef_any nm t ht _).mono ?_
      rintro e w4 ⟨rfl, hB4⟩
      rw [HR.out]
      have hv4 := hv3.below' hB4
      go_wp2_with fail
      refine (num_err v 1 _ hv4.err hv4.size (hE.below' hB4)).mono ?_
      rintro e w5 ⟨rfl, hB5⟩
      go_wp2_with fail
      go_ret
      exact ⟨rfl, hB02.trans (((hB3.trans (hB4.mono hB3.size)).trans (hB5.mono (Nat.le_trans hB3.size hB4.size))).mono hB02.size)⟩
    · have HR := Lib.hid hr
      have HRD := Lib.hid (right_reads hr)
      obtain ⟨ks, hks⟩ : ∃ ks, wantOf nm = some ks := by
        cases h : wantOf nm with
        | none => unfold rightP at hr; rw [h] at hr; cases hr
        | some ks => exact ⟨ks, rfl⟩
      have HK := Lib.hid hks
      clear hr hks
      refine (lay_ok nm t ht (by omega) HRD.out w2 hv2).mono ?_
      rintro e w3 ⟨rfl, hB3⟩
      have hv3 := hv2.below' hB3
      have hq3 := (hB3.block _ hs2).trans HQ2.out
      have d0 := cell_of hq3 0
      have d1 := cell_of hq3 1
      have d2 := cell_of hq3 2
      have d3 := cell_of hq3 3
      simp only [List.getElem?_toArray, List.getElem?_cons_zero, List.getElem?_cons_succ] at d0 d1 d2 d3
      have HQ3 := Lib.hid hq3
      clear hq3
      go_wp2_with fail
      refine (rightRef_any nm t ht _).mono ?_
      rintro e w4 ⟨rfl, hB4⟩
      rw [HR.out]
      have hv4 := hv3.below' hB4
      have hs3 : w.heap.size < w3.heap.size := Nat.lt_of_lt_of_le hs2 hB3.size
      have hq4 := (hB4.block _ hs3).trans HQ3.out
      have HQ4 := Lib.hid hq4
      clear hq4 d0 d1 d2 d3
      have hll : (layS nm t).size ≤ 100000 := by
        have hk3 : ks.size ≤ 3 := by rcases want_cases HK.out with rfl | rfl | rfl | rfl <;> decide
        have h1 := layL_len ht nm.data.toList ks.data.toList
        have h2 : (layS nm t).size = (layL nm.data.toList ks.data.toList t ++ [10]).length := by unfold layS; rw [HK.out]; show (List.toArray _).size = _; rw [List.size_toArray]; rfl
        have h3 : nm.data.toList.length = nm.size := by simp
        have h4 : ks.data.toList.length = ks.size := by simp
        simp only [List.length_append, List.length_cons, List.length_nil] at h2
        omega
      go_wp2_with fail
      refine (read_some _ _ _ hll HRD.out _ hv4).mono ?_
      rintro e w5 ⟨rfl, hB5⟩
      have hs4 : w.heap.size < w4.heap.size := Nat.lt_of_lt_of_le hs3 hB4.size
      have hq5 := (hB5.block _ hs4).trans HQ4.out
      have HQ5 := Lib.hid hq5
      clear hq5
      have hs5 : w.heap.size < w5.heap.size := Nat.lt_of_lt_of_le hs4 hB5.size
      go_wp2_with fail
      obtain ⟨W6, hW6⟩ : ∃ W6, w5.alloc (.cells #[.string nm, .int .i64 t.a, .int .i64 t.b, .int .i64 t.c] 29) = W6 := ⟨_, rfl⟩
      have hTB : TB w5 w.heap.size w5.heap.size nm t W6 := by
        rw [← hW6]
        exact ⟨(Below.heap_alloc _ _ _ hs5).trans HQ5.out, heap_new _ _, (Below.refl _ _).alloc (Nat.le_refl _) _⟩
      rw [hW6]
      clear hW6
      have ⟨a0, a1, a2, a3, x0, x1, x2, x3⟩ := hTB.cells
      have hn' : nm.size ≤ 1000 := by omega
      have hfin : Below w.heap.size w w5 := hB02.trans ((((hB3.trans (hB4.mono hB3.size)).trans (hB5.mono (Nat.le_trans hB3.size hB4.size)))).mono hB02.size)
      go_region_with (first
        | (go_at_call 13; refine (num_tb (by first | assumption | exact TB.drew (by assumption))).mono ?_; rintro e w7 ⟨rfl, hK7⟩; have ⟨a0, a1, a2, a3, x0, x1, x2, x3⟩ := hK7.cells)
        | (go_at_call 15; refine (layRef_tb ht hn' HK.out (by first | assumption | exact TB.drew (by assumption))).mono ?_; rintro e w8 ⟨rfl, hK8⟩; have ⟨a0, a1, a2, a3, x0, x1, x2, x3⟩ := hK8.cells)
        | (go_at_call 11; refine (of_tb (by first | assumption | exact TB.drew (by assumption))).mono ?_; rintro e w9 ⟨rfl, hK9⟩; have ⟨a0, a1, a2, a3, x0, x1, x2, x3⟩ := hK9.cells))
      all_goals
        go_wp2_with fail
        go_ret
        exact ⟨rfl, hfin.trans (hK9.2.2.mono hfin.size)⟩
  · have hn' : 50 < nm.size := by omega
    clear hn
    go_wp2_with fail
    refine (awake_any _ hv1).mono ?_
    rintro e w2 ⟨rfl, hB2⟩
    go_wp2_with fail
    go_ret
    exact ⟨rfl, hB0.trans ((hB1.trans (hB2.mono hB1.size)).mono hB0.size)⟩
end Go.Proofs.YtedgoagonagdjaaDoor
