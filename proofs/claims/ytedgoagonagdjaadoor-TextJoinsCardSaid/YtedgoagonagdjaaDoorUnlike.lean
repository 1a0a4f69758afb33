/-
  The law TextUnlike, walked.
-/
import Derived.Test.YtedgoagonagdjaaDoorLaws0
import Derived.Test.YtedgoagonagdjaaDoorPlain2
namespace Go.Proofs.YtedgoagonagdjaaDoor
open Go.RowKit Go.Sort

/-- what Lay answers: the line, or none -/
noncomputable def layP (nm : ByteArray) (t : Abc) : Option ByteArray := by
  classical exact if readP (layS nm t) = some (nm, t) then some (layS nm t) else none

def LayRes (w : World) (nm : ByteArray) (t : Abc) (e : Ending) (w' : World) : Prop :=
  (∃ s, layP nm t = some s ∧ LayOk w s e w') ∨ (layP nm t = none ∧ LayBad w e w')

theorem lay_any (nm : ByteArray) (t : Abc) (ht : t.ok) (hn : nm.size ≤ 1000) (w : World) (hv : Vars w) :
    Calls Tryd.prog 10 #[.agg #[.string nm, .int .i64 t.a, .int .i64 t.b, .int .i64 t.c]] w (LayRes w nm t) := by
  by_cases h : readP (layS nm t) = some (nm, t)
  · exact (lay_ok nm t ht hn h w hv).mono fun e w' hh => .inl ⟨_, by simp [layP, h], hh⟩
  · cases hr : readP (layS nm t) with
    | none => exact (lay_none nm t ht hn hr w hv).mono fun e w' hh => .inr ⟨by simp [layP, hr], hh⟩
    | some p =>
      obtain ⟨y, u⟩ := p
      exact (lay_other nm t ht hn y u hr (fun hh => h (by rw [hr, hh.1, hh.2])) w hv).mono fun e w' hh => .inr ⟨by simp [layP, h], hh⟩

theorem layP_read {nm s : ByteArray} {t : Abc} (h : layP nm t = some s) : readP s = some (nm, t) := by
  unfold layP at h
  split at h
  · cases h; assumption
  · cases h

set_option maxRecDepth 100000 in
set_option maxHeartbeats 1000000 in
theorem unlike_any (n1 n2 : ByteArray) (t1 t2 : Abc) (h1 : t1.ok) (h2 : t2.ok) (w : World) (hv : Vars w) :
    Calls Tryd.prog 5 #[.agg #[.string n1, .int .i64 t1.a, .int .i64 t1.b, .int .i64 t1.c], .agg #[.string n2, .int .i64 t2.a, .int .i64 t2.b, .int .i64 t2.c]] w
      fun e w' => e = .returned (.bool true) ∧ Below w.heap.size w w' := by
  obtain ⟨W0, hW0⟩ : ∃ W0, (w.alloc (.cells #[.string n1, .int .i64 t1.a, .int .i64 t1.b, .int .i64 t1.c] 23)).alloc (.cells #[.string n2, .int .i64 t2.a, .int .i64 t2.b, .int .i64 t2.c] 23) = W0 := ⟨_, rfl⟩
  have hB0 : Below w.heap.size w W0 := by rw [← hW0]; exact ((Below.refl _ w).alloc (Nat.le_refl _) _).alloc (by simp) _
  have hs0 : w.heap.size + 1 < W0.heap.size := by rw [← hW0]; simp
  have ha0 : W0.heap[w.heap.size]? = some (.cells #[.string n1, .int .i64 t1.a, .int .i64 t1.b, .int .i64 t1.c] 23) := by
    rw [← hW0]; exact (Below.heap_alloc _ _ _ (by simp)).trans (heap_new _ _)
  have hb0 : W0.heap[w.heap.size + 1]? = some (.cells #[.string n2, .int .i64 t2.a, .int .i64 t2.b, .int .i64 t2.c] 23) := by
    rw [← hW0]
    have := heap_new (w.alloc (.cells #[.string n1, .int .i64 t1.a, .int .i64 t1.b, .int .i64 t1.c] 23)) (.cells #[.string n2, .int .i64 t2.a, .int .i64 t2.b, .int .i64 t2.c] 23)
    rwa [World.size_alloc] at this
  have HW0 := Lib.hid hW0
  have HA := Lib.hid ha0
  have HB := Lib.hid hb0
  clear hW0 ha0 hb0
  have reads : ∀ W : World, Below W0.heap.size W0 W → (W.heap[w.heap.size]? = some (.cells #[.string n1, .int .i64 t1.a, .int .i64 t1.b, .int .i64 t1.c] 23)) ∧ (W.heap[w.heap.size + 1]? = some (.cells #[.string n2, .int .i64 t2.a, .int .i64 t2.b, .int .i64 t2.c] 23)) :=
    fun W hb => ⟨(hb.block _ (by omega)).trans HA.out, (hb.block _ hs0).trans HB.out⟩
  have HRD := Lib.hid reads
  clear reads
  have hv0 := hv.below' hB0
  go_enter Tryd.func5, Tryd.ntmps5
  go_wp2_with fail
  rw [HW0.out]
  clear HW0
  refine (awake_any _ hv0).mono ?_
  rintro e w1 ⟨rfl, hB1⟩
  have hv1 := hv0.below' hB1
  have ⟨ra1, rb1⟩ := HRD.out _ hB1
  have qa10 := cell_of ra1 0
  have qa11 := cell_of ra1 1
  have qa12 := cell_of ra1 2
  have qa13 := cell_of ra1 3
  have qb10 := cell_of rb1 0
  simp only [List.getElem?_toArray, List.getElem?_cons_zero, List.getElem?_cons_succ] at qa10 qa11 qa12 qa13 qb10
  clear ra1 rb1
  by_cases hn1 : n1.size ≤ 50
  · by_cases hn2 : n2.size ≤ 50
    · go_wp2_with fail
      refine (of_any _ _ _ _ _).mono ?_
      rintro e w2 ⟨rfl, hB2⟩
      have hv2 := hv1.below' hB2
      go_wp2_with fail
      refine (lay_any n1 t1 h1 (by omega) _ hv2).mono ?_
      rintro e w3 (⟨s1, hs1, rfl, hB3⟩ | ⟨hs1, v1, rfl, hE1, hB3⟩)
      all_goals
        have hv3 := hv2.below' hB3
        have hB03 : Below W0.heap.size W0 w3 := hB1.trans ((hB2.mono hB1.size).trans (hB3.mono (Nat.le_trans hB1.size hB2.size)))
        have ⟨_, rb3⟩ := HRD.out _ hB03
        have qb30 := cell_of rb3 0
        have qb31 := cell_of rb3 1
        have qb32 := cell_of rb3 2
        have qb33 := cell_of rb3 3
        simp only [List.getElem?_toArray, List.getElem?_cons_zero, List.getElem?_cons_succ] at qb30 qb31 qb32 qb33
        clear rb3 qb10
        have HS1 := Lib.hid hs1
        clear hs1
      · go_wp2_with fail
        refine (of_any _ _ _ _ _).mono ?_
        rintro e w4 ⟨rfl, hB4⟩
        have hv4 := hv3.below' hB4
        go_wp2_with fail
        refine (lay_any n2 t2 h2 (by omega) _ hv4).mono ?_
        rintro e w5 (⟨s2, hs2, rfl, hB5⟩ | ⟨hs2, v2, rfl, hE2, hB5⟩)
        · have hB05 : Below W0.heap.size W0 w5 := hB03.trans ((hB4.mono hB03.size).trans (hB5.mono (Nat.le_trans hB03.size hB4.size)))
          have ⟨ra5, rb5⟩ := HRD.out _ hB05
          have qa50 := cell_of ra5 0
          have qa51 := cell_of ra5 1
          have qa52 := cell_of ra5 2
          have qa53 := cell_of ra5 3
          have qb50 := cell_of rb5 0
          have qb51 := cell_of rb5 1
          have qb52 := cell_of rb5 2
          have qb53 := cell_of rb5 3
          simp only [List.getElem?_toArray, List.getElem?_cons_zero, List.getElem?_cons_succ] at qa50 qa51 qa52 qa53 qb50 qb51 qb52 qb53
          have hfin : Below w.heap.size w w5 := hB0.trans (hB05.mono hB0.size)
          clear ra5 rb5 qa10 qa11 qa12 qa13 qb30 qb31 qb32 qb33
          by_cases heq : n1 = n2 ∧ t1 = t2
          · obtain ⟨rfl, rfl⟩ := heq
            obtain rfl : s1 = s2 := Option.some.inj (HS1.out.symm.trans hs2)
            clear hs2
            go_wp2_with fail
            refine (num_nil _).mono ?_
            rintro e w6 ⟨rfl, rfl⟩
            go_wp2_with fail
            refine (num_nil _).mono ?_
            rintro e w7 ⟨rfl, rfl⟩
            go_wp2_with fail
            go_ret
            exact ⟨rfl, hfin⟩
          · have hne : (s1.toList == s2.toList) = false := by
              rw [beq_eq_false_iff_ne]
              intro h
              rw [Lib.toList_data, Lib.toList_data] at h
              obtain rfl : s1 = s2 := ba_ext h
              have h12 := (layP_read HS1.out).symm.trans (layP_read hs2)
              simp only [Option.some.injEq, Prod.mk.injEq] at h12
              exact heq h12
            have HEQ := Lib.hid heq
            clear hs2 heq
            go_wp2_with fail
            refine (num_nil _).mono ?_
            rintro e w6 ⟨rfl, rfl⟩
            go_wp2_with fail
            refine (num_nil _).mono ?_
            rintro e w7 ⟨rfl, rfl⟩
            go_wp2_with fail
            · exfalso
              have e1 : n1.toList = n2.toList := by assumption
              have e2 : t1.a = t2.a := by assumption
              have e3 : t1.b = t2.b := by assumption
              have e4 : t1.c = t2.c := by assumption
              rw [Lib.toList_data, Lib.toList_data] at e1
              exact HEQ.out ⟨ba_ext e1, by cases t1; cases t2; simp_all⟩
            all_goals
              go_ret
              exact ⟨rfl, hfin⟩
        · have hB05 : Below W0.heap.size W0 w5 := hB03.trans ((hB4.mono hB03.size).trans (hB5.mono (Nat.le_trans hB03.size hB4.size)))
          have hv5 := hv4.below' hB5
          clear hs2
          go_wp2_with fail
          refine (num_nil _).mono ?_
          rintro e w6 ⟨rfl, rfl⟩
          go_wp2_with fail
          refine (num_err _ 1 _ hv5.err hv5.size hE2).mono ?_
          rintro e w7 ⟨rfl, hB7⟩
          go_wp2_with fail
          go_ret
          exact ⟨rfl, hB0.trans ((hB05.trans (hB7.mono hB05.size)).mono hB0.size)⟩
      · go_wp2_with fail
        refine (of_any _ _ _ _ _).mono ?_
        rintro e w4 ⟨rfl, hB4⟩
        have hv4 := hv3.below' hB4
        go_wp2_with fail
        refine (lay_any n2 t2 h2 (by omega) _ hv4).mono ?_
        rintro e w5 (⟨s2, hs2, rfl, hB5⟩ | ⟨hs2, v2, rfl, hE2, hB5⟩)
        all_goals
          have hB05 : Below W0.heap.size W0 w5 := hB03.trans ((hB4.mono hB03.size).trans (hB5.mono (Nat.le_trans hB03.size hB4.size)))
          have hv5 := hv4.below' hB5
          have hE5 : IsErr w5 1 v1 := (hE1.below' hB4).below' hB5
          clear hs2
          go_wp2_with fail
          refine (num_err _ 1 _ hv5.err hv5.size hE5).mono ?_
          rintro e w7 ⟨rfl, hB7⟩
          go_wp2_with fail
          go_ret
          exact ⟨rfl, hB0.trans ((hB05.trans (hB7.mono hB05.size)).mono hB0.size)⟩
    · have hn2' : 50 < n2.size := by omega
      clear hn2
      go_wp2_with fail
      refine (awake_any _ hv1).mono ?_
      rintro e w2 ⟨rfl, hB2⟩
      go_wp2_with fail
      go_ret
      exact ⟨rfl, hB0.trans ((hB1.trans (hB2.mono hB1.size)).mono hB0.size)⟩
  · have hn1' : 50 < n1.size := by omega
    clear hn1
    go_wp2_with fail
    refine (awake_any _ hv1).mono ?_
    rintro e w2 ⟨rfl, hB2⟩
    go_wp2_with fail
    go_ret
    exact ⟨rfl, hB0.trans ((hB1.trans (hB2.mono hB1.size)).mono hB0.size)⟩
end Go.Proofs.YtedgoagonagdjaaDoor
