/-
  The reference's Needs, Right and Lay.
-/
import Derived.Test.YtedgoagonagdjaaDoorKind
import Derived.Test.YtedgoagonagdjaaDoorDec
namespace Go.Proofs.YtedgoagonagdjaaDoor
open Go.RowKit Go.Sort

set_option maxRecDepth 100000 in
set_option maxHeartbeats 1000000 in
theorem needsRef_any (s : ByteArray) (w : World) :
    Calls Tryd.prog 25 #[.string s] w fun e w' => e = .returned (.string ((wantOf s).getD ⟨#[]⟩)) ∧ Below w.heap.size w w' := by
  obtain ⟨_, hk0, hk6, hkc⟩ := kind_want s
  obtain ⟨k, hk⟩ : ∃ k : Nat, kindOf s = k := ⟨(kindOf s).toNat, by omega⟩
  have HQ := Lib.hid hkc
  have HK := Lib.hid hk
  clear hkc
  rw [hk] at hk6
  clear hk hk0
  go_enter Tryd.func25, Tryd.ntmps25
  go_wp2_with fail
  refine (kind_any s _).mono ?_
  rintro e w1 ⟨rfl, hB1⟩
  rw [HK.out]
  have hcell : w1.cell? ⟨w.heap.size, k, none⟩ = some (.string ((wantOf s).getD ⟨#[]⟩)) := by
    have hb := (hB1.block w.heap.size (by simp)).trans (heap_new w _)
    rw [cell_of hb k]
    have := HQ.out
    rw [HK.out] at this
    simpa using this
  go_wp2_with fail
  go_ret
  exact ⟨rfl, ((Below.refl _ w).alloc (Nat.le_refl _) _).trans (hB1.mono (by simp))⟩

/-- letter 'a' + k stands among the letters -/
def hasK (ks : List UInt8) (k : Nat) : Bool := ks.any fun c => (c.toNat : Int) == 97 + (k : Int)
/-- the k-th number may be -/
def okK (ks : List UInt8) (k : Nat) (x : Int) : Bool := (hasK ks k || x == 0) && (decide (0 ≤ x) && decide (x ≤ 999))
def nthK (t : Abc) (k : Nat) : Int := if k = 0 then t.a else if k = 1 then t.b else t.c
def rightP (nm : ByteArray) (t : Abc) : Bool :=
  match wantOf nm with
  | none => false
  | some what => okK what.data.toList 0 t.a && (okK what.data.toList 1 t.b && okK what.data.toList 2 t.c)

theorem has_take (ks : ByteArray) (k i : Nat) (h : i < ks.size) : hasK (ks.data.toList.take (i + 1)) k = (hasK (ks.data.toList.take i) k || ((ks[i].toNat : Int) == 97 + (k : Int))) := by
  unfold hasK
  rw [List.take_succ_eq_append_getElem (by simpa using h), List.any_append]
  simp
  rfl

theorem okK_lo {ks : List UInt8} {k : Nat} {x : Int} (h : x < 0) : okK ks k x = false := by
  unfold okK
  rw [show decide (0 ≤ x) = false from decide_eq_false (by omega)]
  simp
theorem okK_hi {ks : List UInt8} {k : Nat} {x : Int} (h : 999 < x) : okK ks k x = false := by
  unfold okK
  rw [show decide (x ≤ 999) = false from decide_eq_false (by omega)]
  simp
theorem okK_no {ks : List UInt8} {k : Nat} {x : Int} (hh : hasK ks k = false) (h : x ≠ 0) : okK ks k x = false := by
  unfold okK
  rw [hh, show (x == 0) = false from beq_eq_false_iff_ne.2 h]
  simp
theorem okK_zero {ks : List UInt8} {k : Nat} {x : Int} (h : x = 0) : okK ks k x = true := by
  subst h; simp [okK]
theorem okK_yes {ks : List UInt8} {k : Nat} {x : Int} (hh : hasK ks k = true) (h0 : ¬ x < 0) (h1 : ¬ 999 < x) : okK ks k x = true := by
  unfold okK
  rw [hh, show decide (0 ≤ x) = true from decide_eq_true (by omega), show decide (x ≤ 999) = true from decide_eq_true (by omega)]
  rfl

theorem right_false {nm ks : ByteArray} {t : Abc} {k : Nat} (hw : wantOf nm = some ks) (hk : k < 3) (h : okK ks.data.toList k (nthK t k) = false) : rightP nm t = false := by
  unfold rightP
  rw [hw]
  simp only
  rcases k with _ | _ | _ | k
  · rw [show okK ks.data.toList 0 t.a = false from h]; rfl
  · rw [show okK ks.data.toList 1 t.b = false from h]; simp
  · rw [show okK ks.data.toList 2 t.c = false from h]; simp
  · omega

set_option maxRecDepth 100000 in
set_option maxHeartbeats 4000000 in
theorem rightRef_any (nm : ByteArray) (t : Abc) (ht : t.ok) (w : World) :
    Calls Tryd.prog 12 #[.agg #[.string nm, .int .i64 t.a, .int .i64 t.b, .int .i64 t.c]] w fun e w' => e = .returned (.bool (rightP nm t)) ∧ Below w.heap.size w w' := by
  obtain ⟨hk0, hk1, hk2, _⟩ := kind_want nm
  cases hw : wantOf nm with
  | none =>
    have hkz : kindOf nm = 0 := hk0.2 hw
    have HP : Hid (rightP nm t = false) := by unfold rightP; rw [hw]; rfl
    clear hk0 hk1 hk2 hw
    have HKZ := Lib.hid hkz
    clear hkz
    go_enter Tryd.func12, Tryd.ntmps12
    go_wp2_with fail
    refine (kind_any nm _).mono ?_
    rintro e w1 ⟨rfl, hB1⟩
    rw [HKZ.out]
    go_wp2_with fail
    go_ret
    exact ⟨by rw [HP.out]; rfl, ((Below.refl _ w).alloc (Nat.le_refl _) _).trans (hB1.mono (by simp))⟩
  | some ks =>
    have hkz : ¬ kindOf nm = 0 := fun h => by rw [hk0.1 h] at hw; cases hw
    have HW := Lib.hid hw
    have hk3 : ks.size ≤ 3 := by rcases want_cases hw with rfl | rfl | rfl | rfl <;> decide
    have hkb : (kindOf nm == 0) = false := by rw [beq_eq_false_iff_ne]; exact hkz
    clear hk0 hw hkz
    go_enter Tryd.func12, Tryd.ntmps12
    go_wp2_with fail
    obtain ⟨W0, hW0⟩ : ∃ W0, w.alloc (.cells #[.string nm, .int .i64 t.a, .int .i64 t.b, .int .i64 t.c] 23) = W0 := ⟨_, rfl⟩
    have hB0 : Below w.heap.size w W0 := by rw [← hW0]; exact (Below.refl _ w).alloc (Nat.le_refl _) _
    have hs0 : w.heap.size < W0.heap.size := by rw [← hW0]; simp
    have hq : W0.heap[w.heap.size]? = some (.cells #[.string nm, .int .i64 t.a, .int .i64 t.b, .int .i64 t.c] 23) := by rw [← hW0]; exact heap_new _ _
    rw [hW0]
    clear hW0
    refine (kind_any nm _).mono ?_
    rintro e w1 ⟨rfl, hB1⟩
    have hq1 := (hB1.block _ hs0).trans hq
    have c0 := cell_of hq1 0
    simp only [List.getElem?_toArray, List.getElem?_cons_zero] at c0
    have HQ1 := Lib.hid hq1
    clear hq hq1
    go_wp2_with fail
    refine (needsRef_any nm _).mono ?_
    rintro e w2 ⟨rfl, hB2⟩
    rw [HW.out]
    simp only [Option.getD_some]
    have hs1 : w.heap.size < w1.heap.size := Nat.lt_of_lt_of_le hs0 hB1.size
    have hq2 := (hB2.block _ hs1).trans HQ1.out
    have c1 := cell_of hq2 1
    have c2 := cell_of hq2 2
    have c3 := cell_of hq2 3
    simp only [List.getElem?_toArray, List.getElem?_cons_zero, List.getElem?_cons_succ] at c1 c2 c3
    have hB02 : Below w.heap.size w w2 := hB0.trans ((hB1.mono hB0.size).trans (hB2.mono (Nat.le_trans hB0.size hB1.size)))
    clear HQ1 hq2 c0
    go_wp2_with fail
    have hcx : ∀ k, k < 3 → (w2.alloc (.cells #[.int .i64 t.a, .int .i64 t.b, .int .i64 t.c] 60)).cell? ⟨w2.heap.size, k, none⟩ = some (.int .i64 (nthK t k)) := by
      intro k hk
      rw [cell_of (heap_new w2 _) k]
      rcases k with _ | _ | _ | k
      · rfl
      · rfl
      · rfl
      · omega
    have HCX := Lib.hid hcx
    have hnb : ∀ k, -9223372036854775808 ≤ nthK t k ∧ nthK t k ≤ 9223372036854775807 := by
      intro k; unfold nthK
      split
      · exact ⟨ht.a0, ht.a1⟩
      · split
        · exact ⟨ht.b0, ht.b1⟩
        · exact ⟨ht.c0, ht.c1⟩
    have HNB := Lib.hid hnb
    have hBf : Below w.heap.size w (w2.alloc (.cells #[.int .i64 t.a, .int .i64 t.b, .int .i64 t.c] 60)) := hB02.alloc hB02.size _
    clear hcx hnb hkb c1 c2 c3
    go_loop [5] (fun i => ∃ k : Nat, k ≤ 3 ∧ i = .int .i64 k ∧ ∀ j, j < k → okK ks.data.toList j (nthK t j) = true) (fun i => 3 - (intOf i).toNat)
    case atStart => exact ⟨0, by omega, rfl, fun j h => by omega⟩
    case round =>
      obtain ⟨k, hk, rfl, hall⟩ := hrel
      have HALL := Lib.hid hall
      clear hall
      by_cases hlt : k < 3
      · have hcell := HCX.out k hlt
        have hn0 := (HNB.out k).1
        have hn1 := (HNB.out k).2
        obtain ⟨x, hx⟩ : ∃ x, nthK t k = x := ⟨_, rfl⟩
        rw [hx] at hcell hn0 hn1
        have HX := Lib.hid hx
        clear hx
        go_wp2_with fail
        go_loop [6, 7] (fun h j => ∃ i : Nat, i ≤ ks.size ∧ j = .int .i64 i ∧ h = .bool (hasK (ks.data.toList.take i) k)) (fun _ j => ks.size - (intOf j).toNat)
        case atStart => exact ⟨0, Nat.zero_le _, rfl, rfl⟩
        case round =>
          obtain ⟨i, hi, rfl, rfl⟩ := hrel
          by_cases hil : i < ks.size
          · have hst := has_take ks k i hil
            have h256 : (ks[i].toNat : Int) < 256 := by have := ks[i].toNat_lt; omega
            have HST := Lib.hid hst
            clear hst
            cases hh : hasK (ks.data.toList.take i) k
            · have HH := Lib.hid hh
              clear hh
              go_wp2_with fail
              go_round
              case rel => exact ⟨i + 1, by omega, by go_num, by rw [HST.out, HH.out]; rfl⟩
              case measure => simp [intOf]; omega
            · have HH := Lib.hid hh
              clear hh
              go_wp2_with fail
              go_round
              case rel => exact ⟨i + 1, by omega, by go_num, by rw [HST.out, HH.out]; rfl⟩
              case measure => simp [intOf]; omega
          · have hie : i = ks.size := by omega
            have htk : ks.data.toList.take i = ks.data.toList := List.take_of_length_le (by simp; show ks.size ≤ i; omega)
            rw [htk]
            clear htk hie
            cases hh : hasK ks.data.toList k
            all_goals
              have HH := Lib.hid hh
              clear hh
              by_cases hx1 : x < 0
              · have hx2 : ¬ 999 < x := by omega
                have hxb : (x != 0) = true := by simp; omega
                have HOK : Hid (okK ks.data.toList k x = false) := okK_lo hx1
                have HFIN : Hid (rightP nm t = false) := right_false HW.out hlt (by rw [HX.out]; exact HOK.out)
                go_wp2_with fail
                go_ret
                exact ⟨by rw [HFIN.out]; rfl, hBf⟩
              by_cases hx2 : 999 < x
              · have hxb : (x != 0) = true := by simp; omega
                have HOK : Hid (okK ks.data.toList k x = false) := okK_hi hx2
                have HFIN : Hid (rightP nm t = false) := right_false HW.out hlt (by rw [HX.out]; exact HOK.out)
                go_wp2_with fail
                go_ret
                exact ⟨by rw [HFIN.out]; rfl, hBf⟩
            · by_cases hx0 : x = 0
              · have hxb : (x != 0) = false := by simp [hx0]
                have HOK : Hid (okK ks.data.toList k x = true) := okK_zero hx0
                clear hx0
                go_wp2_with fail
                go_round
                case rel => exact ⟨k + 1, by omega, by go_num, fun j hj => by rcases Nat.lt_succ_iff_lt_or_eq.1 hj with h | rfl; exact HALL.out j h; rw [HX.out]; exact HOK.out⟩
                case measure => simp [intOf]; omega
              · have hxb : (x != 0) = true := by simp [hx0]
                have HOK : Hid (okK ks.data.toList k x = false) := okK_no HH.out hx0
                have HFIN : Hid (rightP nm t = false) := right_false HW.out hlt (by rw [HX.out]; exact HOK.out)
                go_wp2_with fail
                go_ret
                exact ⟨by rw [HFIN.out]; rfl, hBf⟩
            · have HOK : Hid (okK ks.data.toList k x = true) := okK_yes HH.out hx1 hx2
              go_wp2_with fail
              go_round
              case rel => exact ⟨k + 1, by omega, by go_num, fun j hj => by rcases Nat.lt_succ_iff_lt_or_eq.1 hj with h | rfl; exact HALL.out j h; rw [HX.out]; exact HOK.out⟩
              case measure => simp [intOf]; omega
      · have hke : k = 3 := by omega
        have hfin : rightP nm t = true := by
          unfold rightP
          rw [HW.out]
          simp only
          have h0 := HALL.out 0 (by omega)
          have h1 := HALL.out 1 (by omega)
          have h2 := HALL.out 2 (by omega)
          simp only [nthK] at h0 h1 h2
          simp at h0 h1 h2
          rw [h0, h1, h2]; rfl
        have HFIN := Lib.hid hfin
        clear hfin hke
        go_wp2_with fail
        go_ret
        exact ⟨by rw [HFIN.out]; rfl, hBf⟩
end Go.Proofs.YtedgoagonagdjaaDoor
