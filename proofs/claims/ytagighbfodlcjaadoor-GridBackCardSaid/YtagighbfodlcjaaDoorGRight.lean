/-
  grid.Right: a map is right just if its size and its signs are, there is a charger, and all open cells are reached from the first one.
-/
import Derived.Test.YtagighbfodlcjaaDoorGReached
import Derived.Deep.QuietTactic
import Derived.BigQuiet
import Derived.RegionTactic
import Derived.Lib.IndexLaws
namespace Go.Proofs.YtagighbfodlcjaaDoor
open Go.RowKit

open Classical in
noncomputable def cntR (l : List UInt8) (w a : Nat) : Nat := ((List.range l.length).filter fun i => decide (Reach l w a i)).length

theorem cntR_eq {l : List UInt8} {w a : Nat} (ha : a < l.length) {met : List Nat} (h : Bfs l w a met []) : met.length = cntR l w a := by
  classical
  unfold cntR
  have hn : ((List.range l.length).filter fun i => decide (Reach l w a i)).Nodup := List.nodup_range.filter _
  have hm : ∀ x, x ∈ ((List.range l.length).filter fun i => decide (Reach l w a i)) ↔ x < l.length ∧ Reach l w a x := fun x => by rw [List.mem_filter, List.mem_range, decide_eq_true_iff]
  have e1 := nodup_len met ((List.range l.length).filter fun i => decide (Reach l w a i)) h.nd fun x hx => (hm x).2 ⟨reach_lt (h.sub x hx) ha, h.sub x hx⟩
  have e2 := nodup_len ((List.range l.length).filter fun i => decide (Reach l w a i)) met hn fun x hx => (h.all x).2 ((hm x).1 hx).2
  exact Nat.le_antisymm e1 e2

theorem cntR_all {l : List UInt8} {w a : Nat} (ho : openB l a = true) {met : List Nat} (h : Bfs l w a met []) : cntR l w a + l.count 35 = l.length ↔ ∀ i, openB l i = true → Reach l w a i := by
  rw [← cntR_eq (open_lt ho) h]
  exact bfs_count h ho

theorem reached_num (wd : Nat) (H : Int) (s : ByteArray) (a : Nat) (h1 : 1 ≤ wd) (h8 : wd ≤ 8) (hs : s.size ≤ 64) (ha : a < s.size) (w : World) :
    Calls Tryd.prog 33 #[.agg #[.int .i64 (wd : Int), .int .i64 H, .string s], .int .i64 (a : Int)] w fun e w' => e = .returned (.int .i64 (cntR s.data.toList wd a : Int)) ∧ Below w.heap.size w w' :=
  (reached_any wd H s a h1 h8 hs ha w).mono fun e w' ⟨met, he, hb, hB⟩ => ⟨by rw [he, cntR_eq (by rw [Array.length_toList]; exact ha) hb], hB⟩

/-- the search ends: there is such a set -/
theorem bfs_ex (l : List UInt8) (w a : Nat) (ha : a < l.length) : ∃ met, Bfs l w a met [] := by
  classical
  refine ⟨(List.range l.length).filter fun i => decide (Reach l w a i), fun x hx => by simpa using (List.mem_filter.1 hx).2, List.mem_filter.2 ⟨List.mem_range.2 ha, by simpa using Reach.refl⟩, List.nodup_range.filter _, fun x hx => by simp at hx, fun x hx _ y h1 h2 => ?_⟩
  have hr : Reach l w a x := by simpa using (List.mem_filter.1 hx).2
  exact List.mem_filter.2 ⟨List.mem_range.2 (open_lt h2), by simpa using Reach.step hr h1 h2⟩

/-- from the first charger all open cells are reached -/
def ChargerP (l : List UInt8) (w : Nat) : Prop := ∃ a : Nat, Lib.indexByte l 67 = (a : Int) ∧ ∀ i, openB l i = true → Reach l w a i
def rightP (W H : Int) (s : ByteArray) : Prop := sizedP W H s ∧ ChargerP s.data.toList W.toNat
open Classical in
noncomputable def rightB (W H : Int) (s : ByteArray) : Bool := decide (rightP W H s)
theorem rightB_true {W H : Int} {s : ByteArray} : rightB W H s = true ↔ rightP W H s := by unfold rightB; simp
theorem rightB_false {W H : Int} {s : ByteArray} : rightB W H s = false ↔ ¬ rightP W H s := by unfold rightB; simp

theorem sized_len {W H : Int} {s : ByteArray} (h : sizedP W H s) : s.size ≤ 64 ∧ 1 ≤ s.size := by
  obtain ⟨h1, h2, h3, h4, h5, _⟩ := h
  have a : W * H ≤ 8 * 8 := Int.mul_le_mul h2 h4 (by omega) (by omega)
  have b : 1 * 1 ≤ W * H := Int.mul_le_mul h1 h3 (by omega) (by omega)
  omega

theorem charger_open {l : List UInt8} {a : Nat} (h : Lib.indexByte l 67 = (a : Int)) : openB l a = true := by
  have := (Lib.indexByte_some h).1
  unfold openB
  rw [this]
  rfl

/-- a map's box, and what lies below -/
def KR (b : Nat) (x y z : Value) (W0 w : World) : Prop := w.cell? ⟨b, 0, none⟩ = some x ∧ w.cell? ⟨b, 1, none⟩ = some y ∧ w.cell? ⟨b, 2, none⟩ = some z ∧ Below W0.heap.size W0 w ∧ b < W0.heap.size
theorem KR.drew {b : Nat} {x y z : Value} {W0 w : World} (h : KR b x y z W0 w) : KR b x y z W0 w.drew := ⟨h.1, h.2.1, h.2.2.1, h.2.2.2.1.drew, h.2.2.2.2⟩
theorem KR.below {b : Nat} {x y z : Value} {W0 w w' : World} (h : KR b x y z W0 w) (hb : Below w.heap.size w w') : KR b x y z W0 w' :=
  have hl : b < w.heap.size := Nat.lt_of_lt_of_le h.2.2.2.2 h.2.2.2.1.size
  ⟨(hb.cell (p := ⟨b, 0, none⟩) hl).trans h.1, (hb.cell (p := ⟨b, 1, none⟩) hl).trans h.2.1, (hb.cell (p := ⟨b, 2, none⟩) hl).trans h.2.2.1, h.2.2.2.1.trans (hb.mono h.2.2.2.1.size), h.2.2.2.2⟩

theorem keepB {W w w' : World} (h : Below W.heap.size W w) (h' : Below w.heap.size w w') : Below W.heap.size W w' := h.trans (h'.mono h.size)

set_option maxRecDepth 100000 in
set_option maxHeartbeats 2000000 in
theorem right_pos (W H : Int) (s : ByteArray) (hs : s.size ≤ 9223372036854775807) (w : World) (hz : sizedP W H s) (hc : 0 ≤ Lib.indexByte s.data.toList 67) :
    Calls Tryd.prog 12 #[.agg #[.int .i64 W, .int .i64 H, .string s]] w fun e w' => e = .returned (.bool (rightB W H s)) ∧ Below w.heap.size w w' := by
  obtain ⟨W1, hW1⟩ : ∃ W1, w.alloc (.cells #[.int .i64 W, .int .i64 H, .string s] 29) = W1 := ⟨_, rfl⟩
  have hB1 : Below w.heap.size w W1 := by rw [← hW1]; exact (Below.refl _ w).alloc (Nat.le_refl _) _
  have hl1 : w.heap.size < W1.heap.size := by rw [← hW1]; simp
  have hb1 : W1.heap[w.heap.size]? = some (.cells #[.int .i64 W, .int .i64 H, .string s] 29) := by rw [← hW1]; exact heap_new _ _
  have q0 := cell_of hb1 0
  have q1 := cell_of hb1 1
  have q2 := cell_of hb1 2
  simp only [List.getElem?_toArray, List.getElem?_cons_zero, List.getElem?_cons_succ] at q0 q1 q2
  have HB := Lib.hid hb1
  clear hb1
  have cells : ∀ W', Below W1.heap.size W1 W' → W'.cell? ⟨w.heap.size, 0, none⟩ = some (.int .i64 W) ∧ W'.cell? ⟨w.heap.size, 1, none⟩ = some (.int .i64 H) ∧ W'.cell? ⟨w.heap.size, 2, none⟩ = some (.string s) := fun W' hb =>
    ⟨(hb.cell (p := ⟨w.heap.size, 0, none⟩) hl1).trans q0, (hb.cell (p := ⟨w.heap.size, 1, none⟩) hl1).trans q1, (hb.cell (p := ⟨w.heap.size, 2, none⟩) hl1).trans q2⟩
  have HC := Lib.hid cells
  clear cells
  have hzb : sizedB W H s = true := decide_eq_true hz
  have hsz := sized_len hz
  have hc1 := Tryd.strings_Index_one s 67
  have hc2 := Tryd.strings_Count_one s 35
  obtain ⟨a, ha⟩ := Int.eq_ofNat_of_zero_le hc
  have ho := charger_open ha
  have hal : a < s.size := by have := open_lt ho; rwa [Array.length_toList] at this
  obtain ⟨wd, rfl⟩ := Int.eq_ofNat_of_zero_le (show 0 ≤ W by have := hz.1; omega)
  have hre := fun W' => reached_num wd H s a (by have := hz.1; omega) (by have := hz.2.1; omega) hsz.1 hal W'
  obtain ⟨met, hmet⟩ := bfs_ex s.data.toList wd a (open_lt ho)
  have hall := cntR_all ho hmet
  have hfin : rightB (wd : Int) H s = decide (cntR s.data.toList wd a + s.data.toList.count 35 = s.data.toList.length) := by
    rw [Bool.eq_iff_iff, rightB_true, decide_eq_true_iff, hall]
    constructor
    · rintro ⟨_, a', ha', hr⟩
      obtain rfl : a = a' := by have := ha.symm.trans ha'; omega
      exact hr
    · intro hr
      exact ⟨hz, a, ha, hr⟩
  have hcl : s.data.toList.count 35 ≤ s.data.toList.length := List.count_le_length
  rw [Array.length_toList] at hfin hcl
  have hcl' : s.data.toList.count 35 ≤ s.size := hcl
  have hfin' : rightB (wd : Int) H s = decide (cntR s.data.toList wd a + s.data.toList.count 35 = s.size) := hfin
  rw [ha] at hc1
  obtain ⟨N, hN⟩ : ∃ N, cntR s.data.toList wd a = N := ⟨_, rfl⟩
  obtain ⟨K, hK⟩ : ∃ K, s.data.toList.count 35 = K := ⟨_, rfl⟩
  have hK' : Lib.countByte s.data.toList 35 = K := hK
  rw [hN, hK] at hfin'
  rw [hK] at hcl'
  rw [hN] at hre
  simp only [hK'] at hc2
  obtain ⟨d, hd⟩ : ∃ d, (s.size : Int) - (K : Int) = d := ⟨_, rfl⟩
  have hcmp : ((N : Int) == d) = rightB (wd : Int) H s := by
    rw [hfin', Bool.eq_iff_iff, beq_iff_eq, decide_eq_true_iff]
    omega
  have hwr : IntKind.i64.wrap ((s.size : Int) - (K : Int)) = d := by rw [IntKind.wrap_i64]; omega
  clear hd
  have HCMP := Lib.hid hcmp
  have HZB := Lib.hid hzb
  clear hfin hfin' hK hK' hN hcl hall hcmp hmet ho hc ha hzb
  go_enter Tryd.func12, Tryd.ntmps12
  go_wp2_with fail
  refine (sized_any (wd : Int) H s hs _).mono ?_
  rw [HZB.out]
  rintro e w2 ⟨rfl, hB2⟩
  obtain ⟨r0, r1, r2⟩ := HC.out w2 hB2
  clear q0 q1 q2
  go_wp2_with ((with_reducible refine (hc1 _).mono ?_); rintro e w2 ⟨rfl, rfl⟩)
  have hkr : KR w.heap.size (.int .i64 (wd : Int)) (.int .i64 H) (.string s) W1 w2 := ⟨r0, r1, r2, hB2, hl1⟩
  have hre' : ∀ W', KR w.heap.size (.int .i64 (wd : Int)) (.int .i64 H) (.string s) W1 W' → Calls Tryd.prog 33 #[.agg #[.int .i64 (wd : Int), .int .i64 H, .string s], .int .i64 (a : Int)] W' fun e w' => e = .returned (.int .i64 (N : Int)) ∧
      w'.cell? ⟨w.heap.size, 0, none⟩ = some (.int .i64 (wd : Int)) ∧ w'.cell? ⟨w.heap.size, 1, none⟩ = some (.int .i64 H) ∧ w'.cell? ⟨w.heap.size, 2, none⟩ = some (.string s) ∧ KR w.heap.size (.int .i64 (wd : Int)) (.int .i64 H) (.string s) W1 w' :=
    fun W' h => (hre W').mono fun e w' ⟨he, hb⟩ => ⟨he, (h.below hb).1, (h.below hb).2.1, (h.below hb).2.2.1, h.below hb⟩
  have HRE := Lib.hid hre'
  clear hre hre'
  go_region_with (first
    | ((with_reducible refine (HRE.out _ (by first | assumption | exact KR.drew (by assumption))).mono ?_); rintro e w3 ⟨rfl, hx0, hx1, hx2, hx3⟩)
    | ((with_reducible refine (hc2 _).mono ?_); rintro e w3 ⟨rfl, rfl⟩))
  all_goals
    go_wp2_with fail
    go_ret
    refine ⟨?_, hB1.trans ((hx3.2.2.2.1).mono hB1.size)⟩
    rw [← HCMP.out]
    first
      | rfl
      | simp
end Go.Proofs.YtagighbfodlcjaaDoor
