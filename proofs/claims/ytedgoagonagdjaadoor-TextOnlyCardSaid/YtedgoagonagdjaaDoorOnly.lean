/-
  The law TextOnly, walked.
-/
import Derived.Test.YtedgoagonagdjaaDoorLaws0
import Derived.Test.YtedgoagonagdjaaDoorPlain2
namespace Go.Proofs.YtedgoagonagdjaaDoor
open Go.RowKit Go.Sort

set_option maxRecDepth 100000 in
set_option maxHeartbeats 1000000 in
theorem only_any (s : ByteArray) (w : World) (hv : Vars w) :
    Calls Tryd.prog 4 #[.string s] w fun e w' => e = .returned (.bool true) ∧ Below w.heap.size w w' := by
  by_cases hs : s.size ≤ 300
  · cases hr : readP s with
    | none =>
      have HR := Lib.hid hr
      clear hr
      go_enter Tryd.func4, Tryd.ntmps4
      go_wp2_with fail
      refine (awake_any _ hv).mono ?_
      rintro e w1 ⟨rfl, hB1⟩
      have hv1 := hv.below' hB1
      go_wp2_with fail
      refine (read_none _ (by omega) HR.out _ hv1).mono ?_
      rintro e w2 ⟨v, rfl, hE, hB2⟩
      have hv2 := hv1.below' hB2
      go_wp2_with fail
      refine (num_err _ 2 _ (hv2.alloc _).err (hv2.alloc _).size (hE.below' ((Below.refl _ _).alloc (Nat.le_refl _) _))).mono ?_
      rintro e w3 ⟨rfl, hB3⟩
      go_wp2_with fail
      have hv3 := (hv2.alloc (.cells #[.string ⟨#[]⟩, .int .i64 0, .int .i64 0, .int .i64 0] 29)).below' hB3
      have hE3 : IsErr w3 2 v := (hE.below' ((Below.refl _ _).alloc (Nat.le_refl _) _)).below' hB3
      refine (num_err _ 2 _ hv3.err hv3.size hE3).mono ?_
      rintro e w4 ⟨rfl, hB4⟩
      have hq : w4.heap[w2.heap.size]? = some (.cells #[.string ⟨#[]⟩, .int .i64 0, .int .i64 0, .int .i64 0] 29) :=
        (hB4.block _ (Nat.lt_of_lt_of_le (by simp) hB3.size)).trans ((hB3.block _ (by simp)).trans (heap_new _ _))
      have hq0 := cell_of hq 0
      have hq1 := cell_of hq 1
      have hq2 := cell_of hq 2
      have hq3 := cell_of hq 3
      simp only [List.getElem?_toArray, List.getElem?_cons_zero, List.getElem?_cons_succ] at hq0 hq1 hq2 hq3
      clear hq
      go_wp2_with fail
      go_ret
      exact ⟨rfl, hB1.trans ((hB2.mono hB1.size).trans ((((Below.refl _ _).alloc (Nat.le_refl _) _).trans ((hB3.mono (by simp)).trans (hB4.mono (by have := hB3.size; simp at this; omega)))).mono (by have := hB1.size; have := hB2.size; omega)))⟩
    | some p =>
      obtain ⟨x, t⟩ := p
      obtain ⟨hlay, hsm⟩ := readP_lays hr
      have hxs := read_word_size hr
      have HR := Lib.hid hr
      have HL := Lib.hid hlay
      clear hr hlay
      go_enter Tryd.func4, Tryd.ntmps4
      go_wp2_with fail
      refine (awake_any _ hv).mono ?_
      rintro e w1 ⟨rfl, hB1⟩
      have hv1 := hv.below' hB1
      go_wp2_with fail
      refine (read_some _ _ _ (by omega) HR.out _ hv1).mono ?_
      rintro e w2 ⟨rfl, hB2⟩
      have hv2 := hv1.below' hB2
      go_wp2_with fail
      refine (num_nil _).mono ?_
      rintro e w3 ⟨rfl, rfl⟩
      go_wp2_with fail
      refine (lay_ok x t hsm.ok (by omega) (by rw [HL.out]; exact HR.out) _ (hv2.alloc _)).mono ?_
      rintro e w4 ⟨rfl, hB4⟩
      rw [HL.out]
      go_wp2_with fail
      refine (num_nil _).mono ?_
      rintro e w5 ⟨rfl, rfl⟩
      go_wp2_with fail
      go_ret
      exact ⟨rfl, hB1.trans ((hB2.mono hB1.size).trans ((((Below.refl _ _).alloc (Nat.le_refl _) _).trans (hB4.mono (by simp))).mono (by have := hB1.size; have := hB2.size; omega)))⟩
  · have hs' : 300 < s.size := by omega
    clear hs
    go_enter Tryd.func4, Tryd.ntmps4
    go_wp2_with fail
    refine (awake_any _ hv).mono ?_
    rintro e w1 ⟨rfl, hB1⟩
    have hv1 := hv.below' hB1
    go_wp2_with fail
    refine (awake_any _ hv1).mono ?_
    rintro e w2 ⟨rfl, hB2⟩
    go_wp2_with fail
    go_ret
    exact ⟨rfl, hB1.trans (hB2.mono hB1.size)⟩
end Go.Proofs.YtedgoagonagdjaaDoor
