/-
  text.Lay: what is no request.
-/
import Derived.Test.YtedgoagonagdjaaDoorLay
namespace Go.Proofs.YtedgoagonagdjaaDoor
open Go.RowKit Go.Sort

theorem IsErr.new2 (w : World) (o : Obj) (s : ByteArray) (n : Int) : IsErr ((w.alloc o).alloc (.cells #[.string s, .iface 57 (.int .i64 n)] 81)) n (.iface 79 (.pointer (some ⟨w.heap.size + 1, 0, none⟩))) :=
  ⟨w.heap.size + 1, s, rfl, by have := heap_new (w.alloc o) (.cells #[.string s, .iface 57 (.int .i64 n)] 81); rwa [World.size_alloc] at this⟩

set_option maxRecDepth 100000 in
set_option maxHeartbeats 1000000 in
theorem lay_none (nm : ByteArray) (t : Abc) (ht : t.ok) (hn : nm.size ≤ 1000) (hr : readP (layS nm t) = none) (w : World) (hv : Vars w) :
    Calls Tryd.prog 10 #[.agg #[.string nm, .int .i64 t.a, .int .i64 t.b, .int .i64 t.c]] w (LayBad w) := by
  have hlk : ∀ W : World, (Instr.lookup 51 (.map (some W.heap.size)) (.string nm) false).run Tryd.prog ((W.alloc (.map needsTab 6)).drew) = .ok (.string ((wantOf nm).getD ⟨#[]⟩)) ((W.alloc (.map needsTab 6)).drew) := fun W => by
    rw [look_at]; rfl
  have HR := Lib.hid hr
  clear hr
  go_enter Tryd.func10, Tryd.ntmps10
  go_wp2_with fail
  obtain ⟨W0, hW0⟩ : ∃ W0, w.alloc (.cells #[.string nm, .int .i64 t.a, .int .i64 t.b, .int .i64 t.c] 29) = W0 := ⟨_, rfl⟩
  have hB0 : Below w.heap.size w W0 := by rw [← hW0]; exact (Below.refl _ w).alloc (Nat.le_refl _) _
  have hs0 : w.heap.size < W0.heap.size := by rw [← hW0]; simp
  have ha0 : W0.heap[w.heap.size]? = some (.cells #[.string nm, .int .i64 t.a, .int .i64 t.b, .int .i64 t.c] 29) := by rw [← hW0]; exact heap_new _ _
  rw [hW0]
  have hx0 := cell_of ha0 0
  simp only [List.getElem?_toArray, List.getElem?_cons_zero] at hx0
  have HA0 := Lib.hid ha0
  clear hW0 ha0
  go_cut [5] (fun s5 wx => s5 = .string ((wantOf nm).getD ⟨#[]⟩) ∧ Below W0.heap.size W0 wx)
  case first =>
    go_region_with (go_at_call 20; refine (needs_any _).mono ?_; rintro e w' ⟨rfl, rfl⟩)
    all_goals (go_wp2_with fail; go_meet; exact ⟨rfl, ((Below.refl _ W0).alloc (Nat.le_refl _) _).drew⟩)
  case rest =>
    obtain ⟨rfl, hB1⟩ := hcut
    clear hlk hx0
    have hact : wc.heap[w.heap.size]? = _ := (hB1.block _ hs0).trans HA0.out
    have HA1 := Lib.hid hact
    have hv0 := hv.below' hB0
    have hv1 := hv0.below' hB1
    have hs1 : w.heap.size < wc.heap.size := Nat.lt_of_lt_of_le hs0 hB1.size
    clear hact
    obtain ⟨ks, hks⟩ : ∃ ks, (wantOf nm).getD ⟨#[]⟩ = ks := ⟨_, rfl⟩
    have hk3 : ks.size ≤ 3 := by
      cases hw : wantOf nm with
      | none => rw [hw] at hks; subst hks; decide
      | some what => rw [hw] at hks; subst hks; rcases want_cases hw with rfl | rfl | rfl | rfl <;> decide
    have HS : Hid (layS nm t = ⟨(layL nm.data.toList ks.data.toList t ++ [10]).toArray⟩) := by unfold layS; rw [hks]; rfl
    rw [hks]
    clear hks
    go_wp2_with fail
    go_loopw [4, 17] (fun s i wr => ∃ k : Nat, k ≤ ks.size ∧ i = .int .i64 k ∧ Below wc.heap.size wc wr ∧ s = .string ⟨(layL nm.data.toList (ks.data.toList.take k) t).toArray⟩)
      (fun _ i _ => ks.size - (intOf i).toNat)
    case atStart => exact ⟨0, Nat.zero_le _, rfl, Below.refl _ _, by simp [layL]⟩
    case round =>
      obtain ⟨k, hk, rfl, hBr, rfl⟩ := hrel
      by_cases hlt : k < ks.size
      · have hc := (hBr.block _ hs1).trans HA1.out
        have hc2 := (cell_of hc (partOff ks[k])).trans (part_cell nm t ks[k])
        have hvr := hv1.below' hBr
        have hpb : -9223372036854775808 ≤ pick t ks[k] ∧ pick t ks[k] ≤ 9223372036854775807 := by
          exact pick_range ht _
        clear hc
        go_wp2_with fail
        refine (part_any _ _ _).mono ?_
        rintro e w3 ⟨rfl, rfl⟩
        go_wp2_with fail
        have hle1 := Lib.itoa_length_le _ hpb.1 hpb.2
        have hle2 := layL_len ht nm.data.toList (ks.data.toList.take k)
        have hle3 : (ks.data.toList.take k).length ≤ k := List.length_take_le _ _
        have hle4 : nm.data.toList.length ≤ 1000 := by simpa using hn
        have hle5 : (layL nm.data.toList (ks.data.toList.take k) t).length ≤ 1066 := by omega
        clear hle2 hle3 hle4
        refine (Tryd.strconv_Itoa _ hpb.1 hpb.2 _ hvr.pow).mono ?_
        rintro e w2 ⟨rfl, q, os, rfl⟩
        go_wp2_with fail
        go_roundw
        case rel => exact ⟨k + 1, by omega, by go_num, hBr.trans ((below_grow wr q os).mono hBr.size), by rw [layL_take _ _ _ _ hlt, show ({ data := #[32] } : ByteArray) = ⟨[(32 : UInt8)].toArray⟩ from rfl, ba_app, ba_app]; rfl⟩
        case measure => simp [intOf]; omega
      · have hke : k = ks.size := by omega
        have hfin : (layL nm.data.toList (ks.data.toList.take k) t) = layL nm.data.toList ks.data.toList t := by
          rw [List.take_of_length_le (by simp; omega)]
        rw [hfin]
        clear hfin hke
        have hle2 := layL_len ht nm.data.toList ks.data.toList
        have hle4 : nm.data.toList.length ≤ 1000 := by simpa using hn
        have hle5 : (layL nm.data.toList ks.data.toList t).length ≤ 1066 := by simp at hle2 hle4; omega
        have hvr := hv1.below' hBr
        clear hle2 hle4
        have hls : (layS nm t).size ≤ 100000 := by rw [HS.out]; show (List.toArray _).size ≤ _; simp; omega
        go_wp2_with fail
        rw [show ({ data := #[10] } : ByteArray) = ⟨[(10 : UInt8)].toArray⟩ from rfl, ba_app, ← HS.out]
        refine (read_none _ hls HR.out _ hvr).mono ?_
        rintro e w2 ⟨v, rfl, hE, hB2⟩
        obtain ⟨eb, es, rfl, _⟩ := hE
        have hs2 : w.heap.size < w2.heap.size := Nat.lt_of_lt_of_le (Nat.lt_of_lt_of_le hs1 hBr.size) hB2.size
        go_wp2_with fail
        refine (tag_any _ _ _).mono ?_
        rintro e w3 ⟨rfl, rfl⟩
        go_wp2_with fail
        go_ret2
        refine ⟨_, rfl, IsErr.new2 _ _ _ _, ?_⟩
        exact (hB0.trans (hB1.mono (by omega))).trans ((hBr.mono (by omega)).trans ((hB2.mono (by have := hBr.size; omega)).trans (((Below.refl _ _).alloc (by omega) _).alloc (by simp; omega) _)))

set_option maxRecDepth 100000 in
set_option maxHeartbeats 1000000 in
theorem lay_other (nm : ByteArray) (t : Abc) (ht : t.ok) (hn : nm.size ≤ 1000) (y : ByteArray) (u : Abc) (hr : readP (layS nm t) = some (y, u)) (hne : ¬ (y = nm ∧ u = t)) (w : World) (hv : Vars w) :
    Calls Tryd.prog 10 #[.agg #[.string nm, .int .i64 t.a, .int .i64 t.b, .int .i64 t.c]] w (LayBad w) := by
  have hlk : ∀ W : World, (Instr.lookup 51 (.map (some W.heap.size)) (.string nm) false).run Tryd.prog ((W.alloc (.map needsTab 6)).drew) = .ok (.string ((wantOf nm).getD ⟨#[]⟩)) ((W.alloc (.map needsTab 6)).drew) := fun W => by
    rw [look_at]; rfl
  have HR := Lib.hid hr
  clear hr
  go_enter Tryd.func10, Tryd.ntmps10
  go_wp2_with fail
  obtain ⟨W0, hW0⟩ : ∃ W0, w.alloc (.cells #[.string nm, .int .i64 t.a, .int .i64 t.b, .int .i64 t.c] 29) = W0 := ⟨_, rfl⟩
  have hB0 : Below w.heap.size w W0 := by rw [← hW0]; exact (Below.refl _ w).alloc (Nat.le_refl _) _
  have hs0 : w.heap.size < W0.heap.size := by rw [← hW0]; simp
  have ha0 : W0.heap[w.heap.size]? = some (.cells #[.string nm, .int .i64 t.a, .int .i64 t.b, .int .i64 t.c] 29) := by rw [← hW0]; exact heap_new _ _
  rw [hW0]
  have hx0 := cell_of ha0 0
  simp only [List.getElem?_toArray, List.getElem?_cons_zero] at hx0
  have HA0 := Lib.hid ha0
  clear hW0 ha0
  go_cut [5] (fun s5 wx => s5 = .string ((wantOf nm).getD ⟨#[]⟩) ∧ Below W0.heap.size W0 wx)
  case first =>
    go_region_with (go_at_call 20; refine (needs_any _).mono ?_; rintro e w' ⟨rfl, rfl⟩)
    all_goals (go_wp2_with fail; go_meet; exact ⟨rfl, ((Below.refl _ W0).alloc (Nat.le_refl _) _).drew⟩)
  case rest =>
    obtain ⟨rfl, hB1⟩ := hcut
    clear hlk hx0
    have hact : wc.heap[w.heap.size]? = _ := (hB1.block _ hs0).trans HA0.out
    have HA1 := Lib.hid hact
    have hv0 := hv.below' hB0
    have hv1 := hv0.below' hB1
    have hs1 : w.heap.size < wc.heap.size := Nat.lt_of_lt_of_le hs0 hB1.size
    clear hact
    obtain ⟨ks, hks⟩ : ∃ ks, (wantOf nm).getD ⟨#[]⟩ = ks := ⟨_, rfl⟩
    have hk3 : ks.size ≤ 3 := by
      cases hw : wantOf nm with
      | none => rw [hw] at hks; subst hks; decide
      | some what => rw [hw] at hks; subst hks; rcases want_cases hw with rfl | rfl | rfl | rfl <;> decide
    have HS : Hid (layS nm t = ⟨(layL nm.data.toList ks.data.toList t ++ [10]).toArray⟩) := by unfold layS; rw [hks]; rfl
    rw [hks]
    clear hks
    go_wp2_with fail
    go_loopw [4, 17] (fun s i wr => ∃ k : Nat, k ≤ ks.size ∧ i = .int .i64 k ∧ Below wc.heap.size wc wr ∧ s = .string ⟨(layL nm.data.toList (ks.data.toList.take k) t).toArray⟩)
      (fun _ i _ => ks.size - (intOf i).toNat)
    case atStart => exact ⟨0, Nat.zero_le _, rfl, Below.refl _ _, by simp [layL]⟩
    case round =>
      obtain ⟨k, hk, rfl, hBr, rfl⟩ := hrel
      by_cases hlt : k < ks.size
      · have hc := (hBr.block _ hs1).trans HA1.out
        have hc2 := (cell_of hc (partOff ks[k])).trans (part_cell nm t ks[k])
        have hvr := hv1.below' hBr
        have hpb : -9223372036854775808 ≤ pick t ks[k] ∧ pick t ks[k] ≤ 9223372036854775807 := by
          exact pick_range ht _
        clear hc
        go_wp2_with fail
        refine (part_any _ _ _).mono ?_
        rintro e w3 ⟨rfl, rfl⟩
        go_wp2_with fail
        have hle1 := Lib.itoa_length_le _ hpb.1 hpb.2
        have hle2 := layL_len ht nm.data.toList (ks.data.toList.take k)
        have hle3 : (ks.data.toList.take k).length ≤ k := List.length_take_le _ _
        have hle4 : nm.data.toList.length ≤ 1000 := by simpa using hn
        have hle5 : (layL nm.data.toList (ks.data.toList.take k) t).length ≤ 1066 := by omega
        clear hle2 hle3 hle4
        refine (Tryd.strconv_Itoa _ hpb.1 hpb.2 _ hvr.pow).mono ?_
        rintro e w2 ⟨rfl, q, os, rfl⟩
        go_wp2_with fail
        go_roundw
        case rel => exact ⟨k + 1, by omega, by go_num, hBr.trans ((below_grow wr q os).mono hBr.size), by rw [layL_take _ _ _ _ hlt, show ({ data := #[32] } : ByteArray) = ⟨[(32 : UInt8)].toArray⟩ from rfl, ba_app, ba_app]; rfl⟩
        case measure => simp [intOf]; omega
      · have hke : k = ks.size := by omega
        have hfin : (layL nm.data.toList (ks.data.toList.take k) t) = layL nm.data.toList ks.data.toList t := by
          rw [List.take_of_length_le (by simp; omega)]
        rw [hfin]
        clear hfin hke
        have hle2 := layL_len ht nm.data.toList ks.data.toList
        have hle4 : nm.data.toList.length ≤ 1000 := by simpa using hn
        have hle5 : (layL nm.data.toList ks.data.toList t).length ≤ 1066 := by simp at hle2 hle4; omega
        have hvr := hv1.below' hBr
        clear hle2 hle4
        have hls : (layS nm t).size ≤ 100000 := by rw [HS.out]; show (List.toArray _).size ≤ _; simp; omega
        go_wp2_with fail
        rw [show ({ data := #[10] } : ByteArray) = ⟨[(10 : UInt8)].toArray⟩ from rfl, ba_app, ← HS.out]
        refine (read_some _ _ _ hls HR.out _ hvr).mono ?_
        rintro e w2 ⟨rfl, hB2⟩
        have hact : w2.heap[w.heap.size]? = _ := (hB2.block _ (Nat.lt_of_lt_of_le hs1 hBr.size)).trans ((hBr.block _ hs1).trans HA1.out)
        have hq0 := cell_of hact 0
        have hq1 := cell_of hact 1
        have hq2 := cell_of hact 2
        have hq3 := cell_of hact 3
        simp only [List.getElem?_toArray, List.getElem?_cons_zero, List.getElem?_cons_succ] at hq0 hq1 hq2 hq3
        have hs2 : w.heap.size < w2.heap.size := Nat.lt_of_lt_of_le (Nat.lt_of_lt_of_le hs1 hBr.size) hB2.size
        clear hact
        go_wp2_with fail
        · exfalso
          have h1 : y.toList = nm.toList := by assumption
          have h2 : u.a = t.a := by assumption
          have h3 : u.b = t.b := by assumption
          have h4 : u.c = t.c := by assumption
          rw [Lib.toList_data, Lib.toList_data] at h1
          exact hne ⟨ByteArray.ext (Array.ext' h1), by cases u; cases t; simp_all⟩
        all_goals
          refine (tag_any _ _ _).mono ?_
          rintro e w3 ⟨rfl, rfl⟩
          go_wp2_with fail
          go_ret2
          refine ⟨_, rfl, IsErr.new2 _ _ _ _, ?_⟩
          exact (hB0.trans (hB1.mono (by omega))).trans ((hBr.mono (by omega)).trans ((hB2.mono (by have := hBr.size; omega)).trans (((Below.refl _ _).alloc (by omega) _).alloc (by simp; omega) _)))
end Go.Proofs.YtedgoagonagdjaaDoor
