/-
  text.Read: what is no request.
-/
import Derived.Test.YtedgoagonagdjaaDoorRead
namespace Go.Proofs.YtedgoagonagdjaaDoor
open Go.RowKit

theorem words_ne (line : ByteArray) : ∃ x xs, wordsOf line = x :: xs := by
  have h := Lib.splitB_all ⟨#[32]⟩ (by decide) 0 _ (bodyOf line) rfl
  cases hw : wordsOf line with
  | nil => unfold wordsOf at hw; rw [hw] at h; simp at h
  | cons x xs => exact ⟨x, xs, rfl⟩

set_option maxRecDepth 100000 in
set_option maxHeartbeats 1000000 in
theorem read_open (line x : ByteArray) (xs : List ByteArray) (hl : line.size ≤ 100000) (hw : wordsOf line = x :: xs) (hend : Lib.hasSuffix line.data.toList [10] = false) (w : World) (hv : Vars w) :
    Calls Tryd.prog 14 #[.string line] w (ReadBad w) := by
  have hlk : ∀ W : World, (Instr.lookup 51 (.map (some W.heap.size)) (.string x) true).run Tryd.prog ((W.alloc (.map needsTab 6)).drew) = .ok (.tuple #[.string ((wantOf x).getD ⟨#[]⟩), .bool (wantOf x).isSome]) ((W.alloc (.map needsTab 6)).drew) := fun W => by
    rw [look_at]; rfl
  have HW := Lib.hid hw
  clear hw
  go_enter Tryd.func14, Tryd.ntmps14
  go_wp2_with fail
  refine (Tryd.strings_CutSuffix line ⟨#[10]⟩ _ (by omega)).mono ?_
  rintro e w1 ⟨rfl, rfl⟩
  go_wp2_with fail
  refine (split_words line hl _ (hv.alloc _)).mono ?_
  rintro e w1 ⟨rfl, rfl⟩
  rw [HW.out]
  obtain ⟨W0, hW0⟩ : ∃ W0, (w.alloc (.cells #[.string ⟨#[]⟩, .int .i64 0, .int .i64 0, .int .i64 0] 29)).alloc (.cells ((x :: xs).map Value.string).toArray 9) = W0 := ⟨_, rfl⟩
  have hB0 : Below w.heap.size w W0 := by rw [← hW0]; exact ((Below.refl _ w).alloc (Nat.le_refl _) _).alloc (by simp) _
  have hs0 : w.heap.size + 1 < W0.heap.size := by rw [← hW0]; simp
  have hw0 : W0.heap[w.heap.size + 1]? = some (.cells ((x :: xs).map Value.string).toArray 9) := by
    rw [← hW0]; have := heap_new (w.alloc (.cells #[.string ⟨#[]⟩, .int .i64 0, .int .i64 0, .int .i64 0] 29)) (.cells ((x :: xs).map Value.string).toArray 9); rwa [World.size_alloc] at this
  have hr0 : W0.heap[w.heap.size]? = some (.cells #[.string ⟨#[]⟩, .int .i64 0, .int .i64 0, .int .i64 0] 29) := by
    rw [← hW0]; exact (Below.heap_alloc _ _ _ (by simp)).trans (heap_new _ _)
  rw [World.size_alloc]
  rw [hW0]
  clear hW0
  have hx0 : W0.cell? ⟨w.heap.size + 1, 0, none⟩ = some (.string x) := by simp [World.cell?, hw0]
  have HW0 := Lib.hid hw0
  have HR0 := Lib.hid hr0
  clear hw0 hr0
  simp only [List.length_cons]
  go_wp2_with fail
  go_cut [7, 8] (fun s7 s8 wx => s7 = .string ((wantOf x).getD ⟨#[]⟩) ∧ s8 = .bool (wantOf x).isSome ∧ Below W0.heap.size W0 wx)
  case first =>
    go_region_with (go_at_call 20; refine (needs_any _).mono ?_; rintro e w' ⟨rfl, rfl⟩)
    all_goals (go_wp2_with fail; go_meet; exact ⟨rfl, rfl, ((Below.refl _ W0).alloc (Nat.le_refl _) _).drew⟩)
  case rest =>
    obtain ⟨rfl, rfl, hB1⟩ := hcut
    clear hlk hx0
    have hr0' : Vars W0 := hv.below' hB0
    have hr1' : Vars wc := hr0'.below' hB1
    go_wp2_with fail
    refine (form_any _ hr1').mono ?_
    rintro e w2 ⟨v, rfl, hE, hB2⟩
    have hres : w2.heap[w.heap.size]? = _ := (hB2.block _ (Nat.lt_of_lt_of_le (by omega) hB1.size)).trans ((hB1.block _ (by omega)).trans HR0.out)
    have hr0 := cell_of hres 0
    have hr1 := cell_of hres 1
    have hr2 := cell_of hres 2
    have hr3 := cell_of hres 3
    have hrf := free_of hres
    simp only [List.getElem?_toArray, List.getElem?_cons_zero, List.getElem?_cons_succ] at hr0 hr1 hr2 hr3
    have HRS := Lib.hid hres
    clear hres
    go_wp2_with fail
    have hBw : Below w.heap.size w w2 := (hB0.trans (hB1.mono (by omega))).trans (hB2.mono (by have := hB1.size; omega))
    refine bodyPost_ret (v := .tuple #[.agg #[.string ⟨#[]⟩, .int .i64 0, .int .i64 0, .int .i64 0], v]) (by simp [results, Tryd.results14, go_sem, hr0, hr1, hr2, hr3]) rfl ⟨v, rfl, ?_, ?_⟩
    · obtain ⟨b, s, rfl, hc⟩ := hE
      have hbw : w.heap.size ≠ b := by rintro rfl; rw [HRS.out] at hc; simp at hc
      exact ⟨b, s, rfl, by rw [Below.heap_setCell _ _ _ _ (fun e => hbw e.symm), Below.heap_setCell _ _ _ _ (fun e => hbw e.symm), Below.heap_setCell _ _ _ _ (fun e => hbw e.symm), Below.heap_setCell _ _ _ _ (fun e => hbw e.symm)]; exact hc⟩
    · exact (((hBw.setCell (p := ⟨w.heap.size, 0, none⟩) (Nat.le_refl _) _).setCell (p := ⟨w.heap.size, 1, none⟩) (Nat.le_refl _) _).setCell (p := ⟨w.heap.size, 2, none⟩) (Nat.le_refl _) _).setCell (p := ⟨w.heap.size, 3, none⟩) (Nat.le_refl _) _

set_option maxRecDepth 100000 in
set_option maxHeartbeats 1000000 in
theorem read_word (line x : ByteArray) (xs : List ByteArray) (hl : line.size ≤ 100000) (hw : wordsOf line = x :: xs) (hend : Lib.hasSuffix line.data.toList [10] = true) (hwant : wantOf x = none) (w : World) (hv : Vars w) :
    Calls Tryd.prog 14 #[.string line] w (ReadBad w) := by
  have hlk : ∀ W : World, (Instr.lookup 51 (.map (some W.heap.size)) (.string x) true).run Tryd.prog ((W.alloc (.map needsTab 6)).drew) = .ok (.tuple #[.string ⟨#[]⟩, .bool false]) ((W.alloc (.map needsTab 6)).drew) := fun W => by
    rw [look_at, hwant]; rfl
  have HW := Lib.hid hw
  clear hw hwant
  go_enter Tryd.func14, Tryd.ntmps14
  go_wp2_with fail
  refine (Tryd.strings_CutSuffix line ⟨#[10]⟩ _ (by omega)).mono ?_
  rintro e w1 ⟨rfl, rfl⟩
  go_wp2_with fail
  refine (split_words line hl _ (hv.alloc _)).mono ?_
  rintro e w1 ⟨rfl, rfl⟩
  rw [HW.out]
  obtain ⟨W0, hW0⟩ : ∃ W0, (w.alloc (.cells #[.string ⟨#[]⟩, .int .i64 0, .int .i64 0, .int .i64 0] 29)).alloc (.cells ((x :: xs).map Value.string).toArray 9) = W0 := ⟨_, rfl⟩
  have hB0 : Below w.heap.size w W0 := by rw [← hW0]; exact ((Below.refl _ w).alloc (Nat.le_refl _) _).alloc (by simp) _
  have hs0 : w.heap.size + 1 < W0.heap.size := by rw [← hW0]; simp
  have hw0 : W0.heap[w.heap.size + 1]? = some (.cells ((x :: xs).map Value.string).toArray 9) := by
    rw [← hW0]; have := heap_new (w.alloc (.cells #[.string ⟨#[]⟩, .int .i64 0, .int .i64 0, .int .i64 0] 29)) (.cells ((x :: xs).map Value.string).toArray 9); rwa [World.size_alloc] at this
  have hr0 : W0.heap[w.heap.size]? = some (.cells #[.string ⟨#[]⟩, .int .i64 0, .int .i64 0, .int .i64 0] 29) := by
    rw [← hW0]; exact (Below.heap_alloc _ _ _ (by simp)).trans (heap_new _ _)
  rw [World.size_alloc]
  rw [hW0]
  clear hW0
  have hx0 : W0.cell? ⟨w.heap.size + 1, 0, none⟩ = some (.string x) := by simp [World.cell?, hw0]
  have HW0 := Lib.hid hw0
  have HR0 := Lib.hid hr0
  clear hw0 hr0
  simp only [List.length_cons]
  go_wp2_with fail
  go_cut [7, 8] (fun s7 s8 wx => s7 = .string ⟨#[]⟩ ∧ s8 = .bool false ∧ Below W0.heap.size W0 wx)
  case first =>
    go_region_with (go_at_call 20; refine (needs_any _).mono ?_; rintro e w' ⟨rfl, rfl⟩)
    all_goals (go_wp2_with fail; go_meet; exact ⟨rfl, rfl, ((Below.refl _ W0).alloc (Nat.le_refl _) _).drew⟩)
  case rest =>
    obtain ⟨rfl, rfl, hB1⟩ := hcut
    clear hlk hx0
    have hr0' : Vars W0 := hv.below' hB0
    have hr1' : Vars wc := hr0'.below' hB1
    go_wp2_with fail
    refine (form_any _ hr1').mono ?_
    rintro e w2 ⟨v, rfl, hE, hB2⟩
    have hres : w2.heap[w.heap.size]? = _ := (hB2.block _ (Nat.lt_of_lt_of_le (by omega) hB1.size)).trans ((hB1.block _ (by omega)).trans HR0.out)
    have hr0 := cell_of hres 0
    have hr1 := cell_of hres 1
    have hr2 := cell_of hres 2
    have hr3 := cell_of hres 3
    have hrf := free_of hres
    simp only [List.getElem?_toArray, List.getElem?_cons_zero, List.getElem?_cons_succ] at hr0 hr1 hr2 hr3
    have HRS := Lib.hid hres
    clear hres
    go_wp2_with fail
    have hBw : Below w.heap.size w w2 := (hB0.trans (hB1.mono (by omega))).trans (hB2.mono (by have := hB1.size; omega))
    refine bodyPost_ret (v := .tuple #[.agg #[.string ⟨#[]⟩, .int .i64 0, .int .i64 0, .int .i64 0], v]) (by simp [results, Tryd.results14, go_sem, hr0, hr1, hr2, hr3]) rfl ⟨v, rfl, ?_, ?_⟩
    · obtain ⟨b, s, rfl, hc⟩ := hE
      have hbw : w.heap.size ≠ b := by rintro rfl; rw [HRS.out] at hc; simp at hc
      exact ⟨b, s, rfl, by rw [Below.heap_setCell _ _ _ _ (fun e => hbw e.symm), Below.heap_setCell _ _ _ _ (fun e => hbw e.symm), Below.heap_setCell _ _ _ _ (fun e => hbw e.symm), Below.heap_setCell _ _ _ _ (fun e => hbw e.symm)]; exact hc⟩
    · exact (((hBw.setCell (p := ⟨w.heap.size, 0, none⟩) (Nat.le_refl _) _).setCell (p := ⟨w.heap.size, 1, none⟩) (Nat.le_refl _) _).setCell (p := ⟨w.heap.size, 2, none⟩) (Nat.le_refl _) _).setCell (p := ⟨w.heap.size, 3, none⟩) (Nat.le_refl _) _

set_option maxRecDepth 100000 in
set_option maxHeartbeats 1000000 in
theorem read_many (line x : ByteArray) (xs : List ByteArray) (hl : line.size ≤ 100000) (hw : wordsOf line = x :: xs) (what : ByteArray) (hend : Lib.hasSuffix line.data.toList [10] = true) (hwant : wantOf x = some what) (hlen : ¬ xs.length = what.size) (w : World) (hv : Vars w) :
    Calls Tryd.prog 14 #[.string line] w (ReadBad w) := by
  have hlk : ∀ W : World, (Instr.lookup 51 (.map (some W.heap.size)) (.string x) true).run Tryd.prog ((W.alloc (.map needsTab 6)).drew) = .ok (.tuple #[.string what, .bool true]) ((W.alloc (.map needsTab 6)).drew) := fun W => by
    rw [look_at, hwant]; rfl
  have HW := Lib.hid hw
  have HQ := Lib.hid hwant
  clear hw hwant
  go_enter Tryd.func14, Tryd.ntmps14
  go_wp2_with fail
  refine (Tryd.strings_CutSuffix line ⟨#[10]⟩ _ (by omega)).mono ?_
  rintro e w1 ⟨rfl, rfl⟩
  go_wp2_with fail
  refine (split_words line hl _ (hv.alloc _)).mono ?_
  rintro e w1 ⟨rfl, rfl⟩
  rw [HW.out]
  obtain ⟨W0, hW0⟩ : ∃ W0, (w.alloc (.cells #[.string ⟨#[]⟩, .int .i64 0, .int .i64 0, .int .i64 0] 29)).alloc (.cells ((x :: xs).map Value.string).toArray 9) = W0 := ⟨_, rfl⟩
  have hB0 : Below w.heap.size w W0 := by rw [← hW0]; exact ((Below.refl _ w).alloc (Nat.le_refl _) _).alloc (by simp) _
  have hs0 : w.heap.size + 1 < W0.heap.size := by rw [← hW0]; simp
  have hw0 : W0.heap[w.heap.size + 1]? = some (.cells ((x :: xs).map Value.string).toArray 9) := by
    rw [← hW0]; have := heap_new (w.alloc (.cells #[.string ⟨#[]⟩, .int .i64 0, .int .i64 0, .int .i64 0] 29)) (.cells ((x :: xs).map Value.string).toArray 9); rwa [World.size_alloc] at this
  have hr0 : W0.heap[w.heap.size]? = some (.cells #[.string ⟨#[]⟩, .int .i64 0, .int .i64 0, .int .i64 0] 29) := by
    rw [← hW0]; exact (Below.heap_alloc _ _ _ (by simp)).trans (heap_new _ _)
  rw [World.size_alloc]
  rw [hW0]
  clear hW0
  have hx0 : W0.cell? ⟨w.heap.size + 1, 0, none⟩ = some (.string x) := by simp [World.cell?, hw0]
  have HW0 := Lib.hid hw0
  have HR0 := Lib.hid hr0
  clear hw0 hr0
  simp only [List.length_cons]
  go_wp2_with fail
  go_cut [7, 8] (fun s7 s8 wx => s7 = .string what ∧ s8 = .bool true ∧ Below W0.heap.size W0 wx)
  case first =>
    go_region_with (go_at_call 20; refine (needs_any _).mono ?_; rintro e w' ⟨rfl, rfl⟩)
    all_goals (go_wp2_with fail; go_meet; exact ⟨rfl, rfl, ((Below.refl _ W0).alloc (Nat.le_refl _) _).drew⟩)
  case rest =>
    obtain ⟨rfl, rfl, hB1⟩ := hcut
    have hl3 : what.size ≤ 3 := by rcases want_cases HQ.out with rfl | rfl | rfl | rfl <;> decide
    have hne : ((xs.length : Int) + 1 != 1 + (what.size : Int)) = true := by simp; omega
    clear hlk hx0
    have hr0' : Vars W0 := hv.below' hB0
    have hr1' : Vars wc := hr0'.below' hB1
    go_wp2_with fail
    refine (form_any _ hr1').mono ?_
    rintro e w2 ⟨v, rfl, hE, hB2⟩
    have hres : w2.heap[w.heap.size]? = _ := (hB2.block _ (Nat.lt_of_lt_of_le (by omega) hB1.size)).trans ((hB1.block _ (by omega)).trans HR0.out)
    have hr0 := cell_of hres 0
    have hr1 := cell_of hres 1
    have hr2 := cell_of hres 2
    have hr3 := cell_of hres 3
    have hrf := free_of hres
    simp only [List.getElem?_toArray, List.getElem?_cons_zero, List.getElem?_cons_succ] at hr0 hr1 hr2 hr3
    have HRS := Lib.hid hres
    clear hres
    go_wp2_with fail
    have hBw : Below w.heap.size w w2 := (hB0.trans (hB1.mono (by omega))).trans (hB2.mono (by have := hB1.size; omega))
    refine bodyPost_ret (v := .tuple #[.agg #[.string ⟨#[]⟩, .int .i64 0, .int .i64 0, .int .i64 0], v]) (by simp [results, Tryd.results14, go_sem, hr0, hr1, hr2, hr3]) rfl ⟨v, rfl, ?_, ?_⟩
    · obtain ⟨b, s, rfl, hc⟩ := hE
      have hbw : w.heap.size ≠ b := by rintro rfl; rw [HRS.out] at hc; simp at hc
      exact ⟨b, s, rfl, by rw [Below.heap_setCell _ _ _ _ (fun e => hbw e.symm), Below.heap_setCell _ _ _ _ (fun e => hbw e.symm), Below.heap_setCell _ _ _ _ (fun e => hbw e.symm), Below.heap_setCell _ _ _ _ (fun e => hbw e.symm)]; exact hc⟩
    · exact (((hBw.setCell (p := ⟨w.heap.size, 0, none⟩) (Nat.le_refl _) _).setCell (p := ⟨w.heap.size, 1, none⟩) (Nat.le_refl _) _).setCell (p := ⟨w.heap.size, 2, none⟩) (Nat.le_refl _) _).setCell (p := ⟨w.heap.size, 3, none⟩) (Nat.le_refl _) _

end Go.Proofs.YtedgoagonagdjaaDoor
