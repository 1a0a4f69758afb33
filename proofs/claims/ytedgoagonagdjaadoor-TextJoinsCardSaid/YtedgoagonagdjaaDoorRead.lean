/-
  text.Read: the request of a line.
-/
import Derived.Test.YtedgoagonagdjaaDoorPlain
import Derived.Deep.RegionWith
import Derived.Deep.DeepCutAuto
namespace Go.Proofs.YtedgoagonagdjaaDoor
open Go.RowKit

def ReadOk (w : World) (x : ByteArray) (t : Abc) (e : Ending) (w' : World) : Prop :=
  e = .returned (.tuple #[.agg #[.string x, .int .i64 t.a, .int .i64 t.b, .int .i64 t.c], .nilIface]) ∧ Below w.heap.size w w'
def ReadBad (w : World) (e : Ending) (w' : World) : Prop :=
  ∃ v, e = .returned (.tuple #[.agg #[.string ⟨#[]⟩, .int .i64 0, .int .i64 0, .int .i64 0], v]) ∧ IsErr w' 2 v ∧ Below w.heap.size w w'

theorem split_words (line : ByteArray) (hl : line.size ≤ 100000) (w : World) (hv : Vars w) :
    Calls Tryd.prog 28 #[.string ⟨(Lib.trimSuffix line.data.toList [10]).toArray⟩, .string ⟨#[32]⟩] w fun e w' =>
      e = .returned (.slice (some ⟨w.heap.size, 0, none⟩) (wordsOf line).length (wordsOf line).length) ∧ w' = w.alloc (.cells ((wordsOf line).map Value.string).toArray 9) := by
  obtain ⟨m, hm⟩ := hv.max
  have hsz : (bodyOf line).size ≤ line.size := by
    have : (Lib.trimSuffix line.data.toList [10]).length ≤ line.data.toList.length := by unfold Lib.trimSuffix; split <;> simp
    show (Lib.trimSuffix line.data.toList [10]).toArray.size ≤ line.data.size
    simpa using this
  refine (Tryd.strings_Split (bodyOf line) ⟨#[32]⟩ m w (by omega) hm (by decide)).mono ?_
  rintro e w' ⟨rfl, rfl⟩
  rw [← Lib.splitB_all ⟨#[32]⟩ (by decide) 0 _ (bodyOf line) rfl]
  exact ⟨rfl, rfl⟩

theorem look_at (x : ByteArray) (W : World) (c : Bool) :
    (Instr.lookup 51 (.map (some W.heap.size)) (.string x) c).run Tryd.prog ((W.alloc (.map needsTab 6)).drew) =
      .ok (if c then .tuple #[.string ((wantOf x).getD ⟨#[]⟩), .bool (wantOf x).isSome] else .string ((wantOf x).getD ⟨#[]⟩)) ((W.alloc (.map needsTab 6)).drew) :=
  look_needs x W.heap.size _ c (by show (W.heap.push _)[W.heap.size]? = _; simp)

set_option maxRecDepth 100000 in
set_option maxHeartbeats 1000000 in
theorem read_ok (line x what : ByteArray) (xs : List ByteArray) (vs : List Int) (hl : line.size ≤ 100000) (hend : Lib.hasSuffix line.data.toList [10] = true)
    (hw : wordsOf line = x :: xs) (hwant : wantOf x = some what) (hlen : xs.length = what.size) (hnum : nums xs = some vs) (w : World) (hv : Vars w) :
    Calls Tryd.prog 14 #[.string line] w (ReadOk w x (fill what.data.toList vs ⟨0, 0, 0⟩)) := by
  have hlk : ∀ W : World, (Instr.lookup 51 (.map (some W.heap.size)) (.string x) true).run Tryd.prog ((W.alloc (.map needsTab 6)).drew) = .ok (.tuple #[.string what, .bool true]) ((W.alloc (.map needsTab 6)).drew) := fun W => by
    rw [look_at, hwant]; rfl
  have HN := Lib.hid hnum
  have HW := Lib.hid hw
  have HL := Lib.hid hlen
  have HQ := Lib.hid hwant
  clear hnum hw hwant hlen
  go_enter Tryd.func14, Tryd.ntmps14
  go_wp2_with fail
  refine (Tryd.strings_CutSuffix line ⟨#[10]⟩ _ (by omega)).mono ?_
  rintro e w1 ⟨rfl, rfl⟩
  go_wp2_with fail
  refine (split_words line hl _ (hv.alloc _)).mono ?_
  rintro e w1 ⟨rfl, rfl⟩
  rw [HW.out]
  obtain ⟨W0, hW0⟩ : ∃ W0, (w.alloc (.cells #[.string ⟨#[]⟩, .int .i64 0, .int .i64 0, .int .i64 0] 29)).alloc (.cells ((x :: xs).map Value.string).toArray 9) = W0 := ⟨_, rfl⟩
  have hB0 : Below w.heap.size w W0 := by rw [← hW0]; exact ((Below.refl _ w).alloc (Nat.le_refl _) _).alloc (by simp) _
  have hs0 : w.heap.size + 1 < W0.heap.size := by rw [← hW0]; simp
  have hw0 : W0.heap[w.heap.size + 1]? = some (.cells ((x :: xs).map Value.string).toArray 9) := by
    rw [← hW0]; have := heap_new (w.alloc (.cells #[.string ⟨#[]⟩, .int .i64 0, .int .i64 0, .int .i64 0] 29)) (.cells ((x :: xs).map Value.string).toArray 9); rwa [World.size_alloc] at this
  have hr0 : W0.heap[w.heap.size]? = some (.cells #[.string ⟨#[]⟩, .int .i64 0, .int .i64 0, .int .i64 0] 29) := by
    rw [← hW0]; exact (Below.heap_alloc _ _ _ (by simp)).trans (heap_new _ _)
  rw [World.size_alloc]
  rw [hW0]
  clear hW0
  have hx0 : W0.cell? ⟨w.heap.size + 1, 0, none⟩ = some (.string x) := by simp [World.cell?, hw0]
  have HW0 := Lib.hid hw0
  have HR0 := Lib.hid hr0
  clear hw0 hr0
  simp only [List.length_cons]
  go_wp2_with fail
  go_cut [7, 8] (fun s7 s8 wx => s7 = .string what ∧ s8 = .bool true ∧ Below W0.heap.size W0 wx)
  case first =>
    go_region_with (go_at_call 20; refine (needs_any _).mono ?_; rintro e w' ⟨rfl, rfl⟩)
    all_goals (go_wp2_with fail; go_meet; exact ⟨rfl, rfl, ((Below.refl _ W0).alloc (Nat.le_refl _) _).drew⟩)
  case rest =>
    obtain ⟨rfl, rfl, hB1⟩ := hcut
    have hx1 : wc.cell? ⟨w.heap.size + 1, 0, none⟩ = some (.string x) := (hB1.cell hs0).trans hx0
    clear hlk hx0
    have hl1 : xs.length ≤ what.size := by have := HL.out; omega
    have hl2 : what.size ≤ xs.length := by have := HL.out; omega
    have hne : ((xs.length : Int) + 1 != 1 + (what.size : Int)) = false := by have := HL.out; simp; omega
    have hl3 : what.size ≤ 3 := by rcases want_cases HQ.out with rfl | rfl | rfl | rfl <;> decide
    go_wp2_with fail
    have hvl : vs.length = xs.length := nums_len _ _ HN.out
    have HVL := Lib.hid hvl
    clear hvl hx1 hne
    go_loopw [50] (fun i wr => ∃ k : Nat, k ≤ xs.length ∧ i = .int .i64 k ∧ Below wc.heap.size wc wr ∧ wc.heap.size < wr.heap.size ∧
        ∃ t : Abc, wr.heap[wc.heap.size]? = some (.cells #[.string x, .int .i64 t.a, .int .i64 t.b, .int .i64 t.c] 29) ∧ t = fill (what.data.toList.take k) (vs.take k) ⟨0, 0, 0⟩)
      (fun i _ => xs.length - (intOf i).toNat)
    case atStart => exact ⟨0, Nat.zero_le _, rfl, (Below.refl _ _).alloc (Nat.le_refl _) _, by simp, ⟨0, 0, 0⟩, heap_new _ _, by simp [fill]⟩
    case round =>
      obtain ⟨k, hk, rfl, hBr, hsr, t, hact, ht⟩ := hrel
      have HT := Lib.hid ht
      have HA := Lib.hid hact
      clear ht hact
      by_cases hlt : k < xs.length
      · have hx1 : wr.cell? ⟨w.heap.size + 1, 1 + k, none⟩ = some (.string xs[k]) := by
          rw [hBr.cell (p := ⟨w.heap.size + 1, 1 + k, none⟩) (Nat.lt_of_lt_of_le hs0 hB1.size), hB1.cell (p := ⟨w.heap.size + 1, 1 + k, none⟩) hs0]
          simp [World.cell?, HW0.out, Nat.add_comm 1 k, hlt]
        have hlt2 : k < what.size := by omega
        have hxm : xs[k].size ≤ 1000000 := Nat.le_trans (words_size line xs[k] (by rw [HW.out]; exact List.mem_cons_of_mem _ (List.getElem_mem hlt))) (by omega)
        have hkv : k < vs.length := by have := HVL.out; omega
        have HK := Lib.hid (nums_at xs vs HN.out k hlt hkv)
        have hvr : Vars wr := ((hv.below' hB0).below' hB1).below' hBr
        go_wp2_with fail
        refine (number_ok xs[k] hxm vs[k] HK.out _ hvr).mono ?_
        rintro e w2 ⟨rfl, hB2⟩
        have ha2 : w2.heap[wc.heap.size]? = _ := (hB2.block _ hsr).trans HA.out
        have HA2 := Lib.hid ha2
        have hs2 : wc.heap.size < w2.heap.size := Nat.lt_of_lt_of_le hsr hB2.size
        have ha := cell_of ha2 1
        have hb := cell_of ha2 2
        have hc := cell_of ha2 3
        have hfr := free_of ha2
        simp only [List.getElem?_toArray, List.getElem?_cons_zero, List.getElem?_cons_succ] at ha hb hc
        clear ha2 HA
        have hBc : Below wc.heap.size wc w2 := hBr.trans (hB2.mono (by omega))
        have hft := fill_take what.data.toList vs ⟨0, 0, 0⟩ k (by simpa using hlt2) hkv
        rw [← HT.out] at hft
        have HF := Lib.hid hft
        clear hft hBr hB2
        go_wp2_with fail
        by_cases h97 : what[k] = 97
        · have g97 : what.data[k] = 97 := h97
          rw [h97]
          refine (part_a _ _).mono ?_
          rintro e w3 ⟨rfl, rfl⟩
          go_wp2_with fail
          go_roundw
          case rel => exact ⟨k + 1, by omega, by go_num, hBc.setCell (p := ⟨wc.heap.size, 1, none⟩) (Nat.le_refl _) _, by simp [World.setCell]; omega, ⟨vs[k], t.b, t.c⟩, heap_set HA2.out 1 _, by rw [HF.out]; simp [Abc.put, g97]⟩
          case measure => simp [intOf]; omega
        · have g97 : ¬ what.data[k] = 97 := h97
          by_cases h98 : what[k] = 98
          · have g98 : what.data[k] = 98 := h98
            rw [h98]
            refine (part_b _ _).mono ?_
            rintro e w3 ⟨rfl, rfl⟩
            go_wp2_with fail
            go_roundw
            case rel => exact ⟨k + 1, by omega, by go_num, hBc.setCell (p := ⟨wc.heap.size, 2, none⟩) (Nat.le_refl _) _, by simp [World.setCell]; omega, ⟨t.a, vs[k], t.c⟩, heap_set HA2.out 2 _, by rw [HF.out]; simp [Abc.put, g98]⟩
            case measure => simp [intOf]; omega
          · have g98 : ¬ what.data[k] = 98 := h98
            have h99 : what[k] = 99 := by
              rcases want_cases HQ.out with rfl | rfl | rfl | rfl
              · have : k = 2 := by
                  have : k < 3 := hlt2
                  have : k ≠ 0 := by rintro rfl; exact h97 rfl
                  have : k ≠ 1 := by rintro rfl; exact h98 rfl
                  omega
                subst this; rfl
              · have : k = 0 := by have : k < 1 := hlt2; omega
                subst this; exact absurd rfl h98
              · have : k < 2 := hlt2
                have : k ≠ 0 := by rintro rfl; exact h97 rfl
                have : k ≠ 1 := by rintro rfl; exact h98 rfl
                omega
              · exact absurd hlt2 (by show ¬ k < 0; omega)
            rw [h99]
            refine (part_c _ _).mono ?_
            rintro e w3 ⟨rfl, rfl⟩
            go_wp2_with fail
            go_roundw
            case rel => exact ⟨k + 1, by omega, by go_num, hBc.setCell (p := ⟨wc.heap.size, 3, none⟩) (Nat.le_refl _) _, by simp [World.setCell]; omega, ⟨t.a, t.b, vs[k]⟩, heap_set HA2.out 3 _, by rw [HF.out]; simp [Abc.put, g97, g98]⟩
            case measure => simp [intOf]; omega
      · have hke : k = xs.length := by omega
        have hact := HA.out
        have ha0 := cell_of hact 0
        have ha1 := cell_of hact 1
        have ha2 := cell_of hact 2
        have ha3 := cell_of hact 3
        have hres : wr.heap[w.heap.size]? = _ := (hBr.block _ (Nat.lt_of_lt_of_le (by omega) hB1.size)).trans ((hB1.block _ (by omega)).trans HR0.out)
        have hr0 := cell_of hres 0
        have hr1 := cell_of hres 1
        have hr2 := cell_of hres 2
        have hr3 := cell_of hres 3
        have hrf := free_of hres
        simp only [List.getElem?_toArray, List.getElem?_cons_zero, List.getElem?_cons_succ] at ha0 ha1 ha2 ha3 hr0 hr1 hr2 hr3
        have HKE := Lib.hid hke
        clear hke hact hres
        go_wp2_with fail
        have hfin : fill what.data.toList vs ⟨0, 0, 0⟩ = t := by
          rw [HT.out, List.take_of_length_le (by show what.data.toList.length ≤ k; rw [Array.length_toList]; have : what.data.size = what.size := rfl; omega), List.take_of_length_le (by have := HVL.out; omega)]
        have hBw : Below w.heap.size w wr := (hB0.trans (hB1.mono (by omega))).trans (hBr.mono (by have := hB1.size; omega))
        refine bodyPost_ret (v := .tuple #[.agg #[.string x, .int .i64 t.a, .int .i64 t.b, .int .i64 t.c], .nilIface]) (by simp [results, Tryd.results14, go_sem, hr0, hr1, hr2, hr3]) rfl ⟨by rw [hfin], ?_⟩
        exact (((hBw.setCell (p := ⟨w.heap.size, 0, none⟩) (Nat.le_refl _) _).setCell (p := ⟨w.heap.size, 1, none⟩) (Nat.le_refl _) _).setCell (p := ⟨w.heap.size, 2, none⟩) (Nat.le_refl _) _).setCell (p := ⟨w.heap.size, 3, none⟩) (Nat.le_refl _) _
end Go.Proofs.YtedgoagonagdjaaDoor
