/-
  grid.sized: a map's size and its signs.
-/
import Derived.Test.YtagighbfodlcjaaDoorVars
import Derived.Lib.OthersKept
import Derived.Lib.TrimU
import Derived.Laws.RangeString
import Derived.Shelf.GgClosure.StringsIndexFunc
namespace Go.Proofs.YtagighbfodlcjaaDoor
open Go.RowKit

def isSign (b : UInt8) : Prop := b = 35 ∨ b = 46 ∨ b = 67 ∨ b = 80
instance (b : UInt8) : Decidable (isSign b) := inferInstanceAs (Decidable (_ ∨ _))
def signsOnly (l : List UInt8) : Prop := ∀ b ∈ l, isSign b
instance (l : List UInt8) : Decidable (signsOnly l) := inferInstanceAs (Decidable (∀ b ∈ l, isSign b))

def sizedP (W H : Int) (s : ByteArray) : Prop := 1 ≤ W ∧ W ≤ 8 ∧ 1 ≤ H ∧ H ≤ 8 ∧ (s.size : Int) = W * H ∧ signsOnly s.data.toList
instance (W H : Int) (s : ByteArray) : Decidable (sizedP W H s) := by unfold sizedP; infer_instance
def sizedB (W H : Int) (s : ByteArray) : Bool := decide (sizedP W H s)

theorem side_any (n : Int) (w : World) : Calls Tryd.prog 52 #[.int .i64 n] w fun e w' => e = .returned (.bool (decide (1 ≤ n ∧ n ≤ 8))) ∧ w = w' := by
  by_cases h1 : 1 ≤ n
  · by_cases h2 : n ≤ 8
    · rw [show decide (1 ≤ n ∧ n ≤ 8) = true from decide_eq_true ⟨h1, h2⟩]
      go_enter Tryd.func52, Tryd.ntmps52
      go_wp2
      go_ret
      exact ⟨rfl, rfl⟩
    · rw [show decide (1 ≤ n ∧ n ≤ 8) = false from decide_eq_false (by omega)]
      have h2' : 8 < n := by omega
      go_enter Tryd.func52, Tryd.ntmps52
      go_wp2
      go_ret
      exact ⟨rfl, rfl⟩
  · rw [show decide (1 ≤ n ∧ n ≤ 8) = false from decide_eq_false (by omega)]
    have h1' : n < 1 := by omega
    go_enter Tryd.func52, Tryd.ntmps52
    go_wp2
    go_ret
    exact ⟨rfl, rfl⟩

theorem sign_in (b : UInt8) (h : isSign b) (w : World) : Calls Tryd.prog 55 #[.int .i32 (b.toNat : Int)] w fun e w' => e = .returned (.bool false) ∧ w = w' := by
  have hb : b.toNat < 128 := by rcases h with rfl | rfl | rfl | rfl <;> decide
  have hi : decide (0 ≤ Lib.indexByte [35, 46, 67, 80] ((b.toNat : Int).toNat.toUInt8)) = true := by rcases h with rfl | rfl | rfl | rfl <;> decide
  have hc := Tryd.strings_ContainsRune_ascii ⟨#[35, 46, 67, 80]⟩ (b.toNat : Int) w (by omega) (by omega)
  rw [show (⟨#[35, 46, 67, 80]⟩ : ByteArray).data.toList = [35, 46, 67, 80] from rfl, hi] at hc
  clear hi
  go_enter Tryd.func55, Tryd.ntmps55
  go_wp2_with (refine hc.mono ?_; rintro e w' ⟨rfl, rfl⟩)
  go_ret
  exact ⟨rfl, rfl⟩

set_option maxRecDepth 100000 in
set_option maxHeartbeats 1000000 in
theorem indexFunc_signs (s : ByteArray) (hs : signsOnly s.data.toList) (w : World) :
    Calls Tryd.prog 93 #[.string s, .func (.func 55) #[] #[], .bool true] w fun e w' => e = .returned (.int .i64 (-1)) ∧ Below w.heap.size w w' := by
  go_enter Tryd.func93, Tryd.ntmps93
  go_wp2
  go_loopg [] s.size (fun gf wx => ∃ pos : Nat, wx.heap[w.heap.size]? = some (.stringIter s pos) ∧ Below w.heap.size w wx ∧ s.size ≤ pos + gf)
  case atStart => exact ⟨0, World.iter_heap w s 0, (Below.refl _ w).alloc (Nat.le_refl _) _, by omega⟩
  case round =>
    obtain ⟨pos, hit, hbw, hfu⟩ := hrel
    by_cases hps : pos < s.size
    · obtain ⟨g', rfl⟩ : ∃ g', gk = g' + 1 := ⟨gk - 1, by omega⟩
      have hsg : isSign (s[pos]'hps) := hs _ (by rw [Array.mem_toList_iff]; exact Array.getElem_mem _)
      have ha : (s[pos]'hps).toNat < 128 := by rcases hsg with h | h | h | h <;> rw [h] <;> decide
      have hd := decode_ascii s pos hps ha
      have hnx : ∀ ty, (Instr.next (.pointer (some ⟨w.heap.size, 0, none⟩)) true ty).run Tryd.prog wr = _ := fun ty => Lib.run_next_any_at wr w.heap.size s pos ty hit hps
      rw [hd] at hnx
      have hit2 := Lib.iterAt_heap wr w.heap.size s pos (pos + 1) hit
      have hbw2 := Lib.below_iterAt hbw (k := w.heap.size) (Nat.le_refl _) s (pos + 1)
      obtain ⟨W, hWd⟩ : ∃ W, wr.iterAt w.heap.size s (pos + 1) = W := ⟨_, rfl⟩
      simp only [hWd] at hnx hit2 hbw2
      have cS := sign_in (s[pos]'hps) hsg W
      clear hd hsg
      go_wp2_with (refine cS.mono ?_; rintro e W' ⟨rfl, rfl⟩)
      go_roundg g'
      case measure => omega
      case rel => exact ⟨pos + 1, hit2, hbw2, by omega⟩
    · have hnx : ∀ ty, (Instr.next (.pointer (some ⟨w.heap.size, 0, none⟩)) true ty).run Tryd.prog wr = _ := fun ty => Lib.run_next_end_at wr w.heap.size s pos ty hit hps
      go_wp2
      go_ret
      exact ⟨rfl, hbw⟩

theorem containsFunc_signs (s : ByteArray) (hs : signsOnly s.data.toList) (w : World) :
    Calls Tryd.prog 54 #[.string s, .func (.func 55) #[] #[]] w fun e w' => e = .returned (.bool false) ∧ Below w.heap.size w w' := by
  have h1 : Calls Tryd.prog 78 #[.string s, .func (.func 55) #[] #[]] w fun e w' => e = .returned (.int .i64 (-1)) ∧ Below w.heap.size w w' := by
    go_enter Tryd.func78, Tryd.ntmps78
    go_wp2_with (refine (indexFunc_signs s hs w).mono ?_; rintro e w' ⟨rfl, hb⟩)
    go_ret
    exact ⟨rfl, hb⟩
  go_enter Tryd.func54, Tryd.ntmps54
  go_wp2_with (refine h1.mono ?_; rintro e w' ⟨rfl, hb⟩)
  go_ret
  exact ⟨rfl, hb⟩

theorem sign_cut (b : UInt8) : ([35, 46, 67, 80] : List UInt8).contains b = true ↔ isSign b := by
  rw [List.contains_iff_mem]
  simp [isSign]

theorem drop_nil {p : UInt8 → Bool} : ∀ {l : List UInt8}, l.dropWhile p = [] ↔ ∀ b ∈ l, p b = true
  | [] => by simp
  | a :: l => by
    rw [List.dropWhile_cons]
    by_cases h : p a = true
    · rw [if_pos h, drop_nil]
      simp [h]
    · rw [if_neg h]
      simp [h]

theorem trim_signs (l : List UInt8) : Lib.trimS l [35, 46, 67, 80] = [] ↔ signsOnly l := by
  have e : ∀ m : List UInt8, (∀ b ∈ m, ([35, 46, 67, 80] : List UInt8).contains b = true) ↔ signsOnly m := fun m => ⟨fun h b hb => (sign_cut b).1 (h b hb), fun h b hb => (sign_cut b).2 (h b hb)⟩
  unfold Lib.trimS Lib.trimLeftS Lib.trimRightS
  rw [drop_nil, e]
  constructor
  · intro h
    -- what is left of the right end's trim ends in no sign, or is empty
    have h2 : ((l.reverse.dropWhile (([35, 46, 67, 80] : List UInt8).contains ·))) = [] := by
      cases hd : l.reverse.dropWhile (([35, 46, 67, 80] : List UInt8).contains ·) with
      | nil => rfl
      | cons a m =>
        exfalso
        have h3 := List.head?_dropWhile_not (([35, 46, 67, 80] : List UInt8).contains ·) l.reverse
        rw [hd] at h3
        have h4 : isSign a := h a (by rw [hd]; simp)
        have h5 := (sign_cut a).2 h4
        simp only [List.head?_cons] at h3
        rw [h5] at h3
        cases h3
    rw [drop_nil] at h2
    exact (e l).1 fun b hb => h2 b (by simpa using hb)
  · intro h b hb
    have h2 : l.reverse.dropWhile (([35, 46, 67, 80] : List UInt8).contains ·) = [] := drop_nil.2 fun b hb => (e l).2 h b (by simpa using hb)
    rw [h2] at hb
    simp at hb

theorem side_yes (n : Int) (h : 1 ≤ n ∧ n ≤ 8) (w : World) : Calls Tryd.prog 52 #[.int .i64 n] w fun e w' => e = .returned (.bool true) ∧ w = w' := by
  have := side_any n w
  rwa [show decide (1 ≤ n ∧ n ≤ 8) = true from decide_eq_true h] at this
theorem side_no (n : Int) (h : ¬ (1 ≤ n ∧ n ≤ 8)) (w : World) : Calls Tryd.prog 52 #[.int .i64 n] w fun e w' => e = .returned (.bool false) ∧ w = w' := by
  have := side_any n w
  rwa [show decide (1 ≤ n ∧ n ≤ 8) = false from decide_eq_false h] at this

theorem trim_any (s : ByteArray) (w : World) (hs : s.size ≤ 9223372036854775807) :
    Calls Tryd.prog 53 #[.string s, .string ⟨#[35, 46, 67, 80]⟩] w fun e w' => (∃ t : ByteArray, e = .returned (.string t) ∧ (t.toList = [] ↔ signsOnly s.data.toList)) ∧ Below w.heap.size w w' :=
  (Tryd.strings_Trim_laid s ⟨#[35, 46, 67, 80]⟩ w hs (by decide) (ascii_of_all (by decide))).mono fun e w' ⟨he, hb⟩ => ⟨⟨_, he, by
    rw [Lib.toList_data]; exact trim_signs s.data.toList⟩, hb⟩

set_option maxRecDepth 100000 in
set_option maxHeartbeats 1000000 in
theorem sized_any (W H : Int) (s : ByteArray) (hs : s.size ≤ 9223372036854775807) (w : World) :
    Calls Tryd.prog 31 #[.agg #[.int .i64 W, .int .i64 H, .string s]] w fun e w' => e = .returned (.bool (sizedB W H s)) ∧ Below w.heap.size w w' := by
  have no : ¬ sizedP W H s → sizedB W H s = false := fun h => decide_eq_false h
  obtain ⟨W1, hW1⟩ : ∃ W1, w.alloc (.cells #[.int .i64 W, .int .i64 H, .string s] 29) = W1 := ⟨_, rfl⟩
  have hB1 : Below w.heap.size w W1 := by rw [← hW1]; exact (Below.refl _ w).alloc (Nat.le_refl _) _
  have hb1 : W1.heap[w.heap.size]? = some (.cells #[.int .i64 W, .int .i64 H, .string s] 29) := by rw [← hW1]; exact heap_new _ _
  have hl1 : w.heap.size < W1.heap.size := by rw [← hW1]; simp
  have q0 := cell_of hb1 0
  have q1 := cell_of hb1 1
  have q2 := cell_of hb1 2
  simp only [List.getElem?_toArray, List.getElem?_cons_zero, List.getElem?_cons_succ] at q0 q1 q2
  have HB := Lib.hid hb1
  clear hb1
  by_cases hW : 1 ≤ W ∧ W ≤ 8
  · by_cases hH : 1 ≤ H ∧ H ≤ 8
    · have hwr : wrap64 (W * H) = W * H := by
        have h1 : W * H ≤ 8 * 8 := Int.mul_le_mul hW.2 hH.2 (by omega) (by omega)
        have h2 : 1 * 1 ≤ W * H := Int.mul_le_mul hW.1 hH.1 (by omega) (by omega)
        unfold wrap64; omega
      obtain ⟨p, hp⟩ : ∃ p, W * H = p := ⟨_, rfl⟩
      have hp' := Lib.hid hp
      rw [hp] at hwr
      by_cases hsz : (s.size : Int) = p
      · have hsz' : ((s.size : Int) == p) = true := by rw [hsz]; simp
        go_enter Tryd.func31, Tryd.ntmps31
        go_wp2_with (first
          | ((with_reducible refine (side_yes W hW _).mono ?_); rintro e w' ⟨rfl, rfl⟩)
          | ((with_reducible refine (side_yes H hH _).mono ?_); rintro e w' ⟨rfl, rfl⟩))
        refine (trim_any s W1 hs).mono ?_
        rintro e w2 ⟨⟨t, rfl, ht⟩, hB2⟩
        have q3 := (hB2.cell (p := ⟨w.heap.size, 2, none⟩) hl1).trans q2
        by_cases hsg : signsOnly s.data.toList
        · have ht1 := ht.2 hsg
          have ht2 : (!t.toList.isEmpty) = false := by rw [ht1]; rfl
          have ht3 : t.toList.isEmpty = true := by rw [ht1]; rfl
          have hyes : sizedB W H s = true := decide_eq_true ⟨hW.1, hW.2, hH.1, hH.2, by rw [hp'.out]; exact hsz, hsg⟩
          clear ht hsz hsz' no q0 q1 q2
          go_wp2_with fail
          refine (containsFunc_signs s hsg _).mono ?_
          rintro e w3 ⟨rfl, hB3⟩
          go_wp2_with fail
          go_ret
          exact ⟨by rw [hyes] <;> rfl, hB1.trans ((hB2.mono hB1.size).trans (hB3.mono (Nat.le_trans hB1.size hB2.size)))⟩
        · have hno : sizedB W H s = false := no fun h => hsg h.2.2.2.2.2
          have ht1 : ¬ t.toList = [] := fun h => hsg (ht.1 h)
          have ht2 : (!t.toList.isEmpty) = true := by rw [List.isEmpty_eq_false_iff.2 ht1]; rfl
          have ht3 : t.toList.isEmpty = false := List.isEmpty_eq_false_iff.2 ht1
          clear ht hsz hsz' no q0 q1 q2
          go_wp2_with fail
          go_ret
          exact ⟨by rw [hno] <;> rfl, hB1.trans (hB2.mono hB1.size)⟩
      · have hsz' : ((s.size : Int) == p) = false := by rw [beq_eq_false_iff_ne]; exact hsz
        have hno : sizedB W H s = false := no fun h => hsz (by rw [h.2.2.2.2.1]; exact hp'.out)
        clear no
        go_enter Tryd.func31, Tryd.ntmps31
        go_wp2_with (first
          | ((with_reducible refine (side_yes W hW _).mono ?_); rintro e w' ⟨rfl, rfl⟩)
          | ((with_reducible refine (side_yes H hH _).mono ?_); rintro e w' ⟨rfl, rfl⟩))
        go_ret
        exact ⟨by rw [hno] <;> rfl, hB1⟩
    · have hno : sizedB W H s = false := no fun h => hH ⟨h.2.2.1, h.2.2.2.1⟩
      clear no
      go_enter Tryd.func31, Tryd.ntmps31
      go_wp2_with (first
        | ((with_reducible refine (side_yes W hW _).mono ?_); rintro e w' ⟨rfl, rfl⟩)
        | ((with_reducible refine (side_no H hH _).mono ?_); rintro e w' ⟨rfl, rfl⟩))
      go_ret
      exact ⟨by rw [hno] <;> rfl, hB1⟩
  · have hno : sizedB W H s = false := no fun h => hW ⟨h.1, h.2.1⟩
    clear no
    go_enter Tryd.func31, Tryd.ntmps31
    go_wp2_with ((with_reducible refine (side_no W hW _).mono ?_); rintro e w' ⟨rfl, rfl⟩)
    go_ret
    exact ⟨by rw [hno] <;> rfl, hB1⟩
end Go.Proofs.YtagighbfodlcjaaDoor
