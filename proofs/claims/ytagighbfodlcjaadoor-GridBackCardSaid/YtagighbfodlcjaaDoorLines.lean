/-
  strings.Lines: what comes of it, in plain words; its iterator's contract.
-/
import Derived.Test.YtagighbfodlcjaaDoorRange
import Derived.Test.YtagighbfodlcjaaDoorShelf2
import Derived.Test.YtagighbfodlcjaaDoorVars
import Derived.Lib.IndexLaws
import Derived.Lib.Bytealg
import Derived.Shelf.Abstract
import Derived.Shelf.RegionOpen
import Derived.WalkKit
import Derived.OwnWalkIn
import Derived.TacticsInMore
import Derived.LoopNIn
import Derived.LoopIn
namespace Go.Proofs.YtagighbfodlcjaaDoor
open Go.RowKit Go.Shelf
attribute [local go_sem] Oper.semAt_some

def linesL : List UInt8 → List (List UInt8)
  | [] => []
  | x :: t => if x = 10 then [10] :: linesL t else match linesL t with
    | [] => [[x]]
    | l :: ls => (x :: l) :: ls

theorem lines_ne : ∀ {l : List UInt8}, l ≠ [] → ∃ x xs, linesL l = x :: xs
  | x :: t, _ => by
    unfold linesL
    split
    · exact ⟨_, _, rfl⟩
    · split <;> exact ⟨_, _, rfl⟩

theorem lines_cut : ∀ (a b : List UInt8), a ≠ [] → (∀ x ∈ a.dropLast, x ≠ 10) → (a.getLast? = some 10 ∨ b = []) → linesL (a ++ b) = a :: linesL b
  | [x], b, _, _, h => by
    rcases h with h | rfl
    · have hx : x = 10 := by simpa using h
      subst hx
      rfl
    · by_cases hx : x = 10
      · subst hx; rfl
      · simp [linesL, hx]
  | x :: y :: t, b, _, hd, h => by
    have hx : x ≠ 10 := hd x (by simp)
    have ih := lines_cut (y :: t) b (by simp) (fun z hz => hd z (by simp only [List.dropLast_cons_cons]; exact List.mem_cons_of_mem _ hz)) (by rcases h with h | h; exact .inl (by simpa using h); exact .inr h)
    show linesL (x :: ((y :: t) ++ b)) = _
    rw [linesL, if_neg hx, ih]

theorem lines_flat : ∀ l : List UInt8, (linesL l).flatten = l
  | [] => rfl
  | x :: t => by
    have ih := lines_flat t
    unfold linesL
    split
    · rename_i hx; subst hx; simp [ih]
    · split
      · rename_i h0; rw [h0] at ih; simp at ih; subst ih; rfl
      · rename_i l ls h0; rw [h0] at ih; simp at ih ⊢; exact ih

def linesB (s : ByteArray) : List ByteArray := (linesL s.data.toList).map fun l => ⟨l.toArray⟩

open Classical in
noncomputable def boxLeft (bx : Nat) (W : World) : Nat := match W.cell? ⟨bx, 0, none⟩ with
  | some (.string s) => s.size
  | _ => 0


theorem ext_list (s : ByteArray) (a b : Nat) : (s.extract a b).data.toList = (s.data.toList.take b).drop a := by
  simp [ByteArray.data_extract, List.extract_eq_take_drop, List.drop_take]

theorem size_list (s : ByteArray) : s.size = s.data.toList.length := by rw [Array.length_toList]; rfl

theorem linesB_none {s : ByteArray} (hs : 0 < s.size) (h : Lib.indexByte s.data.toList 10 < 0) : linesB s = [s] := by
  have h1 : Lib.indexByte s.data.toList 10 = -1 := by have := Lib.indexByte_ge s.data.toList 10; omega
  have h2 := Lib.indexByte_none h1
  have hne : s.data.toList ≠ [] := by intro e; rw [size_list, e] at hs; simp at hs
  have h3 := lines_cut s.data.toList [] hne (fun x hx e => by
    obtain ⟨k, hk⟩ := List.getElem?_of_mem (List.dropLast_subset _ hx)
    exact h2 k (by rw [← e]; exact hk)) (.inr rfl)
  rw [List.append_nil] at h3
  simp [linesB, h3, linesL]

theorem linesB_some {s : ByteArray} {o : Nat} (h : Lib.indexByte s.data.toList 10 = o) : o + 1 ≤ s.size ∧ linesB s = s.extract 0 (o + 1) :: linesB (s.extract (o + 1) s.size) := by
  obtain ⟨h1, h2⟩ := Lib.indexByte_some h
  have hlt : o < s.data.toList.length := (List.getElem?_eq_some_iff.1 h1).1
  have hsz : s.size = s.data.toList.length := size_list s
  refine ⟨by omega, ?_⟩
  have hl : (s.data.toList.take (o + 1)) ++ (s.data.toList.drop (o + 1)) = s.data.toList := List.take_append_drop _ _
  have htk : s.data.toList.take (o + 1) = s.data.toList.take o ++ [10] := by rw [List.take_add_one, h1]; rfl
  have h3 := lines_cut (s.data.toList.take (o + 1)) (s.data.toList.drop (o + 1)) (by rw [htk]; simp) (fun x hx e => by
    rw [htk, List.dropLast_concat] at hx
    obtain ⟨k, hk, hx⟩ := List.getElem_of_mem hx
    rw [List.getElem_take] at hx
    rw [List.length_take] at hk
    exact h2 k (by omega) (by rw [List.getElem?_eq_getElem (by omega), hx, e])) (.inl (by rw [htk]; simp))
  rw [hl] at h3
  have e1 : (⟨(s.data.toList.take (o + 1)).toArray⟩ : ByteArray) = s.extract 0 (o + 1) := by
    apply ByteArray.ext
    apply Array.toList_inj.1
    rw [ext_list]; rfl
  have e2 : (s.extract (o + 1) s.size).data.toList = s.data.toList.drop (o + 1) := by rw [ext_list, hsz, List.take_length]
  rw [linesB, h3, linesB, e2, List.map_cons, e1]

theorem linesB_nil {s : ByteArray} (hs : s.size = 0) : linesB s = [] := by
  have : s.data.toList = [] := List.eq_nil_of_length_eq_zero (by rw [← size_list]; exact hs)
  simp [linesB, this, linesL]

theorem box_left {bx : Nat} {W : World} {s : ByteArray} (h : W.cell? ⟨bx, 0, none⟩ = some (.string s)) : boxLeft bx W = s.size := by rw [boxLeft, h]

set_option maxRecDepth 100000 in
set_option maxHeartbeats 1000000 in
theorem lines1_in (n : Nat) (hn : 3 ≤ n) (l bx : Nat) (s0 : ByteArray) (J Jx : List ByteArray → World → Prop)
    (hJB : ∀ s A v, J s A → J s (A.setCell ⟨bx, 0, none⟩ v)) (hJn : ∀ s A A', J s A → Below A.heap.size A A' → J s A')
    (hY : ∀ pre x A, J pre A → (∃ y, y <+: linesB s0 ∧ y = pre ++ [x]) → YieldAt Fence.wide (n - 1) Tryd.prog l #[.string x] A fun e A' =>
      (e = .returned (.bool true) ∧ J (pre ++ [x]) A' ∧ A'.heap[bx]? = A.heap[bx]?) ∨ (e = .returned (.bool false) ∧ Jx (pre ++ [x]) A'))
    (W : World) (hbx : W.heap[bx]? = some (.cells #[.string s0] 9 (0, 0))) (hs : s0.size ≤ 1000000) (h0 : J [] W) :
    CallsIn Fence.wide n Tryd.prog 49 #[.func (.yield l) #[] #[], .pointer (some ⟨bx, 0, none⟩)] W fun e W' => (∃ v, e = .returned v) ∧
      ((∃ ys, ys = linesB s0 ∧ J ys W') ∨ (∃ pre, pre <+: linesB s0 ∧ Jx pre W')) := by
  refine callsIn_of_wp Tryd.func49 rfl trivial ?_ rfl
  simp only [Tryd.ntmps49, List.size_toArray, List.length_cons, List.length_nil, Nat.reduceAdd, Nat.reduceSub, Array.replicate_succ, Array.replicate_zero, List.push_toArray, List.append_toArray, List.nil_append, List.cons_append]
  gi_wp2
  gi_loopw [3, 4] (fun p i wr => ∃ (pre : List ByteArray) (s : ByteArray), s.size ≤ 1000000 ∧ wr.heap[bx]? = some (.cells #[.string s] 9 (0, 0)) ∧ linesB s0 = pre ++ linesB s ∧ J pre wr)
    (fun p i wr => boxLeft bx wr)
  case atStart => exact ⟨[], s0, hs, hbx, rfl, h0⟩
  case round =>
    obtain ⟨pre, s, hsz, hb, hpre, hJs⟩ := hrel
    have hc := cell_of hb 0
    have hf := free_of hb 0
    simp only [List.getElem?_toArray, List.getElem?_cons_zero] at hc
    by_cases hz : s.size = 0
    · gi_wp2
      go_end0
      refine ⟨⟨_, rfl⟩, .inl ⟨pre, ?_, hJs⟩⟩
      rw [hpre, linesB_nil hz, List.append_nil]
    · cases hi : Lib.indexByte s.data.toList 10 with
      | negSucc o =>
        have hl := linesB_none (s := s) (by omega) (by rw [hi]; omega)
        have hi' : (Lib.indexByte s.data.toList (10 : Int).toNat.toUInt8) = Int.negSucc o := hi
        obtain ⟨W1, hW1⟩ : ∃ W1, wr.setCell ⟨bx, 0, none⟩ (.string ⟨#[]⟩) = W1 := ⟨_, rfl⟩
        have hb1 : W1.heap[bx]? = some (.cells #[.string ⟨#[]⟩] 9 (0, 0)) := by rw [← hW1]; exact heap_set hb 0 _
        have hJ1 : J pre W1 := by rw [← hW1]; exact hJB _ _ _ hJs
        obtain ⟨fn, tmps, assign, body, hy, hR⟩ := hY pre s W1 hJ1 ⟨_, by rw [hpre, hl]; exact List.prefix_refl _, rfl⟩
        gi_wp2_with (refine ⟨trivial, fun _ => by omega, ?_⟩; refine (callsIn_wide.2 (Tryd.strings_IndexByte s 10 wr)).mono ?_; rintro e w1 ⟨rfl, rfl⟩; rw [hi'])
        all_goals first | (exfalso; omega) | skip
        refine ⟨fun _ => by omega, hR.mono ?_⟩
        rintro e W3 (⟨rfl, hJ3, hk3⟩ | ⟨rfl, hJx3⟩)
        · gi_wp2
          go_roundw
          case rel => exact ⟨pre ++ [s], ⟨#[]⟩, by decide, hk3.trans hb1, by rw [hpre, hl, linesB_nil rfl, List.append_nil], hJ3⟩
          case measure => rw [box_left hc, box_left (cell_of (hk3.trans hb1) 0)]; show 0 < _; omega
        · gi_wp2
          refine bodyPost_ret (results_none rfl _ _ _) rfl ?_
          exact ⟨⟨_, rfl⟩, .inr ⟨pre ++ [s], by rw [hpre, hl]; exact List.prefix_refl _, hJx3⟩⟩
      | ofNat o =>
        obtain ⟨ho, hl⟩ := linesB_some (s := s) (o := o) (by rw [hi]; rfl)
        have hi' : (Lib.indexByte s.data.toList (10 : Int).toNat.toUInt8) = (o : Int) := hi
        obtain ⟨W1, hW1⟩ : ∃ W1, wr.drew.setCell ⟨bx, 0, none⟩ (.string (s.extract (o + 1) s.size)) = W1 := ⟨_, rfl⟩
        have hb1 : W1.heap[bx]? = some (.cells #[.string (s.extract (o + 1) s.size)] 9 (0, 0)) := by rw [← hW1]; exact heap_set (w := wr.drew) hb 0 _
        have hJ1 : J pre W1 := by rw [← hW1]; exact hJB _ _ _ (hJn _ _ _ hJs (Below.refl _ _).drew)
        obtain ⟨fn, tmps, assign, body, hy, hR⟩ := hY pre (s.extract 0 (o + 1)) W1 hJ1 ⟨_, by rw [hpre, hl]; exact ⟨linesB (s.extract (o + 1) s.size), by simp⟩, rfl⟩
        have hmx : Tryd.prog.follows .mixedOrders = true := by kernel_rfl
        have hw1 : IntKind.i64.wrap ((o : Int) + 1) = ((o + 1 : Nat) : Int) := by simp [IntKind.wrap, IntKind.bits, IntKind.signed]; omega
        have h0' : (0 : Int) ≤ (o : Int) + 1 := by omega
        have h3' : (o : Int) < (s.size : Int) := by omega
        have h4' : o + 1 ≤ s.size := ho
        have h5' : o < s.size := ho
        have h2' : ((o + 1 : Nat) : Int) ≤ (s.size : Int) := by omega
        gi_wp2_with (refine ⟨trivial, fun _ => by omega, ?_⟩; refine (callsIn_wide.2 (Tryd.strings_IndexByte s 10 wr)).mono ?_; rintro e w1 ⟨rfl, rfl⟩; rw [hi'])
        all_goals first | (exfalso; omega) | skip
        gi_region_with_o (fail)
        all_goals
          gi_wp2
          refine ⟨fun _ => by omega, hR.mono ?_⟩
          rintro e W3 (⟨rfl, hJ3, hk3⟩ | ⟨rfl, hJx3⟩)
          · gi_wp2
            go_roundw
            case rel => exact ⟨pre ++ [s.extract 0 (o + 1)], s.extract (o + 1) s.size, by rw [ByteArray.size_extract]; omega, hk3.trans hb1, by rw [hpre, hl]; simp, hJ3⟩
            case measure => rw [box_left hc, box_left (cell_of (hk3.trans hb1) 0), ByteArray.size_extract]; omega
          · gi_wp2
            refine bodyPost_ret (results_none rfl _ _ _) rfl ?_
            exact ⟨⟨_, rfl⟩, .inr ⟨pre ++ [s.extract 0 (o + 1)], by rw [hpre, hl]; exact ⟨linesB (s.extract (o + 1) s.size), by simp⟩, hJx3⟩⟩

theorem lines_any (s : ByteArray) (w : World) :
    Calls Tryd.prog 29 #[.string s] w fun e w' => e = .returned (.func (.func 49) #[] #[.pointer (some ⟨w.heap.size, 0, none⟩)]) ∧ w' = w.alloc (.cells #[.string s] 9) := by
  go_enter Tryd.func29, Tryd.ntmps29
  go_wp2
  go_ret
  exact ⟨rfl, rfl⟩

theorem lines_seq (n : Nat) (hn : 3 ≤ n) (bx : Nat) (s : ByteArray) (hs : s.size ≤ 1000000) (w : World) (hbx : w.heap[bx]? = some (.cells #[.string s] 9 (0, 0))) :
    SeqBox Fence.wide n Tryd.prog 49 #[.pointer (some ⟨bx, 0, none⟩)] (fun x : ByteArray => #[Value.string x]) bx (fun xs => xs = linesB s) (fun pre => pre <+: linesB s) w :=
  fun l J Jx W hW hJB hJn hY h0 => lines1_in n hn l bx s J Jx hJB hJn hY W ((hW.block _ (Array.getElem?_eq_some_iff.1 hbx).1).trans hbx) hs h0
end Go.Proofs.YtagighbfodlcjaaDoor
