/-
  slices.Chunk of bytes: its iterator's contract, where all pieces are of one size.
-/
import Derived.Test.YtagighbfodlcjaaDoorVars
import Derived.RangeFuncFrom
import Derived.RangeFuncBound
import Derived.RangeFuncCalls
import Derived.OwnWalkIn
import Derived.TacticsInMore
import Derived.LoopNIn
import Derived.LoopIn
import Derived.Shelf.RegionOpen
import Derived.Laws.Slices
import Derived.WalkLawsBesides
namespace Go.Proofs.YtagighbfodlcjaaDoor
open Go.RowKit Go.Shelf
attribute [local go_sem] Oper.semAt_some

theorem chunk_any (A : Option Addr) (n c : Nat) (k : Int) (hk : 1 ≤ k) (w : World) :
    Calls Tryd.prog 25 #[.slice A n c, .int .i64 k] w fun e w' => e = .returned (.func (.func 43) #[] #[.pointer (some ⟨w.heap.size, 0, none⟩), .pointer (some ⟨w.heap.size + 1, 0, none⟩)]) ∧
      w' = (w.alloc (.cells #[.slice A n c] 53)).alloc (.cells #[.int .i64 k] 3) := by
  go_enter Tryd.func25, Tryd.ntmps25
  go_wp2
  go_ret
  exact ⟨rfl, rfl⟩

set_option maxRecDepth 100000 in
set_option maxHeartbeats 1000000 in
theorem chunk1_in (n : Nat) (hn : 3 ≤ n) (l bs bn gd wd h cap : Nat) (h1 : 1 ≤ wd) (h8 : wd ≤ 8) (hh : h ≤ 8) (hcap : h * wd ≤ cap) (J Jx : List (Fin h) → World → Prop)
    (hJn : ∀ s A A', J s A → Below A.heap.size A A' → J s A')
    (hY : ∀ pre (x : Fin h) A, J pre A → pre.length < h → YieldAt Fence.wide (n - 1) Tryd.prog l #[.slice (some ⟨gd, x.val * wd, none⟩) wd wd] A fun e A' =>
      (e = .returned (.bool true) ∧ J (pre ++ [x]) A' ∧ A'.heap[bs]? = A.heap[bs]? ∧ A'.heap[bn]? = A.heap[bn]?) ∨ (e = .returned (.bool false) ∧ Jx (pre ++ [x]) A'))
    (W : World) (hbs : W.heap[bs]? = some (.cells #[.slice (some ⟨gd, 0, none⟩) (h * wd) cap] 53 (0, 0))) (hbn : W.heap[bn]? = some (.cells #[.int .i64 (wd : Int)] 3 (0, 0))) (h0 : J [] W) :
    CallsIn Fence.wide n Tryd.prog 43 #[.func (.yield l) #[] #[], .pointer (some ⟨bs, 0, none⟩), .pointer (some ⟨bn, 0, none⟩)] W fun e W' => (∃ v, e = .returned v) ∧
      ((∃ ys, ys = List.finRange h ∧ J ys W') ∨ (∃ pre, pre.length ≤ h ∧ Jx pre W')) := by
  refine callsIn_of_wp Tryd.func43 rfl trivial ?_ rfl
  simp only [Tryd.ntmps43, List.size_toArray, List.length_cons, List.length_nil, Nat.reduceAdd, Nat.reduceSub, Array.replicate_succ, Array.replicate_zero, List.push_toArray, List.append_toArray, List.nil_append, List.cons_append]
  gi_wp2
  gi_loopw [4, 5] (fun i _ wr => ∃ k : Nat, i = .int .i64 ((k * wd : Nat) : Int) ∧ k ≤ h ∧ J ((List.finRange h).take k) wr ∧ wr.heap[bs]? = W.heap[bs]? ∧ wr.heap[bn]? = W.heap[bn]?)
    (fun i _ _ => h * wd - (intOf i).toNat)
  case atStart => exact ⟨0, by simp, Nat.zero_le _, h0, rfl, rfl⟩
  case round =>
    obtain ⟨k, e4, hk, hJ, hs1, hn1⟩ := hrel
    have cs := cell_of (hs1.trans hbs) 0
    have cn := cell_of (hn1.trans hbn) 0
    simp only [List.getElem?_toArray, List.getElem?_cons_zero] at cs cn
    obtain ⟨o, ho⟩ : ∃ o, k * wd = o := ⟨_, rfl⟩
    obtain ⟨T, hT⟩ : ∃ T, h * wd = T := ⟨_, rfl⟩
    have hT64 : T ≤ 64 := by rw [← hT]; exact Nat.mul_le_mul hh h8
    have hmx : Tryd.prog.follows .mixedOrders = true := by kernel_rfl
    rw [hT] at cs hcap ⊢
    rw [ho] at e4
    subst e4
    by_cases hlt : k < h
    · have hok : o + wd ≤ T := by
        rw [← ho, ← hT]
        have := Nat.mul_le_mul_right wd (show k + 1 ≤ h by omega)
        rwa [Nat.add_mul, Nat.one_mul] at this
      have hkh := hh
      have he : Tryd.prog.elem 53 = 5 := by simp [Program.elem, Tryd.underlying53]
      have ht : Tryd.prog.underlying 53 = some (.slice (Tryd.prog.elem 53)) := by rw [he]; exact Tryd.underlying53
      have hz : ∀ w, (Go.sizeOf 5).run Tryd.prog w = .ok 1 w := fun w => by kernel_rfl
      have hsl1 : ∀ W, (Instr.slice 53 (.slice (some ⟨gd, 0, none⟩) T cap) (some (.int .i64 (o : Int))) none none).run Tryd.prog W = .ok (.slice (some ⟨gd, o, none⟩) (T - o) (cap - o)) W := fun W => by
        rw [run_slice_l W 53 _ _ _ ht .i64 (o : Int) (by omega) (by omega), he, hz]
        have hne : ¬ cap = o := by omega
        by_cases h0 : o = 0
        · subst h0; simp [Result.andThen, sliced, Addr.add, hne]
        · simp [Result.andThen, sliced, Addr.add, hne, h0]
      have hsl2 : ∀ W, (Instr.slice 53 (.slice (some ⟨gd, 0, none⟩) T cap) (some (.int .i64 (o : Int))) (some (.int .i64 ((o : Int) + wd))) (some (.int .i64 ((o : Int) + wd)))).run Tryd.prog W = .ok (.slice (some ⟨gd, o, none⟩) wd wd) W := fun W => by
        rw [run_slice_lhm W 53 _ _ _ ht .i64 .i64 .i64 (o : Int) ((o : Int) + wd) ((o : Int) + wd) (by omega) (by omega) (by omega) (by omega), he, hz]
        have e1 : ((o : Int) + wd).toNat = o + wd := by omega
        have hw0 : ¬ wd = 0 := by omega
        have e2 : o + wd - o = wd := by omega
        by_cases h0 : o = 0
        · subst h0; simp [Result.andThen, sliced, Addr.add, hw0]
        · simp only [e1, Int.toNat_natCast, Result.andThen, sliced, e2]
          simp [Addr.add, h0, hw0]
      have hcast : ((T - o : Nat) : Int) = (T : Int) - o := by omega
      have hmin : min (wd : Int) ((T : Int) - (o : Int)) = (wd : Int) := by omega
      have hmin2 : min (wd : Int) ((T - o : Nat) : Int) = (wd : Int) := by omega
      have hlen : ((List.finRange h).take k).length < h := by rw [List.length_take, List.length_finRange]; omega
      have hy0 := hY ((List.finRange h).take k) ⟨k, hlt⟩ wr.drew (hJn _ _ _ hJ (Below.refl _ _).drew) hlen
      rw [show (⟨k, hlt⟩ : Fin h).val * wd = o from ho] at hy0
      have htk : (List.finRange h).take (k + 1) = (List.finRange h).take k ++ [⟨k, hlt⟩] := by
        rw [List.take_succ_eq_append_getElem (by rw [List.length_finRange]; exact hlt)]
        simp
      obtain ⟨fn, tmps, assign, body, hy, hR⟩ := hy0
      have hos : ((o : Int) + wd) = (((k + 1) * wd : Nat) : Int) := by rw [Nat.add_mul, ho]; omega
      have HO := Lib.hid ho
      have HT := Lib.hid hT
      have HTK := Lib.hid htk
      have HOS := Lib.hid hos
      have HH := Lib.hid hh
      clear ho hT he ht hz htk hlen hos hcast
      gi_wp2
      gi_region_with_o (fail)
      all_goals
        gi_wp2
        refine ⟨fun _ => by omega, hR.mono ?_⟩
        rintro e W3 (⟨rfl, hJ3, hk3, hk4⟩ | ⟨rfl, hJx3⟩)
        · have cn3 := cell_of (hk4.trans (hn1.trans hbn)) 0
          simp only [List.getElem?_toArray, List.getElem?_cons_zero] at cn3
          gi_wp2
          go_roundw
          case rel => exact ⟨k + 1, by rw [HOS.out], by omega, by rw [HTK.out]; exact hJ3, hk3.trans hs1, hk4.trans hn1⟩
          case measure => simp [intOf]; omega
        · gi_wp2
          refine bodyPost_ret (results_none rfl _ _ _) rfl ?_
          exact ⟨⟨_, rfl⟩, .inr ⟨_, by rw [List.length_append, List.length_take, List.length_finRange]; simp; omega, hJx3⟩⟩
    · obtain rfl : k = h := by omega
      have hTo : T = o := by rw [← hT, ← ho]
      subst hTo
      clear hT ho
      gi_wp2
      go_end0
      exact ⟨⟨_, rfl⟩, .inl ⟨_, rfl, by rw [List.take_of_length_le (by simp)] at hJ; exact hJ⟩⟩
end Go.Proofs.YtagighbfodlcjaaDoor
