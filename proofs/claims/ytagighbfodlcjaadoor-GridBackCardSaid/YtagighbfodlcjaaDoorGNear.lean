/-
  grid: a cell that is open; its open neighbours.
-/
import Derived.Test.YtagighbfodlcjaaDoorGSized
import Derived.Test.YtagighbfodlcjaaDoorGReach
import Derived.RangeFuncBox
import Derived.RangeFuncNested
import Derived.Maps.AppendAt
import Derived.Deep.AppendLies
import Derived.OwnWalk
namespace Go.Proofs.YtagighbfodlcjaaDoor
open Go.RowKit

def openZ (s : ByteArray) (c : Int) : Bool := decide (0 ≤ c) && openB s.data.toList c.toNat

theorem openB_at (s : ByteArray) (n : Nat) (h : n < s.size) : openB s.data.toList n = (s[n]'h != 35) := by
  unfold openB
  rw [List.getElem?_eq_getElem (by rw [Array.length_toList]; exact h), Array.getElem_toList]
  rfl

theorem openB_far (s : ByteArray) (n : Nat) (h : s.size ≤ n) : openB s.data.toList n = false := by
  unfold openB
  rw [List.getElem?_eq_none (by rw [Array.length_toList]; exact h)]

theorem open_any (W H : Int) (s : ByteArray) (c : Int) (w : World) :
    Calls Tryd.prog 42 #[.agg #[.int .i64 W, .int .i64 H, .string s], .int .i64 c] w fun e w' => e = .returned (.bool (openZ s c)) ∧ Below w.heap.size w w' := by
  have hfin : Below w.heap.size w (w.alloc (.cells #[.int .i64 W, .int .i64 H, .string s] 29)) := (Below.refl _ w).alloc (Nat.le_refl _) _
  by_cases h0 : 0 ≤ c
  · obtain ⟨n, rfl⟩ := Int.eq_ofNat_of_zero_le h0
    by_cases h1 : n < s.size
    · by_cases h2 : s[n]'h1 = 35
      · have hv : openZ s (n : Int) = false := by simp [openZ, openB_at s n h1, h2]
        have hb : (((s[n]'h1).toNat : Int) != 35) = false := by rw [h2]; rfl
        rw [hv]
        go_enter Tryd.func42, Tryd.ntmps42
        go_wp2_with fail
        go_ret
        exact ⟨rfl, hfin⟩
      · have hv : openZ s (n : Int) = true := by simp [openZ, openB_at s n h1, h2]
        have hb : (((s[n]'h1).toNat : Int) != 35) = true := by
          rw [bne_iff_ne]
          intro e
          apply h2
          apply UInt8.toNat_inj.1
          show _ = 35
          omega
        rw [hv]
        go_enter Tryd.func42, Tryd.ntmps42
        go_wp2_with fail
        go_ret
        exact ⟨rfl, hfin⟩
    · have hv : openZ s (n : Int) = false := by simp [openZ, openB_far s n (by omega)]
      have h1' : s.size ≤ n := by omega
      rw [hv]
      go_enter Tryd.func42, Tryd.ntmps42
      go_wp2_with fail
      go_ret
      exact ⟨rfl, hfin⟩
  · have hv : openZ s c = false := by simp [openZ, h0]
    rw [hv]
    go_enter Tryd.func42, Tryd.ntmps42
    go_wp2_with fail
    go_ret
    exact ⟨rfl, hfin⟩

theorem infoInt : (Tryd.prog.info? 3).map (fun i => (i.zero, i.size, i.bytes)) = some (some (.int .i64 0), 1, 8) := by kernel_rfl

/-- the map's box, and that of what has been found -/
structure NearS (bm : Nat) (Wd H : Int) (s : ByteArray) (xs : List Int) (W : World) : Prop where
  m : W.heap[bm]? = some (.cells #[.int .i64 Wd, .int .i64 H, .string s] 29)
  out : ∃ v, Boxed W (bm + 1) 40 v ∧ W.ownsRow (bm + 1) 3 1 v xs.length (xs.map (Value.int .i64))

theorem own_low {W W' : World} {base : Nat} {e : TypeId} {size : Nat} {v : Value} {k : Nat} {xs : List Value} (h : W.ownsRow base e size v k xs) (hb : Below W.heap.size W W') : W'.ownsRow base e size v k xs :=
  h.kept ⟨hb.os, hb.tape, hb.output, hb.size, fun k hk (_ : some k ≠ none) => hb.block k hk⟩ (by cases v.ownBlock <;> simp)

theorem NearS.below {bm : Nat} {Wd H : Int} {s : ByteArray} {xs : List Int} {W W' : World} (h : NearS bm Wd H s xs W) (hb : Below W.heap.size W W') : NearS bm Wd H s xs W' := by
  obtain ⟨v, h1, h2⟩ := h.out
  exact ⟨(hb.block bm (Array.getElem?_eq_some_iff.1 h.m).1).trans h.m, v, (hb.block _ h1.lt).trans h1, own_low h2 hb⟩

def addTo (s : ByteArray) (xs : List Int) (n : Int) (is : Bool) : List Int := if is && openZ s n then xs ++ [n] else xs

set_option maxRecDepth 100000 in
set_option maxHeartbeats 1000000 in
theorem add_any (bm : Nat) (Wd H : Int) (s : ByteArray) (xs : List Int) (n : Int) (is : Bool) (W : World) (h : NearS bm Wd H s xs W) (hl : xs.length ≤ 100) :
    Calls Tryd.prog 83 #[.int .i64 n, .bool is, .pointer (some ⟨bm, 0, none⟩), .pointer (some ⟨bm + 1, 0, none⟩)] W fun e w' =>
      e = .returned (.tuple #[]) ∧ NearS bm Wd H s (addTo s xs n is) w' ∧ Below bm W w' := by
  have hlt := (Array.getElem?_eq_some_iff.1 h.m).1
  have q0 := cell_of h.m 0
  have q1 := cell_of h.m 1
  have q2 := cell_of h.m 2
  simp only [List.getElem?_toArray, List.getElem?_cons_zero, List.getElem?_cons_succ] at q0 q1 q2
  cases is with
  | false =>
    go_enter Tryd.func83, Tryd.ntmps83
    go_wp2_with fail
    go_end0
    exact ⟨rfl, h, Below.refl _ _⟩
  | true =>
    cases ho : openZ s n with
    | false =>
      have e1 : addTo s xs n true = xs := by simp [addTo, ho]
      have HO := Lib.hid ho
      clear ho
      go_enter Tryd.func83, Tryd.ntmps83
      go_wp2_with fail
      refine (open_any Wd H s n W).mono ?_
      rw [HO.out]
      rintro e w1 ⟨rfl, hB1⟩
      go_wp2_with fail
      go_end0
      exact ⟨rfl, by rw [e1]; exact h.below hB1, ⟨hB1.os, hB1.tape, hB1.output, hB1.size, fun k hk => hB1.block k (by omega)⟩⟩
    | true =>
      have e1 : addTo s xs n true = xs ++ [n] := by simp [addTo, ho]
      have HO := Lib.hid ho
      clear ho
      obtain ⟨i0, hi, hz0, hz1, hz2⟩ := info_parts infoInt
      go_enter Tryd.func83, Tryd.ntmps83
      go_wp2_with fail
      refine (open_any Wd H s n W).mono ?_
      rw [HO.out]
      rintro e w1 ⟨rfl, hB1⟩
      have h1 := h.below hB1
      obtain ⟨v, hv, hown⟩ := h1.out
      have c0 := hv.cell
      have c1 := (hv.alloc (.cells #[.int .i64 n] 3)).cell
      have hm1 : xs.length + 1 ≤ maxLen ∧ (xs.length + 1) * 8 ≤ 140737488355328 := by
        have : (200 : Nat) ≤ maxLen := by decide
        omega
      have hbl := hv.lt
      have hbs : bm + 1 ≤ (w1.alloc (.cells #[.int .i64 n] 3)).heap.size := by simp; omega
      have hn1 : ∀ j u, [Value.int .i64 n][j]? = some u → (w1.alloc (.cells #[.int .i64 n] 3)).cell? ((⟨w1.heap.size, 0, none⟩ : Addr).add j) = some u := by
        intro j u hj
        cases j with
        | zero =>
          have := (Boxed.new w1 3 (.int .i64 n)).cell
          simp only [List.getElem?_cons_zero, Option.some.injEq] at hj
          subst hj
          simp [Addr.add, this]
        | succ j => simp at hj
      go_wp2_with (at_builtin; go_loud (refine wpList_append_own _ rfl _ _ 40 rfl (bm + 1) 3 i0 (.int .i64 0) 1 8 Tryd.underlying40 hi hz0 hz1 hz2 rfl (by decide) v xs.length (xs.map (Value.int .i64)) rfl (hown.alloc _) ⟨w1.heap.size, 0, none⟩ 1 1 [.int .i64 n] rfl rfl hn1 (by simp [Value.oneCell']) hm1.1 hm1.2 hbs ?_); intro v' w2 hown' hgrow _; obtain ⟨g', cap', rfl, _, _⟩ := hown'.form (by omega); obtain ⟨hv1, hv2, hr2, hk2, hb2⟩ := Boxed.appended hv (by decide) hown (by omega) (Nat.le_refl _) hown' hgrow; have c2 := hv1.cell; have f2 := hv1.frozen)
      go_end0
      rw [e1]
      refine ⟨rfl, ⟨?_, _, hv2, by simpa using hr2⟩, ?_⟩
      · exact (hb2.block bm (by omega)).trans h1.m
      · exact ⟨hb2.os.trans hB1.os, hb2.tape.trans hB1.tape, hb2.output.trans hB1.output, Nat.le_trans hB1.size hb2.size, fun k hk => (hb2.block k (by omega)).trans (hB1.block k (by omega))⟩

def nearI (Wd : Int) (s : ByteArray) (c : Int) : List Int :=
  addTo s (addTo s (addTo s (addTo s [] (c - Wd) true) (c - 1) (decide (0 < c % Wd))) (c + 1) (decide (c % Wd < Wd - 1))) (c + Wd) true

theorem addTo_len (s : ByteArray) (xs : List Int) (n : Int) (is : Bool) : (addTo s xs n is).length ≤ xs.length + 1 := by
  unfold addTo
  split <;> simp

theorem row_slice {w : World} {e : TypeId} {size : Nat} {base : Nat} {v : Value} {n : Nat} {xs : List Value} (h : w.ownsRow base e size v n xs) : ∃ A c, v = .slice A n c := by
  rcases h.2 with ⟨rfl, h0⟩ | ⟨g, cap, cur, e, _⟩
  · exact ⟨none, 0, by rw [h0]⟩
  · exact ⟨_, _, e⟩

theorem own_base {W : World} {b b' : Nat} {e : TypeId} {size : Nat} {v : Value} {k : Nat} {xs : List Value} (h : W.ownsRow b e size v k xs) (hb : b' ≤ b) : W.ownsRow b' e size v k xs := by
  refine ⟨h.1, ?_⟩
  rcases h.2 with h2 | ⟨g, cap, cur, h2, h3, rest⟩
  · exact .inl h2
  · exact .inr ⟨g, cap, cur, h2, Nat.le_trans hb h3, rest⟩

set_option maxRecDepth 100000 in
set_option maxHeartbeats 1000000 in
theorem near_any (Wd H : Int) (s : ByteArray) (c : Int) (h0 : 0 ≤ c) (h1 : c ≤ 63) (hW1 : 1 ≤ Wd) (hW8 : Wd ≤ 8) (w : World) :
    Calls Tryd.prog 58 #[.agg #[.int .i64 Wd, .int .i64 H, .string s], .int .i64 c] w fun e w' =>
      ∃ v, e = .returned v ∧ w'.ownsRow w.heap.size 3 1 v (nearI Wd s c).length ((nearI Wd s c).map (Value.int .i64)) ∧ Below w.heap.size w w' := by
  have hl : ∀ (a b d : Int) (p q r : Bool), (addTo s (addTo s (addTo s [] a p) b q) d r).length ≤ 3 ∧ (addTo s (addTo s [] a p) b q).length ≤ 2 ∧ (addTo s [] a p).length ≤ 1 := fun a b d p q r => by
    have e1 := addTo_len s [] a p
    have e2 := addTo_len s (addTo s [] a p) b q
    have e3 := addTo_len s (addTo s (addTo s [] a p) b q) d r
    simp only [List.length_nil] at e1
    omega
  have HLN := Lib.hid hl
  clear hl
  obtain ⟨W2, hW2⟩ : ∃ W2, (w.alloc (.cells #[.int .i64 Wd, .int .i64 H, .string s] 29)).alloc (.cells #[.slice none 0 0] 40) = W2 := ⟨_, rfl⟩
  have hN : NearS w.heap.size Wd H s [] W2 := by
    rw [← hW2]
    refine ⟨(Below.heap_alloc _ _ _ (by simp)).trans (heap_new _ _), .slice none 0 0, ?_, World.ownsRow_nil _ _ _ _⟩
    have := Boxed.new (w.alloc (.cells #[.int .i64 Wd, .int .i64 H, .string s] 29)) 40 (.slice none 0 0)
    rwa [World.size_alloc] at this
  have hB2 : Below w.heap.size w W2 := by rw [← hW2]; exact ((Below.refl _ w).alloc (Nat.le_refl _) _).alloc (by simp) _
  have q0 := cell_of hN.m 0
  simp only [List.getElem?_toArray, List.getElem?_cons_zero] at q0
  have HN := Lib.hid hN
  clear hN
  have first : ∀ {W : World} {L : List Int}, NearS w.heap.size Wd H s L W → W.cell? ⟨w.heap.size, 0, none⟩ = some (.int .i64 Wd) := fun h => by
    have := cell_of h.m 0
    simpa using this
  have HF := Lib.hid (p := ∀ (W : World) (L : List Int), NearS w.heap.size Wd H s L W → W.cell? ⟨w.heap.size, 0, none⟩ = some (.int .i64 Wd)) fun W L h => first h
  clear first
  go_enter Tryd.func58, Tryd.ntmps58
  go_wp2_with fail
  refine (add_any _ Wd H s [] _ _ _ HN.out (Nat.zero_le _)).mono ?_
  rintro e w3 ⟨rfl, hN3, hB3⟩
  have q3 := HF.out _ _ hN3
  clear q0
  go_wp2_with fail
  refine (add_any _ Wd H s _ _ _ _ hN3 (Nat.le_trans (HLN.out _ 0 0 _ true true).2.2 (by decide))).mono ?_
  rintro e w4 ⟨rfl, hN4, hB4⟩
  have q4 := HF.out _ _ hN4
  clear q3
  go_wp2_with fail
  refine (add_any _ Wd H s _ _ _ _ hN4 (Nat.le_trans (HLN.out _ _ 0 _ _ true).2.1 (by decide))).mono ?_
  rintro e w5 ⟨rfl, hN5, hB5⟩
  have q5 := HF.out _ _ hN5
  clear q4
  go_wp2_with fail
  refine (add_any _ Wd H s _ _ _ _ hN5 (Nat.le_trans (HLN.out _ _ _ _ _ _).1 (by decide))).mono ?_
  rintro e w6 ⟨rfl, hN6, hB6⟩
  clear q5
  obtain ⟨v, hv, hown⟩ := hN6.out
  obtain ⟨A, cc, hvc⟩ := row_slice hown
  have q6 := hv.cell
  rw [hvc] at q6
  clear hv
  go_wp2_with fail
  go_ret
  refine ⟨v, by rw [hvc] <;> rfl, own_base hown (by omega), ?_⟩
  exact hB2.trans (hB3.trans (hB4.trans (hB5.trans hB6)))
end Go.Proofs.YtagighbfodlcjaaDoor
