/-
  strings.Builder's WriteString, said so that it tells which blocks it leaves alone.
-/
import Derived.Test.YtagighbfodlcjaaDoorBuilder
import Derived.RangeFuncBox
namespace Go.Proofs.YtagighbfodlcjaaDoor
open Go.RowKit

/-- a builder in block b, whose bytes lie in a row from block B on; B lies behind b -/
structure BV (B b : Nat) (bs : List Value) (W : World) : Prop where
  lt : b < B
  box : ∃ p v, W.heap[b]? = some (.cells #[p, v] 55 (0, 0)) ∧ (p = .pointer none ∨ p = .pointer (some ⟨b, 0, none⟩)) ∧ W.ownsRow B 5 1 v bs.length bs

theorem bv_row_ne {B b : Nat} {e : TypeId} {size k : Nat} {v : Value} {xs : List Value} {W : World} (h : W.ownsRow B e size v k xs) (hb : b < B) : v.ownBlock ≠ some b := by
  rcases h.2 with ⟨rfl, _⟩ | ⟨g, cap, cur, rfl, hg, _⟩
  · simp [Value.ownBlock]
  · intro e'
    have : g = b := by simpa [Value.ownBlock] using e'
    omega

theorem BV.lt' {B b : Nat} {bs : List Value} {W : World} (h : BV B b bs W) : b < W.heap.size := by
  obtain ⟨p, v, h1, _⟩ := h.box
  exact (Array.getElem?_eq_some_iff.1 h1).1

theorem BV.below {B b : Nat} {bs : List Value} {W W' : World} (h : BV B b bs W) (hb : Below W.heap.size W W') : BV B b bs W' := by
  obtain ⟨p, v, h1, h2, h3⟩ := h.box
  refine ⟨h.lt, p, v, (hb.block b (Array.getElem?_eq_some_iff.1 h1).1).trans h1, h2, h3.kept ⟨hb.os, hb.tape, hb.output, hb.size, fun k hk (_ : some k ≠ none) => hb.block k hk⟩ ?_⟩
  cases v.ownBlock <;> simp

theorem BV.isB {B b : Nat} {bs : List Value} {W : World} (h : BV B b bs W) : IsB b b bs W := by
  obtain ⟨p, v, h1, h2, h3⟩ := h.box
  have h3' : W.ownsRow b 5 1 v bs.length bs := by
    refine ⟨h3.1, ?_⟩
    rcases h3.2 with h4 | ⟨g, cap, cur, h4, h5, rest⟩
    · exact .inl h4
    · exact .inr ⟨g, cap, cur, h4, by have := h.lt; omega, rest⟩
  rcases h2 with rfl | rfl
  · exact .inl ⟨Nat.le_refl _, v, h1, h3', bv_row_ne h3 h.lt⟩
  · exact .inr ⟨Nat.le_refl _, v, h1, h3', bv_row_ne h3 h.lt⟩

theorem copy_up (B b : Nat) (bs : List Value) (W : World) (h : BV B b bs W) :
    Calls Tryd.prog 44 #[.pointer (some ⟨b, 0, none⟩)] W fun e w' => e = .returned (.tuple #[]) ∧ (∃ v, w'.heap[b]? = some (.cells #[.pointer (some ⟨b, 0, none⟩), v] 55 (0, 0)) ∧ w'.ownsRow B 5 1 v bs.length bs) ∧ Up B (· = b) W w' ∧ KeepsOthers W w' := by
  obtain ⟨p, v, h1, h2, h3⟩ := h.box
  rcases h2 with rfl | rfl
  · have c0 : W.cell? ⟨b, 0, none⟩ = some (.pointer none) := by rw [Lib.cell_of_heap h1]; rfl
    refine (copyCheck_fresh b W c0 (by simp [World.shape?, h1]) (Lib.frozen_of_heap h1 0)).mono ?_
    rintro e w' ⟨rfl, rfl⟩
    refine ⟨rfl, ⟨v, ?_, h3.kept (row := some b) ⟨rfl, rfl, rfl, by simp [World.setCell], fun k _ hk => Below.heap_setCell _ _ _ k (fun e => hk (by rw [e]))⟩ (.inr (bv_row_ne h3 h.lt))⟩, (Up.refl B (· = b) W).setCell (.inr rfl) _, KeepsOthers.setCell _ _ _⟩
    have := heap_set h1 0 (.pointer (some ⟨b, 0, none⟩))
    simpa using this
  · have c0 : W.cell? ⟨b, 0, none⟩ = some (.pointer (some ⟨b, 0, none⟩)) := by rw [Lib.cell_of_heap h1]; rfl
    refine (copyCheck_used b W c0).mono ?_
    rintro e w' ⟨rfl, rfl⟩
    exact ⟨rfl, ⟨v, h1, h3⟩, Up.refl _ _ _, KeepsOthers.refl _⟩

set_option maxHeartbeats 2000000 in
set_option maxRecDepth 100000 in
theorem write_up (B b : Nat) (bs : List Value) (s : ByteArray) (W : World) (h : BV B b bs W) (hlen : bs.length + s.size ≤ 140737488355328) (hBw : B ≤ W.heap.size) :
    Calls Tryd.prog 26 #[.pointer (some ⟨b, 0, none⟩), .string s] W fun e w' => e = .returned (.tuple #[.int .i64 s.size, .nilIface]) ∧ BV B b (bs ++ Lib.strCells s) w' ∧ Up B (· = b) W w' ∧ KeepsOthers W w' := by
  obtain ⟨i0, hi, hz0, hz1, hz2⟩ := info_parts Tryd.infoByte
  have hbB := h.lt
  go_enter Tryd.func26, Tryd.ntmps26
  go_wp2_with fail
  refine (copy_up B b bs _ h).mono ?_
  rintro e w1 ⟨rfl, ⟨v, hbk, hown⟩, hb1, hko1⟩
  have c0 : w1.cell? ⟨b, 0, none⟩ = some (.pointer (some ⟨b, 0, none⟩)) := by rw [Lib.cell_of_heap hbk]; rfl
  have c1 : w1.cell? ⟨b, 1, none⟩ = some v := by rw [Lib.cell_of_heap hbk]; rfl
  go_wp2_with (at_builtin; refine Lib.wpList_append_own_string _ rfl _ _ 53 9 rfl B 5 i0 Tryd.underlying53 Tryd.underlying9 hi hz0 hz1 hz2 _ _ _ rfl hown s rfl ?c3 ?c4 ?c5 ?_)
  case c3 => unfold maxLen; omega
  case c4 => omega
  case c5 => have := hb1.size; omega
  intro v' w2 hown' hgrow _
  have hlt : b < w1.heap.size := (Array.getElem?_eq_some_iff.1 hbk).1
  have hb2 : w2.heap[b]? = some (.cells #[.pointer (some ⟨b, 0, none⟩), v] 55 (0, 0)) := by
    rw [hgrow.block b hlt (fun e => bv_row_ne hown hbB e.symm)]
    exact hbk
  have d0 : w2.cell? ⟨b, 0, none⟩ = some (.pointer (some ⟨b, 0, none⟩)) := by rw [Lib.cell_of_heap hb2]; rfl
  have d1 : w2.cell? ⟨b, 1, none⟩ = some v := by rw [Lib.cell_of_heap hb2]; rfl
  have f1 : w2.frozen? ⟨b, 1, none⟩ = false := Lib.frozen_of_heap hb2 1
  obtain ⟨ao, n', cap, rfl⟩ : ∃ ao n' cap, v' = .slice ao n' cap := by
    rcases hown'.2 with ⟨hv, _⟩ | ⟨g, cap, cur, hv, _⟩
    · exact ⟨_, _, _, hv⟩
    · exact ⟨_, _, _, hv⟩
  go_wp2
  go_ret2
  refine ⟨rfl, ⟨hbB, _, _, by have := heap_set hb2 1 (.slice ao n' cap); simpa using this, .inr rfl, ?_⟩, ?_, ?_⟩
  · have hl : (bs ++ Lib.strCells s).length = bs.length + s.size := by simp [Lib.strCells_length]
    rw [hl]
    exact hown'.kept (row := some b) ⟨rfl, rfl, rfl, by simp [World.setCell], fun k _ hk => Below.heap_setCell _ _ _ k (fun e => hk (by rw [e]))⟩ (.inr (bv_row_ne hown' hbB))
  · refine (hb1.trans ⟨hgrow.os, hgrow.tape, hgrow.output, hgrow.size, fun k hk _ => hgrow.block k (by have := hb1.size; omega) fun e => ?_⟩).setCell (.inr rfl) _
    have := (hown.lt k e.symm).1
    omega
  · refine (hko1.trans (KeepsOthers.of_grownBy hgrow fun j o ej hj => ?_)).trans (KeepsOthers.setCell _ _ _)
    rcases hown.2 with ⟨rfl, _⟩ | ⟨g, cap, cur, rfl, _, hgb, _⟩
    · simp [Value.ownBlock] at ej
    · obtain rfl : g = j := by simpa [Value.ownBlock] using ej
      rw [hgb] at hj; cases hj; rfl
end Go.Proofs.YtagighbfodlcjaaDoor
