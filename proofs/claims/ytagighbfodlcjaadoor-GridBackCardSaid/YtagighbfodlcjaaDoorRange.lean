/-
  A range over a function whose iterator keeps its state in one captured variable (a box): its contract, and the law for its caller.
-/
import Derived.RangeFuncNested
import Derived.RangeFuncBound
import Derived.RangeFuncCalls
import Derived.RangeFuncLeaves
import Derived.Below
namespace Go.Proofs.YtagighbfodlcjaaDoor
open Go.RowKit

/-- The iterator's own box is block bx: whatever else it turns is new; a round that goes on must leave the box as it was. -/
def SeqBox {α : Type} (F : Fence) (n : Nat) (P : Program) (g : Nat) (lb : Array Value) (encs : α → Array Value) (bx : Nat) (S Sp : List α → Prop) (w : World) : Prop :=
  ∀ (l : Nat) (J Jx : List α → World → Prop) (W : World), Below w.heap.size w W →
    (∀ s A v, J s A → J s (A.setCell ⟨bx, 0, none⟩ v)) → (∀ s A A', J s A → Below A.heap.size A A' → J s A') →
    (∀ pre x A, J pre A → (∃ y, Sp y ∧ y = pre ++ [x]) → YieldAt F (n - 1) P l (encs x) A fun e A' =>
      (e = .returned (.bool true) ∧ J (pre ++ [x]) A' ∧ A'.heap[bx]? = A.heap[bx]?) ∨ (e = .returned (.bool false) ∧ Jx (pre ++ [x]) A')) →
    J [] W →
    CallsIn F n P g (#[.func (.yield l) #[] #[]] ++ lb) W fun e W' => (∃ v, e = .returned v) ∧ ((∃ xs, S xs ∧ J xs W') ∨ (∃ pre, Sp pre ∧ Jx pre W'))

variable {F : Fence} {n : Nat} {P : Program}

theorem below_grown {A B : World} (h : Below A.heap.size A B) : A.grownBy B none := ⟨h.os, h.tape, h.output, h.size, fun k hk _ => h.block k hk⟩

theorem range_box {α : Type} {g : Operand} {ps : Array Tmp} {assign body : Code} {Q : Exit → Act → World → Prop} {a : Act} {w : World}
    (hro : F.round = none) (h1 : 1 ≤ n) {gf : Nat} {lb : Array Value} (hg : a.eval g = .func (.func gf) #[] lb) (hFg : F.fn gf) (eg : ∀ args w, (callFunc gf args).run P w = .ok (.enter gf args) w)
    {encs : α → Array Value} {bx : Nat} {S Sp : List α → Prop} (hbx : bx < w.heap.size) (hseq : SeqBox F (n - 1) P gf lb encs bx S Sp w) (hps : ∀ x, (encs x).size = ps.size)
    (I : List α → World → Prop) (Ix : Code → List α → World → Prop) (hI : OwnFrom w.heap.size I) (hIB : ∀ s A v, I s A → I s (A.setCell ⟨bx, 0, none⟩ v)) (hIx : ∀ c, OwnFrom w.heap.size (Ix c)) (h0 : I [] w) (a₁ : α → Act)
    (hassign : ∀ (l : Nat) (x : α) (W : World) (K : Act → World → Prop), K (a₁ x) W →
      assign.wpIn (F.inRound l) (n - 1 - 1) P (Exit.then K (fun _ _ _ => False)) { tmps := (ps.zip (encs x)).foldl (fun t (p, v) => t.setIfInBounds p v) a.tmps, defers := [] } W)
    (hbody : ∀ (l : Nat) (pre : List α) (x : α) (W : World), I pre W → Sp (pre ++ [x]) → body.wpIn (F.inRound l) (n - 1 - 1) P (ownPostG w.heap.size (fun A B => B.heap[bx]? = A.heap[bx]?) I Ix (pre ++ [x]) W) (a₁ x) W)
    (hdone : ∀ (D : Nat) (xs : List α) (W : World), w.heap.size ≤ D → S xs → I xs W → W.heap[D]? = some (.deferred (some [])) → Q .normal { a with defers := { target := .collected D, args := #[] } :: a.defers } W)
    (hstop : ∀ (D : Nat) (c : Code) (pre : List α) (W : World), w.heap.size ≤ D → Sp pre → Ix c pre W → W.heap[D]? = some (.deferred (some [])) → c.wpIn F n P Q { a with defers := { target := .collected D, args := #[] } :: a.defers } W) :
    (Code.rangeFunc g ps assign body).wpIn F n P Q a w := by
  refine wpIn_rangeFunc ?_
  intro fn hfn
  rw [hro]
  obtain ⟨rec, hrec⟩ : ∃ rec : LoopState → Option Code → Loop, rec = fun st pe => { state := st, pending := pe, fn, tmps := a.tmps, params := ps, assign, body, defers := w.heap.size } := ⟨_, rfl⟩
  obtain ⟨W1, hW1⟩ : ∃ W1, (w.alloc (.deferred (some []))).alloc (.loop (rec .ready none)) = W1 := ⟨_, rfl⟩
  have hL1 : W1.heap[w.heap.size + 1]? = some (.loop (rec .ready none)) := by
    rw [← hW1]; have := World.alloc_heap_new (w.alloc (.deferred (some []))) (.loop (rec .ready none)); rwa [World.size_alloc] at this
  have hK1 : W1.heap[w.heap.size]? = some (.deferred (some [])) := by
    rw [← hW1]; exact (Below.heap_alloc _ _ _ (by simp)).trans (World.alloc_heap_new w _)
  have hI1 : I [] W1 := by rw [← hW1]; exact hI.alloc _ (hI.alloc _ h0)
  have hb1 : Below w.heap.size w W1 := by rw [← hW1]; exact ((Below.refl _ w).alloc (Nat.le_refl _) _).alloc (by simp) _
  refine ⟨w.heap.size + 1, [{ target := .collected w.heap.size, args := #[] }], W1, { target := .fn (.func gf) lb, args := #[.func (.yield (w.heap.size + 1)) #[] #[]] }, W1, gf,
    #[.func (.yield (w.heap.size + 1)) #[] #[]] ++ lb, W1, ?_, ?_, ?_, ?_, fun _ => h1, ?_⟩
  · rw [← hW1, hrec]; exact run_enterLoop_outer _ _ _ _ _
  · simp only [resolve, hg]
    simp [go_sem]
  · intro f' hf'; simp [Target.leads] at hf'; subst hf'; exact hFg
  · simp [invoke, go_sem, eg]
  · refine (hseq (w.heap.size + 1)
      (fun pre W => I pre W ∧ W.heap[w.heap.size + 1]? = some (.loop (rec .ready none)) ∧ W.heap[w.heap.size]? = some (.deferred (some [])))
      (fun pre W => ∃ c, Ix c pre W ∧ W.heap[w.heap.size + 1]? = some (.loop (rec .done (some c))) ∧ W.heap[w.heap.size]? = some (.deferred (some [])))
      W1 hb1 ?_ ?_ ?_ ⟨hI1, hL1, hK1⟩).mono ?_
    · rintro s A v ⟨hi, hl, hk⟩
      exact ⟨hIB _ _ _ hi, (Below.heap_setCell _ _ _ _ (by simp; omega)).trans hl, (Below.heap_setCell _ _ _ _ (by simp; omega)).trans hk⟩
    · rintro s A A' ⟨hi, hl, hk⟩ hb
      exact ⟨hI _ _ _ none hi (below_grown hb) (by simp), (hb.block _ (Array.getElem?_eq_some_iff.1 hl).1).trans hl, (hb.block _ (Array.getElem?_eq_some_iff.1 hk).1).trans hk⟩
    · rintro pre x W ⟨hi, hl, hk⟩ ⟨_, hsp, rfl⟩
      have hlt : w.heap.size + 1 < W.heap.size := (Array.getElem?_eq_some_iff.1 hl).1
      have hy := run_yield (P := P) (args := encs x) hl (by rw [hrec]; exact hps x)
      rw [hrec] at hy
      refine ⟨fn, _, assign, body, hy, roundIn_of_wpIn hfn (hassign _ x W _ ⟨_, run_beginRound hl (by rw [hrec]), ?_⟩)⟩
      obtain ⟨Wb, hWb⟩ : ∃ Wb, W.putObj (w.heap.size + 1) (.loop { rec .ready none with state := .busy }) = Wb := ⟨_, rfl⟩
      have hl2 : Wb.heap[w.heap.size + 1]? = some (.loop { rec .ready none with state := .busy }) := by rw [← hWb]; exact World.putObj_heap_same hlt
      have hk2 : Wb.heap[w.heap.size]? = some (.deferred (some [])) := by rw [← hWb]; exact (World.putObj_heap_other (by omega)).trans hk
      have hx2 : Wb.heap[bx]? = W.heap[bx]? := by rw [← hWb]; exact World.putObj_heap_other (by omega)
      have hi2 : I pre Wb := by rw [← hWb]; exact hI.putObj _ hi (by omega) hl rfl
      have hbd := hbody (w.heap.size + 1) pre x Wb hi2 hsp
      have hG : body.wpIn (F.inRound (w.heap.size + 1)) (n - 1 - 1) P (roundPost P (w.heap.size + 1) fun e A' =>
        (e = .returned (.bool true) ∧ (I (pre ++ [x]) A' ∧ A'.heap[w.heap.size + 1]? = some (.loop (rec .ready none)) ∧ A'.heap[w.heap.size]? = some (.deferred (some []))) ∧ A'.heap[bx]? = W.heap[bx]?) ∨
        (e = .returned (.bool false) ∧ ∃ c, Ix c (pre ++ [x]) A' ∧ A'.heap[w.heap.size + 1]? = some (.loop (rec .done (some c))) ∧ A'.heap[w.heap.size]? = some (.deferred (some [])))) (a₁ x) Wb := ?_
      · rw [← hWb] at hG; exact hG
      refine wpIn_mono hbd ?_
      have fin : ∀ (jump : Option Code) (W3 : World), KeepsFrom w.heap.size Wb W3 → ∃ W4,
          (Instr.endRound (w.heap.size + 1) jump).run P W3 = .ok (.bool jump.isNone) W4 ∧ W4.heap[bx]? = W3.heap[bx]? ∧ (∀ I' : List α → World → Prop, OwnFrom w.heap.size I' → ∀ s, I' s W3 → I' s W4) ∧
          W4.heap[w.heap.size + 1]? = some (.loop (rec (if jump.isNone then .ready else .done) jump)) ∧ W4.heap[w.heap.size]? = some (.deferred (some [])) := fun jump W3 hk3 => by
        have hl3 := hk3.same _ _ (by omega) hl2 rfl
        have h := run_endRound (P := P) jump hl3
        rw [hrec] at h ⊢
        exact ⟨_, h, World.putObj_heap_other (by omega), fun I' hI' s hs => hI'.putObj _ hs (by omega) hl3 rfl, World.putObj_heap_same (Array.getElem?_eq_some_iff.1 hl3).1, (World.putObj_heap_other (by omega)).trans (hk3.same _ _ (Nat.le_refl _) hk2 rfl)⟩
      rintro e a3 W3 hp
      cases e with
      | normal =>
        obtain ⟨hk3, hx3, hi3⟩ := hp
        obtain ⟨W4, hr, hx4, hI4, hl4, hk4⟩ := fin none W3 hk3
        exact ⟨_, W4, hr, .inl ⟨rfl, ⟨hI4 I hI _ hi3, hl4, hk4⟩, hx4.trans (hx3.trans hx2)⟩⟩
      | ret =>
        obtain ⟨W4, hr, _, hI4, hl4, hk4⟩ := fin (some .ret) W3 hp.1
        exact ⟨_, W4, hr, .inr ⟨rfl, .ret, hI4 _ (hIx _) _ hp.2, hl4, hk4⟩⟩
      | exit id =>
        obtain ⟨W4, hr, _, hI4, hl4, hk4⟩ := fin (some (.exit id)) W3 hp.1
        exact ⟨_, W4, hr, .inr ⟨rfl, .exit id, hI4 _ (hIx _) _ hp.2, hl4, hk4⟩⟩
      | goto t =>
        obtain ⟨W4, hr, _, hI4, hl4, hk4⟩ := fin (some (.goto t)) W3 hp.1
        exact ⟨_, W4, hr, .inr ⟨rfl, .goto t, hI4 _ (hIx _) _ hp.2, hl4, hk4⟩⟩
      | panic ch => exact hp.elim
      | outgrown => exact hp.elim
    · rintro e W2 ⟨⟨v, rfl⟩, (⟨xs, hS, hi, hl, hk⟩ | ⟨pre, hSp, c, hi, hl, hk⟩)⟩
      · exact ⟨none, _, by have := run_endLoop (P := P) hl (by rw [hrec]; simp); rw [hrec] at this; exact this, hdone _ xs _ (Nat.le_refl _) hS (hI.putObj _ hi (by omega) hl rfl) ((World.putObj_heap_other (by omega)).trans hk)⟩
      · exact ⟨some c, _, by have := run_endLoop (P := P) hl (by rw [hrec]; simp); rw [hrec] at this; exact this, hstop _ c pre _ (Nat.le_refl _) hSp ((hIx c).putObj _ hi (by omega) hl rfl) ((World.putObj_heap_other (by omega)).trans hk)⟩
end Go.Proofs.YtagighbfodlcjaaDoor
