/-
  Which cells of a map are reached from one: plain. A search that goes on till nothing is left, and rounds that go on as often as there are cells, both come to the cells that are reached.
-/
import Derived.Test.YtagighbfodlcjaaDoorVars
namespace Go.Proofs.YtagighbfodlcjaaDoor

def besideB (w a b : Nat) : Bool := if a / w = b / w then decide (a = b + 1) || decide (b = a + 1) else decide (a = b + w) || decide (b = a + w)
def openB (l : List UInt8) (i : Nat) : Bool := match l[i]? with
  | some c => c != 35
  | none => false

inductive Reach (l : List UInt8) (w a : Nat) : Nat → Prop
  | refl : Reach l w a a
  | step {b c : Nat} : Reach l w a b → besideB w b c = true → openB l c = true → Reach l w a c

theorem beside_comm (w a b : Nat) : besideB w a b = besideB w b a := by
  unfold besideB
  by_cases h : a / w = b / w
  · rw [if_pos h, if_pos h.symm, Bool.or_comm]
  · rw [if_neg h, if_neg (fun e => h e.symm), Bool.or_comm]

theorem open_lt {l : List UInt8} {i : Nat} (h : openB l i = true) : i < l.length := by
  unfold openB at h
  split at h
  · rename_i hh; exact (List.getElem?_eq_some_iff.1 hh).1
  · cases h

theorem Reach.open_ {l : List UInt8} {w a i : Nat} (h : Reach l w a i) (ha : openB l a = true) : openB l i = true := by
  cases h with
  | refl => exact ha
  | step _ _ h => exact h

/-- a set that holds the first cell, and with each cell its open neighbours, holds what is reached -/
theorem reach_closed {l : List UInt8} {w a : Nat} {M : Nat → Prop} (ha : M a) (hc : ∀ x y, M x → besideB w x y = true → openB l y = true → M y) {i : Nat} (h : Reach l w a i) : M i := by
  induction h with
  | refl => exact ha
  | step _ h1 h2 ih => exact hc _ _ ih h1 h2

theorem nodup_len : ∀ (A B : List Nat), A.Nodup → (∀ x ∈ A, x ∈ B) → A.length ≤ B.length
  | [], _, _, _ => Nat.zero_le _
  | a :: A, B, h, hs => by
    have ha := hs a (by simp)
    have h2 := nodup_len A (B.erase a) (List.nodup_cons.1 h).2 fun x hx => by
      have hne : x ≠ a := fun e => (List.nodup_cons.1 h).1 (e ▸ hx)
      exact (List.mem_erase_of_ne hne).2 (hs x (by simp [hx]))
    rw [List.length_erase_of_mem ha] at h2
    have := List.length_pos_of_mem ha
    simp only [List.length_cons]
    omega

theorem nodup_all {A B : List Nat} (hA : A.Nodup) (hB : ∀ x ∈ A, x ∈ B) (hlen : B.length ≤ A.length) : ∀ x ∈ B, x ∈ A := by
  intro x hx
  apply Classical.byContradiction
  intro hn
  have := nodup_len (x :: A) B (List.nodup_cons.2 ⟨hn, hA⟩) fun y hy => by
    rcases List.mem_cons.1 hy with rfl | hy
    · exact hx
    · exact hB y hy
  simp only [List.length_cons] at this
  omega

def openL (l : List UInt8) : List Nat := (List.range l.length).filter (openB l)

theorem mem_openL {l : List UInt8} {i : Nat} : i ∈ openL l ↔ openB l i = true := by
  unfold openL
  rw [List.mem_filter, List.mem_range]
  exact ⟨fun h => h.2, fun h => ⟨open_lt h, h⟩⟩

theorem openL_nodup (l : List UInt8) : (openL l).Nodup := List.nodup_range.filter _

theorem openL_len (l : List UInt8) : (openL l).length + l.count 35 = l.length := by
  have key : ∀ (l : List UInt8), ((List.range l.length).filter (openB l)).length + l.count 35 = l.length := by
    intro l
    induction l with
    | nil => rfl
    | cons c l ih =>
      rw [List.length_cons, List.range_succ_eq_map, List.filter_cons]
      have e1 : (List.map Nat.succ (List.range l.length)).filter (openB (c :: l)) = ((List.range l.length).filter (openB l)).map Nat.succ := by
        rw [List.filter_map]
        rfl
      rw [e1, List.count_cons]
      by_cases hc : c = 35
      · subst hc
        have h0 : openB ((35 : UInt8) :: l) 0 = false := rfl
        rw [h0]
        simp only [Bool.false_eq_true, if_false, beq_self_eq_true, if_true, List.length_map]
        omega
      · have h0 : openB (c :: l) 0 = true := by
          show (c != 35) = true
          rw [bne_iff_ne]; exact hc
        rw [h0]
        have hb : (c == 35) = false := by rw [beq_eq_false_iff_ne]; exact hc
        simp only [if_true, hb, Bool.false_eq_true, if_false, List.length_cons, List.length_map]
        omega
  exact key l

/-! ### the search -/
structure Bfs (l : List UInt8) (w a : Nat) (met left : List Nat) : Prop where
  sub : ∀ x ∈ met, Reach l w a x
  start : a ∈ met
  nd : met.Nodup
  lf : ∀ x ∈ left, x ∈ met
  done : ∀ x ∈ met, x ∉ left → ∀ y, besideB w x y = true → openB l y = true → y ∈ met

/-- within a round: the cell c that was taken; its neighbours in 'to do' are still to be looked at -/
structure BfsIn (l : List UInt8) (w a c : Nat) (met left todo : List Nat) : Prop where
  sub : ∀ x ∈ met, Reach l w a x
  start : a ∈ met
  nd : met.Nodup
  lf : ∀ x ∈ left, x ∈ met
  cm : c ∈ met
  td : ∀ y ∈ todo, besideB w c y = true ∧ openB l y = true
  done : ∀ x ∈ met, x ∉ left → x ≠ c → ∀ y, besideB w x y = true → openB l y = true → y ∈ met
  donec : ∀ y, besideB w c y = true → openB l y = true → y ∈ met ∨ y ∈ todo

theorem Bfs.init (l : List UInt8) (w a : Nat) : Bfs l w a [a] [a] :=
  ⟨fun x hx => by rw [List.mem_singleton.1 hx]; exact .refl, by simp, by simp, fun x hx => hx, fun x hx hn => (hn hx).elim⟩

theorem Bfs.take {l : List UInt8} {w a c : Nat} {met left : List Nat} (h : Bfs l w a met (c :: left)) {near : List Nat} (hn : ∀ y, y ∈ near ↔ besideB w c y = true ∧ openB l y = true) : BfsIn l w a c met left near :=
  ⟨h.sub, h.start, h.nd, fun x hx => h.lf x (by simp [hx]), h.lf c (by simp), fun y hy => (hn y).1 hy,
    fun x hx hl hc y h1 h2 => h.done x hx (fun e => by rcases List.mem_cons.1 e with e | e; exact hc e; exact hl e) y h1 h2, fun y h1 h2 => .inr ((hn y).2 ⟨h1, h2⟩)⟩

theorem BfsIn.known {l : List UInt8} {w a c n : Nat} {met left todo : List Nat} (h : BfsIn l w a c met left (n :: todo)) (hn : n ∈ met) : BfsIn l w a c met left todo :=
  ⟨h.sub, h.start, h.nd, h.lf, h.cm, fun y hy => h.td y (by simp [hy]), h.done, fun y h1 h2 => by
    rcases h.donec y h1 h2 with h3 | h3
    · exact .inl h3
    · rcases List.mem_cons.1 h3 with rfl | h3
      · exact .inl hn
      · exact .inr h3⟩

theorem BfsIn.new {l : List UInt8} {w a c n : Nat} {met left todo : List Nat} (h : BfsIn l w a c met left (n :: todo)) (hn : n ∉ met) : BfsIn l w a c (met ++ [n]) (left ++ [n]) todo := by
  refine ⟨fun x hx => ?_, by simp [h.start], ?_, fun x hx => ?_, by simp [h.cm], fun y hy => h.td y (by simp [hy]), fun x hx hl hc y h1 h2 => ?_, fun y h1 h2 => ?_⟩
  · rcases List.mem_append.1 hx with hx | hx
    · exact h.sub x hx
    · rw [List.mem_singleton.1 hx]
      have := h.td n (by simp)
      exact .step (h.sub c h.cm) this.1 this.2
  · rw [List.nodup_append]
    exact ⟨h.nd, by simp, fun x hx y hy e => hn (by rw [List.mem_singleton.1 hy] at e; exact e ▸ hx)⟩
  · rcases List.mem_append.1 hx with hx | hx
    · exact List.mem_append_left _ (h.lf x hx)
    · exact List.mem_append_right _ hx
  · have hx' : x ∈ met := by
      rcases List.mem_append.1 hx with hx | hx
      · exact hx
      · exact (hl (List.mem_append_right _ hx)).elim
    exact List.mem_append_left _ (h.done x hx' (fun e => hl (List.mem_append_left _ e)) hc y h1 h2)
  · rcases h.donec y h1 h2 with h3 | h3
    · exact .inl (List.mem_append_left _ h3)
    · rcases List.mem_cons.1 h3 with rfl | h3
      · exact .inl (by simp)
      · exact .inr h3

theorem BfsIn.out {l : List UInt8} {w a c : Nat} {met left : List Nat} (h : BfsIn l w a c met left []) : Bfs l w a met left :=
  ⟨h.sub, h.start, h.nd, h.lf, fun x hx hl y h1 h2 => by
    by_cases hc : x = c
    · subst hc
      rcases h.donec y h1 h2 with h3 | h3
      · exact h3
      · cases h3
    · exact h.done x hx hl hc y h1 h2⟩

theorem Bfs.all {l : List UInt8} {w a : Nat} {met : List Nat} (h : Bfs l w a met []) (i : Nat) : i ∈ met ↔ Reach l w a i :=
  ⟨h.sub i, reach_closed (M := (· ∈ met)) h.start fun x y hx h1 h2 => h.done x hx (by simp) y h1 h2⟩

/-- the search's count tells whether all open cells are reached -/
theorem bfs_count {l : List UInt8} {w a : Nat} {met : List Nat} (h : Bfs l w a met []) (ha : openB l a = true) : met.length + l.count 35 = l.length ↔ ∀ i, openB l i = true → Reach l w a i := by
  have hsub : ∀ x ∈ met, x ∈ openL l := fun x hx => mem_openL.2 ((h.sub x hx).open_ ha)
  have hle := nodup_len met (openL l) h.nd hsub
  have hl := openL_len l
  constructor
  · intro he i hi
    exact (h.all i).1 (nodup_all h.nd hsub (by omega) i (mem_openL.2 hi))
  · intro hall
    have := nodup_len (openL l) met (openL_nodup l) fun x hx => (h.all x).2 (hall x (mem_openL.1 hx))
    omega

/-! ### the rounds -/
def on (M : List Bool) (i : Nat) : Prop := M[i]? = some true

/-- M is closed: with each cell its open neighbours -/
def Closed (l : List UInt8) (w : Nat) (M : List Bool) : Prop := ∀ k i, on M k → besideB w k i = true → openB l i = true → on M i

structure Rounds (l : List UInt8) (w a r : Nat) (M : List Bool) : Prop where
  len : M.length = l.length
  sub : ∀ i, on M i → Reach l w a i
  start : on M a
  grow : Closed l w M ∨ r + 1 ≤ M.count true

/-- within a round that began at M0: all pairs ahead of (i, k) were looked at -/
structure Within (l : List UInt8) (w a : Nat) (M0 : List Bool) (i k : Nat) (M : List Bool) : Prop where
  len : M.length = l.length
  sub : ∀ j, on M j → Reach l w a j
  sup : ∀ j, on M0 j → on M j
  done : ∀ j q, (j < i ∨ j = i ∧ q < k) → on M0 q → besideB w j q = true → openB l j = true → on M j

theorem on_set {M : List Bool} {i j : Nat} (hi : i < M.length) : on (M.set i true) j ↔ on M j ∨ j = i := by
  unfold on
  rw [List.getElem?_set]
  by_cases h : i = j
  · subst h; simp [hi]
  · rw [if_neg h]
    exact ⟨fun h => .inl h, fun h' => by rcases h' with h' | h'; exact h'; exact (h h'.symm).elim⟩

theorem Within.init {l : List UInt8} {w a r : Nat} {M : List Bool} (h : Rounds l w a r M) : Within l w a M 0 0 M :=
  ⟨h.len, h.sub, fun _ h => h, fun j q hjq => by omega⟩

theorem Within.skip {l : List UInt8} {w a i k : Nat} {M0 M : List Bool} (h : Within l w a M0 i k M) (hno : ¬ (openB l i = true ∧ on M k ∧ besideB w i k = true)) : Within l w a M0 i (k + 1) M :=
  ⟨h.len, h.sub, h.sup, fun j q hjq h0 h1 h2 => by
    by_cases e : j = i ∧ q = k
    · obtain ⟨rfl, rfl⟩ := e
      exact (hno ⟨h2, h.sup _ h0, h1⟩).elim
    · exact h.done j q (by omega) h0 h1 h2⟩

theorem Within.mark {l : List UInt8} {w a i k : Nat} {M0 M : List Bool} (h : Within l w a M0 i k M) (hi : openB l i = true) (hk : on M k) (hb : besideB w i k = true) : Within l w a M0 i (k + 1) (M.set i true) := by
  have hlt : i < M.length := by rw [h.len]; exact open_lt hi
  refine ⟨by rw [List.length_set]; exact h.len, fun j hj => ?_, fun j hj => (on_set hlt).2 (.inl (h.sup j hj)), fun j q hjq h0 h1 h2 => ?_⟩
  · rcases (on_set hlt).1 hj with hj | rfl
    · exact h.sub j hj
    · exact .step (h.sub k hk) (by rw [beside_comm]; exact hb) hi
  · by_cases e : j = i
    · exact (on_set hlt).2 (.inr e)
    · exact (on_set hlt).2 (.inl (h.done j q (by omega) h0 h1 h2))

theorem Within.row {l : List UInt8} {w a i : Nat} {M0 M : List Bool} (h : Within l w a M0 i l.length M) (h0 : M0.length = l.length) : Within l w a M0 (i + 1) 0 M :=
  ⟨h.len, h.sub, h.sup, fun j q hjq ho h1 h2 => h.done j q (by
    have : q < l.length := by
      unfold on at ho
      rw [← h0]; exact (List.getElem?_eq_some_iff.1 ho).1
    omega) ho h1 h2⟩

/-- a wall's row is passed over -/
theorem Within.wall {l : List UInt8} {w a i k : Nat} {M0 M : List Bool} (h : Within l w a M0 i k M) (hi : openB l i = false) : Within l w a M0 (i + 1) 0 M :=
  ⟨h.len, h.sub, h.sup, fun j q hjq ho h1 h2 => by
    by_cases e : j = i
    · subst e; rw [hi] at h2; cases h2
    · exact h.done j q (by omega) ho h1 h2⟩

theorem count_mono : ∀ (M M' : List Bool), M.length = M'.length → (∀ j, on M j → on M' j) → M.count true ≤ M'.count true ∧ ((∃ j, on M' j ∧ ¬ on M j) → M.count true + 1 ≤ M'.count true)
  | [], [], _, _ => ⟨Nat.le_refl _, fun ⟨j, h, _⟩ => by simp [on] at h⟩
  | x :: M, y :: M', hl, hs => by
    have ih := count_mono M M' (by simpa using hl) fun j hj => by have := hs (j + 1); simpa [on] using this hj
    have h0 := hs 0
    have hxy : x = true → y = true := fun e => by subst e; have := h0 (by simp [on]); simpa [on] using this
    refine ⟨?_, fun ⟨j, h1, h2⟩ => ?_⟩
    · have := ih.1
      cases x <;> cases y <;> simp_all <;> omega
    · cases j with
      | zero =>
        have hy : y = true := by simpa [on] using h1
        have hx : x = false := by cases x; rfl; exact (h2 (by simp [on])).elim
        subst hx; subst hy
        have := ih.1
        simp; omega
      | succ j =>
        have := ih.2 ⟨j, by simpa [on] using h1, by simpa [on] using h2⟩
        cases x <;> cases y <;> simp_all <;> omega
  | [], _ :: _, h, _ => by simp at h
  | _ :: _, [], h, _ => by simp at h

theorem Closed.reach {l : List UInt8} {w a : Nat} {M : List Bool} (h : Closed l w M) (ha : on M a) {i : Nat} (hr : Reach l w a i) : on M i := reach_closed (M := on M) ha (fun x y hx h1 h2 => h x y hx h1 h2) hr

theorem Rounds.next {l : List UInt8} {w a r : Nat} {M0 M : List Bool} (h : Rounds l w a r M0) (hw : Within l w a M0 l.length 0 M) : Rounds l w a (r + 1) M := by
  refine ⟨hw.len, hw.sub, hw.sup _ h.start, ?_⟩
  by_cases hc : Closed l w M0
  · left
    intro k i hk h1 h2
    exact hw.sup _ (hc.reach h.start (.step (hw.sub k hk) h1 h2))
  · right
    have h1 : r + 1 ≤ M0.count true := by
      rcases h.grow with h1 | h1
      · exact (hc h1).elim
      · exact h1
    have h2 := (count_mono M0 M (by rw [h.len, hw.len]) hw.sup).2 (by
      apply Classical.byContradiction
      intro hno
      apply hc
      intro k i hk hb ho
      apply Classical.byContradiction
      intro hni
      exact hno ⟨i, hw.done i k (.inl (open_lt ho)) hk (by rw [beside_comm]; exact hb) ho, hni⟩)
    omega

theorem Rounds.all {l : List UInt8} {w a : Nat} {M : List Bool} (h : Rounds l w a l.length M) (i : Nat) : on M i ↔ Reach l w a i := by
  refine ⟨h.sub i, ?_⟩
  rcases h.grow with hc | hc
  · exact hc.reach h.start
  · exfalso
    have := List.count_le_length (l := M) (a := true)
    have := h.len
    omega

theorem Rounds.init {l : List UInt8} {w a : Nat} {M : List Bool} (hl : M.length = l.length) (h : ∀ i, on M i ↔ i = a) : Rounds l w a 0 M :=
  ⟨hl, fun i hi => by rw [(h i).1 hi]; exact .refl, (h a).2 rfl, .inr (by
    have : M[a]? = some true := (h a).2 rfl
    have := List.mem_of_getElem? this
    have := List.count_pos_iff.2 this
    omega)⟩
end Go.Proofs.YtagighbfodlcjaaDoor
