/-
  A queue of numbers: a slice of the call's own that is cut in front and appended to.
-/
import Derived.Test.YtagighbfodlcjaaDoorGNear
namespace Go.Proofs.YtagighbfodlcjaaDoor
open Go.RowKit

/-- the slice v holds these numbers, in a block of the call's own -/
def Queue (w : World) (base : Nat) (v : Value) (xs : List Nat) : Prop :=
  ∃ g o c cur, v = .slice (some ⟨g, o, none⟩) xs.length c ∧ base ≤ g ∧ w.heap[g]? = some (.cells cur 3 (0, 0)) ∧ xs.length ≤ c ∧ c ≤ maxLen ∧ o + c ≤ cur.size ∧
    ∀ j, (h : j < xs.length) → cur[o + j]? = some (.int .i64 (xs[j] : Int))

theorem Queue.one (w : World) (n : Nat) (base : Nat) (hb : base ≤ w.heap.size) : Queue (w.alloc (.cells #[.int .i64 (n : Int)] 3)) base (.slice (some ⟨w.heap.size, 0, none⟩) 1 1) [n] :=
  ⟨w.heap.size, 0, 1, _, rfl, hb, heap_new w _, Nat.le_refl _, by decide, Nat.le_refl _, fun j h => by
    obtain rfl : j = 0 := by simpa using h
    rfl⟩

theorem Queue.kept {w w' : World} {base : Nat} {v : Value} {xs : List Nat} {row : Option Nat} (h : Queue w base v xs) (hg : w.grownBy w' row) (hne : v.ownBlock ≠ row) : Queue w' base v xs := by
  obtain ⟨g, o, c, cur, rfl, h1, h2, h3⟩ := h
  exact ⟨g, o, c, cur, rfl, h1, (hg.block g (Array.getElem?_eq_some_iff.1 h2).1 (by simpa [Value.ownBlock] using hne)).trans h2, h3⟩
theorem Queue.below {w w' : World} {base : Nat} {v : Value} {xs : List Nat} (h : Queue w base v xs) (hb : Below w.heap.size w w') : Queue w' base v xs := by
  obtain ⟨g, o, c, cur, rfl, h1, h2, h3⟩ := h
  exact ⟨g, o, c, cur, rfl, h1, (hb.block g (Array.getElem?_eq_some_iff.1 h2).1).trans h2, h3⟩
theorem Queue.lt {w : World} {base : Nat} {v : Value} {xs : List Nat} (h : Queue w base v xs) : ∃ g, v.ownBlock = some g ∧ base ≤ g ∧ g < w.heap.size := by
  obtain ⟨g, o, c, cur, rfl, h1, h2, _⟩ := h
  exact ⟨g, rfl, h1, (Array.getElem?_eq_some_iff.1 h2).1⟩
/-- a block of another kind is none of the queue's -/
theorem Queue.ne {w : World} {base : Nat} {v : Value} {xs : List Nat} (h : Queue w base v xs) {b : Nat} {ob : Obj} (hb : w.heap[b]? = some ob) (hne : ∀ cur, ob ≠ .cells cur 3 (0, 0)) : v.ownBlock ≠ some b := by
  obtain ⟨g, o, c, cur, rfl, h1, h2, _⟩ := h
  intro e
  obtain rfl : g = b := by simpa [Value.ownBlock] using e
  rw [hb] at h2
  exact hne _ (Option.some.inj h2)

/-- its form, its first number, and what is left without it -/
theorem Queue.pop {w : World} {base : Nat} {v : Value} {x : Nat} {xs : List Nat} (h : Queue w base v (x :: xs)) :
    ∃ g o c, v = .slice (some ⟨g, o, none⟩) (xs.length + 1) c ∧ w.cell? ⟨g, o, none⟩ = some (.int .i64 (x : Int)) ∧
      ∃ v', (∀ W : World, (Instr.slice 40 (.slice (some ⟨g, o, none⟩) (xs.length + 1) c) (some (.int .i64 1)) none none).run Tryd.prog W = .ok v' W) ∧ Queue w base v' xs ∧ v'.ownBlock = v.ownBlock := by
  obtain ⟨g, o, c, cur, rfl, h1, h2, h3, h4, h5, h6⟩ := h
  simp only [List.length_cons] at h3 h6
  refine ⟨g, o, c, rfl, ?_, .slice (some ⟨g, if c = 1 then o else o + 1, none⟩) xs.length (c - 1), fun W => ?_, ⟨g, _, c - 1, cur, rfl, h1, h2, by omega, by omega, by split <;> omega, fun j hj => ?_⟩, rfl⟩
  · rw [cell_of h2]
    have := h6 0 (by omega)
    simpa using this
  · have hz : ∀ w, (Go.sizeOf 3).run Tryd.prog w = .ok 1 w := fun w => by kernel_rfl
    have he : Tryd.prog.elem 40 = 3 := by simp [Program.elem, Tryd.underlying40]
    have ht : Tryd.prog.underlying 40 = some (.slice (Tryd.prog.elem 40)) := by rw [he]; exact Tryd.underlying40
    have hlen : (1 : Int) ≤ ((xs.length + 1 : Nat) : Int) := by omega
    rw [run_slice_l W 40 _ _ _ ht .i64 1 (by decide) hlen, he, hz]
    simp only [Result.andThen, sliced]
    by_cases hc : c = 1
    · subst hc; simp
    · have hne : ¬ c = 1 := hc
      simp [Addr.add, hne]
  · split
    · omega
    · have := h6 (j + 1) (by omega)
      simp only [List.getElem_cons_succ] at this
      rw [show o + 1 + j = o + (j + 1) by omega]
      exact this

section
variable (w : World)

theorem Queue.push_room {g o n c : Nat} {cur : Array Value} (h2 : w.heap[g]? = some (.cells cur 3 (0, 0))) (a : Addr) (x : Value) (hx1 : x.oneCell' = true) (hx : w.cell? (a.add 0) = some x) (m : Nat)
    (hroom : n + 1 ≤ c) (hfit : o + n + 1 ≤ cur.size) (ty : TypeId) :
    (Builtin.append_ #[40, 40] ty #[.slice (some ⟨g, o, none⟩) n c, .slice (some a) 1 m]).run Tryd.prog w =
      .ok (.slice (some ⟨g, o, none⟩) (n + 1) c) (w.setRow g (cur.toList.take (o + n) ++ [x] ++ cur.toList.drop (o + n + 1)).toArray) := by
  obtain ⟨i0, hi, hz0, hz1, hz2⟩ := info_parts infoInt
  have hf := run_firstCells_some (P := Tryd.prog) w 1 1 a 1 m [x] rfl (fun j u hj => by
    cases j with
    | zero => simp only [List.getElem?_cons_zero, Option.some.injEq] at hj; subst hj; exact hx
    | succ j => simp at hj)
  have hst := run_storeCells_at Tryd.prog g (o + n) 3 [x] 0 cur w h2 (by simpa using hfit) (fun v hv => by rw [List.mem_singleton.1 hv]; exact hx1)
  simp only [Nat.add_zero, List.length_cons, List.length_nil] at hst
  simp [Builtin.append_, run_underlying Tryd.underlying40, sizeOf, typeInfo, hi, hz1, Builtin.lenOf, hroom, hf, Addr.add_lit, hst]

theorem Queue.push {base : Nat} {v : Value} {xs : List Nat} (h : Queue w base v xs) (hbase : base ≤ w.heap.size) (a : Addr) (n : Nat) (hx : w.cell? (a.add 0) = some (.int .i64 (n : Int))) (m : Nat) (hl : xs.length ≤ 1000) (ty : TypeId) :
    ∃ v' w', (Builtin.append_ #[40, 40] ty #[v, .slice (some a) 1 m]).run Tryd.prog w = .ok v' w' ∧ Queue w' base v' (xs ++ [n]) ∧ w.grownBy w' v.ownBlock ∧ (v'.ownBlock = v.ownBlock ∨ v'.ownBlock = some w.heap.size) := by
  obtain ⟨g, o, c, cur, rfl, h1, h2, h3, h4, h5, h6⟩ := h
  obtain ⟨i0, hi, hz0, hz1, hz2⟩ := info_parts infoInt
  by_cases hroom : xs.length + 1 ≤ c
  · have hr := Queue.push_room w (o := o) (n := xs.length) (c := c) h2 a (.int .i64 (n : Int)) rfl hx m hroom (by omega) ty
    refine ⟨_, _, hr, ⟨g, o, c, _, by simp, h1, setRow_heap w g cur _ 3 _ h2, by simpa using hroom, h4, ?_, fun j hj => ?_⟩, ⟨rfl, rfl, rfl, by simp, fun k _ hk => setRow_other w g k _ (fun e => hk (by simp [Value.ownBlock, e]))⟩, .inl rfl⟩
    · simp only [List.size_toArray, List.length_append, List.length_take, List.length_drop, Array.length_toList, List.length_cons, List.length_nil]
      omega
    · simp only [List.length_append, List.length_cons, List.length_nil] at hj
      have hA : (cur.toList.take (o + xs.length)).length = o + xs.length := by rw [List.length_take, show cur.toList.length = cur.size from Array.length_toList]; omega
      rw [List.getElem?_toArray, List.append_assoc]
      by_cases hjl : j < xs.length
      · have hlt : o + j < (cur.toList.take (o + xs.length)).length := by omega
        rw [List.getElem?_append_left hlt, List.getElem?_take, if_pos (by omega), Array.getElem?_toList, h6 j hjl, List.getElem_append_left hjl]
      · have e2 : (xs ++ [n])[j]'(by simp; omega) = n := by
          rw [List.getElem_append_right (by omega)]
          simp
        have hge : (cur.toList.take (o + xs.length)).length ≤ o + j := by omega
        rw [e2, List.getElem?_append_right hge, hA, show o + j - (o + xs.length) = 0 by omega]
        simp
  · have hml : (1001 : Nat) ≤ maxLen := by decide
    have hr := run_append_grow (P := Tryd.prog) w 40 ty 3 i0 (.int .i64 0) Tryd.underlying40 hi hz0 ⟨g, o, none⟩ xs.length c (xs.map fun (k : Nat) => Value.int .i64 (k : Int)) (by rw [hz1]; simp) (fun j u hj => by
        rw [List.getElem?_map] at hj
        cases hjx : xs[j]? with
        | none => rw [hjx] at hj; cases hj
        | some y =>
          rw [hjx] at hj
          obtain ⟨hjl, rfl⟩ := List.getElem?_eq_some_iff.1 hjx
          simp only [Option.map_some, Option.some.injEq] at hj
          subst hj
          rw [show ((⟨g, o, none⟩ : Addr).add j) = ⟨g, o + j, none⟩ by unfold Addr.add; split <;> simp_all, cell_of h2]
          exact h6 j hjl) a 1 m [.int .i64 (n : Int)] (by rw [hz1]; rfl) (fun j u hj => by
        cases j with
        | zero => simp only [List.getElem?_cons_zero, Option.some.injEq] at hj; subst hj; exact hx
        | succ j => simp at hj) (by omega) (by omega) (growslice_fits (by omega) (by rw [hz2]; omega))
    have hge := grownCap_ge w (xs.length + 1) c 3
    have hcm : grownCap w (xs.length + 1) c 3 ≤ maxLen := grownCap_le_maxLen w (xs.length + 1) c 3 (by omega)
    refine ⟨_, _, hr, ⟨w.heap.size, 0, _, _, by simp, hbase, heap_new w.drew _, by simpa using hge, hcm, ?_, fun j hj => ?_⟩, ⟨rfl, rfl, rfl, by simp, fun k hk _ => Below.heap_alloc w.drew _ k hk⟩, .inr rfl⟩
    · simp only [Array.size_append, List.size_toArray, size_zeroCells, List.length_map, List.length_cons, List.length_nil, Value.cells]
      simp
      omega
    · simp only [List.length_append, List.length_cons, List.length_nil] at hj
      rw [Nat.zero_add, Array.getElem?_append_left (by simp; omega)]
      by_cases hjl : j < xs.length
      · rw [Array.getElem?_append_left (by simpa using hjl), List.getElem?_toArray, List.getElem?_map, List.getElem?_eq_getElem hjl, List.getElem_append_left hjl]
        rfl
      · have e2 : (xs ++ [n])[j]'(by simp; omega) = n := by
          rw [List.getElem_append_right (by omega)]
          simp
        have hsz : (xs.map fun (k : Nat) => Value.int .i64 (k : Int)).toArray.size = xs.length := by simp
        have hj2 : j < xs.length + 1 := by simpa using hj
        rw [e2, Array.getElem?_append_right (by omega), hsz, show j - xs.length = 0 by omega]
        rfl

theorem wpList_append_queue {ops : Array Oper} {rest : List Oper} {o : Oper} {a : Act} {Q : Exit → Act → World → Prop} (hgd : o.guard = none) (s x : Operand)
    (ho : o.op = .call { callee := .builtin .append, args := #[s, x], argTypes := #[40, 40] })
    (base : Nat) (v : Value) (xs : List Nat) (hs : a.eval s = v) (h : Queue w base v xs) (hbase : base ≤ w.heap.size) (ad : Addr) (n m : Nat) (hx : a.eval x = .slice (some ad) 1 m) (hc : w.cell? (ad.add 0) = some (.int .i64 (n : Int))) (hl : xs.length ≤ 1000)
    (hk : ∀ v' w', Queue w' base v' (xs ++ [n]) → w.grownBy w' v.ownBlock → (v'.ownBlock = v.ownBlock ∨ v'.ownBlock = some w.heap.size) → wpList Tryd.prog ops Q rest (a.put o.dst v') w') : wpList Tryd.prog ops Q (o :: rest) a w := by
  obtain ⟨v', w', hrun, h2, h3, h4⟩ := h.push w hbase ad n hc m hl o.type
  refine wpList_plain hgd fun _ hK => ?_
  unfold Oper.wp execOp
  simp only [ho, resolve, invoke, builtin, Sem.run_bind, Sem.run_pure, Result.andThen_ok, List.map_toArray, List.map_cons, List.map_nil, hs, hx, hrun]
  exact hK _ _ (hk v' w' h2 h3 h4)
end
end Go.Proofs.YtagighbfodlcjaaDoor
