/-
  grid.Parse.
-/
import Derived.Test.YtagighbfodlcjaaDoorGParseP
import Derived.Test.YtagighbfodlcjaaDoorRange
import Derived.RangeFuncCalls
import Derived.OwnWalkIn
import Derived.TacticsInMore
namespace Go.Proofs.YtagighbfodlcjaaDoor
open Go.RowKit Go.Shelf
attribute [local go_sem] Oper.semAt_some

/-- what lies between two rounds: the results' boxes, the map as far as it is read, the iterator's own box -/
structure ParI (w : World) (pre : List ByteArray) (W : World) : Prop where
  r0 : W.heap[w.heap.size]? = some (.cells #[.int .i64 0, .int .i64 0, .string ⟨#[]⟩] 29 (0, 0))
  r1 : Boxed W (w.heap.size + 1) 26 .nilIface
  m : ∃ st : PS, foldP pre PS0 = some st ∧ W.heap[w.heap.size + 1 + 1]? = some (.cells #[.int .i64 (st.w : Int), .int .i64 (st.h : Int), .string st.c] 29 (0, 0))
  bx : ∃ u, Boxed W (w.heap.size + 1 + 1 + 1) 9 u
  bel : Below w.heap.size w W

/-- a round has left: the results lie in their boxes -/
structure ParX (w : World) (pre : List ByteArray) (W : World) : Prop where
  r0 : W.heap[w.heap.size]? = some (.cells #[.int .i64 0, .int .i64 0, .string ⟨#[]⟩] 29 (0, 0))
  r1 : ∃ v, Boxed W (w.heap.size + 1) 26 v ∧ IsErr W 2 v
  bad : foldP pre PS0 = none
  bel : Below w.heap.size w W

def ParLeft (B : Nat) (w W : World) (xs : List ByteArray) (Wf : World) : Prop := KeepsFrom B W Wf ∧ ParX w xs Wf

theorem block_ne {W : World} {b : Nat} {cs : Array Value} {t : TypeId} {row : Option Nat} (h : W.heap[b]? = some (.cells cs t (0, 0))) (hr : ∀ k, row = some k → ∃ o, W.heap[k]? = some o ∧ o.isCells = false) : some b ≠ row := fun e => by
  obtain ⟨o, ho, hc⟩ := hr _ e.symm
  rw [h] at ho; cases ho; cases hc

theorem own_parI (w : World) (B : Nat) (hB : w.heap.size ≤ B) : OwnFrom B (ParI w) := fun s W W' row h hg hr => by
  have hr' : ∀ k, row = some k → ∃ o, W.heap[k]? = some o ∧ o.isCells = false := fun k e => (hr k e).2
  obtain ⟨st, h1, h2⟩ := h.m
  obtain ⟨u, hu⟩ := h.bx
  have kp : ∀ {b : Nat} {cs : Array Value} {t : TypeId}, W.heap[b]? = some (.cells cs t (0, 0)) → W'.heap[b]? = some (.cells cs t (0, 0)) := fun hb => (hg.block _ (Array.getElem?_eq_some_iff.1 hb).1 (block_ne hb hr')).trans hb
  exact ⟨kp h.r0, kp h.r1, ⟨st, h1, kp h2⟩, ⟨u, kp hu⟩, h.bel.grown hg h.bel.size (fun k e => by have := (hr k e).1; omega)⟩

theorem own_parX (w : World) (B : Nat) (hB : w.heap.size ≤ B) : OwnFrom B (ParX w) := fun s W W' row h hg hr => by
  have hr' : ∀ k, row = some k → ∃ o, W.heap[k]? = some o ∧ o.isCells = false := fun k e => (hr k e).2
  have kp : ∀ {b : Nat} {cs : Array Value} {t : TypeId}, W.heap[b]? = some (.cells cs t (0, 0)) → W'.heap[b]? = some (.cells cs t (0, 0)) := fun hb => (hg.block _ (Array.getElem?_eq_some_iff.1 hb).1 (block_ne hb hr')).trans hb
  obtain ⟨v, hv, b, x, he, hc⟩ := h.r1
  exact ⟨kp h.r0, ⟨v, kp hv, b, x, he, kp hc⟩, h.bad, h.bel.grown hg h.bel.size (fun k e => by have := (hr k e).1; omega)⟩

def ParPost (s : ByteArray) (w : World) (e : Ending) (w' : World) : Prop :=
  (∃ st : PS, parseP s = some st ∧ e = .returned (.tuple #[.agg #[.int .i64 (st.w : Int), .int .i64 (st.h : Int), .string st.c], .nilIface]) ∧ Below w.heap.size w w') ∨
  (∃ v, parseP s = none ∧ e = .returned (.tuple #[.agg #[.int .i64 0, .int .i64 0, .string ⟨#[]⟩], v]) ∧ IsErr w' 2 v ∧ Below w.heap.size w w')

theorem set3 {W : World} {b : Nat} {x y z x' y' z' : Value} {t : TypeId} (h : W.heap[b]? = some (.cells #[x, y, z] t (0, 0))) :
    (((W.setCell ⟨b, 0, none⟩ x').setCell ⟨b, 1, none⟩ y').setCell ⟨b, 2, none⟩ z').heap[b]? = some (.cells #[x', y', z'] t (0, 0)) ∧
      ∀ k, k ≠ b → (((W.setCell ⟨b, 0, none⟩ x').setCell ⟨b, 1, none⟩ y').setCell ⟨b, 2, none⟩ z').heap[k]? = W.heap[k]? := by
  refine ⟨?_, fun k hk => ?_⟩
  · have h1 := heap_set (heap_set (heap_set h 0 x') 1 y') 2 z'
    simpa using h1
  · exact (Below.heap_setCell _ _ _ k hk).trans ((Below.heap_setCell _ _ _ k hk).trans (Below.heap_setCell _ _ _ k hk))

/-- a round that goes on -/
theorem par_good {w W : World} {pre : List ByteArray} {x : ByteArray} {st : PS} (h : ParI w pre W) (h1 : foldP pre PS0 = some st) (h2 : W.heap[w.heap.size + 1 + 1]? = some (.cells #[.int .i64 (st.w : Int), .int .i64 (st.h : Int), .string st.c] 29 (0, 0)))
    (hs : stepP st x = some ⟨(rowOf x).size, st.h + 1, st.c ++ rowOf x⟩) (B : Nat) :
    KeepsFrom B W (((W.setCell ⟨w.heap.size + 1 + 1, 0, none⟩ (.int .i64 ((rowOf x).size : Int))).setCell ⟨w.heap.size + 1 + 1, 1, none⟩ (.int .i64 ((st.h : Int) + 1))).setCell ⟨w.heap.size + 1 + 1, 2, none⟩ (.string (st.c ++ rowOf x))) ∧
    (((W.setCell ⟨w.heap.size + 1 + 1, 0, none⟩ (.int .i64 ((rowOf x).size : Int))).setCell ⟨w.heap.size + 1 + 1, 1, none⟩ (.int .i64 ((st.h : Int) + 1))).setCell ⟨w.heap.size + 1 + 1, 2, none⟩ (.string (st.c ++ rowOf x))).heap[w.heap.size + 1 + 1 + 1]? = W.heap[w.heap.size + 1 + 1 + 1]? ∧
    ParI w (pre ++ [x]) (((W.setCell ⟨w.heap.size + 1 + 1, 0, none⟩ (.int .i64 ((rowOf x).size : Int))).setCell ⟨w.heap.size + 1 + 1, 1, none⟩ (.int .i64 ((st.h : Int) + 1))).setCell ⟨w.heap.size + 1 + 1, 2, none⟩ (.string (st.c ++ rowOf x))) := by
  obtain ⟨k1, k2⟩ := set3 (x' := .int .i64 ((rowOf x).size : Int)) (y' := .int .i64 ((st.h : Int) + 1)) (z' := .string (st.c ++ rowOf x)) h2
  refine ⟨(((KeepsOthers.setCell _ _ _).trans (KeepsOthers.setCell _ _ _)).trans (KeepsOthers.setCell _ _ _)).from _, k2 _ (by omega), (k2 _ (by omega)).trans h.r0, (k2 _ (by omega)).trans h.r1, ⟨_, by rw [foldP_snoc, h1]; exact hs, by simpa using k1⟩, ?_, ?_⟩
  · obtain ⟨u, hu⟩ := h.bx
    exact ⟨u, (k2 _ (by omega)).trans hu⟩
  · exact ((h.bel.setCell (p := ⟨w.heap.size + 1 + 1, 0, none⟩) (by show w.heap.size ≤ w.heap.size + 1 + 1; omega) _).setCell (p := ⟨w.heap.size + 1 + 1, 1, none⟩) (by show w.heap.size ≤ w.heap.size + 1 + 1; omega) _).setCell (p := ⟨w.heap.size + 1 + 1, 2, none⟩) (by show w.heap.size ≤ w.heap.size + 1 + 1; omega) _

theorem undef_no {b : Bool} (h : some undef = some (Value.bool b)) : False := by
  unfold undef at h
  cases h

/-- a round that is left -/
theorem par_bad {w W W1 : World} {pre : List ByteArray} {x : ByteArray} {st : PS} (h : ParI w pre W) (h1 : foldP pre PS0 = some st) (hs : stepP st x = none) (hb1 : Below w.heap.size w W1) (hk1 : KeepsOthers W W1)
    (hE : W1.heap[W.heap.size]? = some (.cells #[.string ⟨#[103, 114, 105, 100]⟩, .iface 51 (.int .i64 2)] 85 (0, 0)))
    (hr0 : W1.heap[w.heap.size]? = some (.cells #[.int .i64 0, .int .i64 0, .string ⟨#[]⟩] 29 (0, 0))) (hr1 : Boxed W1 (w.heap.size + 1) 26 .nilIface) (B : Nat) :
    KeepsFrom B W ((((W1.setCell ⟨w.heap.size, 0, none⟩ (.int .i64 0)).setCell ⟨w.heap.size, 1, none⟩ (.int .i64 0)).setCell ⟨w.heap.size, 2, none⟩ (.string ⟨#[]⟩)).setCell ⟨w.heap.size + 1, 0, none⟩ (.iface 83 (.pointer (some ⟨W.heap.size, 0, none⟩)))) ∧
    ParX w (pre ++ [x]) ((((W1.setCell ⟨w.heap.size, 0, none⟩ (.int .i64 0)).setCell ⟨w.heap.size, 1, none⟩ (.int .i64 0)).setCell ⟨w.heap.size, 2, none⟩ (.string ⟨#[]⟩)).setCell ⟨w.heap.size + 1, 0, none⟩ (.iface 83 (.pointer (some ⟨W.heap.size, 0, none⟩)))) := by
  obtain ⟨k1, k2⟩ := set3 (x' := .int .i64 0) (y' := .int .i64 0) (z' := .string ⟨#[]⟩) hr0
  have hlt := (Array.getElem?_eq_some_iff.1 h.r0).1
  have hlt1 := h.r1.lt
  have hr1' : Boxed (((W1.setCell ⟨w.heap.size, 0, none⟩ (.int .i64 0)).setCell ⟨w.heap.size, 1, none⟩ (.int .i64 0)).setCell ⟨w.heap.size, 2, none⟩ (.string ⟨#[]⟩)) (w.heap.size + 1) 26 .nilIface := (k2 _ (by omega)).trans hr1
  refine ⟨(hk1.trans ((((KeepsOthers.setCell _ _ _).trans (KeepsOthers.setCell _ _ _)).trans (KeepsOthers.setCell _ _ _)).trans (KeepsOthers.setCell _ _ _))).from _, (Below.heap_setCell _ _ _ _ (by simp)).trans k1, ⟨_, hr1'.set _, W.heap.size, ⟨#[103, 114, 105, 100]⟩, rfl, ?_⟩, ?_, ?_⟩
  · exact (Below.heap_setCell _ _ _ _ (by simp; omega)).trans ((k2 _ (by omega)).trans hE)
  · rw [foldP_snoc, h1]; exact hs
  · exact (((hb1.setCell (p := ⟨w.heap.size, 0, none⟩) (Nat.le_refl _) _).setCell (p := ⟨w.heap.size, 1, none⟩) (Nat.le_refl _) _).setCell (p := ⟨w.heap.size, 2, none⟩) (Nat.le_refl _) _).setCell (p := ⟨w.heap.size + 1, 0, none⟩) (by show w.heap.size ≤ w.heap.size + 1; omega) _

/-- what the boxes hold, as the walk asks it -/
structure ParC (b : Nat) (x y z : Value) (W : World) : Prop where
  c00 : W.cell? ⟨b, 0, none⟩ = some (.int .i64 0)
  c01 : W.cell? ⟨b, 1, none⟩ = some (.int .i64 0)
  c02 : W.cell? ⟨b, 2, none⟩ = some (.string ⟨#[]⟩)
  f00 : W.frozen? ⟨b, 0, none⟩ = false
  f01 : W.frozen? ⟨b, 1, none⟩ = false
  f02 : W.frozen? ⟨b, 2, none⟩ = false
  c1 : W.cell? ⟨b + 1, 0, none⟩ = some .nilIface
  f1 : W.frozen? ⟨b + 1, 0, none⟩ = false
  c20 : W.cell? ⟨b + 1 + 1, 0, none⟩ = some x
  c21 : W.cell? ⟨b + 1 + 1, 1, none⟩ = some y
  c22 : W.cell? ⟨b + 1 + 1, 2, none⟩ = some z
  r0 : W.heap[b]? = some (.cells #[.int .i64 0, .int .i64 0, .string ⟨#[]⟩] 29 (0, 0))
  r1 : Boxed W (b + 1) 26 .nilIface

theorem par_cells {w W W' : World} {pre : List ByteArray} {x y z : Value} (h : ParI w pre W) (h2 : W.heap[w.heap.size + 1 + 1]? = some (.cells #[x, y, z] 29 (0, 0))) (hb : Below W.heap.size W W') : ParC w.heap.size x y z W' := by
  have kp : ∀ {k : Nat} {o : Obj}, W.heap[k]? = some o → W'.heap[k]? = some o := fun hk => (hb.block _ (Array.getElem?_eq_some_iff.1 hk).1).trans hk
  have r0 := kp h.r0
  have r1 : Boxed W' (w.heap.size + 1) 26 .nilIface := kp h.r1
  have r2 := kp h2
  exact ⟨cell_of r0 0, cell_of r0 1, cell_of r0 2, free_of r0 0, free_of r0 1, free_of r0 2, r1.cell, r1.frozen, cell_of r2 0, cell_of r2 1, cell_of r2 2, r0, r1⟩

theorem tag_grid (n : Int) (W : World) : Calls Tryd.prog 24 #[.string ⟨#[103, 114, 105, 100]⟩, .iface 51 (.int .i64 n)] W fun e w' => e = .returned (.iface 83 (.pointer (some ⟨W.heap.size, 0, none⟩))) ∧
    w'.heap[W.heap.size]? = some (.cells #[.string ⟨#[103, 114, 105, 100]⟩, .iface 51 (.int .i64 n)] 85 (0, 0)) ∧ Below W.heap.size W w' :=
  (tag_any ⟨#[103, 114, 105, 100]⟩ n W).mono fun e w' ⟨he, hw⟩ => ⟨he, by rw [hw]; exact heap_new _ _, by rw [hw]; exact (Below.refl _ _).alloc (Nat.le_refl _) _⟩

theorem cut_line (x : ByteArray) (hx : x.size ≤ 1000000) (W : World) : Calls Tryd.prog 30 #[.string x, .string ⟨#[10]⟩] W fun e w' => e = .returned (.tuple #[.string (rowOf x), .bool (ended x)]) ∧ W = w' :=
  (Tryd.strings_CutSuffix x ⟨#[10]⟩ W (by omega)).mono fun e w' ⟨he, hw⟩ => ⟨he, hw.symm⟩

set_option maxRecDepth 100000 in
set_option maxHeartbeats 2000000 in
theorem parse_any (s : ByteArray) (hs : s.size ≤ 1000) (w : World) :
    Calls Tryd.prog 11 #[.string s] w (ParPost s w) := by
  refine (callsIn_wide (n := 20)).1 ?_
  refine callsIn_of_wp_marks Tryd.func11 rfl trivial ?_ rfl
  simp only [Tryd.ntmps11, List.size_toArray, List.length_cons, List.length_nil, Nat.reduceAdd, Nat.reduceSub, Array.replicate_succ, Array.replicate_zero, List.push_toArray, List.append_toArray, List.nil_append, List.cons_append]
  gi_wp2_with (refine ⟨trivial, ?_⟩; refine (callsIn_wide.2 (lines_any s _)).mono ?_; rintro e w1 ⟨rfl, rfl⟩)
  obtain ⟨W0, hW0⟩ : ∃ W0, ((((w.alloc (Obj.cells #[Value.int IntKind.i64 0, Value.int IntKind.i64 0, Value.string ⟨#[]⟩] 29)).alloc (Obj.cells #[Value.nilIface] 26)).alloc (Obj.cells #[Value.int IntKind.i64 0, Value.int IntKind.i64 0, Value.string ⟨#[]⟩] 29)).alloc (Obj.cells #[.string s] 9)) = W0 := ⟨_, rfl⟩
  have hsz : W0.heap.size = w.heap.size + 1 + 1 + 1 + 1 := by rw [← hW0]; simp
  have hbx : W0.heap[w.heap.size + 1 + 1 + 1]? = some (.cells #[.string s] 9 (0, 0)) := by
    rw [← hW0]
    have q := heap_new (((w.alloc (Obj.cells #[Value.int IntKind.i64 0, Value.int IntKind.i64 0, Value.string ⟨#[]⟩] 29)).alloc (Obj.cells #[Value.nilIface] 26)).alloc (Obj.cells #[Value.int IntKind.i64 0, Value.int IntKind.i64 0, Value.string ⟨#[]⟩] 29)) (Obj.cells #[.string s] 9)
    simpa only [World.size_alloc] using q
  have hI0 : ParI w [] W0 := by
    have q0 := heap_new w (Obj.cells #[Value.int IntKind.i64 0, Value.int IntKind.i64 0, Value.string ⟨#[]⟩] 29)
    have q1 := heap_new (w.alloc (Obj.cells #[Value.int IntKind.i64 0, Value.int IntKind.i64 0, Value.string ⟨#[]⟩] 29)) (Obj.cells #[Value.nilIface] 26)
    have q2 := heap_new ((w.alloc (Obj.cells #[Value.int IntKind.i64 0, Value.int IntKind.i64 0, Value.string ⟨#[]⟩] 29)).alloc (Obj.cells #[Value.nilIface] 26)) (Obj.cells #[Value.int IntKind.i64 0, Value.int IntKind.i64 0, Value.string ⟨#[]⟩] 29)
    simp only [World.size_alloc] at q1 q2
    have lo : ∀ (W : World) (o o' : Obj) (k : Nat), W.heap[k]? = some o → (W.alloc o').heap[k]? = some o := fun W o o' k hk => (Below.heap_alloc _ _ _ (Array.getElem?_eq_some_iff.1 hk).1).trans hk
    refine ⟨?_, ?_, ⟨PS0, rfl, ?_⟩, ⟨_, hbx⟩, ?_⟩
    · rw [← hW0]; exact lo _ _ _ _ (lo _ _ _ _ (lo _ _ _ _ q0))
    · show W0.heap[_]? = _
      rw [← hW0]; exact lo _ _ _ _ (lo _ _ _ _ q1)
    · rw [← hW0]; exact lo _ _ _ _ q2
    · rw [← hW0]; exact ((((Below.refl _ w).alloc (Nat.le_refl _) _).alloc (by simp) _).alloc (by simp; omega) _).alloc (by simp; omega) _
  rw [hW0]
  clear hW0
  refine range_box (bx := w.heap.size + 1 + 1 + 1) rfl (by omega) (gf := 49) (lb := #[.pointer (some ⟨w.heap.size + 1 + 1 + 1, 0, none⟩)]) rfl trivial (enters_of Tryd.func49 (by kernel_rfl) rfl)
    (by omega) (lines_seq _ (by omega) _ s (by omega) _ hbx) (fun _ => rfl) (ParI w) (fun c pre W => c = .ret ∧ ParX w pre W) (own_parI w _ (by omega)) ?abide (fun c s A B row hs hg hr => ⟨hs.1, own_parX w _ (by omega) s A B row hs.2 hg hr⟩) hI0
    (fun x => { tmps := #[.string s, undef, .pointer (some ⟨w.heap.size, 0, none⟩), .pointer (some ⟨w.heap.size + 1, 0, none⟩), .pointer (some ⟨w.heap.size + 1 + 1, 0, none⟩), .string x, undef, undef, .string s, .func (.func 49) #[] #[.pointer (some ⟨w.heap.size + 1 + 1 + 1, 0, none⟩)], .string x, undef, undef, undef, undef, undef, undef, undef, undef, undef, undef, undef, undef, undef, undef, undef, undef, undef, undef, undef, undef, undef, undef, undef, undef, undef, undef, undef, undef, undef, undef, undef, undef, undef, undef, undef, undef, undef, undef, undef, undef, undef, undef, undef, undef, undef, undef], defers := [] }) ?assign ?body ?done ?stop
  case abide =>
    intro pre A v h
    obtain ⟨st, h1, h2⟩ := h.m
    obtain ⟨z, hz⟩ := h.bx
    have far : ∀ {b : Nat} {o : Obj}, b ≠ w.heap.size + 1 + 1 + 1 → A.heap[b]? = some o → (A.setCell ⟨w.heap.size + 1 + 1 + 1, 0, none⟩ v).heap[b]? = some o := fun hb ho => (Below.heap_setCell _ _ _ _ (by simpa using hb)).trans ho
    exact ⟨far (by omega) h.r0, far (by omega) h.r1, ⟨st, h1, far (by omega) h2⟩, ⟨_, hz.set v⟩, h.bel.setCell (p := ⟨w.heap.size + 1 + 1 + 1, 0, none⟩) (by show w.heap.size ≤ w.heap.size + 1 + 1 + 1; omega) v⟩
  case assign =>
    intro l x W K hK
    gi_wp2
    exact hK
  case body =>
    rintro l pre x W h hpre
    obtain ⟨st, h1, h2⟩ := h.m
    have hmem : ∀ y ∈ pre ++ [x], y.size ≤ 1000 := fun y hy => by
      have := linesB_mem (s := s) (x := y) (hpre.subset hy)
      omega
    obtain ⟨k1, k2, k3⟩ := foldP_ok pre PS0 st h1 (fun y hy => hmem y (by simp [hy])) (by decide) (by decide) (by decide)
    have hxs : x.size ≤ 1000 := hmem x (by simp)
    have hrs := row_le x
    have hsn := foldP_snoc pre x PS0
    rw [h1] at hsn
    have hcut := cut_line x (by omega) W
    have c00 := cell_of h.r0 0
    have c01 := cell_of h.r0 1
    have c02 := cell_of h.r0 2
    have f00 := free_of h.r0 0
    have f01 := free_of h.r0 1
    have f02 := free_of h.r0 2
    have c1 := h.r1.cell
    have f1 := h.r1.frozen
    have c20 := cell_of h2 0
    have c21 := cell_of h2 1
    have c22 := cell_of h2 2
    have f20 := free_of h2 0
    have f21 := free_of h2 1
    have f22 := free_of h2 2
    simp only [List.getElem?_toArray, List.getElem?_cons_zero, List.getElem?_cons_succ] at c00 c01 c02 c20 c21 c22
    have HSN := Lib.hid hsn
    have HP := Lib.hid h
    have H1 := Lib.hid h1
    have H2 := Lib.hid h2
    clear hsn h1 h2
    obtain ⟨W1, hW1⟩ : ∃ W1, W.alloc (.cells #[.string ⟨#[103, 114, 105, 100]⟩, .iface 51 (.int .i64 2)] 85) = W1 := ⟨_, rfl⟩
    have htag : Calls Tryd.prog 24 #[.string ⟨#[103, 114, 105, 100]⟩, .iface 51 (.int .i64 2)] W fun e w' => e = .returned (.iface 83 (.pointer (some ⟨W.heap.size, 0, none⟩))) ∧ W1 = w' :=
      (tag_any ⟨#[103, 114, 105, 100]⟩ 2 W).mono fun e w' ⟨he, hw⟩ => ⟨he, by rw [hw, hW1]⟩
    have hlo : ∀ {k : Nat} {o : Obj}, W.heap[k]? = some o → W1.heap[k]? = some o := fun hk => by rw [← hW1]; exact (Below.heap_alloc _ _ _ (Array.getElem?_eq_some_iff.1 hk).1).trans hk
    have hE1 : W1.heap[W.heap.size]? = some (.cells #[.string ⟨#[103, 114, 105, 100]⟩, .iface 51 (.int .i64 2)] 85 (0, 0)) := by rw [← hW1]; exact heap_new _ _
    have hz1 : W.heap.size < W1.heap.size := by rw [← hW1]; simp
    have hb1 : Below w.heap.size w W1 := by rw [← hW1]; exact h.bel.alloc h.bel.size _
    have hk1 : KeepsOthers W W1 := by rw [← hW1]; exact KeepsOthers.alloc _ _
    have r0' := hlo h.r0
    have r1' : Boxed W1 (w.heap.size + 1) 26 .nilIface := hlo h.r1
    have hlt0 := (Array.getElem?_eq_some_iff.1 h.r0).1
    have hlt1 := h.r1.lt
    have d00 := cell_of r0' 0
    have d01 := cell_of r0' 1
    have d02 := cell_of r0' 2
    have g00 := free_of r0' 0
    have g01 := free_of r0' 1
    have g02 := free_of r0' 2
    have d1 := r1'.cell
    have g1 := r1'.frozen
    simp only [List.getElem?_toArray, List.getElem?_cons_zero, List.getElem?_cons_succ] at d00 d01 d02
    have HR0 := Lib.hid r0'
    have HR1 := Lib.hid r1'
    have HE1 := Lib.hid hE1
    clear hW1 r0' r1' hE1 hlo c00 c01 c02 f00 f01 f02 c1 f1
    have hcat : ¬ 9223372036854775807 < st.c.size + (rowOf x).size := by omega
    by_cases he : ended x = true
    · by_cases hh : 0 < st.h
      · by_cases hw : (rowOf x).size = st.w
        · by_cases h8 : st.h = 8
          · have hh' : (0 : Int) < (st.h : Int) := by omega
            have hh8 : ((st.h : Int) == 8) = true := by rw [h8]; rfl
            have hw1 : (((rowOf x).size : Int) != (st.w : Int)) = false := by rw [hw]; simp
            have hst : stepP st x = none := by unfold stepP; rw [if_neg fun h => h.2.2 h8]
            have HS := Lib.hid hst
            have HW := Lib.hid hw
            have H8 := Lib.hid h8
            rw [he] at hcut
            clear he hh hst hw h8
            gi_wp2_with (first
              | (refine ⟨trivial, ?_⟩; (with_reducible refine (CallsIn.inRound l (callsIn_wide.2 hcut)).mono ?_); rintro e w' ⟨rfl, rfl⟩)
              | (refine ⟨trivial, ?_⟩; (with_reducible refine (CallsIn.inRound l (callsIn_wide.2 htag)).mono ?_); rintro e w' ⟨rfl, rfl⟩))
            exact ⟨(par_bad HP.out H1.out HS.out hb1 hk1 HE1.out HR0.out HR1.out _).1, rfl, (par_bad HP.out H1.out HS.out hb1 hk1 HE1.out HR0.out HR1.out 0).2⟩
          · have hh' : (0 : Int) < (st.h : Int) := by omega
            have hh8 : ((st.h : Int) == 8) = false := by rw [beq_eq_false_iff_ne]; omega
            have hw1 : (((rowOf x).size : Int) != (st.w : Int)) = false := by rw [hw]; simp
            have hst : stepP st x = some ⟨(rowOf x).size, st.h + 1, st.c ++ rowOf x⟩ := by unfold stepP; rw [if_pos ⟨he, fun _ => hw, h8⟩]
            have HS := Lib.hid hst
            have HW := Lib.hid hw
            rw [he] at hcut
            clear he hh hst hw h8
            gi_wp2_with (refine ⟨trivial, ?_⟩; refine (CallsIn.inRound l (callsIn_wide.2 hcut)).mono ?_; rintro e w' ⟨rfl, rfl⟩)
            exact par_good HP.out H1.out H2.out HS.out _
        · have hh' : (0 : Int) < (st.h : Int) := by omega
          have hw1 : (((rowOf x).size : Int) != (st.w : Int)) = true := by rw [bne_iff_ne]; omega
          have hst : stepP st x = none := by unfold stepP; rw [if_neg fun h => hw (h.2.1 hh)]
          have HS := Lib.hid hst
          have HW := Lib.hid hw
          rw [he] at hcut
          clear he hh hst hw
          gi_wp2_with (first
            | (refine ⟨trivial, ?_⟩; (with_reducible refine (CallsIn.inRound l (callsIn_wide.2 hcut)).mono ?_); rintro e w' ⟨rfl, rfl⟩)
            | (refine ⟨trivial, ?_⟩; (with_reducible refine (CallsIn.inRound l (callsIn_wide.2 htag)).mono ?_); rintro e w' ⟨rfl, rfl⟩))
          exact ⟨(par_bad HP.out H1.out HS.out hb1 hk1 HE1.out HR0.out HR1.out _).1, rfl, (par_bad HP.out H1.out HS.out hb1 hk1 HE1.out HR0.out HR1.out 0).2⟩
      · have hh' : ¬ (0 : Int) < (st.h : Int) := by omega
        have hh8 : ((st.h : Int) == 8) = false := by rw [beq_eq_false_iff_ne]; omega
        have hst : stepP st x = some ⟨(rowOf x).size, st.h + 1, st.c ++ rowOf x⟩ := by unfold stepP; rw [if_pos ⟨he, fun h => (hh h).elim, by omega⟩]
        have HS := Lib.hid hst
        rw [he] at hcut
        clear he hh hst
        gi_wp2_with (refine ⟨trivial, ?_⟩; refine (CallsIn.inRound l (callsIn_wide.2 hcut)).mono ?_; rintro e w' ⟨rfl, rfl⟩)
        exact par_good HP.out H1.out H2.out HS.out _
    · have hef : ended x = false := by simpa using he
      have hst : stepP st x = none := by unfold stepP; rw [if_neg fun h => he h.1]
      have HS := Lib.hid hst
      rw [hef] at hcut
      clear he hef hst
      gi_wp2_with (first
        | (refine ⟨trivial, ?_⟩; (with_reducible refine (CallsIn.inRound l (callsIn_wide.2 hcut)).mono ?_); rintro e w' ⟨rfl, rfl⟩)
        | (refine ⟨trivial, ?_⟩; (with_reducible refine (CallsIn.inRound l (callsIn_wide.2 htag)).mono ?_); rintro e w' ⟨rfl, rfl⟩))
      all_goals first
        | exact (undef_no (by assumption)).elim
        | exact ⟨(par_bad HP.out H1.out HS.out hb1 hk1 HE1.out HR0.out HR1.out _).1, rfl, (par_bad HP.out H1.out HS.out hb1 hk1 HE1.out HR0.out HR1.out 0).2⟩
  case done =>
    rintro D xs W hD rfl h hK
    obtain ⟨st, h1, h2⟩ := h.m
    have hmem : ∀ y ∈ linesB s, y.size ≤ 1000 := fun y hy => by
      have := linesB_mem (s := s) (x := y) hy
      omega
    obtain ⟨k1, k2, k3⟩ := foldP_ok (linesB s) PS0 st h1 hmem (by decide) (by decide) (by decide)
    have c20 := cell_of h2 0
    have c21 := cell_of h2 1
    have c22 := cell_of h2 2
    simp only [List.getElem?_toArray, List.getElem?_cons_zero, List.getElem?_cons_succ] at c20 c21 c22
    have hrt := right_any (st.w : Int) (st.h : Int) st.c (by omega) W
    have hpp : parseP s = if rightB (st.w : Int) (st.h : Int) st.c = true then some st else none := by unfold parseP; rw [h1]
    have HH := Lib.hid h
    have H1 := Lib.hid h1
    have H2 := Lib.hid h2
    have HPP := Lib.hid hpp
    clear h1 h2 hpp
    cases hr : rightB (st.w : Int) (st.h : Int) st.c with
    | true =>
      rw [hr] at hrt
      have HR := Lib.hid hr
      clear hr
      gi_wp2_with (refine ⟨trivial, ?_⟩; refine (callsIn_wide.2 hrt).mono ?_; rintro e w2 ⟨rfl, hB2⟩; obtain ⟨c00, c01, c02, f00, f01, f02, c1, f1, c20, c21, c22, r0, r1⟩ := par_cells HH.out H2.out hB2; have R0 := Lib.hid r0; have R1 := Lib.hid r1; clear r0 r1)
      obtain ⟨k4, k5⟩ := set3 (x' := .int .i64 (st.w : Int)) (y' := .int .i64 (st.h : Int)) (z' := .string st.c) R0.out
      obtain ⟨Wf, hWf⟩ : ∃ Wf, (((w2.setCell ⟨w.heap.size, 0, none⟩ (.int .i64 (st.w : Int))).setCell ⟨w.heap.size, 1, none⟩ (.int .i64 (st.h : Int))).setCell ⟨w.heap.size, 2, none⟩ (.string st.c)).setCell ⟨w.heap.size + 1, 0, none⟩ .nilIface = Wf := ⟨_, rfl⟩
      have hlt1 := R1.out.lt
      have b0 : Wf.heap[w.heap.size]? = some (.cells #[.int .i64 (st.w : Int), .int .i64 (st.h : Int), .string st.c] 29 (0, 0)) := by rw [← hWf]; exact (Below.heap_setCell _ _ _ _ (by simp)).trans k4
      have b1 : Boxed Wf (w.heap.size + 1) 26 .nilIface := by
        rw [← hWf]
        exact Boxed.set _ (show Boxed _ _ _ _ from (k5 _ (by omega)).trans R1.out)
      have hDw : D < W.heap.size := (Array.getElem?_eq_some_iff.1 hK).1
      have hKf : Wf.heap[D]? = some (.deferred (some [])) := by
        rw [← hWf]
        exact (Below.heap_setCell _ _ _ _ (by show D ≠ w.heap.size + 1; omega)).trans ((k5 _ (by omega)).trans ((hB2.block _ hDw).trans hK))
      have hbf : Below w.heap.size w Wf := by
        rw [← hWf]
        exact (((((HH.out.bel).trans (hB2.mono HH.out.bel.size)).setCell (p := ⟨w.heap.size, 0, none⟩) (Nat.le_refl _) _).setCell (p := ⟨w.heap.size, 1, none⟩) (Nat.le_refl _) _).setCell (p := ⟨w.heap.size, 2, none⟩) (Nat.le_refl _) _).setCell (p := ⟨w.heap.size + 1, 0, none⟩) (by show w.heap.size ≤ w.heap.size + 1; omega) _
      rw [hWf]
      refine ⟨by simp, .inl ⟨_, _, rfl, run_takeDeferred hKf, ?_⟩⟩
      have kc : ∀ {k i : Nat} {v : Value}, Wf.cell? ⟨k, i, none⟩ = some v → (Wf.putObj D (.deferred none)).cell? ⟨k, i, none⟩ = some v := fun hc => cell_kept hc (grownBy_putObj' _ D (.deferred none)) (fun r e => by cases e; exact ⟨_, hKf, rfl⟩)
      have e0 := kc (cell_of b0 0)
      have e1 := kc (cell_of b0 1)
      have e2 := kc (cell_of b0 2)
      have e3 := kc b1.cell
      refine ⟨.tuple #[.agg #[.int .i64 (st.w : Int), .int .i64 (st.h : Int), .string st.c], .nilIface], ?_, .inl ⟨st, by rw [HPP.out, if_pos HR.out], rfl, ?_⟩⟩
      · simp [results, Tryd.f11, go_sem, e0, e1, e2, e3]
      · exact hbf.trans (belowK_b (w := w) (Nat.le_refl _) Wf D _ _ (by omega) hKf rfl rfl)
    | false =>
      rw [hr] at hrt
      have HR := Lib.hid hr
      clear hr
      gi_wp2_with (first
        | (refine ⟨trivial, ?_⟩; (with_reducible refine (callsIn_wide.2 hrt).mono ?_); rintro e w2 ⟨rfl, hB2⟩)
        | (refine ⟨trivial, ?_⟩; (with_reducible refine (callsIn_wide.2 (tag_grid 2 _)).mono ?_); rintro e w3 ⟨rfl, hE3, hB3⟩; obtain ⟨c00, c01, c02, f00, f01, f02, c1, f1, c20, c21, c22, r0, r1⟩ := par_cells HH.out H2.out (hB2.trans (hB3.mono hB2.size)); have R0 := Lib.hid r0; have R1 := Lib.hid r1; have HE3 := Lib.hid hE3; clear r0 r1 hE3))
      obtain ⟨k4, k5⟩ := set3 (x' := .int .i64 0) (y' := .int .i64 0) (z' := .string ⟨#[]⟩) R0.out
      obtain ⟨Wf, hWf⟩ : ∃ Wf, (((w3.setCell ⟨w.heap.size, 0, none⟩ (.int .i64 0)).setCell ⟨w.heap.size, 1, none⟩ (.int .i64 0)).setCell ⟨w.heap.size, 2, none⟩ (.string ⟨#[]⟩)).setCell ⟨w.heap.size + 1, 0, none⟩ (.iface 83 (.pointer (some ⟨w2.heap.size, 0, none⟩))) = Wf := ⟨_, rfl⟩
      have hlt1 := R1.out.lt
      have hlt2 := (Array.getElem?_eq_some_iff.1 H2.out).1
      have hs2 := hB2.size
      have b0 : Wf.heap[w.heap.size]? = some (.cells #[.int .i64 0, .int .i64 0, .string ⟨#[]⟩] 29 (0, 0)) := by rw [← hWf]; exact (Below.heap_setCell _ _ _ _ (by simp)).trans k4
      have b1 : Boxed Wf (w.heap.size + 1) 26 (.iface 83 (.pointer (some ⟨w2.heap.size, 0, none⟩))) := by
        rw [← hWf]
        exact Boxed.set _ (show Boxed _ _ _ _ from (k5 _ (by omega)).trans R1.out)
      have hDw : D < W.heap.size := (Array.getElem?_eq_some_iff.1 hK).1
      have hBW : Below W.heap.size W w3 := hB2.trans (hB3.mono hB2.size)
      have hKf : Wf.heap[D]? = some (.deferred (some [])) := by
        rw [← hWf]
        exact (Below.heap_setCell _ _ _ _ (by show D ≠ w.heap.size + 1; omega)).trans ((k5 _ (by omega)).trans ((hBW.block _ hDw).trans hK))
      have hEf : Wf.heap[w2.heap.size]? = some (.cells #[.string ⟨#[103, 114, 105, 100]⟩, .iface 51 (.int .i64 2)] 85 (0, 0)) := by
        rw [← hWf]
        exact (Below.heap_setCell _ _ _ _ (by show w2.heap.size ≠ w.heap.size + 1; omega)).trans ((k5 _ (by omega)).trans HE3.out)
      have hbf : Below w.heap.size w Wf := by
        rw [← hWf]
        exact (((((HH.out.bel).trans (hBW.mono HH.out.bel.size)).setCell (p := ⟨w.heap.size, 0, none⟩) (Nat.le_refl _) _).setCell (p := ⟨w.heap.size, 1, none⟩) (Nat.le_refl _) _).setCell (p := ⟨w.heap.size, 2, none⟩) (Nat.le_refl _) _).setCell (p := ⟨w.heap.size + 1, 0, none⟩) (by show w.heap.size ≤ w.heap.size + 1; omega) _
      rw [hWf]
      refine ⟨by simp, .inl ⟨_, _, rfl, run_takeDeferred hKf, ?_⟩⟩
      have kc : ∀ {k i : Nat} {v : Value}, Wf.cell? ⟨k, i, none⟩ = some v → (Wf.putObj D (.deferred none)).cell? ⟨k, i, none⟩ = some v := fun hc => cell_kept hc (grownBy_putObj' _ D (.deferred none)) (fun r e => by cases e; exact ⟨_, hKf, rfl⟩)
      have e0 := kc (cell_of b0 0)
      have e1 := kc (cell_of b0 1)
      have e2 := kc (cell_of b0 2)
      have e3 := kc b1.cell
      refine ⟨.tuple #[.agg #[.int .i64 0, .int .i64 0, .string ⟨#[]⟩], .iface 83 (.pointer (some ⟨w2.heap.size, 0, none⟩))], ?_, .inr ⟨_, by rw [HPP.out, if_neg (by rw [HR.out]; decide)], rfl, ⟨w2.heap.size, ⟨#[103, 114, 105, 100]⟩, rfl, ?_⟩, ?_⟩⟩
      · simp [results, Tryd.f11, go_sem, e0, e1, e2, e3]
      · exact (World.putObj_heap_other (by rintro rfl; rw [hEf] at hKf; cases hKf)).trans hEf
      · exact hbf.trans (belowK_b (w := w) (Nat.le_refl _) Wf D _ _ (by omega) hKf rfl rfl)
  case stop =>
    rintro D c pre W hD hpre ⟨rfl, h⟩ hK
    obtain ⟨v, hv2, b, z, he, hc⟩ := h.r1
    obtain ⟨q, hq⟩ := hpre
    gi_wp2
    have hl : D < W.heap.size := (Array.getElem?_eq_some_iff.1 hK).1
    refine ⟨by simp, .inl ⟨_, _, rfl, run_takeDeferred hK, ?_⟩⟩
    have kc : ∀ {k i : Nat} {v : Value}, W.cell? ⟨k, i, none⟩ = some v → (W.putObj D (.deferred none)).cell? ⟨k, i, none⟩ = some v := fun hc => cell_kept hc (grownBy_putObj' _ D (.deferred none)) (fun r e => by cases e; exact ⟨_, hK, rfl⟩)
    have e0 := kc (cell_of h.r0 0)
    have e1 := kc (cell_of h.r0 1)
    have e2 := kc (cell_of h.r0 2)
    have e3 := kc hv2.cell
    have hpp : parseP s = none := by unfold parseP; rw [← hq, foldP_pre _ _ _ h.bad]
    refine ⟨.tuple #[.agg #[.int .i64 0, .int .i64 0, .string ⟨#[]⟩], v], ?_, .inr ⟨v, hpp, rfl, ⟨b, z, he, ?_⟩, ?_⟩⟩
    · simp [results, Tryd.f11, go_sem, e0, e1, e2, e3]
    · exact (World.putObj_heap_other (by rintro rfl; rw [hc] at hK; cases hK)).trans hc
    · exact h.bel.trans (belowK_b (w := w) (Nat.le_refl _) W D _ _ (by omega) hK rfl rfl)
end Go.Proofs.YtagighbfodlcjaaDoor
