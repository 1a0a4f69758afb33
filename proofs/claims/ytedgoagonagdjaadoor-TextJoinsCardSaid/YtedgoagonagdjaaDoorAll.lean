/-
  text.All, walked.
-/
import Derived.Test.YtedgoagonagdjaaDoorLines
import Derived.Test.YtedgoagonagdjaaDoorReadAll
import Derived.Maps.AppendAt
namespace Go.Proofs.YtedgoagonagdjaaDoor
open Go.RowKit Go.Shelf
attribute [local go_sem] Oper.semAt_some

def actCells (z : ByteArray × Abc) : List Value := [.string z.1, .int .i64 z.2.a, .int .i64 z.2.b, .int .i64 z.2.c]

/-- what lies between two rounds: the results' boxes, out, the count of lines, the iterator's own box -/
structure AllI (w : World) (pre : List ByteArray) (W : World) : Prop where
  r0 : Boxed W w.heap.size 44 (.slice none 0 0)
  r1 : Boxed W (w.heap.size + 1) 3 (.int .i64 0)
  r2 : Boxed W (w.heap.size + 1 + 1) 26 .nilIface
  bn : Boxed W (w.heap.size + 1 + 1 + 1 + 1) 3 (.int .i64 pre.length)
  bx : ∃ u, Boxed W (w.heap.size + 1 + 1 + 1 + 1 + 1) 9 u
  out : ∃ (ts : List (ByteArray × Abc)) (v : Value), pre.map readP = ts.map some ∧ Boxed W (w.heap.size + 1 + 1 + 1) 44 v ∧ W.ownsRow w.heap.size 29 4 v ts.length (ts.flatMap actCells)
  bel : Below w.heap.size w W

/-- a round has left: the results lie in their boxes -/
structure AllX (w : World) (pre : List ByteArray) (W : World) : Prop where
  r0 : Boxed W w.heap.size 44 (.slice none 0 0)
  r1 : Boxed W (w.heap.size + 1) 3 (.int .i64 pre.length)
  r2 : ∃ v, Boxed W (w.heap.size + 1 + 1) 26 v ∧ IsErr W 2 v
  bad : ∃ (p : List ByteArray) (x : ByteArray) (ts : List (ByteArray × Abc)), pre = p ++ [x] ∧ p.map readP = ts.map some ∧ readP x = none
  bel : Below w.heap.size w W

def AllLeft (B : Nat) (w W : World) (xs : List ByteArray) (Wf : World) : Prop := KeepsFrom B W Wf ∧ AllX w xs Wf

theorem own_below {W W' : World} {base : Nat} {e : TypeId} {size : Nat} {v : Value} {k : Nat} {xs : List Value} (h : W.ownsRow base e size v k xs) (hb : Below W.heap.size W W') : W'.ownsRow base e size v k xs := h.kept (below_grown hb) (by
  rcases h.2 with ⟨rfl, _⟩ | ⟨g, cap, cur, rfl, _⟩
  · exact .inl rfl
  · exact .inr (by simp [Value.ownBlock]))

theorem keeps_below {W W' : World} (h : Below W.heap.size W W') : KeepsOthers W W' := ⟨h.size, fun k _ hk _ => (h.block k (Array.getElem?_eq_some_iff.1 hk).1).trans hk⟩
theorem Boxed.low {W W' : World} {B n : Nat} {t : TypeId} {v : Value} (h : Boxed W B t v) (hb : Below n W W') (hn : B < n) : Boxed W' B t v := (hb.block B hn).trans h
theorem Boxed.below {W W' : World} {B : Nat} {t : TypeId} {v : Value} (h : Boxed W B t v) (hb : Below W.heap.size W W') : Boxed W' B t v := Boxed.low h hb h.lt

theorem lines_len : ∀ l : List UInt8, (linesL l).length ≤ l.length
  | [] => Nat.le_refl _
  | x :: t => by
    have ih := lines_len t
    unfold linesL
    split
    · simp; omega
    · split
      · simp
      · rename_i h; rw [h] at ih; simp at ih ⊢; omega
theorem mem_flat : ∀ {L : List (List UInt8)} {x : List UInt8}, x ∈ L → x.length ≤ L.flatten.length
  | y :: L, x, h => by
    rw [List.flatten_cons, List.length_append]
    rcases List.mem_cons.1 h with rfl | h
    · omega
    · have := mem_flat h; omega
theorem lines_mem {l : List UInt8} {x : List UInt8} (h : x ∈ linesL l) : x.length ≤ l.length := by
  have h1 := mem_flat h
  rwa [lines_flat] at h1
theorem four_new (w : World) (c0 c1 c2 c3 : Value) (t : TypeId) : ∀ j u, [c0, c1, c2, c3][j]? = some u → (w.alloc (.cells #[c0, c1, c2, c3] t)).cell? ((⟨w.heap.size, 0, none⟩ : Addr).add j) = some u := by
  intro j u hj
  have h := heap_new w (.cells #[c0, c1, c2, c3] t)
  rw [show ((⟨w.heap.size, 0, none⟩ : Addr).add j) = ⟨w.heap.size, j, none⟩ by simp [Addr.add]; intro h0; exact h0.symm, cell_of h j]
  rw [← hj]; exact List.getElem?_toArray
theorem linesB_mem {s x : ByteArray} (h : x ∈ linesB s) : x.size ≤ s.size := by
  obtain ⟨l, hl, rfl⟩ := List.mem_map.1 h
  have := lines_mem hl
  rw [size_list, size_list]
  simpa using this
theorem linesB_len (s : ByteArray) : (linesB s).length ≤ s.size := by rw [linesB, List.length_map, size_list]; exact lines_len _

theorem infoAct : (Tryd.prog.info? 29).map (fun i => (i.zero, i.size, i.bytes)) = some (some (.agg #[.string ⟨#[]⟩, .int .i64 0, .int .i64 0, .int .i64 0]), 4, 40) := by kernel_rfl

theorem own_all (w : World) (B : Nat) (hB : w.heap.size ≤ B) : OwnFrom B (AllI w) := fun s W W' row h hg hr => by
  have hne : ∀ {b : Nat} {t : TypeId} {v : Value}, Boxed W b t v → some b ≠ row := fun hb e => by
    obtain ⟨_, o, ho, hc⟩ := hr _ e.symm
    rw [show W.heap[_]? = _ from hb] at ho; cases ho; cases hc
  obtain ⟨ts, v, h1, h2, h3⟩ := h.out
  obtain ⟨u, hu⟩ := h.bx
  refine ⟨h.r0.kept hg (hne h.r0), h.r1.kept hg (hne h.r1), h.r2.kept hg (hne h.r2), h.bn.kept hg (hne h.bn), ⟨u, hu.kept hg (hne hu)⟩, ⟨ts, v, h1, h2.kept hg (hne h2), h3.kept hg ?_⟩, h.bel.grown hg (Nat.le_trans h.bel.size (Nat.le_refl _)) (fun k e => by have := (hr k e).1; omega)⟩
  rcases h3.2 with ⟨rfl, _⟩ | ⟨g, cap, cur, rfl, _, hgb, _⟩
  · exact .inl rfl
  · refine .inr fun e' => ?_
    obtain ⟨_, o, ho, hc⟩ := hr g (by simpa [Value.ownBlock] using e'.symm)
    rw [hgb] at ho; cases ho; cases hc

theorem own_allX (w : World) (B : Nat) (hB : w.heap.size ≤ B) : OwnFrom B (AllX w) := fun s W W' row h hg hr => by
  have hne : ∀ {b : Nat} {t : TypeId} {v : Value}, Boxed W b t v → some b ≠ row := fun hb e => by
    obtain ⟨_, o, ho, hc⟩ := hr _ e.symm
    rw [show W.heap[_]? = _ from hb] at ho; cases ho; cases hc
  obtain ⟨v, hv, he⟩ := h.r2
  refine ⟨h.r0.kept hg (hne h.r0), h.r1.kept hg (hne h.r1), ⟨v, hv.kept hg (hne hv), ?_⟩, h.bad, h.bel.grown hg (Nat.le_trans h.bel.size (Nat.le_refl _)) (fun k e => by have := (hr k e).1; omega)⟩
  obtain ⟨b, x, he, hc⟩ := he
  refine ⟨b, x, he, (hg.block b (Array.getElem?_eq_some_iff.1 hc).1 (fun e => ?_)).trans hc⟩
  obtain ⟨_, o, ho, hc'⟩ := hr _ e.symm
  rw [hc] at ho; cases ho; cases hc'

def AllPost (s : ByteArray) (w : World) (e : Ending) (w' : World) : Prop :=
  (∃ (ts : List (ByteArray × Abc)) (v : Value), (linesB s).map readP = ts.map some ∧ e = .returned (.tuple #[v, .int .i64 0, .nilIface]) ∧ w'.ownsRow w.heap.size 29 4 v ts.length (ts.flatMap actCells) ∧ Below w.heap.size w w') ∨
  (∃ (p : List ByteArray) (x : ByteArray) (ts : List (ByteArray × Abc)) (v : Value), p ++ [x] <+: linesB s ∧ p.map readP = ts.map some ∧ readP x = none ∧
    e = .returned (.tuple #[.slice none 0 0, .int .i64 ((p.length + 1 : Nat) : Int), v]) ∧ IsErr w' 2 v ∧ Below w.heap.size w w')

set_option maxRecDepth 100000 in
set_option maxHeartbeats 1000000 in
theorem all_any (s : ByteArray) (hs : s.size ≤ 20000) (w : World) (hv : Vars w) :
    Calls Tryd.prog 18 #[.string s] w (AllPost s w) := by
  refine (callsIn_wide (n := 20)).1 ?_
  refine callsIn_of_wp_marks Tryd.func18 rfl trivial ?_ rfl
  simp only [Tryd.ntmps18, List.size_toArray, List.length_cons, List.length_nil, Nat.reduceAdd, Nat.reduceSub, Array.replicate_succ, Array.replicate_zero, List.push_toArray, List.append_toArray, List.nil_append, List.cons_append]
  gi_wp2_with (refine ⟨trivial, ?_⟩; refine (callsIn_wide.2 (lines_any s _)).mono ?_; rintro e w1 ⟨rfl, rfl⟩)
  all_goals first | (exfalso; omega) | skip
  obtain ⟨W0, hW0⟩ : ∃ W0, ((((((w.alloc (Obj.cells #[Value.slice none 0 0] 44)).alloc (Obj.cells #[Value.int IntKind.i64 0] 3)).alloc (Obj.cells #[Value.nilIface] 26)).alloc (Obj.cells #[Value.slice none 0 0] 44)).alloc (Obj.cells #[Value.int IntKind.i64 0] 3)).alloc (Obj.cells #[.string s] 9)) = W0 := ⟨_, rfl⟩
  have hI0 : AllI w [] W0 := by
    rw [← hW0]
    have q0 := Boxed.new w 44 (.slice none 0 0)
    have q1 := Boxed.new (w.alloc (Obj.cells #[Value.slice none 0 0] 44)) 3 (.int .i64 0)
    have q2 := Boxed.new ((w.alloc (Obj.cells #[Value.slice none 0 0] 44)).alloc (Obj.cells #[Value.int IntKind.i64 0] 3)) 26 .nilIface
    have q3 := Boxed.new (((w.alloc (Obj.cells #[Value.slice none 0 0] 44)).alloc (Obj.cells #[Value.int IntKind.i64 0] 3)).alloc (Obj.cells #[Value.nilIface] 26)) 44 (.slice none 0 0)
    have q4 := Boxed.new ((((w.alloc (Obj.cells #[Value.slice none 0 0] 44)).alloc (Obj.cells #[Value.int IntKind.i64 0] 3)).alloc (Obj.cells #[Value.nilIface] 26)).alloc (Obj.cells #[Value.slice none 0 0] 44)) 3 (.int .i64 0)
    have q5 := Boxed.new (((((w.alloc (Obj.cells #[Value.slice none 0 0] 44)).alloc (Obj.cells #[Value.int IntKind.i64 0] 3)).alloc (Obj.cells #[Value.nilIface] 26)).alloc (Obj.cells #[Value.slice none 0 0] 44)).alloc (Obj.cells #[Value.int IntKind.i64 0] 3)) 9 (.string s)
    simp only [World.size_alloc] at q1 q2 q3 q4 q5
    exact ⟨((((q0.alloc _).alloc _).alloc _).alloc _).alloc _, (((q1.alloc _).alloc _).alloc _).alloc _, ((q2.alloc _).alloc _).alloc _, q4.alloc _, ⟨_, q5⟩,
      ⟨[], _, rfl, (q3.alloc _).alloc _, ⟨rfl, .inl ⟨rfl, rfl⟩⟩⟩,
      ((((((Below.refl _ w).alloc (Nat.le_refl _) _).alloc (by simp) _).alloc (by simp; omega) _).alloc (by simp; omega) _).alloc (by simp; omega) _).alloc (by simp; omega) _⟩
  have hsz : W0.heap.size = w.heap.size + 1 + 1 + 1 + 1 + 1 + 1 := by rw [← hW0]; simp
  have hbx : W0.heap[w.heap.size + 1 + 1 + 1 + 1 + 1]? = some (.cells #[.string s] 9 (0, 0)) := by
    rw [← hW0]
    have q5 := Boxed.new (((((w.alloc (Obj.cells #[Value.slice none 0 0] 44)).alloc (Obj.cells #[Value.int IntKind.i64 0] 3)).alloc (Obj.cells #[Value.nilIface] 26)).alloc (Obj.cells #[Value.slice none 0 0] 44)).alloc (Obj.cells #[Value.int IntKind.i64 0] 3)) 9 (.string s)
    simp only [World.size_alloc] at q5
    exact q5
  rw [hW0]
  clear hW0
  refine range_box (bx := w.heap.size + 1 + 1 + 1 + 1 + 1) rfl (by omega) (gf := 43) (lb := #[.pointer (some ⟨w.heap.size + 1 + 1 + 1 + 1 + 1, 0, none⟩)]) rfl trivial (enters_of Tryd.func43 (by kernel_rfl) rfl)
    (by omega) (lines_seq _ (by omega) _ s (by omega) _ hbx) (fun _ => rfl) (AllI w) (fun c pre W => c = .ret ∧ AllX w pre W) (own_all w _ (by omega)) ?abide (fun c s A B row hs hg hr => ⟨hs.1, own_allX w _ (by omega) s A B row hs.2 hg hr⟩) hI0
    (fun x => { tmps := #[.string s, undef, .pointer (some ⟨w.heap.size, 0, none⟩), .pointer (some ⟨w.heap.size + 1, 0, none⟩), .pointer (some ⟨w.heap.size + 1 + 1, 0, none⟩), .pointer (some ⟨w.heap.size + 1 + 1 + 1, 0, none⟩), .pointer (some ⟨w.heap.size + 1 + 1 + 1 + 1, 0, none⟩), .string x, undef, undef, .string s, .int .i64 s.size, .bool (decide (20000 < (s.size : Int))), undef, undef, .string s, .func (.func 43) #[] #[.pointer (some ⟨w.heap.size + 1 + 1 + 1 + 1 + 1, 0, none⟩)], .string x, undef, undef, undef, undef, undef, undef, undef, undef, undef, undef, undef, undef, undef, undef, undef, undef], defers := [] }) ?assign ?body ?done ?stop
  case abide =>
    intro pre A v h
    obtain ⟨ts, u, h1, h2, h3⟩ := h.out
    obtain ⟨z, hz⟩ := h.bx
    refine ⟨h.r0.other (by omega) v, h.r1.other (by omega) v, h.r2.other (by omega) v, h.bn.other (by omega) v, ⟨_, hz.set v⟩, ⟨ts, u, h1, h2.other (by omega) v, h3.kept (grownBy_setCell' A _ v) (.inr (hz.not_row (by decide) h3).symm)⟩, h.bel.setCell (p := ⟨w.heap.size + 1 + 1 + 1 + 1 + 1, 0, none⟩) (by show w.heap.size ≤ w.heap.size + 1 + 1 + 1 + 1 + 1; omega) v⟩
  case assign =>
    intro l x W K hK
    gi_wp2
    exact hK
  case body =>
    rintro l pre x W h hpre
    obtain ⟨ts, u, h1, h2, h3⟩ := h.out
    have hxs : x.size ≤ 100000 := by
      have := linesB_mem (s := s) (x := x) (hpre.subset (by simp))
      omega
    have hlen : pre.length + 1 ≤ 20000 := by
      have e1 := hpre.length_le
      have e2 := linesB_len s
      simp at e1
      omega
    have hts : ts.length = pre.length := by have := congrArg List.length h1; simpa using this.symm
    have hnc := h.bn.cell
    have hnf := h.bn.frozen
    have hww : IntKind.i64.wrap ((pre.length : Int) + 1) = ((pre.length + 1 : Nat) : Int) := by simp [IntKind.wrap, IntKind.bits, IntKind.signed]; omega
    obtain ⟨W1, hW1⟩ : ∃ W1, W.setCell ⟨w.heap.size + 1 + 1 + 1 + 1, 0, none⟩ (.int .i64 ((pre.length : Int) + 1)) = W1 := ⟨_, rfl⟩
    have hv1 : Vars W1 := by rw [← hW1]; exact (hv.below' h.bel).keep (by simp [World.setCell]) (fun k hk => Below.heap_setCell _ _ _ _ (by have := hv.size; simp; omega))
    have hmx : Tryd.prog.follows .mixedOrders = true := by kernel_rfl
    have hl1 : W.heap.size = W1.heap.size := by rw [← hW1]; simp [World.setCell]
    have hb1 : Below w.heap.size w W1 := by rw [← hW1]; exact h.bel.setCell (p := ⟨w.heap.size + 1 + 1 + 1 + 1, 0, none⟩) (by show w.heap.size ≤ w.heap.size + 1 + 1 + 1 + 1; omega) _
    have hr0 : Boxed W1 w.heap.size 44 (.slice none 0 0) := by rw [← hW1]; exact h.r0.other (by omega) _
    have hr1 : Boxed W1 (w.heap.size + 1) 3 (.int .i64 0) := by rw [← hW1]; exact h.r1.other (by omega) _
    have hr2' : Boxed W1 (w.heap.size + 1 + 1) 26 .nilIface := by rw [← hW1]; exact h.r2.other (by omega) _
    have hbn : Boxed W1 (w.heap.size + 1 + 1 + 1 + 1) 3 (.int .i64 ((pre.length : Int) + 1)) := by rw [← hW1]; exact h.bn.set _
    have hbo : Boxed W1 (w.heap.size + 1 + 1 + 1) 44 u := by rw [← hW1]; exact h2.other (by omega) _
    have hro : W1.ownsRow w.heap.size 29 4 u ts.length (ts.flatMap actCells) := by rw [← hW1]; exact h3.kept (grownBy_setCell' W _ _) (.inr (h.bn.not_row (by decide) h3).symm)
    have hk1 : KeepsOthers W W1 := by rw [← hW1]; exact KeepsOthers.setCell _ _ _
    have hx1 : W1.heap[w.heap.size + 1 + 1 + 1 + 1 + 1]? = W.heap[w.heap.size + 1 + 1 + 1 + 1 + 1]? := by rw [← hW1]; exact Below.heap_setCell _ _ _ _ (by simp)
    obtain ⟨zx, hzx⟩ := h.bx
    cases hx : readP x with
    | none =>
      gi_wp2_with (refine ⟨trivial, ?_⟩; refine (CallsIn.inRound l (callsIn_wide.2 (read_none x hxs hx W1 hv1))).mono ?_; rintro e w2 ⟨ev, rfl, ⟨be, se, rfl, hce⟩, hB2⟩)
      obtain ⟨W4, hW4⟩ : ∃ W4, w2.alloc (Obj.cells #[.string ⟨#[]⟩, .int .i64 0, .int .i64 0, .int .i64 0] 29) = W4 := ⟨_, rfl⟩
      have hB4 : Below W1.heap.size W1 W4 := by rw [← hW4]; exact hB2.alloc hB2.size _
      have h4e : IsErr W4 2 (.iface 79 (.pointer (some ⟨be, 0, none⟩))) := by rw [← hW4]; exact IsErr.below' ⟨be, se, rfl, hce⟩ ((Below.refl _ _).alloc (Nat.le_refl _) _)
      rw [hW4]
      have h40 := Boxed.below hr0 hB4
      have h41 := Boxed.below hr1 hB4
      have h42 := Boxed.below hr2' hB4
      have h4n := Boxed.below hbn hB4
      have c40 := h40.cell
      have f40 := h40.frozen
      have c41 := h41.cell
      have f41 := h41.frozen
      have c42 := h42.cell
      have f42 := h42.frozen
      have c4n := h4n.cell
      have hfin : AllLeft W0.heap.size w W (pre ++ [x]) (((W4.drew.setCell ⟨w.heap.size, 0, none⟩ (.slice none 0 0)).setCell ⟨w.heap.size + 1, 0, none⟩ (.int .i64 ((pre.length : Int) + 1))).setCell ⟨w.heap.size + 1 + 1, 0, none⟩ (.iface 79 (.pointer (some ⟨be, 0, none⟩)))) := by
        have h40' : Boxed W4.drew w.heap.size 44 (.slice none 0 0) := h40
        have h41' : Boxed W4.drew (w.heap.size + 1) 3 (.int .i64 0) := h41
        have h42' : Boxed W4.drew (w.heap.size + 1 + 1) 26 .nilIface := h42
        obtain ⟨be', se', e', h4c⟩ := h4e
        cases e'
        have ne0 : be ≠ w.heap.size := by rintro rfl; have := h40.symm.trans h4c; simp at this
        have ne1 : be ≠ w.heap.size + 1 := by rintro rfl; have := h41.symm.trans h4c; simp at this
        have ne2 : be ≠ w.heap.size + 1 + 1 := by rintro rfl; have := h42.symm.trans h4c; simp at this
        refine ⟨(hk1.trans ((keeps_below hB4).trans ((KeepsOthers.drew _).trans (((KeepsOthers.setCell _ _ _).trans (KeepsOthers.setCell _ _ _)).trans (KeepsOthers.setCell _ _ _))))).from _, ?_⟩
        refine ⟨((h40'.set _).other (by omega) _).other (by omega) _, ?_, ⟨_, (((h42'.other (by omega) _).other (by omega) _).set _), be, se', rfl, ?_⟩, ⟨pre, x, ts, rfl, h1, hx⟩, ?_⟩
        · have := (((h41'.other (B' := w.heap.size) (by omega) (.slice none 0 0)).set (.int .i64 ((pre.length : Int) + 1))).other (B' := w.heap.size + 1 + 1) (by omega) (.iface 79 (.pointer (some ⟨be, 0, none⟩))))
          simpa using this
        · refine (Below.heap_setCell _ _ _ _ ne2).trans ((Below.heap_setCell _ _ _ _ ne1).trans ((Below.heap_setCell _ _ _ _ ne0).trans h4c))
        · exact (((hb1.trans (hB4.mono hb1.size)).drew.setCell (p := ⟨w.heap.size, 0, none⟩) (Nat.le_refl _) _).setCell (p := ⟨w.heap.size + 1, 0, none⟩) (by show w.heap.size ≤ w.heap.size + 1; omega) _).setCell (p := ⟨w.heap.size + 1 + 1, 0, none⟩) (by show w.heap.size ≤ w.heap.size + 1 + 1; omega) _
      have hfin' := hfin
      rw [hsz] at hfin'
      gi_region_with_o (fail)
      all_goals
        gi_wp2
        first | exact ⟨hfin'.1, rfl, hfin'.2⟩ | exact ⟨hfin.1, rfl, hfin.2⟩
    | some r =>
      obtain ⟨nm, t⟩ := r
      have hml : ts.length + 1 ≤ maxLen := by have h20 : (20001 : Nat) ≤ maxLen := by decide
                                              omega
      have hwW : w.heap.size ≤ W1.heap.size := hb1.size
      obtain ⟨i0, hi, hz0, hz1, hz2⟩ := info_parts infoAct
      gi_wp2_with (first
        | (refine ⟨trivial, ?_⟩; refine (CallsIn.inRound l (callsIn_wide.2 (read_some x nm t hxs hx W1 hv1))).mono ?_; rintro e w2 ⟨rfl, hB2⟩; have hcA := ((Boxed.below hbo hB2).alloc (Obj.cells #[.string nm, .int .i64 t.a, .int .i64 t.b, .int .i64 t.c] 29)).cell; have hoA := (own_below hro hB2).alloc (Obj.cells #[.string nm, .int .i64 t.a, .int .i64 t.b, .int .i64 t.c] 29); have hn4 := four_new (w2.alloc (Obj.cells #[.string nm, .int .i64 t.a, .int .i64 t.b, .int .i64 t.c] 29)) (.string nm) (.int .i64 t.a) (.int .i64 t.b) (.int .i64 t.c) 29; rw [World.size_alloc] at hn4; have hl2 := hB2.size; have hbb' : w.heap.size ≤ (w2.alloc (Obj.cells #[.string nm, .int .i64 t.a, .int .i64 t.b, .int .i64 t.c] 29)).heap.size := (by simp; omega); have hbb : w.heap.size ≤ ((w2.alloc (Obj.cells #[.string nm, .int .i64 t.a, .int .i64 t.b, .int .i64 t.c] 29)).alloc (Obj.cells #[.string nm, .int .i64 t.a, .int .i64 t.b, .int .i64 t.c] 29)).heap.size := (by simp; omega); have hbA := (Boxed.below hbo hB2).alloc (Obj.cells #[.string nm, .int .i64 t.a, .int .i64 t.b, .int .i64 t.c] 29))
        | (gi_at_builtin; go_loud (refine wpListIn_append_own _ rfl _ _ 44 rfl w.heap.size 29 i0 (.agg #[.string ⟨#[]⟩, .int .i64 0, .int .i64 0, .int .i64 0]) 4 40 Tryd.underlying44 hi hz0 hz1 hz2 rfl (by decide) u ts.length (ts.flatMap actCells) rfl (hoA.alloc _) ⟨w2.heap.size + 1, 0, none⟩ 1 1 (actCells (nm, t)) rfl rfl hn4 (by simp [actCells, Value.oneCell']) hml (by omega) hbb ?_; intro v' w5 hown' hgrow _; obtain ⟨g', cap', rfl⟩ := ownsRow_succ hown'; obtain ⟨hv1, hv2, hr2, hk2, hb2⟩ := Boxed.appended hbA (by decide) hoA hbb' (by omega) hown' hgrow; have hc1 := hv1.cell; have hf1 := hv1.frozen)))
      rw [hts] at hv2 hr2 hk2 hb2
      have keep : ∀ {b : Nat} {ty : TypeId} {v : Value}, Boxed W1 b ty v → ty ≠ 29 → b ≠ w.heap.size + 1 + 1 + 1 → Boxed (w5.setCell ⟨w.heap.size + 1 + 1 + 1, 0, none⟩ (.slice (some ⟨g', 0, none⟩) (pre.length + 1) cap')) b ty v := fun hb hty hne =>
        ((((Boxed.below hb hB2).alloc _).alloc _).kept hgrow (((Boxed.below hb hB2).alloc _).not_row hty hoA)).other hne _
      have hzx' := keep (by rw [← hW1]; exact hzx.other (by omega) _) (by decide) (by omega)
      refine ⟨(hk1.trans ((keeps_below hB2).trans ((KeepsOthers.alloc _ _).trans hk2))).from _, (show _ = _ from hzx').trans (show _ = _ from hzx).symm, ?_⟩
      refine ⟨keep hr0 (by decide) (by omega), keep hr1 (by decide) (by omega), keep hr2' (by decide) (by omega), ?_, ⟨zx, hzx'⟩, ⟨ts ++ [(nm, t)], _, by simp [h1, hx], hv2, ?_⟩, ?_⟩
      · have := keep hbn (by decide) (by omega)
        simpa using this
      · rw [List.flatMap_append, List.length_append, hts]; simpa using hr2
      · exact (hb1.trans ((hB2.mono hwW).alloc (by omega) _)).trans hb2
  case done =>
    rintro D xs W hD rfl h hK
    obtain ⟨ts, u, h1, h2, h3⟩ := h.out
    have c0 := h.r0.cell
    have f0 := h.r0.frozen
    have c1 := h.r1.cell
    have f1 := h.r1.frozen
    have c2 := h.r2.cell
    have f2 := h.r2.frozen
    have co := h2.cell
    have hbits : ∃ (a : Option Addr) (n c : Nat), u = .slice a n c := by
      rcases h3.2 with ⟨rfl, _⟩ | ⟨g, cap, cur, rfl, _⟩
      · exact ⟨_, _, _, rfl⟩
      · exact ⟨_, _, _, rfl⟩
    obtain ⟨a, n, c, rfl⟩ := hbits
    gi_wp2
    obtain ⟨Wf, hWf⟩ : ∃ Wf, (((W.setCell ⟨w.heap.size, 0, none⟩ (.slice a n c)).setCell ⟨w.heap.size + 1, 0, none⟩ (.int .i64 0)).setCell ⟨w.heap.size + 1 + 1, 0, none⟩ .nilIface) = Wf := ⟨_, rfl⟩
    have k3 : KeepsOthers W Wf := by rw [← hWf]; exact ((KeepsOthers.setCell _ _ _).trans (KeepsOthers.setCell _ _ _)).trans (KeepsOthers.setCell _ _ _)
    have hKf : Wf.heap[D]? = some (.deferred (some [])) := k3.same D _ hK rfl
    have b0 : Boxed Wf w.heap.size 44 (.slice a n c) := by rw [← hWf]; exact ((h.r0.set _).other (by omega) _).other (by omega) _
    have b1 : Boxed Wf (w.heap.size + 1) 3 (.int .i64 0) := by rw [← hWf]; exact ((h.r1.other (by omega) _).set _).other (by omega) _
    have b2 : Boxed Wf (w.heap.size + 1 + 1) 26 .nilIface := by rw [← hWf]; exact ((h.r2.other (by omega) _).other (by omega) _).set _
    have hof : Wf.ownsRow w.heap.size 29 4 (.slice a n c) ts.length (ts.flatMap actCells) := by
      rw [← hWf]
      have o1 := h3.kept (grownBy_setCell' W w.heap.size (.slice a n c)) (.inr (h.r0.not_row (by decide) h3).symm)
      have o2 := o1.kept (grownBy_setCell' _ (w.heap.size + 1) (.int .i64 0)) (.inr ((h.r1.other (B' := w.heap.size) (by omega) _).not_row (by decide) o1).symm)
      exact o2.kept (grownBy_setCell' _ (w.heap.size + 1 + 1) .nilIface) (.inr (((h.r2.other (B' := w.heap.size) (by omega) _).other (B' := w.heap.size + 1) (by omega) _).not_row (by decide) o2).symm)
    have hbf : Below w.heap.size w Wf := by
      rw [← hWf]
      exact ((h.bel.setCell (p := ⟨w.heap.size, 0, none⟩) (Nat.le_refl _) _).setCell (p := ⟨w.heap.size + 1, 0, none⟩) (by show w.heap.size ≤ w.heap.size + 1; omega) _).setCell (p := ⟨w.heap.size + 1 + 1, 0, none⟩) (by show w.heap.size ≤ w.heap.size + 1 + 1; omega) _
    rw [hWf]
    refine ⟨by simp, .inl ⟨_, _, rfl, run_takeDeferred hKf, ?_⟩⟩
    have c0 := cell_kept b0.cell (grownBy_putObj' _ D (.deferred none)) (fun r e => by cases e; exact ⟨_, hKf, rfl⟩)
    have c1 := cell_kept b1.cell (grownBy_putObj' _ D (.deferred none)) (fun r e => by cases e; exact ⟨_, hKf, rfl⟩)
    have c2 := cell_kept b2.cell (grownBy_putObj' _ D (.deferred none)) (fun r e => by cases e; exact ⟨_, hKf, rfl⟩)
    refine ⟨.tuple #[.slice a n c, .int .i64 0, .nilIface], ?_, .inl ⟨ts, .slice a n c, h1, rfl, ownsRow_putObj hof _ hKf rfl, ?_⟩⟩
    · simp [results, Tryd.f18, go_sem, c0, c1, c2]
    · exact hbf.trans (belowK_b (w := w) (Nat.le_refl _) Wf D _ _ (by omega) hKf rfl rfl)
  case stop =>
    rintro D c pre W hD hpre ⟨rfl, h⟩ hK
    obtain ⟨v, hv2, he⟩ := h.r2
    obtain ⟨p, x, ts, rfl, h1, hx⟩ := h.bad
    gi_wp2
    have hl : D < W.heap.size := (Array.getElem?_eq_some_iff.1 hK).1
    refine ⟨by simp, .inl ⟨_, _, rfl, run_takeDeferred hK, ?_⟩⟩
    have c0 := cell_kept h.r0.cell (grownBy_putObj' _ D (.deferred none)) (fun r e => by cases e; exact ⟨_, hK, rfl⟩)
    have c1 := cell_kept h.r1.cell (grownBy_putObj' _ D (.deferred none)) (fun r e => by cases e; exact ⟨_, hK, rfl⟩)
    have c2 := cell_kept hv2.cell (grownBy_putObj' _ D (.deferred none)) (fun r e => by cases e; exact ⟨_, hK, rfl⟩)
    refine ⟨.tuple #[.slice none 0 0, .int .i64 (p ++ [x]).length, v], ?_, .inr ⟨p, x, ts, v, hpre, h1, hx, by simp, ?_, ?_⟩⟩
    · simp [results, Tryd.f18, go_sem, c0, c1, c2]
    · obtain ⟨b, z, rfl, hc⟩ := he
      exact ⟨b, z, rfl, (World.putObj_heap_other (by rintro rfl; rw [hc] at hK; cases hK)).trans hc⟩
    · exact h.bel.trans (belowK_b (w := w) (Nat.le_refl _) W D _ _ (by omega) hK rfl rfl)
end Go.Proofs.YtedgoagonagdjaaDoor
