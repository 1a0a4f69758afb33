/-
  grid.Lay.
-/
import Derived.Test.YtagighbfodlcjaaDoorGRightB
import Derived.Test.YtagighbfodlcjaaDoorGChunk
import Derived.Test.YtagighbfodlcjaaDoorGBuild
import Derived.Lib.SlBytesRow
import Derived.Test.YtagighbfodlcjaaDoorRange
import Derived.Test.YtagighbfodlcjaaDoorShelf3
namespace Go.Proofs.YtagighbfodlcjaaDoor
open Go.RowKit Go.Shelf
attribute [local go_sem] Oper.semAt_some

/-- rows' text -/
def rowsL (s : ByteArray) (wd : Nat) (pre : List Nat) : List UInt8 := pre.flatMap fun x => (s.extract (x * wd) (x * wd + wd)).data.toList ++ [10]
def layG (s : ByteArray) (wd h : Nat) : ByteArray := ⟨(rowsL s wd (List.range h)).toArray⟩

theorem rowsL_len (s : ByteArray) (wd : Nat) : ∀ pre : List Nat, (rowsL s wd pre).length ≤ pre.length * (wd + 1)
  | [] => by simp [rowsL]
  | x :: pre => by
    have ih := rowsL_len s wd pre
    unfold rowsL at ih ⊢
    rw [List.flatMap_cons, List.length_append, List.length_append, Array.length_toList, List.length_cons, List.length_cons, List.length_nil, Nat.add_mul]
    have h1 : (s.extract (x * wd) (x * wd + wd)).data.size ≤ wd := by
      show (s.extract (x * wd) (x * wd + wd)).size ≤ wd
      rw [ByteArray.size_extract]; omega
    omega

theorem lay_no (W H : Int) (s : ByteArray) (hs : s.size ≤ 9223372036854775807) (hr : rightB W H s = false) (w : World) :
    Calls Tryd.prog 8 #[.agg #[.int .i64 W, .int .i64 H, .string s]] w fun e w' => ∃ v, e = .returned (.tuple #[.string ⟨#[]⟩, v]) ∧ IsErr w' 1 v ∧ Below w.heap.size w w' := by
  obtain ⟨W1, hW1⟩ : ∃ W1, w.alloc (.cells #[.int .i64 W, .int .i64 H, .string s] 29) = W1 := ⟨_, rfl⟩
  have hB1 : Below w.heap.size w W1 := by rw [← hW1]; exact (Below.refl _ w).alloc (Nat.le_refl _) _
  have hb1 : W1.heap[w.heap.size]? = some (.cells #[.int .i64 W, .int .i64 H, .string s] 29) := by rw [← hW1]; exact heap_new _ _
  have q0 := cell_of hb1 0
  have q1 := cell_of hb1 1
  have q2 := cell_of hb1 2
  simp only [List.getElem?_toArray, List.getElem?_cons_zero, List.getElem?_cons_succ] at q0 q1 q2
  have hrt := right_any W H s hs W1
  rw [hr] at hrt
  clear hr hb1
  go_enter Tryd.func8, Tryd.ntmps8
  go_wp2_with fail
  refine hrt.mono ?_
  rintro e w2 ⟨rfl, hB2⟩
  go_wp2_with fail
  refine (tag_any _ 1 _).mono ?_
  rintro e w3 ⟨rfl, rfl⟩
  go_wp2_with fail
  go_ret2
  exact ⟨_, rfl, IsErr.new _ _ _, (hB1.trans (hB2.mono hB1.size)).alloc (Nat.le_trans hB1.size hB2.size) _⟩

/-- what lies between two rounds: the builder, the bytes -/
structure LayI (w : World) (b : Nat) (s : ByteArray) (wd : Nat) (o4 : Obj) (pre : List Nat) (W : World) : Prop where
  bv : BV (b + 4) b (Lib.byteCells (rowsL s wd pre)) W
  dat : W.heap[b + 1]? = some o4
  siz : b + 4 ≤ W.heap.size
  bel : Below w.heap.size w W

theorem own_layI (w : World) (b : Nat) (s : ByteArray) (wd : Nat) (o4 : Obj) (ho : o4.isCells = true) (hb : w.heap.size ≤ b) : OwnFrom (b + 4) (LayI w b s wd o4) := fun pre W W' row h hg hr => by
  have hr' : ∀ k, row = some k → ∃ o, W.heap[k]? = some o ∧ o.isCells = false := fun k e => (hr k e).2
  have ne : ∀ {k : Nat} {o : Obj}, W.heap[k]? = some o → o.isCells = true → some k ≠ row := fun hk hc e => by
    obtain ⟨o', ho', hc'⟩ := hr' _ e.symm
    rw [hk] at ho'; cases ho'; rw [hc] at hc'; cases hc'
  obtain ⟨p, v, h1, h2, h3⟩ := h.bv.box
  refine ⟨⟨h.bv.lt, p, v, (hg.block b (Array.getElem?_eq_some_iff.1 h1).1 (ne h1 rfl)).trans h1, h2, h3.kept hg ?_⟩, (hg.block _ (Array.getElem?_eq_some_iff.1 h.dat).1 (ne h.dat ho)).trans h.dat, Nat.le_trans h.siz hg.size, h.bel.grown hg h.bel.size (fun k e => by have := (hr k e).1; omega)⟩
  rcases h3.2 with ⟨rfl, _⟩ | ⟨g, cap, cur, rfl, _, hgb, _⟩
  · exact .inl rfl
  · exact .inr (by simpa [Value.ownBlock] using ne hgb rfl)

def LayYes (s : ByteArray) (wd h : Nat) (w : World) (e : Ending) (w' : World) : Prop := e = .returned (.tuple #[.string (layG s wd h), .nilIface]) ∧ Below w.heap.size w w'

/-- the worlds behind the builder and the bytes -/
structure LayW (b : Nat) (s : ByteArray) (cap : Nat) (w2 W3 W4 : World) : Prop where
  s3 : W3.heap.size = b + 1
  s4 : W4.heap.size = b + 2
  hcap : s.size ≤ cap
  bld : W4.heap[b]? = some (.cells #[.pointer none, .slice none 0 0] 55 (0, 0))
  dat : ∃ cs fr, W4.heap[b + 1]? = some (.cells cs 5 fr) ∧ ∀ j, (hj : j < s.size) → cs[j]? = some (.int .u8 ((s[j]'hj).toNat : Int))
  bel : Below w2.heap.size w2 W4

theorem lay_worlds {n : Nat} {x z : Value} {s : ByteArray} {W1 : World} (w2 : World) (hl1 : n < W1.heap.size) (hB2 : Below W1.heap.size W1 w2) (q0 : W1.cell? ⟨n, 0, none⟩ = some x) (q2 : W1.cell? ⟨n, 2, none⟩ = some z) :
    ∃ W3 W4 cap, w2.alloc (.cells #[.pointer none, .slice none 0 0] 55) = W3 ∧ (convert 9 53 (.string s)).run Tryd.prog W3 = .ok (.slice (some ⟨W3.heap.size, 0, none⟩) s.size cap) W4 ∧
      W3.cell? ⟨n, 0, none⟩ = some x ∧ W4.cell? ⟨n, 0, none⟩ = some x ∧ W3.cell? ⟨n, 2, none⟩ = some z ∧ W4.cell? ⟨n, 2, none⟩ = some z ∧ LayW w2.heap.size s cap w2 W3 W4 := by
  have hl2 : n < w2.heap.size := Nat.lt_of_lt_of_le hl1 hB2.size
  have c0 := (hB2.cell (p := ⟨n, 0, none⟩) hl1).trans q0
  have c2 := (hB2.cell (p := ⟨n, 2, none⟩) hl1).trans q2
  obtain ⟨W3, hW3⟩ : ∃ W3, w2.alloc (.cells #[.pointer none, .slice none 0 0] 55) = W3 := ⟨_, rfl⟩
  have hB3 : Below w2.heap.size w2 W3 := by rw [← hW3]; exact (Below.refl _ _).alloc (Nat.le_refl _) _
  have hs3 : W3.heap.size = w2.heap.size + 1 := by rw [← hW3]; simp
  have hb3 : W3.heap[w2.heap.size]? = some (.cells #[.pointer none, .slice none 0 0] 55 (0, 0)) := by rw [← hW3]; exact heap_new _ _
  have hB4 : Below W3.heap.size W3 (Lib.bytesWorld W3 5 s) := ⟨rfl, rfl, rfl, by rw [Lib.bytesWorld_size]; omega, fun k hk => Lib.bytesWorld_at_old W3 5 s k hk⟩
  refine ⟨W3, Lib.bytesWorld W3 5 s, grownCap W3 s.size 0 5, hW3, Lib.run_convert_string_bytes (P := Tryd.prog) W3 9 53 5 s Tryd.underlying9 Tryd.underlying53 Tryd.underlying5, (hB3.cell (p := ⟨n, 0, none⟩) hl2).trans c0, ?_, (hB3.cell (p := ⟨n, 2, none⟩) hl2).trans c2, ?_, ?_⟩
  · exact (hB4.cell (p := ⟨n, 0, none⟩) (by show n < _; omega)).trans ((hB3.cell (p := ⟨n, 0, none⟩) hl2).trans c0)
  · exact (hB4.cell (p := ⟨n, 2, none⟩) (by show n < _; omega)).trans ((hB3.cell (p := ⟨n, 2, none⟩) hl2).trans c2)
  · refine ⟨hs3, by rw [Lib.bytesWorld_size, hs3], grownCap_ge _ _ _ _, (hB4.block _ (by omega)).trans hb3, ⟨_, _, by rw [← hs3]; exact Lib.bytesWorld_at_new W3 5 s, fun j hj => ?_⟩, hB3.trans (hB4.mono hB3.size)⟩
    unfold Lib.bytesCells
    rw [Array.getElem?_append_left (by rw [Array.size_map]; exact hj), Array.getElem?_map, Array.getElem?_eq_getElem (show j < s.data.size from hj)]
    rfl

theorem chunk_to (A : Option Addr) (n c : Nat) (k : Int) (hk : 1 ≤ k) (w : World) :
    Calls Tryd.prog 25 #[.slice A n c, .int .i64 k] w fun e w' => e = .returned (.func (.func 43) #[] #[.pointer (some ⟨w.heap.size, 0, none⟩), .pointer (some ⟨w.heap.size + 1, 0, none⟩)]) ∧
      (w'.heap.size = w.heap.size + 2 ∧ w'.heap[w.heap.size]? = some (.cells #[.slice A n c] 53 (0, 0)) ∧ w'.heap[w.heap.size + 1]? = some (.cells #[.int .i64 k] 3 (0, 0)) ∧ Below w.heap.size w w') :=
  (chunk_any A n c k hk w).mono fun e w' ⟨he, hw⟩ => ⟨he, by
    rw [hw]
    refine ⟨by simp, (Below.heap_alloc _ _ _ (by simp)).trans (heap_new _ _), ?_, ((Below.refl _ _).alloc (Nat.le_refl _) _).alloc (by simp) _⟩
    have := heap_new (w.alloc (.cells #[.slice A n c] 53)) (.cells #[.int .i64 k] 3)
    rwa [World.size_alloc] at this⟩

set_option maxRecDepth 100000 in
set_option maxHeartbeats 2000000 in
theorem lay_yes (wd h : Nat) (s : ByteArray) (h1 : 1 ≤ wd) (h8 : wd ≤ 8) (hh1 : 1 ≤ h) (hh8 : h ≤ 8) (hsz : s.size = h * wd) (hr : rightB (wd : Int) (h : Int) s = true) (w : World) :
    Calls Tryd.prog 8 #[.agg #[.int .i64 (wd : Int), .int .i64 (h : Int), .string s]] w (LayYes s wd h w) := by
  have hs64 : s.size ≤ 64 := by rw [hsz]; exact Nat.mul_le_mul hh8 h8
  obtain ⟨W1, hW1⟩ : ∃ W1, w.alloc (.cells #[.int .i64 (wd : Int), .int .i64 (h : Int), .string s] 29) = W1 := ⟨_, rfl⟩
  have hB1 : Below w.heap.size w W1 := by rw [← hW1]; exact (Below.refl _ w).alloc (Nat.le_refl _) _
  have hb1 : W1.heap[w.heap.size]? = some (.cells #[.int .i64 (wd : Int), .int .i64 (h : Int), .string s] 29) := by rw [← hW1]; exact heap_new _ _
  have hl1 : w.heap.size < W1.heap.size := by rw [← hW1]; simp
  have q0 := cell_of hb1 0
  have q1 := cell_of hb1 1
  have q2 := cell_of hb1 2
  simp only [List.getElem?_toArray, List.getElem?_cons_zero, List.getElem?_cons_succ] at q0 q1 q2
  have hrt := right_any (wd : Int) (h : Int) s (by omega) W1
  rw [hr] at hrt
  have HB1 := Lib.hid hb1
  clear hr hb1
  refine (callsIn_wide (n := 20)).1 ?_
  refine callsIn_of_wp_marks Tryd.func8 rfl trivial ?_ rfl
  simp only [Tryd.ntmps8, List.size_toArray, List.length_cons, List.length_nil, Nat.reduceAdd, Nat.reduceSub, Array.replicate_succ, Array.replicate_zero, List.push_toArray, List.append_toArray, List.nil_append, List.cons_append]
  gi_wp2_with (first
    | (refine ⟨trivial, ?_⟩; (with_reducible refine (callsIn_wide.2 hrt).mono ?_); rintro e w2 ⟨rfl, hB2⟩; obtain ⟨W3, W4, cap, hW3, hcv, q03, q04, q23, q24, HF⟩ := lay_worlds (s := s) w2 hl1 hB2 q0 q2; clear q0 q1 q2)
    | (refine ⟨trivial, ?_⟩; (with_reducible refine (callsIn_wide.2 (chunk_to _ _ _ (wd : Int) (by omega) W4)).mono ?_); rintro e W5 ⟨rfl, hW5⟩))
  obtain ⟨h5s, h5a, h5b, hB5⟩ := hW5
  obtain ⟨cs, fr, hdat, hcs⟩ := HF.dat
  have hw2 : w.heap.size + 1 ≤ w2.heap.size := by have := hB2.size; omega
  obtain ⟨b, hb⟩ : ∃ b, w2.heap.size = b := ⟨_, rfl⟩
  have hs3 := HF.s3
  have hs4 := HF.s4
  have hbld := HF.bld
  have hcap := HF.hcap
  have hbel4 := HF.bel
  rw [hb] at hs3 hs4 hbld hdat hw2
  rw [hs4] at h5s h5a h5b
  rw [hs3] at h5a
  rw [hb, hs3, hs4]
  have hBw5 : Below w.heap.size w W5 := by
    have a1 := hB1.trans (hB2.mono hB1.size)
    have a2 := a1.trans (hbel4.mono a1.size)
    exact a2.trans (hB5.mono a2.size)
  have hI0 : LayI w b s wd (.cells cs 5 fr) [] W5 := by
    refine ⟨⟨by omega, _, _, (hB5.block b (by omega)).trans hbld, .inl rfl, World.ownsRow_nil _ _ _ _⟩, (hB5.block (b + 1) (by omega)).trans hdat, by omega, hBw5⟩
  have hsize5 : W5.heap.size = b + 4 := by omega
  refine wpIn_rangeFunc_ownF (N := h) (S := fun xs => xs = List.finRange h) (Sp := fun pre => pre.length ≤ h) (w0 := W5) (encs := fun x : Fin h => #[Value.slice (some ⟨b + 1, x.val * wd, none⟩) wd wd]) (Kp := fun A B => B.heap[b + 2]? = A.heap[b + 2]? ∧ B.heap[b + 2 + 1]? = A.heap[b + 2 + 1]?) rfl (by omega)
    (gf := 43) (lb := #[.pointer (some ⟨b + 2, 0, none⟩), .pointer (some ⟨b + 2 + 1, 0, none⟩)]) rfl trivial (enters_of Tryd.func43 (by kernel_rfl) rfl)
    (fun l J Jx W hW hJ hJx hY h0 => chunk1_in _ (by omega) l (b + 2) (b + 2 + 1) (b + 1) wd h cap h1 h8 hh8 (by omega) J Jx (fun s A A' hs hb => hJ s A A' none hs (below_grown hb) (by simp)) (fun pre x A hA hl => hY pre x A hA hl) W ((hW.block _ (by omega)).trans h5a) ((hW.block _ (by omega)).trans h5b) h0)
    (fun h k => ⟨k.1.trans h.1, k.2.trans h.2⟩) (fun W l o o' hl _ _ _ => ⟨World.putObj_heap_other (by omega), World.putObj_heap_other (by omega)⟩) (Below.refl _ _) (fun _ => rfl)
    (fun pre W => LayI w b s wd (.cells cs 5 fr) (pre.map Fin.val) W) (fun _ _ _ => False) (fun pre W W' row hh hg hr => own_layI w b s wd _ rfl (by omega) (pre.map Fin.val) W W' row hh hg (by rw [← hsize5]; exact hr)) (fun _ _ _ _ _ hf _ _ => hf.elim) hI0
    (fun x => { tmps := #[.agg #[.int .i64 (wd : Int), .int .i64 (h : Int), .string s], .pointer (some ⟨w.heap.size, 0, none⟩), .string ⟨#[]⟩, .nilIface, .pointer (some ⟨b, 0, none⟩), .slice (some ⟨b + 1, x.val * wd, none⟩) wd wd, .agg #[.int .i64 (wd : Int), .int .i64 (h : Int), .string s], .bool true, .bool false, undef, undef, .pointer (some ⟨w.heap.size, 2, none⟩), .string s, .slice (some ⟨b + 1, 0, none⟩) (h * wd) cap, .pointer (some ⟨w.heap.size, 0, none⟩), .int .i64 (wd : Int), .func (.func 43) #[] #[.pointer (some ⟨b + 2, 0, none⟩), .pointer (some ⟨b + 2 + 1, 0, none⟩)], .slice (some ⟨b + 1, x.val * wd, none⟩) wd wd, undef, undef, undef, undef, undef], defers := [] }) ?assign ?body ?done (fun _ _ _ _ _ _ hf _ => hf.elim)
  case assign =>
    intro l x W K hK
    gi_wp2
    exact hK
  case body =>
    rintro l pre x W hI hlen
    have hxw : x.val * wd + wd ≤ s.size := by
      rw [hsz]
      have := Nat.mul_le_mul_right wd (show x.val + 1 ≤ h from x.isLt)
      rwa [Nat.add_mul, Nat.one_mul] at this
    have hby : Lib.Bytes W (b + 1) 0 s := fun i hi => by rw [Nat.zero_add, cell_of hI.dat]; exact hcs i hi
    have hconv := Lib.run_convert_window (P := Tryd.prog) W 53 5 9 Tryd.underlying53 Tryd.underlying5 Tryd.underlying9 (b + 1) 0 s hby (x.val * wd) wd wd hxw
    rw [Nat.zero_add] at hconv
    obtain ⟨r, hr⟩ : ∃ r, s.extract (x.val * wd) (x.val * wd + wd) = r := ⟨_, rfl⟩
    have hrs : r.size ≤ 8 := by rw [← hr, ByteArray.size_extract]; omega
    rw [hr] at hconv
    have hrl := rowsL_len s wd (pre.map Fin.val)
    have hll : (pre.map Fin.val).length * (wd + 1) ≤ 8 * 9 := Nat.mul_le_mul (by rw [List.length_map]; omega) (by omega)
    have hwr := write_up (b + 4) b _ (r ++ ⟨#[10]⟩) W hI.bv (by rw [Lib.byteCells_length, ByteArray.size_append]; show _ + (r.size + 1) ≤ _; omega) hI.siz
    have hnew : Lib.byteCells (rowsL s wd (pre.map Fin.val)) ++ Lib.strCells (r ++ ⟨#[10]⟩) = Lib.byteCells (rowsL s wd ((pre ++ [x]).map Fin.val)) := by
      have e1 : (r ++ ⟨#[10]⟩ : ByteArray).data.toList = r.data.toList ++ [10] := by rw [ByteArray.data_append, Array.toList_append]
      have e2 : rowsL s wd ((pre ++ [x]).map Fin.val) = rowsL s wd (pre.map Fin.val) ++ (r.data.toList ++ [10]) := by
        unfold rowsL
        rw [List.map_append, List.flatMap_append, List.map_cons, List.map_nil, List.flatMap_cons, List.flatMap_nil, List.append_nil, hr]
      rw [Lib.strCells_eq, ← Lib.byteCells_append, e1, e2]
    rw [hnew] at hwr
    have HI := Lib.hid hI
    have hsum : ¬ 9223372036854775807 < r.size + 1 := by omega
    clear hby hI hr hnew hrl hll
    gi_wp2_with (refine ⟨trivial, ?_⟩; refine (CallsIn.inRound l (callsIn_wide.2 hwr)).mono ?_; rintro e w' ⟨rfl, hbv, hup, hko⟩)
    refine ⟨hko, ⟨hup.heap (by omega) (by omega), hup.heap (by omega) (by omega)⟩, hbv, (hup.heap (by omega) (by omega)).trans HI.out.dat, Nat.le_trans HI.out.siz hup.size, HI.out.bel.trans (hup.below (by omega) (fun k hk e => by omega))⟩
  case done =>
    rintro D xs W hD rfl hI hK
    have hst := Tryd.Builder_String_any_k b b _ W (Lib.IsBuilderF.of hI.bv.isB) (by have := hI.siz; omega)
    have hlay : (⟨(rowsL s wd ((List.finRange h).map Fin.val)).toArray⟩ : ByteArray) = layG s wd h := by
      unfold layG
      rw [show (List.finRange h).map Fin.val = List.range h from List.ext_getElem (by simp) (by intro i h1 h2; simp)]
    rw [hlay] at hst
    have HI := Lib.hid hI
    clear hI hlay
    gi_wp2_with (refine ⟨trivial, ?_⟩; refine (callsIn_wide.2 hst).mono ?_; rintro e w6 ⟨rfl, _, hB6, hK6⟩)
    have hKf : w6.heap[D]? = some (.deferred (some [])) := hK6 D _ hK (by
      intro e
      have e' : D = b := by simpa using e
      rw [hsize5] at hD
      omega) (fun c fz e => by cases e)
    have hbf : Below w.heap.size w w6 := HI.out.bel.trans ⟨hB6.os, hB6.tape, hB6.output, hB6.size, fun k hk => hB6.block k (by omega)⟩
    refine ⟨by simp, .inl ⟨_, _, rfl, run_takeDeferred hKf, ?_⟩⟩
    refine ⟨.tuple #[.string (layG s wd h), .nilIface], ?_, rfl, ?_⟩
    · simp [results, Tryd.f8, go_sem]
    · exact hbf.trans (belowK_b (w := w) (Nat.le_refl _) w6 D _ _ (by omega) hKf rfl rfl)
end Go.Proofs.YtagighbfodlcjaaDoor
