/-
  A map's text: what is laid is read as it was; what is read is laid as it stands there. Plain.
-/
import Derived.Test.YtagighbfodlcjaaDoorGParse
import Derived.Test.YtagighbfodlcjaaDoorGLay
namespace Go.Proofs.YtagighbfodlcjaaDoor

theorem ba_ext {a b : ByteArray} (h : a.data.toList = b.data.toList) : a = b := ByteArray.ext (Array.ext' h)

def lineOf (r : List UInt8) : ByteArray := ⟨(r ++ [10]).toArray⟩

theorem ended_line (r : List UInt8) : ended (lineOf r) = true := by
  unfold ended Lib.hasSuffix lineOf
  exact List.isSuffixOf_iff_suffix.2 (List.suffix_append _ _)

theorem row_line (r : List UInt8) : rowOf (lineOf r) = ⟨r.toArray⟩ := by
  have h := ended_line r
  unfold ended at h
  unfold rowOf Lib.trimSuffix
  rw [if_pos h]
  apply ba_ext
  simp [lineOf]

theorem line_row {x : ByteArray} (h : ended x = true) : x = lineOf (rowOf x).data.toList := by
  unfold ended at h
  have h2 : Lib.hasSuffix x.data.toList [10] = true := h
  obtain ⟨r, hr⟩ := List.isSuffixOf_iff_suffix.1 (show ([10] : List UInt8).isSuffixOf x.data.toList = true from h2)
  have e : x = lineOf r := ba_ext (by simp [lineOf, hr])
  rw [e, row_line]

/-- the rows of a list of h*w bytes -/
def cutRows (w h : Nat) (l : List UInt8) : List (List UInt8) := (List.range h).map fun x => (l.drop (x * w)).take w

theorem cutRows_succ (w h : Nat) (l : List UInt8) : cutRows w (h + 1) l = l.take w :: cutRows w h (l.drop w) := by
  unfold cutRows
  rw [List.range_succ_eq_map, List.map_cons, List.map_map]
  congr 1
  · simp
  · apply List.map_congr_left
    intro x _
    simp [List.drop_drop, Nat.add_mul, Nat.add_comm]

theorem cutRows_flat (w : Nat) : ∀ (h : Nat) (l : List UInt8), l.length = h * w → (cutRows w h l).flatten = l
  | 0, l, hl => by
    have : l = [] := List.eq_nil_of_length_eq_zero (by simpa using hl)
    subst this; rfl
  | h + 1, l, hl => by
    rw [cutRows_succ, List.flatten_cons, cutRows_flat w h (l.drop w) (by rw [List.length_drop, hl, Nat.add_mul]; omega), List.take_append_drop]

theorem cutRows_len (w : Nat) : ∀ (h : Nat) (l : List UInt8), l.length = h * w → ∀ r ∈ cutRows w h l, r.length = w
  | 0, l, _, r, hr => by simp [cutRows] at hr
  | h + 1, l, hl, r, hr => by
    rw [cutRows_succ] at hr
    rcases List.mem_cons.1 hr with rfl | hr
    · rw [List.length_take, hl, Nat.add_mul]; omega
    · exact cutRows_len w h (l.drop w) (by rw [List.length_drop, hl, Nat.add_mul]; omega) r hr

theorem cutRows_of (w : Nat) : ∀ rs : List (List UInt8), (∀ r ∈ rs, r.length = w) → cutRows w rs.length rs.flatten = rs
  | [], _ => rfl
  | r :: rs, h => by
    have hr := h r (by simp)
    rw [List.length_cons, cutRows_succ, List.flatten_cons, ← hr, List.take_left, List.drop_left, hr, cutRows_of w rs fun x hx => h x (by simp [hx])]

theorem rowsL_cut (s : ByteArray) (w h : Nat) : rowsL s w (List.range h) = (cutRows w h s.data.toList).flatMap (· ++ [10]) := by
  unfold rowsL cutRows
  rw [List.flatMap_map]
  congr 1
  funext x
  rw [ext_list, List.drop_take, show x * w + w - x * w = w by omega]

theorem lines_rows : ∀ rs : List (List UInt8), (∀ r ∈ rs, (10 : UInt8) ∉ r) → linesL (rs.flatMap (· ++ [10])) = rs.map (· ++ [10])
  | [], _ => rfl
  | r :: rs, h => by
    rw [List.flatMap_cons, List.map_cons, lines_cut (r ++ [10]) _ (by simp) (fun x hx e => by rw [List.dropLast_concat] at hx; subst e; exact h r (by simp) hx) (.inl (by simp)), lines_rows rs fun x hx => h x (by simp [hx])]

theorem fold_rows (w : Nat) : ∀ (rs : List (List UInt8)) (st : PS), (∀ r ∈ rs, r.length = w) → (0 < st.h → st.w = w) → st.h + rs.length ≤ 8 →
    ∃ st', foldP (rs.map lineOf) st = some st' ∧ st'.h = st.h + rs.length ∧ st'.c.data.toList = st.c.data.toList ++ rs.flatten ∧ (0 < st'.h → st'.w = w)
  | [], st, _, hw, _ => ⟨st, rfl, by simp, by simp, hw⟩
  | r :: rs, st, hr, hw, hl => by
    have hrl := hr r (by simp)
    have hsz : (rowOf (lineOf r)).size = w := by
      rw [row_line]
      show r.toArray.size = w
      simpa using hrl
    simp only [List.length_cons] at hl
    have hstep : stepP st (lineOf r) = some ⟨w, st.h + 1, st.c ++ rowOf (lineOf r)⟩ := by
      unfold stepP
      rw [if_pos ⟨ended_line r, fun h0 => by rw [hsz, hw h0], by omega⟩, hsz]
    obtain ⟨st', h1, h2, h3, h4⟩ := fold_rows w rs ⟨w, st.h + 1, st.c ++ rowOf (lineOf r)⟩ (fun x hx => hr x (by simp [hx])) (fun _ => rfl) (by show st.h + 1 + rs.length ≤ 8; omega)
    refine ⟨st', ?_, by rw [h2]; show st.h + 1 + rs.length = _; simp only [List.length_cons]; omega, ?_, h4⟩
    · show (stepP st (lineOf r)).bind (foldP (rs.map lineOf)) = some st'
      rw [hstep]; exact h1
    · rw [h3, row_line]
      show (st.c ++ (⟨r.toArray⟩ : ByteArray)).data.toList ++ rs.flatten = _
      rw [ByteArray.data_append, Array.toList_append]
      simp

/-- WHAT IS LAID IS READ AS IT WAS. -/
theorem parse_lay {wd h : Nat} {s : ByteArray} (hr : rightB (wd : Int) (h : Int) s = true) : parseP (layG s wd h) = some ⟨wd, h, s⟩ := by
  obtain ⟨hz, hc⟩ := rightB_true.1 hr
  obtain ⟨z1, z2, z3, z4, z5, z6⟩ := hz
  have hlen : s.data.toList.length = h * wd := by
    rw [Array.length_toList]
    show s.size = h * wd
    have : (s.size : Int) = ((wd * h : Nat) : Int) := by rw [z5]; simp
    rw [Nat.mul_comm]; omega
  have hcl := cutRows_len wd h s.data.toList hlen
  have hfl := cutRows_flat wd h s.data.toList hlen
  have hno : ∀ r ∈ cutRows wd h s.data.toList, (10 : UInt8) ∉ r := fun r hrm hm => by
    have : (10 : UInt8) ∈ s.data.toList := by rw [← hfl]; exact List.mem_flatten.2 ⟨r, hrm, hm⟩
    have := z6 10 this
    revert this; decide
  have hlines : linesB (layG s wd h) = (cutRows wd h s.data.toList).map lineOf := by
    unfold linesB layG
    rw [show ((⟨(rowsL s wd (List.range h)).toArray⟩ : ByteArray)).data.toList = rowsL s wd (List.range h) from rfl, rowsL_cut, lines_rows _ hno, List.map_map]
    rfl
  obtain ⟨st', h1, h2, h3, h4⟩ := fold_rows wd (cutRows wd h s.data.toList) PS0 hcl (fun h0 => by cases h0) (by show 0 + _ ≤ 8; unfold cutRows; rw [List.length_map, List.length_range]; omega)
  have hh : st'.h = h := by rw [h2]; show 0 + (cutRows wd h s.data.toList).length = h; unfold cutRows; simp
  have hcc : st'.c = s := ba_ext (by rw [h3, hfl]; rfl)
  have hw : st'.w = wd := h4 (by omega)
  unfold parseP
  rw [hlines, h1]
  obtain ⟨a, b, c⟩ := st'
  simp only at hh hcc hw
  subst hh; subst hcc; subst hw
  simp only [hr, if_true]

theorem fold_all : ∀ (xs : List ByteArray) (st st' : PS), foldP xs st = some st' → st'.h = st.h + xs.length ∧ st'.c.data.toList = st.c.data.toList ++ (xs.map fun x => (rowOf x).data.toList).flatten ∧ (∀ x ∈ xs, ended x = true) ∧ (0 < st.h → st'.w = st.w) ∧ (∀ x ∈ xs, (rowOf x).size = st'.w)
  | [], st, st', h => by cases h; exact ⟨rfl, by simp, fun x hx => by simp at hx, fun _ => rfl, fun x hx => by simp at hx⟩
  | x :: xs, st, st', h => by
    have h4 : (stepP st x).bind (foldP xs) = some st' := h
    unfold stepP at h4
    split at h4
    · rename_i hc
      obtain ⟨k1, k2, k3, k4, k5⟩ := fold_all xs _ st' h4
      have kw : st'.w = (rowOf x).size := k4 (by show 0 < st.h + 1; omega)
      refine ⟨by rw [k1]; show st.h + 1 + xs.length = _; simp only [List.length_cons]; omega, ?_, fun y hy => ?_, fun h0 => by rw [kw, hc.2.1 h0], fun y hy => ?_⟩
      · rw [k2]
        show (st.c ++ rowOf x).data.toList ++ _ = _
        rw [ByteArray.data_append, Array.toList_append]
        simp
      · rcases List.mem_cons.1 hy with rfl | hy
        · exact hc.1
        · exact k3 y hy
      · rcases List.mem_cons.1 hy with rfl | hy
        · exact kw.symm
        · exact k5 y hy
    · cases h4

/-- WHAT IS READ IS LAID AS IT STANDS THERE. -/
theorem lay_parse {t : ByteArray} {st : PS} (h : parseP t = some st) : layG st.c st.w st.h = t ∧ rightB (st.w : Int) (st.h : Int) st.c = true := by
  unfold parseP at h
  split at h
  case h_2 => cases h
  rename_i st' hf
  split at h
  case isFalse => cases h
  rename_i hr
  obtain rfl := Option.some.inj h
  refine ⟨?_, hr⟩
  obtain ⟨k1, k2, k3, _, k5⟩ := fold_all _ _ _ hf
  have e1 : st'.c.data.toList = ((linesB t).map fun x => (rowOf x).data.toList).flatten := by rw [k2]; rfl
  have e2 : st'.h = ((linesB t).map fun x => (rowOf x).data.toList).length := by rw [k1, List.length_map]; show 0 + _ = _; omega
  have hcut := cutRows_of st'.w ((linesB t).map fun x => (rowOf x).data.toList) fun r hr => by
    obtain ⟨x, hx, rfl⟩ := List.mem_map.1 hr
    rw [← k5 x hx, Array.length_toList]
    rfl
  apply ba_ext
  show (rowsL st'.c st'.w (List.range st'.h)) = t.data.toList
  rw [rowsL_cut, e1, e2, hcut, List.flatMap_map]
  have e3 : (linesB t).flatMap (fun x => (rowOf x).data.toList ++ [10]) = (linesB t).flatMap (fun x => x.data.toList) := by
    have : ∀ xs : List ByteArray, (∀ x ∈ xs, ended x = true) → xs.flatMap (fun x => (rowOf x).data.toList ++ [10]) = xs.flatMap (fun x => x.data.toList) := by
      intro xs
      induction xs with
      | nil => intro _; rfl
      | cons x xs ih =>
        intro hx
        have e := congrArg (fun z : ByteArray => z.data.toList) (line_row (hx x (by simp)))
        rw [List.flatMap_cons, List.flatMap_cons, ih fun y hy => hx y (by simp [hy])]
        have e' : x.data.toList = (rowOf x).data.toList ++ [10] := by simpa [lineOf] using e
        rw [← e']
    exact this _ k3
  rw [e3]
  unfold linesB
  rw [List.flatMap_map]
  have := lines_flat t.data.toList
  rw [List.flatten_eq_flatMap] at this
  simpa using this

theorem right_nat {W H : Int} {s : ByteArray} (h : rightB W H s = true) : ∃ wd h' : Nat, W = (wd : Int) ∧ H = (h' : Int) ∧ 1 ≤ wd ∧ wd ≤ 8 ∧ 1 ≤ h' ∧ h' ≤ 8 ∧ s.size = h' * wd := by
  obtain ⟨⟨z1, z2, z3, z4, z5, _⟩, _⟩ := rightB_true.1 h
  obtain ⟨wd, rfl⟩ := Int.eq_ofNat_of_zero_le (show 0 ≤ W by omega)
  obtain ⟨h', rfl⟩ := Int.eq_ofNat_of_zero_le (show 0 ≤ H by omega)
  refine ⟨wd, h', rfl, rfl, by omega, by omega, by omega, by omega, ?_⟩
  have : (s.size : Int) = ((wd * h' : Nat) : Int) := by rw [z5]; simp
  rw [Nat.mul_comm]; omega
end Go.Proofs.YtagighbfodlcjaaDoor
