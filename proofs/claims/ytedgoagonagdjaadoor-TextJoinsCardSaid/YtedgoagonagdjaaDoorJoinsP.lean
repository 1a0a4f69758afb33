/-
  Requests' lines, one behind the other: they are the text's lines. Plain.
-/
import Derived.Test.YtedgoagonagdjaaDoorPlain3
import Derived.Test.YtedgoagonagdjaaDoorUnlike
import Derived.Test.YtedgoagonagdjaaDoorLines
namespace Go.Proofs.YtedgoagonagdjaaDoor

/-- a line of a request: its end, and none within it -/
def LineOk (l : ByteArray) : Prop := ∃ b : List UInt8, l.data.toList = b ++ [10] ∧ (10 : UInt8) ∉ b ∧ b.length ≤ 17

theorem decL_ten : ∀ v : Fin 1000, (10 : UInt8) ∉ decL v.val ∧ (decL v.val).length ≤ 3 := by decide +kernel

theorem itoa_ten (v : Int) (h0 : 0 ≤ v) (h1 : v ≤ 999) : (10 : UInt8) ∉ Lib.itoa v ∧ (Lib.itoa v).length ≤ 3 := by
  obtain ⟨u, rfl⟩ := Int.eq_ofNat_of_zero_le h0
  rw [Lib.itoa_nonneg, dec_decL u (by omega)]
  exact decL_ten ⟨u, by omega⟩

theorem want_ten (nm what : ByteArray) (h : wantOf nm = some what) : (10 : UInt8) ∉ nm.data.toList ∧ nm.data.toList.length ≤ 5 ∧ what.data.toList.length ≤ 3 := by
  unfold wantOf at h
  repeat' split at h
  all_goals first | (rename_i e; subst e; cases h; decide) | cases h

theorem flat_ten (ks : List UInt8) (t : Abc) (hs : t.small) : (10 : UInt8) ∉ (ks.flatMap fun c => 32 :: Lib.itoa (pick t c)) ∧ (ks.flatMap fun c => 32 :: Lib.itoa (pick t c)).length ≤ 4 * ks.length := by
  induction ks with
  | nil => simp
  | cons k ks ih =>
    have h := itoa_ten _ (pick_small hs k).1 (pick_small hs k).2
    rw [List.flatMap_cons]
    refine ⟨fun hm => ?_, ?_⟩
    · rcases List.mem_append.1 hm with hm | hm
      · rcases List.mem_cons.1 hm with hm | hm
        · cases hm
        · exact h.1 hm
      · exact ih.1 hm
    · have := ih.2
      have := h.2
      simp only [List.length_append, List.length_cons]
      omega

theorem lay_line {nm s : ByteArray} {t : Abc} (h : layP nm t = some s) : LineOk s := by
  have hr := layP_read h
  have hR := reads_right hr
  have hs := small_of_right hR
  obtain rfl : s = layS nm t := by
    unfold layP at h
    split at h
    · exact (Option.some.inj h).symm
    · cases h
  cases hw : wantOf nm with
  | none => unfold rightP at hR; rw [hw] at hR; cases hR
  | some what =>
    have h5 := want_ten nm what hw
    have hf := flat_ten what.data.toList t hs
    refine ⟨layL nm.data.toList what.data.toList t, ?_, fun hm => ?_, ?_⟩
    · show ((layL nm.data.toList ((wantOf nm).getD ⟨#[]⟩).data.toList t ++ [10]).toArray).toList = _
      rw [hw]; rfl
    · rcases List.mem_append.1 hm with hm | hm
      · exact h5.1 hm
      · exact hf.1 hm
    · have := hf.2
      unfold layL
      rw [List.length_append]
      omega

theorem line_cut {l : ByteArray} (h : LineOk l) (r : List UInt8) : linesL (l.data.toList ++ r) = l.data.toList :: linesL r := by
  obtain ⟨b, hb, hn, _⟩ := h
  rw [hb]
  exact lines_cut (b ++ [10]) r (by simp) (fun x hx e => by rw [List.dropLast_concat] at hx; subst e; exact hn hx) (.inl (by simp))

theorem lines_join : ∀ ls : List ByteArray, (∀ l ∈ ls, LineOk l) → linesL (ls.flatMap (·.data.toList)) = ls.map (·.data.toList)
  | [], _ => rfl
  | l :: ls, h => by
    rw [List.flatMap_cons, line_cut (h l (by simp)), lines_join ls (fun x hx => h x (by simp [hx])), List.map_cons]

theorem linesB_join {ls : List ByteArray} (h : ∀ l ∈ ls, LineOk l) {S : ByteArray} (hS : S.data.toList = ls.flatMap (·.data.toList)) : linesB S = ls := by
  rw [linesB, hS, lines_join ls h, List.map_map]
  conv => rhs; rw [← List.map_id ls]
  apply List.map_congr_left
  intro x _
  exact ba_ext rfl

theorem line_size {l : ByteArray} (h : LineOk l) : l.size ≤ 18 := by
  obtain ⟨b, hb, _, hl⟩ := h
  rw [size_list, hb, List.length_append]
  simp only [List.length_cons, List.length_nil]
  omega
end Go.Proofs.YtedgoagonagdjaaDoor
