/-
  text.form, text.number, text.part.
-/
import Derived.Test.YtedgoagonagdjaaDoorVars
import Derived.Test.YtedgoagonagdjaaDoorNeeds
import Derived.BigQuiet
namespace Go.Proofs.YtedgoagonagdjaaDoor
open Go.RowKit

theorem form_any (w : World) (_hv : Vars w) :
    Calls Tryd.prog 29 #[] w fun e w' => ∃ v, e = .returned v ∧ IsErr w' 2 v ∧ Below w.heap.size w w' := by
  go_enter Tryd.func29, Tryd.ntmps29
  go_wp2_with fail
  refine (tag_any _ _ _).mono ?_
  rintro e w' ⟨rfl, rfl⟩
  go_wp2
  go_ret
  exact ⟨_, rfl, IsErr.new _ _ _, (Below.refl _ _).alloc (Nat.le_refl _) _⟩

/-- the number that a word tells -/
def numOf (s : ByteArray) : Option Int :=
  match Lib.atoiAll s.data.toList with
  | .ok v => if 0 ≤ v ∧ v ≤ 999 ∧ Lib.itoa v = s.data.toList then some v else none
  | _ => none

theorem numEnd_cases (x : Lib.NumEnd Int) : (∃ v, x = .ok v) ∨ x = Lib.atoiAll [] ∨ x = .range := by
  cases x
  · exact .inl ⟨_, rfl⟩
  · exact .inr (.inl rfl)
  · exact .inr (.inr rfl)

theorem number_ok (s : ByteArray) (hs : s.size ≤ 1000000) (v : Int) (hn : numOf s = some v) (w : World) (hv : Vars w) :
    Calls Tryd.prog 30 #[.string s] w fun e w' => e = .returned (.tuple #[.int .i64 v, .bool true]) ∧ Below w.heap.size w w' := by
  unfold numOf at hn
  rcases numEnd_cases (Lib.atoiAll s.data.toList) with ⟨u, ha⟩ | ha | ha
  · rw [ha] at hn
    simp only at hn
    split at hn
    case isFalse => simp at hn
    rename_i h
    obtain ⟨h0, h1, h2⟩ := h
    cases hn
    go_enter Tryd.func30, Tryd.ntmps30
    go_wp2_with fail
    refine (Tryd.strconv_Atoi_ok s (by omega) v ha w).mono ?_
    rintro e w' ⟨rfl, hw⟩
    have hb : Below w.heap.size w w' := by
      rcases hw with rfl | ⟨t, rfl⟩
      · exact Below.refl _ _
      · exact Lib.bytesWorld_below _ _ _
    clear hw
    have hp := (hv.below' hb).pow
    have HP := Lib.hid hp
    clear hp ha
    have h2' : ((⟨(Lib.itoa v).toArray⟩ : ByteArray).toList == s.toList) = true := by rw [beq_iff_eq, h2]
    go_wp2_with fail
    refine (Tryd.strconv_Itoa v (by omega) (by omega) w' HP.out).mono ?_
    rintro e w2 ⟨rfl, k, os, rfl⟩
    clear HP
    go_wp2_with fail
    go_ret2
    exact ⟨rfl, hb.trans ((below_grow w' k os).mono hb.size)⟩
  · rw [ha] at hn; cases hn
  · rw [ha] at hn; cases hn

def NumBad (w : World) (e : Ending) (w' : World) : Prop := ∃ v, e = .returned (.tuple #[.int .i64 v, .bool false]) ∧ Below w.heap.size w w'

theorem number_bad (s : ByteArray) (hs : s.size ≤ 1000000) (hn : numOf s = none) (w : World) (hv : Vars w) :
    Calls Tryd.prog 30 #[.string s] w (NumBad w) := by
  unfold numOf at hn
  rcases numEnd_cases (Lib.atoiAll s.data.toList) with ⟨u, ha⟩ | ha | ha
  rotate_left
  · obtain ⟨tp, p, hvar⟩ := hv.syn
    go_enter Tryd.func30, Tryd.ntmps30
    go_wp2_with fail
    refine (Tryd.strconv_Atoi_syntax_var s (by omega) ha tp p w hvar).mono ?_
    rintro e w' ⟨N, rfl, _, _, hb⟩
    clear ha hvar hn
    go_wp2_with fail
    go_ret2
    exact ⟨_, rfl, hb⟩
  · obtain ⟨tp, p, hvar⟩ := hv.rng
    go_enter Tryd.func30, Tryd.ntmps30
    go_wp2_with fail
    refine (Tryd.strconv_Atoi_range_var s (by omega) ha tp p w hvar).mono ?_
    rintro e w' ⟨N, rfl, _, _, hb⟩
    clear ha hvar hn
    go_wp2_with fail
    go_ret2
    exact ⟨_, rfl, hb⟩
  · rw [ha] at hn
    simp only at hn
    split at hn
    case isTrue => simp at hn
    rename_i h
    have hbd := Lib.atoiAll_bounds ha
    by_cases h0 : 0 ≤ u
    · by_cases h1 : u ≤ 999
      · have h2 : ¬ Lib.itoa u = s.data.toList := fun h2 => h ⟨h0, h1, h2⟩
        clear h hn
        go_enter Tryd.func30, Tryd.ntmps30
        go_wp2_with fail
        refine (Tryd.strconv_Atoi_ok s (by omega) u ha w).mono ?_
        rintro e w' ⟨rfl, hw⟩
        have hb : Below w.heap.size w w' := by
          rcases hw with rfl | ⟨t, rfl⟩
          · exact Below.refl _ _
          · exact Lib.bytesWorld_below _ _ _
        clear hw
        have hp := (hv.below' hb).pow
        have HP := Lib.hid hp
        clear hp ha
        have h2' : (Lib.itoa u == s.toList) = false := by rw [beq_eq_false_iff_ne]; rwa [show s.toList = s.data.toList from Lib.toList_data _]
        go_wp2_with fail
        refine (Tryd.strconv_Itoa u (by omega) (by omega) w' HP.out).mono ?_
        rintro e w2 ⟨rfl, k, os, rfl⟩
        clear HP
        go_wp2_with fail
        go_ret2
        exact ⟨_, rfl, hb.trans ((below_grow w' k os).mono hb.size)⟩
      · clear h hn
        go_enter Tryd.func30, Tryd.ntmps30
        go_wp2_with fail
        refine (Tryd.strconv_Atoi_ok s (by omega) u ha w).mono ?_
        rintro e w' ⟨rfl, hw⟩
        have hb : Below w.heap.size w w' := by
          rcases hw with rfl | ⟨t, rfl⟩
          · exact Below.refl _ _
          · exact Lib.bytesWorld_below _ _ _
        clear hw ha
        go_wp2_with fail
        go_ret2
        exact ⟨_, rfl, hb⟩
    · clear h hn
      go_enter Tryd.func30, Tryd.ntmps30
      go_wp2_with fail
      refine (Tryd.strconv_Atoi_ok s (by omega) u ha w).mono ?_
      rintro e w' ⟨rfl, hw⟩
      have hb : Below w.heap.size w w' := by
        rcases hw with rfl | ⟨t, rfl⟩
        · exact Below.refl _ _
        · exact Lib.bytesWorld_below _ _ _
      clear hw ha
      go_wp2_with fail
      go_ret2
      exact ⟨_, rfl, hb⟩

theorem part_a (b : Nat) (w : World) : Calls Tryd.prog 22 #[.pointer (some ⟨b, 0, none⟩), .int .u8 97] w fun e w' => e = .returned (.pointer (some ⟨b, 1, none⟩)) ∧ w = w' := by
  go_enter Tryd.func22, Tryd.ntmps22
  go_wp2
  go_ret
  exact ⟨rfl, rfl⟩
theorem part_b (b : Nat) (w : World) : Calls Tryd.prog 22 #[.pointer (some ⟨b, 0, none⟩), .int .u8 98] w fun e w' => e = .returned (.pointer (some ⟨b, 2, none⟩)) ∧ w = w' := by
  go_enter Tryd.func22, Tryd.ntmps22
  go_wp2
  go_ret
  exact ⟨rfl, rfl⟩
theorem part_c (b : Nat) (w : World) : Calls Tryd.prog 22 #[.pointer (some ⟨b, 0, none⟩), .int .u8 99] w fun e w' => e = .returned (.pointer (some ⟨b, 3, none⟩)) ∧ w = w' := by
  go_enter Tryd.func22, Tryd.ntmps22
  go_wp2
  go_ret
  exact ⟨rfl, rfl⟩
end Go.Proofs.YtedgoagonagdjaaDoor
