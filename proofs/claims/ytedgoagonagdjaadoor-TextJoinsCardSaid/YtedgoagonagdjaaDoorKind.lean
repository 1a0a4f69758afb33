/-
  The reference's Kind and Needs.
-/
import Derived.Test.YtedgoagonagdjaaDoorLay
namespace Go.Proofs.YtedgoagonagdjaaDoor
open Go.RowKit Go.Sort

theorem str_beq (l : List UInt8) (b : ByteArray) : (l == b.toList) = decide ((⟨l.toArray⟩ : ByteArray) = b) := by
  rw [Lib.toList_data, Bool.eq_iff_iff]
  simp only [beq_iff_eq, decide_eq_true_eq]
  exact ⟨fun h => ByteArray.ext (Array.ext' h), fun h => by rw [← h]⟩

def kindOf (s : ByteArray) : Int :=
  if s = (⟨#[114, 111, 98, 111, 116]⟩ : ByteArray) then 1 else
  if s = (⟨#[116, 97, 115, 107]⟩ : ByteArray) then 2 else
  if s = (⟨#[111, 102, 102]⟩ : ByteArray) then 3 else
  if s = (⟨#[111, 110]⟩ : ByteArray) then 4 else
  if s = (⟨#[116, 101, 108, 108]⟩ : ByteArray) then 5 else
  if s = (⟨#[116, 105, 99, 107]⟩ : ByteArray) then 6 else
  0

set_option maxRecDepth 100000 in
set_option maxHeartbeats 1000000 in
theorem kind_0 (s : ByteArray) (h0 : (([114, 111, 98, 111, 116] : List UInt8) == s.toList) = true) (w : World) :
    Calls Tryd.prog 24 #[.string s] w fun e w' => e = .returned (.int .i64 1) ∧ Below w.heap.size w w' := by
  go_enter Tryd.func24, Tryd.ntmps24
  go_wp2
  refine wp_loop_rounds 1 ?_
  rw [rounds_succ]
  go_wp2
  go_ret
  exact ⟨rfl, (Below.refl _ _).alloc (Nat.le_refl _) _⟩

set_option maxRecDepth 100000 in
set_option maxHeartbeats 1000000 in
theorem kind_1 (s : ByteArray) (h0 : (([114, 111, 98, 111, 116] : List UInt8) == s.toList) = false) (h1 : (([116, 97, 115, 107] : List UInt8) == s.toList) = true) (w : World) :
    Calls Tryd.prog 24 #[.string s] w fun e w' => e = .returned (.int .i64 2) ∧ Below w.heap.size w w' := by
  go_enter Tryd.func24, Tryd.ntmps24
  go_wp2
  refine wp_loop_rounds 2 ?_
  rw [rounds_succ]
  go_wp2
  rw [rounds_succ]
  go_wp2
  go_ret
  exact ⟨rfl, (Below.refl _ _).alloc (Nat.le_refl _) _⟩

set_option maxRecDepth 100000 in
set_option maxHeartbeats 1000000 in
theorem kind_2 (s : ByteArray) (h0 : (([114, 111, 98, 111, 116] : List UInt8) == s.toList) = false) (h1 : (([116, 97, 115, 107] : List UInt8) == s.toList) = false) (h2 : (([111, 102, 102] : List UInt8) == s.toList) = true) (w : World) :
    Calls Tryd.prog 24 #[.string s] w fun e w' => e = .returned (.int .i64 3) ∧ Below w.heap.size w w' := by
  go_enter Tryd.func24, Tryd.ntmps24
  go_wp2
  refine wp_loop_rounds 3 ?_
  rw [rounds_succ]
  go_wp2
  rw [rounds_succ]
  go_wp2
  rw [rounds_succ]
  go_wp2
  go_ret
  exact ⟨rfl, (Below.refl _ _).alloc (Nat.le_refl _) _⟩

set_option maxRecDepth 100000 in
set_option maxHeartbeats 1000000 in
theorem kind_3 (s : ByteArray) (h0 : (([114, 111, 98, 111, 116] : List UInt8) == s.toList) = false) (h1 : (([116, 97, 115, 107] : List UInt8) == s.toList) = false) (h2 : (([111, 102, 102] : List UInt8) == s.toList) = false) (h3 : (([111, 110] : List UInt8) == s.toList) = true) (w : World) :
    Calls Tryd.prog 24 #[.string s] w fun e w' => e = .returned (.int .i64 4) ∧ Below w.heap.size w w' := by
  go_enter Tryd.func24, Tryd.ntmps24
  go_wp2
  refine wp_loop_rounds 4 ?_
  rw [rounds_succ]
  go_wp2
  rw [rounds_succ]
  go_wp2
  rw [rounds_succ]
  go_wp2
  rw [rounds_succ]
  go_wp2
  go_ret
  exact ⟨rfl, (Below.refl _ _).alloc (Nat.le_refl _) _⟩

set_option maxRecDepth 100000 in
set_option maxHeartbeats 1000000 in
theorem kind_4 (s : ByteArray) (h0 : (([114, 111, 98, 111, 116] : List UInt8) == s.toList) = false) (h1 : (([116, 97, 115, 107] : List UInt8) == s.toList) = false) (h2 : (([111, 102, 102] : List UInt8) == s.toList) = false) (h3 : (([111, 110] : List UInt8) == s.toList) = false) (h4 : (([116, 101, 108, 108] : List UInt8) == s.toList) = true) (w : World) :
    Calls Tryd.prog 24 #[.string s] w fun e w' => e = .returned (.int .i64 5) ∧ Below w.heap.size w w' := by
  go_enter Tryd.func24, Tryd.ntmps24
  go_wp2
  refine wp_loop_rounds 5 ?_
  rw [rounds_succ]
  go_wp2
  rw [rounds_succ]
  go_wp2
  rw [rounds_succ]
  go_wp2
  rw [rounds_succ]
  go_wp2
  rw [rounds_succ]
  go_wp2
  go_ret
  exact ⟨rfl, (Below.refl _ _).alloc (Nat.le_refl _) _⟩

set_option maxRecDepth 100000 in
set_option maxHeartbeats 1000000 in
theorem kind_5 (s : ByteArray) (h0 : (([114, 111, 98, 111, 116] : List UInt8) == s.toList) = false) (h1 : (([116, 97, 115, 107] : List UInt8) == s.toList) = false) (h2 : (([111, 102, 102] : List UInt8) == s.toList) = false) (h3 : (([111, 110] : List UInt8) == s.toList) = false) (h4 : (([116, 101, 108, 108] : List UInt8) == s.toList) = false) (h5 : (([116, 105, 99, 107] : List UInt8) == s.toList) = true) (w : World) :
    Calls Tryd.prog 24 #[.string s] w fun e w' => e = .returned (.int .i64 6) ∧ Below w.heap.size w w' := by
  go_enter Tryd.func24, Tryd.ntmps24
  go_wp2
  refine wp_loop_rounds 6 ?_
  rw [rounds_succ]
  go_wp2
  rw [rounds_succ]
  go_wp2
  rw [rounds_succ]
  go_wp2
  rw [rounds_succ]
  go_wp2
  rw [rounds_succ]
  go_wp2
  rw [rounds_succ]
  go_wp2
  go_ret
  exact ⟨rfl, (Below.refl _ _).alloc (Nat.le_refl _) _⟩

set_option maxRecDepth 100000 in
set_option maxHeartbeats 1000000 in
theorem kind_6 (s : ByteArray) (h0 : (([114, 111, 98, 111, 116] : List UInt8) == s.toList) = false) (h1 : (([116, 97, 115, 107] : List UInt8) == s.toList) = false) (h2 : (([111, 102, 102] : List UInt8) == s.toList) = false) (h3 : (([111, 110] : List UInt8) == s.toList) = false) (h4 : (([116, 101, 108, 108] : List UInt8) == s.toList) = false) (h5 : (([116, 105, 99, 107] : List UInt8) == s.toList) = false) (w : World) :
    Calls Tryd.prog 24 #[.string s] w fun e w' => e = .returned (.int .i64 0) ∧ Below w.heap.size w w' := by
  go_enter Tryd.func24, Tryd.ntmps24
  go_wp2
  refine wp_loop_rounds 7 ?_
  rw [rounds_succ]
  go_wp2
  rw [rounds_succ]
  go_wp2
  rw [rounds_succ]
  go_wp2
  rw [rounds_succ]
  go_wp2
  rw [rounds_succ]
  go_wp2
  rw [rounds_succ]
  go_wp2
  rw [rounds_succ]
  go_wp2
  go_ret
  exact ⟨rfl, (Below.refl _ _).alloc (Nat.le_refl _) _⟩

theorem kind_any (s : ByteArray) (w : World) :
    Calls Tryd.prog 24 #[.string s] w fun e w' => e = .returned (.int .i64 (kindOf s)) ∧ Below w.heap.size w w' := by
  unfold kindOf
  by_cases h0 : s = (⟨#[114, 111, 98, 111, 116]⟩ : ByteArray)
  · rw [if_pos h0]; exact kind_0 s  (by rw [str_beq]; exact decide_eq_true h0.symm) w
  rw [if_neg h0]
  by_cases h1 : s = (⟨#[116, 97, 115, 107]⟩ : ByteArray)
  · rw [if_pos h1]; exact kind_1 s (by rw [str_beq]; exact decide_eq_false (fun h => h0 h.symm)) (by rw [str_beq]; exact decide_eq_true h1.symm) w
  rw [if_neg h1]
  by_cases h2 : s = (⟨#[111, 102, 102]⟩ : ByteArray)
  · rw [if_pos h2]; exact kind_2 s (by rw [str_beq]; exact decide_eq_false (fun h => h0 h.symm)) (by rw [str_beq]; exact decide_eq_false (fun h => h1 h.symm)) (by rw [str_beq]; exact decide_eq_true h2.symm) w
  rw [if_neg h2]
  by_cases h3 : s = (⟨#[111, 110]⟩ : ByteArray)
  · rw [if_pos h3]; exact kind_3 s (by rw [str_beq]; exact decide_eq_false (fun h => h0 h.symm)) (by rw [str_beq]; exact decide_eq_false (fun h => h1 h.symm)) (by rw [str_beq]; exact decide_eq_false (fun h => h2 h.symm)) (by rw [str_beq]; exact decide_eq_true h3.symm) w
  rw [if_neg h3]
  by_cases h4 : s = (⟨#[116, 101, 108, 108]⟩ : ByteArray)
  · rw [if_pos h4]; exact kind_4 s (by rw [str_beq]; exact decide_eq_false (fun h => h0 h.symm)) (by rw [str_beq]; exact decide_eq_false (fun h => h1 h.symm)) (by rw [str_beq]; exact decide_eq_false (fun h => h2 h.symm)) (by rw [str_beq]; exact decide_eq_false (fun h => h3 h.symm)) (by rw [str_beq]; exact decide_eq_true h4.symm) w
  rw [if_neg h4]
  by_cases h5 : s = (⟨#[116, 105, 99, 107]⟩ : ByteArray)
  · rw [if_pos h5]; exact kind_5 s (by rw [str_beq]; exact decide_eq_false (fun h => h0 h.symm)) (by rw [str_beq]; exact decide_eq_false (fun h => h1 h.symm)) (by rw [str_beq]; exact decide_eq_false (fun h => h2 h.symm)) (by rw [str_beq]; exact decide_eq_false (fun h => h3 h.symm)) (by rw [str_beq]; exact decide_eq_false (fun h => h4 h.symm)) (by rw [str_beq]; exact decide_eq_true h5.symm) w
  rw [if_neg h5]
  exact kind_6 s (by rw [str_beq]; exact decide_eq_false (fun h => h0 h.symm)) (by rw [str_beq]; exact decide_eq_false (fun h => h1 h.symm)) (by rw [str_beq]; exact decide_eq_false (fun h => h2 h.symm)) (by rw [str_beq]; exact decide_eq_false (fun h => h3 h.symm)) (by rw [str_beq]; exact decide_eq_false (fun h => h4 h.symm)) (by rw [str_beq]; exact decide_eq_false (fun h => h5 h.symm)) w

theorem kind_want (s : ByteArray) : (kindOf s = 0 ↔ wantOf s = none) ∧ 0 ≤ kindOf s ∧ kindOf s ≤ 6 ∧
    (#[Value.string ⟨#[]⟩, .string ⟨#[97, 98, 99]⟩, .string ⟨#[97, 98, 99]⟩, .string ⟨#[98]⟩, .string ⟨#[98]⟩, .string ⟨#[97, 98]⟩, .string ⟨#[]⟩])[(kindOf s).toNat]? = some (.string ((wantOf s).getD ⟨#[]⟩)) := by
  unfold kindOf wantOf
  by_cases h0 : s = (⟨#[114, 111, 98, 111, 116]⟩ : ByteArray)
  · subst h0; refine ⟨⟨fun h => absurd h (by decide +kernel), fun h => absurd h (by decide +kernel)⟩, by decide +kernel, by decide +kernel, by rfl⟩
  by_cases h1 : s = (⟨#[116, 97, 115, 107]⟩ : ByteArray)
  · subst h1; refine ⟨⟨fun h => absurd h (by decide +kernel), fun h => absurd h (by decide +kernel)⟩, by decide +kernel, by decide +kernel, by rfl⟩
  by_cases h2 : s = (⟨#[111, 102, 102]⟩ : ByteArray)
  · subst h2; refine ⟨⟨fun h => absurd h (by decide +kernel), fun h => absurd h (by decide +kernel)⟩, by decide +kernel, by decide +kernel, by rfl⟩
  by_cases h3 : s = (⟨#[111, 110]⟩ : ByteArray)
  · subst h3; refine ⟨⟨fun h => absurd h (by decide +kernel), fun h => absurd h (by decide +kernel)⟩, by decide +kernel, by decide +kernel, by rfl⟩
  by_cases h4 : s = (⟨#[116, 101, 108, 108]⟩ : ByteArray)
  · subst h4; refine ⟨⟨fun h => absurd h (by decide +kernel), fun h => absurd h (by decide +kernel)⟩, by decide +kernel, by decide +kernel, by rfl⟩
  by_cases h5 : s = (⟨#[116, 105, 99, 107]⟩ : ByteArray)
  · subst h5; refine ⟨⟨fun h => absurd h (by decide +kernel), fun h => absurd h (by decide +kernel)⟩, by decide +kernel, by decide +kernel, by rfl⟩
  simp only [h0, h1, h2, h3, h4, h5, if_false]
  exact ⟨by simp, by omega, by omega, rfl⟩
end Go.Proofs.YtedgoagonagdjaaDoor
