/-
  The reference's Dec: a number in decimal.
-/
import Derived.Test.YtedgoagonagdjaaDoorLay
namespace Go.Proofs.YtedgoagonagdjaaDoor
open Go.RowKit Go.Sort

def digit (d : Nat) : UInt8 := UInt8.ofNat (48 + d)

theorem conv1 (W : World) (n : Int) (d : Nat) (hd : d < 200) (hn : n = 48 + d) :
    (convert 47 9 (.slice (some ⟨W.heap.size, 0, none⟩) 1 1)).run Tryd.prog (W.alloc (.cells #[.int .u8 n] 5)) = .ok (.string ⟨[digit d].toArray⟩) (W.alloc (.cells #[.int .u8 n] 5)) := by
  subst hn
  refine run_convert_bytes_back _ _ _ 5 _ 1 [digit d] Tryd.underlying47 Tryd.underlying5 Tryd.underlying9 ?_
  intro j hj
  obtain rfl : j = 0 := by simpa using hj
  have e := heap_new W (.cells #[.int .u8 (48 + (d : Int))] 5)
  have : ((⟨W.heap.size, 0, none⟩ : Addr).add 0) = ⟨W.heap.size, 0, none⟩ := rfl
  rw [this, cell_of e 0]
  simp [digit]
  omega

theorem ba_cons (b : UInt8) (l : List UInt8) : (⟨#[b]⟩ ++ ⟨l.toArray⟩ : ByteArray) = ⟨(b :: l).toArray⟩ := ba_app [b] l

theorem digits_step (u k : Nat) (l : List UInt8) (h9 : ¬ k ≤ 9) (h : Lib.decDigits u = Lib.decDigits k ++ l) :
    Lib.decDigits u = Lib.decDigits (k / 10) ++ (digit (k % 10) :: l) := by
  rw [h, Lib.decDigits, dif_neg (by omega), List.append_assoc]; rfl
theorem digits_end (u k : Nat) (l : List UInt8) (h9 : k ≤ 9) (h : Lib.decDigits u = Lib.decDigits k ++ l) :
    Lib.decDigits u = digit k :: l := by
  rw [h, Lib.decDigits_one (by omega)]; rfl
theorem digits_len (u k : Nat) (hu : u ≤ 9223372036854775807) (l : List UInt8) (h : Lib.decDigits u = Lib.decDigits k ++ l) : l.length ≤ 21 := by
  have h1 := Lib.itoa_length_le (u : Int) (by omega) (by omega)
  rw [Lib.itoa_nonneg, h, List.length_append] at h1
  omega

set_option maxRecDepth 100000 in
set_option maxHeartbeats 1000000 in
theorem dec_nat (u : Nat) (hu : u ≤ 9223372036854775807) (w : World) :
    Calls Tryd.prog 16 #[.int .i64 (u : Int)] w fun e w' => e = .returned (.string ⟨(Lib.decDigits u).toArray⟩) ∧ Below w.heap.size w w' := by
  have hn : ¬ (u : Int) < 0 := by omega
  go_enter Tryd.func16, Tryd.ntmps16
  go_wp2
  go_loopw [0, 3] (fun n s wr => ∃ (k : Nat) (l : List UInt8), k ≤ u ∧ n = .int .i64 (k : Int) ∧ s = .string ⟨l.toArray⟩ ∧ Lib.decDigits u = Lib.decDigits k ++ l ∧ Below w.heap.size w wr)
    (fun n _ _ => (intOf n).toNat)
  case atStart => exact ⟨u, [], Nat.le_refl _, rfl, rfl, by simp, Below.refl _ _⟩
  case round =>
    obtain ⟨k, l, hk, rfl, rfl, hd, hB⟩ := hrel
    have hll := digits_len u k hu l hd
    have HD := Lib.hid hd
    clear hd
    by_cases h9 : k ≤ 9
    · have hcv := conv1 wr (48 + (k : Int)) k (by omega) (by omega)
      go_wp2
      go_ret
      exact ⟨by rw [ba_cons, digits_end u k l h9 HD.out]; rfl, hB.alloc hB.size _⟩
    · have hm0 : 0 ≤ (k : Int) % 10 := by omega
      have hm1 : (k : Int) % 10 < 10 := by omega
      have hcv := conv1 wr (48 + (k : Int) % 10) (k % 10) (by omega) (by omega)
      go_wp2
      go_roundw
      case rel => exact ⟨k / 10, _, by omega, by go_num, by rw [ba_cons], digits_step u k l h9 HD.out, hB.alloc hB.size _⟩
      case measure => simp [intOf]; omega

theorem least_dec : (⟨#[45, 57, 50, 50, 51, 51, 55, 50, 48, 51, 54, 56, 53, 52, 55, 55, 53, 56, 48, 56]⟩ : ByteArray) = ⟨(Lib.itoa (-9223372036854775808)).toArray⟩ := by decide +kernel

/-- Dec is Itoa. -/
theorem dec_any (n : Int) (h0 : -9223372036854775808 ≤ n) (h1 : n ≤ 9223372036854775807) (w : World) :
    Calls Tryd.prog 16 #[.int .i64 n] w fun e w' => e = .returned (.string ⟨(Lib.itoa n).toArray⟩) ∧ Below w.heap.size w w' := by
  by_cases hn : 0 ≤ n
  · obtain ⟨u, rfl⟩ := Int.eq_ofNat_of_zero_le hn
    rw [Lib.itoa_nonneg]
    exact dec_nat u (by omega) w
  · have hneg : n < 0 := by omega
    by_cases hm : n = -9223372036854775808
    · subst hm
      rw [← least_dec]
      clear hn hneg h0 h1
      go_enter Tryd.func16, Tryd.ntmps16
      go_wp2_with fail
      go_ret
      exact ⟨rfl, Below.refl _ _⟩
    · obtain ⟨u, hu⟩ : ∃ u : Nat, -n = u := ⟨(-n).toNat, by omega⟩
      have hn' : n = -(u : Int) := by omega
      subst hn'
      have h1u : 1 ≤ u := by omega
      have hu2 : u ≤ 9223372036854775807 := by omega
      have hlen := Lib.itoa_length_le (u : Int) (by omega) (by omega)
      rw [Lib.itoa_nonneg] at hlen
      rw [Lib.itoa_neg u h1u]
      have hmin : (-(u : Int) == -9223372036854775808) = false := by rw [beq_eq_false_iff_ne]; exact hm
      have hb0 : 0 < (u : Int) := by omega
      have hb1 : (u : Int) ≤ 9223372036854775807 := by omega
      clear hu hm hn h0 h1
      go_enter Tryd.func16, Tryd.ntmps16
      go_wp2_with fail
      refine (dec_nat u hu2 w).mono ?_
      rintro e w1 ⟨rfl, hB⟩
      go_wp2_with fail
      go_ret
      exact ⟨by rw [ba_cons]; rfl, hB⟩
end Go.Proofs.YtedgoagonagdjaaDoor
