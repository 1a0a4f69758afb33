/-
  The law TextTells, walked.
-/
import Derived.Test.YtedgoagonagdjaaDoorTell
import Derived.Test.YtedgoagonagdjaaDoorDec
import Derived.Test.YtedgoagonagdjaaDoorLaws0
namespace Go.Proofs.YtedgoagonagdjaaDoor
open Go.RowKit Go.Sort

theorem tell_nil (a : Option Addr) (cap : Nat) (w : World) :
    Calls Tryd.prog 17 #[.slice a 0 cap] w fun e w' => e = .returned (.string ⟨#[]⟩) ∧ Below w.heap.size w w' := by
  go_enter Tryd.func17, Tryd.ntmps17
  go_wp2_with fail
  refine wp_loop_rounds 1 ?_
  rw [rounds_succ]
  go_wp2_with fail
  refine (Tryd.Builder_String_any w.heap.size w.heap.size [] _ (Lib.fresh_isBuilder _ _ w) (by simp)).mono ?_
  rintro e w2 ⟨rfl, hB2⟩
  go_wp2_with fail
  go_ret
  exact ⟨rfl, ((Below.refl _ w).alloc (Nat.le_refl _) _).trans hB2⟩

abbrev Wide (z : Int × Int) : Prop := (-9223372036854775808 ≤ z.1 ∧ z.1 ≤ 9223372036854775807) ∧ (-9223372036854775808 ≤ z.2 ∧ z.2 ≤ 9223372036854775807)

/-- what a round of the law keeps -/
def TL (w0 : World) (b o : Nat) (x y : Value) (w : World) : Prop :=
  Vars w ∧ w.cell? ⟨b, o, none⟩ = some x ∧ w.cell? ⟨b, o + 1, none⟩ = some y ∧ Below w0.heap.size w0 w ∧ b < w0.heap.size
theorem TL.drew {w0 w : World} {b o : Nat} {x y : Value} (h : TL w0 b o x y w) : TL w0 b o x y w.drew := ⟨h.1.drew, h.2.1, h.2.2.1, h.2.2.2.1.drew, h.2.2.2.2⟩
theorem dec_tl {n : Int} (h0 : -9223372036854775808 ≤ n) (h1 : n ≤ 9223372036854775807) {w0 w : World} {b o : Nat} {x y : Value} (h : TL w0 b o x y w) :
    Calls Tryd.prog 16 #[.int .i64 n] w fun e w' => e = .returned (.string ⟨(Lib.itoa n).toArray⟩) ∧ w'.cell? ⟨b, o, none⟩ = some x ∧ w'.cell? ⟨b, o + 1, none⟩ = some y ∧ TL w0 b o x y w' := by
  refine (dec_any n h0 h1 w).mono ?_
  rintro e w' ⟨rfl, hb⟩
  have hlt : b < w.heap.size := Nat.lt_of_lt_of_le h.2.2.2.2 h.2.2.2.1.size
  have e1 := (hb.cell (p := ⟨b, o, none⟩) hlt).trans h.2.1
  have e2 := (hb.cell (p := ⟨b, o + 1, none⟩) hlt).trans h.2.2.1
  exact ⟨rfl, e1, e2, h.1.below' hb, e1, e2, h.2.2.2.1.trans (hb.mono h.2.2.2.1.size), h.2.2.2.2⟩

theorem more_str (l : List UInt8) (z : Int × Int) : ((⟨l.toArray⟩ : ByteArray) ++ ⟨(Lib.itoa z.1).toArray⟩ ++ ⟨#[32]⟩ ++ ⟨(Lib.itoa z.2).toArray⟩ ++ ⟨#[10]⟩) = ⟨(l ++ lineL z).toArray⟩ := by
  rw [show (⟨#[32]⟩ : ByteArray) = ⟨[(32 : UInt8)].toArray⟩ from rfl, show (⟨#[10]⟩ : ByteArray) = ⟨[(10 : UInt8)].toArray⟩ from rfl, ba_app, ba_app, ba_app, ba_app]
  simp [lineL]

set_option maxRecDepth 100000 in
set_option maxHeartbeats 1000000 in
theorem tells_any (zs : List (Int × Int)) (hz : ∀ z ∈ zs, Wide z) (hlen : zs.length ≤ 60)
    (b off cap : Nat) (w : World) (hv : Vars w) (hbw : b < w.heap.size)
    (hc : ∀ (i : Nat) (h : i < zs.length), w.cell? ⟨b, off + i * 2, none⟩ = some (.int .i64 zs[i].1) ∧ w.cell? ⟨b, off + i * 2 + 1, none⟩ = some (.int .i64 zs[i].2)) :
    Calls Tryd.prog 6 #[.slice (some ⟨b, off, none⟩) zs.length cap] w fun e w' => e = .returned (.bool true) ∧ Below w.heap.size w w' := by
  have HC := Lib.hid hc
  have HZ := Lib.hid hz
  clear hc hz
  go_enter Tryd.func6, Tryd.ntmps6
  go_wp2_with fail
  refine (awake_any _ hv).mono ?_
  rintro e w1 ⟨rfl, hB1⟩
  have hv1 := hv.below' hB1
  go_wp2_with fail
  go_loopw [3, 4] (fun s i wr => ∃ k : Nat, k ≤ zs.length ∧ i = .int .i64 k ∧ Below w.heap.size w wr ∧ s = .string ⟨(tellL (zs.take k)).toArray⟩)
    (fun _ i _ => zs.length - (intOf i).toNat)
  case atStart => exact ⟨0, Nat.zero_le _, rfl, hB1, rfl⟩
  case round =>
    obtain ⟨k, hk, rfl, hB, rfl⟩ := hrel
    have hbl : (tellL (zs.take k)).length ≤ 2640 := by
      have h1 := tell_len (zs.take k) fun y hy => HZ.out y (List.mem_of_mem_take hy)
      have h2 : (zs.take k).length ≤ k := List.length_take_le _ _
      omega
    by_cases hlt : k < zs.length
    · obtain ⟨z, hzk⟩ : ∃ z, zs[k] = z := ⟨_, rfl⟩
      have hc1 := (hB.cell (p := ⟨b, off + k * 2, none⟩) hbw).trans (HC.out k hlt).1
      have hc2 := (hB.cell (p := ⟨b, off + k * 2 + 1, none⟩) hbw).trans (HC.out k hlt).2
      rw [hzk] at hc1 hc2
      have hzb := HZ.out z (by rw [← hzk]; exact List.getElem_mem hlt)
      have hz1 := hzb.1.1
      have hz2 := hzb.1.2
      have hz3 := hzb.2.1
      have hz4 := hzb.2.2
      have hl1 := Lib.itoa_length_le z.1 hz1 hz2
      have hl2 := Lib.itoa_length_le z.2 hz3 hz4
      have hTL : TL w b (off + k * 2) (.int .i64 z.1) (.int .i64 z.2) wr := ⟨hv.below hB hv.size, hc1, hc2, hB, hbw⟩
      clear hzb
      go_wp2_with fail
      go_region_with (go_at_call 16; refine (dec_tl ?_ ?_ (by first | assumption | exact TL.drew (by assumption))).mono ?_; (omega); (omega); rintro e w2 ⟨rfl, hx2, hy2, hTL2⟩)
      all_goals
        go_wp2_with fail
        go_roundw
        case rel => exact ⟨k + 1, by omega, by go_num, hTL2.2.2.2.1, by rw [more_str, tell_take zs k hlt, hzk]⟩
        case measure => simp [intOf]; omega
    · have hke : k = zs.length := by omega
      subst hke
      rw [List.take_length]
      rw [List.take_length] at hbl
      go_wp2_with fail
      refine (tell_any zs HZ.out hlen b off cap wr (hv.below hB hv.size) (Nat.lt_of_lt_of_le hbw hB.size) (fun i h => ⟨(hB.cell (p := ⟨b, off + i * 2, none⟩) hbw).trans (HC.out i h).1, (hB.cell (p := ⟨b, off + i * 2 + 1, none⟩) hbw).trans (HC.out i h).2⟩)).mono ?_
      rintro e w2 ⟨rfl, hB2⟩
      go_wp2_with fail
      go_ret
      exact ⟨rfl, hB.trans (hB2.mono hB.size)⟩

theorem tells_nil (a : Option Addr) (cap : Nat) (w : World) (hv : Vars w) :
    Calls Tryd.prog 6 #[.slice a 0 cap] w fun e w' => e = .returned (.bool true) ∧ Below w.heap.size w w' := by
  go_enter Tryd.func6, Tryd.ntmps6
  go_wp2_with fail
  refine (awake_any _ hv).mono ?_
  rintro e w1 ⟨rfl, hB1⟩
  have hv1 := hv.below' hB1
  go_wp2_with fail
  refine wp_loop_rounds 1 ?_
  rw [rounds_succ]
  go_wp2_with fail
  refine (tell_nil _ _ _).mono ?_
  rintro e w2 ⟨rfl, hB2⟩
  go_wp2_with fail
  go_ret
  exact ⟨rfl, hB1.trans (hB2.mono hB1.size)⟩

theorem tells_long (a : Option Addr) (n cap : Nat) (hn : 60 < n) (w : World) (hv : Vars w) :
    Calls Tryd.prog 6 #[.slice a n cap] w fun e w' => e = .returned (.bool true) ∧ Below w.heap.size w w' := by
  go_enter Tryd.func6, Tryd.ntmps6
  go_wp2_with fail
  refine (awake_any _ hv).mono ?_
  rintro e w1 ⟨rfl, hB1⟩
  have hv1 := hv.below' hB1
  go_wp2_with fail
  refine (awake_any _ hv1).mono ?_
  rintro e w2 ⟨rfl, hB2⟩
  go_wp2_with fail
  go_ret
  exact ⟨rfl, hB1.trans (hB2.mono hB1.size)⟩
end Go.Proofs.YtedgoagonagdjaaDoor
