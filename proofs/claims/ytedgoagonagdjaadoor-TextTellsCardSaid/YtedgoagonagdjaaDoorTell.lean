/-
  text.Tell: commands' lines.
-/
import Derived.Test.YtedgoagonagdjaaDoorLay
import Derived.Test.YtedgoagonagdjaaDoorBuilder
import Derived.Deep.RegionWith
import Derived.Deep.DeepCutAuto
namespace Go.Proofs.YtedgoagonagdjaaDoor
open Go.RowKit Go.Sort

theorem IsB.below {B b : Nat} {bs : List Value} {w w' : World} (h : IsB B b bs w) (hb : Below w.heap.size w w') : IsB B b bs w' := by
  have key : ∀ p, Lib.BuilderAt 72 5 B b p bs w → Lib.BuilderAt 72 5 B b p bs w' := by
    rintro p ⟨hB, v, hbk, ⟨h1, h2⟩, hne⟩
    refine ⟨hB, v, (hb.block b (Array.getElem?_eq_some_iff.1 hbk).1).trans hbk, ⟨h1, ?_⟩, hne⟩
    rcases h2 with h2 | ⟨g, cap, cur, hv, hg, hh, r⟩
    · exact .inl h2
    · exact .inr ⟨g, cap, cur, hv, hg, (hb.block g (Array.getElem?_eq_some_iff.1 hh).1).trans hh, r⟩
  exact h.elim (fun x => .inl (key _ x)) (fun x => .inr (key _ x))

theorem Vars.drew {w : World} (h : Vars w) : Vars w.drew := h.keep (Nat.le_refl _) fun _ _ => rfl

/-- one line of Tell's text -/
def lineL (z : Int × Int) : List UInt8 := Lib.itoa z.1 ++ 32 :: (Lib.itoa z.2 ++ [10])
def tellL (zs : List (Int × Int)) : List UInt8 := zs.flatMap lineL

/-- what a round of Tell keeps: the command's two cells, the builder, the variables -/
def TK (w0 : World) (bc : Nat) (x y : Value) (B b : Nat) (bs : List Value) (w : World) : Prop :=
  Vars w ∧ w.cell? ⟨bc, 0, none⟩ = some x ∧ w.cell? ⟨bc, 1, none⟩ = some y ∧ IsB B b bs w ∧ Below w0.heap.size w0 w ∧ bc < w.heap.size ∧ w0.heap.size ≤ bc

theorem TK.drew {w0 w : World} {bc : Nat} {x y : Value} {B b : Nat} {bs : List Value} (h : TK w0 bc x y B b bs w) : TK w0 bc x y B b bs w.drew :=
  ⟨h.1.drew, h.2.1, h.2.2.1, h.2.2.2.1.elim (fun x => .inl x) (fun x => .inr x), h.2.2.2.2.1.drew, h.2.2.2.2.2.1, h.2.2.2.2.2.2⟩

theorem TK.below {w0 w w' : World} {bc : Nat} {x y : Value} {B b : Nat} {bs : List Value} (h : TK w0 bc x y B b bs w) (hb : Below w.heap.size w w') : TK w0 bc x y B b bs w' :=
  ⟨h.1.below' hb, (hb.cell (p := ⟨bc, 0, none⟩) h.2.2.2.2.2.1).trans h.2.1, (hb.cell (p := ⟨bc, 1, none⟩) h.2.2.2.2.2.1).trans h.2.2.1, h.2.2.2.1.below hb,
    h.2.2.2.2.1.trans (hb.mono h.2.2.2.2.1.size), Nat.lt_of_lt_of_le h.2.2.2.2.2.1 hb.size, h.2.2.2.2.2.2⟩

theorem itoa_tk {n : Int} (h0 : -9223372036854775808 ≤ n) (h1 : n ≤ 9223372036854775807) {w0 w : World} {bc : Nat} {x y : Value} {B b : Nat} {bs : List Value} (h : TK w0 bc x y B b bs w) :
    Calls Tryd.prog 21 #[.int .i64 n] w fun e w' => e = .returned (.string ⟨(Lib.itoa n).toArray⟩) ∧ w'.cell? ⟨bc, 0, none⟩ = some x ∧ w'.cell? ⟨bc, 1, none⟩ = some y ∧ TK w0 bc x y B b bs w' := by
  refine (Tryd.strconv_Itoa n h0 h1 w h.1.pow).mono ?_
  rintro e w' ⟨rfl, k, os, rfl⟩
  have h' := h.below (below_grow w k os)
  exact ⟨rfl, h'.2.1, h'.2.2.1, h'⟩

theorem write_tk {w0 w : World} {bc : Nat} {x y : Value} {B b : Nat} {bs : List Value} (s : ByteArray) (h : TK w0 bc x y B b bs w) (hs : s.size ≤ 1000) (hl : bs.length ≤ 100000000) (hB : B ≤ w0.heap.size) :
    Calls Tryd.prog 31 #[.pointer (some ⟨b, 0, none⟩), .string s] w fun e w' => e = .returned (.tuple #[.int .i64 s.size, .nilIface]) ∧ IsB B b (bs ++ Lib.strCells s) w' ∧ Below B w0 w' := by
  refine (writeString_any B b bs s w h.2.2.2.1 (by omega) (Nat.le_trans hB h.2.2.2.2.1.size)).mono ?_
  rintro e w' ⟨rfl, hu, hb⟩
  exact ⟨rfl, .inr hu, (h.2.2.2.2.1.mono hB).trans hb⟩

theorem tell_take (zs : List (Int × Int)) (k : Nat) (h : k < zs.length) : tellL (zs.take (k + 1)) = tellL (zs.take k) ++ lineL zs[k] := by
  unfold tellL
  rw [List.take_succ_eq_append_getElem h, List.flatMap_append]
  simp

theorem line_len (z : Int × Int) (hz : (-9223372036854775808 ≤ z.1 ∧ z.1 ≤ 9223372036854775807) ∧ (-9223372036854775808 ≤ z.2 ∧ z.2 ≤ 9223372036854775807)) : (lineL z).length ≤ 44 := by
  have h1 := Lib.itoa_length_le z.1 hz.1.1 hz.1.2
  have h2 := Lib.itoa_length_le z.2 hz.2.1 hz.2.2
  simp only [lineL, List.length_append, List.length_cons, List.length_nil]
  omega

theorem line_str (z : Int × Int) : ((⟨(Lib.itoa z.1).toArray⟩ : ByteArray) ++ ⟨#[32]⟩ ++ ⟨(Lib.itoa z.2).toArray⟩ ++ ⟨#[10]⟩) = ⟨(lineL z).toArray⟩ := by
  rw [show (⟨#[32]⟩ : ByteArray) = ⟨[(32 : UInt8)].toArray⟩ from rfl, show (⟨#[10]⟩ : ByteArray) = ⟨[(10 : UInt8)].toArray⟩ from rfl, ba_app, ba_app, ba_app]
  simp [lineL]

theorem tell_len : ∀ (zs : List (Int × Int)), (∀ z ∈ zs, (-9223372036854775808 ≤ z.1 ∧ z.1 ≤ 9223372036854775807) ∧ (-9223372036854775808 ≤ z.2 ∧ z.2 ≤ 9223372036854775807)) → (tellL zs).length ≤ 44 * zs.length
  | [], _ => by simp [tellL]
  | z :: zs, h => by
    have h1 := line_len z (h z (by simp))
    have h2 := tell_len zs fun y hy => h y (by simp [hy])
    simp only [tellL, List.flatMap_cons, List.length_append, List.length_cons] at h2 ⊢
    omega

set_option maxRecDepth 100000 in
set_option maxHeartbeats 1000000 in
theorem tell_any (zs : List (Int × Int)) (hz : ∀ z ∈ zs, (-9223372036854775808 ≤ z.1 ∧ z.1 ≤ 9223372036854775807) ∧ (-9223372036854775808 ≤ z.2 ∧ z.2 ≤ 9223372036854775807)) (hlen : zs.length ≤ 60)
    (b off cap : Nat) (w : World) (hv : Vars w) (hbw : b < w.heap.size)
    (hc : ∀ (i : Nat) (h : i < zs.length), w.cell? ⟨b, off + i * 2, none⟩ = some (.int .i64 zs[i].1) ∧ w.cell? ⟨b, off + i * 2 + 1, none⟩ = some (.int .i64 zs[i].2)) :
    Calls Tryd.prog 17 #[.slice (some ⟨b, off, none⟩) zs.length cap] w fun e w' => e = .returned (.string ⟨(tellL zs).toArray⟩) ∧ Below w.heap.size w w' := by
  have HC := Lib.hid hc
  have HZ := Lib.hid hz
  clear hc hz
  go_enter Tryd.func17, Tryd.ntmps17
  go_wp2_with fail
  go_loopw [8] (fun i wr => ∃ k : Nat, k ≤ zs.length ∧ i = .int .i64 k ∧ Below w.heap.size w wr ∧ w.heap.size < wr.heap.size ∧ IsB w.heap.size w.heap.size (Lib.byteCells (tellL (zs.take k))) wr)
    (fun i _ => zs.length - (intOf i).toNat)
  case atStart => exact ⟨0, Nat.zero_le _, rfl, (Below.refl _ _).alloc (Nat.le_refl _) _, by simp, Lib.fresh_isBuilder _ _ w⟩
  case round =>
    obtain ⟨k, hk, rfl, hB, hs, hI⟩ := hrel
    by_cases hlt : k < zs.length
    · obtain ⟨z, hzk⟩ : ∃ z, zs[k] = z := ⟨_, rfl⟩
      have hc1 := (hB.cell (p := ⟨b, off + k * 2, none⟩) hbw).trans (HC.out k hlt).1
      have hc2 := (hB.cell (p := ⟨b, off + k * 2 + 1, none⟩) hbw).trans (HC.out k hlt).2
      rw [hzk] at hc1 hc2
      have hzb := HZ.out z (by rw [← hzk]; exact List.getElem_mem hlt)
      have hz1 := hzb.1.1
      have hz2 := hzb.1.2
      have hz3 := hzb.2.1
      have hz4 := hzb.2.2
      have hl1 := Lib.itoa_length_le z.1 hz1 hz2
      have hl2 := Lib.itoa_length_le z.2 hz3 hz4
      have hbl : (Lib.byteCells (tellL (zs.take k))).length ≤ 100000000 := by
        have h1 := tell_len (zs.take k) fun y hy => HZ.out y (List.mem_of_mem_take hy)
        have h2 : (zs.take k).length ≤ k := List.length_take_le _ _
        have h3 : (Lib.byteCells (tellL (zs.take k))).length = (tellL (zs.take k)).length := by simp [Lib.byteCells]
        omega
      have hll : (⟨(lineL z).toArray⟩ : ByteArray).size ≤ 1000 := by have := line_len z hzb; show (List.toArray _).size ≤ _; rw [List.size_toArray]; omega
      clear hzb
      go_wp2_with fail
      obtain ⟨W1, hW1⟩ : ∃ W1, wr.alloc (.cells #[.int .i64 z.1, .int .i64 z.2] 41) = W1 := ⟨_, rfl⟩
      have hBr : Below wr.heap.size wr W1 := by rw [← hW1]; exact (Below.refl _ _).alloc (Nat.le_refl _) _
      have hvr := (hv.below' hB).below' hBr
      have hnew : W1.heap[wr.heap.size]? = some (.cells #[.int .i64 z.1, .int .i64 z.2] 41) := by rw [← hW1]; exact heap_new _ _
      have hx := cell_of hnew 0
      have hy := cell_of hnew 1
      simp only [List.getElem?_toArray, List.getElem?_cons_zero, List.getElem?_cons_succ] at hx hy
      have hTK : TK wr wr.heap.size (.int .i64 z.1) (.int .i64 z.2) w.heap.size w.heap.size (Lib.byteCells (tellL (zs.take k))) W1 :=
        ⟨hvr, hx, hy, hI.below hBr, hBr, (Array.getElem?_eq_some_iff.1 hnew).1, Nat.le_refl _⟩
      rw [hW1]
      clear hW1 hnew hvr hBr hc1 hc2
      go_region_with (first
          | (go_at_call 21; refine (itoa_tk ?_ ?_ (by first | assumption | exact TK.drew (by assumption))).mono ?_; (omega); (omega); rintro e w2 ⟨rfl, hx2, hy2, hTK2⟩)
          | (go_at_call 31; rw [line_str]; refine (write_tk _ (by assumption) hll hbl (Nat.le_of_lt hs)).mono ?_; rintro e w2 ⟨rfl, hI2, hB2⟩))
      all_goals
        go_wp2_with fail
        go_roundw
        case rel =>
          refine ⟨k + 1, by omega, by go_num, hB.trans hB2, Nat.lt_of_lt_of_le hs hB2.size, ?_⟩
          rw [tell_take zs k hlt, hzk]
          simpa [Lib.byteCells, Lib.strCells] using hI2
        case measure => simp [intOf]; omega
    · have hke : k = zs.length := by omega
      subst hke
      rw [List.take_length] at hI
      go_wp2_with fail
      refine (Tryd.Builder_String_any _ _ _ _ hI (Nat.le_of_lt hs)).mono ?_
      rintro e w2 ⟨rfl, hB2⟩
      go_wp2_with fail
      go_ret
      exact ⟨rfl, hB.trans hB2⟩
end Go.Proofs.YtedgoagonagdjaaDoor
