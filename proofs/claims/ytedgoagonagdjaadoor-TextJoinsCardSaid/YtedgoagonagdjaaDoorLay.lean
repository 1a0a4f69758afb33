/-
  text.Lay: the line of a request.
-/
import Derived.Test.YtedgoagonagdjaaDoorReadAll
import Derived.Lib.ItoaLen
namespace Go.Proofs.YtedgoagonagdjaaDoor
open Go.RowKit Go.Sort

def pick (t : Abc) (c : UInt8) : Int := if c = 97 then t.a else if c = 98 then t.b else t.c
def layL (nm ks : List UInt8) (t : Abc) : List UInt8 := nm ++ ks.flatMap fun c => 32 :: Lib.itoa (pick t c)
/-- what Lay lays, right or not -/
def layS (nm : ByteArray) (t : Abc) : ByteArray := ⟨(layL nm.data.toList ((wantOf nm).getD ⟨#[]⟩).data.toList t ++ [10]).toArray⟩

def partOff (c : UInt8) : Nat := if c = 97 then 1 else if c = 98 then 2 else 3
theorem part_any (b : Nat) (c : UInt8) (w : World) : Calls Tryd.prog 22 #[.pointer (some ⟨b, 0, none⟩), .int .u8 (c.toNat : Int)] w fun e w' => e = .returned (.pointer (some ⟨b, partOff c, none⟩)) ∧ w = w' := by
  by_cases h97 : c = 97
  · subst h97; exact part_a b w
  · by_cases h98 : c = 98
    · subst h98; exact part_b b w
    · have hp : partOff c = 3 := by unfold partOff; rw [if_neg h97, if_neg h98]
      rw [hp]
      have g97 : ((c.toNat : Int) == 97) = false := by
        rw [beq_eq_false_iff_ne]; intro h; exact h97 (UInt8.toNat_inj.1 (by show c.toNat = 97; omega))
      have g98 : ((c.toNat : Int) == 98) = false := by
        rw [beq_eq_false_iff_ne]; intro h; exact h98 (UInt8.toNat_inj.1 (by show c.toNat = 98; omega))
      clear h97 h98 hp
      go_enter Tryd.func22, Tryd.ntmps22
      go_wp2
      go_ret
      exact ⟨rfl, rfl⟩
theorem part_cell (nm : ByteArray) (t : Abc) (c : UInt8) : (#[Value.string nm, .int .i64 t.a, .int .i64 t.b, .int .i64 t.c])[partOff c]? = some (.int .i64 (pick t c)) := by
  unfold partOff pick
  split
  · rfl
  · split <;> rfl

structure Abc.ok (t : Abc) : Prop where
  a0 : -9223372036854775808 ≤ t.a
  a1 : t.a ≤ 9223372036854775807
  b0 : -9223372036854775808 ≤ t.b
  b1 : t.b ≤ 9223372036854775807
  c0 : -9223372036854775808 ≤ t.c
  c1 : t.c ≤ 9223372036854775807

theorem pick_range {t : Abc} (ht : t.ok) (c : UInt8) : -9223372036854775808 ≤ pick t c ∧ pick t c ≤ 9223372036854775807 := by
  have := ht.a0; have := ht.a1; have := ht.b0; have := ht.b1; have := ht.c0; have := ht.c1
  unfold pick
  split
  · omega
  · split <;> omega

theorem layL_len {t : Abc} (ht : t.ok) (nm ks : List UInt8) : (layL nm ks t).length ≤ nm.length + 22 * ks.length := by
  unfold layL
  induction ks with
  | nil => simp
  | cons c ks ih =>
    have := Lib.itoa_length_le _ (pick_range ht c).1 (pick_range ht c).2
    simp only [List.flatMap_cons, List.length_append, List.length_cons] at ih ⊢
    omega
theorem layL_take (nm : List UInt8) (ks : ByteArray) (t : Abc) (k : Nat) (h : k < ks.size) :
    layL nm (ks.data.toList.take (k + 1)) t = layL nm (ks.data.toList.take k) t ++ 32 :: Lib.itoa (pick t ks[k]) := by
  unfold layL
  rw [List.take_succ_eq_append_getElem (by simpa using h), List.flatMap_append, ← List.append_assoc]
  simp
  rfl

theorem ba_app (x y : List UInt8) : (⟨x.toArray⟩ ++ ⟨y.toArray⟩ : ByteArray) = ⟨(x ++ y).toArray⟩ := by
  apply ByteArray.ext
  simp [ByteArray.data_append]

def LayOk (w : World) (s : ByteArray) (e : Ending) (w' : World) : Prop := e = .returned (.tuple #[.string s, .nilIface]) ∧ Below w.heap.size w w'
def LayBad (w : World) (e : Ending) (w' : World) : Prop := ∃ v, e = .returned (.tuple #[.string ⟨#[]⟩, v]) ∧ IsErr w' 1 v ∧ Below w.heap.size w w'

set_option maxRecDepth 100000 in
set_option maxHeartbeats 1000000 in
theorem lay_ok (nm : ByteArray) (t : Abc) (ht : t.ok) (hn : nm.size ≤ 1000) (hr : readP (layS nm t) = some (nm, t)) (w : World) (hv : Vars w) :
    Calls Tryd.prog 10 #[.agg #[.string nm, .int .i64 t.a, .int .i64 t.b, .int .i64 t.c]] w (LayOk w (layS nm t)) := by
  have hlk : ∀ W : World, (Instr.lookup 51 (.map (some W.heap.size)) (.string nm) false).run Tryd.prog ((W.alloc (.map needsTab 6)).drew) = .ok (.string ((wantOf nm).getD ⟨#[]⟩)) ((W.alloc (.map needsTab 6)).drew) := fun W => by
    rw [look_at]; rfl
  have HR := Lib.hid hr
  clear hr
  go_enter Tryd.func10, Tryd.ntmps10
  go_wp2_with fail
  obtain ⟨W0, hW0⟩ : ∃ W0, w.alloc (.cells #[.string nm, .int .i64 t.a, .int .i64 t.b, .int .i64 t.c] 29) = W0 := ⟨_, rfl⟩
  have hB0 : Below w.heap.size w W0 := by rw [← hW0]; exact (Below.refl _ w).alloc (Nat.le_refl _) _
  have hs0 : w.heap.size < W0.heap.size := by rw [← hW0]; simp
  have ha0 : W0.heap[w.heap.size]? = some (.cells #[.string nm, .int .i64 t.a, .int .i64 t.b, .int .i64 t.c] 29) := by rw [← hW0]; exact heap_new _ _
  rw [hW0]
  have hx0 := cell_of ha0 0
  simp only [List.getElem?_toArray, List.getElem?_cons_zero] at hx0
  have HA0 := Lib.hid ha0
  clear hW0 ha0
  go_cut [5] (fun s5 wx => s5 = .string ((wantOf nm).getD ⟨#[]⟩) ∧ Below W0.heap.size W0 wx)
  case first =>
    go_region_with (go_at_call 20; refine (needs_any _).mono ?_; rintro e w' ⟨rfl, rfl⟩)
    all_goals (go_wp2_with fail; go_meet; exact ⟨rfl, ((Below.refl _ W0).alloc (Nat.le_refl _) _).drew⟩)
  case rest =>
    obtain ⟨rfl, hB1⟩ := hcut
    clear hlk hx0
    have hact : wc.heap[w.heap.size]? = _ := (hB1.block _ hs0).trans HA0.out
    have HA1 := Lib.hid hact
    have hv0 := hv.below' hB0
    have hv1 := hv0.below' hB1
    have hs1 : w.heap.size < wc.heap.size := Nat.lt_of_lt_of_le hs0 hB1.size
    clear hact
    obtain ⟨ks, hks⟩ : ∃ ks, (wantOf nm).getD ⟨#[]⟩ = ks := ⟨_, rfl⟩
    have hk3 : ks.size ≤ 3 := by
      cases hw : wantOf nm with
      | none => rw [hw] at hks; subst hks; decide
      | some what => rw [hw] at hks; subst hks; rcases want_cases hw with rfl | rfl | rfl | rfl <;> decide
    have HS : Hid (layS nm t = ⟨(layL nm.data.toList ks.data.toList t ++ [10]).toArray⟩) := by unfold layS; rw [hks]; rfl
    rw [hks]
    clear hks
    go_wp2_with fail
    go_loopw [4, 17] (fun s i wr => ∃ k : Nat, k ≤ ks.size ∧ i = .int .i64 k ∧ Below wc.heap.size wc wr ∧ s = .string ⟨(layL nm.data.toList (ks.data.toList.take k) t).toArray⟩)
      (fun _ i _ => ks.size - (intOf i).toNat)
    case atStart => exact ⟨0, Nat.zero_le _, rfl, Below.refl _ _, by simp [layL]⟩
    case round =>
      obtain ⟨k, hk, rfl, hBr, rfl⟩ := hrel
      by_cases hlt : k < ks.size
      · have hc := (hBr.block _ hs1).trans HA1.out
        have hc2 := (cell_of hc (partOff ks[k])).trans (part_cell nm t ks[k])
        have hvr := hv1.below' hBr
        have hpb : -9223372036854775808 ≤ pick t ks[k] ∧ pick t ks[k] ≤ 9223372036854775807 := by
          exact pick_range ht _
        clear hc
        go_wp2_with fail
        refine (part_any _ _ _).mono ?_
        rintro e w3 ⟨rfl, rfl⟩
        go_wp2_with fail
        have hle1 := Lib.itoa_length_le _ hpb.1 hpb.2
        have hle2 := layL_len ht nm.data.toList (ks.data.toList.take k)
        have hle3 : (ks.data.toList.take k).length ≤ k := List.length_take_le _ _
        have hle4 : nm.data.toList.length ≤ 1000 := by simpa using hn
        have hle5 : (layL nm.data.toList (ks.data.toList.take k) t).length ≤ 1066 := by omega
        clear hle2 hle3 hle4
        refine (Tryd.strconv_Itoa _ hpb.1 hpb.2 _ hvr.pow).mono ?_
        rintro e w2 ⟨rfl, q, os, rfl⟩
        go_wp2_with fail
        go_roundw
        case rel => exact ⟨k + 1, by omega, by go_num, hBr.trans ((below_grow wr q os).mono hBr.size), by rw [layL_take _ _ _ _ hlt, show ({ data := #[32] } : ByteArray) = ⟨[(32 : UInt8)].toArray⟩ from rfl, ba_app, ba_app]; rfl⟩
        case measure => simp [intOf]; omega
      · have hke : k = ks.size := by omega
        have hfin : (layL nm.data.toList (ks.data.toList.take k) t) = layL nm.data.toList ks.data.toList t := by
          rw [List.take_of_length_le (by simp; omega)]
        rw [hfin]
        clear hfin hke
        have hle2 := layL_len ht nm.data.toList ks.data.toList
        have hle4 : nm.data.toList.length ≤ 1000 := by simpa using hn
        have hle5 : (layL nm.data.toList ks.data.toList t).length ≤ 1066 := by simp at hle2 hle4; omega
        have hvr := hv1.below' hBr
        clear hle2 hle4
        have hls : (layS nm t).size ≤ 100000 := by rw [HS.out]; show (List.toArray _).size ≤ _; simp; omega
        go_wp2_with fail
        rw [show ({ data := #[10] } : ByteArray) = ⟨[(10 : UInt8)].toArray⟩ from rfl, ba_app, ← HS.out]
        refine (read_some _ _ _ hls HR.out _ hvr).mono ?_
        rintro e w2 ⟨rfl, hB2⟩
        have hact : w2.heap[w.heap.size]? = _ := (hB2.block _ (Nat.lt_of_lt_of_le hs1 hBr.size)).trans ((hBr.block _ hs1).trans HA1.out)
        have hq0 := cell_of hact 0
        have hq1 := cell_of hact 1
        have hq2 := cell_of hact 2
        have hq3 := cell_of hact 3
        simp only [List.getElem?_toArray, List.getElem?_cons_zero, List.getElem?_cons_succ] at hq0 hq1 hq2 hq3
        have hs2 : w.heap.size < w2.heap.size := Nat.lt_of_lt_of_le (Nat.lt_of_lt_of_le hs1 hBr.size) hB2.size
        clear hact
        go_wp2_with fail
        go_ret2
        exact ⟨rfl, (hB0.trans (hB1.mono (by omega))).trans ((hBr.mono (by omega)).trans ((hB2.mono (by have := hBr.size; omega)).trans ((Below.refl _ _).alloc (by omega) _)))⟩
end Go.Proofs.YtedgoagonagdjaaDoor
