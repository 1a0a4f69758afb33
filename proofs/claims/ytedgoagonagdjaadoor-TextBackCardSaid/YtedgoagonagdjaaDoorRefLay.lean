/-
  The reference's Lay.
-/
import Derived.Test.YtedgoagonagdjaaDoorRef
namespace Go.Proofs.YtedgoagonagdjaaDoor
open Go.RowKit Go.Sort

theorem letter {s ks : ByteArray} (h : wantOf s = some ks) (i : Nat) (hi : i < ks.size) : ks[i] = 97 ∨ ks[i] = 98 ∨ ks[i] = 99 := by
  rcases want_cases h with rfl | rfl | rfl | rfl
  · have : i < 3 := hi
    rcases i with _ | _ | _ | i
    · exact .inl rfl
    · exact .inr (.inl rfl)
    · exact .inr (.inr rfl)
    · omega
  · have : i < 1 := hi
    rcases i with _ | i
    · exact .inr (.inl rfl)
    · omega
  · have : i < 2 := hi
    rcases i with _ | _ | i
    · exact .inl rfl
    · exact .inr (.inl rfl)
    · omega
  · exact absurd hi (by show ¬ i < 0; omega)

set_option maxRecDepth 100000 in
set_option maxHeartbeats 4000000 in
theorem layRef_any (nm ks : ByteArray) (t : Abc) (ht : t.ok) (hn : nm.size ≤ 1000) (hw : wantOf nm = some ks) (w : World) :
    Calls Tryd.prog 15 #[.agg #[.string nm, .int .i64 t.a, .int .i64 t.b, .int .i64 t.c]] w fun e w' => e = .returned (.string (layS nm t)) ∧ Below w.heap.size w w' := by
  have HS : Hid (layS nm t = ⟨(layL nm.data.toList ks.data.toList t ++ [10]).toArray⟩) := by unfold layS; rw [hw]; rfl
  have hk3 : ks.size ≤ 3 := by rcases want_cases hw with rfl | rfl | rfl | rfl <;> decide
  have HW := Lib.hid hw
  clear hw
  go_enter Tryd.func15, Tryd.ntmps15
  go_wp2_with fail
  obtain ⟨W0, hW0⟩ : ∃ W0, w.alloc (.cells #[.string nm, .int .i64 t.a, .int .i64 t.b, .int .i64 t.c] 23) = W0 := ⟨_, rfl⟩
  have hB0 : Below w.heap.size w W0 := by rw [← hW0]; exact (Below.refl _ w).alloc (Nat.le_refl _) _
  have hs0 : w.heap.size < W0.heap.size := by rw [← hW0]; simp
  have hq : W0.heap[w.heap.size]? = some (.cells #[.string nm, .int .i64 t.a, .int .i64 t.b, .int .i64 t.c] 23) := by rw [← hW0]; exact heap_new _ _
  rw [hW0]
  clear hW0
  refine (needsRef_any nm _).mono ?_
  rintro e w2 ⟨rfl, hB2⟩
  rw [HW.out]
  simp only [Option.getD_some]
  have hq2 := (hB2.block _ hs0).trans hq
  have c1 := cell_of hq2 1
  have c2 := cell_of hq2 2
  have c3 := cell_of hq2 3
  simp only [List.getElem?_toArray, List.getElem?_cons_zero, List.getElem?_cons_succ] at c1 c2 c3
  have hB02 : Below w.heap.size w w2 := hB0.trans (hB2.mono hB0.size)
  clear hq hq2
  go_wp2_with fail
  have hcx : ∀ c : UInt8, c = 97 ∨ c = 98 ∨ c = 99 → 97 ≤ c.toNat ∧ c.toNat < 100 ∧ (w2.alloc (.cells #[.int .i64 t.a, .int .i64 t.b, .int .i64 t.c] 60)).cell? ⟨w2.heap.size, c.toNat - 97, none⟩ = some (.int .i64 (pick t c)) := by
    rintro c (rfl | rfl | rfl)
    · exact ⟨by decide, by decide, cell_of (heap_new w2 _) 0⟩
    · exact ⟨by decide, by decide, cell_of (heap_new w2 _) 1⟩
    · exact ⟨by decide, by decide, cell_of (heap_new w2 _) 2⟩
  have HCX := Lib.hid hcx
  have hBf : Below w.heap.size w (w2.alloc (.cells #[.int .i64 t.a, .int .i64 t.b, .int .i64 t.c] 60)) := hB02.alloc hB02.size _
  clear hcx c1 c2 c3
  have hsz : w2.heap.size < (w2.alloc (.cells #[.int .i64 t.a, .int .i64 t.b, .int .i64 t.c] 60)).heap.size := by simp
  obtain ⟨W3, hW3⟩ : ∃ W3, w2.alloc (.cells #[.int .i64 t.a, .int .i64 t.b, .int .i64 t.c] 60) = W3 := ⟨_, rfl⟩
  rw [hW3] at HCX hBf hsz ⊢
  clear hW3
  go_loopw [3, 6] (fun s i wr => ∃ k : Nat, k ≤ ks.size ∧ i = .int .i64 k ∧ Below W3.heap.size W3 wr ∧ s = .string ⟨(layL nm.data.toList (ks.data.toList.take k) t).toArray⟩)
    (fun _ i _ => ks.size - (intOf i).toNat)
  case atStart => exact ⟨0, Nat.zero_le _, rfl, Below.refl _ _, by simp [layL]⟩
  case round =>
    obtain ⟨k, hk, rfl, hBr, rfl⟩ := hrel
    have hle2 := layL_len ht nm.data.toList (ks.data.toList.take k)
    have hle3 : (ks.data.toList.take k).length ≤ k := List.length_take_le _ _
    have hle4 : nm.data.toList.length ≤ 1000 := by simpa using hn
    have hle5 : (layL nm.data.toList (ks.data.toList.take k) t).length ≤ 1066 := by omega
    clear hle2 hle3 hle4
    by_cases hlt : k < ks.size
    · obtain ⟨hl0, hl1, hcell⟩ := HCX.out ks[k] (letter HW.out k hlt)
      have hcell' := (hBr.cell (p := ⟨w2.heap.size, ks[k].toNat - 97, none⟩) hsz).trans hcell
      have hpr := pick_range ht ks[k]
      have hle1 := Lib.itoa_length_le _ hpr.1 hpr.2
      have hc0 : 97 ≤ (ks[k].toNat : Int) := by omega
      have hc1 : (ks[k].toNat : Int) - 97 < 3 := by omega
      have h256 : (ks[k].toNat : Int) < 256 := by omega
      clear hcell
      go_wp2_with fail
      refine (dec_any _ hpr.1 hpr.2 _).mono ?_
      rintro e w4 ⟨rfl, hB4⟩
      go_wp2_with fail
      go_roundw
      case rel => exact ⟨k + 1, by omega, by go_num, hBr.trans (hB4.mono hBr.size), by rw [layL_take _ _ _ _ hlt, show ({ data := #[32] } : ByteArray) = ⟨[(32 : UInt8)].toArray⟩ from rfl, ba_app, ba_app]; simp⟩
      case measure => simp [intOf]; omega
    · have hke : k = ks.size := by omega
      have htk : ks.data.toList.take k = ks.data.toList := List.take_of_length_le (by simp; show ks.size ≤ k; omega)
      rw [htk]
      rw [htk] at hle5
      clear htk hke
      go_wp2_with fail
      go_ret
      exact ⟨by rw [HS.out, show ({ data := #[10] } : ByteArray) = ⟨[(10 : UInt8)].toArray⟩ from rfl, ba_app]; rfl, hBf.trans (hBr.mono hBf.size)⟩
end Go.Proofs.YtedgoagonagdjaaDoor
