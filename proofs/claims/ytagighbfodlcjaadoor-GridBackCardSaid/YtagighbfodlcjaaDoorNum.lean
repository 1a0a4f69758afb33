/-
  tag.Num at an error with one tag: its number.
-/
import Derived.Test.YtagighbfodlcjaaDoorErr
namespace Go.Proofs.YtagighbfodlcjaaDoor
open Go.RowKit Go.Extern.Stop Go.Stop Go.Extern

/-- the variable errors.errorType as start-up lays it -/
def ErrVar (w : World) : Prop := w.cell? ⟨0, 0, none⟩ = some (.iface 117 (.agg #[.pointer (some ⟨4, 26, none⟩)]))

theorem unwrap_any (b : Nat) (t : TypeId) (v : Value) (w : World) (hb : w.cell? ⟨b, 1, none⟩ = some (.iface t v)) :
    Calls Tryd.prog 121 #[.pointer (some ⟨b, 0, none⟩)] w fun e w' => e = .returned (.iface t v) ∧ w' = w := by
  go_enter Tryd.func121, Tryd.ntmps121
  go_wp2
  go_ret
  exact ⟨rfl, rfl⟩

set_option maxRecDepth 100000 in
set_option maxHeartbeats 4000000 in
theorem as_chain (b : Nat) (t : Addr) (s : ByteArray) (n : Int) (old : Value) (w : World) (hg : ErrVar w) (hG : 4 ≤ w.heap.size)
    (hb : w.heap[b]? = some (.cells #[.string s, .iface 51 (.int .i64 n)] 85)) (ht0 : w.cell? t = some old) (hf0 : w.frozen? t = false) :
    Calls Tryd.prog 28 #[.iface 83 (.pointer (some ⟨b, 0, none⟩)), .iface 63 (.pointer (some t))] w fun ev w' => ev = .returned (.bool true) ∧ Up w.heap.size (· = t.block) w w' ∧ w.heap.size < w'.heap.size ∧ w'.cell? t = some (.int .i64 n) ∧ w'.frozen? t = false := by
  have h6 := @run_callFunc_extern Tryd.prog 45 _ (fun args => ReflectliteValue.unpack (args.getD 0 (.tuple #[]))) Tryd.func45 (by kernel_rfl) (by kernel_rfl) (by kernel_rfl) (by kernel_rfl)
  have h7 := @run_callFunc_extern Tryd.prog 46 _ (ReflectliteValue.methodAny (ReflectliteValue.valueError "reflectlite.Value.Type" 0) (fun t _ _ _ => ReflectliteType.toType t)) Tryd.func46 (by kernel_rfl) (by kernel_rfl) (by kernel_rfl) (by kernel_rfl)
  have h8 := @run_callFunc_extern Tryd.prog 47 _ (ReflectliteValue.method (ReflectliteValue.valueError "reflectlite.Value.IsNil" 0) ReflectliteValue.isNil) Tryd.func47 (by kernel_rfl) (by kernel_rfl) (by kernel_rfl) (by kernel_rfl)
  have h27 := @run_callFunc_extern Tryd.prog 115 _ (ReflectliteType.abiMethod fun t => do pure (.int .u8 (← Rtype.kind t))) Tryd.func115 (by kernel_rfl) (by kernel_rfl) (by kernel_rfl) (by kernel_rfl)
  have h37 := @run_callFunc_extern Tryd.prog 128 _ (ReflectliteType.method ReflectliteType.elem) Tryd.func128 (by kernel_rfl) (by kernel_rfl) (by kernel_rfl) (by kernel_rfl)
  have h38 := @run_callFunc_extern Tryd.prog 129 _ (ReflectliteType.relation "Implements" ReflectliteType.implements_) Tryd.func129 (by kernel_rfl) (by kernel_rfl) (by kernel_rfl) (by kernel_rfl)
  have h10 := @run_callFunc_extern Tryd.prog 66 _ ReflectliteType.typeOf Tryd.func66 (by kernel_rfl) (by kernel_rfl) (by kernel_rfl) (by kernel_rfl)
  have h35 := @run_callFunc_extern Tryd.prog 126 _ (ReflectliteType.relation "AssignableTo" ReflectliteType.assignableTo) Tryd.func126 (by kernel_rfl) (by kernel_rfl) (by kernel_rfl) (by kernel_rfl)
  have h11 := @run_callFunc_extern Tryd.prog 67 _ (ReflectliteValue.method (ReflectliteValue.valueError "reflectlite.Value.Elem" 0) ReflectliteValue.elem) Tryd.func67 (by kernel_rfl) (by kernel_rfl) (by kernel_rfl) (by kernel_rfl)
  have h12 := @run_callFunc_extern Tryd.prog 68 _ ReflectliteValue.set Tryd.func68 (by kernel_rfl) (by kernel_rfl) (by kernel_rfl) (by kernel_rfl)
  have tE := Tryd.typeOfE
  have tT := Tryd.typeOfT
  have mA := Tryd.methodAssignableTo
  have aE := Tryd.assignableE
  have aT := Tryd.assignableT
  have vE := Tryd.valueOfE
  have vP := Tryd.valueOfP
  have tP := Tryd.typeP
  have mK := Tryd.methodKind
  have mE := Tryd.methodElem
  have mI := Tryd.methodImplements
  have kP := Tryd.kindP
  have kE := Tryd.kindE
  have eP := Tryd.elemP
  have iE := Tryd.implementsE
  have nA := Tryd.noAsT
  have hU := Tryd.hasUnwrapT
  have mU := Tryd.methodUnwrap
  have n8 := Tryd.isNilP ⟨w.heap.size, 0, none⟩ t ((w.alloc (.cells #[.pointer (some t)] 63)).alloc (.cells #[.pointer (some ⟨4, 63, none⟩), .pointer (some ⟨w.heap.size, 0, none⟩), .int .u64 150] 91)) (by simp)
  unfold ErrVar at hg
  have hlt : 0 < w.heap.size := by omega
  have hg2 : ((w.alloc (.cells #[.pointer (some t)] 63)).alloc (.cells #[.pointer (some ⟨4, 63, none⟩), .pointer (some ⟨w.heap.size, 0, none⟩), .int .u64 150] 91)).cell? ⟨0, 0, none⟩ = some (.iface 117 (.agg #[.pointer (some ⟨4, 26, none⟩)])) := by
    rw [World.cell?_alloc_lt _ _ ⟨0, 0, none⟩ (by simp), World.cell?_alloc_lt _ _ ⟨0, 0, none⟩ hlt]; exact hg
  have htl : t.block < w.heap.size := by
    rcases Nat.lt_or_ge t.block w.heap.size with h | h
    · exact h
    · simp [World.cell?, Array.getElem?_eq_none h] at ht0
  have hbl : b < w.heap.size := (Array.getElem?_eq_some_iff.1 hb).1
  have hbc : w.cell? ⟨b, 1, none⟩ = some (.iface 51 (.int .i64 n)) := by simp [World.cell?, hb]
  have el := Tryd.elemVP ⟨w.heap.size, 0, none⟩ t (((w.alloc (.cells #[.pointer (some t)] 63)).alloc (.cells #[.pointer (some ⟨4, 63, none⟩), .pointer (some ⟨w.heap.size, 0, none⟩), .int .u64 150] 91)).alloc (.cells #[.pointer (some ⟨4, 63, none⟩), .pointer (some ⟨w.heap.size, 0, none⟩), .int .u64 150] 91)) (by rw [World.cell?_alloc_lt _ _ ⟨w.heap.size, 0, none⟩ (by simp; omega)]; simp)
  have st := Tryd.setE t ⟨w.heap.size + 1 + 1 + 1, 0, none⟩ n old ((((w.alloc (.cells #[.pointer (some t)] 63)).alloc (.cells #[.pointer (some ⟨4, 63, none⟩), .pointer (some ⟨w.heap.size, 0, none⟩), .int .u64 150] 91)).alloc (.cells #[.pointer (some ⟨4, 63, none⟩), .pointer (some ⟨w.heap.size, 0, none⟩), .int .u64 150] 91)).alloc (.cells #[.int .i64 n] 51))
    (by rw [World.cell?_alloc_at _ _ _ _ (by simp)]; rfl)
    (by rw [World.cell?_alloc_lt _ _ t (by simp; omega), World.cell?_alloc_lt _ _ t (by simp; omega), World.cell?_alloc_lt _ _ t (by simp; omega), World.cell?_alloc_lt _ _ t htl]; exact ht0)
    (by rw [World.frozen?_alloc_old _ _ t (by simp; omega), World.frozen?_alloc_old _ _ t (by simp; omega), World.frozen?_alloc_old _ _ t (by simp; omega), World.frozen?_alloc_old _ _ t (Nat.ne_of_lt htl)]; exact hf0)
  clear hb
  go_enter Tryd.func28, Tryd.ntmps28
  go_wp2
  refine wp_loop_rounds 2 ?_
  rw [rounds_succ]
  go_wp2_with fail
  refine (unwrap_any b 51 (.int .i64 n) _ ?_).mono ?_
  · rw [World.cell?_alloc_lt _ _ ⟨b, 1, none⟩ (by simp; omega), World.cell?_alloc_lt _ _ ⟨b, 1, none⟩ (by simp; omega), World.cell?_alloc_lt _ _ ⟨b, 1, none⟩ hbl]; exact hbc
  rintro e w' ⟨rfl, rfl⟩
  go_wp2_with fail
  rw [rounds_succ]
  go_wp2_with fail
  go_ret
  refine ⟨rfl, (((((Up.refl w.heap.size (fun k => k = t.block) w).alloc (Nat.le_refl _) _).alloc (by simp) _).alloc (by simp; omega) _).alloc (by simp; omega) _).setCell (.inr rfl) _, by simp [World.setCell]; omega, ?_, ?_⟩
  · refine World.cell?_setCell_same' _ _ _ ?_
    rw [World.cell?_alloc_lt _ _ t (by simp; omega), World.cell?_alloc_lt _ _ t (by simp; omega), World.cell?_alloc_lt _ _ t (by simp; omega), World.cell?_alloc_lt _ _ t htl, ht0]; rfl
  · rw [World.frozen?_setCell, World.frozen?_alloc_old _ _ t (by simp; omega), World.frozen?_alloc_old _ _ t (by simp; omega), World.frozen?_alloc_old _ _ t (by simp; omega), World.frozen?_alloc_old _ _ t (Nat.ne_of_lt htl)]; exact hf0

set_option maxRecDepth 100000 in
set_option maxHeartbeats 400000 in
theorem num_err (e : Value) (n : Int) (w : World) (hg : ErrVar w) (hG : 4 ≤ w.heap.size) (he : IsErr w n e) :
    Calls Tryd.prog 10 #[e] w fun e w' => e = .returned (.int .i64 n) ∧ Below w.heap.size w w' := by
  obtain ⟨b, s, rfl, hb⟩ := he
  have hbl : b < w.heap.size := (Array.getElem?_eq_some_iff.1 hb).1
  have hb1 : (w.alloc (.cells #[.int .i64 0] 51)).heap[b]? = some (.cells #[.string s, .iface 51 (.int .i64 n)] 85) := (Below.heap_alloc _ _ _ hbl).trans hb
  have hg1 : ErrVar (w.alloc (.cells #[.int .i64 0] 51)) := by unfold ErrVar at *; rw [World.cell?_alloc_lt _ _ ⟨0, 0, none⟩ (by simp; omega)]; exact hg
  have hc := as_chain b ⟨w.heap.size, 0, none⟩ s n (.int .i64 0) (w.alloc (.cells #[.int .i64 0] 51)) hg1 (by simp; omega) hb1 (by simp) (by simp)
  have H := Lib.hid hc
  clear hc hb hb1 hg hg1
  go_enter Tryd.func10, Tryd.ntmps10
  go_wp2_with fail
  refine H.out.mono ?_
  rintro e w' ⟨rfl, hu, hs, hc, hf⟩
  clear H
  go_wp2
  go_ret
  have hu' : Up (w.heap.size + 1) (· = w.heap.size) (w.alloc (.cells #[.int .i64 0] 51)) w' := by simpa using hu
  exact ⟨rfl, ((Below.refl w.heap.size w).alloc (Nat.le_refl _) _).trans (hu'.below (by omega) (by omega))⟩
end Go.Proofs.YtagighbfodlcjaaDoor
