/-
  tag.Tag, tag.Num: an error with a tag around a number; its number.
-/
import Derived.Test.YtagighbfodlcjaaDoorBase
import Derived.LaidEql
import Derived.Stop.Asserts
import Derived.RowKitTokens
namespace Go.Proofs.YtagighbfodlcjaaDoor
open Go.RowKit Go.Extern.Stop Go.Stop Go.Extern

/-- 'e' is a tag around the number n (in memory). -/
def IsErr (w : World) (n : Int) (e : Value) : Prop :=
  ∃ (b : Nat) (s : ByteArray), e = .iface 83 (.pointer (some ⟨b, 0, none⟩)) ∧
    w.heap[b]? = some (.cells #[.string s, .iface 51 (.int .i64 n)] 85)

set_option maxHeartbeats 400000 in
theorem tag_any (s : ByteArray) (n : Int) (w : World) :
    Calls Tryd.prog 24 #[.string s, .iface 51 (.int .i64 n)] w fun e w' =>
      e = .returned (.iface 83 (.pointer (some ⟨w.heap.size, 0, none⟩))) ∧
        w' = w.alloc (.cells #[.string s, .iface 51 (.int .i64 n)] 85) := by
  go_enter Tryd.func24, Tryd.ntmps24
  go_wp2
  go_ret
  exact ⟨rfl, rfl⟩

theorem num_nil (w : World) :
    Calls Tryd.prog 10 #[.nilIface] w fun e w' => e = .returned (.int .i64 0) ∧ w' = w := by
  go_enter Tryd.func10, Tryd.ntmps10
  go_wp2
  go_ret
  exact ⟨rfl, rfl⟩

/-! ### errors.As at the target *api.Errno -/
theorem Tryd.valueOfP (t : Addr) (w : World) : (ReflectliteValue.unpack (.iface 63 (.pointer (some t)))).run Tryd.prog w
    = .ok (.agg #[.pointer (some ⟨4, 63, none⟩), .pointer (some ⟨w.heap.size, 0, none⟩), .int .u64 150]) (w.alloc (.cells #[.pointer (some t)] 63)) := by kernel_rfl
theorem Tryd.typeP (a : Addr) (w : World) : (ReflectliteValue.methodAny (ReflectliteValue.valueError "reflectlite.Value.Type" 0) (fun t _ _ _ => ReflectliteType.toType t) #[.agg #[.pointer (some ⟨4, 63, none⟩), .pointer (some a), .int .u64 150]]).run Tryd.prog w
    = .ok (.iface 117 (.agg #[.pointer (some ⟨4, 63, none⟩)])) w := by kernel_rfl
theorem Tryd.methodKind (k : Nat) (h : Value) (w : World) : (Go.method (k + 1) 117 (.agg #[h]) "Kind").run Tryd.prog w = .ok (115, h) w := by kernel_rfl
theorem Tryd.methodElem (k : Nat) (h : Value) (w : World) : (Go.method (k + 1) 117 (.agg #[h]) "Elem").run Tryd.prog w = .ok (128, .agg #[h]) w := by kernel_rfl
theorem Tryd.methodImplements (k : Nat) (h : Value) (w : World) : (Go.method (k + 1) 117 (.agg #[h]) "Implements").run Tryd.prog w = .ok (129, .agg #[h]) w := by kernel_rfl
theorem Tryd.methodAssignableTo (k : Nat) (h : Value) (w : World) : (Go.method (k + 1) 117 (.agg #[h]) "AssignableTo").run Tryd.prog w = .ok (126, .agg #[h]) w := by kernel_rfl
theorem Tryd.kindP (w : World) : ((ReflectliteType.abiMethod fun t => (fun a : Nat => Value.int IntKind.u8 (a : Int)) <$> Rtype.kind t) #[.pointer (some ⟨4, 63, none⟩)]).run Tryd.prog w = .ok (.int .u8 22) w := by kernel_rfl
theorem Tryd.kindE (w : World) : ((ReflectliteType.abiMethod fun t => (fun a : Nat => Value.int IntKind.u8 (a : Int)) <$> Rtype.kind t) #[.pointer (some ⟨4, 51, none⟩)]).run Tryd.prog w = .ok (.int .u8 2) w := by kernel_rfl

theorem rlm (z : Sem Value) (f : TypeId → Addr → Nat → Nat → Sem Value) (v : Value) :
    ReflectliteValue.method z f #[v] = (do match ← ReflectliteValue.parts v with | none => z | some (t, a, fl) => f t a fl (fl % 32)) := rfl
theorem Tryd.partsP (a : Addr) (w : World) : (ReflectliteValue.parts (.agg #[.pointer (some ⟨4, 63, none⟩), .pointer (some a), .int .u64 150])).run Tryd.prog w = .ok (some (63, a, 150)) w := by kernel_rfl
/-- (Value).IsNil at the Value of a *api.Errno that is not nil. -/
theorem Tryd.isNilP (a p : Addr) (W : World) (ha : W.cell? a = some (.pointer (some p))) :
    (ReflectliteValue.method (ReflectliteValue.valueError "reflectlite.Value.IsNil" 0) ReflectliteValue.isNil #[.agg #[.pointer (some ⟨4, 63, none⟩), .pointer (some a), .int .u64 150]]).run Tryd.prog W = .ok (.bool false) W := by
  rw [rlm]
  simp only [Sem.run_bind, Tryd.partsP, Result.andThen]
  simp [ReflectliteValue.isNil, loadVar, isAgg, underlying, Tryd.underlying63, ha, Result.andThen]

theorem Tryd.elemP (w : World) : (ReflectliteType.method ReflectliteType.elem #[.agg #[.pointer (some ⟨4, 63, none⟩)]]).run Tryd.prog w = .ok (.iface 117 (.agg #[.pointer (some ⟨4, 51, none⟩)])) w := by kernel_rfl
theorem Tryd.implementsE (w : World) : (ReflectliteType.relation "Implements" ReflectliteType.implements_ #[.agg #[.pointer (some ⟨4, 51, none⟩)], .iface 117 (.agg #[.pointer (some ⟨4, 26, none⟩)])]).run Tryd.prog w = .ok (.bool true) w := by kernel_rfl
theorem Tryd.typeOfE (v : Value) (w : World) : (ReflectliteType.typeOf #[.iface 51 v]).run Tryd.prog w = .ok (.iface 117 (.agg #[.pointer (some ⟨4, 51, none⟩)])) w := by kernel_rfl
theorem Tryd.typeOfT (v : Value) (w : World) : (ReflectliteType.typeOf #[.iface 83 v]).run Tryd.prog w = .ok (.iface 117 (.agg #[.pointer (some ⟨4, 83, none⟩)])) w := by kernel_rfl
theorem Tryd.assignableE (w : World) : (ReflectliteType.relation "AssignableTo" ReflectliteType.assignableTo #[.agg #[.pointer (some ⟨4, 51, none⟩)], .iface 117 (.agg #[.pointer (some ⟨4, 51, none⟩)])]).run Tryd.prog w = .ok (.bool true) w := by kernel_rfl
theorem Tryd.assignableT (w : World) : (ReflectliteType.relation "AssignableTo" ReflectliteType.assignableTo #[.agg #[.pointer (some ⟨4, 83, none⟩)], .iface 117 (.agg #[.pointer (some ⟨4, 51, none⟩)])]).run Tryd.prog w = .ok (.bool false) w := by kernel_rfl
theorem Tryd.valueOfE (n : Int) (w : World) : (ReflectliteValue.unpack (.iface 51 (.int .i64 n))).run Tryd.prog w
    = .ok (.agg #[.pointer (some ⟨4, 51, none⟩), .pointer (some ⟨w.heap.size, 0, none⟩), .int .u64 130]) (w.alloc (.cells #[.int .i64 n] 51)) := by kernel_rfl
theorem Tryd.elemOfP (w : World) : (Rtype.elem? 63).run Tryd.prog w = .ok (some 51) w := by kernel_rfl
theorem Tryd.mkE (p : Addr) (w : World) : (ReflectliteValue.mk 51 p ReflectliteValue.flagAddr).run Tryd.prog w = .ok (.agg #[.pointer (some ⟨4, 51, none⟩), .pointer (some p), .int .u64 386]) w := by kernel_rfl
theorem Tryd.elemVP (a p : Addr) (W : World) (ha : W.cell? a = some (.pointer (some p))) :
    (ReflectliteValue.method (ReflectliteValue.valueError "reflectlite.Value.Elem" 0) ReflectliteValue.elem #[.agg #[.pointer (some ⟨4, 63, none⟩), .pointer (some a), .int .u64 150]]).run Tryd.prog W
      = .ok (.agg #[.pointer (some ⟨4, 51, none⟩), .pointer (some p), .int .u64 386]) W := by
  rw [rlm]
  simp only [Sem.run_bind, Tryd.partsP, Result.andThen]
  simp [ReflectliteValue.elem, loadVar, isAgg, underlying, Tryd.underlying63, ha, Result.andThen, Tryd.elemOfP, Tryd.mkE]
theorem rls (v x : Value) : ReflectliteValue.set #[v, x] = (do
    let (some (dst, a, fl), some (src, b, _)) := (← ReflectliteValue.parts v, ← ReflectliteValue.parts x)
      | unsupported (.noEntry "extern/(internal/reflectlite.Value).Set.zeroValue")
    if fl / ReflectliteValue.flagAddr % 2 == 0 then unsupported (.noEntry "extern/(internal/reflectlite.Value).Set.unaddressable")
    let val ← loadVar src b
    if ← Rtype.directlyAssignable dst src then storeVar dst a val
    else if ← Rtype.implements dst src then
      if (← Rtype.kind src) == 20 then
        match val with
        | .nilIface => unsupported (.noEntry "extern/reflectlite: a nil value of one interface type handed on as a value of another")
        | _ => storeVar dst a val
      else storeVar dst a (.iface src val)
    else panicString ("reflectlite.Set: value of type " ++ (← Rtype.spelt src) ++ " is not assignable to type " ++ (← Rtype.spelt dst))
    pure (.tuple #[])) := rfl
theorem Tryd.partsEa (a : Addr) (w : World) : (ReflectliteValue.parts (.agg #[.pointer (some ⟨4, 51, none⟩), .pointer (some a), .int .u64 386])).run Tryd.prog w = .ok (some (51, a, 386)) w := by kernel_rfl
theorem Tryd.partsE (a : Addr) (w : World) : (ReflectliteValue.parts (.agg #[.pointer (some ⟨4, 51, none⟩), .pointer (some a), .int .u64 130])).run Tryd.prog w = .ok (some (51, a, 130)) w := by kernel_rfl
theorem Tryd.directE (w : World) : (Rtype.directlyAssignable 51 51).run Tryd.prog w = .ok true w := by kernel_rfl
theorem Tryd.sizeE (w : World) : (sizeOf 51).run Tryd.prog w = .ok 1 w := by kernel_rfl
theorem Tryd.setE (ta b : Addr) (n : Int) (old : Value) (W : World) (hb : W.cell? b = some (.int .i64 n)) (ht : W.cell? ta = some old) (hf : W.frozen? ta = false) :
    (ReflectliteValue.set #[.agg #[.pointer (some ⟨4, 51, none⟩), .pointer (some ta), .int .u64 386], .agg #[.pointer (some ⟨4, 51, none⟩), .pointer (some b), .int .u64 130]]).run Tryd.prog W
      = .ok (.tuple #[]) (W.setCell ta (.int .i64 n)) := by
  rw [rls]
  simp only [Sem.run_bind, Tryd.partsEa, Tryd.partsE, Result.andThen]
  simp [ReflectliteValue.flagAddr, loadVar, isAgg, underlying, Tryd.underlying51, hb, Result.andThen, Tryd.directE, storeVar, Value.cells, storeCells, Addr.add]
  rw [run_store Tryd.prog W ta _ _ (by rfl)]
  simp [ht, hf]

/-! ### what an error's dynamic type has, and has not -/
theorem Tryd.noAsT (v : Value) (xT : TypeId) (w : World) : (Instr.typeAssert (.iface 83 v) xT 122 true).run Tryd.prog w = .ok (.tuple #[.nilIface, .bool false]) w := run_typeAssert_lacksB Tryd.underlying122 (by kernel_rfl) (by kernel_rfl) v xT w
theorem Tryd.hasUnwrapT (v : Value) (xT : TypeId) (w : World) : (Instr.typeAssert (.iface 83 v) xT 125 true).run Tryd.prog w = .ok (.tuple #[.iface 83 v, .bool true]) w := run_typeAssert_hasB Tryd.underlying125 (by kernel_rfl) v xT w
theorem Tryd.methodUnwrap (k : Nat) (v : Value) (w : World) : (Go.method (k + 1) 83 v "Unwrap").run Tryd.prog w = .ok (121, v) w := by kernel_rfl
end Go.Proofs.YtagighbfodlcjaaDoor
