/-
  A slice of acts: dynamolaw23.Small; an append of such a slice, nil let in.
-/
import Derived.Test.YtedgoagonagdjaaDoorAll
import Derived.Test.YtedgoagonagdjaaDoorLaws0
import Derived.OwnWalk
import Derived.LoopTactic
import Derived.Deep.AppendLies
namespace Go.Proofs.YtedgoagonagdjaaDoor
open Go.RowKit Go.Sort

/-- the slice at A holds these acts, below block B -/
def ActsAt (w : World) (B : Nat) (A : Option Addr) (zs : List (ByteArray × Abc)) : Prop :=
  0 < zs.length → ∃ b off, A = some ⟨b, off, none⟩ ∧ b < B ∧ ∀ j u, (zs.flatMap actCells)[j]? = some u → w.cell? ⟨b, off + j, none⟩ = some u

theorem ActsAt.below {w W : World} {B : Nat} {A : Option Addr} {zs : List (ByteArray × Abc)} (h : ActsAt w B A zs) (hb : Below B w W) : ActsAt W B A zs := fun h0 => by
  obtain ⟨b, off, rfl, hB, hc⟩ := h h0
  exact ⟨b, off, rfl, hB, fun j u hu => (hb.cell (p := ⟨b, off + j, none⟩) hB).trans (hc j u hu)⟩

theorem flat_get4 : ∀ (ts : List (ByteArray × Abc)) (k j : Nat) (h : k < ts.length), j < 4 → (ts.flatMap actCells)[k * 4 + j]? = (actCells ts[k])[j]?
  | z :: ts, 0, j, _, hj => by
    rw [List.flatMap_cons, Nat.zero_mul, Nat.zero_add, List.getElem?_append_left (by simpa [actCells] using hj)]
    rfl
  | z :: ts, k + 1, j, h, hj => by
    rw [List.flatMap_cons, List.getElem?_append_right (by simp [actCells]; omega)]
    rw [show (k + 1) * 4 + j - (actCells z).length = k * 4 + j by simp [actCells]; omega]
    exact flat_get4 ts k j (by simpa using h) hj

theorem ActsAt.name {w : World} {b off : Nat} {zs : List (ByteArray × Abc)} (hc : ∀ j u, (zs.flatMap actCells)[j]? = some u → w.cell? ⟨b, off + j, none⟩ = some u) {k : Nat} (hk : k < zs.length) :
    w.cell? ⟨b, off + k * 4, none⟩ = some (.string zs[k].1) := by
  have h := flat_get4 zs k 0 hk (by omega)
  exact hc (k * 4) _ h

def SmallSays (v : Value) (n : Int) (w : World) : Prop := ∀ W : World, Below w.heap.size w W → Calls Tryd.prog 19 #[v] W fun e w' => e = .returned (.int .i64 n) ∧ W = w'

theorem small_long (A : Option Addr) (n c : Nat) (h : 60 < n) (w : World) : SmallSays (.slice A n c) 0 w := fun W _ => by
  have h' : (60 : Int) < n := by omega
  go_enter Tryd.func19, Tryd.ntmps19
  go_wp2_with fail
  go_ret
  exact ⟨rfl, rfl⟩

set_option maxHeartbeats 400000 in
theorem small_any (A : Option Addr) (zs : List (ByteArray × Abc)) (c : Nat) (w : World) (h : zs.length ≤ 60) (ha : ActsAt w w.heap.size A zs) :
    ((∀ z ∈ zs, z.1.size ≤ 50) ∧ SmallSays (.slice A zs.length c) 1 w) ∨ SmallSays (.slice A zs.length c) 0 w := by
  by_cases hz : ∀ z ∈ zs, z.1.size ≤ 50
  · refine .inl ⟨hz, fun W hb => ?_⟩
    have ha' := ha.below hb
    have h' : (zs.length : Int) ≤ 60 := by omega
    go_enter Tryd.func19, Tryd.ntmps19
    go_wp2_with fail
    go_loop [3] (fun i => ∃ k : Nat, k ≤ zs.length ∧ i = .int .i64 k) (fun i => zs.length - (intOf i).toNat)
    case atStart => exact ⟨0, Nat.zero_le _, rfl⟩
    case round =>
      obtain ⟨k, hk, rfl⟩ := hrel
      by_cases hlt : k < zs.length
      · obtain ⟨b, off, rfl, hB, hc⟩ := ha' (by omega)
        have hn := ActsAt.name hc hlt
        have hs := hz zs[k] (List.getElem_mem hlt)
        clear hc ha'
        go_wp2_with fail
        go_round
        case rel => exact ⟨k + 1, by omega, by go_num⟩
        case measure => simp [intOf]; omega
      · go_wp2_with fail
        go_ret
        exact ⟨rfl, rfl⟩
  · refine .inr fun W hb => ?_
    have ha' := ha.below hb
    have h' : (zs.length : Int) ≤ 60 := by omega
    have hz' : ∃ j, ∃ hj : j < zs.length, 50 < zs[j].1.size := by
      apply Classical.byContradiction
      intro hno
      apply hz
      intro z hm
      obtain ⟨j, hj, rfl⟩ := List.getElem_of_mem hm
      apply Classical.byContradiction
      intro h5
      exact hno ⟨j, hj, by omega⟩
    obtain ⟨j, hj, hbad⟩ := hz'
    go_enter Tryd.func19, Tryd.ntmps19
    go_wp2_with fail
    go_loop [3] (fun i => ∃ k : Nat, k ≤ j ∧ i = .int .i64 k) (fun i => zs.length - (intOf i).toNat)
    case atStart => exact ⟨0, Nat.zero_le _, rfl⟩
    case round =>
      obtain ⟨k, hk, rfl⟩ := hrel
      have hlt : k < zs.length := by omega
      obtain ⟨b, off, rfl, hB, hc⟩ := ha' (by omega)
      have hn := ActsAt.name hc hlt
      clear hc ha'
      by_cases hs : zs[k].1.size ≤ 50
      · have hkj : k ≠ j := by rintro rfl; omega
        go_wp2_with fail
        go_round
        case rel => exact ⟨k + 1, by omega, by go_num⟩
        case measure => simp [intOf]; omega
      · have hs' : (50 : Int) < zs[k].1.size := by omega
        go_wp2_with fail
        go_ret
        exact ⟨rfl, rfl⟩

section
variable {P : Program} (w : World)

theorem run_append_none (base : Nat) (t ty e : TypeId) (i : TypeInfo) (size : Nat) (ht : P.underlying t = some (.slice e)) (hi : P.info? e = some i)
    (v : Value) (n : Nat) (xs : List Value) (hown : w.ownsRow base e size v n xs) (c : Nat) : (Builtin.append_ #[t, t] ty #[v, .slice none 0 c]).run P w = .ok v w := by
  rcases hown.2 with ⟨rfl, rfl⟩ | ⟨g, cap, cur, rfl, _, _, hnc, _⟩
  · simp [Builtin.append_, run_underlying ht, sizeOf, typeInfo, hi, Builtin.lenOf, Builtin.firstCells]
  · simp [Builtin.append_, run_underlying ht, sizeOf, typeInfo, hi, Builtin.lenOf, Builtin.firstCells, hnc, storeCells]

theorem run_append_acts (base : Nat) (t ty e : TypeId) (i : TypeInfo) (z : Value) (bytes : Nat) (ht : P.underlying t = some (.slice e)) (hi : P.info? e = some i) (hz : i.zero = some z)
    (hsize : i.size = 4) (hby : i.bytes = bytes) (hzs : z.cells.size = 4)
    (v : Value) (n : Nat) (xs : List Value) (hown : w.ownsRow base e 4 v n xs)
    (B : Nat) (A : Option Addr) (zs : List (ByteArray × Abc)) (c : Nat) (hr : ActsAt w B A zs)
    (h63 : n + zs.length ≤ maxLen) (hbytes : (n + zs.length) * bytes ≤ 140737488355328) (hbase : base ≤ w.heap.size) :
    ∃ v' w', (Builtin.append_ #[t, t] ty #[v, .slice A zs.length c]).run P w = .ok v' w' ∧ w'.ownsRow base e 4 v' (n + zs.length) (xs ++ zs.flatMap actCells) ∧ w.grownBy w' v.ownBlock ∧
      (v'.ownBlock = v.ownBlock ∨ v'.ownBlock = some w.heap.size) := by
  have hlen : (zs.flatMap actCells).length = zs.length * 4 := by
    clear hr h63 hbytes
    induction zs with
    | nil => rfl
    | cons z zs ih => rw [List.flatMap_cons, List.length_append, ih]; simp [actCells]; omega
  have hone : ∀ u ∈ zs.flatMap actCells, u.oneCell' = true := by
    intro u hu
    obtain ⟨z, _, hz⟩ := List.mem_flatMap.1 hu
    simp only [actCells, List.mem_cons, List.not_mem_nil, or_false] at hz
    rcases hz with rfl | rfl | rfl | rfl <;> rfl
  cases A with
  | none =>
    have hm : zs = [] := by
      cases zs with
      | nil => rfl
      | cons z zs => obtain ⟨b, off, h, _⟩ := hr (by simp); cases h
    subst hm
    exact ⟨v, w, run_append_none w base t ty e i 4 ht hi v n xs hown c, by simpa using hown, World.grownBy.refl w _, .inl rfl⟩
  | some ad =>
    have hcells : ∀ j u, (zs.flatMap actCells)[j]? = some u → w.cell? (ad.add j) = some u := by
      intro j u hu
      cases zs with
      | nil => simp at hu
      | cons z zs =>
        obtain ⟨b, off, h, _, hc⟩ := hr (by simp)
        injection h with h
        subst h
        have := hc j u hu
        rwa [show ((⟨b, off, none⟩ : Addr).add j) = ⟨b, off + j, none⟩ by unfold Addr.add; split <;> simp_all]
    obtain ⟨v', w', hrun, h2, h3, _, h5⟩ := run_append_own_at (P := P) w base t ty e i z 4 bytes ht hi hz hsize hby hzs (by decide) v n xs hown ad zs.length c _ hlen hcells hone h63 hbytes hbase
    exact ⟨v', w', hrun, h2, h3, h5⟩

theorem wpList_append_acts {ops : Array Oper} {rest : List Oper} {o : Oper} {a : Act} {Q : Exit → Act → World → Prop} (hgd : o.guard = none) (s x : Operand) (t : TypeId)
    (ho : o.op = .call { callee := .builtin .append, args := #[s, x], argTypes := #[t, t] })
    (base : Nat) (e : TypeId) (i : TypeInfo) (z : Value) (bytes : Nat) (ht : P.underlying t = some (.slice e)) (hi : P.info? e = some i) (hz : i.zero = some z)
    (hsize : i.size = 4) (hby : i.bytes = bytes) (hzs : z.cells.size = 4)
    (v : Value) (n : Nat) (xs : List Value) (hs : a.eval s = v) (hown : w.ownsRow base e 4 v n xs)
    (B : Nat) (A : Option Addr) (zs : List (ByteArray × Abc)) (c : Nat) (hx : a.eval x = .slice A zs.length c) (hr : ActsAt w B A zs)
    (h63 : n + zs.length ≤ maxLen) (hbytes : (n + zs.length) * bytes ≤ 140737488355328) (hbase : base ≤ w.heap.size)
    (h : ∀ v' w', w'.ownsRow base e 4 v' (n + zs.length) (xs ++ zs.flatMap actCells) → w.grownBy w' v.ownBlock → (v'.ownBlock = v.ownBlock ∨ v'.ownBlock = some w.heap.size) → wpList P ops Q rest (a.put o.dst v') w') : wpList P ops Q (o :: rest) a w := by
  obtain ⟨v', w', hrun, h2, h3, h4⟩ := run_append_acts (P := P) w base t o.type e i z bytes ht hi hz hsize hby hzs v n xs hown B A zs c hr h63 hbytes hbase
  refine wpList_plain hgd fun _ hK => ?_
  unfold Oper.wp execOp
  simp only [ho, resolve, invoke, builtin, Sem.run_bind, Sem.run_pure, Result.andThen_ok, List.map_toArray, List.map_cons, List.map_nil, hs, hx, hrun]
  exact hK _ _ (h v' w' h2 h3 h4)
end
end Go.Proofs.YtedgoagonagdjaaDoor
