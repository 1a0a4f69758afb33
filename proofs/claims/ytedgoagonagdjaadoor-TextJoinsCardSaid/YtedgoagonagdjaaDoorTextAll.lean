/-
  The law TextAll, walked.
-/
import Derived.Test.YtedgoagonagdjaaDoorAllLong
import Derived.Test.YtedgoagonagdjaaDoorLaws0
import Derived.OwnWalk
import Derived.BigQuiet
namespace Go.Proofs.YtedgoagonagdjaaDoor
open Go.RowKit Go.Shelf Go.Sort

def AllRes (s : ByteArray) (base : Nat) (W : World) (a : Option Addr) (n c : Nat) (nb : Int) (ve : Value) : Prop :=
  (∃ ts : List (ByteArray × Abc), (linesB s).map readP = ts.map some ∧ nb = 0 ∧ ve = .nilIface ∧ n = ts.length ∧ W.ownsRow base 29 4 (.slice a n c) ts.length (ts.flatMap actCells)) ∨
  (∃ (p : List ByteArray) (x : ByteArray) (ts : List (ByteArray × Abc)), p ++ [x] <+: linesB s ∧ p.map readP = ts.map some ∧ readP x = none ∧ a = none ∧ n = 0 ∧ c = 0 ∧ nb = ((p.length + 1 : Nat) : Int) ∧ IsErr W 2 ve)

theorem all_res {s : ByteArray} {w : World} {e : Ending} {w' : World} (h : AllPost s w e w') :
    ∃ (a : Option Addr) (n c : Nat) (nb : Int) (ve : Value), e = .returned (.tuple #[.slice a n c, .int .i64 nb, ve]) ∧ AllRes s w.heap.size w' a n c nb ve ∧ Below w.heap.size w w' := by
  rcases h with ⟨ts, v, h1, rfl, h3, h4⟩ | ⟨p, x, ts, v, h1, h2, h3, rfl, h4, h5⟩
  · rcases h3.2 with ⟨rfl, h0⟩ | ⟨g, cap, cur, rfl, _⟩
    · exact ⟨none, 0, 0, 0, .nilIface, rfl, .inl ⟨ts, h1, rfl, rfl, h0.symm, h3⟩, h4⟩
    · exact ⟨_, _, _, 0, .nilIface, rfl, .inl ⟨ts, h1, rfl, rfl, rfl, h3⟩, h4⟩
  · exact ⟨none, 0, 0, _, v, rfl, .inr ⟨p, x, ts, h1, h2, h3, rfl, rfl, rfl, rfl, h4⟩, h5⟩

theorem linesB_cut {s : ByteArray} {t k : Nat} (h1 : t ≤ k) (h2 : k < s.size) (h3 : ∀ j, t ≤ j → j < k → s.data.toList[j]? ≠ some 10) (h4 : s.data.toList[k]? = some 10 ∨ k + 1 = s.size) :
    linesB (s.extract t s.size) = s.extract t (k + 1) :: linesB (s.extract (k + 1) s.size) := by
  have hsz := size_list s
  have e1 : (s.extract t s.size).data.toList = s.data.toList.drop t := by rw [ext_list, hsz, List.take_length]
  have e2 : (s.extract (k + 1) s.size).data.toList = s.data.toList.drop (k + 1) := by rw [ext_list, hsz, List.take_length]
  have e3 : s.data.toList.drop t = ((s.data.toList.take (k + 1)).drop t) ++ s.data.toList.drop (k + 1) := by
    conv => lhs; rw [← List.take_append_drop (k + 1) s.data.toList]
    rw [List.drop_append_of_le_length (by rw [List.length_take]; omega)]
  have hlen : ((s.data.toList.take (k + 1)).drop t).length = k + 1 - t := by rw [List.length_drop, List.length_take]; omega
  have hlast : ((s.data.toList.take (k + 1)).drop t).getLast? = s.data.toList[k]? := by
    rw [List.getLast?_eq_getElem?, hlen, List.getElem?_drop, List.getElem?_take]
    rw [if_pos (by omega)]
    congr 1; omega
  have h := lines_cut ((s.data.toList.take (k + 1)).drop t) (s.data.toList.drop (k + 1)) (by intro e; rw [e] at hlen; simp at hlen; omega)
    (fun x hx e => by
      subst e
      obtain ⟨j, hj, hx⟩ := List.getElem_of_mem hx
      rw [List.length_dropLast, hlen] at hj
      rw [List.getElem_dropLast, List.getElem_drop, List.getElem_take] at hx
      exact h3 (t + j) (by omega) (by omega) (by rw [List.getElem?_eq_getElem (by omega), hx]))
    (by rcases h4 with h4 | h4
        · exact .inl (by rw [hlast, h4])
        · exact .inr (List.drop_eq_nil_of_le (by omega)))
  have e4 : (⟨((s.data.toList.take (k + 1)).drop t).toArray⟩ : ByteArray) = s.extract t (k + 1) := by
    apply ByteArray.ext
    apply Array.toList_inj.1
    rw [ext_list]
  rw [linesB, e1, e3, h, linesB, e2, List.map_cons, e4]

theorem first_bad {L p p' : List ByteArray} {x x' : ByteArray} {ts ts' : List (ByteArray × Abc)} (h : p ++ [x] <+: L) (h' : p' ++ [x'] <+: L)
    (h1 : p.map readP = ts.map some) (h1' : p'.map readP = ts'.map some) (hx : readP x = none) (hx' : readP x' = none) : p.length = p'.length := by
  have key : ∀ {p p' : List ByteArray} {x x' : ByteArray} {ts' : List (ByteArray × Abc)}, p ++ [x] <+: L → p' ++ [x'] <+: L → p'.map readP = ts'.map some → readP x = none → ¬ p.length < p'.length := by
    intro p p' x x' ts' h h' h1' hx hlt
    obtain ⟨r, hr⟩ := h
    obtain ⟨r', hr'⟩ := h'
    have e1 : L[p.length]? = some x := by rw [← hr]; simp
    have e2 : L[p.length]? = p'[p.length]? := by rw [← hr', List.append_assoc, List.getElem?_append_left hlt]
    have e3 : (p'.map readP)[p.length]? = some none := by rw [List.getElem?_map, ← e2, e1]; simp [hx]
    rw [h1', List.getElem?_map] at e3
    cases h4 : ts'[p.length]? with
    | none => rw [h4] at e3; cases e3
    | some z => rw [h4] at e3; cases e3
  have a := key h h' h1' hx
  have b := key h' h h1 hx'
  omega

theorem no_bad {L p : List ByteArray} {x : ByteArray} {ts : List (ByteArray × Abc)} (h : p ++ [x] <+: L) (h1 : L.map readP = ts.map some) (hx : readP x = none) : False := by
  obtain ⟨r, rfl⟩ := h
  have : none ∈ (p ++ [x] ++ r).map readP := List.mem_map.2 ⟨x, by simp, hx⟩
  rw [h1] at this
  obtain ⟨z, _, hz⟩ := List.mem_map.1 this
  cases hz

theorem str_at (s : ByteArray) (k : Nat) (h : k < s.size) : s.data.toList[k]? = some (s[k]'h) := by
  rw [List.getElem?_eq_getElem (by rw [← size_list]; exact h), Array.getElem_toList]; rfl

theorem flat_get : ∀ (ts : List (ByteArray × Abc)) (k j : Nat) (h : k < ts.length), j < 4 → (ts.flatMap actCells)[k * 4 + j]? = (actCells ts[k])[j]?
  | z :: ts, 0, j, _, hj => by
    rw [List.flatMap_cons, Nat.zero_mul, Nat.zero_add, List.getElem?_append_left (by simpa [actCells] using hj)]
    rfl
  | z :: ts, k + 1, j, h, hj => by
    rw [List.flatMap_cons, List.getElem?_append_right (by simp [actCells]; omega)]
    rw [show (k + 1) * 4 + j - (actCells z).length = k * 4 + j by simp [actCells]; omega]
    exact flat_get ts k j (by simpa using h) hj

theorem addr_add (g j : Nat) : (⟨g, 0, none⟩ : Addr).add j = ⟨g, j, none⟩ := by
  unfold Addr.add
  split <;> simp_all

theorem act_at {w : World} {base : Nat} {a : Option Addr} {c : Nat} {ts : List (ByteArray × Abc)} (h : w.ownsRow base 29 4 (.slice a ts.length c) ts.length (ts.flatMap actCells)) {k : Nat} (hk : k < ts.length) :
    ∃ g, a = some ⟨g, 0, none⟩ ∧ g < w.heap.size ∧ w.cell? ⟨g, k * 4, none⟩ = some (.string ts[k].1) ∧ w.cell? ⟨g, k * 4 + 1, none⟩ = some (.int .i64 ts[k].2.a) ∧ w.cell? ⟨g, k * 4 + 2, none⟩ = some (.int .i64 ts[k].2.b) ∧ w.cell? ⟨g, k * 4 + 3, none⟩ = some (.int .i64 ts[k].2.c) := by
  rcases h.2 with ⟨_, h0⟩ | ⟨g, cap, cur, e, _, hgb, _⟩
  · omega
  · obtain ⟨rfl, rfl⟩ : a = some ⟨g, 0, none⟩ ∧ c = cap := by simpa using e
    have key : ∀ j u, j < 4 → (actCells ts[k])[j]? = some u → w.cell? ⟨g, k * 4 + j, none⟩ = some u := fun j u hj hu => by
      have := h.cells (g := g) rfl (k * 4 + j) u (by rw [flat_get ts k j hk hj, hu])
      rwa [addr_add] at this
    exact ⟨g, rfl, (Array.getElem?_eq_some_iff.1 hgb).1, key 0 _ (by omega) rfl, key 1 _ (by omega) rfl, key 2 _ (by omega) rfl, key 3 _ (by omega) rfl⟩

theorem cut_or (s : ByteArray) (t k : Nat) (htk : t ≤ k) (hlt : k < s.size) (hno : ∀ j, t ≤ j → j < k → s.data.toList[j]? ≠ some 10) :
    (((((s[k]'hlt).toNat : Int) != 10) = true ∧ (k : Int) < s.size - 1) ∧ ∀ j, t ≤ j → j < k + 1 → s.data.toList[j]? ≠ some 10) ∨
    (linesB (s.extract t s.size) = s.extract t (k + 1) :: linesB (s.extract (k + 1) s.size) ∧
      ((((s[k]'hlt).toNat : Int) != 10) = false ∨ ((((s[k]'hlt).toNat : Int) != 10) = true ∧ (s.size : Int) - 1 ≤ k))) := by
  have hat := str_at s k hlt
  by_cases h : s[k]'hlt = 10
  · right
    refine ⟨linesB_cut htk hlt hno (.inl (by rw [hat, h])), .inl ?_⟩
    rw [h]; rfl
  · have hb : (((s[k]'hlt).toNat : Int) != 10) = true := by
      rw [bne_iff_ne]
      intro e
      apply h
      apply UInt8.toNat_inj.1
      show _ = 10
      omega
    by_cases hk : k + 1 = s.size
    · right
      exact ⟨linesB_cut htk hlt hno (.inr hk), .inr ⟨hb, by omega⟩⟩
    · left
      refine ⟨⟨hb, by omega⟩, fun j h1 h2 => ?_⟩
      rcases Nat.lt_or_ge j k with h3 | h3
      · exact hno j h1 h3
      · obtain rfl : j = k := by omega
        rw [hat]
        intro e
        exact h (Option.some.inj e)

theorem own_none (w : World) (base : Nat) (e : TypeId) (size : Nat) : w.ownsRow base e size (.slice none 0 0) 0 [] := World.ownsRow_nil w base e size

theorem infoByte : (Tryd.prog.info? 5).map (fun i => (i.zero, i.size, i.bytes)) = some (some (.int .u8 0), 1, 1) := by kernel_rfl

theorem zeros_made (w : World) : ∃ (W : World) (S : ByteArray),
    (Instr.makeSlice 47 (.int .i64 20001) (.int .i64 20001)).run Tryd.prog w = .ok (.slice (some ⟨w.heap.size, 0, none⟩) 20001 20001) W ∧
    (convert 47 9 (.slice (some ⟨w.heap.size, 0, none⟩) 20001 20001)).run Tryd.prog W = .ok (.string S) W ∧ S.size = 20001 ∧ Below w.heap.size w W := by
  obtain ⟨i0, hi, hz0, hz1, hz2⟩ := info_parts infoByte
  have h := run_make (P := Tryd.prog) w 47 5 i0 (.int .u8 0) Tryd.underlying47 hi hz0 .i64 .i64 20001 20001 (by decide) (by decide) (by rw [hz2]; decide) (by decide)
  refine ⟨_, _, h, run_convert_bytes_arg _ _ 5 Tryd.underlying47 Tryd.underlying5 w.heap.size 0 20001 20001 (List.replicate 20001 0) List.length_replicate (fun i hi => ?_) 9 Tryd.underlying9, ?_, (Below.refl _ w).alloc (Nat.le_refl _) _⟩
  · have e1 : (List.replicate 20001 (0 : Int)).getD i 0 = 0 := by rw [List.getD_eq_getElem?_getD, List.getElem?_replicate]; split <;> rfl
    rw [e1, Nat.zero_add]
    have e2 : (madeCells (Value.cells (.int .u8 0)) ((20001 : Int).toNat * i0.size))[i]? = some (.int .u8 0) := by
      rw [hz1, madeCells]
      rw [Array.getElem?_map, Array.getElem?_range, if_pos (by show i < 20001 * 1; omega)]
      simp [Value.cells, Nat.mod_one]
    show (match (w.alloc _).heap[w.heap.size]? with | some (.cells c _ _) => if (none : Option _).isSome then none else c[i]? | _ => none) = _
    rw [World.alloc_heap_new]
    exact e2
  · rw [strOfNums_size, List.length_replicate]

set_option maxRecDepth 100000 in
set_option maxHeartbeats 1000000 in
theorem textall_any (s : ByteArray) (hs : s.size ≤ 3000) (w : World) (hv : Vars w) :
    Calls Tryd.prog 7 #[.string s] w fun e w' => e = .returned (.bool true) ∧ Below w.heap.size w w' := by
  go_enter Tryd.func7, Tryd.ntmps7
  go_wp2_with fail
  refine (awake_any _ hv).mono ?_
  rintro e w1 ⟨rfl, hB1⟩
  have hv1 := hv.below' hB1
  go_wp2_with fail
  all_goals first | (exfalso; omega) | skip
  refine (all_any s (by omega) _ hv1).mono ?_
  rintro e w2 hpost
  obtain ⟨a, n, c, nb, ve, rfl, hres, hB2⟩ := all_res hpost
  clear hpost
  go_wp2_with fail
  go_loopw [6, 7, 8, 9] (fun st ln want i wr => ∃ (pre : List ByteArray) (ts : List (ByteArray × Abc)) (t k : Nat) (v : Value), st = .int .i64 t ∧ ln = .int .i64 pre.length ∧ want = v ∧ i = .int .i64 k ∧
      (t ≤ k ∧ k ≤ s.size ∧ (k = s.size → t = s.size)) ∧ linesB s = pre ++ linesB (s.extract t s.size) ∧ pre.map readP = ts.map some ∧ (∀ j, t ≤ j → j < k → s.data.toList[j]? ≠ some 10) ∧
      Below w2.heap.size w2 wr ∧ wr.ownsRow w2.heap.size 29 4 v ts.length (ts.flatMap actCells))
    (fun _ _ _ i _ => s.size - (intOf i).toNat)
  case atStart =>
    exact ⟨[], [], 0, 0, _, rfl, rfl, rfl, rfl, ⟨Nat.le_refl _, Nat.zero_le _, fun h => h⟩, by rw [ByteArray.extract_zero_size]; rfl, rfl, fun j h1 h2 => by omega, Below.refl _ _, own_none _ _ _ _⟩
  case round =>
    obtain ⟨pre, ts, t, k, v, rfl, rfl, rfl, rfl, ⟨htk, hk, hend⟩, hpre, hts, hno, hB, hown⟩ := hrel
    have hpl : pre.length ≤ 3000 := by
      have e1 := linesB_len s
      rw [hpre, List.length_append] at e1
      omega
    have hw : wrap64 ((pre.length : Int) + 1) = ((pre.length + 1 : Nat) : Int) := by unfold wrap64; omega
    have hwk : wrap64 ((k : Int) + 1) = ((k + 1 : Nat) : Int) := by unfold wrap64; omega
    by_cases hlt : k < s.size
    · rcases cut_or s t k htk hlt hno with ⟨⟨hb1, hb2⟩, hno'⟩ | ⟨hcut, hb⟩
      · go_wp2_with fail
        go_roundw
        case rel => exact ⟨pre, ts, t, k + 1, _, rfl, rfl, rfl, by simp, ⟨by omega, by omega, by omega⟩, hpre, hts, hno', hB, hown⟩
        case measure => simp [intOf]; omega
      · cases hx : readP (s.extract t (k + 1)) with
        | none =>
          have hpx : pre ++ [s.extract t (k + 1)] <+: linesB s := ⟨linesB (s.extract (k + 1) s.size), by rw [hpre, hcut]; simp⟩
          have hsz1 : (s.extract t (k + 1)).size ≤ 100000 := by rw [ByteArray.size_extract]; omega
          obtain ⟨rfl, rfl, hnb, hE2⟩ : a = none ∧ n = 0 ∧ nb = ((pre.length + 1 : Nat) : Int) ∧ IsErr w2 2 ve := by
            rcases hres with ⟨ts', h1, _⟩ | ⟨p, x, ts', h1, h2, h3, ha, hn, hc, hnb, he⟩
            · exact (no_bad hpx h1 hx).elim
            · exact ⟨ha, hn, by rw [hnb, first_bad h1 hpx h2 hts h3 hx], he⟩
          have hvr : Vars wr := (hv1.below' hB2).below' hB
          have hBr := hB1.trans ((hB2.mono hB1.size).trans (hB.mono (Nat.le_trans hB1.size hB2.size)))
          rcases hb with hb | ⟨hb, hb'⟩
          all_goals
            go_wp2_with fail
            refine (read_none _ hsz1 hx wr hvr).mono ?_
            rintro e w3 ⟨ev, rfl, he3, hB3⟩
            go_wp2_with fail
            have hB4 : Below wr.heap.size wr (w3.alloc (Obj.cells #[.string ⟨#[]⟩, .int .i64 0, .int .i64 0, .int .i64 0] 29)) := hB3.alloc hB3.size _
            have he4 := he3.below' ((Below.refl _ w3).alloc (Nat.le_refl _) (Obj.cells #[.string ⟨#[]⟩, .int .i64 0, .int .i64 0, .int .i64 0] 29))
            obtain ⟨W4, hW4⟩ : ∃ W4, w3.alloc (Obj.cells #[.string ⟨#[]⟩, .int .i64 0, .int .i64 0, .int .i64 0] 29) = W4 := ⟨_, rfl⟩
            rw [hW4] at hB4 he4 ⊢
            have hv4 := hvr.below' hB4
            refine (num_err ev 2 W4 hv4.err hv4.size he4).mono ?_
            rintro e w5 ⟨rfl, hB5⟩
            have hv5 := hv4.below' hB5
            have hE5 := (((hE2.below' hB).below' hB4).below' hB5)
            go_wp2_with fail
            refine (num_err ve 2 w5 hv5.err hv5.size hE5).mono ?_
            rintro e w6 ⟨rfl, hB6⟩
            go_wp2_with fail
            go_ret
            refine ⟨rfl, ?_⟩
            have b4 := hBr.trans (hB4.mono hBr.size)
            have b5 := b4.trans (hB5.mono b4.size)
            exact b5.trans (hB6.mono b5.size)
        | some r =>
          obtain ⟨nm, z⟩ := r
          have hpl1 : pre.length + 1 ≤ 3000 := by
            have e1 := linesB_len s
            rw [hpre, hcut, List.length_append, List.length_cons] at e1
            omega
          have htl : ts.length = pre.length := by have := congrArg List.length hts; simpa using this.symm
          have hsz1 : (s.extract t (k + 1)).size ≤ 100000 := by rw [ByteArray.size_extract]; omega
          have hml : ts.length + 1 ≤ maxLen := by
            have h20 : (20001 : Nat) ≤ maxLen := by decide
            omega
          have hvr : Vars wr := (hv1.below' hB2).below' hB
          obtain ⟨i0, hi, hz0, hz1, hz2⟩ := info_parts infoAct
          rcases hb with hb | ⟨hb, hb'⟩
          all_goals
            go_wp2_with fail
            refine (read_some _ nm z hsz1 hx wr hvr).mono ?_
            rintro e w3 ⟨rfl, hB3⟩
            go_wp2_with fail
            refine (num_nil _).mono ?_
            rintro e w4 ⟨rfl, rfl⟩
            have hby : (ts.length + 1) * 40 ≤ 140737488355328 := by omega
            clear htl
            have hoA := (own_below hown hB3).alloc (Obj.cells #[.string nm, .int .i64 z.a, .int .i64 z.b, .int .i64 z.c] 29)
            have hn4 := four_new (w3.alloc (Obj.cells #[.string nm, .int .i64 z.a, .int .i64 z.b, .int .i64 z.c] 29)) (.string nm) (.int .i64 z.a) (.int .i64 z.b) (.int .i64 z.c) 29
            rw [World.size_alloc] at hn4
            have hBs := hB.size
            have hB3s := hB3.size
            have hb5 : w2.heap.size ≤ ((w3.alloc (Obj.cells #[.string nm, .int .i64 z.a, .int .i64 z.b, .int .i64 z.c] 29)).alloc (Obj.cells #[.string nm, .int .i64 z.a, .int .i64 z.b, .int .i64 z.c] 29)).heap.size := by simp; omega
            go_wp2_with (at_builtin; go_loud (refine wpList_append_own _ rfl _ _ 44 rfl w2.heap.size 29 i0 (.agg #[.string ⟨#[]⟩, .int .i64 0, .int .i64 0, .int .i64 0]) 4 40 Tryd.underlying44 hi hz0 hz1 hz2 rfl (by decide) u8 ts.length (ts.flatMap actCells) rfl (hoA.alloc _) ⟨w3.heap.size + 1, 0, none⟩ 1 1 (actCells (nm, z)) rfl rfl hn4 (by simp [actCells, Value.oneCell']) hml hby hb5 ?_); intro v' w5 hown' hgrow _)
            have hBw5 : Below w2.heap.size w2 w5 := by
              refine (((hB.trans (hB3.mono hBs)).alloc (by omega) _).alloc (by simp; omega) _).grown hgrow (by simp; omega) fun j ej => ?_
              rcases hoA.2 with ⟨rfl, _⟩ | ⟨g, cap, cur, rfl, hbg, _, _⟩
              · simp [Value.ownBlock] at ej
              · obtain rfl : g = j := by simpa [Value.ownBlock] using ej
                exact hbg
            go_roundw
            case rel =>
              refine ⟨pre ++ [s.extract t (k + 1)], ts ++ [(nm, z)], k + 1, k + 1, v', by simp, by simp, rfl, by simp, ⟨Nat.le_refl _, by omega, fun h => h⟩, by rw [hpre, hcut]; simp, by simp [hts, hx], fun j h1 h2 => by omega, hBw5, ?_⟩
              rw [List.flatMap_append, List.length_append]
              simpa using hown'
            case measure => simp [intOf]; omega
    · have hke : k = s.size := by omega
      have hte := hend hke
      subst hke
      subst hte
      have hall : linesB s = pre := by rw [hpre, linesB_nil (by rw [ByteArray.size_extract]; omega), List.append_nil]
      obtain ⟨rfl, rfl, hn, hacts⟩ : nb = 0 ∧ ve = .nilIface ∧ n = ts.length ∧ w2.ownsRow w1.heap.size 29 4 (.slice a n c) ts.length (ts.flatMap actCells) := by
        rcases hres with ⟨ts', h1, h2, h3, h4, h5⟩ | ⟨p, x, ts', h1, h2, h3, _⟩
        · rw [hall, hts] at h1
          have : ts = ts' := by
            have h6 := congrArg (List.filterMap id) h1
            simpa [List.filterMap_map] using h6
          subst this
          exact ⟨h2, h3, h4, h5⟩
        · rw [hall] at h1
          exact (no_bad h1 hts h3).elim
      subst hn
      obtain ⟨a', c', rfl⟩ : ∃ (a' : Option Addr) (c' : Nat), u8 = .slice a' ts.length c' := by
        rcases hown.2 with ⟨rfl, h0⟩ | ⟨g, cap, cur, rfl, _⟩
        · exact ⟨none, 0, by rw [h0]⟩
        · exact ⟨_, _, rfl⟩
      obtain ⟨w7, hw7⟩ : ∃ w7, w7 = wr := ⟨_, rfl⟩
      subst hw7
      go_wp2_with fail
      go_loopw [12] (fun i wq => ∃ k : Nat, i = .int .i64 k ∧ k ≤ ts.length ∧ Below w7.heap.size w7 wq) (fun i _ => ts.length - (intOf i).toNat)
      case atStart => exact ⟨0, rfl, Nat.zero_le _, Below.refl _ _⟩
      case round =>
        obtain ⟨k, rfl, hk2, hBq⟩ := hrel
        by_cases hlt2 : k < ts.length
        · obtain ⟨g1, hg1, hl1, p0, p1, p2, p3⟩ := act_at hacts hlt2
          obtain ⟨g2, hg2, hl2, q0, q1, q2, q3⟩ := act_at hown hlt2
          subst hg1
          subst hg2
          have hl1' : g1 < w7.heap.size := Nat.lt_of_lt_of_le hl1 hB.size
          replace p0 := (hBq.cell (p := ⟨g1, k * 4, none⟩) hl1').trans ((hB.cell (p := ⟨g1, k * 4, none⟩) hl1).trans p0)
          replace p1 := (hBq.cell (p := ⟨g1, k * 4 + 1, none⟩) hl1').trans ((hB.cell (p := ⟨g1, k * 4 + 1, none⟩) hl1).trans p1)
          replace p2 := (hBq.cell (p := ⟨g1, k * 4 + 2, none⟩) hl1').trans ((hB.cell (p := ⟨g1, k * 4 + 2, none⟩) hl1).trans p2)
          replace p3 := (hBq.cell (p := ⟨g1, k * 4 + 3, none⟩) hl1').trans ((hB.cell (p := ⟨g1, k * 4 + 3, none⟩) hl1).trans p3)
          replace q0 := (hBq.cell (p := ⟨g2, k * 4, none⟩) hl2).trans q0
          replace q1 := (hBq.cell (p := ⟨g2, k * 4 + 1, none⟩) hl2).trans q1
          replace q2 := (hBq.cell (p := ⟨g2, k * 4 + 2, none⟩) hl2).trans q2
          replace q3 := (hBq.cell (p := ⟨g2, k * 4 + 3, none⟩) hl2).trans q3
          have hll : (ts.length : Int) ≤ 3000 := by
            have := congrArg List.length hts
            simp at this
            omega
          go_wp2_with fail
          go_quiet (fail)
          go_wp2_with fail
          go_roundw
          case rel => exact ⟨k + 1, by simp, by omega, hBq.trans (below_drewN _ _ _)⟩
          case measure => simp [intOf]; omega
        · obtain ⟨W8, S, hmk, hcv, hS, hB8⟩ := zeros_made wr
          have hS' := Lib.hid hS; clear hS
          go_wp2_with fail
          have hv8 : Vars W8 := ((((hv1.below' hB2).below' hB).below' hBq).below' hB8)
          refine (all_long S (by rw [hS'.out]; decide) _).mono ?_
          rintro e w9 ⟨v9, rfl, hE9, hB9⟩
          clear hmk hcv
          go_wp2_with fail
          refine (num_nil _).mono ?_
          rintro e w10 ⟨rfl, rfl⟩
          go_wp2_with fail
          refine (num_err v9 8 _ (hv8.below' hB9).err (hv8.below' hB9).size hE9).mono ?_
          rintro e w11 ⟨rfl, hB11⟩
          go_wp2_with fail
          go_ret
          refine ⟨rfl, ?_⟩
          have hBr := hB1.trans ((hB2.mono hB1.size).trans (hB.mono (Nat.le_trans hB1.size hB2.size)))
          have b4 := hBr.trans (hBq.mono hBr.size)
          have b5 := b4.trans (hB8.mono b4.size)
          have b6 := b5.trans (hB9.mono b5.size)
          exact b6.trans (hB11.mono b6.size)

theorem textall_law (s : ByteArray) (w : World) (hv : Vars w) :
    Calls Tryd.prog 7 #[.string s] w fun e w' => e = .returned (.bool true) ∧ Below w.heap.size w w' := by
  by_cases hs : s.size ≤ 3000
  · exact textall_any s hs w hv
  · go_enter Tryd.func7, Tryd.ntmps7
    go_wp2_with fail
    refine (awake_any _ hv).mono ?_
    rintro e w1 ⟨rfl, hB1⟩
    have hv1 := hv.below' hB1
    go_wp2_with fail
    all_goals first | (exfalso; omega) | skip
    refine (awake_any _ hv1).mono ?_
    rintro e w2 ⟨rfl, hB2⟩
    go_wp2_with fail
    go_ret
    exact ⟨rfl, hB1.trans (hB2.mono hB1.size)⟩
end Go.Proofs.YtedgoagonagdjaaDoor
