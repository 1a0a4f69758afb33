/-
  The law TextJoins, walked.
-/
import Derived.Test.YtedgoagonagdjaaDoorActs
import Derived.Test.YtedgoagonagdjaaDoorJoinsP
import Derived.Test.YtedgoagonagdjaaDoorTextAll
namespace Go.Proofs.YtedgoagonagdjaaDoor
open Go.RowKit Go.Shelf Go.Sort

theorem infoRefAct : (Tryd.prog.info? 23).map (fun i => (i.zero, i.size, i.bytes)) = some (some (.agg #[.string ⟨#[]⟩, .int .i64 0, .int .i64 0, .int .i64 0]), 4, 40) := by kernel_rfl

theorem row_at {w : World} {e : TypeId} {base : Nat} {v : Value} {ts : List (ByteArray × Abc)} {n : Nat} (h : w.ownsRow base e 4 v n (ts.flatMap actCells)) {k : Nat} (hk : k < ts.length) :
    ∃ g c, v = .slice (some ⟨g, 0, none⟩) n c ∧ g < w.heap.size ∧ base ≤ g ∧ w.cell? ⟨g, k * 4, none⟩ = some (.string ts[k].1) ∧ w.cell? ⟨g, k * 4 + 1, none⟩ = some (.int .i64 ts[k].2.a) ∧ w.cell? ⟨g, k * 4 + 2, none⟩ = some (.int .i64 ts[k].2.b) ∧ w.cell? ⟨g, k * 4 + 3, none⟩ = some (.int .i64 ts[k].2.c) := by
  rcases h.2 with ⟨_, h0⟩ | ⟨g, cap, cur, e, hb, hgb, _⟩
  · rename_i e0
    have := h.1
    rw [h0] at this
    have h1 : (ts.flatMap actCells).length = ts.length * 4 := by
      clear h h0 this hk
      induction ts with
      | nil => rfl
      | cons z zs ih => rw [List.flatMap_cons, List.length_append, ih]; simp [actCells]; omega
    omega
  · subst e
    have key : ∀ j u, j < 4 → (actCells ts[k])[j]? = some u → w.cell? ⟨g, k * 4 + j, none⟩ = some u := fun j u hj hu => by
      have := h.cells (g := g) rfl (k * 4 + j) u (by rw [flat_get4 ts k j hk hj, hu])
      rwa [addr_add] at this
    exact ⟨g, _, rfl, (Array.getElem?_eq_some_iff.1 hgb).1, hb, key 0 _ (by omega) rfl, key 1 _ (by omega) rfl, key 2 _ (by omega) rfl, key 3 _ (by omega) rfl⟩

theorem after_lit {w w1 w3 : World} {t : TypeId} (hB1 : Below w.heap.size w w1) (hg : (w1.alloc (.cells #[] t)).grownBy w3 (Value.slice (some ⟨w1.heap.size, 0, none⟩) 0 0).ownBlock) : Below w.heap.size w w3 := by
  have h1 := hB1.size
  refine (hB1.alloc h1 (.cells #[] t)).grown hg (by simp; omega) fun k hk => ?_
  have : w1.heap.size = k := by simpa [Value.ownBlock] using hk
  omega

/-- what the first loop has made of k acts: the lines, the acts, the text -/
structure JR (ls : List ByteArray) (ts : List (ByteArray × Abc)) (S : ByteArray) (k : Nat) : Prop where
  reads : ls.map readP = ts.map some
  ok : ∀ l ∈ ls, LineOk l
  flat : S.data.toList = ls.flatMap (·.data.toList)
  size : S.size ≤ 18 * k
  len : ts.length ≤ k

theorem JR.skip {ls : List ByteArray} {ts : List (ByteArray × Abc)} {S : ByteArray} {k : Nat} (h : JR ls ts S k) : JR ls ts S (k + 1) :=
  ⟨h.reads, h.ok, h.flat, by have := h.size; omega, by have := h.len; omega⟩

theorem JR.more {ls : List ByteArray} {ts : List (ByteArray × Abc)} {S s : ByteArray} {k : Nat} (h : JR ls ts S k) {nm : ByteArray} {t : Abc} (hs : layP nm t = some s) : JR (ls ++ [s]) (ts ++ [(nm, t)]) (S ++ s) (k + 1) := by
  have hl := lay_line hs
  refine ⟨?_, fun l hm => ?_, ?_, ?_, ?_⟩
  · rw [List.map_append, h.reads, List.map_append]; simp [layP_read hs]
  · rcases List.mem_append.1 hm with hm | hm
    · exact h.ok l hm
    · rw [List.mem_singleton.1 hm]; exact hl
  · rw [ByteArray.data_append, Array.toList_append, h.flat, List.flatMap_append]; simp
  · have := h.size; have := line_size hl; rw [ByteArray.size_append]; omega
  · have := h.len; simp; omega

theorem after_two {w w1 w3 w4 : World} {v3 : Value} (hB : Below w.heap.size w w3) (h1 : w.heap.size ≤ w1.heap.size) (hat : ∃ k, v3.ownBlock = some k ∧ w1.heap.size ≤ k) (hg : w3.grownBy w4 v3.ownBlock) : Below w.heap.size w w4 :=
  hB.grown hg hB.size fun k hk => by
    obtain ⟨j, hj, hle⟩ := hat
    rw [hj] at hk
    have : j = k := by simpa using hk
    omega

theorem row_slice {w : World} {e : TypeId} {base : Nat} {v : Value} {n : Nat} {xs : List Value} (h : w.ownsRow base e 4 v n xs) : ∃ A c, v = .slice A n c := by
  rcases h.2 with ⟨rfl, h0⟩ | ⟨g, cap, cur, e, _⟩
  · exact ⟨none, 0, by rw [h0]⟩
  · exact ⟨_, _, e⟩

theorem at_lit {w1 : World} {v3 : Value} {t : TypeId} (h : v3.ownBlock = (Value.slice (some ⟨w1.heap.size, 0, none⟩) 0 0).ownBlock ∨ v3.ownBlock = some (w1.alloc (.cells #[] t)).heap.size) : ∃ k, v3.ownBlock = some k ∧ w1.heap.size ≤ k := by
  rcases h with h | h
  · exact ⟨_, h, Nat.le_refl _⟩
  · exact ⟨_, h, by simp⟩

set_option maxRecDepth 100000 in
set_option maxHeartbeats 1000000 in
theorem joins_yes (A1 A2 : Option Addr) (zs1 zs2 : List (ByteArray × Abc)) (c1 c2 : Nat) (w : World) (hv : Vars w) (hl1 : zs1.length ≤ 60) (hl2 : zs2.length ≤ 60)
    (hz : ∀ z ∈ zs1 ++ zs2, z.1.size ≤ 50 ∧ z.2.ok) (ha1 : ActsAt w w.heap.size A1 zs1) (ha2 : ActsAt w w.heap.size A2 zs2)
    (hs1 : SmallSays (.slice A1 zs1.length c1) 1 w) (hs2 : SmallSays (.slice A2 zs2.length c2) 1 w) :
    Calls Tryd.prog 8 #[.slice A1 zs1.length c1, .slice A2 zs2.length c2] w fun e w' => e = .returned (.bool true) ∧ Below w.heap.size w w' := by
  have hz1 := Lib.hid hz
  have ha1' := Lib.hid ha1
  have ha2' := Lib.hid ha2
  have hs1' := Lib.hid hs1
  have hs2' := Lib.hid hs2
  clear hz ha1 ha2 hs1 hs2
  obtain ⟨i0, hi, hi0, hi1, hi2⟩ := info_parts infoRefAct
  have h20 : (20001 : Nat) ≤ maxLen := by decide
  go_enter Tryd.func8, Tryd.ntmps8
  go_wp2_with fail
  refine (awake_any _ hv).mono ?_
  rintro e w1 ⟨rfl, hB1⟩
  have hv1 := hv.below' hB1
  go_wp2_with fail
  refine (hs1'.out w1 hB1).mono ?_
  rintro e w' ⟨rfl, rfl⟩
  go_wp2_with fail
  have hmade : (w1.alloc (.cells #[] 23)).ownsRow w1.heap.size 23 4 (.slice (some ⟨w1.heap.size, 0, none⟩) 0 0) 0 [] := World.ownsRow_made w1 #[] 0 (Nat.le_refl _) (by decide) (by simp)
  have hmade' := Lib.hid hmade
  clear hmade
  have hz40 : ((0 + zs1.length) * 40 ≤ 140737488355328 ∧ (0 + zs1.length + zs2.length) * 40 ≤ 140737488355328) := by omega
  have hz63 : 0 + zs1.length ≤ maxLen ∧ 0 + zs1.length + zs2.length ≤ maxLen := by omega
  have hBa : Below w.heap.size w (w1.alloc (.cells #[] 23)) := hB1.alloc hB1.size _
  refine (hs2'.out w1 hB1).mono ?_
  rintro e w' ⟨rfl, rfl⟩
  go_wp2_with (first
    | (at_builtin; (refine wpList_append_acts _ rfl (.tmp 28) (.tmp 29) 48 rfl w1.heap.size 23 i0 (.agg #[.string ⟨#[]⟩, .int .i64 0, .int .i64 0, .int .i64 0]) 40 Tryd.underlying48 hi hi0 hi1 hi2 rfl (.slice (some ⟨w1.heap.size, 0, none⟩) 0 0) 0 [] rfl hmade'.out w.heap.size A1 zs1 c1 rfl (ha1'.out.below hBa) hz63.1 hz40.1 (by simp) ?_; intro v3 w3 ho3 hg3 hat3; have hB3 := after_lit hB1 hg3; have hat3' := at_lit hat3; have hsz3 : w1.heap.size ≤ w3.heap.size := (have := hg3.size; by simp at this; omega); have ha2w := ha2'.out.below hB3; clear hg3 hat3))
    | (at_builtin; go_loud (refine wpList_append_acts _ rfl (.tmp 30) (.tmp 31) 48 rfl w1.heap.size 23 i0 (.agg #[.string ⟨#[]⟩, .int .i64 0, .int .i64 0, .int .i64 0]) 40 Tryd.underlying48 hi hi0 hi1 hi2 rfl v3 (0 + zs1.length) ([] ++ zs1.flatMap actCells) rfl ho3 w.heap.size A2 zs2 c2 rfl ha2w hz63.2 hz40.2 hsz3 ?_; intro v4 w4 ho4 hg4 hat4)))
  have hB4 : Below w.heap.size w w4 := after_two hB3 hB1.size hat3' hg4
  obtain ⟨zs, hzs⟩ : ∃ zs, zs = zs1 ++ zs2 := ⟨_, rfl⟩
  have hlen : zs.length ≤ 120 := by rw [hzs, List.length_append]; omega
  have hoZ : w4.ownsRow w1.heap.size 23 4 v4 zs.length (zs.flatMap actCells) := by
    rw [hzs, List.length_append, List.flatMap_append]; simpa using ho4
  have hzok : ∀ z ∈ zs, z.1.size ≤ 50 ∧ z.2.ok := by rw [hzs]; exact hz1.out
  clear ho3 ho4 hg4 hat4 hat3' ha2w hs1' hs2' hz63 hz40 hBa hmade' hzs hz1 ha1' ha2' hsz3 hB3
  obtain ⟨A4, c4, rfl⟩ := row_slice hoZ
  have hv4 := hv.below' hB4
  have hzok' := Lib.hid hzok
  clear hzok
  go_wp2_with fail
  go_loopw [5, 6, 8] (fun sv want i wr => ∃ (k : Nat) (ls : List ByteArray) (ts : List (ByteArray × Abc)) (S : ByteArray) (v : Value), sv = .string S ∧ want = v ∧ i = .int .i64 k ∧ k ≤ zs.length ∧ JR ls ts S k ∧
      Below w4.heap.size w4 wr ∧ wr.ownsRow w4.heap.size 29 4 v ts.length (ts.flatMap actCells)) (fun _ _ i _ => zs.length - (intOf i).toNat)
  case atStart => exact ⟨0, [], [], ⟨#[]⟩, _, rfl, rfl, rfl, Nat.zero_le _, ⟨rfl, (fun l h => by simp at h), rfl, Nat.le_refl _, Nat.le_refl _⟩, Below.refl _ _, own_none _ _ _ _⟩
  case round =>
    obtain ⟨k, ls, ts, S, v, rfl, rfl, rfl, hk, hJ, hB, hown⟩ := hrel
    by_cases hlt : k < zs.length
    · obtain ⟨g, c, e4, hg, _, p0, p1, p2, p3⟩ := row_at hoZ hlt
      have HRD : Hid (∀ W, Below w4.heap.size w4 W → W.cell? ⟨g, k * 4, none⟩ = some (.string zs[k].1) ∧ W.cell? ⟨g, k * 4 + 1, none⟩ = some (.int .i64 zs[k].2.a) ∧ W.cell? ⟨g, k * 4 + 2, none⟩ = some (.int .i64 zs[k].2.b) ∧ W.cell? ⟨g, k * 4 + 3, none⟩ = some (.int .i64 zs[k].2.c)) :=
        Lib.hid fun W hb => ⟨(hb.cell (p := ⟨g, k * 4, none⟩) hg).trans p0, (hb.cell (p := ⟨g, k * 4 + 1, none⟩) hg).trans p1, (hb.cell (p := ⟨g, k * 4 + 2, none⟩) hg).trans p2, (hb.cell (p := ⟨g, k * 4 + 3, none⟩) hg).trans p3⟩
      clear p0 p1 p2 p3
      obtain ⟨rfl, rfl⟩ : A4 = some ⟨g, 0, none⟩ ∧ c4 = c := by simpa using e4
      clear e4
      have hzk := hzok'.out zs[k] (List.getElem_mem hlt)
      obtain ⟨q0, q1, q2, q3⟩ := HRD.out _ hB
      go_wp2_with fail
      clear q0 q1 q2 q3
      have hvr : Vars wr := hv4.below' hB
      refine (of_any _ _ _ _ _).mono ?_
      rintro e w5 ⟨rfl, hB5⟩
      have hv5 := hvr.below' hB5
      go_wp2_with fail
      refine (lay_any _ zs[k].2 hzk.2 (by omega) _ hv5).mono ?_
      rintro e w6 (⟨s, hs, rfl, hB6⟩ | ⟨hs, ve, rfl, hE6, hB6⟩)
      · have hss : ¬ 9223372036854775807 < S.size + s.size := by
          have := line_size (lay_line hs); have := hJ.size; omega
        have HJ := Lib.hid (hJ.more hs)
        have htl := hJ.len
        clear hs hJ
        have hB46 : Below w4.heap.size w4 w6 := hB.trans ((hB5.mono hB.size).trans (hB6.mono (Nat.le_trans hB.size hB5.size)))
        go_wp2_with fail
        refine (num_nil _).mono ?_
        rintro e w7 ⟨rfl, rfl⟩
        obtain ⟨q0, q1, q2, q3⟩ := HRD.out _ hB46
        go_wp2_with fail
        refine (of_any _ _ _ _ _).mono ?_
        rintro e w8 ⟨rfl, hB8⟩
        have hB48 : Below w4.heap.size w4 w8 := hB46.trans (hB8.mono hB46.size)
        have hown8 := own_below (own_below (own_below hown hB5) hB6) hB8
        have hn4 := four_new w8 (.string zs[k].1) (.int .i64 zs[k].2.a) (.int .i64 zs[k].2.b) (.int .i64 zs[k].2.c) 29
        clear q0 q1 q2 q3 hss
        have hml : ts.length + 1 ≤ maxLen ∧ (ts.length + 1) * 40 ≤ 140737488355328 := by omega
        obtain ⟨i1, hj, hj0, hj1, hj2⟩ := info_parts infoAct
        have hb5 : w4.heap.size ≤ (w8.alloc (Obj.cells #[.string zs[k].1, .int .i64 zs[k].2.a, .int .i64 zs[k].2.b, .int .i64 zs[k].2.c] 29)).heap.size := by have := hB48.size; simp; omega
        go_wp2_with (at_builtin; go_loud (refine wpList_append_own _ rfl _ _ 44 rfl w4.heap.size 29 i1 (.agg #[.string ⟨#[]⟩, .int .i64 0, .int .i64 0, .int .i64 0]) 4 40 Tryd.underlying44 hj hj0 hj1 hj2 rfl (by decide) u6 ts.length (ts.flatMap actCells) rfl (hown8.alloc _) ⟨w8.heap.size, 0, none⟩ 1 1 (actCells (zs[k].1, zs[k].2)) rfl rfl hn4 (by simp [actCells, Value.oneCell']) hml.1 hml.2 hb5 ?_); intro v' w9 hown9 hgrow _)
        have hB49 : Below w4.heap.size w4 w9 := by
          refine (hB48.alloc hB48.size _).grown hgrow hb5 fun j ej => ?_
          rcases hown8.2 with ⟨rfl, _⟩ | ⟨g, cap, cur, rfl, hbg, _, _⟩
          · simp [Value.ownBlock] at ej
          · obtain rfl : g = j := by simpa [Value.ownBlock] using ej
            exact hbg
        go_roundw
        case rel =>
          refine ⟨k + 1, ls ++ [s], ts ++ [(zs[k].1, zs[k].2)], S ++ s, v', rfl, rfl, by simp, by omega, HJ.out, hB49, ?_⟩
          rw [List.flatMap_append, List.length_append]
          simpa using hown9
        case measure => simp [intOf]; omega
      · have hv6 := hv5.below' hB6
        clear hs
        go_wp2_with fail
        refine (num_err ve 1 _ hv6.err hv6.size hE6).mono ?_
        rintro e w7 ⟨rfl, hB7⟩
        have hB47 : Below w4.heap.size w4 w7 := hB.trans ((hB5.mono hB.size).trans ((hB6.mono (Nat.le_trans hB.size hB5.size)).trans (hB7.mono (Nat.le_trans hB.size (Nat.le_trans hB5.size hB6.size)))))
        have hown7 := own_below (own_below (own_below hown hB5) hB6) hB7
        go_wp2_with fail
        go_roundw
        case rel => exact ⟨k + 1, ls, ts, S, _, rfl, rfl, by simp, by omega, hJ.skip, hB47, hown7⟩
        case measure => simp [intOf]; omega
    · have hvr : Vars wr := hv4.below' hB
      have hke : k = zs.length := by omega
      have hS20 : S.size ≤ 20000 := by have := hJ.size; omega
      have htl : ts.length ≤ 120 := by have := hJ.len; omega
      have hlj := linesB_join hJ.ok hJ.flat
      have hrd := Lib.hid hJ.reads
      have hlj' := Lib.hid hlj
      obtain ⟨v', hv'⟩ : ∃ v', v' = u6 := ⟨_, rfl⟩
      obtain ⟨A6, c6, e6⟩ := row_slice hown
      subst hv'
      subst e6
      clear hJ hlj hk
      subst hke
      go_wp2_with fail
      refine (all_any S hS20 _ hvr).mono ?_
      rintro e w7 hpost
      obtain ⟨a, n, c, nb, ve, rfl, hres, hB7⟩ := all_res hpost
      clear hpost
      obtain ⟨rfl, rfl, hn, hacts⟩ : nb = 0 ∧ ve = .nilIface ∧ n = ts.length ∧ w7.ownsRow wr.heap.size 29 4 (.slice a n c) ts.length (ts.flatMap actCells) := by
        rcases hres with ⟨ts', h1, h2, h3, h4, h5⟩ | ⟨p, x, ts', h1, h2, h3, _⟩
        · rw [hlj'.out, hrd.out] at h1
          have : ts = ts' := by
            have h6 := congrArg (List.filterMap id) h1
            simpa [List.filterMap_map] using h6
          subst this
          exact ⟨h2, h3, h4, h5⟩
        · rw [hlj'.out] at h1
          exact (no_bad h1 hrd.out h3).elim
      subst hn
      have hown7 := own_below hown hB7
      have hB47 : Below w.heap.size w w7 := hB4.trans ((hB.mono hB4.size).trans (hB7.mono (Nat.le_trans hB4.size hB.size)))
      clear hres hown
      go_wp2_with fail
      go_loopw [14] (fun i wq => ∃ k : Nat, i = .int .i64 k ∧ k ≤ ts.length ∧ Below w7.heap.size w7 wq) (fun i _ => ts.length - (intOf i).toNat)
      case atStart => exact ⟨0, rfl, Nat.zero_le _, Below.refl _ _⟩
      case round =>
        obtain ⟨k, rfl, hk2, hBq⟩ := hrel
        by_cases hlt2 : k < ts.length
        · obtain ⟨g1, hg1, hl1, p0, p1, p2, p3⟩ := act_at hacts hlt2
          obtain ⟨g2, hg2, hl2, q0, q1, q2, q3⟩ := act_at hown7 hlt2
          subst hg1
          subst hg2
          replace p0 := (hBq.cell (p := ⟨g1, k * 4, none⟩) hl1).trans p0
          replace p1 := (hBq.cell (p := ⟨g1, k * 4 + 1, none⟩) hl1).trans p1
          replace p2 := (hBq.cell (p := ⟨g1, k * 4 + 2, none⟩) hl1).trans p2
          replace p3 := (hBq.cell (p := ⟨g1, k * 4 + 3, none⟩) hl1).trans p3
          replace q0 := (hBq.cell (p := ⟨g2, k * 4, none⟩) hl2).trans q0
          replace q1 := (hBq.cell (p := ⟨g2, k * 4 + 1, none⟩) hl2).trans q1
          replace q2 := (hBq.cell (p := ⟨g2, k * 4 + 2, none⟩) hl2).trans q2
          replace q3 := (hBq.cell (p := ⟨g2, k * 4 + 3, none⟩) hl2).trans q3
          have hll : (ts.length : Int) ≤ 3000 := by omega
          go_wp2_with fail
          go_quiet (fail)
          go_wp2_with fail
          go_roundw
          case rel => exact ⟨k + 1, by simp, by omega, hBq.trans (below_drewN _ _ _)⟩
          case measure => simp [intOf]; omega
        · go_wp2_with fail
          refine (num_nil _).mono ?_
          rintro e w10 ⟨rfl, rfl⟩
          go_wp2_with fail
          go_ret
          exact ⟨rfl, hB47.trans (hBq.mono hB47.size)⟩

/-- one of the two isn't small: awake alone -/
theorem joins_no1 (v1 v2 : Value) (w : World) (hv : Vars w) (hs1 : SmallSays v1 0 w) :
    Calls Tryd.prog 8 #[v1, v2] w fun e w' => e = .returned (.bool true) ∧ Below w.heap.size w w' := by
  have hs1' := Lib.hid hs1
  clear hs1
  go_enter Tryd.func8, Tryd.ntmps8
  go_wp2_with fail
  refine (awake_any _ hv).mono ?_
  rintro e w1 ⟨rfl, hB1⟩
  have hv1 := hv.below' hB1
  go_wp2_with fail
  refine (hs1'.out w1 hB1).mono ?_
  rintro e w' ⟨rfl, rfl⟩
  go_wp2_with fail
  refine (awake_any _ hv1).mono ?_
  rintro e w2 ⟨rfl, hB2⟩
  go_wp2_with fail
  go_ret
  exact ⟨rfl, hB1.trans (hB2.mono hB1.size)⟩

theorem joins_no2 (v1 v2 : Value) (w : World) (hv : Vars w) (hs1 : SmallSays v1 1 w) (hs2 : SmallSays v2 0 w) :
    Calls Tryd.prog 8 #[v1, v2] w fun e w' => e = .returned (.bool true) ∧ Below w.heap.size w w' := by
  have hs1' := Lib.hid hs1
  have hs2' := Lib.hid hs2
  clear hs1 hs2
  go_enter Tryd.func8, Tryd.ntmps8
  go_wp2_with fail
  refine (awake_any _ hv).mono ?_
  rintro e w1 ⟨rfl, hB1⟩
  have hv1 := hv.below' hB1
  go_wp2_with fail
  refine (hs1'.out w1 hB1).mono ?_
  rintro e w' ⟨rfl, rfl⟩
  go_wp2_with fail
  refine (hs2'.out w1 hB1).mono ?_
  rintro e w' ⟨rfl, rfl⟩
  go_wp2_with fail
  refine (awake_any _ hv1).mono ?_
  rintro e w2 ⟨rfl, hB2⟩
  go_wp2_with fail
  go_ret
  exact ⟨rfl, hB1.trans (hB2.mono hB1.size)⟩

/-- any two slices of acts -/
theorem joins_any (A1 A2 : Option Addr) (l1 l2 c1 c2 : Nat) (w : World) (hv : Vars w)
    (h1 : l1 ≤ 60 → ∃ zs : List (ByteArray × Abc), zs.length = l1 ∧ (∀ z ∈ zs, z.2.ok) ∧ ActsAt w w.heap.size A1 zs)
    (h2 : l2 ≤ 60 → ∃ zs : List (ByteArray × Abc), zs.length = l2 ∧ (∀ z ∈ zs, z.2.ok) ∧ ActsAt w w.heap.size A2 zs) :
    Calls Tryd.prog 8 #[.slice A1 l1 c1, .slice A2 l2 c2] w fun e w' => e = .returned (.bool true) ∧ Below w.heap.size w w' := by
  rcases Nat.lt_or_ge 60 l1 with g1 | g1
  · exact joins_no1 _ _ w hv (small_long A1 l1 c1 g1 w)
  obtain ⟨zs1, rfl, o1, a1⟩ := h1 g1
  rcases small_any A1 zs1 c1 w g1 a1 with ⟨n1, s1⟩ | s1
  · rcases Nat.lt_or_ge 60 l2 with g2 | g2
    · exact joins_no2 _ _ w hv s1 (small_long A2 l2 c2 g2 w)
    obtain ⟨zs2, rfl, o2, a2⟩ := h2 g2
    rcases small_any A2 zs2 c2 w g2 a2 with ⟨n2, s2⟩ | s2
    · exact joins_yes A1 A2 zs1 zs2 c1 c2 w hv g1 g2 (fun z hz => by
        rcases List.mem_append.1 hz with hz | hz
        · exact ⟨n1 z hz, o1 z hz⟩
        · exact ⟨n2 z hz, o2 z hz⟩) a1 a2 s1 s2
    · exact joins_no2 _ _ w hv s1 s2
  · exact joins_no1 _ _ w hv s1
end Go.Proofs.YtedgoagonagdjaaDoor
