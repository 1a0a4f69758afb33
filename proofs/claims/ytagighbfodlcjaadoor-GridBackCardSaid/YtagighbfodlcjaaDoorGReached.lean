/-
  (grid.Map).reached: the search.
-/
import Derived.Test.YtagighbfodlcjaaDoorGNearP
import Derived.Test.YtagighbfodlcjaaDoorGQueue
import Derived.Test.YtagighbfodlcjaaDoorGMap
import Derived.Deep.LoopGhost
import Derived.Maps.OwnOps
namespace Go.Proofs.YtagighbfodlcjaaDoor
open Go.RowKit

theorem near_row {W : World} {base : Nat} {A : Option Addr} {n c : Nat} {xs : List Nat} (h : W.ownsRow base 3 1 (.slice A n c) n ((xs.map (fun (k : Nat) => (k : Int))).map (Value.int .i64))) :
    ∀ g, (Value.slice A n c).ownBlock = some g → g < W.heap.size ∧ A = some ⟨g, 0, none⟩ ∧ ∃ cur, W.heap[g]? = some (.cells cur 3 (0, 0)) ∧ ∀ k, (hk : k < xs.length) → cur[k]? = some (.int .i64 (xs[k] : Int)) := by
  intro g hg
  rcases h.2 with ⟨e, _⟩ | ⟨g', cap, cur, e, _, hb, _, _, _, ht⟩
  · rw [e] at hg; cases hg
  · rw [e] at hg
    obtain rfl : g' = g := by simpa [Value.ownBlock] using hg
    have e2 : A = some ⟨g', 0, none⟩ := by injection e
    refine ⟨(Array.getElem?_eq_some_iff.1 hb).1, e2, cur, hb, fun k hk => ?_⟩
    have h2 : ((xs.map (fun (k : Nat) => (k : Int))).map (Value.int .i64))[k]? = some (.int .i64 (xs[k] : Int)) := by
      rw [List.getElem?_map, List.getElem?_map, List.getElem?_eq_getElem hk]
      rfl
    rw [← ht, List.getElem?_take] at h2
    split at h2
    · rwa [Array.getElem?_toList] at h2
    · cases h2

theorem near_some {W : World} {base : Nat} {A : Option Addr} {n c : Nat} {xs : List Value} (h : W.ownsRow base 3 1 (.slice A n c) n xs) (hn : 0 < n) : ∃ g, (Value.slice A n c).ownBlock = some g := by
  rcases h.2 with ⟨e, h0⟩ | ⟨g', cap, cur, e, _⟩
  · omega
  · exact ⟨g', by rw [e]; rfl⟩

def ReachedPost (w : World) (l : List UInt8) (wd a : Nat) (e : Ending) (w' : World) : Prop :=
  ∃ met : List Nat, e = .returned (.int .i64 (met.length : Int)) ∧ Bfs l wd a met [] ∧ Below w.heap.size w w'

set_option maxRecDepth 100000 in
set_option maxHeartbeats 2000000 in
theorem reached_any (wd : Nat) (H : Int) (s : ByteArray) (a : Nat) (h1 : 1 ≤ wd) (h8 : wd ≤ 8) (hs : s.size ≤ 64) (ha : a < s.size) (w : World) :
    Calls Tryd.prog 33 #[.agg #[.int .i64 (wd : Int), .int .i64 H, .string s], .int .i64 (a : Int)] w (ReachedPost w s.data.toList wd a) := by
  have hmm := @run_makeMap Tryd.prog
  obtain ⟨W1, hW1⟩ : ∃ W1, w.alloc (.cells #[.int .i64 (wd : Int), .int .i64 H, .string s] 29) = W1 := ⟨_, rfl⟩
  have hB1 : Below w.heap.size w W1 := by rw [← hW1]; exact (Below.refl _ w).alloc (Nat.le_refl _) _
  have hl1 : W1.heap.size = w.heap.size + 1 := by rw [← hW1]; simp
  have hb1 : W1.heap[w.heap.size]? = some (.cells #[.int .i64 (wd : Int), .int .i64 H, .string s] 29) := by rw [← hW1]; exact heap_new _ _
  have HL := Lib.hid hl1
  have HB := Lib.hid hb1
  clear hl1 hb1
  obtain ⟨W2, hput, hM2, hg2⟩ := (MetSet.made W1).put (n := a) (by simp)
  simp only [List.nil_append] at hM2
  obtain ⟨W3, hW3⟩ : ∃ W3, W2.alloc (.cells #[.int .i64 (a : Int)] 3) = W3 := ⟨_, rfl⟩
  have hs2 : W1.heap.size + 1 ≤ W2.heap.size := by have := hg2.size; simpa using this
  have hB2 : Below W1.heap.size W1 W2 := by
    refine ((Below.refl _ W1).alloc (Nat.le_refl _) _).grown hg2 (by simp) fun k hk => ?_
    have : W1.heap.size = k := by simpa using hk
    omega
  have hQ3 : Queue W3 W1.heap.size (.slice (some ⟨W2.heap.size, 0, none⟩) 1 1) [a] := by rw [← hW3]; exact Queue.one W2 a _ hB2.size
  have hM3 : MetSet W3 W1.heap.size [a] := by rw [← hW3]; exact hM2.below ((Below.refl _ _).alloc (Nat.le_refl _) _)
  have hB3 : Below W1.heap.size W1 W3 := by rw [← hW3]; exact hB2.alloc hB2.size _
  have hal : a < s.data.toList.length := by rw [Array.length_toList]; exact ha
  have hsl : s.data.toList.length ≤ 64 := by rw [Array.length_toList]; exact hs
  have HQ3 := Lib.hid hQ3
  have HM3 := Lib.hid hM3
  clear hQ3 hM3 hM2 hg2
  go_enter Tryd.func33, Tryd.ntmps33
  go_wp2_with fail
  clear hput hmm hW1 hW3
  go_loopg [6] 200 (fun gf v6 wr => ∃ met left, Bfs s.data.toList wd a met left ∧ MetSet wr W1.heap.size met ∧ Queue wr W1.heap.size v6 left ∧ Below W1.heap.size W1 wr ∧ 2 * (64 - met.length) + left.length ≤ gf ∧ gf ≤ 200)
  case atStart => exact ⟨[a], [a], Bfs.init _ _ _, HM3.out, HQ3.out, hB3, by simp, Nat.le_refl _⟩
  case round =>
    obtain ⟨met, left, hb, hM, hQ, hB, hgf, hg200⟩ := hrel
    have HBK := (hB.block w.heap.size (by rw [HL.out]; omega)).trans HB.out
    cases left with
    | nil =>
      obtain ⟨g, o, c, cur, e6, _⟩ := hQ
      subst e6
      have hlen := fun ty => hM.len ty
      go_wp2_with fail
      go_ret
      exact ⟨met, rfl, hb, hB1.trans (hB.mono (by rw [HL.out]; omega))⟩
    | cons c rest =>
      obtain ⟨g, o, cc, e6, hcell, v', hsl1, hQ', hob⟩ := hQ.pop
      subst e6
      have hcl := reach_lt (hb.sub c (hb.lf c (by simp))) hal
      have q0 := cell_of HBK 0
      have q1 := cell_of HBK 1
      have q2 := cell_of HBK 2
      simp only [List.getElem?_toArray, List.getElem?_cons_zero, List.getElem?_cons_succ] at q0 q1 q2
      have hpos : (0 : Int) < ((rest.length + 1 : Nat) : Int) := by omega
      have hgf' : 2 * (64 - met.length) + rest.length + 1 ≤ gk := by simpa [Nat.add_assoc] using hgf
      obtain ⟨g', rfl⟩ : ∃ g', gk = g' + 1 := ⟨gk - 1, by omega⟩
      have hsl2 := hsl1 wr
      clear hsl1 hgf
      go_wp2_with fail
      refine (near_any (wd : Int) H s (c : Int) (by omega) (by omega) (by omega) (by omega) wr).mono ?_
      rintro e w2 ⟨vn, rfl, hown, hBn⟩
      obtain ⟨An, cn, rfl⟩ := row_slice hown
      have hmem := fun y => near_mem (s := s) (c := c) h1 h8 y
      have hnlen := near_len wd s c
      have hcast := near_cast wd s c
      obtain ⟨near, hnear⟩ : ∃ near, near = nearN wd s c := ⟨_, rfl⟩
      rw [← hnear] at hcast hnlen
      simp only [← hnear] at hmem
      have hnl : (nearI (wd : Int) s (c : Int)).length = near.length := by rw [hcast, List.length_map]
      rw [hnl] at hown ⊢
      rw [hcast] at hown
      have hM2 := hM.below hBn
      have hQ2 := hQ'.below hBn
      have hB2' : Below W1.heap.size W1 w2 := hB.trans (hBn.mono hB.size)
      have hIn := hb.take hmem
      have hrow := near_row hown
      have hgq : ∀ gn, (Value.slice An near.length cn).ownBlock = some gn → v'.ownBlock ≠ some gn := fun gn hgn e => by
        obtain ⟨g5, h5, _, h6⟩ := hQ'.lt
        have := (hown.lt gn hgn).1
        rw [e] at h5
        have : gn = g5 := by simpa using h5
        omega
      have HCL := Lib.hid hcast
      have HNL := Lib.hid hnl
      have HNN := Lib.hid hnear
      have HMM := Lib.hid hmem
      have hsome := near_some hown
      have HSOME := Lib.hid hsome
      clear hcast hnl hnear hmem hsl2 hcell q0 q1 q2 hown hQ hM hsome
      have hgn2 : ∀ gn, (Value.slice An near.length cn).ownBlock = some gn → gn < w2.heap.size := fun gn hgn => (hrow gn hgn).1
      have HROW := Lib.hid hrow
      have HGN2 := Lib.hid hgn2
      clear hrow hgn2
      go_wp2_with fail
      go_loopw [6, 27] (fun v6 v27 wq => ∃ (k : Nat) (met' left' : List Nat), v27 = .int .i64 (k : Int) ∧ k ≤ near.length ∧ BfsIn s.data.toList wd a c met' left' (near.drop k) ∧ MetSet wq W1.heap.size met' ∧ Queue wq W1.heap.size v6 left' ∧
          Below W1.heap.size W1 wq ∧ 2 * (64 - met'.length) + left'.length ≤ g' ∧ ∀ gn, (Value.slice An near.length cn).ownBlock = some gn → gn < wq.heap.size ∧ v6.ownBlock ≠ some gn ∧ wq.heap[gn]? = w2.heap[gn]?)
          (fun _ v27 _ => near.length - (intOf v27).toNat)
      case atStart => exact ⟨0, met, rest, rfl, Nat.zero_le _, hIn, hM2, hQ2, hB2', by omega, fun gn hgn => ⟨HGN2.out gn hgn, hgq gn hgn, rfl⟩⟩
      case round =>
        obtain ⟨k, met', left', rfl, hk, hI, hMq, hQq, hBq, hpot, hkeep⟩ := hrel
        by_cases hlt : k < near.length
        · obtain ⟨gn, hgn⟩ := HSOME.out (by omega)
          obtain ⟨hg1, hA, cur, hcur, hnk⟩ := HROW.out gn hgn
          obtain ⟨hg2, hg3, hg4⟩ := hkeep gn hgn
          have hcell := cell_of (hg4.trans hcur) k
          rw [hnk k hlt] at hcell
          have hdrop : near.drop k = near[k] :: near.drop (k + 1) := List.drop_eq_getElem_cons hlt
          rw [hdrop] at hI
          have hlook := hMq.look near[k]
          subst hA
          clear hcur hnk hdrop hg4
          by_cases hin : near[k] ∈ met'
          · rw [show decide (near[k] ∈ met') = true from decide_eq_true hin] at hlook
            have hI' := hI.known hin
            clear hI hin
            go_wp2_with fail
            go_roundw
            case rel => exact ⟨k + 1, met', left', by simp, by omega, hI', hMq, hQq, hBq, hpot, hkeep⟩
            case measure => simp [intOf]; omega
          · rw [show decide (near[k] ∈ met') = false from decide_eq_false hin] at hlook
            have hI' := hI.new hin
            have hml := met_len hI'.nd hI'.sub hal
            simp only [List.length_append, List.length_cons, List.length_nil] at hml
            obtain ⟨W5, hput5, hM5, hg5⟩ := hMq.put hin
            have hne5 : u6.ownBlock ≠ some W1.heap.size := by
              obtain ⟨es, cl, hh, _⟩ := hMq
              exact hQq.ne hh (fun _ e => by cases e)
            have hQ5 := hQq.kept hg5 hne5
            obtain ⟨W6, hW6⟩ : ∃ W6, W5.alloc (.cells #[.int .i64 (near[k] : Int)] 3) = W6 := ⟨_, rfl⟩
            have hs5 := hg5.size
            have hs6 : W6.heap.size = W5.heap.size + 1 := by rw [← hW6]; simp
            have hQ6 : Queue W6 W1.heap.size u6 left' := by rw [← hW6]; exact hQ5.below ((Below.refl _ _).alloc (Nat.le_refl _) _)
            have hM6 : MetSet W6 W1.heap.size (met' ++ [near[k]]) := by rw [← hW6]; exact hM5.below ((Below.refl _ _).alloc (Nat.le_refl _) _)
            have hc6 : W6.cell? ((⟨W5.heap.size, 0, none⟩ : Addr).add 0) = some (.int .i64 (near[k] : Int)) := by
              rw [← hW6]
              have := (Boxed.new W5 3 (.int .i64 (near[k] : Int))).cell
              simp [Addr.add, this]
            have hbase6 : W1.heap.size ≤ W6.heap.size := by have := hBq.size; omega
            have hpot2 : left'.length ≤ 1000 := by omega
            have H6 := Lib.hid hs6
            clear hs6
            clear hI hin hM5 hQ5
            go_wp2_with (at_builtin; go_loud (refine wpList_append_queue W6 rfl _ _ rfl W1.heap.size u6 left' rfl hQ6 hbase6 ⟨W5.heap.size, 0, none⟩ near[k] 1 rfl hc6 hpot2 ?_); intro v7 W7 hQ7 hg7 hat7)
            have hM7 : MetSet W7 W1.heap.size (met' ++ [near[k]]) := hM6.kept hg7 (fun e => by
              obtain ⟨es, cl, hh, _⟩ := hM6
              exact hQ6.ne hh (fun _ e => by cases e) e.symm)
            have hB6 : Below W1.heap.size W1 W6 := by
              have hb5 := hBq.grown hg5 hBq.size (fun j hj => by
                have : W1.heap.size = j := by simpa using hj
                omega)
              rw [← hW6]; exact hb5.alloc hb5.size _
            have hB7 : Below W1.heap.size W1 W7 := hB6.grown hg7 hB6.size (fun j hj => by
              obtain ⟨g5, h5, h6, _⟩ := hQ6.lt
              rw [h5] at hj
              have : g5 = j := by simpa using hj
              omega)
            go_roundw
            case rel =>
              refine ⟨k + 1, met' ++ [near[k]], left' ++ [near[k]], by simp, by omega, hI', hM7, hQ7, hB7, ?_, fun gj hgj => ?_⟩
              · simp only [List.length_append, List.length_cons, List.length_nil]
                omega
              · obtain ⟨k1, k2, k3⟩ := hkeep gj hgj
                have hb6 : W6.heap[gj]? = wr.heap[gj]? := by
                  rw [← hW6]
                  refine (Below.heap_alloc _ _ _ (by omega)).trans (hg5.block gj k1 (fun e => ?_))
                  have e' : gj = W1.heap.size := by simpa using e
                  obtain ⟨es, cl, hh, _⟩ := hMq
                  obtain ⟨_, _, cur2, hc2, _⟩ := HROW.out gj hgj
                  rw [← e', k3, hc2] at hh
                  cases hh
                refine ⟨by have := hg7.size; have := H6.out; omega, ?_, (hg7.block gj (by have := H6.out; omega) (fun e => k2 e.symm)).trans (hb6.trans k3)⟩
                rcases hat7 with e | e
                · rw [e]; exact k2
                · rw [e, H6.out]
                  intro e'
                  have : W5.heap.size + 1 = gj := by simpa using e'
                  omega
            case measure => simp [intOf]; omega
        · have hke : k = near.length := by omega
          subst hke
          rw [List.drop_length] at hI
          have hb' := hI.out
          clear hI
          go_wp2_with fail
          go_roundg g'
          case measure => omega
          case rel => exact ⟨met', left', hb', hMq, hQq, hBq, hpot, by omega⟩
end Go.Proofs.YtagighbfodlcjaaDoor
