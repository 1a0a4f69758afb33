/-
  Words and lines, by lists: what is read is laid as it stands there.
-/
import Derived.Test.YtedgoagonagdjaaDoorLay
namespace Go.Proofs.YtedgoagonagdjaaDoor

def spl : List UInt8 → List (List UInt8)
  | [] => [[]]
  | c :: l => if c = 32 then [] :: spl l else match spl l with
    | [] => [[c]]
    | h :: t => (c :: h) :: t

theorem spl_ne (l : List UInt8) : ∃ h t, spl l = h :: t := by
  cases l with
  | nil => exact ⟨[], [], rfl⟩
  | cons c l =>
    unfold spl
    split
    · exact ⟨_, _, rfl⟩
    · split <;> exact ⟨_, _, rfl⟩

theorem spl_index : ∀ (l : List UInt8), (Lib.index l [32] = -1 ∧ spl l = [l]) ∨ ∃ i : Nat, Lib.index l [32] = i ∧ spl l = l.take i :: spl (l.drop (i + 1))
  | [] => .inl ⟨by simp [Lib.index], rfl⟩
  | c :: l => by
    by_cases hc : c = 32
    · subst hc
      exact .inr ⟨0, by rw [Lib.index]; simp [List.isPrefixOf], by simp [spl]⟩
    · have hp : ([32] : List UInt8).isPrefixOf (c :: l) = false := by simp [List.isPrefixOf, Ne.symm hc]
      have hix : Lib.index (c :: l) [32] = if Lib.index l [32] == -1 then -1 else Lib.index l [32] + 1 := by rw [Lib.index, hp]; simp
      rcases spl_index l with ⟨h1, h2⟩ | ⟨i, h1, h2⟩
      · exact .inl ⟨by rw [hix, h1]; rfl, by simp [spl, hc, h2]⟩
      · refine .inr ⟨i + 1, by rw [hix, h1, if_neg (by simp)]; omega, by simp [spl, hc, h2]⟩

theorem splitK_spl : ∀ (k : Nat) (l : List UInt8), Lib.count l [32] = k → Lib.splitK [32] 0 k l = spl l
  | 0, l, hk => by
    rcases spl_index l with ⟨_, h2⟩ | ⟨i, h1, _⟩
    · rw [h2]; rfl
    · rw [Lib.count_hit (by simp) h1] at hk; omega
  | k + 1, l, hk => by
    rcases spl_index l with ⟨h1, h2⟩ | ⟨i, h1, h2⟩
    · rw [Lib.count_miss h1] at hk; omega
    · rw [Lib.count_hit (by simp) h1] at hk
      have ih := splitK_spl k (l.drop (i + 1)) (by simpa using (by omega : Lib.count (l.drop (i + [(32 : UInt8)].length)) [32] = k))
      unfold Lib.splitK
      rw [h1, if_neg (by simp), h2, ← ih]
      simp

theorem words_spl (line : ByteArray) : (wordsOf line).map (·.data.toList) = spl (bodyOf line).data.toList := by
  unfold wordsOf
  rw [Lib.splitB_data]
  exact splitK_spl _ _ rfl

/-- words with a blank ahead of each -/
def blanks (l : List (List UInt8)) : List UInt8 := l.flatMap fun x => 32 :: x

theorem spl_join : ∀ (l : List UInt8) (h : List UInt8) (t : List (List UInt8)), spl l = h :: t → h ++ blanks t = l
  | [], h, t, e => by simp [spl] at e; simp [e, blanks]
  | c :: l, h, t, e => by
    unfold spl at e
    obtain ⟨h', t', e'⟩ := spl_ne l
    have ih := spl_join l h' t' e'
    rw [e'] at e
    split at e
    · rename_i hc; simp only [List.cons.injEq] at e; obtain ⟨rfl, rfl⟩ := e; subst hc
      simp [blanks] at ih ⊢; exact ih
    · simp only [List.cons.injEq] at e; obtain ⟨rfl, rfl⟩ := e; simp [ih]

theorem spl_no (l : List UInt8) (h : (32 : UInt8) ∉ l) : spl l = [l] := by
  induction l with
  | nil => rfl
  | cons c l ih =>
    simp only [List.mem_cons, not_or] at h
    have := ih h.2
    unfold spl
    rw [if_neg (Ne.symm h.1), this]

theorem spl_app (x : List UInt8) (h : (32 : UInt8) ∉ x) (l : List UInt8) : spl (x ++ 32 :: l) = x :: spl l := by
  induction x with
  | nil => simp [spl]
  | cons c x ih =>
    simp only [List.mem_cons, not_or] at h
    rw [List.cons_append, spl, if_neg (Ne.symm h.1), ih h.2]

theorem spl_blanks : ∀ (x : List UInt8) (l : List (List UInt8)), (32 : UInt8) ∉ x → (∀ y ∈ l, (32 : UInt8) ∉ y) → spl (x ++ blanks l) = x :: l
  | x, [], h, _ => by simp [blanks, spl_no x h]
  | x, y :: l, h, hl => by
    have : x ++ blanks (y :: l) = x ++ 32 :: (y ++ blanks l) := by simp [blanks]
    rw [this, spl_app x h, spl_blanks y l (hl y (by simp)) fun z hz => hl z (by simp [hz])]

theorem ba_ext {a b : ByteArray} (h : a.data.toList = b.data.toList) : a = b := ByteArray.ext (Array.ext' h)

theorem suffix_body {line : ByteArray} (h : Lib.hasSuffix line.data.toList [10] = true) : line.data.toList = (bodyOf line).data.toList ++ [10] := by
  obtain ⟨p, hp⟩ := List.isSuffixOf_iff_suffix.1 (show ([10] : List UInt8).isSuffixOf line.data.toList = true from h)
  have hb : (bodyOf line).data.toList = line.data.toList.take (line.data.toList.length - 1) := by
    show (Lib.trimSuffix line.data.toList [10]).toArray.toList = _
    unfold Lib.trimSuffix
    rw [if_pos h]
    simp
  rw [hb, ← hp]
  simp

theorem nums_fill_b {vs : List Int} {v : Int} (h : vs = [v]) : fill [98] vs ⟨0, 0, 0⟩ = ⟨0, v, 0⟩ := by subst h; rfl

theorem nums_laid : ∀ (xs : List ByteArray) (vs : List Int), nums xs = some vs → xs.map (·.data.toList) = vs.map Lib.itoa ∧ ∀ v ∈ vs, 0 ≤ v ∧ v ≤ 999
  | [], vs, h => by simp only [nums, Option.some.injEq] at h; subst h; exact ⟨rfl, by simp⟩
  | x :: xs, vs, h => by
    unfold nums at h
    cases hx : numOf x <;> cases hxs : nums xs <;> simp only [hx, hxs] at h <;> try cases h
    rename_i v vs'
    obtain ⟨h1, h2⟩ := nums_laid xs vs' hxs
    unfold numOf at hx
    split at hx
    · split at hx
      · rename_i u _ hu
        cases hx
        exact ⟨by simp [h1, hu.2.2], fun z hz => by rcases List.mem_cons.1 hz with rfl | hz; exact ⟨hu.1, hu.2.1⟩; exact h2 z hz⟩
      · cases hx
    · cases hx

/-- the numbers of a request's letters, told one by one -/
theorem fill_pick (x what : ByteArray) (hw : wantOf x = some what) (vs : List Int) (hl : vs.length = what.size) :
    (what.data.toList.map fun c => pick (fill what.data.toList vs ⟨0, 0, 0⟩) c) = vs := by
  rcases want_cases hw with rfl | rfl | rfl | rfl
  · obtain ⟨a, b, c, rfl⟩ : ∃ a b c, vs = [a, b, c] := by
      match vs, hl with
      | [a, b, c], _ => exact ⟨a, b, c, rfl⟩
    rfl
  · obtain ⟨a, rfl⟩ : ∃ a, vs = [a] := by
      match vs, hl with
      | [a], _ => exact ⟨a, rfl⟩
    rfl
  · obtain ⟨a, b, rfl⟩ : ∃ a b, vs = [a, b] := by
      match vs, hl with
      | [a, b], _ => exact ⟨a, b, rfl⟩
    rfl
  · obtain rfl : vs = [] := by
      match vs, hl with
      | [], _ => rfl
    rfl

structure Abc.small (t : Abc) : Prop where
  a0 : 0 ≤ t.a
  a1 : t.a ≤ 999
  b0 : 0 ≤ t.b
  b1 : t.b ≤ 999
  c0 : 0 ≤ t.c
  c1 : t.c ≤ 999
theorem Abc.small.ok {t : Abc} (h : t.small) : t.ok := ⟨by have := h.a0; omega, by have := h.a1; omega, by have := h.b0; omega, by have := h.b1; omega, by have := h.c0; omega, by have := h.c1; omega⟩

theorem put_small {t : Abc} (h : t.small) (k : UInt8) (v : Int) (h0 : 0 ≤ v) (h1 : v ≤ 999) : (t.put k v).small := by
  unfold Abc.put
  split
  · exact ⟨h0, h1, h.b0, h.b1, h.c0, h.c1⟩
  · split
    · exact ⟨h.a0, h.a1, h0, h1, h.c0, h.c1⟩
    · exact ⟨h.a0, h.a1, h.b0, h.b1, h0, h1⟩
theorem fill_small : ∀ (ks : List UInt8) (vs : List Int) (t : Abc), t.small → (∀ v ∈ vs, 0 ≤ v ∧ v ≤ 999) → (fill ks vs t).small
  | [], _, t, h, _ => by simpa [fill] using h
  | _ :: _, [], t, h, _ => by simpa [fill] using h
  | k :: ks, v :: vs, t, h, hv => by
    simp only [fill]
    exact fill_small ks vs _ (put_small h k v (hv v (by simp)).1 (hv v (by simp)).2) fun z hz => hv z (by simp [hz])

/-- WHAT IS READ IS LAID AS IT STANDS THERE. -/
theorem readP_lays {line x : ByteArray} {t : Abc} (h : readP line = some (x, t)) : layS x t = line ∧ t.small := by
  unfold readP at h
  split at h
  case isFalse => cases h
  rename_i hend
  have hws := words_spl line
  cases hw : wordsOf line with
  | nil => rw [hw] at h; cases h
  | cons y ys =>
    rw [hw] at h hws
    simp only at h
    cases hwant : wantOf y with
    | none => rw [hwant] at h; cases h
    | some what =>
      rw [hwant] at h
      simp only at h
      split at h
      case isFalse => cases h
      rename_i hlen
      cases hn : nums ys with
      | none => rw [hn] at h; cases h
      | some vs =>
        rw [hn] at h
        simp only [Option.map_some, Option.some.injEq, Prod.mk.injEq] at h
        obtain ⟨rfl, rfl⟩ := h
        obtain ⟨hl1, hl2⟩ := nums_laid ys vs hn
        refine ⟨?_, fill_small _ _ _ ⟨by decide, by decide, by decide, by decide, by decide, by decide⟩ hl2⟩
        apply ba_ext
        rw [suffix_body hend]
        show (layL y.data.toList ((wantOf y).getD ⟨#[]⟩).data.toList _ ++ [10] : List UInt8).toArray.toList = _
        rw [hwant]
        simp only [List.map_cons] at hws
        rw [← spl_join _ _ _ hws.symm, hl1]
        have hp := fill_pick y what hwant vs (by rw [nums_len ys vs hn, hlen])
        unfold layL
        have : blanks (List.map Lib.itoa vs) = what.data.toList.flatMap fun c => 32 :: Lib.itoa (pick (fill what.data.toList vs ⟨0, 0, 0⟩) c) := by
          conv => lhs; rw [← hp]
          simp [blanks, List.flatMap_map]
        rw [this]
        simp
end Go.Proofs.YtedgoagonagdjaaDoor
