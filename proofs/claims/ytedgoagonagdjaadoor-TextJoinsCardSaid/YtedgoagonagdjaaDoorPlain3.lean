/-
  A right act's line is read as it was; an act whose line is read as it was is right.
-/
import Derived.Test.YtedgoagonagdjaaDoorPlain2
import Derived.Test.YtedgoagonagdjaaDoorRef
namespace Go.Proofs.YtedgoagonagdjaaDoor

def decL (v : Nat) : List UInt8 :=
  if v < 10 then [UInt8.ofNat (48 + v)] else if v < 100 then [UInt8.ofNat (48 + v / 10), UInt8.ofNat (48 + v % 10)]
  else [UInt8.ofNat (48 + v / 100), UInt8.ofNat (48 + v / 10 % 10), UInt8.ofNat (48 + v % 10)]

theorem dec_decL (v : Nat) (h : v < 1000) : Lib.decDigits v = decL v := by
  unfold decL
  by_cases h1 : v < 10
  · rw [if_pos h1, Lib.decDigits_one h1]
  · rw [if_neg h1]
    by_cases h2 : v < 100
    · rw [if_pos h2, Lib.decDigits_two h1 h2]
    · rw [if_neg h2, Lib.decDigits, dif_neg h1, Lib.decDigits_two (by omega) (by omega), show v / 10 / 10 = v / 100 by omega]
      rfl

theorem decL_fin : ∀ v : Fin 1000, Lib.atoiAll (decL v.val) = .ok (v.val : Int) ∧ (32 : UInt8) ∉ decL v.val := by decide +kernel

theorem itoa_small (v : Int) (h0 : 0 ≤ v) (h1 : v ≤ 999) : Lib.atoiAll (Lib.itoa v) = .ok v ∧ (32 : UInt8) ∉ Lib.itoa v := by
  obtain ⟨u, rfl⟩ := Int.eq_ofNat_of_zero_le h0
  rw [Lib.itoa_nonneg, dec_decL u (by omega)]
  exact decL_fin ⟨u, by omega⟩

theorem num_itoa (v : Int) (h0 : 0 ≤ v) (h1 : v ≤ 999) (d : ByteArray) (hd : d.data.toList = Lib.itoa v) : numOf d = some v := by
  unfold numOf
  rw [hd, (itoa_small v h0 h1).1]
  simp only [and_true]
  rw [if_pos ⟨h0, h1⟩]

theorem nums_itoa : ∀ (xs : List ByteArray) (vs : List Int), xs.map (·.data.toList) = vs.map Lib.itoa → (∀ v ∈ vs, 0 ≤ v ∧ v ≤ 999) → nums xs = some vs
  | [], [], _, _ => rfl
  | x :: xs, v :: vs, h, hv => by
    simp only [List.map_cons, List.cons.injEq] at h
    simp only [nums, num_itoa v (hv v (by simp)).1 (hv v (by simp)).2 x h.1, nums_itoa xs vs h.2 fun z hz => hv z (by simp [hz])]
  | [], _ :: _, h, _ => by simp at h
  | _ :: _, [], h, _ => by simp at h

theorem want_no (nm what : ByteArray) (h : wantOf nm = some what) : (32 : UInt8) ∉ nm.data.toList := by
  unfold wantOf at h
  repeat' split at h
  all_goals first | (rename_i e; subst e; decide) | cases h

theorem small_of_right {nm : ByteArray} {t : Abc} (h : rightP nm t = true) : t.small := by
  unfold rightP at h
  split at h
  · cases h
  · simp only [Bool.and_eq_true, okK, decide_eq_true_eq] at h
    exact ⟨h.1.2.1, h.1.2.2, h.2.1.2.1, h.2.1.2.2, h.2.2.2.1, h.2.2.2.2⟩

/-- the letters' numbers of a right act make the act -/
theorem right_fill {nm what : ByteArray} {t : Abc} (hw : wantOf nm = some what) (h : rightP nm t = true) : fill what.data.toList (what.data.toList.map (pick t)) ⟨0, 0, 0⟩ = t := by
  unfold rightP at h
  rw [hw] at h
  simp only [Bool.and_eq_true, okK] at h
  obtain ⟨a, b, c⟩ := t
  rcases want_cases hw with rfl | rfl | rfl | rfl
  · rfl
  · have h0 := h.1.1
    have h2 := h.2.2.1
    simp [hasK] at h0 h2
    subst h0; subst h2
    rfl
  · have h2 := h.2.2.1
    simp [hasK] at h2
    subst h2
    rfl
  · have h0 := h.1.1
    have h1 := h.2.1.1
    have h2 := h.2.2.1
    simp [hasK] at h0 h1 h2
    subst h0; subst h1; subst h2
    rfl

theorem pick_small {t : Abc} (h : t.small) (c : UInt8) : 0 ≤ pick t c ∧ pick t c ≤ 999 := by
  unfold pick
  split
  · exact ⟨h.a0, h.a1⟩
  · split
    · exact ⟨h.b0, h.b1⟩
    · exact ⟨h.c0, h.c1⟩

theorem layL_blanks (nm ks : List UInt8) (t : Abc) : layL nm ks t = nm ++ blanks (ks.map fun c => Lib.itoa (pick t c)) := by
  simp [layL, blanks, List.flatMap_map]

/-- A RIGHT ACT's LINE IS READ AS IT WAS. -/
theorem right_reads {nm : ByteArray} {t : Abc} (h : rightP nm t = true) : readP (layS nm t) = some (nm, t) := by
  have hsm := small_of_right h
  cases hw : wantOf nm with
  | none => unfold rightP at h; rw [hw] at h; cases h
  | some what =>
    have hlist : (layS nm t).data.toList = layL nm.data.toList what.data.toList t ++ [10] := by
      show ((layL nm.data.toList ((wantOf nm).getD ⟨#[]⟩).data.toList t ++ [10]).toArray).toList = _
      rw [hw]; rfl
    have hend : Lib.hasSuffix (layS nm t).data.toList [10] = true := by
      rw [hlist]; exact List.isSuffixOf_iff_suffix.2 (List.suffix_append _ _)
    have hbody : (bodyOf (layS nm t)).data.toList = layL nm.data.toList what.data.toList t := by
      have := suffix_body hend
      rw [hlist] at this
      exact (List.append_inj_left' this.symm rfl)
    have hws := words_spl (layS nm t)
    rw [hbody, layL_blanks, spl_blanks _ _ (want_no nm what hw) (fun y hy => by
      obtain ⟨c, _, rfl⟩ := List.mem_map.1 hy
      exact (itoa_small _ (pick_small hsm c).1 (pick_small hsm c).2).2)] at hws
    unfold readP
    rw [if_pos hend]
    cases hx : wordsOf (layS nm t) with
    | nil => rw [hx] at hws; simp at hws
    | cons x xs =>
      rw [hx] at hws
      simp only [List.map_cons, List.cons.injEq] at hws
      obtain rfl : x = nm := ba_ext hws.1
      have hlen : xs.length = what.size := by
        have := congrArg List.length hws.2
        simpa using this
      have hn := nums_itoa xs (what.data.toList.map (pick t)) (by rw [hws.2]; simp) (fun v hv => by
        obtain ⟨c, _, rfl⟩ := List.mem_map.1 hv
        exact pick_small hsm c)
      simp only [hw]
      rw [if_pos hlen, hn]
      simp only [Option.map_some]
      rw [right_fill hw h]

/-- AN ACT WHOSE LINE IS READ AS IT WAS IS RIGHT. -/
theorem reads_right {nm line : ByteArray} {t : Abc} (h : readP line = some (nm, t)) : rightP nm t = true := by
  unfold readP at h
  split at h
  case isFalse => cases h
  cases hx : wordsOf line with
  | nil => rw [hx] at h; cases h
  | cons x xs =>
    rw [hx] at h
    simp only at h
    cases hw : wantOf x with
    | none => rw [hw] at h; cases h
    | some what =>
      rw [hw] at h
      simp only at h
      split at h
      case isFalse => cases h
      rename_i hlen
      cases hn : nums xs with
      | none => rw [hn] at h; cases h
      | some vs =>
        rw [hn] at h
        simp only [Option.map_some, Option.some.injEq, Prod.mk.injEq] at h
        obtain ⟨rfl, rfl⟩ := h
        have hv := (nums_laid xs vs hn).2
        have hl := nums_len xs vs hn
        rw [hlen] at hl
        unfold rightP
        rw [hw]
        rcases want_cases hw with rfl | rfl | rfl | rfl
        · match vs, hl, hv with
          | [a, b, c], _, hv =>
            have h1 := hv a (by simp); have h2 := hv b (by simp); have h3 := hv c (by simp)
            simp [fill, Abc.put, okK, hasK, h1, h2, h3]
        · match vs, hl, hv with
          | [a], _, hv =>
            have h1 := hv a (by simp)
            simp [fill, Abc.put, okK, hasK, h1]
        · match vs, hl, hv with
          | [a, b], _, hv =>
            have h1 := hv a (by simp); have h2 := hv b (by simp)
            simp [fill, Abc.put, okK, hasK, h1, h2]
        · match vs, hl with
          | [], _ => simp [fill, okK]
end Go.Proofs.YtedgoagonagdjaaDoor
