/-
  What a request's line is, in plain words: its words, its numbers.
-/
import Derived.Test.YtedgoagonagdjaaDoorText0
namespace Go.Proofs.YtedgoagonagdjaaDoor

def bodyOf (line : ByteArray) : ByteArray := ⟨(Lib.trimSuffix line.data.toList [10]).toArray⟩
def wordsOf (line : ByteArray) : List ByteArray := Lib.splitB ⟨#[32]⟩ 0 (Lib.countB (bodyOf line) ⟨#[32]⟩) (bodyOf line)

def nums : List ByteArray → Option (List Int)
  | [] => some []
  | x :: xs => match numOf x, nums xs with
    | some v, some vs => some (v :: vs)
    | _, _ => none

structure Abc where
  a : Int
  b : Int
  c : Int

def Abc.put (t : Abc) (k : UInt8) (v : Int) : Abc := if k = 97 then { t with a := v } else if k = 98 then { t with b := v } else { t with c := v }
def fill : List UInt8 → List Int → Abc → Abc
  | k :: ks, v :: vs, t => fill ks vs (t.put k v)
  | _, _, t => t

/-- the request of a line: its word, its three numbers -/
def readP (line : ByteArray) : Option (ByteArray × Abc) :=
  if Lib.hasSuffix line.data.toList [10] = true then
    match wordsOf line with
    | [] => none
    | x :: xs => match wantOf x with
      | none => none
      | some what => if xs.length = what.size then (nums xs).map fun vs => (x, fill what.data.toList vs ⟨0, 0, 0⟩) else none
  else none

theorem nums_len : ∀ (xs : List ByteArray) (vs : List Int), nums xs = some vs → vs.length = xs.length
  | [], vs, h => by simp only [nums, Option.some.injEq] at h; subst h; rfl
  | x :: xs, vs, h => by
    unfold nums at h
    cases hx : numOf x <;> cases hxs : nums xs <;> simp only [hx, hxs] at h <;> try cases h
    rename_i v vs'
    simp [nums_len xs vs' hxs]

theorem nums_at : ∀ (xs : List ByteArray) (vs : List Int), nums xs = some vs → ∀ (k : Nat) (hk : k < xs.length) (hv : k < vs.length), numOf xs[k] = some vs[k]
  | [], _, _, k, hk, _ => by simp at hk
  | x :: xs, vs, h, k, hk, hv => by
    unfold nums at h
    cases hx : numOf x <;> cases hxs : nums xs <;> simp only [hx, hxs] at h <;> try cases h
    rename_i v vs'
    cases k with
    | zero => simpa using hx
    | succ k => simpa using nums_at xs vs' hxs k (by simpa using hk) (by simpa using hv)

theorem nums_none : ∀ (xs : List ByteArray), (∀ (k : Nat) (hk : k < xs.length), (numOf xs[k]).isSome = true) → ∃ vs, nums xs = some vs
  | [], _ => ⟨[], rfl⟩
  | x :: xs, h => by
    obtain ⟨vs, hvs⟩ := nums_none xs fun k hk => h (k + 1) (by simpa using hk)
    have h0 := h 0 (by simp)
    simp only [List.getElem_cons_zero] at h0
    obtain ⟨v, hv⟩ := Option.isSome_iff_exists.1 h0
    exact ⟨v :: vs, by simp [nums, hv, hvs]⟩

theorem fill_snoc : ∀ (ks : List UInt8) (vs : List Int) (t : Abc) (k : UInt8) (v : Int), ks.length = vs.length → fill (ks ++ [k]) (vs ++ [v]) t = (fill ks vs t).put k v
  | [], [], t, k, v, _ => by simp [fill]
  | a :: ks, b :: vs, t, k, v, h => by simpa [fill] using fill_snoc ks vs (t.put a b) k v (by simpa using h)
  | [], _ :: _, _, _, _, h => by simp at h
  | _ :: _, [], _, _, _, h => by simp at h

theorem fill_take (ks : List UInt8) (vs : List Int) (t : Abc) (i : Nat) (h1 : i < ks.length) (h2 : i < vs.length) :
    fill (ks.take (i + 1)) (vs.take (i + 1)) t = (fill (ks.take i) (vs.take i) t).put ks[i] vs[i] := by
  rw [List.take_succ_eq_append_getElem h1, List.take_succ_eq_append_getElem h2]
  exact fill_snoc _ _ _ _ _ (by simp; omega)

theorem want_cases {s what : ByteArray} (h : wantOf s = some what) : what = ⟨#[97, 98, 99]⟩ ∨ what = ⟨#[98]⟩ ∨ what = ⟨#[97, 98]⟩ ∨ what = ⟨#[]⟩ := by
  unfold wantOf at h
  repeat' split at h
  all_goals simp_all

theorem split_size (sep : ByteArray) (save : Nat) : ∀ (k : Nat) (s : ByteArray), ∀ x ∈ Lib.splitB sep save k s, x.size ≤ s.size
  | 0, s, x, h => by simp [Lib.splitB_zero] at h; subst h; exact Nat.le_refl _
  | k + 1, s, x, h => by
    rcases Lib.indexB_cases s sep with hm | ⟨i, hi, hle⟩
    · rw [Lib.splitB_miss _ _ _ _ hm] at h; simp at h; subst h; exact Nat.le_refl _
    · rw [Lib.splitB_hit _ _ _ _ i hi] at h
      rcases List.mem_cons.1 h with rfl | h
      · rw [ByteArray.size_extract]; omega
      · have := split_size sep save k _ x h
        rw [ByteArray.size_extract] at this; omega

theorem body_size (line : ByteArray) : (bodyOf line).size ≤ line.size := by
  have : (Lib.trimSuffix line.data.toList [10]).length ≤ line.data.toList.length := by unfold Lib.trimSuffix; split <;> simp
  show (Lib.trimSuffix line.data.toList [10]).toArray.size ≤ line.data.size
  simpa using this
theorem words_size (line : ByteArray) : ∀ x ∈ wordsOf line, x.size ≤ line.size := fun x h => Nat.le_trans (split_size _ _ _ _ x h) (body_size line)
end Go.Proofs.YtedgoagonagdjaaDoor
