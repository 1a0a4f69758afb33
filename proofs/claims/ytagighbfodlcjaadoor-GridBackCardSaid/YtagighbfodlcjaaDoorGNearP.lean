/-
  The neighbours that grid.near finds are the open cells beside. Plain.
-/
import Derived.Test.YtagighbfodlcjaaDoorGNear
namespace Go.Proofs.YtagighbfodlcjaaDoor

def nearN (w : Nat) (s : ByteArray) (c : Nat) : List Nat := (nearI (w : Int) s (c : Int)).map Int.toNat

theorem mem_addTo {s : ByteArray} {xs : List Int} {n : Int} {is : Bool} {y : Int} : y ∈ addTo s xs n is ↔ y ∈ xs ∨ (y = n ∧ is = true ∧ openZ s n = true) := by
  unfold addTo
  by_cases h : (is && openZ s n) = true
  · rw [if_pos h]
    simp only [Bool.and_eq_true] at h
    simp [h.1, h.2]
  · rw [if_neg h]
    simp only [Bool.and_eq_true] at h
    exact ⟨.inl, fun h' => by rcases h' with h' | ⟨_, h1, h2⟩; exact h'; exact (h ⟨h1, h2⟩).elim⟩

theorem openZ_nat {s : ByteArray} {y : Int} (h : openZ s y = true) : ∃ k : Nat, y = k ∧ openB s.data.toList k = true := by
  unfold openZ at h
  simp only [Bool.and_eq_true, decide_eq_true_eq] at h
  exact ⟨y.toNat, by omega, h.2⟩

theorem openZ_of {s : ByteArray} {k : Nat} : openZ s (k : Int) = openB s.data.toList k := by
  unfold openZ
  simp

theorem mem_nearI {Wd : Int} {s : ByteArray} {c y : Int} : y ∈ nearI Wd s c ↔ openZ s y = true ∧ (y = c - Wd ∨ (y = c - 1 ∧ 0 < c % Wd) ∨ (y = c + 1 ∧ c % Wd < Wd - 1) ∨ y = c + Wd) := by
  unfold nearI
  simp only [mem_addTo, decide_eq_true_eq, List.not_mem_nil, false_or]
  constructor
  · rintro (((⟨rfl, _, h⟩ | ⟨rfl, h1, h⟩) | ⟨rfl, h1, h⟩) | ⟨rfl, _, h⟩)
    · exact ⟨h, .inl rfl⟩
    · exact ⟨h, .inr (.inl ⟨rfl, h1⟩)⟩
    · exact ⟨h, .inr (.inr (.inl ⟨rfl, h1⟩))⟩
    · exact ⟨h, .inr (.inr (.inr rfl))⟩
  · rintro ⟨h, rfl | ⟨rfl, h1⟩ | ⟨rfl, h1⟩ | rfl⟩
    · exact .inl (.inl (.inl ⟨rfl, trivial, h⟩))
    · exact .inl (.inl (.inr ⟨rfl, h1, h⟩))
    · exact .inl (.inr ⟨rfl, h1, h⟩)
    · exact .inr ⟨rfl, trivial, h⟩

theorem near_cast (w : Nat) (s : ByteArray) (c : Nat) : nearI (w : Int) s (c : Int) = (nearN w s c).map (fun (k : Nat) => (k : Int)) := by
  unfold nearN
  rw [List.map_map]
  conv => lhs; rw [← List.map_id (nearI (w : Int) s (c : Int))]
  apply List.map_congr_left
  intro y hy
  obtain ⟨k, rfl, _⟩ := openZ_nat (mem_nearI.1 hy).1
  simp

theorem beside_iff (w c y : Nat) (h1 : 1 ≤ w) (h8 : w ≤ 8) : besideB w c y = true ↔ ((y : Int) = (c : Int) - w ∨ ((y : Int) = (c : Int) - 1 ∧ 0 < (c : Int) % w) ∨ ((y : Int) = (c : Int) + 1 ∧ (c : Int) % w < (w : Int) - 1) ∨ (y : Int) = (c : Int) + w) := by
  unfold besideB
  have hw : w = 1 ∨ w = 2 ∨ w = 3 ∨ w = 4 ∨ w = 5 ∨ w = 6 ∨ w = 7 ∨ w = 8 := by omega
  rcases hw with rfl | rfl | rfl | rfl | rfl | rfl | rfl | rfl
  all_goals
    split
    · simp only [Bool.or_eq_true, decide_eq_true_eq]
      omega
    · simp only [Bool.or_eq_true, decide_eq_true_eq]
      omega

theorem near_mem {w : Nat} {s : ByteArray} {c : Nat} (h1 : 1 ≤ w) (h8 : w ≤ 8) (y : Nat) : y ∈ nearN w s c ↔ besideB w c y = true ∧ openB s.data.toList y = true := by
  rw [beside_iff w c y h1 h8]
  constructor
  · intro h
    have h' : (y : Int) ∈ nearI (w : Int) s (c : Int) := by
      rw [near_cast]
      exact List.mem_map.2 ⟨y, h, rfl⟩
    have h2 := mem_nearI.1 h'
    rw [openZ_of] at h2
    exact ⟨h2.2, h2.1⟩
  · rintro ⟨h, ho⟩
    have h' : (y : Int) ∈ nearI (w : Int) s (c : Int) := mem_nearI.2 ⟨by rw [openZ_of]; exact ho, h⟩
    rw [near_cast] at h'
    obtain ⟨k, hk, e⟩ := List.mem_map.1 h'
    have : k = y := by omega
    exact this ▸ hk

theorem near_lt {w : Nat} {s : ByteArray} {c y : Nat} (h1 : 1 ≤ w) (h8 : w ≤ 8) (h : y ∈ nearN w s c) : y < s.size := by
  have := open_lt ((near_mem h1 h8 y).1 h).2
  rwa [Array.length_toList] at this

theorem near_len (w : Nat) (s : ByteArray) (c : Nat) : (nearN w s c).length ≤ 4 := by
  unfold nearN nearI
  rw [List.length_map]
  have e1 := addTo_len s [] ((c : Int) - w) true
  have e2 := addTo_len s (addTo s [] ((c : Int) - w) true) ((c : Int) - 1) (decide (0 < (c : Int) % w))
  have e3 := addTo_len s (addTo s (addTo s [] ((c : Int) - w) true) ((c : Int) - 1) (decide (0 < (c : Int) % w))) ((c : Int) + 1) (decide ((c : Int) % w < w - 1))
  have e4 := addTo_len s (addTo s (addTo s (addTo s [] ((c : Int) - w) true) ((c : Int) - 1) (decide (0 < (c : Int) % w))) ((c : Int) + 1) (decide ((c : Int) % w < w - 1))) ((c : Int) + w) true
  simp only [List.length_nil] at e1
  omega

theorem reach_lt {l : List UInt8} {w a i : Nat} (h : Reach l w a i) (ha : a < l.length) : i < l.length := by
  cases h with
  | refl => exact ha
  | step _ _ h => exact open_lt h

/-- what is met are so many at most -/
theorem met_len {l : List UInt8} {w a : Nat} {met : List Nat} (hn : met.Nodup) (hs : ∀ x ∈ met, Reach l w a x) (ha : a < l.length) : met.length ≤ l.length := by
  have := nodup_len met (List.range l.length) hn fun x hx => List.mem_range.2 (reach_lt (hs x hx) ha)
  simpa using this
end Go.Proofs.YtagighbfodlcjaaDoor
