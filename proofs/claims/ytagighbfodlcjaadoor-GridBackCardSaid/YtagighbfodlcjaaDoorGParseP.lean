/-
  What grid.Parse makes of a text's lines. Plain.
-/
import Derived.Test.YtagighbfodlcjaaDoorGRightB
import Derived.Test.YtagighbfodlcjaaDoorLines
namespace Go.Proofs.YtagighbfodlcjaaDoor

theorem mem_flat : ∀ {L : List (List UInt8)} {x : List UInt8}, x ∈ L → x.length ≤ L.flatten.length
  | y :: L, x, h => by
    rw [List.flatten_cons, List.length_append]
    rcases List.mem_cons.1 h with rfl | h
    · omega
    · have := mem_flat h; omega
theorem lines_mem {l : List UInt8} {x : List UInt8} (h : x ∈ linesL l) : x.length ≤ l.length := by
  have h1 := mem_flat h
  rwa [lines_flat] at h1
theorem linesB_mem {s x : ByteArray} (h : x ∈ linesB s) : x.size ≤ s.size := by
  obtain ⟨l, hl, rfl⟩ := List.mem_map.1 h
  have := lines_mem hl
  rw [size_list, size_list]
  simpa using this

/-- the map as far as it is read -/
structure PS where
  w : Nat
  h : Nat
  c : ByteArray

def rowOf (x : ByteArray) : ByteArray := ⟨(Lib.trimSuffix x.data.toList [10]).toArray⟩
def ended (x : ByteArray) : Bool := Lib.hasSuffix x.data.toList [10]

def stepP (st : PS) (x : ByteArray) : Option PS :=
  if ended x = true ∧ (0 < st.h → (rowOf x).size = st.w) ∧ st.h ≠ 8 then some ⟨(rowOf x).size, st.h + 1, st.c ++ rowOf x⟩ else none

def foldP : List ByteArray → PS → Option PS
  | [], st => some st
  | x :: xs, st => (stepP st x).bind (foldP xs)

def PS0 : PS := ⟨0, 0, ⟨#[]⟩⟩

theorem foldP_snoc : ∀ (xs : List ByteArray) (x : ByteArray) (st : PS), foldP (xs ++ [x]) st = (foldP xs st).bind (stepP · x)
  | [], x, st => by
    show (stepP st x).bind (foldP []) = stepP st x
    cases stepP st x <;> rfl
  | y :: xs, x, st => by
    show (stepP st y).bind (foldP (xs ++ [x])) = ((stepP st y).bind (foldP xs)).bind (stepP · x)
    cases stepP st y with
    | none => rfl
    | some st' => exact foldP_snoc xs x st'

theorem foldP_pre : ∀ (p q : List ByteArray) (st : PS), foldP p st = none → foldP (p ++ q) st = none
  | [], q, st, h => by cases h
  | y :: p, q, st, h => by
    show (stepP st y).bind (foldP (p ++ q)) = none
    cases hs : stepP st y with
    | none => rfl
    | some st' =>
      have h2 : (stepP st y).bind (foldP p) = none := h
      rw [hs] at h2
      exact foldP_pre p q st' h2

theorem row_le (x : ByteArray) : (rowOf x).size ≤ x.size := by
  unfold rowOf
  show ((Lib.trimSuffix x.data.toList [10]).toArray).size ≤ x.size
  rw [List.size_toArray, size_list]
  unfold Lib.trimSuffix
  split <;> simp

theorem foldP_ok : ∀ (xs : List ByteArray) (st st' : PS), foldP xs st = some st' → (∀ x ∈ xs, x.size ≤ 1000) → st.h ≤ 8 → st.c.size ≤ 1000 * st.h → st.w ≤ 1000 →
    st'.h ≤ 8 ∧ st'.c.size ≤ 1000 * st'.h ∧ st'.w ≤ 1000
  | [], st, st', h, _, h1, h2, h3 => by cases h; exact ⟨h1, h2, h3⟩
  | x :: xs, st, st', h, hx, h1, h2, h3 => by
    have h4 : (stepP st x).bind (foldP xs) = some st' := h
    unfold stepP at h4
    split at h4
    · rename_i hc
      have hr := row_le x
      have hxx := hx x (by simp)
      exact foldP_ok xs _ st' h4 (fun y hy => hx y (by simp [hy])) (by show st.h + 1 ≤ 8; omega) (by show (st.c ++ rowOf x).size ≤ 1000 * (st.h + 1); rw [ByteArray.size_append]; omega) (by show (rowOf x).size ≤ 1000; omega)
    · cases h4

/-- what Parse answers -/
noncomputable def parseP (s : ByteArray) : Option PS :=
  match foldP (linesB s) PS0 with
  | some st => if rightB (st.w : Int) (st.h : Int) st.c = true then some st else none
  | none => none
end Go.Proofs.YtagighbfodlcjaaDoor
