/-
  text.Read at every line: by what the plain function 'readP' says.
-/
import Derived.Test.YtedgoagonagdjaaDoorReadC
namespace Go.Proofs.YtedgoagonagdjaaDoor
open Go.RowKit

theorem read_some (line x : ByteArray) (t : Abc) (hl : line.size ≤ 100000) (h : readP line = some (x, t)) (w : World) (hv : Vars w) :
    Calls Tryd.prog 14 #[.string line] w (ReadOk w x t) := by
  unfold readP at h
  split at h
  case isFalse => cases h
  rename_i hend
  obtain ⟨y, ys, hw⟩ := words_ne line
  rw [hw] at h
  simp only at h
  cases hwant : wantOf y with
  | none => rw [hwant] at h; cases h
  | some what =>
    rw [hwant] at h
    simp only at h
    split at h
    case isFalse => cases h
    rename_i hlen
    cases hn : nums ys with
    | none => rw [hn] at h; cases h
    | some vs =>
      rw [hn] at h
      simp only [Option.map_some, Option.some.injEq, Prod.mk.injEq] at h
      obtain ⟨rfl, rfl⟩ := h
      exact read_ok line y what ys vs hl hend hw hwant hlen hn w hv

theorem read_none (line : ByteArray) (hl : line.size ≤ 100000) (h : readP line = none) (w : World) (hv : Vars w) :
    Calls Tryd.prog 14 #[.string line] w (ReadBad w) := by
  unfold readP at h
  obtain ⟨y, ys, hw⟩ := words_ne line
  cases hend : Lib.hasSuffix line.data.toList [10] with
  | false => exact read_open line y ys hl hw hend w hv
  | true =>
    rw [if_pos hend, hw] at h
    simp only at h
    cases hwant : wantOf y with
    | none => exact read_word line y ys hl hw hend hwant w hv
    | some what =>
      rw [hwant] at h
      simp only at h
      by_cases hlen : ys.length = what.size
      · rw [if_pos hlen] at h
        cases hn : nums ys with
        | none => exact read_num line y what ys hl hend hw hwant hlen hn w hv
        | some vs => rw [hn] at h; cases h
      · exact read_many line y ys hl hw what hend hwant hlen w hv

theorem read_word_size {line x : ByteArray} {t : Abc} (h : readP line = some (x, t)) : x.size ≤ line.size := by
  unfold readP at h
  split at h
  case isFalse => cases h
  obtain ⟨y, ys, hw⟩ := words_ne line
  rw [hw] at h
  simp only at h
  have := words_size line y (by rw [hw]; simp)
  split at h
  · cases h
  · split at h
    · cases hn : nums ys with
      | none => rw [hn] at h; cases h
      | some vs => rw [hn] at h; simp only [Option.map_some, Option.some.injEq, Prod.mk.injEq] at h; rw [← h.1]; exact this
    · cases h
end Go.Proofs.YtedgoagonagdjaaDoor
