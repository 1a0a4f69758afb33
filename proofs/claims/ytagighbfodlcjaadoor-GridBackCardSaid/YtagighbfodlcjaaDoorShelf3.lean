/-
  The shelf's contracts at this dump, in plain words, as the kit's own command wrote them: those that this claim leans on.
-/
import Derived.Shelf.Strings.BuilderK
import Derived.Test.YtagighbfodlcjaaDoorProg
import Derived.Test.YtagighbfodlcjaaDoorShelf
namespace Go.Proofs
open Go.Shelf
open Go.RowKit in
theorem Tryd.Builder_String_any_k (B b : Nat) (l : List UInt8) (w : World) (h : Lib.IsBuilderF 55 5 B b (Lib.byteCells l) w) (hBw : B ≤ w.heap.size) :
    Calls Tryd.prog 27 #[.pointer (some ⟨b, 0, none⟩)] w fun e w' => e = .returned (.string ⟨l.toArray⟩) ∧ (Lib.IsBuilderF 55 5 B b (Lib.byteCells l) w' ∧ Below B w w' ∧ Lib.OthersKept 5 (some b) w w') := Any.Builder_String_any_k Tryd.lays169 Tryd.Builder_Extra_169 B b l w h hBw
end Go.Proofs
