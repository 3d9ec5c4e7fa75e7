/- A cut whose capacity is its length. -/
import Derived.Test.YtcjhbjfkcmncpaaWMore
namespace Go.Proofs.YtcjhbjfkcmncpaaW.PrintWords
open Go.RowKit
section
variable {P : Program}
theorem cut_cap (t e : TypeId) (kh : IntKind) {i : TypeInfo} (ht : P.underlying t = some (.slice e)) (hi : P.info? e = some i) (A : Option Addr) (n c : Nat) (j : Int) (h0 : 0 ≤ j) (hm : j ≤ n) (hc : n ≤ c) :
    ∀ W : World, (Instr.slice t (.slice A n c) none (some (.int kh j)) (some (.int kh j))).run P W = .ok (.slice A j.toNat j.toNat) W := by
  intro W
  have hel : P.elem t = e := by simp [Program.elem, ht]
  have hu : P.underlying t = some (.slice (P.elem t)) := by rw [hel]; exact ht
  have ha : (A.map fun x => x.add 0) = A := by cases A <;> simp [Addr.add]
  rw [run_slice_hm W t A n c hu kh kh j j h0 (Int.le_refl _) (by omega), hel]
  simp [sizeOf, typeInfo, hi, sliced, Result.andThen, ha]
end
end Go.Proofs.YtcjhbjfkcmncpaaW.PrintWords
