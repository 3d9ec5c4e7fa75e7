/- A nonzero square modulo each odd prime number of the statement has the Kronecker symbol 1, exactly half of the units are squares, and the examples of the chapter hold. Conditions: none. -/
import Derived.Test.YtcjhbjfkcmncpaaPR
import Derived.Test.YtcjhbjfkcmncpaaQx0
import Derived.Test.YtcjhbjfkcmncpaaQx45
import Derived.Test.YtcjhbjfkcmncpaaQx46
namespace Go.Proofs.Ytcjhbjfkcmncpaa.Pure
open Go.RowKit Go.Proofs.Ytcjhbjfkcmncpaa.Q Go.Proofs.Ytcjhbjfkcmncpaa.Num Go.Proofs.YtcjhbjfkcmncpaaW.PrintWords Go.Proofs.YtcjhbjfkcmncpaaW.PrintLast

theorem PrimeSquares : quadformlaw22_PrimeSquares.Pure := by
  intro c hc
  have hc' : 0 ≤ c ∧ c ≤ 255 := by simpa [Lit.wf, IntKind.min, IntKind.max, IntKind.signed, IntKind.bits] using hc
  obtain ⟨m, rfl⟩ : ∃ m : Nat, c = m := ⟨c.toNat, by omega⟩
  have hm : ∀ k, quadformlaw22_PrimeSquares.f k m = quadformlaw22_PrimeSquares.f k ((m % 8 : Nat) : Int) := by
    intro k
    unfold quadformlaw22_PrimeSquares.f quadformscene_OddPrime.f
    rw [show Int.tmod (m : Int) 8 = ((m % 8 : Nat) : Int) from tmod_nat m 8, show Int.tmod ((m % 8 : Nat) : Int) 8 = ((m % 8 % 8 : Nat) : Int) from tmod_nat (m % 8) 8, Nat.mod_mod]
  refine ⟨120, ?_⟩
  rw [hm]
  have h8 : m % 8 = 0 ∨ m % 8 = 1 ∨ m % 8 = 2 ∨ m % 8 = 3 ∨ m % 8 = 4 ∨ m % 8 = 5 ∨ m % 8 = 6 ∨ m % 8 = 7 := by omega
  rcases h8 with h | h | h | h | h | h | h | h <;> rw [h]
  · exact (show quadformlaw22_PrimeSquares.f 120 ((0 : Nat) : Int) = some true by kernel_rfl)
  · exact (show quadformlaw22_PrimeSquares.f 120 ((1 : Nat) : Int) = some true by kernel_rfl)
  · exact (show quadformlaw22_PrimeSquares.f 120 ((2 : Nat) : Int) = some true by kernel_rfl)
  · exact (show quadformlaw22_PrimeSquares.f 120 ((3 : Nat) : Int) = some true by kernel_rfl)
  · exact (show quadformlaw22_PrimeSquares.f 120 ((4 : Nat) : Int) = some true by kernel_rfl)
  · exact (show quadformlaw22_PrimeSquares.f 120 ((5 : Nat) : Int) = some true by kernel_rfl)
  · exact (show quadformlaw22_PrimeSquares.f 120 ((6 : Nat) : Int) = some true by kernel_rfl)
  · exact (show quadformlaw22_PrimeSquares.f 120 ((7 : Nat) : Int) = some true by kernel_rfl)

end Go.Proofs.Ytcjhbjfkcmncpaa.Pure
