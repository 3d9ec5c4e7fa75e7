/- Laws: the symbol modulo any prime number, of the program and of the reference. -/
import Derived.Test.YtbchgegclgpdhaaLeg
import Derived.Test.YtbchgegclgpdhaaN12
namespace Go.Proofs.Ytbchgegclgpdhaa.V
open Go Go.Proofs.Ytbchgegclgpdhaa.E Go.Proofs.Ytbchgegclgpdhaa.LI Go.Proofs.Ytbchgegclgpdhaa.Num
set_option linter.unusedVariables false
set_option linter.unusedSimpArgs false

theorem emod_res {a : Int} {p : Nat} (hp : 2 ≤ p) : ∃ r : Nat, a % (p : Int) = r ∧ r < p := by
  have h0 := Int.emod_nonneg a (show (p : Int) ≠ 0 by omega)
  have h1 := Int.emod_lt_of_pos a (show (0 : Int) < p by omega)
  exact ⟨(a % (p : Int)).toNat, by omega, by omega⟩
theorem symbol_ok {p : Nat} (hp : Pr p) (hpM : p ≤ 2147483647) (a : Int) : prime_symbol a (p : Int) = some (sy a p) := by
  have hp2 := hp.1
  obtain ⟨r, hr, hrp⟩ := emod_res (a := a) hp2
  by_cases h2 : p = 2
  · subst h2
    unfold prime_symbol sy
    simp only [cite, beq_iff_eq]
    have h8 := residue_ok a 8 (by omega) (by omega)
    have h8' : prime_residue a 8 = some (a % 8) := h8
    rw [if_pos (by rfl), h8', Option.bind_some, if_pos trivial]
    simp only [prime_symbol.j1, prime_symbol.j2, prime_symbol.j3, prime_symbol.j4, cite, beq_iff_eq]
    have h9 : a % 8 = 0 ∨ a % 8 = 1 ∨ a % 8 = 2 ∨ a % 8 = 3 ∨ a % 8 = 4 ∨ a % 8 = 5 ∨ a % 8 = 6 ∨ a % 8 = 7 := by omega
    rcases h9 with h | h | h | h | h | h | h | h <;> simp [h]
  · unfold sy
    rw [if_neg h2]
    by_cases hz : a % (p : Int) = 0
    · unfold prime_symbol
      simp only [prime_symbol.j5, cite, beq_iff_eq]
      rw [if_neg (by omega), residue_ok a p (by omega) hpM, Option.bind_some, if_pos hz, if_pos hz]
    · rw [if_neg hz]
      have h := symbol_unit hp h2 hpM (r := r) (by omega) hrp
      unfold prime_symbol at h ⊢
      simp only [prime_symbol.j5, cite, beq_iff_eq] at h ⊢
      rw [if_neg (by omega)] at h ⊢
      rw [residue_ok (r : Int) p (by omega) hpM, Option.bind_some, Int.emod_eq_of_lt (by omega) (by omega)] at h
      rw [residue_ok a p (by omega) hpM, Option.bind_some, hr, h, Int.toNat_natCast]
      rfl
end Go.Proofs.Ytbchgegclgpdhaa.V
