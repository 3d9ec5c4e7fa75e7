/- BernoulliFundamental: the law. -/
import Derived.Test.YtbchgegclgpdhaaN13
import Derived.Test.YtbchgegclgpdhaaA31
namespace Go.Proofs.Ytbchgegclgpdhaa.V
open Go Go.Proofs.Ytbchgegclgpdhaa.E Go.Proofs.Ytbchgegclgpdhaa.LI Go.Proofs.Ytbchgegclgpdhaa.Num
set_option linter.unusedVariables false
set_option linter.unusedSimpArgs false

theorem fund_same (n : Int) : ∃ b : Bool, bernoulli_Fundamental n = some b ∧ quadformref31_Fundamental n = some b := by
  obtain ⟨d, e, h1, h2⟩ := both_disc n
  unfold bernoulli_Fundamental quadformref31_Fundamental
  simp only [bernoulli_Fundamental.j1, quadformref31_Fundamental.j1, cite, beq_iff_eq, decide_eq_true_eq]
  rw [h1, h2]
  simp only [Option.bind_some]
  by_cases h0 : n = 0
  · rw [if_pos h0, if_pos h0]; exact ⟨_, rfl, rfl⟩
  · rw [if_neg h0, if_neg h0]
    by_cases ha : n > 40000
    · rw [if_pos ha, if_neg (by omega), if_pos ha]; exact ⟨_, rfl, rfl⟩
    · rw [if_neg ha]
      by_cases hb : n < -40000
      · rw [if_pos hb, if_pos hb]; exact ⟨_, rfl, rfl⟩
      · rw [if_neg hb, if_neg hb, if_neg ha]; exact ⟨_, rfl, rfl⟩
theorem BernoulliFundamental (n : Int) (b : Bool) : quadformlaw31_BernoulliFundamental n b = some true := by
  have key : ∀ m : Int, quadformlaw31_BernoulliFundamental.j1 m = some true := fun m => by
    obtain ⟨c, h1, h2⟩ := fund_same m
    simp only [quadformlaw31_BernoulliFundamental.j1]
    rw [h1, h2, Option.bind_some, Option.bind_some, awake_ok]
    simp
  unfold quadformlaw31_BernoulliFundamental
  rw [key, key]
  cases b <;> rfl
end Go.Proofs.Ytbchgegclgpdhaa.V
