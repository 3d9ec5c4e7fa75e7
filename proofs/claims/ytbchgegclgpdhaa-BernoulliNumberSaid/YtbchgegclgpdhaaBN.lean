/- BernoulliNumber: the law. -/
import Derived.Test.YtbchgegclgpdhaaB1
import Derived.Test.YtbchgegclgpdhaaA31
namespace Go.Proofs.Ytbchgegclgpdhaa.V
open Go Go.Proofs.Ytbchgegclgpdhaa.E Go.Proofs.Ytbchgegclgpdhaa.LI
set_option linter.unusedVariables false
set_option linter.unusedSimpArgs false
theorem number_same (k : Int) : quadformlaw31_BernoulliNumber.j1 k = some true := by
  simp only [quadformlaw31_BernoulliNumber.j1, etaI, etaQ, etaP]
  by_cases h : k < 0 ∨ 20 < k
  · rw [number_bad h, rnumber_bad h, Option.bind_some, Option.bind_some]
    simp only [cite, beq_self_eq_true, if_true]
    rw [zsame, Option.bind_some, if_pos rfl, awake_ok, Option.bind_some]
  · obtain ⟨n, rfl⟩ : ∃ n : Nat, k = n := ⟨k.toNat, by omega⟩
    have hn : n ≤ 20 := by omega
    rw [number_ok hn, rnumber_ok hn, Option.bind_some, Option.bind_some]
    simp only [cite, beq_self_eq_true, if_true]
    rw [rsameQ (bern_bd hn (Nat.le_refl n)).1 (by omega), Option.bind_some, decide_eq_true rfl, if_pos rfl, awake_ok, Option.bind_some]
theorem BernoulliNumber (k : Int) (b : Bool) : quadformlaw31_BernoulliNumber k b = some true := by
  unfold quadformlaw31_BernoulliNumber
  rw [number_same, number_same]
  cases b <;> rfl
end Go.Proofs.Ytbchgegclgpdhaa.V
