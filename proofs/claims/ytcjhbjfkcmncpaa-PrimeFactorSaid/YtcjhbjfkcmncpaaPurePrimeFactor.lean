/- For every int64 n, the program's factorization is the reference's, and the examples of the chapter hold. Conditions: none. -/
import Derived.Test.YtcjhbjfkcmncpaaPR
import Derived.Test.YtcjhbjfkcmncpaaQx0
import Derived.Test.YtcjhbjfkcmncpaaQx4
import Derived.Test.YtcjhbjfkcmncpaaQx13
import Derived.Test.YtcjhbjfkcmncpaaQx15
namespace Go.Proofs.Ytcjhbjfkcmncpaa.Pure
open Go.RowKit Go.Proofs.Ytcjhbjfkcmncpaa.Q Go.Proofs.Ytcjhbjfkcmncpaa.Num Go.Proofs.YtcjhbjfkcmncpaaW.PrintWords Go.Proofs.YtcjhbjfkcmncpaaW.PrintLast

theorem PrimeFactor : quadformlaw22_PrimeFactor.Pure := by
  intro a _
  have H : ∃ (L : List S30) (e : Int), L.length ≤ 100 ∧ Ev (fun k => prime_Factor.f k a) (L, e) ∧ Ev (fun k => quadformref22_Factor.f k a) (L, e) := by
    by_cases h : a < 1 ∨ 2147483647 < a
    · exact ⟨[], 1, by simp, factor_bad h, rfactor_bad h⟩
    · obtain ⟨n, rfl⟩ : ∃ n : Nat, a = n := ⟨a.toNat, by omega⟩
      obtain ⟨L, hL, h1⟩ := factor_nat n (by omega) (by omega)
      obtain ⟨L', hL', h2⟩ := rfactor_nat n (by omega) (by omega)
      have := hL.unique hL'
      subst this
      exact ⟨encP L, 0, by rw [encP_length]; exact (fac_bounds hL (by omega)).2, h1, h2⟩
  obtain ⟨L, e, hl, h1, h2⟩ := H
  refine Ev.rounds (g := fun k => quadformlaw22_PrimeFactor.f k a) ?_
  refine Ev.congr (fun k => by unfold quadformlaw22_PrimeFactor.f; rfl) ?_
  refine Ev.bind h1 (Ev.bind h2 ?_)
  simp only [if_true]
  refine Ev.bind (same_powers L hl) ?_
  simp only [if_true]
  exact Ev.bind awake_ok (Ev.now true)

end Go.Proofs.Ytcjhbjfkcmncpaa.Pure
