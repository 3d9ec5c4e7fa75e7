/- For every int64 n, the program's next prime number is the reference's, and the examples of the chapter hold. Conditions: none. -/
import Derived.Test.YtcjhbjfkcmncpaaPR
import Derived.Test.YtcjhbjfkcmncpaaPN
import Derived.Test.YtcjhbjfkcmncpaaQx0
import Derived.Test.YtcjhbjfkcmncpaaQx51
import Derived.Test.YtcjhbjfkcmncpaaQx52
import Derived.Test.YtcjhbjfkcmncpaaQx53
namespace Go.Proofs.Ytcjhbjfkcmncpaa.Pure
open Go.RowKit Go.Proofs.Ytcjhbjfkcmncpaa.Q Go.Proofs.Ytcjhbjfkcmncpaa.Num Go.Proofs.YtcjhbjfkcmncpaaW.PrintWords Go.Proofs.YtcjhbjfkcmncpaaW.PrintLast

theorem PrimeNext : quadformlaw22_PrimeNext.Pure := by
  intro n _
  have H : ∃ (q : Int) (b : Bool), Ev (fun k => prime_Next.f k n) (q, b) ∧ Ev (fun k => quadformref22_Next.f k n) (q, b) := by
    by_cases h : n < 2147483647
    · obtain ⟨q, _, h1, h2⟩ := next_ok h
      exact ⟨_, _, h1, h2⟩
    · exact ⟨_, _, next_big (by omega)⟩
  obtain ⟨q, b, h1, h2⟩ := H
  refine Ev.rounds (g := fun k => quadformlaw22_PrimeNext.f k n) ?_
  refine Ev.congr (fun k => by unfold quadformlaw22_PrimeNext.f; rfl) ?_
  refine Ev.bind h1 (Ev.bind h2 ?_)
  simp only [if_true, beq_self_eq_true]
  exact Ev.bind awake_ok (Ev.now true)

end Go.Proofs.Ytcjhbjfkcmncpaa.Pure
