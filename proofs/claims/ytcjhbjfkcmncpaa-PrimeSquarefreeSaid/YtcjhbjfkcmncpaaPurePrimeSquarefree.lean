/- For every int64 n, the program's squarefree part and root are the reference's, and the examples of the chapter hold. Conditions: none. -/
import Derived.Test.YtcjhbjfkcmncpaaPR
import Derived.Test.YtcjhbjfkcmncpaaPS
import Derived.Test.YtcjhbjfkcmncpaaQx0
import Derived.Test.YtcjhbjfkcmncpaaQx9
import Derived.Test.YtcjhbjfkcmncpaaQx11
import Derived.Test.YtcjhbjfkcmncpaaQx47
import Derived.Test.YtcjhbjfkcmncpaaQx48
namespace Go.Proofs.Ytcjhbjfkcmncpaa.Pure
open Go.RowKit Go.Proofs.Ytcjhbjfkcmncpaa.Q Go.Proofs.Ytcjhbjfkcmncpaa.Num Go.Proofs.YtcjhbjfkcmncpaaW.PrintWords Go.Proofs.YtcjhbjfkcmncpaaW.PrintLast

theorem PrimeSquarefree : quadformlaw22_PrimeSquarefree.Pure := by
  intro n small _
  have H : ∀ n, Ev (fun k => (prime_Squarefree.f k n).bind fun x => (quadformref22_Squarefree.f k n).bind fun y => if x.1 = y.1 then if x.2.1 = y.2.1 then if x.2.2 = y.2.2 then (quadformlaw22_awake.f k).bind fun t => some t else some false else some false else some false) true := by
    intro n
    obtain ⟨s, r, e, _, h1, h2⟩ := both_sqf n
    refine Ev.bind h1 (Ev.bind h2 ?_)
    simp only [if_true]
    exact Ev.bind awake_ok (Ev.now true)
  refine Ev.rounds (g := fun k => quadformlaw22_PrimeSquarefree.f k n small) ?_
  cases small
  · exact Ev.congr (fun k => by unfold quadformlaw22_PrimeSquarefree.f; rw [if_neg (by simp)]) (H n)
  · exact Ev.congr (fun k => by unfold quadformlaw22_PrimeSquarefree.f; rw [if_pos rfl]) (H _)

end Go.Proofs.Ytcjhbjfkcmncpaa.Pure
