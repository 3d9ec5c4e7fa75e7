/- For every int64 n, the program's prime test answers as the reference's, and the examples of the chapter hold. Conditions: none. -/
import Derived.Test.YtcjhbjfkcmncpaaPR
import Derived.Test.YtcjhbjfkcmncpaaQx0
import Derived.Test.YtcjhbjfkcmncpaaQx2
import Derived.Test.YtcjhbjfkcmncpaaQx11
import Derived.Test.YtcjhbjfkcmncpaaQx12
namespace Go.Proofs.Ytcjhbjfkcmncpaa.Pure
open Go.RowKit Go.Proofs.Ytcjhbjfkcmncpaa.Q Go.Proofs.YtcjhbjfkcmncpaaW.PrintWords Go.Proofs.YtcjhbjfkcmncpaaW.PrintLast

theorem PrimeIs : quadformlaw22_PrimeIs.Pure := by
  intro a _
  obtain ⟨b, _, hb⟩ := is_any a
  refine Ev.rounds (g := fun k => quadformlaw22_PrimeIs.f k a) ?_
  refine Ev.congr (f := fun k => (prime_Is.f k a).bind fun t => (prime_Is.f k a).bind fun u => if (t == u) = true then (quadformlaw22_awake.f k).bind fun v => some v else some false) (fun k => ?_) ?_
  · unfold quadformlaw22_PrimeIs.f
    rw [ref_is]
  · refine Ev.bind hb (Ev.bind hb ?_)
    simp only [beq_self_eq_true, if_true]
    exact Ev.bind awake_ok (Ev.now true)

end Go.Proofs.Ytcjhbjfkcmncpaa.Pure
