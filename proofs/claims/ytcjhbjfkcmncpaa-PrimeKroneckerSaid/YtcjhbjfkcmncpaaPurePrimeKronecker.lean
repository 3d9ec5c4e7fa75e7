/- For all int64 a and n, the program's Kronecker symbol is the reference's, and the examples of the chapter hold. Conditions: none. -/
import Derived.Test.YtcjhbjfkcmncpaaPR
import Derived.Test.YtcjhbjfkcmncpaaQx0
import Derived.Test.YtcjhbjfkcmncpaaQx8
import Derived.Test.YtcjhbjfkcmncpaaQx11
import Derived.Test.YtcjhbjfkcmncpaaQx22
import Derived.Test.YtcjhbjfkcmncpaaQx23
namespace Go.Proofs.Ytcjhbjfkcmncpaa.Pure
open Go.RowKit Go.Proofs.Ytcjhbjfkcmncpaa.Q Go.Proofs.Ytcjhbjfkcmncpaa.Num Go.Proofs.YtcjhbjfkcmncpaaW.PrintWords Go.Proofs.YtcjhbjfkcmncpaaW.PrintLast

theorem both_kron (a n : Int) : ∃ v e : Int, Ev (fun k => prime_Kronecker.f k a n) (v, e) ∧ Ev (fun k => quadformref22_Kronecker.f k a n) (v, e) := by
  by_cases h : 2147483647 < a ∨ a < -2147483647 ∨ 2147483647 < n ∨ n < -2147483647
  · exact ⟨0, 1, kron_bad h, rkron_bad h⟩
  · obtain ⟨v, h1, _, h2⟩ := kron_ok (a := a) (n := n) (by omega) (by omega)
    obtain ⟨v', h1', _, h2'⟩ := rkron_ok (a := a) (n := n) (by omega) (by omega)
    have := kr_unique h1 h1'
    subst this
    exact ⟨v, 0, h2, h2'⟩

theorem PrimeKronecker : quadformlaw22_PrimeKronecker.Pure := by
  intro a n small _ _
  have H : ∀ a n, Ev (fun k => (prime_Kronecker.f k a n).bind fun x => (quadformref22_Kronecker.f k a n).bind fun y => if x.1 = y.1 then if x.2 = y.2 then (quadformlaw22_awake.f k).bind fun t => some t else some false else some false) true := by
    intro a n
    obtain ⟨v, e, h1, h2⟩ := both_kron a n
    refine Ev.bind h1 (Ev.bind h2 ?_)
    simp only [if_true]
    exact Ev.bind awake_ok (Ev.now true)
  refine Ev.rounds (g := fun k => quadformlaw22_PrimeKronecker.f k a n small) ?_
  cases small
  · exact Ev.congr (fun k => by unfold quadformlaw22_PrimeKronecker.f; rw [if_neg (by simp)]) (H a n)
  · exact Ev.congr (fun k => by unfold quadformlaw22_PrimeKronecker.f; rw [if_pos rfl]) (H _ _)

end Go.Proofs.Ytcjhbjfkcmncpaa.Pure
