/- For every int64 n, no number between n modulo 1000000 and its next prime number is a prime number, and the examples of the chapter hold. Conditions: none. -/
import Derived.Test.YtcjhbjfkcmncpaaPR
import Derived.Test.YtcjhbjfkcmncpaaPN
import Derived.Test.YtcjhbjfkcmncpaaQx0
import Derived.Test.YtcjhbjfkcmncpaaQx2
import Derived.Test.YtcjhbjfkcmncpaaQx11
import Derived.Test.YtcjhbjfkcmncpaaQx54
namespace Go.Proofs.Ytcjhbjfkcmncpaa.Pure
open Go.RowKit Go.Proofs.Ytcjhbjfkcmncpaa.Q Go.Proofs.Ytcjhbjfkcmncpaa.Num Go.Proofs.YtcjhbjfkcmncpaaW.PrintWords Go.Proofs.YtcjhbjfkcmncpaaW.PrintLast Go.Proofs.YtcjhbjfkcmncpaaW.PrintMore

theorem gaps_loop (q : Nat) (hq : q ≤ 2147483647) (x0 : Nat) (hx0 : 2 ≤ x0) (hno : ∀ y, x0 ≤ y → y < q → ¬ Pr y) :
    ∀ (t x : Nat), q - x = t → x0 ≤ x → Ev (fun k => quadformlaw22_PrimeGaps.l0 k q x) true := by
  intro t
  induction t with
  | zero =>
    intro x ht hx
    refine Ev.step (f := fun k => (quadformlaw22_awake.f k).bind fun t => some t) (fun k => ?_) (Ev.bind awake_ok (Ev.now true))
    simp only [quadformlaw22_PrimeGaps.l0]
    rw [if_neg (by omega)]
  | succ t ih =>
    intro x ht hx
    obtain ⟨b, hb, hE⟩ := is_nat x (by omega) (by omega)
    have hbf : b = false := by
      cases b with
      | false => rfl
      | true => exact absurd (hb.1 rfl) (hno x hx (by omega))
    subst hbf
    refine Ev.step (f := fun k => (prime_Is.f k x).bind fun u => if u = true then some false else quadformlaw22_PrimeGaps.l0 k q ((x + 1 : Nat) : Int)) (fun k => ?_) (Ev.bind hE ?_)
    · simp only [quadformlaw22_PrimeGaps.l0]
      rw [if_pos (by omega), w64 (x := (x : Int) + 1) (by omega) (by omega)]
      rfl
    · refine Ev.congr (fun k => ?_) (ih (x + 1) (by omega) (by omega))
      rw [if_neg (by simp)]

theorem PrimeGaps : quadformlaw22_PrimeGaps.Pure := by
  intro n0 hn0
  have hb : -1000000 < Int.tmod n0 1000000 ∧ Int.tmod n0 1000000 < 1000000 := by
    have a := Int.tmod_lt_of_pos n0 (show (0 : Int) < 1000000 by omega)
    have b := Int.tmod_lt_of_pos (-n0) (show (0 : Int) < 1000000 by omega)
    rw [Int.neg_tmod] at b
    omega
  refine Ev.rounds (g := fun k => quadformlaw22_PrimeGaps.f k n0) ?_
  refine Ev.congr (fun k => by unfold quadformlaw22_PrimeGaps.f; rfl) ?_
  generalize Int.tmod n0 1000000 = n at hb ⊢
  obtain ⟨q, ⟨q1, q2, q3, q4⟩, h1, _⟩ := next_ok (n := n) (by omega)
  refine Ev.bind h1 ?_
  have hx : ∃ x0 : Nat, 2 ≤ x0 ∧ x0 ≤ q ∧ mx (wrap64 (n + 1)) 2 = x0 ∧ n < q ∧ ∀ y, x0 ≤ y → y < q → ¬ Pr y := by
    rw [w64 (by omega) (by omega)]
    by_cases h2 : n < 2
    · rw [if_pos h2] at q1 q4
      refine ⟨2, by omega, q1, ?_, by omega, q4⟩
      unfold mx
      split <;> omega
    · rw [if_neg h2] at q1 q4
      refine ⟨n.toNat + 1, by omega, q1, ?_, by omega, q4⟩
      unfold mx
      rw [if_neg (by omega)]
      omega
  obtain ⟨x0, hx0, hxq, hmx, hnq, hno⟩ := hx
  refine Ev.congr (f := fun k => (prime_Is.f k q).bind fun u => quadformlaw22_PrimeGaps.j0 k n q (!u)) (fun k => ?_) ?_
  · simp only [if_true]
    rw [if_neg (by omega)]
  · refine Ev.bind (is_prime q3 q2) ?_
    refine Ev.step (f := fun k => quadformlaw22_PrimeGaps.l0 k q x0) (fun k => ?_) (gaps_loop q q2 x0 hx0 hno _ x0 rfl (Nat.le_refl _))
    simp only [quadformlaw22_PrimeGaps.j0]
    rw [if_neg (by simp), hmx]

end Go.Proofs.Ytcjhbjfkcmncpaa.Pure
