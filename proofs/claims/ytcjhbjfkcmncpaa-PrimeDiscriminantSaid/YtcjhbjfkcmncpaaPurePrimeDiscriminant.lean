/- For every int64 n, the program's fundamental discriminant is the reference's; for n up to 30000 that of n times a square is the same; and the examples of the chapter hold. Conditions: none. -/
import Derived.Test.YtcjhbjfkcmncpaaPR
import Derived.Test.YtcjhbjfkcmncpaaPS
import Derived.Test.YtcjhbjfkcmncpaaQx0
import Derived.Test.YtcjhbjfkcmncpaaQx10
import Derived.Test.YtcjhbjfkcmncpaaQx11
import Derived.Test.YtcjhbjfkcmncpaaQx49
import Derived.Test.YtcjhbjfkcmncpaaQx50
namespace Go.Proofs.Ytcjhbjfkcmncpaa.Pure
open Go.RowKit Go.Proofs.Ytcjhbjfkcmncpaa.Q Go.Proofs.Ytcjhbjfkcmncpaa.Num Go.Proofs.YtcjhbjfkcmncpaaW.PrintWords Go.Proofs.YtcjhbjfkcmncpaaW.PrintLast

theorem PrimeDiscriminant : quadformlaw22_PrimeDiscriminant.Pure := by
  intro n c small _ hc
  have hc' : 0 ≤ c ∧ c ≤ 255 := by simpa [Lit.wf, IntKind.min, IntKind.max, IntKind.signed, IntKind.bits] using hc
  have H : ∀ n, Ev (fun k => quadformlaw22_PrimeDiscriminant.j0 k n c) true := by
    intro n
    obtain ⟨d, e, hd, h1, h2⟩ := both_disc n
    refine Ev.step (f := fun k => (prime_Discriminant.f k n).bind fun x => (quadformref22_Discriminant.f k n).bind fun y => if x.1 = y.1 then quadformlaw22_PrimeDiscriminant.j1 k n c x.1 (x.2 != y.2) else quadformlaw22_PrimeDiscriminant.j1 k n c x.1 true) (fun k => by simp only [quadformlaw22_PrimeDiscriminant.j0]) ?_
    refine Ev.bind h1 (Ev.bind h2 ?_)
    simp only [if_true, bne_self_eq_false]
    have hlast : Ev (fun k => quadformlaw22_PrimeDiscriminant.j2 k n c d true) true := by
      refine Ev.step (f := fun k => (quadformlaw22_awake.f k).bind fun t => some t) (fun k => ?_) (Ev.bind awake_ok (Ev.now true))
      simp only [quadformlaw22_PrimeDiscriminant.j2, if_true]
    by_cases hout : n = 0 ∨ n < -30000 ∨ 30000 < n
    · clear hd
      refine Ev.step (fun k => ?_) hlast
      simp only [quadformlaw22_PrimeDiscriminant.j1]
      rw [if_neg (by simp)]
      split
      · rfl
      · split
        · rfl
        · rw [decide_eq_true (by omega)]
    · have HD := Aside0.mk hd
      clear hd
      obtain ⟨m, hm⟩ : ∃ m : Nat, c = m := ⟨c.toNat, by omega⟩
      have hr1 : wrap64 (wrap64 c + 1) = ((m + 1 : Nat) : Int) := by
        rw [w64 (x := c) (by omega) (by omega), w64 (by omega) (by omega), hm]; rfl
      have hnr : -7680000 ≤ n * ((m + 1 : Nat) : Int) ∧ n * ((m + 1 : Nat) : Int) ≤ 7680000 := by
        have hm2 : m + 1 ≤ 256 := by omega
        constructor
        · have a : (-30000) * ((m + 1 : Nat) : Int) ≤ n * ((m + 1 : Nat) : Int) := Int.mul_le_mul_of_nonneg_right (by omega) (by omega)
          omega
        · have a : n * ((m + 1 : Nat) : Int) ≤ 30000 * ((m + 1 : Nat) : Int) := Int.mul_le_mul_of_nonneg_right (by omega) (by omega)
          omega
      have hnrr : -1966080000 ≤ n * ((m + 1 : Nat) : Int) * ((m + 1 : Nat) : Int) ∧ n * ((m + 1 : Nat) : Int) * ((m + 1 : Nat) : Int) ≤ 1966080000 := by
        constructor
        · have a : (-7680000) * ((m + 1 : Nat) : Int) ≤ n * ((m + 1 : Nat) : Int) * ((m + 1 : Nat) : Int) := Int.mul_le_mul_of_nonneg_right (by omega) (by omega)
          omega
        · have a : n * ((m + 1 : Nat) : Int) * ((m + 1 : Nat) : Int) ≤ 7680000 * ((m + 1 : Nat) : Int) := Int.mul_le_mul_of_nonneg_right (by omega) (by omega)
          omega
      have hw : wrap64 (wrap64 (n * wrap64 (wrap64 c + 1)) * wrap64 (wrap64 c + 1)) = n * ((m + 1 : Nat) : Int) * ((m + 1 : Nat) : Int) := by
        rw [hr1, w64 (x := n * ((m + 1 : Nat) : Int)) (by omega) (by omega), w64 (by omega) (by omega)]
      have hne : n * ((m + 1 : Nat) : Int) * ((m + 1 : Nat) : Int) ≠ 0 := Int.mul_ne_zero (Int.mul_ne_zero (by omega) (by omega)) (by omega)
      have hN1 : ¬ (n = 0 ∨ 2147483647 < n ∨ n < -2147483647) := by omega
      have hN2 : ¬ (n * ((m + 1 : Nat) : Int) * ((m + 1 : Nat) : Int) = 0 ∨ 2147483647 < n * ((m + 1 : Nat) : Int) * ((m + 1 : Nat) : Int) ∨ n * ((m + 1 : Nat) : Int) * ((m + 1 : Nat) : Int) < -2147483647) := by omega
      obtain ⟨d', e', hd', h1', h2'⟩ := both_disc (n * ((m + 1 : Nat) : Int) * ((m + 1 : Nat) : Int))
      have heq : e' = 0 ∧ d' = d := by
        rcases HD.out with ⟨_, _, h⟩ | ⟨_, s, r, hs, hds⟩
        · exact absurd h hN1
        · rcases hd' with ⟨_, _, h⟩ | ⟨he', s', r', hs', hds'⟩
          · exact absurd h hN2
          · have hss := (sqOf_unique hs' (sqOf_times hs (m + 1) (Nat.le_add_left 1 m))).1
            exact ⟨he', by rw [hds', hds, hss]⟩
      clear hd' HD
      obtain ⟨rfl, rfl⟩ := heq
      refine Ev.step (f := fun k => quadformlaw22_PrimeDiscriminant.j2 k n c d' false) (fun k => ?_) ?_
      · simp only [quadformlaw22_PrimeDiscriminant.j1]
        rw [if_neg (by simp), if_neg (by omega), if_neg (by omega), decide_eq_false (by omega)]
      · refine Ev.step (f := fun k => (prime_Discriminant.f k (n * ((m + 1 : Nat) : Int) * ((m + 1 : Nat) : Int))).bind fun x => if x.2 = 0 then if x.1 = d' then (quadformlaw22_awake.f k).bind fun t => some t else some false else some false) (fun k => ?_) ?_
        · simp only [quadformlaw22_PrimeDiscriminant.j2]
          rw [if_neg (by simp), hw]
        · refine Ev.bind h1' ?_
          simp only [if_true]
          exact Ev.bind awake_ok (Ev.now true)
  refine Ev.rounds (g := fun k => quadformlaw22_PrimeDiscriminant.f k n c small) ?_
  cases small
  · exact Ev.congr (fun k => by unfold quadformlaw22_PrimeDiscriminant.f; rw [if_neg (by simp)]) (H n)
  · exact Ev.congr (fun k => by unfold quadformlaw22_PrimeDiscriminant.f; rw [if_pos rfl]) (H _)

end Go.Proofs.Ytcjhbjfkcmncpaa.Pure
