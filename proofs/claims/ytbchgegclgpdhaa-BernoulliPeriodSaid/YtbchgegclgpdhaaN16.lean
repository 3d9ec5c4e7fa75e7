/- Laws: the Kronecker symbol of the program, whole. -/
import Derived.Test.YtbchgegclgpdhaaN15
namespace Go.Proofs.Ytbchgegclgpdhaa.V
open Go Go.Proofs.Ytbchgegclgpdhaa.E Go.Proofs.Ytbchgegclgpdhaa.LI Go.Proofs.Ytbchgegclgpdhaa.Num
set_option linter.unusedVariables false
set_option linter.unusedSimpArgs false

/-- The symbol (a/n) -/
def kr (a n : Int) (v : Int) : Prop :=
  (n = 0 ∧ v = if a = 1 ∨ a = -1 then 1 else 0) ∨ (n ≠ 0 ∧ ∃ L, Fac 1 n.natAbs L ∧ v = (if n < 0 ∧ a < 0 then -1 else 1) * val (sy a) L)

theorem kr_unique {a n v v' : Int} (h : kr a n v) (h' : kr a n v') : v = v' := by
  rcases h with ⟨h0, rfl⟩ | ⟨h0, L, hL, rfl⟩
  · rcases h' with ⟨_, rfl⟩ | ⟨h1, _⟩
    · rfl
    · exact absurd h0 h1
  · rcases h' with ⟨h1, _⟩ | ⟨h1, L', hL', rfl⟩
    · exact absurd h1 h0
    · rw [hL.unique hL']

theorem kron_bad {a n : Int} (h : 2147483647 < a ∨ a < -2147483647 ∨ 2147483647 < n ∨ n < -2147483647) : prime_Kronecker a n = some (0, 1, ()) := by
  unfold prime_Kronecker
  rw [beyond_ok, Option.bind_some]
  simp only [cite, decide_eq_true_eq]
  by_cases h1 : 2147483647 < a ∨ a < -2147483647
  · rw [if_pos h1]
  · rw [if_neg h1, beyond_ok, Option.bind_some, if_pos (by simp only [decide_eq_true_eq]; omega)]
theorem kron_ok {a n : Int} (ha : -2147483647 ≤ a ∧ a ≤ 2147483647) (hn : -2147483647 ≤ n ∧ n ≤ 2147483647) : ∃ v, kr a n v ∧ prime_Kronecker a n = some (v, 0, ()) := by
  unfold prime_Kronecker
  rw [beyond_ok, Option.bind_some, decide_eq_false (by omega), cond_false, beyond_ok, Option.bind_some, decide_eq_false (by omega), cond_false]
  simp only [prime_Kronecker.j1, prime_Kronecker.j2, cite, beq_iff_eq]
  by_cases h0 : n = 0
  · rw [if_pos h0]
    refine ⟨_, .inl ⟨h0, rfl⟩, ?_⟩
    by_cases h1 : a = 1
    · rw [if_pos h1, if_pos (.inl h1)]
    · rw [if_neg h1]
      by_cases h2 : a = -1
      · rw [if_pos h2, if_pos (.inr h2)]
      · rw [if_neg h2, if_neg (by omega)]
  · rw [if_neg h0]
    obtain ⟨m, hm⟩ : ∃ m : Nat, n.natAbs = m := ⟨_, rfl⟩
    obtain ⟨L, hL, hF⟩ := factor_nat m (by omega) (by omega)
    obtain ⟨hb, hlen⟩ := fac_bounds hL (by omega)
    refine ⟨_, .inr ⟨h0, L, by rw [hm]; exact hL, rfl⟩, ?_⟩
    have run : ∀ s : Int, (s = 1 ∨ s = -1) → ((prime_Factor (m : Int)).bind fun y7 => (iterL (fun x : Int × Int × (List PW) × Int × Int × Unit => prime_Kronecker.s0 x.1 x.2.1 x.2.2.1 x.2.2.2.1 x.2.2.2.2.1) (a, s, y7.1, ((List.length y7.1 : Nat) : Int), (0 : Int), ())).bind fun z => Sum.casesOn (motive := fun _ => Option (Int × Int × Unit)) z (fun y => prime_Kronecker.k0_0 y.1) (fun z => prime_Kronecker.k0_1 z.1 z.2.1)) = some (s * val (sy a) L, 0, ()) := fun s hs => by
      obtain ⟨z, q1, q2⟩ := kron_loop (a := a) L [] s hb (by simpa using hlen) hs
      simp only [List.nil_append] at q1
      have q1' : iterL (fun x : Int × Int × (List PW) × Int × Int × Unit => prime_Kronecker.s0 x.1 x.2.1 x.2.2.1 x.2.2.2.1 x.2.2.2.2.1) (a, s, encP L, ((List.length (encP L) : Nat) : Int), (0 : Int), ()) = some z := q1
      rw [hF, Option.bind_some]
      simp only []
      rw [q1', Option.bind_some]
      rcases q2 with rfl | ⟨rfl, q3⟩
      · rfl
      · rw [q3]; rfl
    have hw : n < 0 → IntKind.wrap .i64 (0 - n) = (m : Int) := fun h => by rw [wi64 (by omega) (by omega)]; omega
    simp only [prime_Kronecker.j3, prime_Kronecker.j4, prime_Kronecker.j5, prime_Kronecker.j9, prime_Kronecker.j10, cite, decide_eq_true_eq]
    by_cases h1 : n < 0
    · rw [if_pos h1, hw h1]
      by_cases h2 : a < 0
      · rw [if_pos h2, if_pos ⟨h1, h2⟩]
        exact run (-1) (.inr rfl)
      · rw [if_neg h2, if_neg (by omega)]
        exact run 1 (.inl rfl)
    · rw [if_neg h1, if_neg (by omega), show n = (m : Int) by omega]
      exact run 1 (.inl rfl)
end Go.Proofs.Ytbchgegclgpdhaa.V
