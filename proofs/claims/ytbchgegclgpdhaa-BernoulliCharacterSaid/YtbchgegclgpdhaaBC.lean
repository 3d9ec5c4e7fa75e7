/- BernoulliCharacter: the law. -/
import Derived.Test.YtbchgegclgpdhaaN18
import Derived.Test.YtbchgegclgpdhaaBF
namespace Go.Proofs.Ytbchgegclgpdhaa.V
open Go Go.Proofs.Ytbchgegclgpdhaa.E Go.Proofs.Ytbchgegclgpdhaa.LI Go.Proofs.Ytbchgegclgpdhaa.Num
set_option linter.unusedVariables false
set_option linter.unusedSimpArgs false

theorem sym_ok {a n : Int} (hn : -2147483647 ≤ n ∧ n ≤ 2147483647) : ∃ v, kr a n v ∧ quadformref22_Symbol a n = some v := by
  unfold quadformref22_Symbol
  simp only [quadformref22_Symbol.j1, cite, beq_iff_eq]
  by_cases h0 : n = 0
  · rw [if_pos h0]
    refine ⟨_, .inl ⟨h0, rfl⟩, ?_⟩
    by_cases h1 : a = 1
    · rw [if_pos h1, if_pos (.inl h1)]
    · rw [if_neg h1]
      by_cases h2 : a = -1
      · rw [if_pos h2, if_pos (.inr h2)]
      · rw [if_neg h2, if_neg (by omega)]
  · rw [if_neg h0]
    obtain ⟨m, hm⟩ : ∃ m : Nat, n.natAbs = m := ⟨_, rfl⟩
    obtain ⟨L, hL, hF⟩ := rfactor_nat m (by omega) (by omega)
    obtain ⟨hb, hlen⟩ := fac_bounds hL (by omega)
    refine ⟨_, .inr ⟨h0, L, by rw [hm]; exact hL, rfl⟩, ?_⟩
    have run : ∀ s : Int, sgn3 s → ((quadformref22_Factor (m : Int)).bind fun y7 => (iterL (fun x : Int × Int × (List PW) × Int × Int × Unit => quadformref22_Symbol.s1 x.1 x.2.1 x.2.2.1 x.2.2.2.1 x.2.2.2.2.1) (a, s, y7.1, ((List.length y7.1 : Nat) : Int), (0 : Int), ())).bind fun y => quadformref22_Symbol.k1 y.1) = some (s * val (sy a) L) := fun s hs => by
      have q1 := sym_loop (a := a) L [] s hb (by simpa using hlen) hs
      simp only [List.nil_append] at q1
      have q1' : iterL (fun x : Int × Int × (List PW) × Int × Int × Unit => quadformref22_Symbol.s1 x.1 x.2.1 x.2.2.1 x.2.2.2.1 x.2.2.2.2.1) (a, s, encP L, ((List.length (encP L) : Nat) : Int), (0 : Int), ()) = _ := q1
      rw [hF, Option.bind_some]
      simp only []
      rw [q1', Option.bind_some]
      rfl
    have hw : n < 0 → IntKind.wrap .i64 (0 - n) = (m : Int) := fun h => by rw [wi64 (by omega) (by omega)]; omega
    simp only [quadformref22_Symbol.j2, quadformref22_Symbol.j3, quadformref22_Symbol.j4, quadformref22_Symbol.j8, quadformref22_Symbol.j9, cite, decide_eq_true_eq]
    by_cases h1 : n < 0
    · rw [if_pos h1, hw h1]
      by_cases h2 : a < 0
      · rw [if_pos h2, if_pos ⟨h1, h2⟩]
        exact run (-1) (.inr (.inr rfl))
      · rw [if_neg h2, if_neg (by omega)]
        exact run 1 (.inl rfl)
    · rw [if_neg h1, if_neg (by omega), show n = (m : Int) by omega]
      exact run 1 (.inl rfl)
theorem fund_bound {n : Int} (h : bernoulli_Fundamental n = some true) : -40000 ≤ n ∧ n ≤ 40000 := by
  unfold bernoulli_Fundamental at h
  simp only [cite, beq_iff_eq, decide_eq_true_eq] at h
  by_cases h0 : n = 0
  · omega
  · rw [if_neg h0] at h
    by_cases ha : n > 40000
    · rw [if_pos ha] at h; cases h
    · rw [if_neg ha] at h
      by_cases hb : n < -40000
      · rw [if_pos hb] at h; cases h
      · omega
theorem char_same (a n : Int) : ∃ y : Int × Int × Unit, bernoulli_Character a n = some y ∧ quadformref31_Character a n = some y := by
  obtain ⟨b, h1, h2⟩ := fund_same a
  unfold bernoulli_Character quadformref31_Character
  rw [h1, h2, Option.bind_some, Option.bind_some]
  cases b with
  | false => exact ⟨_, rfl, rfl⟩
  | true =>
    have hb := fund_bound h1
    simp only [bernoulli_Character.j1, quadformref31_Character.j1, cite, decide_eq_true_eq, Bool.not_true]
    rw [if_neg (by decide), if_neg (by decide)]
    by_cases c1 : n < -2147483647
    · rw [if_pos c1, kron_bad (by omega), Option.bind_some]; exact ⟨_, rfl, rfl⟩
    · rw [if_neg c1]
      by_cases c2 : n > 2147483647
      · rw [if_pos c2, kron_bad (by omega), Option.bind_some]; exact ⟨_, rfl, rfl⟩
      · rw [if_neg c2]
        obtain ⟨v, k1, k2⟩ := kron_ok (a := a) (n := n) (by omega) (by omega)
        obtain ⟨v', k1', k2'⟩ := sym_ok (a := a) (n := n) (by omega)
        obtain rfl := kr_unique k1 k1'
        rw [k2, k2', Option.bind_some, Option.bind_some]
        exact ⟨_, rfl, rfl⟩
theorem BernoulliCharacter (a n : Int) (b : Bool) : quadformlaw31_BernoulliCharacter a n b = some true := by
  have key : ∀ x y : Int, quadformlaw31_BernoulliCharacter.j1 x y = some true := fun x y => by
    obtain ⟨c, h1, h2⟩ := char_same x y
    simp only [quadformlaw31_BernoulliCharacter.j1]
    rw [h1, h2, Option.bind_some, Option.bind_some, awake_ok]
    simp
  unfold quadformlaw31_BernoulliCharacter
  rw [key, key]
  cases b <;> rfl
end Go.Proofs.Ytbchgegclgpdhaa.V
