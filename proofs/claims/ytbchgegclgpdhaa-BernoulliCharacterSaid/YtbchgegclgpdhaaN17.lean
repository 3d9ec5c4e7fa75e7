/- Laws: the reference's symbols and factor lists. -/
import Derived.Test.YtbchgegclgpdhaaN16
namespace Go.Proofs.Ytbchgegclgpdhaa.V
open Go Go.Proofs.Ytbchgegclgpdhaa.E Go.Proofs.Ytbchgegclgpdhaa.LI Go.Proofs.Ytbchgegclgpdhaa.Num
set_option linter.unusedVariables false
set_option linter.unusedSimpArgs false

theorem ref_strip_same : quadformref22_Factor.s0 = prime_Factor.s1 := rfl
theorem rfac_loop : ∀ (t d n : Nat) (acc : List PW), 46342 - d = t → 2 ≤ d → d ≤ 46341 → 1 ≤ n → n ≤ 2147483647 → (∀ q, 2 ≤ q → q ∣ n → d ≤ q) → acc.length + t ≤ 100000 →
    ∃ (n' : Int) (acc' : List PW) (L : List (Nat × Nat)), iterL (fun x : Int × Int × (List PW) × Unit => quadformref22_Factor.s1 x.1 x.2.1 x.2.2.1) ((n : Int), (d : Int), acc, ()) = some (n', acc', ()) ∧ Fac 1 n L ∧ quadformref22_Factor.k1 n' acc' = some (acc ++ encP L, 0, ())
  | 0, d, n, acc, ht, hd2, hd, h1, hn, hlo, hacc => by omega
  | t + 1, d, n, acc, ht, hd2, hd, h1, hn, hlo, hacc => by
    by_cases hle : d * d ≤ n
    · have hb := sq_le hle hn
      obtain ⟨f, m, hfm, hnd, hm1, hf⟩ := exists_strip hd2 n n (Nat.le_refl _) h1
      have hdm : m ∣ n := ⟨d ^ f, by rw [hfm, Nat.mul_comm]⟩
      have hmn := Nat.le_of_dvd (by omega) hdm
      have hlo' : ∀ q, 2 ≤ q → q ∣ m → d + 1 ≤ q := fun q h2 h3 => by
        have := hlo q h2 (Nat.dvd_trans h3 hdm)
        have : q ≠ d := by rintro rfl; exact hnd h3
        omega
      have hfb := pow_bound hd2 hm1 (by omega : d ^ f * m ≤ 2147483647)
      have hs := strip_loop hd2 (by omega) hm1 hnd acc f 0 (by omega) (by omega)
      rw [← hfm, show ((0 : Nat) : Int) = 0 from rfl, Nat.zero_add] at hs
      have hst : quadformref22_Factor.s1 (n : Int) (d : Int) acc = some (.inl ((m : Int), ((d + 1 : Nat) : Int), (if f > 0 then acc ++ [((d : Int), (f : Int), ())] else acc), ())) := by
        simp only [quadformref22_Factor.s1, quadformref22_Factor.j2, cite, decide_eq_true_eq]
        rw [sq_wrap (by omega), if_pos (by omega), ref_strip_same, hs, Option.bind_some]
        simp only [quadformref22_Factor.k0, quadformref22_Factor.j4, cite, decide_eq_true_eq, maxL_eq]
        rw [up (by omega)]
        by_cases h0 : f > 0
        · rw [if_pos (by omega), if_pos (by simp; omega), if_pos h0]
        · rw [if_neg (by omega), if_neg h0]
      by_cases h0 : f > 0
      · rw [if_pos h0] at hst
        obtain ⟨n', acc', L, q1, q2, q3⟩ := rfac_loop t (d + 1) m (acc ++ [((d : Int), (f : Int), ())]) (by omega) (by omega) (by omega) hm1 (by omega) hlo' (by simp; omega)
        have hdn : d ∣ n := ⟨d ^ (f - 1) * m, by rw [hfm, ← Nat.mul_assoc, ← Nat.pow_succ', show (f - 1).succ = f by omega]⟩
        refine ⟨n', acc', (d, f) :: L, (iterL_next hst).trans q1, ⟨by omega, pr_of_least hd2 hdn hlo, h0, m, hfm, q2.raise fun q hq hqd => ?_⟩, by rw [q3]; simp [encP]⟩
        have := hlo' q hq.1 hqd
        omega
      · rw [if_neg h0] at hst
        have hf0 : f = 0 := by omega
        subst hf0
        rw [Nat.pow_zero, Nat.one_mul] at hfm
        subst hfm
        obtain ⟨n', acc', L, q1, q2, q3⟩ := rfac_loop t (d + 1) n acc (by omega) (by omega) (by omega) hm1 (by omega) hlo' (by omega)
        exact ⟨n', acc', L, (iterL_next hst).trans q1, q2, q3⟩
    · have hst : quadformref22_Factor.s1 (n : Int) (d : Int) acc = some (.inr ((n : Int), acc, ())) := by
        simp only [quadformref22_Factor.s1, cite, decide_eq_true_eq]
        rw [sq_wrap (by omega), if_neg (by omega)]
      by_cases h2 : n = 1
      · subst h2
        refine ⟨_, _, [], iterL_done hst, rfl, ?_⟩
        simp only [quadformref22_Factor.k1, quadformref22_Factor.j5, cite, decide_eq_true_eq]
        rw [if_neg (by omega)]
        simp [encP]
      · have hp : Pr n := pr_of_noDiv (by omega) (fun q a b _ => hlo q a b) (by omega)
        refine ⟨_, _, [(n, 1)], iterL_done hst, ⟨by omega, hp, Nat.le_refl _, 1, by simp, rfl⟩, ?_⟩
        simp only [quadformref22_Factor.k1, quadformref22_Factor.j5, cite, decide_eq_true_eq, maxL_eq]
        rw [if_pos (by omega), if_pos (by simp; omega)]
        simp [encP]
theorem rfactor_nat (n : Nat) (h1 : 1 ≤ n) (hn : n ≤ 2147483647) : ∃ L, Fac 1 n L ∧ quadformref22_Factor (n : Int) = some (encP L, 0, ()) := by
  obtain ⟨n', acc', L, q1, q2, q3⟩ := rfac_loop _ 2 n [] rfl (by omega) (by omega) h1 hn (fun q h _ => h) (by simp)
  refine ⟨L, q2, ?_⟩
  unfold quadformref22_Factor
  simp only [cite, decide_eq_true_eq]
  rw [if_neg (by omega), if_neg (by omega)]
  unfold quadformref22_Factor.j1
  rw [show ((2 : Nat) : Int) = 2 from rfl] at q1
  rw [q1, Option.bind_some]
  simpa using q3
theorem two_ok (a : Int) : quadformref22_two a = some (sy a 2) := by
  have h8 := residue_ok a 8 (by omega) (by omega)
  have h8' : quadformref22_Mod a 8 = some (a % 8) := h8
  unfold quadformref22_two sy
  rw [h8', Option.bind_some]
  simp only [quadformref22_two.j1, quadformref22_two.j2, quadformref22_two.j3, quadformref22_two.j4, cite, beq_iff_eq]
  have h9 : a % 8 = 0 ∨ a % 8 = 1 ∨ a % 8 = 2 ∨ a % 8 = 3 ∨ a % 8 = 4 ∨ a % 8 = 5 ∨ a % 8 = 6 ∨ a % 8 = 7 := by omega
  rcases h9 with h | h | h | h | h | h | h | h <;> simp [h]
end Go.Proofs.Ytbchgegclgpdhaa.V
