/- Laws: the factorization. -/
import Derived.Test.YtbchgegclgpdhaaW7
namespace Go.Proofs.Ytbchgegclgpdhaa.V
open Go Go.Proofs.Ytbchgegclgpdhaa.E Go.Proofs.Ytbchgegclgpdhaa.LI Go.Proofs.Ytbchgegclgpdhaa.Num
set_option linter.unusedVariables false
set_option linter.unusedSimpArgs false

abbrev PW := Int × Int × Unit
def encP (L : List (Nat × Nat)) : List PW := L.map fun x => ((x.1 : Int), (x.2 : Int), ())
theorem encP_length (L : List (Nat × Nat)) : (encP L).length = L.length := by simp [encP]
theorem div_step {d f m : Nat} (hd : 2 ≤ d) : d ^ (f + 1) * m % d = 0 ∧ d ^ (f + 1) * m / d = d ^ f * m := by
  have e : d ^ (f + 1) * m = d * (d ^ f * m) := by rw [Nat.pow_succ', Nat.mul_assoc]
  rw [e]
  exact ⟨Nat.mul_mod_right _ _, Nat.mul_div_cancel_left _ (by omega)⟩

theorem pow_bound {d f m : Nat} (hd : 2 ≤ d) (hm : 1 ≤ m) (h : d ^ f * m ≤ 2147483647) : f ≤ 30 := by
  apply Classical.byContradiction
  intro hc
  have h1 : 2 ^ 31 ≤ 2 ^ f := Nat.pow_le_pow_right (by omega) (by omega)
  have h2 : 2 ^ f ≤ d ^ f := Nat.pow_le_pow_left hd f
  have h3 : d ^ f * 1 ≤ d ^ f * m := Nat.mul_le_mul_left _ hm
  omega

theorem strip_loop {d m : Nat} (hd : 2 ≤ d) (hd2 : d ≤ 2147483647) (hm : 1 ≤ m) (hnd : ¬ d ∣ m) (acc : List PW) : ∀ (f e : Nat), e + f ≤ 100 → d ^ f * m ≤ 2147483647 →
    iterL (fun x : Int × Int × Int × (List PW) × Unit => prime_Factor.s1 x.1 x.2.1 x.2.2.1 x.2.2.2.1) (((d ^ f * m : Nat) : Int), (d : Int), (e : Int), acc, ()) = some ((m : Int), (d : Int), ((e + f : Nat) : Int), acc, ())
  | 0, e, he, hb => by
    refine iterL_done ?_
    simp only [prime_Factor.s1, prime_Factor.j5, cite, decide_eq_true_eq, beq_iff_eq]
    rw [if_neg (by omega), tmod_nat, if_neg]
    · simp
    · intro h
      exact hnd (Nat.dvd_of_mod_eq_zero (by simpa using Int.ofNat_inj.1 h))
  | f + 1, e, he, hb => by
    obtain ⟨h1, h2⟩ := div_step (d := d) (f := f) (m := m) hd
    have h3 : d ^ f * m ≤ 2147483647 := by
      rw [← h2]; exact Nat.le_trans (Nat.div_le_self _ _) hb
    refine (iterL_next ?_).trans ((strip_loop hd hd2 hm hnd acc f (e + 1) (by omega) h3).trans (by rw [show e + 1 + f = e + (f + 1) by omega]))
    simp only [prime_Factor.s1, prime_Factor.j5, cite, decide_eq_true_eq, beq_iff_eq]
    rw [if_neg (by omega), tmod_nat, h1, if_pos (by rfl), if_neg (by omega), tdiv_nat, h2, wi64 (by omega) (by omega), up (by omega)]
theorem find_loop {n : Nat} (hn2 : 2 ≤ n) (hn : n ≤ 2147483647) {acc : List PW} (hacc : acc.length ≤ 1000) : ∀ (t d : Nat), 46342 - d = t → 2 ≤ d → d ≤ 46341 → (∀ q, 2 ≤ q → q ∣ n → d ≤ q) →
    ∃ z, iterL (fun x : Int × Int × (List PW) × Unit => prime_Factor.s0 x.1 x.2.1 x.2.2.1) ((n : Int), (d : Int), acc, ()) = some z ∧
      ((z = .inl (acc ++ [((n : Int), (1 : Int), ())], ()) ∧ Pr n) ∨ ∃ d' : Nat, z = .inr ((n : Int), (d' : Int), acc, ()) ∧ 2 ≤ d' ∧ d' ≤ 46340 ∧ d' ∣ n ∧ ∀ q, 2 ≤ q → q ∣ n → d' ≤ q) := by
  intro t
  induction t with
  | zero => intro d a b c; omega
  | succ t ih =>
    intro d ht hd2 hd hlo
    have hst : prime_Factor.s0 (n : Int) (d : Int) acc = if d * d ≤ n then if n % d = 0 then some (.inr (.inr ((n : Int), (d : Int), acc, ()))) else some (.inl ((n : Int), ((d + 1 : Nat) : Int), acc, ())) else some (.inr (.inl (acc ++ [((n : Int), (1 : Int), ())], ()))) := by
      simp only [prime_Factor.s0, prime_Factor.j3, prime_Factor.j4, cite, decide_eq_true_eq, beq_iff_eq, maxL_eq]
      rw [sq_wrap (by omega), if_neg (show ¬ (d : Int) = 0 by omega), tmod_nat, up (by omega)]
      by_cases h1 : d * d ≤ n
      · rw [if_pos h1, if_neg (by omega)]
        by_cases h2 : n % d = 0
        · rw [if_pos h2, if_pos (by omega)]
        · rw [if_neg h2, if_neg (by omega)]
      · rw [if_neg h1, if_pos (by omega), if_pos (by simp; omega)]
    by_cases hle : d * d ≤ n
    · have hb := sq_le hle hn
      rw [if_pos hle] at hst
      by_cases hdv : n % d = 0
      · rw [if_pos hdv] at hst
        exact ⟨_, iterL_done hst, .inr ⟨d, rfl, hd2, hb, Nat.dvd_of_mod_eq_zero hdv, hlo⟩⟩
      · rw [if_neg hdv] at hst
        obtain ⟨z, h2, h3⟩ := ih (d + 1) (by omega) (by omega) (by omega) (fun q h1 h3 => by
          have := hlo q h1 h3
          have : q ≠ d := by rintro rfl; exact hdv (Nat.mod_eq_zero_of_dvd h3)
          omega)
        exact ⟨z, (iterL_next hst).trans h2, h3⟩
    · rw [if_neg hle] at hst
      exact ⟨_, iterL_done hst, .inl ⟨rfl, pr_of_noDiv (by omega) (fun q a b _ => hlo q a b) (by omega)⟩⟩
theorem fac_loop : ∀ (N n d : Nat) (acc : List PW), n < N → 1 ≤ n → n ≤ 2147483647 → 2 ≤ d → d ≤ 46341 → (∀ q, 2 ≤ q → q ∣ n → d ≤ q) → 2 ^ acc.length * n ≤ 1099511627776 →
    ∃ L, Fac 1 n L ∧ iterL (fun x : Int × Int × (List PW) × Unit => prime_Factor.s2 x.1 x.2.1 x.2.2.1) ((n : Int), (d : Int), acc, ()) = some (acc ++ encP L, ())
  | 0, n, d, acc, h, _, _, _, _, _, _ => by omega
  | N + 1, n, d, acc, hN, h1, hn, hd2, hd, hlo, hacc => by
    have haccl : acc.length ≤ 100 := by
      apply Classical.byContradiction
      intro hc
      have a : 2 ^ 41 ≤ 2 ^ acc.length := Nat.pow_le_pow_right (by omega) (by omega)
      have b : 2 ^ acc.length * 1 ≤ 2 ^ acc.length * n := Nat.mul_le_mul_left _ h1
      omega
    by_cases hn1 : n = 1
    · subst hn1
      refine ⟨[], rfl, iterL_done ?_⟩
      simp only [prime_Factor.s2, cite, decide_eq_true_eq]
      rw [if_neg (by simp)]
      simp [encP]
    · obtain ⟨z, hz, hz2⟩ := find_loop (n := n) (by omega) hn (acc := acc) (by omega) _ d rfl hd2 hd hlo
      rcases hz2 with ⟨rfl, hp⟩ | ⟨d', rfl, e1, e2, e3, e4⟩
      · refine ⟨[(n, 1)], ⟨by omega, hp, Nat.le_refl _, 1, by simp, rfl⟩, iterL_done ?_⟩
        simp only [prime_Factor.s2, prime_Factor.j2, cite, decide_eq_true_eq]
        rw [if_pos (by omega), hz, Option.bind_some]
        simp [prime_Factor.k0_0, encP]
      · obtain ⟨f, m, hfm, hnd, hm1, hf⟩ := exists_strip e1 n n (Nat.le_refl _) h1
        have hf := hf e3
        have hp := pr_of_least e1 e3 e4
        have hmn : 2 * m ≤ n := by
          have a : d' ^ 1 ≤ d' ^ f := Nat.pow_le_pow_right (by omega) hf
          rw [Nat.pow_one] at a
          have b : d' * m ≤ d' ^ f * m := Nat.mul_le_mul_right _ a
          have c : 2 * m ≤ d' * m := Nat.mul_le_mul_right _ e1
          omega
        have hdm : m ∣ n := ⟨d' ^ f, by rw [hfm, Nat.mul_comm]⟩
        have hlo' : ∀ q, 2 ≤ q → q ∣ m → d' ≤ q := fun q h2 h3 => e4 q h2 (Nat.dvd_trans h3 hdm)
        have hfb := pow_bound e1 hm1 (by omega : d' ^ f * m ≤ 2147483647)
        obtain ⟨L, hL, hE⟩ := fac_loop N m d' (acc ++ [((d' : Int), (f : Int), ())]) (by omega) hm1 (by omega) e1 (by omega) hlo' (by
          rw [List.length_append, List.length_singleton, Nat.pow_succ, Nat.mul_assoc]
          exact Nat.le_trans (Nat.mul_le_mul_left _ hmn) hacc)
        refine ⟨(d', f) :: L, ⟨by omega, hp, hf, m, hfm, hL.raise fun q hq hqd => ?_⟩, (iterL_next ?_).trans (hE.trans (by simp [encP]))⟩
        · have := hlo' q hq.1 hqd
          have : q ≠ d' := by rintro rfl; exact hnd hqd
          omega
        · have hs := strip_loop e1 (by omega) hm1 hnd acc f 0 (by omega) (by omega)
          rw [← hfm, show ((0 : Nat) : Int) = 0 from rfl, Nat.zero_add] at hs
          simp only [prime_Factor.s2, prime_Factor.j2, cite, decide_eq_true_eq]
          rw [if_pos (by omega), hz, Option.bind_some]
          simp only [prime_Factor.k0_1]
          rw [hs, Option.bind_some]
          simp only [prime_Factor.k1, cite, decide_eq_true_eq, maxL_eq]
          rw [if_pos (by simp; omega)]
theorem factor_bad {a : Int} (h : a < 1 ∨ 2147483647 < a) : prime_Factor a = some ([], 1, ()) := by
  unfold prime_Factor
  simp only [cite, decide_eq_true_eq]
  by_cases h2 : a < 1
  · rw [if_pos h2]
  · rw [if_neg h2, if_pos (by omega)]
theorem factor_nat (n : Nat) (h1 : 1 ≤ n) (hn : n ≤ 2147483647) : ∃ L, Fac 1 n L ∧ prime_Factor (n : Int) = some (encP L, 0, ()) := by
  obtain ⟨L, h2, h3⟩ := fac_loop (n + 1) n 2 [] (by omega) h1 hn (by omega) (by omega) (fun q h _ => h) (by simp; omega)
  refine ⟨L, h2, ?_⟩
  unfold prime_Factor
  simp only [cite, decide_eq_true_eq]
  rw [if_neg (by omega), if_neg (by omega)]
  unfold prime_Factor.j1
  rw [show ((2 : Nat) : Int) = 2 from rfl] at h3
  rw [h3, Option.bind_some]
  rfl
end Go.Proofs.Ytbchgegclgpdhaa.V
