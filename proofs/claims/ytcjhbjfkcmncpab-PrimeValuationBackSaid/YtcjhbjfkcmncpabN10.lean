/- PrimeUnitSquares. -/
import Derived.Test.YtcjhbjfkcmncpabN8
import Derived.Test.YtcjhbjfkcmncpabN9
namespace Go.Proofs.Ytcjhbjfkcmncpab.V
open Go Go.Proofs.Ytcjhbjfkcmncpab.E Go.Proofs.Ytcjhbjfkcmncpab.LI Go.Proofs.Ytcjhbjfkcmncpab.Num
set_option linter.unusedVariables false
set_option linter.unusedSimpArgs false

/-- The prime numbers of the scene's first fourteen places. -/
def scenes : List Nat := [2, 3, 5, 7, 2, 3, 5, 11, 13, 17, 19, 23, 3, 2]
theorem pr_dec {p : Nat} (h2 : 2 ≤ p) (h : ∀ d, d < p → 2 ≤ d → p % d ≠ 0) : Pr p := by
  refine ⟨h2, fun d hd => ?_⟩
  have hle := Nat.le_of_dvd (by omega) hd
  by_cases h1 : d = p
  · exact .inr h1
  · by_cases h0 : d = 0
    · subst h0; have := Nat.eq_zero_of_zero_dvd hd; omega
    · by_cases h3 : d = 1
      · exact .inl h3
      · exact absurd (Nat.mod_eq_zero_of_dvd hd) (h d (by omega) (by omega))
theorem scene_pr : ∀ p ∈ scenes, Pr p := by
  intro p hp
  simp only [scenes, List.mem_cons, List.not_mem_nil, or_false] at hp
  rcases hp with rfl | rfl | rfl | rfl | rfl | rfl | rfl | rfl | rfl | rfl | rfl | rfl | rfl | rfl <;> exact pr_dec (by decide) (by decide)
theorem scene14 {t : Int} (h0 : 0 ≤ t) (h1 : t < 256) : ∃ p ∈ scenes, quadformscene_Prime (Int.tmod t 14) = some (p : Int) := by
  obtain ⟨n, rfl⟩ : ∃ n : Nat, t = n := ⟨t.toNat, by omega⟩
  have e : Int.tmod (n : Int) 14 = ((n % 14 : Nat) : Int) := tmod_nat n 14
  rw [e]
  have hlt : n % 14 < 14 := Nat.mod_lt _ (by omega)
  generalize n % 14 = k at hlt ⊢
  have : k = 0 ∨ k = 1 ∨ k = 2 ∨ k = 3 ∨ k = 4 ∨ k = 5 ∨ k = 6 ∨ k = 7 ∨ k = 8 ∨ k = 9 ∨ k = 10 ∨ k = 11 ∨ k = 12 ∨ k = 13 := by omega
  rcases this with rfl | rfl | rfl | rfl | rfl | rfl | rfl | rfl | rfl | rfl | rfl | rfl | rfl | rfl
  · exact ⟨2, by decide, by kernel_rfl⟩
  · exact ⟨3, by decide, by kernel_rfl⟩
  · exact ⟨5, by decide, by kernel_rfl⟩
  · exact ⟨7, by decide, by kernel_rfl⟩
  · exact ⟨2, by decide, by kernel_rfl⟩
  · exact ⟨3, by decide, by kernel_rfl⟩
  · exact ⟨5, by decide, by kernel_rfl⟩
  · exact ⟨11, by decide, by kernel_rfl⟩
  · exact ⟨13, by decide, by kernel_rfl⟩
  · exact ⟨17, by decide, by kernel_rfl⟩
  · exact ⟨19, by decide, by kernel_rfl⟩
  · exact ⟨23, by decide, by kernel_rfl⟩
  · exact ⟨3, by decide, by kernel_rfl⟩
  · exact ⟨2, by decide, by kernel_rfl⟩
theorem lg_sq : ∀ p ∈ scenes, p ≠ 2 → ∀ r, r < p → ∀ s, s < p → 0 < s → lg (r * (s * s) % p) p = lg r p := by decide +kernel
theorem lg_ne (r p : Nat) : lg r p ≠ 0 := by unfold lg; split <;> decide
/-- The unit of a number that the prime number does not divide. -/
theorem unit_val {z : Int} (hz : (limbs z.natAbs).length < 33554432) {p : Nat} (hp : Pr p) (hpM : p ≤ 2147483647) (h0 : z % (p : Int) ≠ 0) :
    prime_Unit (mkI z) (p : Int) = some (if p = 2 then z % 8 else lg (z % (p : Int)).toNat p, 0, ()) := by
  obtain ⟨b, hb1, hb2⟩ := is_any p
  have hb : b = true := hb1.2 ⟨by have := hp.1; omega, by omega, by simpa using hp⟩
  subst hb
  have hp2 := hp.1
  have hs := fun (q : Int) hq hq2 => small_res (l := (mkI z).2.1) (mkI z).1 () (lim_mkI z) hz (p := q) hq hq2
  simp only [iv_mkI] at hs
  have hs' : ∀ q : Int, 0 < q → q ≤ 2147483647 → prime_small ((mkI z).1, (mkI z).2.1, ()) q = some (z % q) := hs
  unfold prime_Unit
  rw [hb2, Option.bind_some]
  simp only [prime_Unit.j1, prime_Unit.j2, prime_Unit.j3, cite, beq_iff_eq, Bool.not_true]
  rw [if_neg (by decide), hs' p (by omega) (by omega), Option.bind_some, if_neg h0]
  have e1 := Int.emod_nonneg z (show (p : Int) ≠ 0 by omega)
  have e2 := Int.emod_lt_of_pos z (show (0 : Int) < p by omega)
  by_cases h2 : p = 2
  · rw [if_pos (by omega), hs' 8 (by omega) (by omega), Option.bind_some, if_pos h2]
  · obtain ⟨r, hr⟩ : ∃ r : Nat, z % (p : Int) = r := ⟨(z % (p : Int)).toNat, by omega⟩
    rw [if_neg (by omega), if_neg h2, hr, Int.toNat_natCast, symbol_unit hp h2 hpM (by omega) (by omega), Option.bind_some]
theorem emod_mul_sq (a b : Int) (n : Nat) (hn : 0 < n) : a * (b * b) % (n : Int) = (((a % n).toNat * ((b % n).toNat * (b % n).toNat) % n : Nat) : Int) := by
  have h1 := Int.emod_nonneg a (show (n : Int) ≠ 0 by omega)
  have h2 := Int.emod_nonneg b (show (n : Int) ≠ 0 by omega)
  rw [Int.natCast_emod, Int.natCast_mul, Int.natCast_mul, Int.toNat_of_nonneg h1, Int.toNat_of_nonneg h2]
  simp [Int.mul_emod]
theorem sq8 : ∀ r, r < 8 → r % 2 = 1 → ∀ s, s < 8 → s % 2 = 1 → r * (s * s) % 8 = r := by decide
theorem dvd_of_tmod {a : Int} {p : Nat} (h : Int.tmod a (p : Int) ≠ 0) : a % (p : Int) ≠ 0 := by
  intro h1
  exact h (Int.tmod_eq_zero_of_dvd (Int.dvd_of_emod_eq_zero h1))
theorem PrimeUnitSquares {a b t : Int} (ha : -2147483648 ≤ a ∧ a ≤ 2147483647) (hb : -2147483648 ≤ b ∧ b ≤ 2147483647) (h0 : 0 ≤ t) (h1 : t < 256) : quadformlaw22_PrimeUnitSquares a b t = some true := by
  obtain ⟨p, hp, hq⟩ := scene14 h0 h1
  have hpr := scene_pr p hp
  have hp2 := hpr.1
  have hpM : p ≤ 23 := by
    simp only [scenes, List.mem_cons, List.not_mem_nil, or_false] at hp
    omega
  unfold quadformlaw22_PrimeUnitSquares
  rw [hq, Option.bind_some]
  simp only [awake_ok, cite, decide_eq_true_eq, beq_iff_eq, Option.bind_some]
  rw [if_neg (by omega), wi64 (by omega) (by omega), wi64 (by omega) (by omega)]
  by_cases hda : Int.tmod a (p : Int) = 0
  · rw [if_pos hda]
  · rw [if_neg hda, if_neg (by omega)]
    by_cases hdb : Int.tmod b (p : Int) = 0
    · rw [if_pos hdb]
    · rw [if_neg hdb]
      have na := dvd_of_tmod hda
      have nb := dvd_of_tmod hdb
      have la : (limbs a.natAbs).length ≤ 1 := limbs_len.2 (by omega)
      have lb : (limbs b.natAbs).length ≤ 1 := limbs_len.2 (by omega)
      have hbb : (b * b).natAbs = b.natAbs * b.natAbs := Int.natAbs_mul b b
      have hbl := Nat.mul_le_mul (show b.natAbs ≤ 2147483648 by omega) (show b.natAbs ≤ 2147483648 by omega)
      have lbb : (limbs (b * b).natAbs).length ≤ 2 := limbs_len.2 (by rw [hbb]; omega)
      have habb : (a * (b * b)).natAbs = a.natAbs * (b * b).natAbs := Int.natAbs_mul a (b * b)
      have habl := Nat.mul_le_mul (show a.natAbs ≤ 2147483648 by omega) (show (b * b).natAbs ≤ 4611686018427387904 by omega)
      have labb : (limbs (a * (b * b)).natAbs).length ≤ 3 := limbs_len.2 (by rw [habb]; omega)
      have m1 := mulI b b (by omega)
      have m2 := mulI a (b * b) (by omega)
      have m2' : integer_Mul (mkI a) ((mkI (b * b)).1, ((mkI (b * b)).2.1, ())) = some (mkI (a * (b * b))) := m2
      simp only [quadformlaw22_PrimeUnitSquares.j1]
      have hmod := emod_mul_sq a b p (by omega)
      have a1 := Int.emod_nonneg a (show (p : Int) ≠ 0 by omega)
      have a2 := Int.emod_lt_of_pos a (show (0 : Int) < p by omega)
      have b1 := Int.emod_nonneg b (show (p : Int) ≠ 0 by omega)
      have b2 := Int.emod_lt_of_pos b (show (0 : Int) < p by omega)
      have nab : a * (b * b) % (p : Int) ≠ 0 := by
        intro h
        rw [hmod] at h
        have h := Nat.dvd_of_mod_eq_zero (show (a % p).toNat * ((b % p).toNat * (b % p).toNat) % p = 0 by omega)
        have nd : ∀ x : Int, 0 ≤ x → x < p → x ≠ 0 → ¬ p ∣ x.toNat := fun x hx1 hx2 hx3 hx => by
          have := Nat.le_of_dvd (by omega) hx
          omega
        rcases hpr.dvd_mul h with h | h
        · exact nd _ a1 a2 na h
        · rcases hpr.dvd_mul h with h | h <;> exact nd _ b1 b2 nb h
      rw [wi64 (x := b) (by omega) (by omega), wi64 (x := a) (by omega) (by omega), small_ok (by omega) (by omega), Option.bind_some, Option.bind_some, m1, Option.bind_some, small_ok (n := a) (by omega) (by omega), Option.bind_some, unit_val (by omega) hpr (by omega) na, Option.bind_some, Option.bind_some, m2', Option.bind_some, unit_val (by omega) hpr (by omega) nab, Option.bind_some]
      have key : (if p = 2 then a * (b * b) % 8 else lg (a * (b * b) % (p : Int)).toNat p) = (if p = 2 then a % 8 else lg (a % (p : Int)).toNat p) ∧ (if p = 2 then a % 8 else lg (a % (p : Int)).toNat p) ≠ 0 := by
        by_cases h2 : p = 2
        · subst h2
          rw [if_pos rfl, if_pos rfl]
          have e8 := emod_mul_sq a b 8 (by omega)
          rw [show ((8 : Nat) : Int) = 8 from rfl] at e8
          have s8 := sq8 (a % 8).toNat (by omega) (by omega) (b % 8).toNat (by omega) (by omega)
          rw [s8] at e8
          refine ⟨by omega, by omega⟩
        · rw [if_neg h2, if_neg h2]
          refine ⟨?_, lg_ne _ _⟩
          rw [hmod, Int.toNat_natCast]
          exact lg_sq p hp h2 _ (by omega) _ (by omega) (by omega)
      rw [key.1]
      have k2 := key.2
      generalize (if p = 2 then a % 8 else lg (a % (p : Int)).toNat p) = X at k2 ⊢
      have h3 : (X != 0) = true := bne_iff_ne.2 k2
      simp [h3, awake_ok]
end Go.Proofs.Ytcjhbjfkcmncpab.V
