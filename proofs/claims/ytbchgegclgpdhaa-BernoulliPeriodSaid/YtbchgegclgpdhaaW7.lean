/- Laws: residues, powers modulo a prime number, the symbol of a unit. -/
import Derived.Test.YtbchgegclgpdhaaN6
import Derived.Test.YtbchgegclgpdhaaNum
namespace Go.Proofs.Ytbchgegclgpdhaa.V
open Go Go.Proofs.Ytbchgegclgpdhaa.E Go.Proofs.Ytbchgegclgpdhaa.LI Go.Proofs.Ytbchgegclgpdhaa.Num
set_option linter.unusedVariables false
set_option linter.unusedSimpArgs false

theorem sq_le {d n : Nat} (h : d * d ≤ n) (hn : n ≤ 2147483647) : d ≤ 46340 := by
  apply Classical.byContradiction
  intro hc
  have := Nat.mul_le_mul (show 46341 ≤ d by omega) (show 46341 ≤ d by omega)
  omega
theorem sq_wrap {d : Nat} (h : d ≤ 46342) : IntKind.wrap .i64 ((d : Int) * d) = ((d * d : Nat) : Int) := by
  have := Nat.mul_le_mul h h
  rw [← Int.natCast_mul]
  apply wi64 <;> omega
theorem tmod_nat (m n : Nat) : Int.tmod (m : Int) (n : Int) = ((m % n : Nat) : Int) := (Int.ofNat_tmod m n).symm
theorem tdiv_nat (m n : Nat) : Int.tdiv (m : Int) (n : Int) = ((m / n : Nat) : Int) := (Int.ofNat_tdiv m n).symm

/-! ## residues and powers -/
theorem tmod_emod (a : Int) (m : Nat) (hm : 0 < m) : (if Int.tmod a m < 0 then Int.tmod a m + m else Int.tmod a m) = a % m := by
  have e := Int.tmod_add_mul_tdiv a m
  have hlt : Int.tmod a m < m := Int.tmod_lt_of_pos _ (by omega)
  have hgt : -(m : Int) < Int.tmod a m := by
    have := Int.tmod_lt_of_pos (-a) (show (0 : Int) < m by omega)
    rw [Int.neg_tmod] at this
    omega
  have h1 : a % m = (Int.tmod a m) % m := by
    conv => lhs; rw [← e]
    rw [Int.add_mul_emod_self_left]
  rw [h1]
  split
  · rw [← Int.add_emod_right, Int.emod_eq_of_lt (by omega) (by omega)]
  · rw [Int.emod_eq_of_lt (by omega) (by omega)]
theorem residue_ok (a : Int) (m : Nat) (hm : 0 < m) (hm2 : m ≤ 2147483647) : prime_residue a m = some (a % m) := by
  have e := tmod_emod a m hm
  have h0 := Int.emod_nonneg a (show (m : Int) ≠ 0 by omega)
  have h1 := Int.emod_lt_of_pos a (show (0 : Int) < m by omega)
  unfold prime_residue
  simp only [prime_residue.j1, cite, decide_eq_true_eq]
  rw [if_neg (by omega)]
  split <;> rename_i h
  · rw [if_pos h] at e
    rw [e, wi64 (by omega) (by omega)]
  · rw [if_neg h] at e
    rw [e]
theorem ref_mod (a m : Int) : quadformref22_Mod a m = prime_residue a m := rfl
theorem pow_odd {a c f p : Nat} : (c * a % p) * (a * a % p) ^ f % p = c * a ^ (2 * f + 1) % p := by
  rw [Nat.mul_mod, Nat.mod_mod, ← Nat.pow_mod, ← Nat.mul_mod]
  congr 1
  rw [← Nat.pow_two, ← Nat.pow_mul, Nat.mul_assoc, ← Nat.pow_succ']
theorem pow_even {a c f p : Nat} : c * (a * a % p) ^ f % p = c * a ^ (2 * f) % p := by
  rw [Nat.mul_mod, ← Nat.pow_mod, ← Nat.mul_mod]
  congr 1
  rw [← Nat.pow_two, ← Nat.pow_mul]
theorem mul_wrap {a b p : Nat} (ha : a < p) (hb : b < p) (hp : p ≤ 2147483647) : IntKind.wrap .i64 ((a : Int) * b) = ((a * b : Nat) : Int) := by
  have := Nat.mul_le_mul (show a ≤ 2147483647 by omega) (show b ≤ 2147483647 by omega)
  rw [← Int.natCast_mul]
  apply wi64 <;> omega
theorem half_wrap (e : Nat) (he : e ≤ 2147483647) : IntKind.wrap .i64 (Int.tdiv (e : Int) 2) = ((e / 2 : Nat) : Int) := by
  rw [show Int.tdiv (e : Int) 2 = ((e / 2 : Nat) : Int) from tdiv_nat e 2]
  exact wi64 (by omega) (by omega)
theorem symbol_loop {p : Nat} (hp0 : 2 ≤ p) (hp : p ≤ 2147483647) : ∀ (N e a c : Nat), e < N → e ≤ 2147483647 → a < p → c < p →
    iterL (fun x : Int × Int × Int × Int × Unit => prime_symbol.s0 x.1 x.2.1 x.2.2.1 x.2.2.2.1) ((a : Int), (p : Int), (c : Int), (e : Int), ()) = some (((c * a ^ e % p : Nat) : Int), ())
  | 0, e, a, c, h, _, _, _ => by omega
  | N + 1, e, a, c, h, he, ha, hc => by
    by_cases h0 : e = 0
    · subst h0
      rw [Nat.pow_zero, Nat.mul_one, Nat.mod_eq_of_lt hc]
      refine iterL_done ?_
      simp only [prime_symbol.s0, cite, decide_eq_true_eq]
      rw [if_neg (by omega)]
    · have ha2 : a * a % p < p := Nat.mod_lt _ (by omega)
      have hc2 : c * a % p < p := Nat.mod_lt _ (by omega)
      have hm : Int.tmod (e : Int) 2 = ((e % 2 : Nat) : Int) := tmod_nat e 2
      by_cases hodd : e % 2 = 1
      · have key := symbol_loop hp0 hp N (e / 2) (a * a % p) (c * a % p) (by omega) (by omega) ha2 hc2
        rw [pow_odd, show 2 * (e / 2) + 1 = e by omega] at key
        refine (iterL_next ?_).trans key
        simp only [prime_symbol.s0, prime_symbol.j7, prime_symbol.j8, cite, decide_eq_true_eq, beq_iff_eq]
        rw [if_pos (by omega), hm, if_pos (by rw [hodd]; rfl), if_neg (by omega), if_neg (by omega), mul_wrap ha ha hp, mul_wrap hc ha hp, tmod_nat, tmod_nat, half_wrap e he]
      · have key := symbol_loop hp0 hp N (e / 2) (a * a % p) c (by omega) (by omega) ha2 hc
        rw [pow_even, show 2 * (e / 2) = e by omega] at key
        refine (iterL_next ?_).trans key
        simp only [prime_symbol.s0, prime_symbol.j7, prime_symbol.j8, cite, decide_eq_true_eq, beq_iff_eq]
        rw [if_pos (by omega), hm, if_neg (by omega), if_neg (by omega), mul_wrap ha ha hp, tmod_nat, half_wrap e he]
theorem modpow_loop {p : Nat} (hp0 : 2 ≤ p) (hp : p ≤ 2147483647) : ∀ (N e a c : Nat), e < N → e ≤ 2147483647 → a < p → c < p →
    iterL (fun x : Int × Int × Int × Int × Unit => quadformref22_ModPow.s0 x.1 x.2.1 x.2.2.1 x.2.2.2.1) ((a : Int), (e : Int), (p : Int), (c : Int), ()) = some (((c * a ^ e % p : Nat) : Int), ())
  | 0, e, a, c, h, _, _, _ => by omega
  | N + 1, e, a, c, h, he, ha, hc => by
    by_cases h0 : e = 0
    · subst h0
      rw [Nat.pow_zero, Nat.mul_one, Nat.mod_eq_of_lt hc]
      refine iterL_done ?_
      simp only [quadformref22_ModPow.s0, cite, decide_eq_true_eq]
      rw [if_neg (by omega)]
    · have ha2 : a * a % p < p := Nat.mod_lt _ (by omega)
      have hc2 : c * a % p < p := Nat.mod_lt _ (by omega)
      have hm : Int.tmod (e : Int) 2 = ((e % 2 : Nat) : Int) := tmod_nat e 2
      by_cases hodd : e % 2 = 1
      · have key := modpow_loop hp0 hp N (e / 2) (a * a % p) (c * a % p) (by omega) (by omega) ha2 hc2
        rw [pow_odd, show 2 * (e / 2) + 1 = e by omega] at key
        refine (iterL_next ?_).trans key
        simp only [quadformref22_ModPow.s0, quadformref22_ModPow.j1, quadformref22_ModPow.j2, cite, decide_eq_true_eq, beq_iff_eq]
        rw [if_pos (by omega), hm, if_pos (by rw [hodd]; rfl), if_neg (by omega), if_neg (by omega), mul_wrap ha ha hp, mul_wrap hc ha hp, tmod_nat, tmod_nat, half_wrap e he]
      · have key := modpow_loop hp0 hp N (e / 2) (a * a % p) c (by omega) (by omega) ha2 hc
        rw [pow_even, show 2 * (e / 2) = e by omega] at key
        refine (iterL_next ?_).trans key
        simp only [quadformref22_ModPow.s0, quadformref22_ModPow.j1, quadformref22_ModPow.j2, cite, decide_eq_true_eq, beq_iff_eq]
        rw [if_pos (by omega), hm, if_neg (by omega), if_neg (by omega), mul_wrap ha ha hp, tmod_nat, half_wrap e he]
/-- The symbol of a residue r modulo an odd prime number. -/
def lg (r p : Nat) : Int := if r ^ ((p - 1) / 2) % p = 1 then 1 else -1
theorem halfp {p : Nat} (hp : 2 ≤ p) (hpM : p ≤ 2147483647) : IntKind.wrap .i64 (Int.tdiv (IntKind.wrap .i64 ((p : Int) - 1)) 2) = (((p - 1) / 2 : Nat) : Int) := by
  rw [show (p : Int) - 1 = ((p - 1 : Nat) : Int) by omega, wi64 (x := ((p - 1 : Nat) : Int)) (by omega) (by omega)]
  exact half_wrap _ (by omega)
theorem symbol_unit {p r : Nat} (hp : Pr p) (h2 : p ≠ 2) (hpM : p ≤ 2147483647) (h0 : 0 < r) (hr : r < p) : prime_symbol (r : Int) (p : Int) = some (lg r p) := by
  have hp2 := hp.1
  unfold prime_symbol
  simp only [prime_symbol.j5, prime_symbol.j6, cite, beq_iff_eq]
  rw [if_neg (by omega), residue_ok (r : Int) p (by omega) hpM, Option.bind_some, Int.emod_eq_of_lt (by omega) (by omega), if_neg (by omega), halfp hp2 hpM]
  have key := symbol_loop hp2 hpM _ ((p - 1) / 2) r 1 (Nat.lt_succ_self _) (by omega) hr (by omega)
  rw [show ((1 : Nat) : Int) = 1 from rfl, Nat.one_mul] at key
  rw [key, Option.bind_some]
  simp only [prime_symbol.k0, prime_symbol.j9, cite, beq_iff_eq, lg]
  by_cases h : r ^ ((p - 1) / 2) % p = 1
  · rw [if_pos h, if_pos (by omega)]
  · rw [if_neg h, if_neg (by omega)]
theorem legendre_unit {p r : Nat} (hp : Pr p) (h2 : p ≠ 2) (hpM : p ≤ 2147483647) (h0 : 0 < r) (hr : r < p) : quadformref22_Legendre (r : Int) (p : Int) = some (lg r p) := by
  have hp2 := hp.1
  unfold quadformref22_Legendre quadformref22_ModPow
  simp only [quadformref22_Legendre.j1, quadformref22_Legendre.j2, cite, beq_iff_eq, decide_eq_true_eq]
  rw [if_neg (by omega), ref_mod, residue_ok (r : Int) p (by omega) hpM, Option.bind_some, Int.emod_eq_of_lt (by omega) (by omega), halfp hp2 hpM]
  have key := modpow_loop hp2 hpM _ ((p - 1) / 2) r 1 (Nat.lt_succ_self _) (by omega) hr (by omega)
  rw [show ((1 : Nat) : Int) = 1 from rfl, Nat.one_mul] at key
  have h1 : Int.tmod 1 (p : Int) = 1 := by rw [show (1 : Int) = ((1 : Nat) : Int) from rfl, tmod_nat, Nat.mod_eq_of_lt (by omega)]
  rw [h1, key, Option.bind_some]
  simp only [quadformref22_ModPow.k0, Option.bind_some, lg]
  have hnz : r ^ ((p - 1) / 2) % p ≠ 0 := by
    intro h
    have hd := hp.dvd_pow _ (Nat.dvd_of_mod_eq_zero h)
    have := Nat.le_of_dvd (by omega) hd
    omega
  rw [if_neg (by omega)]
  by_cases h : r ^ ((p - 1) / 2) % p = 1
  · rw [if_pos h, if_pos (by omega)]
  · rw [if_neg h, if_neg (by omega)]
end Go.Proofs.Ytbchgegclgpdhaa.V
