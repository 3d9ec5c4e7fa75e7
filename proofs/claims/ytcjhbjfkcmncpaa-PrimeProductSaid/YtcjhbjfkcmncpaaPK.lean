/- The symbol modulo a prime number, and the Kronecker symbol, of the program and of the reference. -/
import Derived.Test.YtcjhbjfkcmncpaaLeg
import Derived.Test.YtcjhbjfkcmncpaaPF
import Derived.Test.YtcjhbjfkcmncpaaQx0
import Derived.Test.YtcjhbjfkcmncpaaQx4
import Derived.Test.YtcjhbjfkcmncpaaQx5
import Derived.Test.YtcjhbjfkcmncpaaQx6
import Derived.Test.YtcjhbjfkcmncpaaQx7
import Derived.Test.YtcjhbjfkcmncpaaQx8
import Derived.Test.YtcjhbjfkcmncpaaQx17
import Derived.Test.YtcjhbjfkcmncpaaQx18
import Derived.Test.YtcjhbjfkcmncpaaQx19
import Derived.Test.YtcjhbjfkcmncpaaQx20
namespace Go.Proofs.Ytcjhbjfkcmncpaa.Q
open Go.RowKit Go.Proofs.YtcjhbjfkcmncpaaW.PrintWords Go.Proofs.YtcjhbjfkcmncpaaW.PrintLast Go.Proofs.YtcjhbjfkcmncpaaW.PrintMore
open Go.Proofs.Ytcjhbjfkcmncpaa.Num

theorem tmod_emod (a : Int) (m : Nat) (hm : 0 < m) : (if Int.tmod a m < 0 then Int.tmod a m + m else Int.tmod a m) = a % m := by
  have e := Int.tmod_add_mul_tdiv a m
  have hlt : Int.tmod a m < m := Int.tmod_lt_of_pos _ (by omega)
  have hgt : -(m : Int) < Int.tmod a m := by
    have := Int.tmod_lt_of_pos (-a) (show (0 : Int) < m by omega)
    rw [Int.neg_tmod] at this
    omega
  have h1 : a % m = (Int.tmod a m) % m := by
    conv => lhs; rw [← e]
    rw [Int.add_mul_emod_self_left]
  rw [h1]
  split
  · rw [← Int.add_emod_right, Int.emod_eq_of_lt (by omega) (by omega)]
  · rw [Int.emod_eq_of_lt (by omega) (by omega)]

theorem residue_ok (a : Int) (m : Nat) (hm : 0 < m) (hm2 : m ≤ 2147483647) : prime_residue.f a m = some (a % m) := by
  have e := tmod_emod a m hm
  have h0 := Int.emod_nonneg a (show (m : Int) ≠ 0 by omega)
  have h1 := Int.emod_lt_of_pos a (show (0 : Int) < m by omega)
  unfold prime_residue.f
  rw [if_neg (by omega)]
  split <;> rename_i h
  · rw [if_pos h] at e
    rw [e, w64 (by omega) (by omega)]
  · rw [if_neg h] at e
    rw [e]

theorem ref_mod (a m : Int) : quadformref22_Mod.f a m = prime_residue.f a m := rfl

theorem pow_odd {a c f p : Nat} : (c * a % p) * (a * a % p) ^ f % p = c * a ^ (2 * f + 1) % p := by
  rw [Nat.mul_mod, Nat.mod_mod, ← Nat.pow_mod, ← Nat.mul_mod]
  congr 1
  rw [← Nat.pow_two, ← Nat.pow_mul, Nat.mul_assoc, ← Nat.pow_succ']
theorem pow_even {a c f p : Nat} : c * (a * a % p) ^ f % p = c * a ^ (2 * f) % p := by
  rw [Nat.mul_mod, ← Nat.pow_mod, ← Nat.mul_mod]
  congr 1
  rw [← Nat.pow_two, ← Nat.pow_mul]

theorem mul_wrap {a b p : Nat} (ha : a < p) (hb : b < p) (hp : p ≤ 2147483647) : wrap64 ((a : Int) * b) = ((a * b : Nat) : Int) := by
  have := Nat.mul_le_mul (show a ≤ 2147483647 by omega) (show b ≤ 2147483647 by omega)
  rw [← Int.natCast_mul]
  apply w64 <;> omega

theorem symbol_loop {p : Nat} (hp0 : 2 ≤ p) (hp : p ≤ 2147483647) : ∀ (N e a c : Nat), e < N → e ≤ 2147483647 → a < p → c < p →
    Ev (fun k => prime_symbol.l0 k a p c e) (if (c * a ^ e) % p = 1 then 1 else -1)
  | 0, e, a, c, h, _, _, _ => by omega
  | N + 1, e, a, c, h, he, ha, hc => by
    by_cases h0 : e = 0
    · subst h0
      rw [Nat.pow_zero, Nat.mul_one, Nat.mod_eq_of_lt hc]
      refine Ev.step (f := fun _ => some (if c = 1 then 1 else -1)) (fun k => ?_) (Ev.now _)
      simp only [prime_symbol.l0]
      rw [if_neg (by omega)]
      by_cases h1 : c = 1
      · subst h1; rfl
      · rw [if_neg h1, if_neg (by omega)]
    · have ha2 : a * a % p < p := Nat.mod_lt _ (by omega)
      have hc2 : c * a % p < p := Nat.mod_lt _ (by omega)
      have ht : wrap64 (Int.tdiv (e : Int) 2) = ((e / 2 : Nat) : Int) := by
        rw [show Int.tdiv (e : Int) 2 = ((e / 2 : Nat) : Int) from tdiv_nat e 2]
        exact w64 (by omega) (by omega)
      have hm : Int.tmod (e : Int) 2 = ((e % 2 : Nat) : Int) := tmod_nat e 2
      by_cases hodd : e % 2 = 1
      · have key := symbol_loop hp0 hp N (e / 2) (a * a % p) (c * a % p) (by omega) (by omega) ha2 hc2
        rw [pow_odd, show 2 * (e / 2) + 1 = e by omega] at key
        refine Ev.step (f := fun k => prime_symbol.l0 k ((a * a % p : Nat) : Int) p ((c * a % p : Nat) : Int) ((e / 2 : Nat) : Int)) (fun k => ?_) key
        simp only [prime_symbol.l0]
        rw [if_pos (by omega), hm, if_pos (by rw [hodd]; rfl), if_neg (by omega), mul_wrap ha ha hp, mul_wrap hc ha hp, tmod_nat, tmod_nat, ht]
      · have key := symbol_loop hp0 hp N (e / 2) (a * a % p) c (by omega) (by omega) ha2 hc
        rw [pow_even, show 2 * (e / 2) = e by omega] at key
        refine Ev.step (f := fun k => prime_symbol.l0 k ((a * a % p : Nat) : Int) p c ((e / 2 : Nat) : Int)) (fun k => ?_) key
        simp only [prime_symbol.l0]
        rw [if_pos (by omega), hm, if_neg (by omega), if_neg (by omega), mul_wrap ha ha hp, tmod_nat, ht]

theorem symbol_ok {p : Nat} (hp : Pr p) (hpM : p ≤ 2147483647) (a : Int) : Ev (fun k => prime_symbol.f k a p) (sy a p) := by
  have hp2 := hp.1
  by_cases h2 : p = 2
  · subst h2
    have hr := residue_ok a 8 (by omega) (by omega)
    have h0 := Int.emod_nonneg a (show ((8 : Nat) : Int) ≠ 0 by omega)
    have h1 := Int.emod_lt_of_pos a (show (0 : Int) < (8 : Nat) by omega)
    unfold sy
    rw [if_pos rfl]
    refine Ev.congr (f := fun k => if a % 8 = 1 then prime_symbol.j0 k (a % 8) (a % 8 == 1) else prime_symbol.j0 k (a % 8) (a % 8 == 7)) (fun k => ?_) ?_
    · unfold prime_symbol.f
      rw [if_pos (show ((2 : Nat) : Int) = 2 from rfl), show prime_residue.f a 8 = some (a % 8) from hr]
      rfl
    · have hc : a % 8 = 0 ∨ a % 8 = 1 ∨ a % 8 = 2 ∨ a % 8 = 3 ∨ a % 8 = 4 ∨ a % 8 = 5 ∨ a % 8 = 6 ∨ a % 8 = 7 := by omega
      rcases hc with h | h | h | h | h | h | h | h <;> rw [h] <;> exact ⟨1, fun k hk => by obtain ⟨m, rfl⟩ : ∃ m, k = m + 1 := ⟨k - 1, by omega⟩; rfl⟩
  · have hr := residue_ok a p (by omega) hpM
    have h0 := Int.emod_nonneg a (show (p : Int) ≠ 0 by omega)
    have h1 := Int.emod_lt_of_pos a (show (0 : Int) < p by omega)
    unfold sy
    rw [if_neg h2]
    by_cases hz : a % p = 0
    · rw [if_pos hz]
      refine Ev.congr (f := fun k => some 0) (fun k => ?_) (Ev.now _)
      unfold prime_symbol.f
      rw [if_neg (by omega), hr, Option.bind_some, if_pos hz]
    · rw [if_neg hz]
      obtain ⟨r, hrr⟩ : ∃ r : Nat, a % p = r := ⟨(a % p).toNat, by omega⟩
      have key := symbol_loop hp2 hpM _ ((p - 1) / 2) r 1 (Nat.lt_succ_self _) (by omega) (by omega) (by omega)
      rw [Nat.one_mul] at key
      rw [hrr, Int.toNat_natCast]
      refine Ev.congr (fun k => ?_) key
      unfold prime_symbol.f
      rw [if_neg (by omega), hr, Option.bind_some, if_neg hz, hrr]
      have e : wrap64 (Int.tdiv (wrap64 ((p : Int) - 1)) 2) = (((p - 1) / 2 : Nat) : Int) := by
        rw [show (p : Int) - 1 = ((p - 1 : Nat) : Int) by omega, w64 (x := ((p - 1 : Nat) : Int)) (by omega) (by omega), show Int.tdiv ((p - 1 : Nat) : Int) 2 = (((p - 1) / 2 : Nat) : Int) from tdiv_nat (p - 1) 2]
        exact w64 (by omega) (by omega)
      rw [e]
      rfl

/-! ## the reference's -/
theorem modpow_loop {p : Nat} (hp0 : 2 ≤ p) (hp : p ≤ 2147483647) : ∀ (N e a c : Nat), e < N → e ≤ 2147483647 → a < p → c < p →
    Ev (fun k => quadformref22_ModPow.l0 k a e p c) (((c * a ^ e) % p : Nat) : Int)
  | 0, e, a, c, h, _, _, _ => by omega
  | N + 1, e, a, c, h, he, ha, hc => by
    by_cases h0 : e = 0
    · subst h0
      rw [Nat.pow_zero, Nat.mul_one, Nat.mod_eq_of_lt hc]
      refine Ev.step (f := fun _ => some (c : Int)) (fun k => ?_) (Ev.now _)
      simp only [quadformref22_ModPow.l0]
      rw [if_neg (by omega)]
    · have ha2 : a * a % p < p := Nat.mod_lt _ (by omega)
      have hc2 : c * a % p < p := Nat.mod_lt _ (by omega)
      have ht : wrap64 (Int.tdiv (e : Int) 2) = ((e / 2 : Nat) : Int) := by
        rw [show Int.tdiv (e : Int) 2 = ((e / 2 : Nat) : Int) from tdiv_nat e 2]
        exact w64 (by omega) (by omega)
      have hm : Int.tmod (e : Int) 2 = ((e % 2 : Nat) : Int) := tmod_nat e 2
      by_cases hodd : e % 2 = 1
      · have key := modpow_loop hp0 hp N (e / 2) (a * a % p) (c * a % p) (by omega) (by omega) ha2 hc2
        rw [pow_odd, show 2 * (e / 2) + 1 = e by omega] at key
        refine Ev.step (f := fun k => quadformref22_ModPow.l0 k ((a * a % p : Nat) : Int) ((e / 2 : Nat) : Int) p ((c * a % p : Nat) : Int)) (fun k => ?_) key
        simp only [quadformref22_ModPow.l0]
        rw [if_pos (by omega), hm, if_pos (by rw [hodd]; rfl), if_neg (by omega), mul_wrap ha ha hp, mul_wrap hc ha hp, tmod_nat, tmod_nat, ht]
      · have key := modpow_loop hp0 hp N (e / 2) (a * a % p) c (by omega) (by omega) ha2 hc
        rw [pow_even, show 2 * (e / 2) = e by omega] at key
        refine Ev.step (f := fun k => quadformref22_ModPow.l0 k ((a * a % p : Nat) : Int) ((e / 2 : Nat) : Int) p c) (fun k => ?_) key
        simp only [quadformref22_ModPow.l0]
        rw [if_pos (by omega), hm, if_neg (by omega), if_neg (by omega), mul_wrap ha ha hp, tmod_nat, ht]

theorem modpow_ok {p : Nat} (hp2 : 2 ≤ p) (hpM : p ≤ 2147483647) (a : Int) (e : Nat) (he : e ≤ 2147483647) :
    Ev (fun k => quadformref22_ModPow.f k a e p) (((a % p).toNat ^ e % p : Nat) : Int) := by
  have hr := residue_ok a p (by omega) hpM
  have h0 := Int.emod_nonneg a (show (p : Int) ≠ 0 by omega)
  have h1 := Int.emod_lt_of_pos a (show (0 : Int) < p by omega)
  obtain ⟨r, hrr⟩ : ∃ r : Nat, a % p = r := ⟨(a % p).toNat, by omega⟩
  have key := modpow_loop hp2 hpM _ e r 1 (Nat.lt_succ_self _) he (by omega) (by omega)
  rw [Nat.one_mul] at key
  rw [hrr, Int.toNat_natCast]
  refine Ev.congr (fun k => ?_) key
  unfold quadformref22_ModPow.f
  rw [if_neg (by omega), ref_mod, hr, Option.bind_some, hrr, Int.emod_eq_of_lt (by omega) (by omega)]
  rfl

theorem legendre_ok {p : Nat} (hp : Pr p) (h2 : p ≠ 2) (hpM : p ≤ 2147483647) (a : Int) : Ev (fun k => quadformref22_Legendre.f k a p) (sy a p) := by
  have hp2 := hp.1
  have key := modpow_ok hp2 hpM a ((p - 1) / 2) (by omega)
  have e : wrap64 (Int.tdiv (wrap64 ((p : Int) - 1)) 2) = (((p - 1) / 2 : Nat) : Int) := by
    rw [show (p : Int) - 1 = ((p - 1 : Nat) : Int) by omega, w64 (x := ((p - 1 : Nat) : Int)) (by omega) (by omega), show Int.tdiv ((p - 1 : Nat) : Int) 2 = (((p - 1) / 2 : Nat) : Int) from tdiv_nat (p - 1) 2]
    exact w64 (by omega) (by omega)
  have h0 := Int.emod_nonneg a (show (p : Int) ≠ 0 by omega)
  have h1 := Int.emod_lt_of_pos a (show (0 : Int) < p by omega)
  refine Ev.congr (f := fun k => (quadformref22_ModPow.f k a (((p - 1) / 2 : Nat) : Int) p).bind fun t => if t = 0 then some 0 else if t = 1 then some 1 else some (-1)) (fun k => by unfold quadformref22_Legendre.f; rw [e]) ?_
  refine Ev.bind (f := fun _ t => if t = 0 then some 0 else if t = 1 then some 1 else some (-1)) key ?_
  have hv : (if ((((a % p).toNat ^ ((p - 1) / 2) % p : Nat) : Int) = 0) then some (0 : Int) else if ((((a % p).toNat ^ ((p - 1) / 2) % p : Nat) : Int) = 1) then some 1 else some (-1)) = some (sy a p) := by
    unfold sy
    rw [if_neg h2]
    by_cases hz : a % p = 0
    · rw [if_pos hz, hz, Int.toNat_zero, Nat.zero_pow (by have := odd_of_prime hp h2; omega)]
      simp
    · rw [if_neg hz]
      have hnz : (a % p).toNat ^ ((p - 1) / 2) % p ≠ 0 := by
        intro h
        have hd := hp.dvd_pow _ (Nat.dvd_of_mod_eq_zero h)
        have := Nat.le_of_dvd (by omega) hd
        omega
      rw [if_neg (by omega)]
      by_cases h1 : (a % p).toNat ^ ((p - 1) / 2) % p = 1
      · rw [h1]; rfl
      · rw [if_neg (by omega), if_neg h1]
  refine Ev.congr (fun k => ?_) (Ev.now (sy a p))
  exact hv

theorem two_ok (a : Int) : Ev (fun k => quadformref22_two.f k a) (sy a 2) := by
  have hr := residue_ok a 8 (by omega) (by omega)
  have h0 := Int.emod_nonneg a (show ((8 : Nat) : Int) ≠ 0 by omega)
  have h1 := Int.emod_lt_of_pos a (show (0 : Int) < (8 : Nat) by omega)
  unfold sy
  rw [if_pos rfl]
  refine Ev.congr (f := fun k => if a % 8 = 1 then quadformref22_two.j0 k (a % 8) (a % 8 == 1) else quadformref22_two.j0 k (a % 8) (a % 8 == 7)) (fun k => ?_) ?_
  · unfold quadformref22_two.f
    rw [ref_mod, show prime_residue.f a 8 = some (a % 8) from hr]
    rfl
  · have hc : a % 8 = 0 ∨ a % 8 = 1 ∨ a % 8 = 2 ∨ a % 8 = 3 ∨ a % 8 = 4 ∨ a % 8 = 5 ∨ a % 8 = 6 ∨ a % 8 = 7 := by omega
    rcases hc with h | h | h | h | h | h | h | h <;> rw [h] <;> exact ⟨1, fun k hk => by obtain ⟨m, rfl⟩ : ∃ m, k = m + 1 := ⟨k - 1, by omega⟩; rfl⟩

/-! ## the Kronecker symbol -/
theorem rdP_at (L1 : List (Nat × Nat)) (x : Nat × Nat) (L2 : List (Nat × Nat)) : rd_T30 (encP (L1 ++ x :: L2)) (L1.length : Nat) = ⟨(x.1 : Int), (x.2 : Int)⟩ := by
  unfold rd_T30 encP
  rw [Int.toNat_natCast, List.getD_eq_getElem?_getD, List.getElem?_map, List.getElem?_append_right (Nat.le_refl _)]
  simp

theorem pm_mul {a b : Int} (ha : a = 1 ∨ a = -1) (hb : b = 1 ∨ b = -1) : a * b = 1 ∨ a * b = -1 := by
  rcases ha with rfl | rfl <;> rcases hb with rfl | rfl <;> simp
theorem pm_pow {a : Int} (ha : a = 1 ∨ a = -1) : ∀ e : Nat, a ^ e = if e % 2 = 1 then a else 1
  | 0 => by simp
  | e + 1 => by
    rw [Int.pow_succ, pm_pow ha e]
    rcases ha with rfl | rfl <;> split <;> split <;> first | omega | rfl

theorem kron_loop {a : Int} : ∀ (L2 L1 : List (Nat × Nat)) (s : Int), (∀ x ∈ L2, Pr x.1 ∧ 1 ≤ x.2 ∧ x.1 ≤ 2147483647 ∧ x.2 ≤ 100) → (L1 ++ L2).length ≤ 100 → (s = 1 ∨ s = -1) →
    Ev (fun k => prime_Kronecker.l0 k a s (encP (L1 ++ L2)) (((encP (L1 ++ L2)).length : Nat) : Int) (L1.length : Nat)) (s * val (sy a) L2, 0)
  | [], L1, s, _, hl, _ => by
    refine Ev.step (f := fun _ => some (s, 0)) (fun k => ?_) (by simpa [val] using Ev.now (s, (0 : Int)))
    simp only [prime_Kronecker.l0]
    rw [encP_length, if_neg (by simp)]
  | (p, e) :: L2, L1, s, hx, hl, hs => by
    obtain ⟨hp, he, hpM, heM⟩ := hx (p, e) (List.mem_cons_self ..)
    simp only at hp he hpM heM
    have hsym := symbol_ok hp hpM a
    have hlen : (L1.length : Int) < ((encP (L1 ++ (p, e) :: L2)).length : Nat) := by
      rw [encP_length, List.length_append, List.length_cons]; omega
    have hl1 : L1.length ≤ 100 := by rw [List.length_append] at hl; omega
    have hstep : ∀ k, prime_Kronecker.l0 (k + 1) a s (encP (L1 ++ (p, e) :: L2)) (((encP (L1 ++ (p, e) :: L2)).length : Nat) : Int) (L1.length : Nat) =
        (prime_symbol.f k a p).bind fun t => if t = 0 then some (0, 0) else if Int.tmod (e : Int) 2 = 1 then prime_Kronecker.l0 k a (wrap64 (s * t)) (encP (L1 ++ (p, e) :: L2)) (((encP (L1 ++ (p, e) :: L2)).length : Nat) : Int) ((L1.length + 1 : Nat) : Int) else prime_Kronecker.l0 k a s (encP (L1 ++ (p, e) :: L2)) (((encP (L1 ++ (p, e) :: L2)).length : Nat) : Int) ((L1.length + 1 : Nat) : Int) := by
      intro k
      simp only [prime_Kronecker.l0]
      rw [if_pos hlen, if_pos (by omega), if_pos hlen, rdP_at, w64 (x := (L1.length : Int) + 1) (by omega) (by omega)]
      rfl
    refine Ev.step hstep ?_
    refine Ev.bind (f := fun k t => if t = 0 then some (0, 0) else if Int.tmod (e : Int) 2 = 1 then prime_Kronecker.l0 k a (wrap64 (s * t)) (encP (L1 ++ (p, e) :: L2)) (((encP (L1 ++ (p, e) :: L2)).length : Nat) : Int) ((L1.length + 1 : Nat) : Int) else prime_Kronecker.l0 k a s (encP (L1 ++ (p, e) :: L2)) (((encP (L1 ++ (p, e) :: L2)).length : Nat) : Int) ((L1.length + 1 : Nat) : Int)) hsym ?_
    have hsplit : L1 ++ (p, e) :: L2 = (L1 ++ [(p, e)]) ++ L2 := by simp
    have hl' : ((L1 ++ [(p, e)]) ++ L2).length ≤ 100 := by rw [← hsplit]; exact hl
    have hL1 : (L1 ++ [(p, e)]).length = L1.length + 1 := by simp
    have hmod : Int.tmod (e : Int) 2 = ((e % 2 : Nat) : Int) := tmod_nat e 2
    rcases sy_range a p with hv | hv | hv
    all_goals rw [hv]
    · have hval : val (sy a) ((p, e) :: L2) = val (sy a) L2 := by
        simp only [val]; rw [hv, Int.one_pow, Int.one_mul]
      have ih := kron_loop (a := a) L2 (L1 ++ [(p, e)]) s (fun x h => hx x (List.mem_cons_of_mem _ h)) hl' hs
      rw [hL1, ← hsplit] at ih
      rw [hval]
      refine Ev.congr (fun k => ?_) ih
      rw [if_neg (by omega), Int.mul_one, w64 (by omega) (by omega), ite_self]
    · have hval : val (sy a) ((p, e) :: L2) = 0 := by
        simp only [val]; rw [hv, Int.zero_pow (by omega), Int.zero_mul]
      rw [hval, Int.mul_zero]
      exact Ev.congr (fun k => by rw [if_pos rfl]) (Ev.now _)
    · by_cases ho : e % 2 = 1
      · have hval : s * val (sy a) ((p, e) :: L2) = (s * -1) * val (sy a) L2 := by
          simp only [val]; rw [hv, pm_pow (.inr rfl), if_pos ho, Int.mul_assoc]
        have ih := kron_loop (a := a) L2 (L1 ++ [(p, e)]) (s * -1) (fun x h => hx x (List.mem_cons_of_mem _ h)) hl' (pm_mul hs (.inr rfl))
        rw [hL1, ← hsplit] at ih
        rw [hval]
        refine Ev.congr (fun k => ?_) ih
        rw [if_neg (by omega), hmod, ho, if_pos (show ((1 : Nat) : Int) = 1 from rfl), w64 (by omega) (by omega)]
      · have hval : s * val (sy a) ((p, e) :: L2) = s * val (sy a) L2 := by
          simp only [val]; rw [hv, pm_pow (.inr rfl), if_neg ho, Int.one_mul]
        have ih := kron_loop (a := a) L2 (L1 ++ [(p, e)]) s (fun x h => hx x (List.mem_cons_of_mem _ h)) hl' hs
        rw [hL1, ← hsplit] at ih
        rw [hval]
        refine Ev.congr (fun k => ?_) ih
        rw [if_neg (by omega), hmod, if_neg (by omega)]

theorem fac_bounds {n : Nat} {L : List (Nat × Nat)} (h : Fac 1 n L) (hn : n ≤ 2147483647) : (∀ x ∈ L, Pr x.1 ∧ 1 ≤ x.2 ∧ x.1 ≤ 2147483647 ∧ x.2 ≤ 100) ∧ L.length ≤ 100 := by
  have h1 := h.pos
  constructor
  · intro x hx
    obtain ⟨hp, he, hd, _⟩ := h.mem x hx
    have hle := Nat.le_of_dvd (by omega) hd
    have h2 := hp.1
    have hxx : x.1 ^ 1 ≤ x.1 ^ x.2 := Nat.pow_le_pow_right (by omega) he
    rw [Nat.pow_one] at hxx
    have := pow_bound (d := x.1) (f := x.2) (m := 1) h2 (by omega) (by omega)
    exact ⟨hp, he, by omega, by omega⟩
  · apply Classical.byContradiction
    intro hc
    have a := h.two_pow_le
    have b : 2 ^ 31 ≤ 2 ^ L.length := Nat.pow_le_pow_right (by omega) (by omega)
    omega

/-- The symbol (a/n) -/
def kr (a n : Int) (v : Int) : Prop :=
  (n = 0 ∧ v = if a = 1 ∨ a = -1 then 1 else 0) ∨ (n ≠ 0 ∧ ∃ L, Fac 1 n.natAbs L ∧ v = (if n < 0 ∧ a < 0 then -1 else 1) * val (sy a) L)

theorem kr_unique {a n v v' : Int} (h : kr a n v) (h' : kr a n v') : v = v' := by
  rcases h with ⟨h0, rfl⟩ | ⟨h0, L, hL, rfl⟩
  · rcases h' with ⟨_, rfl⟩ | ⟨h1, _⟩
    · rfl
    · exact absurd h0 h1
  · rcases h' with ⟨h1, _⟩ | ⟨h1, L', hL', rfl⟩
    · exact absurd h1 h0
    · rw [hL.unique hL']

theorem beyond_ok (a : Int) : prime_beyond.f a = some (decide (2147483647 < a ∨ a < -2147483647)) := by
  unfold prime_beyond.f
  split
  · rw [decide_eq_true (by omega)]
  · congr 1
    simp only [decide_eq_decide]
    omega

theorem kron_bad {a n : Int} (h : 2147483647 < a ∨ a < -2147483647 ∨ 2147483647 < n ∨ n < -2147483647) : Ev (fun k => prime_Kronecker.f k a n) (0, 1) := by
  refine Ev.congr (f := fun k => prime_Kronecker.j0 k a n true) (fun k => ?_) ?_
  · unfold prime_Kronecker.f
    rw [beyond_ok, beyond_ok]
    simp only [Option.bind_some, decide_eq_true_eq]
    split
    · rfl
    · rw [decide_eq_true (by omega)]
  · refine Ev.step (f := fun _ => some (0, 1)) (fun k => ?_) (Ev.now _)
    simp only [prime_Kronecker.j0, if_true]

theorem kron_ok {a n : Int} (ha : -2147483647 ≤ a ∧ a ≤ 2147483647) (hn : -2147483647 ≤ n ∧ n ≤ 2147483647) : ∃ v, kr a n v ∧ (v = 1 ∨ v = 0 ∨ v = -1) ∧ Ev (fun k => prime_Kronecker.f k a n) (v, 0) := by
  have hf : ∀ k, prime_Kronecker.f k a n = prime_Kronecker.j0 k a n false := by
    intro k
    unfold prime_Kronecker.f
    rw [beyond_ok, beyond_ok, decide_eq_false (by omega), decide_eq_false (by omega)]
    rfl
  by_cases h0 : n = 0
  · subst h0
    refine ⟨if a = 1 ∨ a = -1 then 1 else 0, .inl ⟨rfl, rfl⟩, by split <;> simp, Ev.congr hf ?_⟩
    refine Ev.step (f := fun _ => some (if a = 1 ∨ a = -1 then 1 else 0, 0)) (fun k => ?_) (Ev.now _)
    simp only [prime_Kronecker.j0, if_true]
    rw [if_neg (by simp)]
    split
    · rw [if_pos (.inl ‹_›)]
    · split
      · rw [if_pos (.inr ‹_›)]
      · rw [if_neg (by omega)]
  · obtain ⟨m, hm⟩ : ∃ m : Nat, n.natAbs = m := ⟨_, rfl⟩
    obtain ⟨L, hL, hF⟩ := factor_nat m (by omega) (by omega)
    obtain ⟨hb, hlen⟩ := fac_bounds hL (by omega)
    have hs : (if n < 0 ∧ a < 0 then (-1 : Int) else 1) = 1 ∨ (if n < 0 ∧ a < 0 then (-1 : Int) else 1) = -1 := by split <;> simp
    have hloop := kron_loop (a := a) L [] (if n < 0 ∧ a < 0 then -1 else 1) hb (by simpa using hlen) hs
    refine ⟨_, .inr ⟨h0, L, by rw [hm]; exact hL, rfl⟩, ?_, Ev.congr hf ?_⟩
    · have hv : ∀ L : List (Nat × Nat), val (sy a) L = 1 ∨ val (sy a) L = 0 ∨ val (sy a) L = -1 := by
        intro L
        induction L with
        | nil => simp [val]
        | cons x L ih =>
          obtain ⟨p, e⟩ := x
          simp only [val]
          have hz : sy a p ^ e = 1 ∨ sy a p ^ e = 0 ∨ sy a p ^ e = -1 := by
            rcases sy_range a p with h | h | h <;> rw [h]
            · exact .inl Int.one_pow
            · cases e with
              | zero => simp
              | succ e => rw [Int.zero_pow (by omega)]; simp
            · rw [pm_pow (.inr rfl)]; split <;> simp
          rcases hz with h | h | h <;> rcases ih with h' | h' | h' <;> rw [h, h'] <;> simp
      rcases hs with h | h <;> rw [h] <;> rcases hv L with h' | h' | h' <;> rw [h'] <;> simp
    · have h1 : ∀ k, prime_Kronecker.j0 (k + 1) a n false = prime_Kronecker.j1 k a m (if n < 0 ∧ a < 0 then -1 else 1) := by
        intro k
        simp only [prime_Kronecker.j0]
        rw [if_neg (by simp), if_neg h0]
        split
        · rename_i hn0
          rw [show wrap64 (-n) = (m : Int) by rw [w64 (by omega) (by omega)]; omega]
          split
          · rw [if_pos ⟨hn0, ‹_›⟩]
          · rw [if_neg (by omega)]
        · rw [if_neg (by omega), show n = (m : Int) by omega]
      refine Ev.step h1 (Ev.step (f := fun k => (prime_Factor.f k m).bind fun bt => prime_Kronecker.l0 k a (if n < 0 ∧ a < 0 then -1 else 1) bt.1 (bt.1.length : Int) 0) (fun k => by simp only [prime_Kronecker.j1]) ?_)
      refine Ev.bind (f := fun k bt => prime_Kronecker.l0 k a (if n < 0 ∧ a < 0 then -1 else 1) bt.1 (bt.1.length : Int) 0) hF ?_
      simpa using hloop

end Go.Proofs.Ytcjhbjfkcmncpaa.Q
