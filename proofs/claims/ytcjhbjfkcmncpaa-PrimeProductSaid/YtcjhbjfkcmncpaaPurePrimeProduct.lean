/- For every int64 n, the prime powers of a number made of it are ascending, have exponents from 1 to 31, and their product is the number; and the examples of the chapter hold. Conditions: none. -/
import Derived.Test.YtcjhbjfkcmncpaaPR
import Derived.Test.YtcjhbjfkcmncpaaQx0
import Derived.Test.YtcjhbjfkcmncpaaQx2
import Derived.Test.YtcjhbjfkcmncpaaQx4
import Derived.Test.YtcjhbjfkcmncpaaQx11
import Derived.Test.YtcjhbjfkcmncpaaQx16
namespace Go.Proofs.Ytcjhbjfkcmncpaa.Pure
open Go.RowKit Go.Proofs.Ytcjhbjfkcmncpaa.Q Go.Proofs.Ytcjhbjfkcmncpaa.Num Go.Proofs.YtcjhbjfkcmncpaaW.PrintWords Go.Proofs.YtcjhbjfkcmncpaaW.PrintLast

theorem prod_inner {m : Nat} (hm : m ≤ 2147483647) {l LS : List S30} {len : Int} {i p e r : Nat} (hp : 1 ≤ p) (he : e ≤ 30) (hi : i ≤ 100) (hr : 1 ≤ r) (R : Bool) :
    ∀ (t j out : Nat), e - j = t → j ≤ e → out * p ^ t * r = m → Ev (fun k => quadformlaw22_PrimeProduct.l0 k m l 0 ((out * p ^ t : Nat) : Int) LS len ((i + 1 : Nat) : Int)) R →
      Ev (fun k => quadformlaw22_PrimeProduct.l1 k m l 0 out j LS len i p e) R
  | 0, j, out, ht, hj, hb, h => by
    rw [Nat.pow_zero, Nat.mul_one] at h
    refine Ev.step (fun k => ?_) h
    simp only [quadformlaw22_PrimeProduct.l1]
    rw [if_neg (by omega), w64 (x := (i : Int) + 1) (by omega) (by omega)]
    rfl
  | t + 1, j, out, ht, hj, hb, h => by
    have hb2 : out * p * p ^ t * r = m := by rw [← hb, Nat.pow_succ']; grind
    have hpt : 1 ≤ p ^ t := Nat.pow_pos hp
    have hle : out * p ≤ m := by
      have a : out * p * 1 ≤ out * p * p ^ t := Nat.mul_le_mul_left _ hpt
      have b : out * p * p ^ t * 1 ≤ out * p * p ^ t * r := Nat.mul_le_mul_left _ hr
      omega
    have hle2 : out ≤ m := by
      have a : out * 1 ≤ out * p := Nat.mul_le_mul_left _ hp
      omega
    refine Ev.step (f := fun k => quadformlaw22_PrimeProduct.l1 k m l 0 ((out * p : Nat) : Int) ((j + 1 : Nat) : Int) LS len i p e) (fun k => ?_) (prod_inner hm hp he hi hr R t (j + 1) (out * p) (by omega) (by omega) hb2 (by rw [Nat.mul_assoc, ← Nat.pow_succ']; exact h))
    simp only [quadformlaw22_PrimeProduct.l1]
    rw [if_pos (by omega), if_pos (by omega), w64 (x := (j : Int) + 1) (by omega) (by omega), ← Int.natCast_mul, w64 (x := ((out * p : Nat) : Int)) (by omega) (by omega)]
    rfl

theorem prod_loop {m : Nat} (hm : m ≤ 2147483647) (L : List (Nat × Nat)) (hl : L.length ≤ 100) : ∀ (L2 L1 : List (Nat × Nat)) (lo m2 out : Nat), L = L1 ++ L2 → Fac lo m2 L2 → out * m2 = m → 1 ≤ m → (L1 = [] ∨ ∃ L1' y, L1 = L1' ++ [y] ∧ y.1 ≤ lo) →
    Ev (fun k => quadformlaw22_PrimeProduct.l0 k m (encP L) 0 out (encP L) (((encP L).length : Nat) : Int) (L1.length : Nat)) true
  | [], L1, lo, m2, out, hL, hF, ho, hm1, _ => by
    simp only [Fac] at hF
    subst hF hL
    refine Ev.step (f := fun k => (quadformlaw22_awake.f k).bind fun t => some t) (fun k => ?_) (Ev.bind awake_ok (Ev.now true))
    simp only [quadformlaw22_PrimeProduct.l0, if_true]
    rw [encP_length, if_neg (by simp), if_pos (by omega)]
  | (p, e) :: L2, L1, lo, m2, out, hL, hF, ho, hm1, hlast => by
    obtain ⟨hlo, hp, he, m3, hm3, hF3⟩ := hF
    have hm31 := hF3.pos
    have hm2m : m2 ≤ m := by
      rcases Nat.eq_zero_or_pos out with h | h
      · rw [h] at ho; simp at ho; omega
      · have : 1 * m2 ≤ out * m2 := Nat.mul_le_mul_right _ h
        omega
    have heM := pow_bound hp.1 hm31 (by omega : p ^ e * m3 ≤ 2147483647)
    have hpM : p ≤ 2147483647 := by
      have a : p ^ 1 ≤ p ^ e := Nat.pow_le_pow_right (by have := hp.1; omega) he
      rw [Nat.pow_one] at a
      have b : p ^ e * 1 ≤ p ^ e * m3 := Nat.mul_le_mul_left _ hm31
      omega
    have hlen : (L1.length : Int) < ((encP L).length : Nat) := by
      rw [encP_length, hL, List.length_append, List.length_cons]; omega
    have hl1 : L1.length ≤ 100 := by rw [hL, List.length_append] at hl; omega
    have hrd : rd_T30 (encP L) (L1.length : Nat) = ⟨(p : Int), (e : Int)⟩ := by rw [hL]; exact rdP_at L1 (p, e) L2
    have ih := prod_loop hm L hl L2 (L1 ++ [(p, e)]) p m3 (out * p ^ e) (by rw [hL]; simp) hF3 (by rw [← ho, hm3]; grind) hm1 (.inr ⟨L1, (p, e), rfl, Nat.le_refl _⟩)
    rw [show (L1 ++ [(p, e)]).length = L1.length + 1 by simp] at ih
    have hin := prod_inner (l := encP L) (LS := encP L) (len := (((encP L).length : Nat) : Int)) (i := L1.length) (r := m3) hm (by have := hp.1; omega : 1 ≤ p) heM hl1 hm31 true e 0 out (by omega) (by omega) (by rw [← ho, hm3]; grind) ih
    refine Ev.step (f := fun k => (prime_Is.f k p).bind fun t => if t = true then quadformlaw22_PrimeProduct.j2 k m (encP L) 0 out (encP L) (((encP L).length : Nat) : Int) L1.length false p e else quadformlaw22_PrimeProduct.j2 k m (encP L) 0 out (encP L) (((encP L).length : Nat) : Int) L1.length true p e) (fun k => ?_) ?_
    · simp only [quadformlaw22_PrimeProduct.l0]
      rw [if_pos hlen, if_pos (by omega), if_pos hlen, hrd]
      simp only
      rw [if_neg (show ¬ (e : Int) < 1 by omega), if_neg (show ¬ (e : Int) > 31 by omega)]
      rcases hlast with h | ⟨L1', y, h, hy⟩
      · rw [h]
        rw [if_neg (by simp)]
      · have hn : L1.length = L1'.length + 1 := by rw [h]; simp
        rw [if_pos (by omega), w64 (x := (L1.length : Int) - 1) (by omega) (by omega), if_pos (by omega), if_pos (by omega), show (L1.length : Int) - 1 = ((L1'.length : Nat) : Int) by omega]
        have hrd2 : rd_T30 (encP L) (L1'.length : Nat) = ⟨(y.1 : Int), (y.2 : Int)⟩ := by
          have e1 : L = L1' ++ y :: ((p, e) :: L2) := by rw [hL, h]; simp
          rw [e1]; exact rdP_at L1' y _
        rw [hrd2]
        simp only
        rw [decide_eq_false (by omega)]
    · refine Ev.bind (is_prime hp hpM) ?_
      simp only [if_true]
      refine Ev.step (f := fun k => quadformlaw22_PrimeProduct.l1 k m (encP L) 0 out ((0 : Nat) : Int) (encP L) (((encP L).length : Nat) : Int) L1.length p e) (fun k => ?_) hin
      simp only [quadformlaw22_PrimeProduct.j2]
      rw [if_neg (by simp)]
      rfl

theorem PrimeProduct : quadformlaw22_PrimeProduct.Pure := by
  intro n hn
  have hb : -2147483647 < Int.tmod n 2147483647 ∧ Int.tmod n 2147483647 < 2147483647 := by
    have a := Int.tmod_lt_of_pos n (show (0 : Int) < 2147483647 by omega)
    have b := Int.tmod_lt_of_pos (-n) (show (0 : Int) < 2147483647 by omega)
    rw [Int.neg_tmod] at b
    omega
  have H : ∀ m : Nat, 1 ≤ m → m ≤ 2147483647 → Ev (fun k => quadformlaw22_PrimeProduct.j0 k m) true := by
    intro m h1 h2
    obtain ⟨L, hL, hE⟩ := factor_nat m h1 h2
    refine Ev.step (f := fun k => (prime_Factor.f k m).bind fun bt => quadformlaw22_PrimeProduct.l0 k m bt.1 bt.2 1 bt.1 (bt.1.length : Int) 0) (fun k => by simp only [quadformlaw22_PrimeProduct.j0]) ?_
    refine Ev.bind hE ?_
    exact prod_loop h2 L (fac_bounds hL h2).2 L [] 1 m 1 rfl hL (by omega) h1 (.inl rfl)
  refine Ev.rounds (g := fun k => quadformlaw22_PrimeProduct.f k n) ?_
  have hw : wrap64 (Int.tmod n 2147483647 + 1) = Int.tmod n 2147483647 + 1 := w64 (by omega) (by omega)
  by_cases hc : Int.tmod n 2147483647 + 1 < 1
  · obtain ⟨m, hm⟩ : ∃ m : Nat, 2 - (Int.tmod n 2147483647 + 1) = m := ⟨(2 - (Int.tmod n 2147483647 + 1)).toNat, by omega⟩
    refine Ev.congr (fun k => ?_) (H m (by omega) (by omega))
    unfold quadformlaw22_PrimeProduct.f
    rw [hw, if_pos hc, hm, w64 (by omega) (by omega)]
  · obtain ⟨m, hm⟩ : ∃ m : Nat, Int.tmod n 2147483647 + 1 = m := ⟨(Int.tmod n 2147483647 + 1).toNat, by omega⟩
    refine Ev.congr (fun k => ?_) (H m (by omega) (by omega))
    unfold quadformlaw22_PrimeProduct.f
    rw [hw, if_neg hc, hm]

end Go.Proofs.Ytcjhbjfkcmncpaa.Pure
