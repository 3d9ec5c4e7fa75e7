/- Laws: quotient and remainder of integer (a divisor of one word), words of 64 bits, residues. -/
import Derived.Test.YtbchgegclgpdhaaN5
namespace Go.Proofs.Ytbchgegclgpdhaa.V
open Go Go.Proofs.Ytbchgegclgpdhaa.E Go.Proofs.Ytbchgegclgpdhaa.LI
set_option linter.unusedVariables false
set_option linter.unusedSimpArgs false

theorem limbs_one {N : Nat} (h : 0 < N) (h2 : N < 4294967296) : limbs N = [(N : Int)] := by
  rw [limbs_pos (by omega), Nat.mod_eq_of_lt h2, Nat.div_eq_of_lt h2, limbs_zero]
theorem divide_small {M N : Nat} (hM : (limbs M).length ≤ 1073741824) (h : M < N) : integer_divide (limbs M) (limbs N) = some (limbs (M / N), limbs (M % N), ()) := by
  unfold integer_divide
  rw [compare_ok (by omega), Option.bind_some]
  simp only [cite, decide_eq_true_eq]
  rw [cm_lt (by omega), if_pos (by decide), if_pos (show (limbs M).length ≤ maxL from hM), Nat.div_eq_of_lt h, Nat.mod_eq_of_lt h, limbs_zero]
theorem divide_one {M N : Nat} (hM : (limbs M).length ≤ 1073741824) (hN : 0 < N) (hN2 : N < 4294967296) : integer_divide (limbs M) (limbs N) = some (limbs (M / N), limbs (M % N), ()) := by
  by_cases h : M < N
  · exact divide_small hM h
  · unfold integer_divide
    rw [compare_ok (by omega), Option.bind_some]
    simp only [integer_divide.j1, cite, decide_eq_true_eq, inB_t, beq_iff_eq]
    have hr : M % N < N := Nat.mod_lt _ hN
    have hc : ¬ cm (M : Int) (N : Int) < 0 := by unfold cm; split <;> (try split) <;> omega
    have ht : integer_trim [((M % N : Nat) : Int)] = some (limbs (M % N)) := by
      have h1 : Lim [((M % N : Nat) : Int)] := Lim.one (by omega)
      rw [trim_ok h1 (by simp), lv_one, Int.toNat_natCast]
    have hs := shortDivide_ok (lim_limbs M) hM hN hN2
    rw [lv_limbs] at hs
    rw [if_neg hc, limbs_one hN hN2]
    simp only [List.length_singleton, List.getD_cons_zero]
    rw [if_pos (by decide), if_pos (by decide), hs, Option.bind_some, ht, Option.bind_some]
theorem divmod_of {l l' : List Int} (s s' : Bool) (u u' : Unit) (h : Lim l) (h' : Lim l') (hb : l.length < 33554432) (hb' : l'.length < 33554432) (h0 : iv s' l' ≠ 0)
    (hdv : integer_divide (limbs (lv l)) (limbs (lv l')) = some (limbs (lv l / lv l'), limbs (lv l % lv l'), ())) :
    integer_DivMod (s, l, u) (s', l', u') = some (mkI (iv s l / iv s' l'), mkI (iv s l % iv s' l'), true, ()) := by
  have hx := len_lv h
  have hy := len_lv h'
  have hN : 0 < lv l' := by unfold iv at h0; split at h0 <;> omega
  unfold integer_DivMod
  rw [magnitude_ok s' () h' (by omega), Option.bind_some]
  simp only [cite, beq_iff_eq, limbs_len0]
  rw [if_neg (by omega)]
  simp only [integer_DivMod.j1, integer_DivMod.j2, cite, decide_eq_true_eq]
  rw [magnitude_ok s () h (by omega), Option.bind_some, hdv, Option.bind_some]
  generalize hM' : lv l = M at *
  generalize hN' : lv l' = N at *
  have hqM : M / N ≤ M := Nat.div_le_self _ _
  have hrM : M % N < N := Nat.mod_lt _ hN
  have hdm := Nat.div_add_mod M N
  have hlq := len_le hqM
  have hlr := len_le (Nat.le_of_lt hrM)
  generalize M / N = q at *
  generalize M % N = r at *
  have hiv : iv s' l' = if s' = true then -(N : Int) else N := by unfold iv; rw [hN']
  have hia : iv s l = if s = true then -(M : Int) else M := by unfold iv; rw [hM']
  have hab : (iv s' l').natAbs = N := by rw [iv_natAbs, hN']
  have hdz : (N : Int) * (q : Int) + (r : Int) = M := by exact_mod_cast hdm
  have fin : ∀ (Q R : Nat), (limbs Q).length < 17592186044416 → (limbs R).length < 17592186044416 → iv (!(s == s')) (limbs Q) = iv s l / iv s' l' → (R : Int) = iv s l % iv s' l' →
      ((integer_signed (!(s == s')) (limbs Q)).bind fun y8 => (integer_signed false (limbs R)).bind fun y9 => some ((y8.1, (y8.2.1, ())), ((y9.1, (y9.2.1, ())), (true, ())))) = some (mkI (iv s l / iv s' l'), mkI (iv s l % iv s' l'), true, ()) := by
    intro Q R h1 h2 h3 h4
    rw [signed_ok _ (lim_limbs Q) h1, Option.bind_some, signed_ok _ (lim_limbs R) h2, Option.bind_some, h3, iv_f, lv_limbs, h4]
  cases hs : s with
  | true =>
    rw [if_pos rfl]
    rw [hs] at hia fin
    rw [if_pos rfl] at hia
    have hlen0 := limbs_len0 r
    by_cases hr0 : r = 0
    · rw [if_neg (by show ¬ (((limbs r).length : Nat) : Int) > 0; rw [hr0]; decide)]
      have := ediv_of (a := iv true l) (b := iv s' l') (Q := iv (!(true == s')) (limbs q)) (R := (r : Int)) (by
        rw [hia, hiv]; cases s'
        · rw [show (!(true == false)) = true from rfl, iv_t, lv_limbs]; simp only [Bool.false_eq_true, if_false, Int.mul_neg]; omega
        · rw [show (!(true == true)) = false from rfl, iv_f, lv_limbs]; simp only [if_true, Int.neg_mul]; omega) (by omega) (by rw [hab]; omega) h0
      exact fin q r (by omega) (by omega) this.1.symm this.2.symm
    · have hpl := limbs_len_pos.2 hr0
      have hp := plus_ok (lim_limbs q) (n := [1]) (Lim.one (by omega)) (by omega) (by simp)
      rw [lv_limbs, lv_one] at hp
      have hmn := minus_ok (lim_limbs N) (lim_limbs r) (by omega) hlr (by rw [lv_limbs, lv_limbs]; omega)
      rw [lv_limbs, lv_limbs] at hmn
      rw [if_pos (show (((limbs r).length : Nat) : Int) > 0 by omega), hp, Option.bind_some, hmn, Option.bind_some]
      have := ediv_of (a := iv true l) (b := iv s' l') (Q := iv (!(true == s')) (limbs (q + 1))) (R := ((N - r : Nat) : Int)) (by
        rw [hia, hiv]; cases s'
        · rw [show (!(true == false)) = true from rfl, iv_t, lv_limbs]; simp only [Bool.false_eq_true, if_false, Int.mul_neg, Int.natCast_add, Int.natCast_one, Int.mul_add, Int.mul_one]; omega
        · rw [show (!(true == true)) = false from rfl, iv_f, lv_limbs]; simp only [if_true, Int.neg_mul, Int.natCast_add, Int.natCast_one, Int.mul_add, Int.mul_one]; omega) (by omega) (by rw [hab]; omega) h0
      have hq1 : (limbs (q + 1)).length ≤ (limbs q).length + 1 := limbs_len.2 (by
        have := limbs_len.1 (Nat.le_refl (limbs q).length)
        rw [Nat.pow_succ]; omega)
      have hnr := len_le (show N - r ≤ N by omega)
      exact fin (q + 1) (N - r) (by omega) (by omega) this.1.symm this.2.symm
  | false =>
    rw [if_neg (by decide)]
    rw [hs] at hia fin
    rw [if_neg (by decide)] at hia
    have := ediv_of (a := iv false l) (b := iv s' l') (Q := iv (!(false == s')) (limbs q)) (R := (r : Int)) (by
        rw [hia, hiv]; cases s'
        · rw [show (!(false == false)) = false from rfl, iv_f, lv_limbs]; simp only [Bool.false_eq_true, if_false]; omega
        · rw [show (!(false == true)) = true from rfl, iv_t, lv_limbs]; simp only [if_true, Int.neg_mul, Int.mul_neg, Int.neg_neg]; omega) (by omega) (by rw [hab]; omega) h0
    exact fin q r (by omega) (by omega) this.1.symm this.2.symm
end Go.Proofs.Ytbchgegclgpdhaa.V
