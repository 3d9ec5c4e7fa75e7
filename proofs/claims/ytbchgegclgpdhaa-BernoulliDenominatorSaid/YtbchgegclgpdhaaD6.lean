/- Laws of rational: on canonical numbers `mkQ q`. -/
import Derived.Test.YtbchgegclgpdhaaD5
namespace Go.Proofs.Ytbchgegclgpdhaa.V
open Go Go.Proofs.Ytbchgegclgpdhaa.E Go.Proofs.Ytbchgegclgpdhaa.LI
set_option linter.unusedVariables false
set_option linter.unusedSimpArgs false

/-- A rational number as the program holds it, in lowest terms. -/
def mkQ (q : Rat) : QV := (mkI q.num, mkI (q.den : Int), ())
theorem mkQ_1 (q : Rat) : (mkQ q).1 = mkI q.num := rfl
theorem mkQ_2 (q : Rat) : (mkQ q).2.1 = mkI (q.den : Int) := rfl
theorem mkQ_3 (q : Rat) : ((mkI q.num, mkI (q.den : Int), ()) : QV) = mkQ q := rfl
def BQ (n : Nat) (q : Rat) : Prop := Bd n q.num ∧ q.den < 2 ^ n
theorem BQ.den {n : Nat} {q : Rat} (h : BQ n q) : Bd n (q.den : Int) := by unfold Bd; rw [Int.natAbs_natCast]; exact h.2
theorem BQ.mono {n m : Nat} {q : Rat} (h : BQ n q) (hm : n ≤ m) : BQ m q := ⟨h.1.mono hm, Nat.lt_of_lt_of_le h.2 (Nat.pow_le_pow_right (by omega) hm)⟩
theorem den_pos (q : Rat) : (0 : Int) < (q.den : Int) := by have := q.den_nz; omega
theorem BQ.pos {n : Nat} {q : Rat} (h : BQ n q) : 1 ≤ n := by
  have h1 := h.2
  have := q.den_nz
  rcases n with _ | n
  · simp at h1; omega
  · omega
theorem BQ.neg {n : Nat} {q : Rat} (h : BQ n q) : BQ n (-q) := ⟨h.1.neg, h.2⟩
theorem BQ.divInt {n : Nat} {a b : Int} (ha : Bd n a) (hb : Bd n b) (hn : 1 ≤ n) : BQ n (Rat.divInt a b) := by
  constructor
  · unfold Bd at *
    rw [Rat.num_divInt]
    refine Nat.lt_of_le_of_lt (Int.natAbs_ediv_le_natAbs _ _) ?_
    rw [Int.natAbs_mul]
    refine Nat.lt_of_le_of_lt ?_ ha
    rw [Int.natAbs_sign]
    split <;> simp
  · rw [Rat.den_divInt]
    unfold Bd at *
    split
    · exact Nat.lt_of_lt_of_le (by decide : 1 < 2 ^ 1) (Nat.pow_le_pow_right (by omega) hn)
    · exact Nat.lt_of_le_of_lt (Nat.div_le_self _ _) hb
theorem add_divInt (a b : Rat) : a + b = Rat.divInt (a.num * b.den + b.num * a.den) (a.den * b.den) := by
  rw [Rat.add_def', ← Rat.divInt_ofNat, Int.natCast_mul]
theorem mul_divInt (a b : Rat) : a * b = Rat.divInt (a.num * b.num) (a.den * b.den) := by
  rw [Rat.mul_def', ← Rat.divInt_ofNat, Int.natCast_mul]
theorem div_divInt (a b : Rat) : a / b = Rat.divInt (a.num * b.den) (a.den * b.num) := by
  rw [Rat.div_def, Rat.inv_def, ← Rat.divInt_mul_divInt, Rat.num_divInt_den]
theorem pow_divInt (q : Rat) (k : Nat) : q ^ k = Rat.divInt (q.num ^ k) ((q.den : Int) ^ k) := by
  rw [← Int.natCast_pow]
  exact (Rat.num_divInt_den (q ^ k)).symm
theorem BQ.mul {n m : Nat} {a b : Rat} (h : BQ n a) (h' : BQ m b) : BQ (n + m) (a * b) := by
  rw [mul_divInt]
  exact BQ.divInt (h.1.mul h'.1) (h.den.mul h'.den) (by have := h.pos; omega)
theorem BQ.add {n m : Nat} {a b : Rat} (h : BQ n a) (h' : BQ m b) : BQ (n + m + 1) (a + b) := by
  rw [add_divInt]
  exact BQ.divInt (Bd.add (h.1.mul h'.den) ((h'.1.mul h.den).mono (by omega))) ((h.den.mul h'.den).mono (by omega)) (by omega)
theorem BQ.div {n m : Nat} {a b : Rat} (h : BQ n a) (h' : BQ m b) : BQ (n + m) (a / b) := by
  rw [div_divInt]
  exact BQ.divInt (h.1.mul h'.den) (h.den.mul h'.1) (by have := h.pos; omega)
theorem BQ.int {n : Nat} {z : Int} (h : Bd n z) (hn : 1 ≤ n) : BQ n (z : Rat) := ⟨h, Nat.lt_of_lt_of_le (by decide : 1 < 2 ^ 1) (Nat.pow_le_pow_right (by omega) hn)⟩
theorem BQ.pow {n : Nat} {q : Rat} (h : BQ n q) : ∀ k : Nat, BQ (n * k + 1) (q ^ k)
  | 0 => by rw [Rat.pow_zero]; exact BQ.int (z := 1) (Bd.mono (n := 1) (by unfold Bd; decide) (by omega)) (by omega)
  | k + 1 => by
    rw [Rat.pow_succ]
    exact (BQ.mul (BQ.pow h k) h).mono (by rw [Nat.mul_add]; omega)

/-- The zero value beside 'false'. -/
def zQ : QV := ((false, ([], ())), (false, ([], ())), ())
section
variable {n : Nat}
theorem frac_rat {a b : Int} (ha : Bd n a) (hb : Bd n b) (hn : n ≤ 1000000000) (h0 : 0 < b) : rational_fraction__rat (mkI a, mkI b, ()) = some (mkQ (Rat.divInt a b)) := by
  have h1 := ha.len hn
  have h2 := hb.len hn
  have hg : Bd n ((Int.gcd a b : Nat) : Int) := by
    have := Int.gcd_le_natAbs_right a (show b ≠ 0 by omega)
    unfold Bd at *
    rw [Int.natAbs_natCast]
    omega
  have hg0 : ((Int.gcd a b : Nat) : Int) ≠ 0 := by
    have := Int.gcd_pos_of_ne_zero_right a (show b ≠ 0 by omega)
    omega
  have h3 := hg.len hn
  unfold rational_fraction__rat
  simp only [etaI]
  rw [gcdI (by omega) (by omega), Option.bind_some]
  rw [divmodG (by omega) (by omega) hg0, Option.bind_some, divmodG (by omega) (by omega) hg0, Option.bind_some]
  have e1 : (Rat.divInt a b).num = a / ((Int.gcd a b : Nat) : Int) := by rw [Rat.num_divInt, Int.sign_eq_one_of_pos h0, Int.one_mul, Int.gcd_comm]
  have e2 : (((Rat.divInt a b).den : Nat) : Int) = b / ((Int.gcd a b : Nat) : Int) := by
    rw [Rat.den_divInt, if_neg (by omega), Int.gcd_comm, Int.natCast_ediv]
    congr 1
    omega
  unfold mkQ
  rw [e1, e2]
theorem of_ok {q : Rat} (h : BQ n q) (hn : n ≤ 1000000000) : rational_of (mkQ q) = some (mkQ q) := by
  have hp := den_pos q
  unfold rational_of
  simp only [etaI, mkQ_1, mkQ_2]
  rw [signB h.den hn, Option.bind_some]
  simp only [rational_of.j1, rational_of.j2, cite, beq_iff_eq]
  rw [if_neg (show ¬ (q.den : Int) = 0 by omega), if_neg (show ¬ (q.den : Int) < 0 by omega), if_neg (by decide), if_neg (by decide)]
  rfl
theorem product_ok {a b : Int} {m : Nat} (ha : Bd n a) (hb : Bd m b) (h1 : 1 ≤ n) (hn : n + m ≤ 1000000000) : rational_product [mkI a, mkI b] = some (mkI (a * b)) := by
  have step : ∀ (i : Nat) (x y : Int) (c : IV), Bd (n + m) x → Bd (n + m) y → [mkI a, mkI b].getD i (false, ([], ())) = mkI y → i < 2 → rational_product.s0 [mkI a, mkI b] 2 (i : Int) c (mkI x) = some (.inl ([mkI a, mkI b], 2, ((i + 1 : Nat) : Int), c, mkI (x * y), ())) := by
    intro i x y c hx hy hg hi
    simp only [rational_product.s0, rational_product.j1, cite, decide_eq_true_eq, inB_t, etaI, List.length_cons, List.length_nil]
    rw [if_pos (by omega), if_pos (by omega), Int.toNat_natCast, hg, mulB hx hy hn, Option.bind_some, up (by omega)]
  have s0 := step 0 1 a (false, ([], ())) (Bd.mono (n := 1) (by unfold Bd; decide) (by omega)) (ha.mono (by omega)) rfl (by omega)
  have s1 := step 1 a b (false, ([], ())) (ha.mono (by omega)) (hb.mono (by omega)) rfl (by omega)
  rw [Int.one_mul] at s0
  have s2 : rational_product.s0 [mkI a, mkI b] 2 ((2 : Nat) : Int) (false, ([], ())) (mkI (a * b)) = some (.inr ((false, ([], ())), mkI (a * b), ())) := rfl
  have key : iterL (fun x : (List (Bool × List Int × Unit)) × Int × Int × (Bool × List Int × Unit) × (Bool × List Int × Unit) × Unit => rational_product.s0 x.1 x.2.1 x.2.2.1 x.2.2.2.1 x.2.2.2.2.1) ([mkI a, mkI b], 2, ((0 : Nat) : Int), (false, ([], ())), mkI 1, ()) = some ((false, ([], ())), mkI (a * b), ()) :=
    (iterL_next s0).trans ((iterL_next s1).trans (iterL_done s2))
  unfold rational_product
  simp only [etaI]
  rw [small_ok (by decide) (by decide), Option.bind_some]
  exact (congrArg (fun o => Option.bind o fun y => rational_product.k0 y.1 y.2.1) key).trans rfl
theorem rat_sum {a b : Int} (ha : Bd n a) (hb : Bd n b) (h1 : 1 ≤ n) (hn : n ≤ 1000000000) : rational_sum [mkI a, mkI b] = some (mkI (a + b)) := by
  have step : ∀ (i : Nat) (x y : Int) (c : IV), Bd n x → Bd n y → [mkI a, mkI b].getD i (false, ([], ())) = mkI y → i < 2 → rational_sum.s0 [mkI a, mkI b] 2 (i : Int) c (mkI x) = some (.inl ([mkI a, mkI b], 2, ((i + 1 : Nat) : Int), c, mkI (x + y), ())) := by
    intro i x y c hx hy hg hi
    simp only [rational_sum.s0, rational_sum.j1, cite, decide_eq_true_eq, inB_t, etaI, List.length_cons, List.length_nil]
    rw [if_pos (by omega), if_pos (by omega), Int.toNat_natCast, hg, addI hx hy hn, Option.bind_some, up (by omega)]
  have s0 := step 0 0 a (false, ([], ())) (Bd.mono (n := 1) (by unfold Bd; decide) (by omega)) ha rfl (by omega)
  have s1 := step 1 a b (false, ([], ())) ha hb rfl (by omega)
  rw [Int.zero_add] at s0
  have s2 : rational_sum.s0 [mkI a, mkI b] 2 ((2 : Nat) : Int) (false, ([], ())) (mkI (a + b)) = some (.inr ((false, ([], ())), mkI (a + b), ())) := rfl
  have key : iterL (fun x : (List (Bool × List Int × Unit)) × Int × Int × (Bool × List Int × Unit) × (Bool × List Int × Unit) × Unit => rational_sum.s0 x.1 x.2.1 x.2.2.1 x.2.2.2.1 x.2.2.2.2.1) ([mkI a, mkI b], 2, ((0 : Nat) : Int), (false, ([], ())), mkI 0, ()) = some ((false, ([], ())), mkI (a + b), ()) :=
    (iterL_next s0).trans ((iterL_next s1).trans (iterL_done s2))
  unfold rational_sum
  exact (congrArg (fun o => Option.bind o fun y => rational_sum.k0 y.1 y.2.1) key).trans rfl
theorem qnorm_frac {a b : Int} (ha : Bd n a) (hb : Bd n b) (hn : n ≤ 1000000000) (h0 : b ≠ 0) : rational_Normalize (mkI a, mkI b, ()) = some (mkQ (Rat.divInt a b)) := by
  unfold rational_Normalize rational_of
  simp only [etaI]
  rw [signB hb hn, Option.bind_some]
  simp only [rational_of.j1, rational_of.j2, cite, beq_iff_eq, etaI]
  rw [if_neg h0]
  by_cases hneg : b < 0
  · rw [if_pos hneg, if_neg (by decide), if_pos rfl, negI ha hn, Option.bind_some, negI hb hn, Option.bind_some]
    rw [Option.bind_some]
    rw [frac_rat ha.neg hb.neg hn (by omega), Option.bind_some, Rat.neg_divInt_neg]
  · rw [if_neg hneg, if_neg (by decide), if_neg (by decide), Option.bind_some, frac_rat ha hb hn (by omega), Option.bind_some]
theorem qnew {a b : Int} (ha : Bd n a) (hb : Bd n b) (hn : n ≤ 1000000000) (h0 : b ≠ 0) : rational_New (mkI a) (mkI b) = some (mkQ (Rat.divInt a b), true, ()) := by
  unfold rational_New
  simp only [etaI]
  rw [signB hb hn, Option.bind_some]
  simp only [rational_New.j1, cite, beq_iff_eq, etaI]
  rw [if_neg (by rw [if_neg h0]; split <;> decide), qnorm_frac ha hb hn h0, Option.bind_some]
theorem qnew0 (a : Int) : rational_New (mkI a) (mkI 0) = some (zQ, false, ()) := by
  unfold rational_New
  simp only [etaI]
  rw [signB (n := 1) (a := 0) (by unfold Bd; decide) (by decide), Option.bind_some]
  rfl
theorem qwhole {a : Int} (ha : Bd n a) (hn : n ≤ 1000000000) : rational_Whole (mkI a) = some (mkQ (a : Rat)) := by
  have h1 := ha.len hn
  unfold rational_Whole
  simp only [etaI]
  rw [normI (by omega), Option.bind_some, small_ok (by decide) (by decide), Option.bind_some]
  rfl
theorem qnormalize {q : Rat} (h : BQ n q) (hn : n ≤ 1000000000) : rational_Normalize (mkQ q) = some (mkQ q) := by
  have := qnorm_frac h.1 h.den hn (by have := den_pos q; omega)
  rwa [Rat.num_divInt_den] at this
theorem qneg {q : Rat} (h : BQ n q) (hn : n ≤ 1000000000) : rational_Neg (mkQ q) = some (mkQ (-q)) := by
  have hp := den_pos q
  unfold rational_Neg
  simp only [etaI, etaQ]
  rw [of_ok h hn, Option.bind_some]
  simp only [mkQ_1, mkQ_2, etaI]
  rw [negI h.1 hn, Option.bind_some]
  rw [frac_rat h.1.neg h.den hn hp, Option.bind_some, ← Rat.neg_divInt, Rat.num_divInt_den]
theorem qadd {m : Nat} {a b : Rat} (h : BQ n a) (h' : BQ m b) (hn : n + m + 1 ≤ 1000000000) : rational_Add (mkQ a) (mkQ b) = some (mkQ (a + b)) := by
  have hp := den_pos a
  have hp' := den_pos b
  have h1 := h.pos
  have h2 := h'.pos
  unfold rational_Add
  simp only [etaI, etaQ]
  rw [of_ok h (by omega), Option.bind_some, of_ok h' (by omega), Option.bind_some]
  simp only [mkQ_1, mkQ_2, etaI]
  rw [product_ok h.1 h'.den h1 (by omega), Option.bind_some, product_ok h'.1 h.den h2 (by omega), Option.bind_some, rat_sum (n := n + m) (h.1.mul h'.den) ((h'.1.mul h.den).mono (by omega)) (by omega) (by omega), Option.bind_some, product_ok h.den h'.den h1 (by omega), Option.bind_some]
  rw [frac_rat (n := n + m + 1) (Bd.add (h.1.mul h'.den) ((h'.1.mul h.den).mono (by omega))) ((h.den.mul h'.den).mono (by omega)) (by omega) (Int.mul_pos hp hp'), Option.bind_some, ← add_divInt]
theorem qsub {m : Nat} {a b : Rat} (h : BQ n a) (h' : BQ m b) (hn : n + m + 1 ≤ 1000000000) : rational_Sub (mkQ a) (mkQ b) = some (mkQ (a - b)) := by
  unfold rational_Sub
  simp only [etaI, etaQ]
  rw [qneg h' (by omega), Option.bind_some, qadd h h'.neg hn, Option.bind_some, Rat.sub_eq_add_neg]
theorem qmul {m : Nat} {a b : Rat} (h : BQ n a) (h' : BQ m b) (hn : n + m ≤ 1000000000) : rational_Mul (mkQ a) (mkQ b) = some (mkQ (a * b)) := by
  have hp := den_pos a
  have hp' := den_pos b
  have h1 := h.pos
  unfold rational_Mul
  simp only [etaI, etaQ]
  rw [of_ok h (by omega), Option.bind_some, of_ok h' (by omega), Option.bind_some]
  simp only [mkQ_1, mkQ_2, etaI]
  rw [product_ok h.1 h'.1 h1 (by omega), Option.bind_some, product_ok h.den h'.den h1 (by omega), Option.bind_some]
  rw [frac_rat (n := n + m) (h.1.mul h'.1) (h.den.mul h'.den) (by omega) (Int.mul_pos hp hp'), Option.bind_some, ← mul_divInt]
theorem num_ne {q : Rat} (h : q ≠ 0) : q.num ≠ 0 := fun h0 => h (Rat.num_eq_zero.1 h0)
theorem qquo {m : Nat} {a b : Rat} (h : BQ n a) (h' : BQ m b) (hn : n + m ≤ 1000000000) (h0 : b ≠ 0) : rational_Quo (mkQ a) (mkQ b) = some (mkQ (a / b), true, ()) := by
  have hp := den_pos a
  have hp' := den_pos b
  have h1 := h.pos
  unfold rational_Quo
  simp only [etaI, etaQ]
  rw [of_ok h (by omega), Option.bind_some, of_ok h' (by omega), Option.bind_some]
  simp only [mkQ_1, mkQ_2, etaI]
  rw [product_ok h.1 h'.den h1 (by omega), Option.bind_some, product_ok h.den h'.1 h1 (by omega), Option.bind_some]
  rw [qnew (n := n + m) (h.1.mul h'.den) (h.den.mul h'.1) (by omega) (Int.mul_ne_zero (by omega) (num_ne h0)), Option.bind_some, ← div_divInt]
theorem sgn_rat (q : Rat) : (if q.num = 0 then (0 : Int) else if q.num < 0 then -1 else 1) = if q = 0 then 0 else if q < 0 then -1 else 1 := by
  by_cases h0 : q = 0
  · subst h0; rfl
  · rw [if_neg (num_ne h0), if_neg h0]
    have h1 := @Rat.num_nonneg q
    by_cases h2 : q < 0
    · have h3 : ¬ 0 ≤ q.num := fun h => Rat.not_le.2 h2 (h1.1 h)
      rw [if_pos (by omega), if_pos h2]
    · have h3 : 0 ≤ q.num := h1.2 (Rat.not_lt.1 h2)
      rw [if_neg (by omega), if_neg h2]
theorem qsign {q : Rat} (h : BQ n q) (hn : n ≤ 1000000000) : rational_Sign (mkQ q) = some (if q = 0 then 0 else if q < 0 then -1 else 1) := by
  unfold rational_Sign
  simp only [etaI, etaQ]
  rw [of_ok h hn, Option.bind_some]
  simp only [mkQ_1, etaI]
  rw [signB h.1 hn, Option.bind_some, sgn_rat]
theorem cm_rat (a b : Rat) : cm (a.num * b.den) (b.num * a.den) = if a = b then 0 else if a < b then -1 else 1 := by
  unfold cm
  by_cases h0 : a = b
  · subst h0
    rw [if_neg (by omega), if_pos rfl, if_pos rfl]
  · rw [if_neg h0]
    by_cases h1 : a < b
    · rw [if_pos h1, if_pos ((Rat.lt_iff a b).1 h1)]
    · rw [if_neg h1, if_neg (fun h => h1 ((Rat.lt_iff a b).2 h)), if_neg (fun h => h0 (Rat.eq_iff_mul_eq_mul.2 h))]
theorem qcmp {m : Nat} {a b : Rat} (h : BQ n a) (h' : BQ m b) (hn : n + m ≤ 1000000000) : rational_Cmp (mkQ a) (mkQ b) = some (if a = b then 0 else if a < b then -1 else 1) := by
  have h1 := h.pos
  have h2 := h'.pos
  unfold rational_Cmp rational_fraction__compare
  simp only [etaI, etaQ]
  rw [of_ok h (by omega), Option.bind_some, of_ok h' (by omega), Option.bind_some]
  simp only [mkQ_1, mkQ_2, etaI]
  rw [product_ok h.1 h'.den h1 (by omega), Option.bind_some, product_ok h'.1 h.den h2 (by omega), Option.bind_some, cmpI (n := n + m) (h.1.mul h'.den) ((h'.1.mul h.den).mono (by omega)) (by omega), Option.bind_some, Option.bind_some, cm_rat]
end
end Go.Proofs.Ytbchgegclgpdhaa.V
