/- Laws of rational: on canonical numbers `mkQ q`. -/
import Derived.Test.YtgbndganadelpaaDoorYLocalmassPairs12
import Derived.Test.YtgbndganadelpaaDoorYLocalmassPairs11
import Derived.Test.YtgbndganadelpaaDoorYLocalmassPairs7
namespace Go.Proofs.YtgbndganadelpaaDoor.V
open Go Go.Proofs.YtgbndganadelpaaDoor.E Go.Proofs.YtgbndganadelpaaDoor.LI
set_option linter.unusedVariables false
set_option linter.unusedSimpArgs false
/-- A rational number as_ the program holds it, in lowest terms. -/
def mkQ (q : Rat) : QV := (mkI q.num, mkI (q.den : Int), ())
theorem mkQ_1 (q : Rat) : (mkQ q).1 = mkI q.num := rfl
theorem mkQ_2 (q : Rat) : (mkQ q).2.1 = mkI (q.den : Int) := rfl
theorem mkQ_3 (q : Rat) : ((mkI q.num, mkI (q.den : Int), ()) : QV) = mkQ q := rfl
def BQ (n : Nat) (q : Rat) : Prop := Bd n q.num ∧ q.den < 2 ^ n
theorem BQ.den {n : Nat} {q : Rat} (h : BQ n q) : Bd n (q.den : Int) := by unfold Bd; rw [Int.natAbs_natCast]; exact h.2
theorem BQ.mono {n m : Nat} {q : Rat} (h : BQ n q) (hm : n ≤ m) : BQ m q := ⟨h.1.mono hm, Nat.lt_of_lt_of_le h.2 (Nat.pow_le_pow_right (by omega) hm)⟩
theorem den_pos (q : Rat) : (0 : Int) < (q.den : Int) := by have := q.den_nz; omega
theorem BQ.pos {n : Nat} {q : Rat} (h : BQ n q) : 1 ≤ n := by
  have h1 := h.2
  have := q.den_nz
  rcases n with _ | n
  · simp at h1; omega
  · omega
theorem BQ.neg {n : Nat} {q : Rat} (h : BQ n q) : BQ n (-q) := ⟨h.1.neg, h.2⟩
theorem BQ.divInt {n : Nat} {a b : Int} (ha : Bd n a) (hb : Bd n b) (hn : 1 ≤ n) : BQ n (Rat.divInt a b) := by
  constructor
  · unfold Bd at *
    rw [Rat.num_divInt]
    refine Nat.lt_of_le_of_lt (Int.natAbs_ediv_le_natAbs _ _) ?_
    rw [Int.natAbs_mul]
    refine Nat.lt_of_le_of_lt ?_ ha
    rw [Int.natAbs_sign]
    split <;> simp
  · rw [Rat.den_divInt]
    unfold Bd at *
    split
    · exact Nat.lt_of_lt_of_le (by decide : 1 < 2 ^ 1) (Nat.pow_le_pow_right (by omega) hn)
    · exact Nat.lt_of_le_of_lt (Nat.div_le_self _ _) hb
theorem add_divInt (a b : Rat) : a + b = Rat.divInt (a.num * b.den + b.num * a.den) (a.den * b.den) := by
  rw [Rat.add_def', ← Rat.divInt_ofNat, Int.natCast_mul]
theorem mul_divInt (a b : Rat) : a * b = Rat.divInt (a.num * b.num) (a.den * b.den) := by
  rw [Rat.mul_def', ← Rat.divInt_ofNat, Int.natCast_mul]
theorem div_divInt (a b : Rat) : a / b = Rat.divInt (a.num * b.den) (a.den * b.num) := by
  rw [Rat.div_def, Rat.inv_def, ← Rat.divInt_mul_divInt, Rat.num_divInt_den]
theorem pow_divInt (q : Rat) (k : Nat) : q ^ k = Rat.divInt (q.num ^ k) ((q.den : Int) ^ k) := by
  rw [← Int.natCast_pow]
  exact (Rat.num_divInt_den (q ^ k)).symm
theorem BQ.mul {n m : Nat} {a b : Rat} (h : BQ n a) (h' : BQ m b) : BQ (n + m) (a * b) := by
  rw [mul_divInt]
  exact BQ.divInt (h.1.mul h'.1) (h.den.mul h'.den) (by have := h.pos; omega)
theorem BQ.add {n m : Nat} {a b : Rat} (h : BQ n a) (h' : BQ m b) : BQ (n + m + 1) (a + b) := by
  rw [add_divInt]
  exact BQ.divInt (Bd.add (h.1.mul h'.den) ((h'.1.mul h.den).mono (by omega))) ((h.den.mul h'.den).mono (by omega)) (by omega)
theorem BQ.div {n m : Nat} {a b : Rat} (h : BQ n a) (h' : BQ m b) : BQ (n + m) (a / b) := by
  rw [div_divInt]
  exact BQ.divInt (h.1.mul h'.den) (h.den.mul h'.1) (by have := h.pos; omega)
theorem BQ.int {n : Nat} {z : Int} (h : Bd n z) (hn : 1 ≤ n) : BQ n (z : Rat) := ⟨h, Nat.lt_of_lt_of_le (by decide : 1 < 2 ^ 1) (Nat.pow_le_pow_right (by omega) hn)⟩
theorem BQ.pow {n : Nat} {q : Rat} (h : BQ n q) : ∀ k : Nat, BQ (n * k + 1) (q ^ k)
  | 0 => by rw [Rat.pow_zero]; exact BQ.int (z := 1) (Bd.mono (n := 1) (by unfold Bd; decide) (by omega)) (by omega)
  | k + 1 => by
    rw [Rat.pow_succ]
    exact (BQ.mul (BQ.pow h k) h).mono (by rw [Nat.mul_add]; omega)
/-- The zero value beside 'false'. -/
def zQ : QV := ((false, ([], ())), (false, ([], ())), ())
section
variable {n : Nat}
theorem frac_rat {a b : Int} (ha : Bd n a) (hb : Bd n b) (hn : n ≤ 1000000000) (h0 : 0 < b) : rational_fraction__rat (mkI a, mkI b, ()) = some (mkQ (Rat.divInt a b)) := by
  have h1 := ha.len hn
  have h2 := hb.len hn
  have hg : Bd n ((Int.gcd a b : Nat) : Int) := by
    have := Int.gcd_le_natAbs_right a (show b ≠ 0 by omega)
    unfold Bd at *
    rw [Int.natAbs_natCast]
    omega
  have hg0 : ((Int.gcd a b : Nat) : Int) ≠ 0 := by
    have := Int.gcd_pos_of_ne_zero_right a (show b ≠ 0 by omega)
    omega
  have h3 := hg.len hn
  unfold rational_fraction__rat
  simp only [etaI]
  rw [gcdI (by omega) (by omega), Option.bind_some]
  rw [divmodG (by omega) (by omega) hg0, Option.bind_some, divmodG (by omega) (by omega) hg0, Option.bind_some]
  have e1 : (Rat.divInt a b).num = a / ((Int.gcd a b : Nat) : Int) := by rw [Rat.num_divInt, Int.sign_eq_one_of_pos h0, Int.one_mul, Int.gcd_comm]
  have e2 : (((Rat.divInt a b).den : Nat) : Int) = b / ((Int.gcd a b : Nat) : Int) := by
    rw [Rat.den_divInt, if_neg (by omega), Int.gcd_comm, Int.natCast_ediv]
    congr 1
    omega
  unfold mkQ
  rw [e1, e2]
theorem of_ok {q : Rat} (h : BQ n q) (hn : n ≤ 1000000000) : rational_of (mkQ q) = some (mkQ q) := by
  have hp := den_pos q
  unfold rational_of
  simp only [etaI, mkQ_1, mkQ_2]
  rw [signB h.den hn, Option.bind_some]
  simp only [rational_of.j1, rational_of.j2, cite, beq_iff_eq]
  rw [if_neg (show ¬ (q.den : Int) = 0 by omega), if_neg (show ¬ (q.den : Int) < 0 by omega), if_neg (by decide), if_neg (by decide)]
  rfl
theorem product_ok {a b : Int} {m : Nat} (ha : Bd n a) (hb : Bd m b) (h1 : 1 ≤ n) (hn : n + m ≤ 1000000000) : rational_product [mkI a, mkI b] = some (mkI (a * b)) := by
  have step : ∀ (i : Nat) (x y : Int) (c : IV), Bd (n + m) x → Bd (n + m) y → [mkI a, mkI b].getD i (false, ([], ())) = mkI y → i < 2 → rational_product.s0 [mkI a, mkI b] 2 (i : Int) c (mkI x) = some (.inl ([mkI a, mkI b], 2, ((i + 1 : Nat) : Int), c, mkI (x * y), ())) := by
    intro i x y c hx hy hg hi
    simp only [rational_product.s0, rational_product.j1, cite, decide_eq_true_eq, inB_t, etaI, List.length_cons, List.length_nil]
    rw [if_pos (by omega), if_pos (by omega), Int.toNat_natCast, hg, mulB hx hy hn, Option.bind_some, up (by omega)]
  have s0 := step 0 1 a (false, ([], ())) (Bd.mono (n := 1) (by unfold Bd; decide) (by omega)) (ha.mono (by omega)) rfl (by omega)
  have s1 := step 1 a b (false, ([], ())) (ha.mono (by omega)) (hb.mono (by omega)) rfl (by omega)
  rw [Int.one_mul] at s0
  have s2 : rational_product.s0 [mkI a, mkI b] 2 ((2 : Nat) : Int) (false, ([], ())) (mkI (a * b)) = some (.inr ((false, ([], ())), mkI (a * b), ())) := rfl
  have key : iterL (fun x : (List (Bool × List Int × Unit)) × Int × Int × (Bool × List Int × Unit) × (Bool × List Int × Unit) × Unit => rational_product.s0 x.1 x.2.1 x.2.2.1 x.2.2.2.1 x.2.2.2.2.1) ([mkI a, mkI b], 2, ((0 : Nat) : Int), (false, ([], ())), mkI 1, ()) = some ((false, ([], ())), mkI (a * b), ()) :=
    (iterL_next s0).trans ((iterL_next s1).trans (iterL_done s2))
  unfold rational_product
  simp only [etaI]
  rw [small_ok (by decide) (by decide), Option.bind_some]
  exact (congrArg (fun o => Option.bind o fun y => rational_product.k0 y.1 y.2.1) key).trans rfl
theorem rat_sum {a b : Int} (ha : Bd n a) (hb : Bd n b) (h1 : 1 ≤ n) (hn : n ≤ 1000000000) : rational_sum [mkI a, mkI b] = some (mkI (a + b)) := by
  have step : ∀ (i : Nat) (x y : Int) (c : IV), Bd n x → Bd n y → [mkI a, mkI b].getD i (false, ([], ())) = mkI y → i < 2 → rational_sum.s0 [mkI a, mkI b] 2 (i : Int) c (mkI x) = some (.inl ([mkI a, mkI b], 2, ((i + 1 : Nat) : Int), c, mkI (x + y), ())) := by
    intro i x y c hx hy hg hi
    simp only [rational_sum.s0, rational_sum.j1, cite, decide_eq_true_eq, inB_t, etaI, List.length_cons, List.length_nil]
    rw [if_pos (by omega), if_pos (by omega), Int.toNat_natCast, hg, addI hx hy hn, Option.bind_some, up (by omega)]
  have s0 := step 0 0 a (false, ([], ())) (Bd.mono (n := 1) (by unfold Bd; decide) (by omega)) ha rfl (by omega)
  have s1 := step 1 a b (false, ([], ())) ha hb rfl (by omega)
  rw [Int.zero_add] at s0
  have s2 : rational_sum.s0 [mkI a, mkI b] 2 ((2 : Nat) : Int) (false, ([], ())) (mkI (a + b)) = some (.inr ((false, ([], ())), mkI (a + b), ())) := rfl
  have key : iterL (fun x : (List (Bool × List Int × Unit)) × Int × Int × (Bool × List Int × Unit) × (Bool × List Int × Unit) × Unit => rational_sum.s0 x.1 x.2.1 x.2.2.1 x.2.2.2.1 x.2.2.2.2.1) ([mkI a, mkI b], 2, ((0 : Nat) : Int), (false, ([], ())), mkI 0, ()) = some ((false, ([], ())), mkI (a + b), ()) :=
    (iterL_next s0).trans ((iterL_next s1).trans (iterL_done s2))
  unfold rational_sum
  exact (congrArg (fun o => Option.bind o fun y => rational_sum.k0 y.1 y.2.1) key).trans rfl
theorem qnorm_frac {a b : Int} (ha : Bd n a) (hb : Bd n b) (hn : n ≤ 1000000000) (h0 : b ≠ 0) : rational_Normalize (mkI a, mkI b, ()) = some (mkQ (Rat.divInt a b)) := by
  unfold rational_Normalize rational_of
  simp only [etaI]
  rw [signB hb hn, Option.bind_some]
  simp only [rational_of.j1, rational_of.j2, cite, beq_iff_eq, etaI]
  rw [if_neg h0]
  by_cases hneg : b < 0
  · rw [if_pos hneg, if_neg (by decide), if_pos rfl, negI ha hn, Option.bind_some, negI hb hn, Option.bind_some]
    rw [Option.bind_some]
    rw [frac_rat ha.neg hb.neg hn (by omega), Option.bind_some, Rat.neg_divInt_neg]
  · rw [if_neg hneg, if_neg (by decide), if_neg (by decide), Option.bind_some, frac_rat ha hb hn (by omega), Option.bind_some]
theorem qnew {a b : Int} (ha : Bd n a) (hb : Bd n b) (hn : n ≤ 1000000000) (h0 : b ≠ 0) : rational_New (mkI a) (mkI b) = some (mkQ (Rat.divInt a b), true, ()) := by
  unfold rational_New
  simp only [etaI]
  rw [signB hb hn, Option.bind_some]
  simp only [rational_New.j1, cite, beq_iff_eq, etaI]
  rw [if_neg (by rw [if_neg h0]; split <;> decide), qnorm_frac ha hb hn h0, Option.bind_some]
theorem qwhole {a : Int} (ha : Bd n a) (hn : n ≤ 1000000000) : rational_Whole (mkI a) = some (mkQ (a : Rat)) := by
  have h1 := ha.len hn
  unfold rational_Whole
  simp only [etaI]
  rw [normI (by omega), Option.bind_some, small_ok (by decide) (by decide), Option.bind_some]
  rfl
theorem qneg {q : Rat} (h : BQ n q) (hn : n ≤ 1000000000) : rational_Neg (mkQ q) = some (mkQ (-q)) := by
  have hp := den_pos q
  unfold rational_Neg
  simp only [etaI, etaQ]
  rw [of_ok h hn, Option.bind_some]
  simp only [mkQ_1, mkQ_2, etaI]
  rw [negI h.1 hn, Option.bind_some]
  rw [frac_rat h.1.neg h.den hn hp, Option.bind_some, ← Rat.neg_divInt, Rat.num_divInt_den]
theorem qadd {m : Nat} {a b : Rat} (h : BQ n a) (h' : BQ m b) (hn : n + m + 1 ≤ 1000000000) : rational_Add (mkQ a) (mkQ b) = some (mkQ (a + b)) := by
  have hp := den_pos a
  have hp' := den_pos b
  have h1 := h.pos
  have h2 := h'.pos
  unfold rational_Add
  simp only [etaI, etaQ]
  rw [of_ok h (by omega), Option.bind_some, of_ok h' (by omega), Option.bind_some]
  simp only [mkQ_1, mkQ_2, etaI]
  rw [product_ok h.1 h'.den h1 (by omega), Option.bind_some, product_ok h'.1 h.den h2 (by omega), Option.bind_some, rat_sum (n := n + m) (h.1.mul h'.den) ((h'.1.mul h.den).mono (by omega)) (by omega) (by omega), Option.bind_some, product_ok h.den h'.den h1 (by omega), Option.bind_some]
  rw [frac_rat (n := n + m + 1) (Bd.add (h.1.mul h'.den) ((h'.1.mul h.den).mono (by omega))) ((h.den.mul h'.den).mono (by omega)) (by omega) (Int.mul_pos hp hp'), Option.bind_some, ← add_divInt]
theorem qsub {m : Nat} {a b : Rat} (h : BQ n a) (h' : BQ m b) (hn : n + m + 1 ≤ 1000000000) : rational_Sub (mkQ a) (mkQ b) = some (mkQ (a - b)) := by
  unfold rational_Sub
  simp only [etaI, etaQ]
  rw [qneg h' (by omega), Option.bind_some, qadd h h'.neg hn, Option.bind_some, Rat.sub_eq_add_neg]
theorem qmul {m : Nat} {a b : Rat} (h : BQ n a) (h' : BQ m b) (hn : n + m ≤ 1000000000) : rational_Mul (mkQ a) (mkQ b) = some (mkQ (a * b)) := by
  have hp := den_pos a
  have hp' := den_pos b
  have h1 := h.pos
  unfold rational_Mul
  simp only [etaI, etaQ]
  rw [of_ok h (by omega), Option.bind_some, of_ok h' (by omega), Option.bind_some]
  simp only [mkQ_1, mkQ_2, etaI]
  rw [product_ok h.1 h'.1 h1 (by omega), Option.bind_some, product_ok h.den h'.den h1 (by omega), Option.bind_some]
  rw [frac_rat (n := n + m) (h.1.mul h'.1) (h.den.mul h'.den) (by omega) (Int.mul_pos hp hp'), Option.bind_some, ← mul_divInt]
theorem num_ne {q : Rat} (h : q ≠ 0) : q.num ≠ 0 := fun h0 => h (Rat.num_eq_zero.1 h0)
theorem qquo {m : Nat} {a b : Rat} (h : BQ n a) (h' : BQ m b) (hn : n + m ≤ 1000000000) (h0 : b ≠ 0) : rational_Quo (mkQ a) (mkQ b) = some (mkQ (a / b), true, ()) := by
  have hp := den_pos a
  have hp' := den_pos b
  have h1 := h.pos
  unfold rational_Quo
  simp only [etaI, etaQ]
  rw [of_ok h (by omega), Option.bind_some, of_ok h' (by omega), Option.bind_some]
  simp only [mkQ_1, mkQ_2, etaI]
  rw [product_ok h.1 h'.den h1 (by omega), Option.bind_some, product_ok h.den h'.1 h1 (by omega), Option.bind_some]
  rw [qnew (n := n + m) (h.1.mul h'.den) (h.den.mul h'.1) (by omega) (Int.mul_ne_zero (by omega) (num_ne h0)), Option.bind_some, ← div_divInt]
theorem cm_rat (a b : Rat) : cm (a.num * b.den) (b.num * a.den) = if a = b then 0 else if a < b then -1 else 1 := by
  unfold cm
  by_cases h0 : a = b
  · subst h0
    rw [if_neg (by omega), if_pos rfl, if_pos rfl]
  · rw [if_neg h0]
    by_cases h1 : a < b
    · rw [if_pos h1, if_pos ((Rat.lt_iff a b).1 h1)]
    · rw [if_neg h1, if_neg (fun h => h1 ((Rat.lt_iff a b).2 h)), if_neg (fun h => h0 (Rat.eq_iff_mul_eq_mul.2 h))]
theorem qcmp {m : Nat} {a b : Rat} (h : BQ n a) (h' : BQ m b) (hn : n + m ≤ 1000000000) : rational_Cmp (mkQ a) (mkQ b) = some (if a = b then 0 else if a < b then -1 else 1) := by
  have h1 := h.pos
  have h2 := h'.pos
  unfold rational_Cmp rational_fraction__compare
  simp only [etaI, etaQ]
  rw [of_ok h (by omega), Option.bind_some, of_ok h' (by omega), Option.bind_some]
  simp only [mkQ_1, mkQ_2, etaI]
  rw [product_ok h.1 h'.den h1 (by omega), Option.bind_some, product_ok h'.1 h.den h2 (by omega), Option.bind_some, cmpI (n := n + m) (h.1.mul h'.den) ((h'.1.mul h.den).mono (by omega)) (by omega), Option.bind_some, Option.bind_some, cm_rat]
end
end Go.Proofs.YtgbndganadelpaaDoor.V
/- Prime numbers, factor lists, and what is multiplicative over them. -/
namespace Go.Proofs.YtgbndganadelpaaDoor.Num
def Pr (p : Nat) : Prop := 2 ≤ p ∧ ∀ d, d ∣ p → d = 1 ∨ d = p
theorem Pr.coprime {p a : Nat} (hp : Pr p) (h : ¬ p ∣ a) : Nat.Coprime p a := by
  rcases hp.2 (Nat.gcd p a) (Nat.gcd_dvd_left _ _) with h1 | h1
  · exact h1
  · exact absurd (h1 ▸ Nat.gcd_dvd_right p a) h
theorem Pr.dvd_mul {p a b : Nat} (hp : Pr p) (h : p ∣ a * b) : p ∣ a ∨ p ∣ b := by
  by_cases ha : p ∣ a
  · exact .inl ha
  · exact .inr ((hp.coprime ha).dvd_of_dvd_mul_left h)
theorem Pr.not_dvd_one {p : Nat} (hp : Pr p) : ¬ p ∣ 1 := by
  intro h
  have := Nat.le_of_dvd (by omega) h
  have := hp.1
  omega
theorem Pr.eq_of_dvd {p q : Nat} (hp : Pr p) (hq : Pr q) (h : p ∣ q) : p = q := by
  rcases hq.2 p h with h | h
  · have := hp.1; omega
  · exact h
/-- `L` is the list of the prime powers of `n`, ascending, all primes above `lo`. -/
def Fac : Nat → Nat → List (Nat × Nat) → Prop
  | _, n, [] => n = 1
  | lo, n, (p, e) :: L => lo < p ∧ Pr p ∧ 1 ≤ e ∧ ∃ m, n = p ^ e * m ∧ Fac p m L
theorem Fac.pos : ∀ {L : List (Nat × Nat)} {lo n : Nat}, Fac lo n L → 1 ≤ n
  | [], _, _, h => by simp only [Fac] at h; omega
  | (p, e) :: L, _, _, h => by
    obtain ⟨_, hp, _, m, rfl, hm⟩ := h
    have := hm.pos
    have h2 : 0 < p ^ e := Nat.pow_pos (by have := hp.1; omega)
    exact Nat.mul_pos h2 (by omega)
theorem Fac.mono : ∀ {L : List (Nat × Nat)} {lo lo' n : Nat}, Fac lo n L → lo' ≤ lo → Fac lo' n L
  | [], _, _, _, h, _ => h
  | (p, e) :: L, _, _, _, h, hl => by
    obtain ⟨h1, h2⟩ := h
    exact ⟨by omega, h2⟩
theorem Fac.mem : ∀ {L : List (Nat × Nat)} {lo n : Nat}, Fac lo n L → ∀ x ∈ L, Pr x.1 ∧ 1 ≤ x.2 ∧ x.1 ^ x.2 ∣ n ∧ lo < x.1
  | [], _, _, _ => by simp
  | (p, e) :: L, lo, n, h => by
    obtain ⟨h1, hp, he, m, rfl, hm⟩ := h
    intro x hx
    rcases List.mem_cons.1 hx with rfl | hx
    · exact ⟨hp, he, ⟨m, rfl⟩, h1⟩
    · obtain ⟨a, b, c, d⟩ := hm.mem x hx
      exact ⟨a, b, Nat.dvd_trans c ⟨p ^ e, Nat.mul_comm _ _⟩, by omega⟩
inductive JR (s : Nat → Int) : Nat → Int → Prop
  | one : JR s 1 1
  | mul {p n : Nat} {v : Int} : Pr p → JR s n v → JR s (p * n) (s p * v)
theorem JR.pos {s : Nat → Int} {n : Nat} {v : Int} (h : JR s n v) : 1 ≤ n := by
  induction h with
  | one => exact Nat.le_refl _
  | mul hp _ ih => exact Nat.mul_pos (by have := hp.1; omega) ih
theorem JR.div {s : Nat → Int} {n : Nat} {v : Int} (h : JR s n v) {q : Nat} (hq : Pr q) : q ∣ n → ∃ m v', n = q * m ∧ JR s m v' ∧ v = s q * v' := by
  induction h with
  | one => exact fun h => absurd h hq.not_dvd_one
  | @mul p n v hp hn ih =>
    intro hd
    by_cases hqp : q = p
    · subst hqp; exact ⟨n, v, rfl, hn, rfl⟩
    · rcases hq.dvd_mul hd with hd | hd
      · exact absurd (hq.eq_of_dvd hp hd) hqp
      · obtain ⟨m, v', rfl, hm, rfl⟩ := ih hd
        refine ⟨p * m, s p * v', ?_, .mul hp hm, ?_⟩
        · rw [← Nat.mul_assoc, ← Nat.mul_assoc, Nat.mul_comm p q]
        · rw [← Int.mul_assoc, ← Int.mul_assoc, Int.mul_comm (s p)]
theorem JR.fn {s : Nat → Int} {n : Nat} {v : Int} (h : JR s n v) : ∀ {v' : Int}, JR s n v' → v = v' := by
  induction h with
  | one =>
    intro v' h'
    generalize hn : 1 = n at h'
    cases h' with
    | one => rfl
    | @mul p n v hp h2 => exact absurd ⟨n, hn⟩ hp.not_dvd_one
  | @mul p n v hp hn ih =>
    intro v' h'
    obtain ⟨m, w, hm, hw, rfl⟩ := h'.div hp ⟨n, rfl⟩
    have : n = m := Nat.eq_of_mul_eq_mul_left (by have := hp.1; omega) hm
    subst this
    rw [ih hw]
theorem JR.times {s : Nat → Int} {m : Nat} {v : Int} (h : JR s m v) {n : Nat} {w : Int} (h' : JR s n w) : JR s (m * n) (v * w) := by
  induction h with
  | one => simpa using h'
  | mul hp _ ih => rw [Nat.mul_assoc, Int.mul_assoc]; exact .mul hp ih
theorem JR.prime {s : Nat → Int} {p : Nat} (hp : Pr p) : JR s p (s p) := by
  have := JR.mul (s := s) hp JR.one
  simpa using this
theorem JR.pow {s : Nat → Int} {p : Nat} (hp : Pr p) : ∀ e, JR s (p ^ e) (s p ^ e)
  | 0 => by simpa using JR.one
  | e + 1 => by
    rw [Nat.pow_succ, Int.pow_succ]
    exact (JR.pow hp e).times (JR.prime hp)
/-- The value of a factor list. -/
def val (s : Nat → Int) : List (Nat × Nat) → Int
  | [] => 1
  | (p, e) :: L => s p ^ e * val s L
theorem JR.congr {s t : Nat → Int} {n : Nat} {v : Int} (h : JR s n v) : (∀ p, Pr p → p ∣ n → s p = t p) → JR t n v := by
  induction h with
  | one => exact fun _ => .one
  | @mul p n v hp hn ih =>
    intro hst
    rw [hst p hp ⟨n, rfl⟩]
    exact .mul hp (ih fun q hq hd => hst q hq (Nat.dvd_trans hd ⟨p, Nat.mul_comm _ _⟩))
end Go.Proofs.YtgbndganadelpaaDoor.Num
/- Laws: residues, powers modulo a prime number, the symbol of a unit. -/
namespace Go.Proofs.YtgbndganadelpaaDoor.V
open Go Go.Proofs.YtgbndganadelpaaDoor.E Go.Proofs.YtgbndganadelpaaDoor.LI Go.Proofs.YtgbndganadelpaaDoor.Num
set_option linter.unusedVariables false
set_option linter.unusedSimpArgs false
theorem tmod_nat (m n : Nat) : Int.tmod (m : Int) (n : Int) = ((m % n : Nat) : Int) := (Int.ofNat_tmod m n).symm
theorem tdiv_nat (m n : Nat) : Int.tdiv (m : Int) (n : Int) = ((m / n : Nat) : Int) := (Int.ofNat_tdiv m n).symm
theorem half_wrap (e : Nat) (he : e ≤ 2147483647) : IntKind.wrap .i64 (Int.tdiv (e : Int) 2) = ((e / 2 : Nat) : Int) := by
  rw [show Int.tdiv (e : Int) 2 = ((e / 2 : Nat) : Int) from tdiv_nat e 2]
  exact wi64 (by omega) (by omega)
/-- The symbol of a residue r modulo an odd prime number. -/
def lg (r p : Nat) : Int := if r ^ ((p - 1) / 2) % p = 1 then 1 else -1
end Go.Proofs.YtgbndganadelpaaDoor.V
/- Laws of powers, and of the reference's rational numbers. -/
namespace Go.Proofs.YtgbndganadelpaaDoor.V
open Go Go.Proofs.YtgbndganadelpaaDoor.E Go.Proofs.YtgbndganadelpaaDoor.LI
set_option linter.unusedVariables false
set_option linter.unusedSimpArgs false
theorem pow_loop (B : Nat) (hB : (limbs B).length ≤ 100000) (b4 : Bool × List Int × Unit) : ∀ (N e r c : Nat), e < N → e ≤ 64 → r * c ^ e = B → 0 < r → 0 < c →
    iterL (fun x : Int × (Bool × List Int × Unit) × (Bool × List Int × Unit) × (Bool × List Int × Unit) × Unit => integer_Pow.s0 x.1 x.2.1 x.2.2.1 x.2.2.2.1) ((e : Int), b4, mkI (r : Int), mkI (c : Int), ()) = some (b4, mkI (B : Int), ())
  | 0, e, r, c, h, _, _, _, _ => by omega
  | N + 1, e, r, c, h, he, hB', hr, hc => by
    by_cases h0 : e = 0
    · subst h0
      rw [Nat.pow_zero, Nat.mul_one] at hB'
      subst hB'
      refine iterL_done ?_
      simp only [integer_Pow.s0, cite, decide_eq_true_eq]
      rw [if_neg (by omega)]
    · have hm : Int.tmod (e : Int) 2 = ((e % 2 : Nat) : Int) := tmod_nat e 2
      have hh := half_wrap e (by omega)
      have ce : c * c ^ (e - 1) = c ^ e := by rw [← Nat.pow_succ', show (e - 1).succ = e by omega]
      have cpos : 0 < c ^ (e - 1) := Nat.pow_pos hc
      have hce : c ≤ c ^ e := by rw [← ce]; exact Nat.le_mul_of_pos_right _ cpos
      have hrB : r ≤ B := by rw [← hB']; exact Nat.le_mul_of_pos_right _ (Nat.pow_pos hc)
      have hcB : c ≤ B := by rw [← hB']; exact Nat.le_trans hce (Nat.le_mul_of_pos_left _ hr)
      have lr := len_le hrB
      have lc := len_le hcB
      have m1 := mulI (r : Int) (c : Int) (by rw [Int.natAbs_natCast, Int.natAbs_natCast]; omega)
      have m2 := mulI (c : Int) (c : Int) (by rw [Int.natAbs_natCast]; omega)
      rw [← Int.natCast_mul] at m1 m2
      have m1' : integer_Mul ((mkI (r : Int)).1, ((mkI (r : Int)).2.1, ())) ((mkI (c : Int)).1, ((mkI (c : Int)).2.1, ())) = _ := m1
      have m2' : integer_Mul ((mkI (c : Int)).1, ((mkI (c : Int)).2.1, ())) ((mkI (c : Int)).1, ((mkI (c : Int)).2.1, ())) = _ := m2
      have step : ∀ r' : Nat, integer_Pow.j3 (e : Int) b4.1 b4.2.1 (mkI (r' : Int)).1 (mkI (r' : Int)).2.1 (mkI (c : Int)).1 (mkI (c : Int)).2.1 = some (.inl (((e / 2 : Nat) : Int), b4, mkI (r' : Int), mkI ((if e > 1 then c * c else c : Nat) : Int), ())) := fun r' => by
        simp only [integer_Pow.j3, integer_Pow.j4, cite, decide_eq_true_eq]
        by_cases h1 : e > 1
        · rw [if_pos (by omega), m2', Option.bind_some, hh, if_pos h1]
        · rw [if_neg (by omega), hh, if_neg h1]
      have half : ∀ r' : Nat, r' * c ^ (2 * (e / 2)) = B → r' * (if e > 1 then c * c else c : Nat) ^ (e / 2) = B := fun r' h9 => by
        by_cases h1 : e > 1
        · rw [if_pos h1, ← Nat.pow_two, ← Nat.pow_mul]; exact h9
        · rw [if_neg h1, show e / 2 = 0 by omega, Nat.pow_zero]
          rw [show e / 2 = 0 by omega, Nat.mul_zero, Nat.pow_zero] at h9
          exact h9
      have c2 : 0 < (if e > 1 then c * c else c : Nat) := by split <;> first | exact Nat.mul_pos hc hc | exact hc
      by_cases hodd : e % 2 = 1
      · have key := pow_loop B hB b4 N (e / 2) (r * c) (if e > 1 then c * c else c : Nat) (by omega) (by omega) (half _ (by
          rw [Nat.mul_assoc, ← Nat.pow_succ', show (2 * (e / 2)).succ = e by omega]; exact hB')) (Nat.mul_pos hr hc) c2
        refine (iterL_next ?_).trans key
        simp only [integer_Pow.s0, integer_Pow.j2, cite, decide_eq_true_eq, beq_iff_eq]
        rw [if_pos (by omega), hm, if_pos (by rw [hodd]; rfl), m1', Option.bind_some, step (r * c)]
      · have key := pow_loop B hB b4 N (e / 2) r (if e > 1 then c * c else c : Nat) (by omega) (by omega) (half _ (by
          rw [show 2 * (e / 2) = e by omega]; exact hB')) hr c2
        refine (iterL_next ?_).trans key
        simp only [integer_Pow.s0, integer_Pow.j2, cite, decide_eq_true_eq, beq_iff_eq]
        rw [if_pos (by omega), hm, if_neg (by omega), step r]
theorem pow_ok {c e : Nat} (hc : 0 < c) (he : e ≤ 64) (hl : (limbs (c ^ e)).length ≤ 100000) (hl2 : (limbs c).length ≤ 100000) : integer_Pow (mkI (c : Int)) (e : Int) = some (mkI ((c ^ e : Nat) : Int), true, ()) := by
  have key := pow_loop (c ^ e) hl (false, ([], ())) _ e 1 c (Nat.lt_succ_self _) he (by rw [Nat.one_mul]) (by omega) hc
  unfold integer_Pow
  simp only [integer_Pow.j1, cite, decide_eq_true_eq]
  have nm : integer_Normalize ((mkI (c : Int)).1, ((mkI (c : Int)).2.1, ())) = some (mkI (c : Int)) := normI (by rw [Int.natAbs_natCast]; omega)
  have key' : iterL (fun x : Int × (Bool × List Int × Unit) × (Bool × List Int × Unit) × (Bool × List Int × Unit) × Unit => integer_Pow.s0 x.1 x.2.1 x.2.2.1 x.2.2.2.1) ((e : Int), (false, (([] : List Int), ())), ((mkI 1).1, ((mkI 1).2.1, ())), ((mkI (c : Int)).1, ((mkI (c : Int)).2.1, ())), ()) = _ := key
  rw [if_neg (by omega), if_neg (by omega), small_ok (by decide) (by decide), Option.bind_some, nm, Option.bind_some, key', Option.bind_some]
  rfl
theorem Bd.pow {n : Nat} {a : Int} (h : Bd n a) : ∀ k : Nat, Bd (n * k + 1) (a ^ k)
  | 0 => by rw [Int.pow_zero]; exact Bd.mono (n := 1) (by unfold Bd; decide) (by omega)
  | k + 1 => by
    rw [Int.pow_succ]
    exact ((Bd.pow h k).mul h).mono (by rw [Nat.mul_add]; omega)
theorem Bd.lenG {n : Nat} {z : Int} (h : Bd n z) : (limbs z.natAbs).length ≤ n / 32 + 1 := limbs_len.2 (Nat.lt_of_lt_of_le h (by
  rw [show (4294967296 : Nat) = 2 ^ 32 from rfl, ← Nat.pow_mul]
  exact Nat.pow_le_pow_right (by omega) (by omega)))
theorem powB {n k : Nat} {a : Int} (h : Bd n a) (ha : 0 < a) (hn : n ≤ 10000) (hk : k ≤ 64) : integer_Pow (mkI a) (k : Int) = some (mkI (a ^ k), true, ()) := by
  obtain ⟨c, rfl⟩ : ∃ c : Nat, a = c := ⟨a.toNat, by omega⟩
  have hb : n * k + 1 ≤ 1000000 := by
    have := Nat.mul_le_mul hn hk
    omega
  have hp := (h.pow k).lenG
  rw [← Int.natCast_pow, Int.natAbs_natCast] at hp
  have hl2 := h.lenG
  rw [Int.natAbs_natCast] at hl2
  have := pow_ok (c := c) (e := k) (by omega) hk (by omega) (by omega)
  rw [this, Int.natCast_pow]
theorem qpow_neg {n k : Nat} {q : Rat} (h : BQ n q) (hq : 0 < q.num) (hn : n ≤ 10000) (hk : k ≤ 64) (h1 : 0 < k) : rational_Pow (mkQ q) (-(k : Int)) = some (mkQ ((q ^ k)⁻¹), true, ()) := by
  have hp := den_pos q
  have hb : n * k + 1 ≤ 1000000 := by
    have := Nat.mul_le_mul hn hk
    omega
  have hm : mx2 (-(k : Int)) (IntKind.wrap .i64 (0 - -(k : Int))) = (k : Int) := by
    rw [wi64 (by omega) (by omega)]; unfold mx2; split <;> omega
  unfold rational_Pow
  simp only [rational_Pow.j1, rational_Pow.j2, cite, decide_eq_true_eq, etaI, etaQ, mkQ_1, mkQ_2]
  rw [if_neg (by omega), if_neg (by omega), mkQ_3, of_ok h (by omega), Option.bind_some, hm, mkQ_1, mkQ_2, powB h.1 hq hn hk, Option.bind_some, powB h.den hp hn hk, Option.bind_some, if_pos (by omega), qnew (h.den.pow k) (h.1.pow k) (by omega) (by have := Int.pow_pos hq (m := k); omega), Option.bind_some, pow_divInt, Rat.inv_divInt]
end Go.Proofs.YtgbndganadelpaaDoor.V
/- Laws: the prime test, residues, powers modulo a prime number, the symbol of a unit. -/
namespace Go.Proofs.YtgbndganadelpaaDoor.V
open Go Go.Proofs.YtgbndganadelpaaDoor.E Go.Proofs.YtgbndganadelpaaDoor.LI Go.Proofs.YtgbndganadelpaaDoor.Num
set_option linter.unusedVariables false
set_option linter.unusedSimpArgs false
end Go.Proofs.YtgbndganadelpaaDoor.V
/- Laws of localmass: half, the diagonal factor. -/
namespace Go.Proofs.YtgbndganadelpaaDoor.V
open Go Go.Proofs.YtgbndganadelpaaDoor.E Go.Proofs.YtgbndganadelpaaDoor.LI Go.Proofs.YtgbndganadelpaaDoor.Num
set_option linter.unusedVariables false
set_option linter.unusedSimpArgs false
theorem bqn {n : Nat} (h : n < 1000000) : BQ 64 (((n : Int)) : Rat) := BQ.int (Bd.i64 (by omega) (by omega)) (by omega)
theorem bqz {z : Int} (h : -1000000 ≤ z) (h' : z ≤ 1000000) : BQ 64 ((z : Rat)) := BQ.int (Bd.i64 (by omega) (by omega)) (by omega)
theorem BQ.inv {n : Nat} {q : Rat} (h : BQ n q) : BQ (1 + n) q⁻¹ := by
  rw [show q⁻¹ = 1 / q by rw [Rat.div_def, Rat.one_mul]]
  exact (BQ.int (n := 1) (z := 1) (by unfold Bd; decide) (by decide)).div h
theorem BQ.sub {n m : Nat} {a b : Rat} (h : BQ n a) (h' : BQ m b) : BQ (n + m + 1) (a - b) := by rw [Rat.sub_eq_add_neg]; exact h.add h'.neg
theorem lwhole {z : Int} (h : -9223372036854775808 ≤ z) (h' : z ≤ 9223372036854775807) : localmass_whole z = some (mkQ (z : Rat)) := by
  unfold localmass_whole
  rw [small_ok h h', Option.bind_some]
  simp only [etaI, etaQ, etaP]
  rw [qwhole (Bd.i64 h h') (by decide), Option.bind_some]
/-- 1 - c p^(-k). -/
def ls (p : Nat) (c : Int) (k : Nat) : Rat := 1 - (c : Rat) * (((p : Int) : Rat) ^ k)⁻¹
theorem ls_bd {p k : Nat} {c : Int} (hp : p ≤ 9973) (hc : -1 ≤ c ∧ c ≤ 1) (hk : k ≤ 64) : BQ 5000 (ls p c k) := by
  have h1 := ((bqn (n := p) (by omega)).pow k).inv
  have h2 := (bqz (z := c) (by omega) (by omega)).mul h1
  exact ((BQ.int (n := 1) (z := 1) (by unfold Bd; decide) (by decide)).sub h2).mono (by omega)
theorem less_ok {n p k : Nat} {a : Rat} {c : Int} (ha : BQ n a) (hn : n ≤ 100000000) (hp0 : 0 < p) (hp : p ≤ 9973) (hc : -1 ≤ c ∧ c ≤ 1) (hk0 : 0 < k) (hk : k ≤ 64) : localmass_less (mkQ a) c (p : Int) (k : Int) = some (mkQ (a * ls p c k)) := by
  have h1 := ((bqn (n := p) (by omega)).pow k).inv
  have hcz := bqz (z := c) (by omega) (by omega)
  have h3 : BQ 1 (1 : Rat) := BQ.int (z := 1) (by unfold Bd; decide) (by decide)
  unfold localmass_less
  simp only [etaI, etaQ, etaP]
  rw [lwhole (by omega) (by omega), Option.bind_some, show IntKind.wrap .i64 (0 - (k : Int)) = -(k : Int) by rw [wi64 (by omega) (by omega)]; omega, qpow_neg (bqn (n := p) (by omega)) (by show (0 : Int) < (p : Int); omega) (by decide) hk hk0, Option.bind_some, lwhole (by decide) (by decide), Option.bind_some, lwhole (by omega) (by omega), Option.bind_some]
  simp only []
  rw [qmul hcz h1 (by omega), Option.bind_some, show ((1 : Int) : Rat) = 1 from rfl, qsub h3 (hcz.mul h1) (by omega), Option.bind_some, qmul ha (h3.sub (hcz.mul h1)) (by omega), Option.bind_some]
  rfl
/-- 2 times the product of 1 - p^(-2 j) over j = 1 .. i. -/
def hd2 (p : Nat) : Nat → Rat
  | 0 => 2
  | i + 1 => hd2 p i * ls p 1 (2 * (i + 1))
def hf (p s : Nat) (c : Int) : Rat := 1 / (hd2 p (s - 1) * ls p c s)
theorem hd2_bd {p : Nat} (hp : p ≤ 9973) : ∀ i, i ≤ 30 → BQ (i * 5000 + 2) (hd2 p i)
  | 0, _ => BQ.int (z := 2) (by unfold Bd; decide) (by decide)
  | i + 1, h => ((hd2_bd hp i (by omega)).mul (ls_bd hp (by decide) (by omega))).mono (by omega)
theorem hf_bd {p s : Nat} {c : Int} (hp : p ≤ 9973) (hs : s ≤ 30) (hc : -1 ≤ c ∧ c ≤ 1) : BQ 200000 (hf p s c) :=
  ((BQ.int (n := 1) (z := 1) (by unfold Bd; decide) (by decide)).div ((hd2_bd hp (s - 1) (by omega)).mul (ls_bd hp hc (by omega)))).mono (by omega)
theorem pow_ge2 {p k : Nat} (hp : 2 ≤ p) (hk : 0 < k) : 2 ≤ p ^ k := by
  obtain ⟨m, rfl⟩ : ∃ m, k = m + 1 := ⟨k - 1, by omega⟩
  rw [Nat.pow_succ]
  have := Nat.mul_le_mul (Nat.pow_pos (n := m) (show 0 < p by omega)) hp
  omega
theorem ls_ne {p k : Nat} {c : Int} (hp : 2 ≤ p) (hk : 0 < k) (hc : -1 ≤ c ∧ c ≤ 1) : ls p c k ≠ 0 := by
  have h2 := pow_ge2 hp hk
  have e : (((p : Int) : Rat) ^ k) = (((p ^ k : Nat) : Int) : Rat) := by rw [Int.natCast_pow, Rat.intCast_pow]
  unfold ls
  rw [e]
  generalize p ^ k = q at h2
  have hq : ((q : Int) : Rat) ≠ 0 := fun h => by have := Rat.intCast_eq_zero_iff.1 h; omega
  have hi := Rat.mul_inv_cancel _ hq
  intro h
  have h3 : (c : Rat) = ((q : Int) : Rat) := by
    generalize ((q : Int) : Rat)⁻¹ = x at hi h
    generalize ((q : Int) : Rat) = y at hi ⊢
    grind
  have := Rat.intCast_inj.1 h3
  omega
theorem hd2_ne {p : Nat} (hp : 2 ≤ p) : ∀ i, hd2 p i ≠ 0
  | 0 => by show (2 : Rat) ≠ 0; decide
  | i + 1 => fun h => (Rat.mul_eq_zero.1 h).elim (hd2_ne hp i) (ls_ne hp (by omega) (by decide))
theorem half_loop {p s : Nat} (hp0 : 0 < p) (hp : p ≤ 9973) (hs : s ≤ 30) (c : Int) (b6 : QV) : ∀ (t i : Nat), s - (i + 1) = t → i + 1 ≤ s →
    iterL (fun x : Int × Int × Int × Int × ((Bool × List Int × Unit) × (Bool × List Int × Unit) × Unit) × ((Bool × List Int × Unit) × (Bool × List Int × Unit) × Unit) × Unit => localmass_half.s0 x.1 x.2.1 x.2.2.1 x.2.2.2.1 x.2.2.2.2.1 x.2.2.2.2.2.1) ((p : Int), (s : Int), c, ((i + 1 : Nat) : Int), b6, mkQ (hd2 p i), ()) = some ((p : Int), (s : Int), c, b6, mkQ (hd2 p (s - 1)), ()) := by
  intro t
  induction t with
  | zero =>
    intro i ht hi
    obtain rfl : s = i + 1 := by omega
    refine iterL_done ?_
    simp only [localmass_half.s0, cite, decide_eq_true_eq, etaI, etaQ, etaP]
    rw [if_neg (by omega)]
    rfl
  | succ t ih =>
    intro i ht hi
    refine (iterL_next ?_).trans (ih (i + 1) (by omega) (by omega))
    have w1 : IntKind.wrap .i64 (2 * ((i + 1 : Nat) : Int)) = ((2 * (i + 1) : Nat) : Int) := by rw [wi64 (by omega) (by omega)]; omega
    simp only [localmass_half.s0, localmass_half.j1, cite, decide_eq_true_eq, etaI, etaQ, etaP]
    rw [if_pos (by omega), w1, less_ok (hd2_bd hp i (by omega)) (by omega) hp0 hp (by decide) (by omega) (by omega), Option.bind_some, up (by omega)]
    rfl
theorem half_ok {p s : Nat} {c : Int} (hp0 : 2 ≤ p) (hp : p ≤ 9973) (hs0 : 1 ≤ s) (hs : s ≤ 30) (hc : -1 ≤ c ∧ c ≤ 1) : localmass_half (p : Int) (s : Int) c = some (mkQ (hf p s c)) := by
  have hl := half_loop (p := p) (s := s) (by omega) hp hs c zQ _ 0 rfl (by omega)
  have hl' : iterL (fun x : Int × Int × Int × Int × ((Bool × List Int × Unit) × (Bool × List Int × Unit) × Unit) × ((Bool × List Int × Unit) × (Bool × List Int × Unit) × Unit) × Unit => localmass_half.s0 x.1 x.2.1 x.2.2.1 x.2.2.2.1 x.2.2.2.2.1 x.2.2.2.2.2.1) ((p : Int), (s : Int), c, 1, ((false, ([], ())), ((false, ([], ())), ())), mkQ ((2 : Int) : Rat), ()) = _ := hl
  have hb := hd2_bd (p := p) hp (s - 1) (by omega)
  have h1 : BQ 1 (1 : Rat) := BQ.int (z := 1) (by unfold Bd; decide) (by decide)
  unfold localmass_half
  simp only [etaI, etaQ, etaP]
  rw [lwhole (by decide) (by decide), Option.bind_some, hl', Option.bind_some]
  simp only [localmass_half.k0, etaI, etaQ, etaP]
  rw [lwhole (by decide) (by decide), Option.bind_some, less_ok hb (by omega) (by omega) hp hc (by omega) (by omega), Option.bind_some, show ((1 : Int) : Rat) = 1 from rfl, qquo h1 (hb.mul (ls_bd hp hc (by omega))) (by omega) (fun h => (Rat.mul_eq_zero.1 h).elim (hd2_ne hp0 _) (ls_ne hp0 (by omega) hc)), Option.bind_some]
  rfl
/-- The diagonal factor of a species that there is. -/
theorem diag_ok {p n : Nat} {c : Int} (hk : localmass_known (p : Int) = some true) (hp0 : 2 ≤ p) (hp : p ≤ 9973) (h1 : 1 ≤ n) (h9 : n ≤ 9) (hc : n % 2 = 1 ∧ c = 0 ∨ n % 2 = 0 ∧ (c = 1 ∨ c = -1)) :
    localmass_Diagonal (p : Int) ((n : Int), c, ()) = some (mkQ (hf p ((n + 1) / 2) c), 0, ()) := by
  have e2 : Int.tmod (n : Int) 2 = ((n % 2 : Nat) : Int) := (Int.ofNat_tmod n 2).symm
  have e3 : IntKind.wrap .i64 (Int.tdiv (IntKind.wrap .i64 ((n : Int) + 1)) 2) = (((n + 1) / 2 : Nat) : Int) := by
    rw [up (by omega), show Int.tdiv ((n + 1 : Nat) : Int) 2 = (((n + 1) / 2 : Nat) : Int) from (Int.ofNat_tdiv _ 2).symm, wi64 (by omega) (by omega)]
  have hh := half_ok (p := p) (s := (n + 1) / 2) (c := c) hp0 hp (by omega) (by omega) (by omega)
  unfold localmass_Diagonal
  rw [hk, Option.bind_some]
  simp only [localmass_Diagonal.j1, localmass_Diagonal.j2, localmass_Diagonal.j3, localmass_Diagonal.j4, Bool.not_true, cite, decide_eq_true_eq, beq_iff_eq, bne_iff_ne, e2, e3, etaI, etaQ, etaP]
  rw [if_neg (by decide), if_neg (by omega), if_neg (by omega), if_neg (show ¬ (n : Int) = 0 by omega), hh, Option.bind_some]
  rcases hc with ⟨ho, rfl⟩ | ⟨ho, hc⟩
  · rw [if_pos (by omega), if_neg (by decide), if_neg (by omega), if_neg (by omega)]
  · rw [if_neg (by omega), if_pos (by omega)]
    rcases hc with rfl | rfl
    · rw [if_neg (by decide), if_neg (by omega)]
    · rw [if_pos (by decide), if_neg (by decide), if_neg (by omega)]
end Go.Proofs.YtgbndganadelpaaDoor.V
/- What a run with fuel gives, the function without fuel gives. -/
namespace Go.Proofs.YtgbndganadelpaaDoor.E
open Go
set_option linter.unusedVariables false
def Le {α : Type} (a b : Option α) : Prop := ∀ y, a = some y → b = some y
theorem Le.refl {α : Type} (a : Option α) : Le a a := fun _ h => h
theorem Le.cond {α : Type} {c : Bool} {a a' b b' : Option α} (h : Le a a') (h' : Le b b') : Le (cond c a b) (cond c a' b') := by
  cases c
  · exact h'
  · exact h
theorem Le.bind {α β : Type} {a a' : Option α} {f f' : α → Option β} (h : Le a a') (h' : ∀ y, Le (f y) (f' y)) : Le (a.bind f) (a'.bind f') := by
  intro y hy
  obtain ⟨x, h1, h2⟩ := Option.bind_eq_some_iff.1 hy
  rw [h x h1, Option.bind_some]
  exact h' x y h2
theorem Le.iter {α β : Type} {f f' : α → Option (α ⊕ β)} (h : ∀ x, Le (f x) (f' x)) : ∀ (n : Nat) (x : α), Le (iterN f n x) (iterL f' x)
  | 0, x => fun y hy => by cases hy
  | n + 1, x => fun y hy => by
    simp only [iterN] at hy
    split at hy
    · cases hy
    · rename_i x' hx
      rw [iterL_next (h x _ hx)]
      exact Le.iter h n x' y hy
    · rename_i b hx
      cases hy
      exact iterL_done (h x _ hx)
theorem Le.sum {α β γ : Type} {f f' : α → Option γ} {g g' : β → Option γ} (h : ∀ y, Le (f y) (f' y)) (h' : ∀ z, Le (g z) (g' z)) (s : α ⊕ β) : Le (Sum.casesOn s f g) (Sum.casesOn (motive := fun _ => Option γ) s f' g') := by
  cases s with
  | inl y => exact h y
  | inr z => exact h' z
/-- A run with fuel, in the order of the function without. -/
abbrev iterC (n : Nat) {α β : Type} (f : α → Option (α ⊕ β)) (x : α) : Option β := iterN f n x
end Go.Proofs.YtgbndganadelpaaDoor.E
