/- Laws of the whole numbers of both: on numbers `mkI z`, with bounds in bits. -/
import Derived.Test.YtgbndganadelpaaGreatDoorYLocalmassStandard14
import Derived.Test.YtgbndganadelpaaGreatDoorYLocalmassStandard13
namespace Go.Proofs.YtgbndganadelpaaGreatDoor.V
open Go Go.Proofs.YtgbndganadelpaaGreatDoor.E Go.Proofs.YtgbndganadelpaaGreatDoor.LI
set_option linter.unusedVariables false
set_option linter.unusedSimpArgs false
abbrev IV : Type := Bool × List Int × Unit
abbrev QV : Type := IV × IV × Unit
theorem etaI (z : IV) : (z.1, z.2.1, ()) = z := rfl
theorem etaQ (z : QV) : ((z.1.1, z.1.2.1, ()), (z.2.1.1, z.2.1.2.1, ()), ()) = z := rfl
theorem etaP (z : QV) : (z.1, z.2.1, ()) = z := rfl
/-- A number of at most n bits. -/
def Bd (n : Nat) (z : Int) : Prop := z.natAbs < 2 ^ n
theorem Bd.mono {n m : Nat} {z : Int} (h : Bd n z) (hm : n ≤ m) : Bd m z := Nat.lt_of_lt_of_le h (Nat.pow_le_pow_right (by omega) hm)
theorem Bd.mul {n m : Nat} {a b : Int} (h : Bd n a) (h' : Bd m b) : Bd (n + m) (a * b) := by
  unfold Bd at *
  rw [Int.natAbs_mul, Nat.pow_add]
  exact Nat.lt_of_le_of_lt (Nat.mul_le_mul_right _ (Nat.le_of_lt h)) (Nat.mul_lt_mul_of_pos_left h' (Nat.two_pow_pos n))
theorem Bd.add {n : Nat} {a b : Int} (h : Bd n a) (h' : Bd n b) : Bd (n + 1) (a + b) := by
  unfold Bd at *
  rw [Nat.pow_succ]
  omega
theorem Bd.neg {n : Nat} {a : Int} (h : Bd n a) : Bd n (-a) := by
  unfold Bd at *
  rwa [Int.natAbs_neg]
theorem Bd.len {n : Nat} {z : Int} (h : Bd n z) (hn : n ≤ 1000000000) : (limbs z.natAbs).length ≤ 31250001 := by
  have : (limbs z.natAbs).length ≤ n / 32 + 1 := limbs_len.2 (Nat.lt_of_lt_of_le h (by
    rw [show (4294967296 : Nat) = 2 ^ 32 from rfl, ← Nat.pow_mul]
    exact Nat.pow_le_pow_right (by omega) (by omega)))
  omega
theorem Bd.small {n : Nat} {z : Int} (h : z.natAbs < 2 ^ n) : Bd n z := h
theorem Bd.i64 {z : Int} (h : -9223372036854775808 ≤ z) (h' : z ≤ 9223372036854775807) : Bd 64 z := by
  unfold Bd
  rw [show (2 : Nat) ^ 64 = 18446744073709551616 from rfl]
  omega
section
variable {a b : Int} {n : Nat}
theorem raddI (ha : Bd n a) (hb : Bd n b) (hn : n ≤ 1000000000) : r01_Add (mkI a) (mkI b) = some (mkI (a + b)) := by
  have h1 := ha.len hn
  have h2 := hb.len hn
  have := radd_ok (mkI a).1 (mkI b).1 () () (lim_mkI a) (lim_mkI b) (by rw [len_mkI]; omega) (by rw [len_mkI]; omega)
  rwa [iv_mkI, iv_mkI] at this
theorem rnegI (ha : Bd n a) (hn : n ≤ 1000000000) : r01_Neg (mkI a) = some (mkI (-a)) := by
  have h1 := ha.len hn
  have := rneg_ok (mkI a).1 () (lim_mkI a) (by rw [len_mkI]; omega)
  rwa [iv_mkI] at this
theorem rsignI (ha : Bd n a) (hn : n ≤ 1000000000) : r01_Sign (mkI a) = some (if a = 0 then 0 else if a < 0 then -1 else 1) := by
  have h1 := ha.len hn
  have := rsign_ok (mkI a).1 () (lim_mkI a) (by rw [len_mkI]; omega)
  rwa [iv_mkI] at this
theorem rnormI (ha : Bd n a) (hn : n ≤ 1000000000) : r01_Normalize (mkI a) = some (mkI a) := by
  have h1 := ha.len hn
  unfold r01_Normalize
  rw [make_ok (mkI a).1 (lim_mkI a) (by rw [len_mkI]; omega), iv_mkI]
  rfl
theorem rabsI (ha : Bd n a) (hn : n ≤ 1000000000) : r01_Abs (mkI a) = some (mkI (a.natAbs : Nat)) := by
  have h1 := ha.len hn
  unfold r01_Abs
  rw [make_ok false (lim_mkI a) (by rw [len_mkI]; omega), iv_f, lv_mkI]
  rfl
theorem rdivmodI (ha : Bd n a) (hb : Bd n b) (hn : n ≤ 1000000000) (h0 : b ≠ 0) : r01_DivMod (mkI a) (mkI b) = some (mkI (a / b), mkI (a % b), true, ()) := by
  have h1 := ha.len hn
  have h2 := hb.len hn
  have := rdivmod_ok (mkI a).1 (mkI b).1 () () (lim_mkI a) (lim_mkI b) (by rw [len_mkI]; omega) (by rw [len_mkI]; omega) (by rw [iv_mkI]; exact h0)
  rwa [iv_mkI, iv_mkI] at this
theorem rquoI (ha : Bd n a) (hb : Bd n b) (hn : n ≤ 1000000000) (h0 : b ≠ 0) : r01_Quo (mkI a) (mkI b) = some (mkI (a / b)) := by
  unfold r01_Quo
  simp only [etaI]
  rw [rdivmodI ha hb hn h0, Option.bind_some]
theorem rremI (ha : Bd n a) (hb : Bd n b) (hn : n ≤ 1000000000) (h0 : b ≠ 0) : r01_Rem (mkI a) (mkI b) = some (mkI (a % b)) := by
  have h1 := ha.len hn
  have h2 := hb.len hn
  have := rrem_ok (mkI a).1 (mkI b).1 () () (lim_mkI a) (lim_mkI b) (by rw [len_mkI]; omega) (by rw [len_mkI]; omega) (by rw [iv_mkI]; exact h0)
  rwa [iv_mkI, iv_mkI] at this
theorem rgcd_loop (hn : n ≤ 1000000000) (c : IV) : ∀ (b a : Nat), Bd n (a : Int) → Bd n (b : Int) →
    iterL (fun x : (Bool × List Int × Unit) × (Bool × List Int × Unit) × (Bool × List Int × Unit) × Unit => r01_Gcd.s0 x.1 x.2.1 x.2.2.1) (c, mkI (a : Int), mkI (b : Int), ()) = some (c, mkI ((Nat.gcd a b : Nat) : Int), ()) := by
  intro b
  induction b using Nat.strongRecOn with
  | ind b ih =>
    intro a ha hb
    by_cases h0 : b = 0
    · subst h0
      refine iterL_done ?_
      simp only [r01_Gcd.s0, cite, bne_iff_ne, etaI]
      rw [rsignI hb hn, Option.bind_some, if_neg (by decide), Nat.gcd_zero_right]
    · have hm : a % b < b := Nat.mod_lt _ (by omega)
      have key := ih (a % b) hm b hb (by unfold Bd at *; omega)
      rw [Nat.gcd_comm a b, Nat.gcd_rec b a, Nat.gcd_comm]
      refine (iterL_next ?_).trans key
      simp only [r01_Gcd.s0, r01_Gcd.j1, cite, bne_iff_ne, etaI]
      rw [rsignI hb hn, Option.bind_some, if_pos (by rw [if_neg (by omega), if_neg (by omega)]; decide), rremI ha hb hn (by omega), Option.bind_some]
      rfl
theorem rgcdI (ha : Bd n a) (hb : Bd n b) (hn : n ≤ 1000000000) : r01_Gcd (mkI a) (mkI b) = some (mkI ((Int.gcd a b : Nat) : Int)) := by
  unfold r01_Gcd
  simp only [etaI]
  rw [rabsI ha hn, Option.bind_some, rabsI hb hn, Option.bind_some, rgcd_loop hn _ _ _ (by unfold Bd at *; rwa [Int.natAbs_natCast]) (by unfold Bd at *; rwa [Int.natAbs_natCast]), Option.bind_some]
  rfl
theorem rsameI (hb : Bd n a) (hn : n ≤ 1000000000) : r01_Same (mkI a) (mkI b) = some (decide (a = b)) := by
  have h1 := hb.len hn
  unfold r01_Same
  simp only [cite, beq_iff_eq]
  have e1 : (mkI a).1 = decide (a < 0) := rfl
  have e2 : (mkI b).1 = decide (b < 0) := rfl
  have e3 : (mkI a).2.1 = limbs a.natAbs := rfl
  have e4 : (mkI b).2.1 = limbs b.natAbs := rfl
  rw [e1, e2, e3, e4]
  by_cases hs : decide (a < 0) = decide (b < 0)
  · rw [if_pos hs]
    by_cases hl : (limbs a.natAbs).length = (limbs b.natAbs).length
    · rw [if_pos (by rw [hl]), rcmp_ok (by omega), Option.bind_some]
      congr 1
      rw [decide_eq_decide] at hs
      by_cases hab : a = b
      · rw [decide_eq_true hab, cm_eq (by rw [hab])]; rfl
      · rw [decide_eq_false hab, beq_eq_false_iff_ne]
        unfold cm
        split
        · decide
        · split
          · omega
          · decide
    · rw [if_neg (by omega)]
      congr 1
      symm
      exact decide_eq_false (fun h => hl (by rw [h]))
  · rw [if_neg hs]
    congr 1
    symm
    exact decide_eq_false (fun h => hs (by rw [h]))
theorem addI (ha : Bd n a) (hb : Bd n b) (hn : n ≤ 1000000000) : integer_Add (mkI a) (mkI b) = some (mkI (a + b)) := by
  have h1 := ha.len hn
  have h2 := hb.len hn
  have m1 : integer_magnitude (mkI a) = some (limbs a.natAbs) := by
    have := magnitude_ok (mkI a).1 () (lim_mkI a) (by rw [len_mkI]; omega)
    rwa [lv_mkI] at this
  have m2 : integer_magnitude (mkI b) = some (limbs b.natAbs) := by
    have := magnitude_ok (mkI b).1 () (lim_mkI b) (by rw [len_mkI]; omega)
    rwa [lv_mkI] at this
  have e1 : (mkI a).1 = decide (a < 0) := rfl
  have e2 : (mkI b).1 = decide (b < 0) := rfl
  unfold integer_Add
  simp only [etaI]
  rw [m1, Option.bind_some, m2, Option.bind_some]
  simp only [integer_Add.j1, integer_Add.j2, cite, beq_iff_eq, decide_eq_true_eq]
  rw [e1, e2]
  by_cases hs : decide (a < 0) = decide (b < 0)
  · rw [if_pos hs, plus_ok (lim_limbs _) (lim_limbs _) (by omega) (by omega), Option.bind_some, lv_limbs, lv_limbs]
    have hl : (limbs (a.natAbs + b.natAbs)).length < 17592186044416 := by
      have := (ha.add hb)
      have h3 : Bd (n + 1) ((a.natAbs + b.natAbs : Nat) : Int) := by unfold Bd at *; rw [Nat.pow_succ, Int.natAbs_natCast]; omega
      have h4 : (limbs ((a.natAbs + b.natAbs : Nat) : Int).natAbs).length ≤ (n + 1) / 32 + 1 := limbs_len.2 (Nat.lt_of_lt_of_le h3 (by
        rw [show (4294967296 : Nat) = 2 ^ 32 from rfl, ← Nat.pow_mul]
        exact Nat.pow_le_pow_right (by omega) (by omega)))
      rw [Int.natAbs_natCast] at h4
      omega
    rw [signed_ok _ (lim_limbs _) hl, Option.bind_some]
    congr 1
    have : iv (decide (a < 0)) (limbs (a.natAbs + b.natAbs)) = a + b := by
      rw [decide_eq_decide] at hs
      unfold iv
      rw [lv_limbs]
      by_cases h0 : a < 0
      · rw [if_pos (decide_eq_true h0)]; omega
      · rw [if_neg (by simpa using h0)]; omega
    rw [this]
  · rw [if_neg hs, compare_ok (by omega), Option.bind_some]
    have hss : ¬ (a < 0 ↔ b < 0) := fun h => hs (decide_eq_decide.2 h)
    by_cases hc : b.natAbs ≤ a.natAbs
    · rw [if_pos (by unfold cm; split <;> (try split) <;> omega), minus_ok (lim_limbs _) (lim_limbs _) (by omega) (len_le hc) (by rw [lv_limbs, lv_limbs]; exact hc), Option.bind_some, lv_limbs, lv_limbs]
      have := len_le (show a.natAbs - b.natAbs ≤ a.natAbs by omega)
      rw [signed_ok _ (lim_limbs _) (by omega), Option.bind_some]
      congr 1
      have : iv (decide (a < 0)) (limbs (a.natAbs - b.natAbs)) = a + b := by
        unfold iv
        rw [lv_limbs]
        by_cases h0 : a < 0
        · rw [if_pos (decide_eq_true h0)]; omega
        · rw [if_neg (by simpa using h0)]; omega
      rw [this]
    · rw [cm_lt (by omega), if_neg (by decide), minus_ok (lim_limbs _) (lim_limbs _) (by omega) (len_le (by omega)) (by rw [lv_limbs, lv_limbs]; omega), Option.bind_some, lv_limbs, lv_limbs]
      have := len_le (show b.natAbs - a.natAbs ≤ b.natAbs by omega)
      rw [signed_ok _ (lim_limbs _) (by omega), Option.bind_some]
      congr 1
      have : iv (decide (b < 0)) (limbs (b.natAbs - a.natAbs)) = a + b := by
        unfold iv
        rw [lv_limbs]
        by_cases h0 : b < 0
        · rw [if_pos (decide_eq_true h0)]; omega
        · rw [if_neg (by simpa using h0)]; omega
      rw [this]
theorem negI (ha : Bd n a) (hn : n ≤ 1000000000) : integer_Neg (mkI a) = some (mkI (-a)) := by
  have h1 := ha.len hn
  unfold integer_Neg
  simp only [etaI]
  rw [normI (by omega), Option.bind_some, signed_ok _ (lim_mkI a) (by rw [len_mkI]; omega), Option.bind_some]
  congr 1
  have : iv (!(mkI a).1) (mkI a).2.1 = -a := by
    have e1 : (mkI a).1 = decide (a < 0) := rfl
    unfold iv
    rw [lv_mkI, e1]
    by_cases h0 : a < 0
    · rw [decide_eq_true h0, if_neg (by decide)]; omega
    · rw [decide_eq_false h0, if_pos (by decide)]; omega
  rw [this]
theorem signB (ha : Bd n a) (hn : n ≤ 1000000000) : integer_Sign (mkI a) = some (if a = 0 then 0 else if a < 0 then -1 else 1) := by
  have h1 := ha.len hn
  have := sign_ok (mkI a).1 () (lim_mkI a) (by rw [len_mkI]; omega)
  rwa [iv_mkI] at this
theorem mulB (ha : Bd n a) (hb : Bd n b) (hn : n ≤ 1000000000) : integer_Mul (mkI a) (mkI b) = some (mkI (a * b)) := mulI a b (by
  have h1 := ha.len hn
  have h2 := hb.len hn
  omega)
end
end Go.Proofs.YtgbndganadelpaaGreatDoor.V
/- Laws of rational: on canonical numbers `mkQ q`. -/
namespace Go.Proofs.YtgbndganadelpaaGreatDoor.V
open Go Go.Proofs.YtgbndganadelpaaGreatDoor.E Go.Proofs.YtgbndganadelpaaGreatDoor.LI
set_option linter.unusedVariables false
set_option linter.unusedSimpArgs false
/-- A rational number as_ the program holds it, in lowest terms. -/
def mkQ (q : Rat) : QV := (mkI q.num, mkI (q.den : Int), ())
theorem mkQ_1 (q : Rat) : (mkQ q).1 = mkI q.num := rfl
theorem mkQ_2 (q : Rat) : (mkQ q).2.1 = mkI (q.den : Int) := rfl
theorem mkQ_3 (q : Rat) : ((mkI q.num, mkI (q.den : Int), ()) : QV) = mkQ q := rfl
def BQ (n : Nat) (q : Rat) : Prop := Bd n q.num ∧ q.den < 2 ^ n
theorem BQ.den {n : Nat} {q : Rat} (h : BQ n q) : Bd n (q.den : Int) := by unfold Bd; rw [Int.natAbs_natCast]; exact h.2
theorem BQ.mono {n m : Nat} {q : Rat} (h : BQ n q) (hm : n ≤ m) : BQ m q := ⟨h.1.mono hm, Nat.lt_of_lt_of_le h.2 (Nat.pow_le_pow_right (by omega) hm)⟩
theorem den_pos (q : Rat) : (0 : Int) < (q.den : Int) := by have := q.den_nz; omega
theorem BQ.pos {n : Nat} {q : Rat} (h : BQ n q) : 1 ≤ n := by
  have h1 := h.2
  have := q.den_nz
  rcases n with _ | n
  · simp at h1; omega
  · omega
theorem BQ.neg {n : Nat} {q : Rat} (h : BQ n q) : BQ n (-q) := ⟨h.1.neg, h.2⟩
theorem BQ.divInt {n : Nat} {a b : Int} (ha : Bd n a) (hb : Bd n b) (hn : 1 ≤ n) : BQ n (Rat.divInt a b) := by
  constructor
  · unfold Bd at *
    rw [Rat.num_divInt]
    refine Nat.lt_of_le_of_lt (Int.natAbs_ediv_le_natAbs _ _) ?_
    rw [Int.natAbs_mul]
    refine Nat.lt_of_le_of_lt ?_ ha
    rw [Int.natAbs_sign]
    split <;> simp
  · rw [Rat.den_divInt]
    unfold Bd at *
    split
    · exact Nat.lt_of_lt_of_le (by decide : 1 < 2 ^ 1) (Nat.pow_le_pow_right (by omega) hn)
    · exact Nat.lt_of_le_of_lt (Nat.div_le_self _ _) hb
theorem add_divInt (a b : Rat) : a + b = Rat.divInt (a.num * b.den + b.num * a.den) (a.den * b.den) := by
  rw [Rat.add_def', ← Rat.divInt_ofNat, Int.natCast_mul]
theorem mul_divInt (a b : Rat) : a * b = Rat.divInt (a.num * b.num) (a.den * b.den) := by
  rw [Rat.mul_def', ← Rat.divInt_ofNat, Int.natCast_mul]
theorem div_divInt (a b : Rat) : a / b = Rat.divInt (a.num * b.den) (a.den * b.num) := by
  rw [Rat.div_def, Rat.inv_def, ← Rat.divInt_mul_divInt, Rat.num_divInt_den]
theorem pow_divInt (q : Rat) (k : Nat) : q ^ k = Rat.divInt (q.num ^ k) ((q.den : Int) ^ k) := by
  rw [← Int.natCast_pow]
  exact (Rat.num_divInt_den (q ^ k)).symm
theorem BQ.mul {n m : Nat} {a b : Rat} (h : BQ n a) (h' : BQ m b) : BQ (n + m) (a * b) := by
  rw [mul_divInt]
  exact BQ.divInt (h.1.mul h'.1) (h.den.mul h'.den) (by have := h.pos; omega)
theorem BQ.add {n m : Nat} {a b : Rat} (h : BQ n a) (h' : BQ m b) : BQ (n + m + 1) (a + b) := by
  rw [add_divInt]
  exact BQ.divInt (Bd.add (h.1.mul h'.den) ((h'.1.mul h.den).mono (by omega))) ((h.den.mul h'.den).mono (by omega)) (by omega)
theorem BQ.div {n m : Nat} {a b : Rat} (h : BQ n a) (h' : BQ m b) : BQ (n + m) (a / b) := by
  rw [div_divInt]
  exact BQ.divInt (h.1.mul h'.den) (h.den.mul h'.1) (by have := h.pos; omega)
theorem BQ.int {n : Nat} {z : Int} (h : Bd n z) (hn : 1 ≤ n) : BQ n (z : Rat) := ⟨h, Nat.lt_of_lt_of_le (by decide : 1 < 2 ^ 1) (Nat.pow_le_pow_right (by omega) hn)⟩
theorem BQ.pow {n : Nat} {q : Rat} (h : BQ n q) : ∀ k : Nat, BQ (n * k + 1) (q ^ k)
  | 0 => by rw [Rat.pow_zero]; exact BQ.int (z := 1) (Bd.mono (n := 1) (by unfold Bd; decide) (by omega)) (by omega)
  | k + 1 => by
    rw [Rat.pow_succ]
    exact (BQ.mul (BQ.pow h k) h).mono (by rw [Nat.mul_add]; omega)
/-- The zero value beside 'false'. -/
def zQ : QV := ((false, ([], ())), (false, ([], ())), ())
section
variable {n : Nat}
theorem frac_rat {a b : Int} (ha : Bd n a) (hb : Bd n b) (hn : n ≤ 1000000000) (h0 : 0 < b) : rational_fraction__rat (mkI a, mkI b, ()) = some (mkQ (Rat.divInt a b)) := by
  have h1 := ha.len hn
  have h2 := hb.len hn
  have hg : Bd n ((Int.gcd a b : Nat) : Int) := by
    have := Int.gcd_le_natAbs_right a (show b ≠ 0 by omega)
    unfold Bd at *
    rw [Int.natAbs_natCast]
    omega
  have hg0 : ((Int.gcd a b : Nat) : Int) ≠ 0 := by
    have := Int.gcd_pos_of_ne_zero_right a (show b ≠ 0 by omega)
    omega
  have h3 := hg.len hn
  unfold rational_fraction__rat
  simp only [etaI]
  rw [gcdI (by omega) (by omega), Option.bind_some]
  rw [divmodG (by omega) (by omega) hg0, Option.bind_some, divmodG (by omega) (by omega) hg0, Option.bind_some]
  have e1 : (Rat.divInt a b).num = a / ((Int.gcd a b : Nat) : Int) := by rw [Rat.num_divInt, Int.sign_eq_one_of_pos h0, Int.one_mul, Int.gcd_comm]
  have e2 : (((Rat.divInt a b).den : Nat) : Int) = b / ((Int.gcd a b : Nat) : Int) := by
    rw [Rat.den_divInt, if_neg (by omega), Int.gcd_comm, Int.natCast_ediv]
    congr 1
    omega
  unfold mkQ
  rw [e1, e2]
theorem of_ok {q : Rat} (h : BQ n q) (hn : n ≤ 1000000000) : rational_of (mkQ q) = some (mkQ q) := by
  have hp := den_pos q
  unfold rational_of
  simp only [etaI, mkQ_1, mkQ_2]
  rw [signB h.den hn, Option.bind_some]
  simp only [rational_of.j1, rational_of.j2, cite, beq_iff_eq]
  rw [if_neg (show ¬ (q.den : Int) = 0 by omega), if_neg (show ¬ (q.den : Int) < 0 by omega), if_neg (by decide), if_neg (by decide)]
  rfl
theorem product_ok {a b : Int} {m : Nat} (ha : Bd n a) (hb : Bd m b) (h1 : 1 ≤ n) (hn : n + m ≤ 1000000000) : rational_product [mkI a, mkI b] = some (mkI (a * b)) := by
  have step : ∀ (i : Nat) (x y : Int) (c : IV), Bd (n + m) x → Bd (n + m) y → [mkI a, mkI b].getD i (false, ([], ())) = mkI y → i < 2 → rational_product.s0 [mkI a, mkI b] 2 (i : Int) c (mkI x) = some (.inl ([mkI a, mkI b], 2, ((i + 1 : Nat) : Int), c, mkI (x * y), ())) := by
    intro i x y c hx hy hg hi
    simp only [rational_product.s0, rational_product.j1, cite, decide_eq_true_eq, inB_t, etaI, List.length_cons, List.length_nil]
    rw [if_pos (by omega), if_pos (by omega), Int.toNat_natCast, hg, mulB hx hy hn, Option.bind_some, up (by omega)]
  have s0 := step 0 1 a (false, ([], ())) (Bd.mono (n := 1) (by unfold Bd; decide) (by omega)) (ha.mono (by omega)) rfl (by omega)
  have s1 := step 1 a b (false, ([], ())) (ha.mono (by omega)) (hb.mono (by omega)) rfl (by omega)
  rw [Int.one_mul] at s0
  have s2 : rational_product.s0 [mkI a, mkI b] 2 ((2 : Nat) : Int) (false, ([], ())) (mkI (a * b)) = some (.inr ((false, ([], ())), mkI (a * b), ())) := rfl
  have key : iterL (fun x : (List (Bool × List Int × Unit)) × Int × Int × (Bool × List Int × Unit) × (Bool × List Int × Unit) × Unit => rational_product.s0 x.1 x.2.1 x.2.2.1 x.2.2.2.1 x.2.2.2.2.1) ([mkI a, mkI b], 2, ((0 : Nat) : Int), (false, ([], ())), mkI 1, ()) = some ((false, ([], ())), mkI (a * b), ()) :=
    (iterL_next s0).trans ((iterL_next s1).trans (iterL_done s2))
  unfold rational_product
  simp only [etaI]
  rw [small_ok (by decide) (by decide), Option.bind_some]
  exact (congrArg (fun o => Option.bind o fun y => rational_product.k0 y.1 y.2.1) key).trans rfl
theorem rat_sum {a b : Int} (ha : Bd n a) (hb : Bd n b) (h1 : 1 ≤ n) (hn : n ≤ 1000000000) : rational_sum [mkI a, mkI b] = some (mkI (a + b)) := by
  have step : ∀ (i : Nat) (x y : Int) (c : IV), Bd n x → Bd n y → [mkI a, mkI b].getD i (false, ([], ())) = mkI y → i < 2 → rational_sum.s0 [mkI a, mkI b] 2 (i : Int) c (mkI x) = some (.inl ([mkI a, mkI b], 2, ((i + 1 : Nat) : Int), c, mkI (x + y), ())) := by
    intro i x y c hx hy hg hi
    simp only [rational_sum.s0, rational_sum.j1, cite, decide_eq_true_eq, inB_t, etaI, List.length_cons, List.length_nil]
    rw [if_pos (by omega), if_pos (by omega), Int.toNat_natCast, hg, addI hx hy hn, Option.bind_some, up (by omega)]
  have s0 := step 0 0 a (false, ([], ())) (Bd.mono (n := 1) (by unfold Bd; decide) (by omega)) ha rfl (by omega)
  have s1 := step 1 a b (false, ([], ())) ha hb rfl (by omega)
  rw [Int.zero_add] at s0
  have s2 : rational_sum.s0 [mkI a, mkI b] 2 ((2 : Nat) : Int) (false, ([], ())) (mkI (a + b)) = some (.inr ((false, ([], ())), mkI (a + b), ())) := rfl
  have key : iterL (fun x : (List (Bool × List Int × Unit)) × Int × Int × (Bool × List Int × Unit) × (Bool × List Int × Unit) × Unit => rational_sum.s0 x.1 x.2.1 x.2.2.1 x.2.2.2.1 x.2.2.2.2.1) ([mkI a, mkI b], 2, ((0 : Nat) : Int), (false, ([], ())), mkI 0, ()) = some ((false, ([], ())), mkI (a + b), ()) :=
    (iterL_next s0).trans ((iterL_next s1).trans (iterL_done s2))
  unfold rational_sum
  exact (congrArg (fun o => Option.bind o fun y => rational_sum.k0 y.1 y.2.1) key).trans rfl
theorem qnorm_frac {a b : Int} (ha : Bd n a) (hb : Bd n b) (hn : n ≤ 1000000000) (h0 : b ≠ 0) : rational_Normalize (mkI a, mkI b, ()) = some (mkQ (Rat.divInt a b)) := by
  unfold rational_Normalize rational_of
  simp only [etaI]
  rw [signB hb hn, Option.bind_some]
  simp only [rational_of.j1, rational_of.j2, cite, beq_iff_eq, etaI]
  rw [if_neg h0]
  by_cases hneg : b < 0
  · rw [if_pos hneg, if_neg (by decide), if_pos rfl, negI ha hn, Option.bind_some, negI hb hn, Option.bind_some]
    rw [Option.bind_some]
    rw [frac_rat ha.neg hb.neg hn (by omega), Option.bind_some, Rat.neg_divInt_neg]
  · rw [if_neg hneg, if_neg (by decide), if_neg (by decide), Option.bind_some, frac_rat ha hb hn (by omega), Option.bind_some]
theorem qnew {a b : Int} (ha : Bd n a) (hb : Bd n b) (hn : n ≤ 1000000000) (h0 : b ≠ 0) : rational_New (mkI a) (mkI b) = some (mkQ (Rat.divInt a b), true, ()) := by
  unfold rational_New
  simp only [etaI]
  rw [signB hb hn, Option.bind_some]
  simp only [rational_New.j1, cite, beq_iff_eq, etaI]
  rw [if_neg (by rw [if_neg h0]; split <;> decide), qnorm_frac ha hb hn h0, Option.bind_some]
theorem qwhole {a : Int} (ha : Bd n a) (hn : n ≤ 1000000000) : rational_Whole (mkI a) = some (mkQ (a : Rat)) := by
  have h1 := ha.len hn
  unfold rational_Whole
  simp only [etaI]
  rw [normI (by omega), Option.bind_some, small_ok (by decide) (by decide), Option.bind_some]
  rfl
theorem qneg {q : Rat} (h : BQ n q) (hn : n ≤ 1000000000) : rational_Neg (mkQ q) = some (mkQ (-q)) := by
  have hp := den_pos q
  unfold rational_Neg
  simp only [etaI, etaQ]
  rw [of_ok h hn, Option.bind_some]
  simp only [mkQ_1, mkQ_2, etaI]
  rw [negI h.1 hn, Option.bind_some]
  rw [frac_rat h.1.neg h.den hn hp, Option.bind_some, ← Rat.neg_divInt, Rat.num_divInt_den]
theorem qadd {m : Nat} {a b : Rat} (h : BQ n a) (h' : BQ m b) (hn : n + m + 1 ≤ 1000000000) : rational_Add (mkQ a) (mkQ b) = some (mkQ (a + b)) := by
  have hp := den_pos a
  have hp' := den_pos b
  have h1 := h.pos
  have h2 := h'.pos
  unfold rational_Add
  simp only [etaI, etaQ]
  rw [of_ok h (by omega), Option.bind_some, of_ok h' (by omega), Option.bind_some]
  simp only [mkQ_1, mkQ_2, etaI]
  rw [product_ok h.1 h'.den h1 (by omega), Option.bind_some, product_ok h'.1 h.den h2 (by omega), Option.bind_some, rat_sum (n := n + m) (h.1.mul h'.den) ((h'.1.mul h.den).mono (by omega)) (by omega) (by omega), Option.bind_some, product_ok h.den h'.den h1 (by omega), Option.bind_some]
  rw [frac_rat (n := n + m + 1) (Bd.add (h.1.mul h'.den) ((h'.1.mul h.den).mono (by omega))) ((h.den.mul h'.den).mono (by omega)) (by omega) (Int.mul_pos hp hp'), Option.bind_some, ← add_divInt]
theorem qsub {m : Nat} {a b : Rat} (h : BQ n a) (h' : BQ m b) (hn : n + m + 1 ≤ 1000000000) : rational_Sub (mkQ a) (mkQ b) = some (mkQ (a - b)) := by
  unfold rational_Sub
  simp only [etaI, etaQ]
  rw [qneg h' (by omega), Option.bind_some, qadd h h'.neg hn, Option.bind_some, Rat.sub_eq_add_neg]
theorem qmul {m : Nat} {a b : Rat} (h : BQ n a) (h' : BQ m b) (hn : n + m ≤ 1000000000) : rational_Mul (mkQ a) (mkQ b) = some (mkQ (a * b)) := by
  have hp := den_pos a
  have hp' := den_pos b
  have h1 := h.pos
  unfold rational_Mul
  simp only [etaI, etaQ]
  rw [of_ok h (by omega), Option.bind_some, of_ok h' (by omega), Option.bind_some]
  simp only [mkQ_1, mkQ_2, etaI]
  rw [product_ok h.1 h'.1 h1 (by omega), Option.bind_some, product_ok h.den h'.den h1 (by omega), Option.bind_some]
  rw [frac_rat (n := n + m) (h.1.mul h'.1) (h.den.mul h'.den) (by omega) (Int.mul_pos hp hp'), Option.bind_some, ← mul_divInt]
theorem num_ne {q : Rat} (h : q ≠ 0) : q.num ≠ 0 := fun h0 => h (Rat.num_eq_zero.1 h0)
theorem qquo {m : Nat} {a b : Rat} (h : BQ n a) (h' : BQ m b) (hn : n + m ≤ 1000000000) (h0 : b ≠ 0) : rational_Quo (mkQ a) (mkQ b) = some (mkQ (a / b), true, ()) := by
  have hp := den_pos a
  have hp' := den_pos b
  have h1 := h.pos
  unfold rational_Quo
  simp only [etaI, etaQ]
  rw [of_ok h (by omega), Option.bind_some, of_ok h' (by omega), Option.bind_some]
  simp only [mkQ_1, mkQ_2, etaI]
  rw [product_ok h.1 h'.den h1 (by omega), Option.bind_some, product_ok h.den h'.1 h1 (by omega), Option.bind_some]
  rw [qnew (n := n + m) (h.1.mul h'.den) (h.den.mul h'.1) (by omega) (Int.mul_ne_zero (by omega) (num_ne h0)), Option.bind_some, ← div_divInt]
end
end Go.Proofs.YtgbndganadelpaaGreatDoor.V
/- Prime numbers, factor lists, and what is multiplicative over them. -/
namespace Go.Proofs.YtgbndganadelpaaGreatDoor.Num
def Pr (p : Nat) : Prop := 2 ≤ p ∧ ∀ d, d ∣ p → d = 1 ∨ d = p
theorem Pr.coprime {p a : Nat} (hp : Pr p) (h : ¬ p ∣ a) : Nat.Coprime p a := by
  rcases hp.2 (Nat.gcd p a) (Nat.gcd_dvd_left _ _) with h1 | h1
  · exact h1
  · exact absurd (h1 ▸ Nat.gcd_dvd_right p a) h
theorem Pr.dvd_mul {p a b : Nat} (hp : Pr p) (h : p ∣ a * b) : p ∣ a ∨ p ∣ b := by
  by_cases ha : p ∣ a
  · exact .inl ha
  · exact .inr ((hp.coprime ha).dvd_of_dvd_mul_left h)
theorem Pr.not_dvd_one {p : Nat} (hp : Pr p) : ¬ p ∣ 1 := by
  intro h
  have := Nat.le_of_dvd (by omega) h
  have := hp.1
  omega
theorem Pr.dvd_pow {p a : Nat} (hp : Pr p) : ∀ n, p ∣ a ^ n → p ∣ a
  | 0, h => absurd (by simpa using h) hp.not_dvd_one
  | n + 1, h => by
    rw [Nat.pow_succ] at h
    rcases hp.dvd_mul h with h | h
    · exact hp.dvd_pow n h
    · exact h
theorem Pr.eq_of_dvd {p q : Nat} (hp : Pr p) (hq : Pr q) (h : p ∣ q) : p = q := by
  rcases hq.2 p h with h | h
  · have := hp.1; omega
  · exact h
theorem pr_of_noDiv {n c : Nat} (hn : 2 ≤ n) (h : ∀ q, 2 ≤ q → q ∣ n → q < n → c ≤ q) (hc : n < c * c) : Pr n := by
  refine ⟨hn, fun d hd => ?_⟩
  obtain ⟨e, he⟩ := hd
  by_cases h1 : d = 1
  · exact .inl h1
  by_cases h2 : d = n
  · exact .inr h2
  exfalso
  have hd0 : d ≠ 0 := by rintro rfl; simp at he; omega
  have he0 : e ≠ 0 := by rintro rfl; simp at he; omega
  have he1 : e ≠ 1 := by rintro rfl; simp at he; omega
  have hdn : d < n := by
    have : d ≤ n := by rw [he]; exact Nat.le_mul_of_pos_right _ (by omega)
    omega
  have hen : e < n := by
    have : e ≤ n := by rw [he]; exact Nat.le_mul_of_pos_left _ (by omega)
    by_cases q : e = n
    · exfalso
      have h3 : d * e = 1 * e := by rw [← he, q]; omega
      have := Nat.eq_of_mul_eq_mul_right (by omega) h3
      omega
    · omega
  have a := h d (by omega) ⟨e, he⟩ hdn
  have b := h e (by omega) ⟨d, by rw [he, Nat.mul_comm]⟩ hen
  have := Nat.mul_le_mul a b
  omega
theorem pr_of_least {n c : Nat} (hc : 2 ≤ c) (hd : c ∣ n) (h : ∀ q, 2 ≤ q → q ∣ n → c ≤ q) : Pr c := by
  refine ⟨hc, fun d hdc => ?_⟩
  by_cases h1 : d = 1
  · exact .inl h1
  have hd0 : d ≠ 0 := by rintro rfl; simp at hdc; omega
  have a := h d (by omega) (Nat.dvd_trans hdc hd)
  have b := Nat.le_of_dvd (by omega) hdc
  exact .inr (by omega)
theorem exists_prime (n : Nat) (h2 : 2 ≤ n) : ∃ p, Pr p ∧ p ∣ n := by
  have : ∀ M k, k ≤ M → 2 ≤ k → ∃ p, Pr p ∧ p ∣ k := by
    intro M
    induction M with
    | zero => intro k _ _; omega
    | succ M ihM =>
      intro k hk hk2
      by_cases hp : Pr k
      · exact ⟨k, hp, Nat.dvd_refl _⟩
      · have : ∃ d, d ∣ k ∧ d ≠ 1 ∧ d ≠ k := by
          apply Classical.byContradiction
          intro hno
          refine hp ⟨hk2, fun d hd => ?_⟩
          apply Classical.byContradiction
          intro hor
          exact hno ⟨d, hd, fun e => hor (.inl e), fun e => hor (.inr e)⟩
        obtain ⟨d, hd, hd1, hdk⟩ := this
        have hle := Nat.le_of_dvd (by omega) hd
        have hd0 : d ≠ 0 := by rintro rfl; simp at hd; omega
        obtain ⟨p, hp, hpd⟩ := ihM d (by omega) (by omega)
        exact ⟨p, hp, Nat.dvd_trans hpd hd⟩
  exact this n n (Nat.le_refl _) h2
/-- `L` is the list of the prime powers of `n`, ascending, all primes above `lo`. -/
def Fac : Nat → Nat → List (Nat × Nat) → Prop
  | _, n, [] => n = 1
  | lo, n, (p, e) :: L => lo < p ∧ Pr p ∧ 1 ≤ e ∧ ∃ m, n = p ^ e * m ∧ Fac p m L
theorem Fac.pos : ∀ {L : List (Nat × Nat)} {lo n : Nat}, Fac lo n L → 1 ≤ n
  | [], _, _, h => by simp only [Fac] at h; omega
  | (p, e) :: L, _, _, h => by
    obtain ⟨_, hp, _, m, rfl, hm⟩ := h
    have := hm.pos
    have h2 : 0 < p ^ e := Nat.pow_pos (by have := hp.1; omega)
    exact Nat.mul_pos h2 (by omega)
theorem Fac.gt : ∀ {L : List (Nat × Nat)} {lo n q : Nat}, Fac lo n L → Pr q → q ∣ n → lo < q
  | [], _, _, _, h, hq, hd => by simp only [Fac] at h; subst h; exact absurd hd hq.not_dvd_one
  | (p, e) :: L, lo, n, q, h, hq, hd => by
    obtain ⟨hlo, hp, _, m, rfl, hm⟩ := h
    rcases hq.dvd_mul hd with hd | hd
    · have := hq.eq_of_dvd hp (hq.dvd_pow _ hd)
      omega
    · have := hm.gt hq hd
      omega
theorem Fac.mono : ∀ {L : List (Nat × Nat)} {lo lo' n : Nat}, Fac lo n L → lo' ≤ lo → Fac lo' n L
  | [], _, _, _, h, _ => h
  | (p, e) :: L, _, _, _, h, hl => by
    obtain ⟨h1, h2⟩ := h
    exact ⟨by omega, h2⟩
theorem Fac.unique : ∀ {L L' : List (Nat × Nat)} {lo lo' n : Nat}, Fac lo n L → Fac lo' n L' → L = L'
  | [], [], _, _, _, _, _ => rfl
  | [], (p, e) :: L', _, _, n, h, h' => by
    exfalso
    simp only [Fac] at h
    obtain ⟨_, hp, he, m, hn, _⟩ := h'
    subst h
    refine hp.not_dvd_one ⟨p ^ (e - 1) * m, ?_⟩
    rw [hn, ← Nat.mul_assoc, ← Nat.pow_succ']
    congr 2; omega
  | (p, e) :: L, [], _, _, n, h', h => by
    exfalso
    simp only [Fac] at h
    obtain ⟨_, hp, he, m, hn, _⟩ := h'
    subst h
    refine hp.not_dvd_one ⟨p ^ (e - 1) * m, ?_⟩
    rw [hn, ← Nat.mul_assoc, ← Nat.pow_succ']
    congr 2; omega
  | (p, e) :: L, (q, f) :: L', lo, lo', n, h, h' => by
    obtain ⟨h1, hp, he, m, hn, hm⟩ := h
    obtain ⟨h1', hq, hf, m', hn', hm'⟩ := h'
    have dp : p ∣ p ^ e := ⟨p ^ (e - 1), by rw [← Nat.pow_succ']; congr 1; omega⟩
    have dq : q ∣ q ^ f := ⟨q ^ (f - 1), by rw [← Nat.pow_succ']; congr 1; omega⟩
    have a : q ≤ p := by
      have hd : p ∣ q ^ f * m' := by rw [← hn', hn]; exact Nat.dvd_trans dp (Nat.dvd_mul_right _ _)
      rcases hp.dvd_mul hd with hd | hd
      · have := hp.eq_of_dvd hq (hp.dvd_pow _ hd); omega
      · have := hm'.gt hp hd; omega
    have b : p ≤ q := by
      have hd : q ∣ p ^ e * m := by rw [← hn, hn']; exact Nat.dvd_trans dq (Nat.dvd_mul_right _ _)
      rcases hq.dvd_mul hd with hd | hd
      · have := hq.eq_of_dvd hp (hq.dvd_pow _ hd); omega
      · have := hm.gt hq hd; omega
    have hpq : p = q := by omega
    subst hpq
    have nm : ¬ p ∣ m := fun hd => by have := hm.gt hp hd; omega
    have nm' : ¬ p ∣ m' := fun hd => by have := hm'.gt hp hd; omega
    have hp0 : 0 < p := by have := hp.1; omega
    have heq : p ^ e * m = p ^ f * m' := by omega
    have hef : e = f := by
      rcases Nat.lt_trichotomy e f with hlt | hlt | hlt
      · exfalso
        have : p ^ f = p ^ e * p ^ (f - e) := by rw [← Nat.pow_add]; congr 1; omega
        rw [this, Nat.mul_assoc] at heq
        have hm2 := Nat.eq_of_mul_eq_mul_left (Nat.pow_pos hp0) heq
        refine nm ⟨p ^ (f - e - 1) * m', ?_⟩
        rw [hm2, ← Nat.mul_assoc, ← Nat.pow_succ']
        congr 2; omega
      · exact hlt
      · exfalso
        have : p ^ e = p ^ f * p ^ (e - f) := by rw [← Nat.pow_add]; congr 1; omega
        rw [this, Nat.mul_assoc] at heq
        have hm2 := Nat.eq_of_mul_eq_mul_left (Nat.pow_pos hp0) heq
        refine nm' ⟨p ^ (e - f - 1) * m, ?_⟩
        rw [← hm2, ← Nat.mul_assoc, ← Nat.pow_succ']
        congr 2; omega
    subst hef
    have hmm : m = m' := Nat.eq_of_mul_eq_mul_left (Nat.pow_pos hp0) heq
    subst hmm
    rw [hm.unique hm']
theorem Fac.two_pow_le : ∀ {L : List (Nat × Nat)} {lo n : Nat}, Fac lo n L → 2 ^ L.length ≤ n
  | [], _, _, h => by simp only [Fac] at h; simp [h]
  | (p, e) :: L, _, _, h => by
    obtain ⟨_, hp, he, m, rfl, hm⟩ := h
    have := hm.two_pow_le
    have h2 : 2 ^ 1 ≤ p ^ e := Nat.le_trans (Nat.pow_le_pow_right (by omega) he) (Nat.pow_le_pow_left hp.1 e)
    rw [List.length_cons, Nat.pow_succ, Nat.mul_comm]
    exact Nat.mul_le_mul h2 this
theorem Fac.mem : ∀ {L : List (Nat × Nat)} {lo n : Nat}, Fac lo n L → ∀ x ∈ L, Pr x.1 ∧ 1 ≤ x.2 ∧ x.1 ^ x.2 ∣ n ∧ lo < x.1
  | [], _, _, _ => by simp
  | (p, e) :: L, lo, n, h => by
    obtain ⟨h1, hp, he, m, rfl, hm⟩ := h
    intro x hx
    rcases List.mem_cons.1 hx with rfl | hx
    · exact ⟨hp, he, ⟨m, rfl⟩, h1⟩
    · obtain ⟨a, b, c, d⟩ := hm.mem x hx
      exact ⟨a, b, Nat.dvd_trans c ⟨p ^ e, Nat.mul_comm _ _⟩, by omega⟩
theorem Fac.raise : ∀ {L : List (Nat × Nat)} {lo lo' n : Nat}, Fac lo n L → (∀ q, Pr q → q ∣ n → lo' < q) → Fac lo' n L
  | [], _, _, _, h, _ => h
  | (p, e) :: L, _, _, n, h, hq => by
    obtain ⟨_, hp, he, m, hn, hm⟩ := h
    refine ⟨hq p hp ?_, hp, he, m, hn, hm⟩
    rw [hn]
    exact Nat.dvd_trans ⟨p ^ (e - 1), by rw [← Nat.pow_succ']; congr 1; omega⟩ (Nat.dvd_mul_right _ _)
theorem exists_strip {d : Nat} (hd : 2 ≤ d) : ∀ (N n : Nat), n ≤ N → 1 ≤ n → ∃ f m, n = d ^ f * m ∧ ¬ d ∣ m ∧ 1 ≤ m ∧ (d ∣ n → 1 ≤ f)
  | 0, n, h1, h2 => by omega
  | N + 1, n, h1, h2 => by
    by_cases h : d ∣ n
    · obtain ⟨m, rfl⟩ := h
      have hm1 : 1 ≤ m := by
        rcases Nat.eq_zero_or_pos m with rfl | h
        · simp at h2
        · exact h
      have : 2 * m ≤ d * m := Nat.mul_le_mul_right m hd
      obtain ⟨f, m', hm, hn, h1', _⟩ := exists_strip hd N m (by omega) hm1
      refine ⟨f + 1, m', ?_, hn, h1', fun _ => by omega⟩
      rw [Nat.pow_succ', Nat.mul_assoc, ← hm]
    · exact ⟨0, n, by simp, h, h2, fun hd => absurd hd h⟩
inductive JR (s : Nat → Int) : Nat → Int → Prop
  | one : JR s 1 1
  | mul {p n : Nat} {v : Int} : Pr p → JR s n v → JR s (p * n) (s p * v)
theorem JR.pos {s : Nat → Int} {n : Nat} {v : Int} (h : JR s n v) : 1 ≤ n := by
  induction h with
  | one => exact Nat.le_refl _
  | mul hp _ ih => exact Nat.mul_pos (by have := hp.1; omega) ih
theorem JR.div {s : Nat → Int} {n : Nat} {v : Int} (h : JR s n v) {q : Nat} (hq : Pr q) : q ∣ n → ∃ m v', n = q * m ∧ JR s m v' ∧ v = s q * v' := by
  induction h with
  | one => exact fun h => absurd h hq.not_dvd_one
  | @mul p n v hp hn ih =>
    intro hd
    by_cases hqp : q = p
    · subst hqp; exact ⟨n, v, rfl, hn, rfl⟩
    · rcases hq.dvd_mul hd with hd | hd
      · exact absurd (hq.eq_of_dvd hp hd) hqp
      · obtain ⟨m, v', rfl, hm, rfl⟩ := ih hd
        refine ⟨p * m, s p * v', ?_, .mul hp hm, ?_⟩
        · rw [← Nat.mul_assoc, ← Nat.mul_assoc, Nat.mul_comm p q]
        · rw [← Int.mul_assoc, ← Int.mul_assoc, Int.mul_comm (s p)]
theorem JR.fn {s : Nat → Int} {n : Nat} {v : Int} (h : JR s n v) : ∀ {v' : Int}, JR s n v' → v = v' := by
  induction h with
  | one =>
    intro v' h'
    generalize hn : 1 = n at h'
    cases h' with
    | one => rfl
    | @mul p n v hp h2 => exact absurd ⟨n, hn⟩ hp.not_dvd_one
  | @mul p n v hp hn ih =>
    intro v' h'
    obtain ⟨m, w, hm, hw, rfl⟩ := h'.div hp ⟨n, rfl⟩
    have : n = m := Nat.eq_of_mul_eq_mul_left (by have := hp.1; omega) hm
    subst this
    rw [ih hw]
theorem JR.times {s : Nat → Int} {m : Nat} {v : Int} (h : JR s m v) {n : Nat} {w : Int} (h' : JR s n w) : JR s (m * n) (v * w) := by
  induction h with
  | one => simpa using h'
  | mul hp _ ih => rw [Nat.mul_assoc, Int.mul_assoc]; exact .mul hp ih
theorem JR.prime {s : Nat → Int} {p : Nat} (hp : Pr p) : JR s p (s p) := by
  have := JR.mul (s := s) hp JR.one
  simpa using this
theorem JR.pow {s : Nat → Int} {p : Nat} (hp : Pr p) : ∀ e, JR s (p ^ e) (s p ^ e)
  | 0 => by simpa using JR.one
  | e + 1 => by
    rw [Nat.pow_succ, Int.pow_succ]
    exact (JR.pow hp e).times (JR.prime hp)
/-- The value of a factor list. -/
def val (s : Nat → Int) : List (Nat × Nat) → Int
  | [] => 1
  | (p, e) :: L => s p ^ e * val s L
theorem JR.congr {s t : Nat → Int} {n : Nat} {v : Int} (h : JR s n v) : (∀ p, Pr p → p ∣ n → s p = t p) → JR t n v := by
  induction h with
  | one => exact fun _ => .one
  | @mul p n v hp hn ih =>
    intro hst
    rw [hst p hp ⟨n, rfl⟩]
    exact .mul hp (ih fun q hq hd => hst q hq (Nat.dvd_trans hd ⟨p, Nat.mul_comm _ _⟩))
end Go.Proofs.YtgbndganadelpaaGreatDoor.Num
/- Laws: residues, powers modulo a prime number, the symbol of a unit. -/
namespace Go.Proofs.YtgbndganadelpaaGreatDoor.V
open Go Go.Proofs.YtgbndganadelpaaGreatDoor.E Go.Proofs.YtgbndganadelpaaGreatDoor.LI Go.Proofs.YtgbndganadelpaaGreatDoor.Num
set_option linter.unusedVariables false
set_option linter.unusedSimpArgs false
theorem sq_le {d n : Nat} (h : d * d ≤ n) (hn : n ≤ 2147483647) : d ≤ 46340 := by
  apply Classical.byContradiction
  intro hc
  have := Nat.mul_le_mul (show 46341 ≤ d by omega) (show 46341 ≤ d by omega)
  omega
theorem sq_wrap {d : Nat} (h : d ≤ 46342) : IntKind.wrap .i64 ((d : Int) * d) = ((d * d : Nat) : Int) := by
  have := Nat.mul_le_mul h h
  rw [← Int.natCast_mul]
  apply wi64 <;> omega
theorem tmod_nat (m n : Nat) : Int.tmod (m : Int) (n : Int) = ((m % n : Nat) : Int) := (Int.ofNat_tmod m n).symm
theorem tdiv_nat (m n : Nat) : Int.tdiv (m : Int) (n : Int) = ((m / n : Nat) : Int) := (Int.ofNat_tdiv m n).symm
theorem tmod_emod (a : Int) (m : Nat) (hm : 0 < m) : (if Int.tmod a m < 0 then Int.tmod a m + m else Int.tmod a m) = a % m := by
  have e := Int.tmod_add_mul_tdiv a m
  have hlt : Int.tmod a m < m := Int.tmod_lt_of_pos _ (by omega)
  have hgt : -(m : Int) < Int.tmod a m := by
    have := Int.tmod_lt_of_pos (-a) (show (0 : Int) < m by omega)
    rw [Int.neg_tmod] at this
    omega
  have h1 : a % m = (Int.tmod a m) % m := by
    conv => lhs; rw [← e]
    rw [Int.add_mul_emod_self_left]
  rw [h1]
  split
  · rw [← Int.add_emod_right, Int.emod_eq_of_lt (by omega) (by omega)]
  · rw [Int.emod_eq_of_lt (by omega) (by omega)]
theorem residue_ok (a : Int) (m : Nat) (hm : 0 < m) (hm2 : m ≤ 2147483647) : prime_residue a m = some (a % m) := by
  have e := tmod_emod a m hm
  have h0 := Int.emod_nonneg a (show (m : Int) ≠ 0 by omega)
  have h1 := Int.emod_lt_of_pos a (show (0 : Int) < m by omega)
  unfold prime_residue
  simp only [prime_residue.j1, cite, decide_eq_true_eq]
  rw [if_neg (by omega)]
  split <;> rename_i h
  · rw [if_pos h] at e
    rw [e, wi64 (by omega) (by omega)]
  · rw [if_neg h] at e
    rw [e]
theorem ref_mod (a m : Int) : r22_Mod a m = prime_residue a m := rfl
theorem pow_odd {a c f p : Nat} : (c * a % p) * (a * a % p) ^ f % p = c * a ^ (2 * f + 1) % p := by
  rw [Nat.mul_mod, Nat.mod_mod, ← Nat.pow_mod, ← Nat.mul_mod]
  congr 1
  rw [← Nat.pow_two, ← Nat.pow_mul, Nat.mul_assoc, ← Nat.pow_succ']
theorem pow_even {a c f p : Nat} : c * (a * a % p) ^ f % p = c * a ^ (2 * f) % p := by
  rw [Nat.mul_mod, ← Nat.pow_mod, ← Nat.mul_mod]
  congr 1
  rw [← Nat.pow_two, ← Nat.pow_mul]
theorem mul_wrap {a b p : Nat} (ha : a < p) (hb : b < p) (hp : p ≤ 2147483647) : IntKind.wrap .i64 ((a : Int) * b) = ((a * b : Nat) : Int) := by
  have := Nat.mul_le_mul (show a ≤ 2147483647 by omega) (show b ≤ 2147483647 by omega)
  rw [← Int.natCast_mul]
  apply wi64 <;> omega
theorem half_wrap (e : Nat) (he : e ≤ 2147483647) : IntKind.wrap .i64 (Int.tdiv (e : Int) 2) = ((e / 2 : Nat) : Int) := by
  rw [show Int.tdiv (e : Int) 2 = ((e / 2 : Nat) : Int) from tdiv_nat e 2]
  exact wi64 (by omega) (by omega)
theorem symbol_loop {p : Nat} (hp0 : 2 ≤ p) (hp : p ≤ 2147483647) : ∀ (N e a c : Nat), e < N → e ≤ 2147483647 → a < p → c < p →
    iterL (fun x : Int × Int × Int × Int × Unit => prime_symbol.s0 x.1 x.2.1 x.2.2.1 x.2.2.2.1) ((a : Int), (p : Int), (c : Int), (e : Int), ()) = some (((c * a ^ e % p : Nat) : Int), ())
  | 0, e, a, c, h, _, _, _ => by omega
  | N + 1, e, a, c, h, he, ha, hc => by
    by_cases h0 : e = 0
    · subst h0
      rw [Nat.pow_zero, Nat.mul_one, Nat.mod_eq_of_lt hc]
      refine iterL_done ?_
      simp only [prime_symbol.s0, cite, decide_eq_true_eq]
      rw [if_neg (by omega)]
    · have ha2 : a * a % p < p := Nat.mod_lt _ (by omega)
      have hc2 : c * a % p < p := Nat.mod_lt _ (by omega)
      have hm : Int.tmod (e : Int) 2 = ((e % 2 : Nat) : Int) := tmod_nat e 2
      by_cases hodd : e % 2 = 1
      · have key := symbol_loop hp0 hp N (e / 2) (a * a % p) (c * a % p) (by omega) (by omega) ha2 hc2
        rw [pow_odd, show 2 * (e / 2) + 1 = e by omega] at key
        refine (iterL_next ?_).trans key
        simp only [prime_symbol.s0, prime_symbol.j7, prime_symbol.j8, cite, decide_eq_true_eq, beq_iff_eq]
        rw [if_pos (by omega), hm, if_pos (by rw [hodd]; rfl), if_neg (by omega), if_neg (by omega), mul_wrap ha ha hp, mul_wrap hc ha hp, tmod_nat, tmod_nat, half_wrap e he]
      · have key := symbol_loop hp0 hp N (e / 2) (a * a % p) c (by omega) (by omega) ha2 hc
        rw [pow_even, show 2 * (e / 2) = e by omega] at key
        refine (iterL_next ?_).trans key
        simp only [prime_symbol.s0, prime_symbol.j7, prime_symbol.j8, cite, decide_eq_true_eq, beq_iff_eq]
        rw [if_pos (by omega), hm, if_neg (by omega), if_neg (by omega), mul_wrap ha ha hp, tmod_nat, half_wrap e he]
theorem modpow_loop {p : Nat} (hp0 : 2 ≤ p) (hp : p ≤ 2147483647) : ∀ (N e a c : Nat), e < N → e ≤ 2147483647 → a < p → c < p →
    iterL (fun x : Int × Int × Int × Int × Unit => r22_ModPow.s0 x.1 x.2.1 x.2.2.1 x.2.2.2.1) ((a : Int), (e : Int), (p : Int), (c : Int), ()) = some (((c * a ^ e % p : Nat) : Int), ())
  | 0, e, a, c, h, _, _, _ => by omega
  | N + 1, e, a, c, h, he, ha, hc => by
    by_cases h0 : e = 0
    · subst h0
      rw [Nat.pow_zero, Nat.mul_one, Nat.mod_eq_of_lt hc]
      refine iterL_done ?_
      simp only [r22_ModPow.s0, cite, decide_eq_true_eq]
      rw [if_neg (by omega)]
    · have ha2 : a * a % p < p := Nat.mod_lt _ (by omega)
      have hc2 : c * a % p < p := Nat.mod_lt _ (by omega)
      have hm : Int.tmod (e : Int) 2 = ((e % 2 : Nat) : Int) := tmod_nat e 2
      by_cases hodd : e % 2 = 1
      · have key := modpow_loop hp0 hp N (e / 2) (a * a % p) (c * a % p) (by omega) (by omega) ha2 hc2
        rw [pow_odd, show 2 * (e / 2) + 1 = e by omega] at key
        refine (iterL_next ?_).trans key
        simp only [r22_ModPow.s0, r22_ModPow.j1, r22_ModPow.j2, cite, decide_eq_true_eq, beq_iff_eq]
        rw [if_pos (by omega), hm, if_pos (by rw [hodd]; rfl), if_neg (by omega), if_neg (by omega), mul_wrap ha ha hp, mul_wrap hc ha hp, tmod_nat, tmod_nat, half_wrap e he]
      · have key := modpow_loop hp0 hp N (e / 2) (a * a % p) c (by omega) (by omega) ha2 hc
        rw [pow_even, show 2 * (e / 2) = e by omega] at key
        refine (iterL_next ?_).trans key
        simp only [r22_ModPow.s0, r22_ModPow.j1, r22_ModPow.j2, cite, decide_eq_true_eq, beq_iff_eq]
        rw [if_pos (by omega), hm, if_neg (by omega), if_neg (by omega), mul_wrap ha ha hp, tmod_nat, half_wrap e he]
/-- The symbol of a residue r modulo an odd prime number. -/
def lg (r p : Nat) : Int := if r ^ ((p - 1) / 2) % p = 1 then 1 else -1
theorem halfp {p : Nat} (hp : 2 ≤ p) (hpM : p ≤ 2147483647) : IntKind.wrap .i64 (Int.tdiv (IntKind.wrap .i64 ((p : Int) - 1)) 2) = (((p - 1) / 2 : Nat) : Int) := by
  rw [show (p : Int) - 1 = ((p - 1 : Nat) : Int) by omega, wi64 (x := ((p - 1 : Nat) : Int)) (by omega) (by omega)]
  exact half_wrap _ (by omega)
theorem symbol_unit {p r : Nat} (hp : Pr p) (h2 : p ≠ 2) (hpM : p ≤ 2147483647) (h0 : 0 < r) (hr : r < p) : prime_symbol (r : Int) (p : Int) = some (lg r p) := by
  have hp2 := hp.1
  unfold prime_symbol
  simp only [prime_symbol.j5, prime_symbol.j6, cite, beq_iff_eq]
  rw [if_neg (by omega), residue_ok (r : Int) p (by omega) hpM, Option.bind_some, Int.emod_eq_of_lt (by omega) (by omega), if_neg (by omega), halfp hp2 hpM]
  have key := symbol_loop hp2 hpM _ ((p - 1) / 2) r 1 (Nat.lt_succ_self _) (by omega) hr (by omega)
  rw [show ((1 : Nat) : Int) = 1 from rfl, Nat.one_mul] at key
  rw [key, Option.bind_some]
  simp only [prime_symbol.k0, prime_symbol.j9, cite, beq_iff_eq, lg]
  by_cases h : r ^ ((p - 1) / 2) % p = 1
  · rw [if_pos h, if_pos (by omega)]
  · rw [if_neg h, if_neg (by omega)]
theorem legendre_unit {p r : Nat} (hp : Pr p) (h2 : p ≠ 2) (hpM : p ≤ 2147483647) (h0 : 0 < r) (hr : r < p) : r22_Legendre (r : Int) (p : Int) = some (lg r p) := by
  have hp2 := hp.1
  unfold r22_Legendre r22_ModPow
  simp only [r22_Legendre.j1, r22_Legendre.j2, cite, beq_iff_eq, decide_eq_true_eq]
  rw [if_neg (by omega), ref_mod, residue_ok (r : Int) p (by omega) hpM, Option.bind_some, Int.emod_eq_of_lt (by omega) (by omega), halfp hp2 hpM]
  have key := modpow_loop hp2 hpM _ ((p - 1) / 2) r 1 (Nat.lt_succ_self _) (by omega) hr (by omega)
  rw [show ((1 : Nat) : Int) = 1 from rfl, Nat.one_mul] at key
  have h1 : Int.tmod 1 (p : Int) = 1 := by rw [show (1 : Int) = ((1 : Nat) : Int) from rfl, tmod_nat, Nat.mod_eq_of_lt (by omega)]
  rw [h1, key, Option.bind_some]
  simp only [r22_ModPow.k0, Option.bind_some, lg]
  have hnz : r ^ ((p - 1) / 2) % p ≠ 0 := by
    intro h
    have hd := hp.dvd_pow _ (Nat.dvd_of_mod_eq_zero h)
    have := Nat.le_of_dvd (by omega) hd
    omega
  rw [if_neg (by omega)]
  by_cases h : r ^ ((p - 1) / 2) % p = 1
  · rw [if_pos h, if_pos (by omega)]
  · rw [if_neg h, if_neg (by omega)]
end Go.Proofs.YtgbndganadelpaaGreatDoor.V
