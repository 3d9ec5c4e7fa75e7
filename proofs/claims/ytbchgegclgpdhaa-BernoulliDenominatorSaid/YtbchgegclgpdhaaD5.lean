/- Laws of the whole numbers of both: on numbers `mkI z`, with bounds in bits. -/
import Derived.Test.YtbchgegclgpdhaaD4
namespace Go.Proofs.Ytbchgegclgpdhaa.V
open Go Go.Proofs.Ytbchgegclgpdhaa.E Go.Proofs.Ytbchgegclgpdhaa.LI
set_option linter.unusedVariables false
set_option linter.unusedSimpArgs false

abbrev IV : Type := Bool × List Int × Unit
abbrev QV : Type := IV × IV × Unit
theorem etaI (z : IV) : (z.1, z.2.1, ()) = z := rfl
theorem etaQ (z : QV) : ((z.1.1, z.1.2.1, ()), (z.2.1.1, z.2.1.2.1, ()), ()) = z := rfl
theorem etaP (z : QV) : (z.1, z.2.1, ()) = z := rfl
/-- A number of at most n bits. -/
def Bd (n : Nat) (z : Int) : Prop := z.natAbs < 2 ^ n
theorem Bd.mono {n m : Nat} {z : Int} (h : Bd n z) (hm : n ≤ m) : Bd m z := Nat.lt_of_lt_of_le h (Nat.pow_le_pow_right (by omega) hm)
theorem Bd.mul {n m : Nat} {a b : Int} (h : Bd n a) (h' : Bd m b) : Bd (n + m) (a * b) := by
  unfold Bd at *
  rw [Int.natAbs_mul, Nat.pow_add]
  exact Nat.lt_of_le_of_lt (Nat.mul_le_mul_right _ (Nat.le_of_lt h)) (Nat.mul_lt_mul_of_pos_left h' (Nat.two_pow_pos n))
theorem Bd.add {n : Nat} {a b : Int} (h : Bd n a) (h' : Bd n b) : Bd (n + 1) (a + b) := by
  unfold Bd at *
  rw [Nat.pow_succ]
  omega
theorem Bd.neg {n : Nat} {a : Int} (h : Bd n a) : Bd n (-a) := by
  unfold Bd at *
  rwa [Int.natAbs_neg]
theorem Bd.len {n : Nat} {z : Int} (h : Bd n z) (hn : n ≤ 1000000000) : (limbs z.natAbs).length ≤ 31250001 := by
  have : (limbs z.natAbs).length ≤ n / 32 + 1 := limbs_len.2 (Nat.lt_of_lt_of_le h (by
    rw [show (4294967296 : Nat) = 2 ^ 32 from rfl, ← Nat.pow_mul]
    exact Nat.pow_le_pow_right (by omega) (by omega)))
  omega
theorem Bd.small {n : Nat} {z : Int} (h : z.natAbs < 2 ^ n) : Bd n z := h
theorem Bd.i64 {z : Int} (h : -9223372036854775808 ≤ z) (h' : z ≤ 9223372036854775807) : Bd 64 z := by
  unfold Bd
  rw [show (2 : Nat) ^ 64 = 18446744073709551616 from rfl]
  omega
section
variable {a b : Int} {n : Nat}
theorem raddI (ha : Bd n a) (hb : Bd n b) (hn : n ≤ 1000000000) : quadformref01_Add (mkI a) (mkI b) = some (mkI (a + b)) := by
  have h1 := ha.len hn
  have h2 := hb.len hn
  have := radd_ok (mkI a).1 (mkI b).1 () () (lim_mkI a) (lim_mkI b) (by rw [len_mkI]; omega) (by rw [len_mkI]; omega)
  rwa [iv_mkI, iv_mkI] at this
theorem rnegI (ha : Bd n a) (hn : n ≤ 1000000000) : quadformref01_Neg (mkI a) = some (mkI (-a)) := by
  have h1 := ha.len hn
  have := rneg_ok (mkI a).1 () (lim_mkI a) (by rw [len_mkI]; omega)
  rwa [iv_mkI] at this
theorem rsignI (ha : Bd n a) (hn : n ≤ 1000000000) : quadformref01_Sign (mkI a) = some (if a = 0 then 0 else if a < 0 then -1 else 1) := by
  have h1 := ha.len hn
  have := rsign_ok (mkI a).1 () (lim_mkI a) (by rw [len_mkI]; omega)
  rwa [iv_mkI] at this
theorem rnormI (ha : Bd n a) (hn : n ≤ 1000000000) : quadformref01_Normalize (mkI a) = some (mkI a) := by
  have h1 := ha.len hn
  unfold quadformref01_Normalize
  rw [make_ok (mkI a).1 (lim_mkI a) (by rw [len_mkI]; omega), iv_mkI]
  rfl
theorem rabsI (ha : Bd n a) (hn : n ≤ 1000000000) : quadformref01_Abs (mkI a) = some (mkI (a.natAbs : Nat)) := by
  have h1 := ha.len hn
  unfold quadformref01_Abs
  rw [make_ok false (lim_mkI a) (by rw [len_mkI]; omega), iv_f, lv_mkI]
  rfl
theorem rdivmodI (ha : Bd n a) (hb : Bd n b) (hn : n ≤ 1000000000) (h0 : b ≠ 0) : quadformref01_DivMod (mkI a) (mkI b) = some (mkI (a / b), mkI (a % b), true, ()) := by
  have h1 := ha.len hn
  have h2 := hb.len hn
  have := rdivmod_ok (mkI a).1 (mkI b).1 () () (lim_mkI a) (lim_mkI b) (by rw [len_mkI]; omega) (by rw [len_mkI]; omega) (by rw [iv_mkI]; exact h0)
  rwa [iv_mkI, iv_mkI] at this
theorem rquoI (ha : Bd n a) (hb : Bd n b) (hn : n ≤ 1000000000) (h0 : b ≠ 0) : quadformref01_Quo (mkI a) (mkI b) = some (mkI (a / b)) := by
  unfold quadformref01_Quo
  simp only [etaI]
  rw [rdivmodI ha hb hn h0, Option.bind_some]
theorem rremI (ha : Bd n a) (hb : Bd n b) (hn : n ≤ 1000000000) (h0 : b ≠ 0) : quadformref01_Rem (mkI a) (mkI b) = some (mkI (a % b)) := by
  have h1 := ha.len hn
  have h2 := hb.len hn
  have := rrem_ok (mkI a).1 (mkI b).1 () () (lim_mkI a) (lim_mkI b) (by rw [len_mkI]; omega) (by rw [len_mkI]; omega) (by rw [iv_mkI]; exact h0)
  rwa [iv_mkI, iv_mkI] at this
theorem rgcd_loop (hn : n ≤ 1000000000) (c : IV) : ∀ (b a : Nat), Bd n (a : Int) → Bd n (b : Int) →
    iterL (fun x : (Bool × List Int × Unit) × (Bool × List Int × Unit) × (Bool × List Int × Unit) × Unit => quadformref01_Gcd.s0 x.1 x.2.1 x.2.2.1) (c, mkI (a : Int), mkI (b : Int), ()) = some (c, mkI ((Nat.gcd a b : Nat) : Int), ()) := by
  intro b
  induction b using Nat.strongRecOn with
  | ind b ih =>
    intro a ha hb
    by_cases h0 : b = 0
    · subst h0
      refine iterL_done ?_
      simp only [quadformref01_Gcd.s0, cite, bne_iff_ne, etaI]
      rw [rsignI hb hn, Option.bind_some, if_neg (by decide), Nat.gcd_zero_right]
    · have hm : a % b < b := Nat.mod_lt _ (by omega)
      have key := ih (a % b) hm b hb (by unfold Bd at *; omega)
      rw [Nat.gcd_comm a b, Nat.gcd_rec b a, Nat.gcd_comm]
      refine (iterL_next ?_).trans key
      simp only [quadformref01_Gcd.s0, quadformref01_Gcd.j1, cite, bne_iff_ne, etaI]
      rw [rsignI hb hn, Option.bind_some, if_pos (by rw [if_neg (by omega), if_neg (by omega)]; decide), rremI ha hb hn (by omega), Option.bind_some]
      rfl
theorem rgcdI (ha : Bd n a) (hb : Bd n b) (hn : n ≤ 1000000000) : quadformref01_Gcd (mkI a) (mkI b) = some (mkI ((Int.gcd a b : Nat) : Int)) := by
  unfold quadformref01_Gcd
  simp only [etaI]
  rw [rabsI ha hn, Option.bind_some, rabsI hb hn, Option.bind_some, rgcd_loop hn _ _ _ (by unfold Bd at *; rwa [Int.natAbs_natCast]) (by unfold Bd at *; rwa [Int.natAbs_natCast]), Option.bind_some]
  rfl
theorem rsameI (hb : Bd n a) (hn : n ≤ 1000000000) : quadformref01_Same (mkI a) (mkI b) = some (decide (a = b)) := by
  have h1 := hb.len hn
  unfold quadformref01_Same
  simp only [cite, beq_iff_eq]
  have e1 : (mkI a).1 = decide (a < 0) := rfl
  have e2 : (mkI b).1 = decide (b < 0) := rfl
  have e3 : (mkI a).2.1 = limbs a.natAbs := rfl
  have e4 : (mkI b).2.1 = limbs b.natAbs := rfl
  rw [e1, e2, e3, e4]
  by_cases hs : decide (a < 0) = decide (b < 0)
  · rw [if_pos hs]
    by_cases hl : (limbs a.natAbs).length = (limbs b.natAbs).length
    · rw [if_pos (by rw [hl]), rcmp_ok (by omega), Option.bind_some]
      congr 1
      rw [decide_eq_decide] at hs
      by_cases hab : a = b
      · rw [decide_eq_true hab, cm_eq (by rw [hab])]; rfl
      · rw [decide_eq_false hab, beq_eq_false_iff_ne]
        unfold cm
        split
        · decide
        · split
          · omega
          · decide
    · rw [if_neg (by omega)]
      congr 1
      symm
      exact decide_eq_false (fun h => hl (by rw [h]))
  · rw [if_neg hs]
    congr 1
    symm
    exact decide_eq_false (fun h => hs (by rw [h]))
theorem cmp_sgn (a b : Int) : (if a = 0 then (0 : Int) else if a < 0 then -1 else 1) = (if b = 0 then (0 : Int) else if b < 0 then -1 else 1) → (if a = 0 then (0 : Int) else if a < 0 then -1 else 1) * cm a.natAbs b.natAbs = cm a b := by
  unfold cm
  intro h
  by_cases h0 : a = 0
  · subst h0
    rw [if_pos rfl] at h ⊢
    by_cases h1 : b = 0
    · subst h1; rfl
    · rw [if_neg h1] at h; split at h <;> omega
  · rw [if_neg h0] at h ⊢
    by_cases h1 : b = 0
    · rw [if_pos h1] at h; split at h <;> omega
    · rw [if_neg h1] at h
      by_cases h2 : a < 0
      · rw [if_pos h2] at h ⊢
        by_cases h3 : b < 0
        · by_cases h4 : (a.natAbs : Int) < b.natAbs
          · rw [if_pos h4, if_neg (by omega), if_neg (by omega)]; rfl
          · rw [if_neg h4]
            by_cases h5 : (a.natAbs : Int) = b.natAbs
            · rw [if_pos h5, if_neg (by omega), if_pos (by omega)]; rfl
            · rw [if_neg h5, if_pos (by omega)]; rfl
        · rw [if_neg h3] at h; omega
      · rw [if_neg h2] at h ⊢
        by_cases h3 : b < 0
        · rw [if_pos h3] at h; omega
        · rw [Int.one_mul]
          by_cases h4 : (a.natAbs : Int) < b.natAbs
          · rw [if_pos h4, if_pos (by omega)]
          · rw [if_neg h4, if_neg (show ¬ a < b by omega)]
            by_cases h5 : (a.natAbs : Int) = b.natAbs
            · rw [if_pos h5, if_pos (by omega)]
            · rw [if_neg h5, if_neg (by omega)]
theorem cm_range (a b : Int) : cm a b = -1 ∨ cm a b = 0 ∨ cm a b = 1 := by unfold cm; split <;> (try split) <;> omega
theorem rcmpI (ha : Bd n a) (hb : Bd n b) (hn : n ≤ 1000000000) : quadformref01_Cmp (mkI a) (mkI b) = some (cm a b) := by
  have h1 := ha.len hn
  have h2 := hb.len hn
  unfold quadformref01_Cmp
  simp only [etaI]
  rw [rsignI ha hn, Option.bind_some, rsignI hb hn, Option.bind_some]
  simp only [quadformref01_Cmp.j1, quadformref01_Cmp.j2, cite, bne_iff_ne, decide_eq_true_eq]
  by_cases hs : (if a = 0 then (0 : Int) else if a < 0 then -1 else 1) = (if b = 0 then (0 : Int) else if b < 0 then -1 else 1)
  · have e3 : (mkI a).2.1 = limbs a.natAbs := rfl
    have e4 : (mkI b).2.1 = limbs b.natAbs := rfl
    rw [if_neg (fun h => h hs), e3, e4, rtrim_ok (lim_limbs _) (by omega), Option.bind_some, rtrim_ok (lim_limbs _) (by omega), Option.bind_some, lv_limbs, lv_limbs, rcmp_ok (by omega), Option.bind_some, cmp_sgn a b hs]
    have := cm_range a b
    rw [wi64 (by omega) (by omega)]
  · rw [if_pos hs]
    unfold cm
    by_cases hlt : (if a = 0 then (0 : Int) else if a < 0 then -1 else 1) < (if b = 0 then (0 : Int) else if b < 0 then -1 else 1)
    · rw [if_pos hlt, if_pos]
      split at hlt <;> split at hlt <;> (try split at hlt) <;> (try split at hlt) <;> omega
    · rw [if_neg hlt]
      have h8 : b < a := by
        split at hlt <;> split at hlt <;> (try split at hlt) <;> (try split at hlt) <;> simp_all <;> omega
      rw [if_neg (by omega), if_neg (by omega)]
theorem addI (ha : Bd n a) (hb : Bd n b) (hn : n ≤ 1000000000) : integer_Add (mkI a) (mkI b) = some (mkI (a + b)) := by
  have h1 := ha.len hn
  have h2 := hb.len hn
  have m1 : integer_magnitude (mkI a) = some (limbs a.natAbs) := by
    have := magnitude_ok (mkI a).1 () (lim_mkI a) (by rw [len_mkI]; omega)
    rwa [lv_mkI] at this
  have m2 : integer_magnitude (mkI b) = some (limbs b.natAbs) := by
    have := magnitude_ok (mkI b).1 () (lim_mkI b) (by rw [len_mkI]; omega)
    rwa [lv_mkI] at this
  have e1 : (mkI a).1 = decide (a < 0) := rfl
  have e2 : (mkI b).1 = decide (b < 0) := rfl
  unfold integer_Add
  simp only [etaI]
  rw [m1, Option.bind_some, m2, Option.bind_some]
  simp only [integer_Add.j1, integer_Add.j2, cite, beq_iff_eq, decide_eq_true_eq]
  rw [e1, e2]
  by_cases hs : decide (a < 0) = decide (b < 0)
  · rw [if_pos hs, plus_ok (lim_limbs _) (lim_limbs _) (by omega) (by omega), Option.bind_some, lv_limbs, lv_limbs]
    have hl : (limbs (a.natAbs + b.natAbs)).length < 17592186044416 := by
      have := (ha.add hb)
      have h3 : Bd (n + 1) ((a.natAbs + b.natAbs : Nat) : Int) := by unfold Bd at *; rw [Nat.pow_succ, Int.natAbs_natCast]; omega
      have h4 : (limbs ((a.natAbs + b.natAbs : Nat) : Int).natAbs).length ≤ (n + 1) / 32 + 1 := limbs_len.2 (Nat.lt_of_lt_of_le h3 (by
        rw [show (4294967296 : Nat) = 2 ^ 32 from rfl, ← Nat.pow_mul]
        exact Nat.pow_le_pow_right (by omega) (by omega)))
      rw [Int.natAbs_natCast] at h4
      omega
    rw [signed_ok _ (lim_limbs _) hl, Option.bind_some]
    congr 1
    have : iv (decide (a < 0)) (limbs (a.natAbs + b.natAbs)) = a + b := by
      rw [decide_eq_decide] at hs
      unfold iv
      rw [lv_limbs]
      by_cases h0 : a < 0
      · rw [if_pos (decide_eq_true h0)]; omega
      · rw [if_neg (by simpa using h0)]; omega
    rw [this]
  · rw [if_neg hs, compare_ok (by omega), Option.bind_some]
    have hss : ¬ (a < 0 ↔ b < 0) := fun h => hs (decide_eq_decide.2 h)
    by_cases hc : b.natAbs ≤ a.natAbs
    · rw [if_pos (by unfold cm; split <;> (try split) <;> omega), minus_ok (lim_limbs _) (lim_limbs _) (by omega) (len_le hc) (by rw [lv_limbs, lv_limbs]; exact hc), Option.bind_some, lv_limbs, lv_limbs]
      have := len_le (show a.natAbs - b.natAbs ≤ a.natAbs by omega)
      rw [signed_ok _ (lim_limbs _) (by omega), Option.bind_some]
      congr 1
      have : iv (decide (a < 0)) (limbs (a.natAbs - b.natAbs)) = a + b := by
        unfold iv
        rw [lv_limbs]
        by_cases h0 : a < 0
        · rw [if_pos (decide_eq_true h0)]; omega
        · rw [if_neg (by simpa using h0)]; omega
      rw [this]
    · rw [cm_lt (by omega), if_neg (by decide), minus_ok (lim_limbs _) (lim_limbs _) (by omega) (len_le (by omega)) (by rw [lv_limbs, lv_limbs]; omega), Option.bind_some, lv_limbs, lv_limbs]
      have := len_le (show b.natAbs - a.natAbs ≤ b.natAbs by omega)
      rw [signed_ok _ (lim_limbs _) (by omega), Option.bind_some]
      congr 1
      have : iv (decide (b < 0)) (limbs (b.natAbs - a.natAbs)) = a + b := by
        unfold iv
        rw [lv_limbs]
        by_cases h0 : b < 0
        · rw [if_pos (decide_eq_true h0)]; omega
        · rw [if_neg (by simpa using h0)]; omega
      rw [this]
theorem negI (ha : Bd n a) (hn : n ≤ 1000000000) : integer_Neg (mkI a) = some (mkI (-a)) := by
  have h1 := ha.len hn
  unfold integer_Neg
  simp only [etaI]
  rw [normI (by omega), Option.bind_some, signed_ok _ (lim_mkI a) (by rw [len_mkI]; omega), Option.bind_some]
  congr 1
  have : iv (!(mkI a).1) (mkI a).2.1 = -a := by
    have e1 : (mkI a).1 = decide (a < 0) := rfl
    unfold iv
    rw [lv_mkI, e1]
    by_cases h0 : a < 0
    · rw [decide_eq_true h0, if_neg (by decide)]; omega
    · rw [decide_eq_false h0, if_pos (by decide)]; omega
  rw [this]
theorem signB (ha : Bd n a) (hn : n ≤ 1000000000) : integer_Sign (mkI a) = some (if a = 0 then 0 else if a < 0 then -1 else 1) := by
  have h1 := ha.len hn
  have := sign_ok (mkI a).1 () (lim_mkI a) (by rw [len_mkI]; omega)
  rwa [iv_mkI] at this
theorem mulB (ha : Bd n a) (hb : Bd n b) (hn : n ≤ 1000000000) : integer_Mul (mkI a) (mkI b) = some (mkI (a * b)) := mulI a b (by
  have h1 := ha.len hn
  have h2 := hb.len hn
  omega)
theorem cmpI (ha : Bd n a) (hb : Bd n b) (hn : n ≤ 1000000000) : integer_Cmp (mkI a) (mkI b) = some (cm a b) := by
  have h1 := ha.len hn
  have h2 := hb.len hn
  have m1 : integer_magnitude (mkI a) = some (limbs a.natAbs) := by
    have := magnitude_ok (mkI a).1 () (lim_mkI a) (by rw [len_mkI]; omega)
    rwa [lv_mkI] at this
  have m2 : integer_magnitude (mkI b) = some (limbs b.natAbs) := by
    have := magnitude_ok (mkI b).1 () (lim_mkI b) (by rw [len_mkI]; omega)
    rwa [lv_mkI] at this
  unfold integer_Cmp
  simp only [etaI]
  rw [signB ha hn, Option.bind_some, signB hb hn, Option.bind_some]
  simp only [integer_Cmp.j1, integer_Cmp.j2, cite, bne_iff_ne, decide_eq_true_eq, etaI]
  by_cases hs : (if a = 0 then (0 : Int) else if a < 0 then -1 else 1) = (if b = 0 then (0 : Int) else if b < 0 then -1 else 1)
  · rw [if_neg (fun h => h hs), m1, Option.bind_some, m2, Option.bind_some, compare_ok (by omega), Option.bind_some, cmp_sgn a b hs]
    have := cm_range a b
    rw [wi64 (by omega) (by omega)]
  · have hr := rcmpI ha hb hn
    unfold quadformref01_Cmp at hr
    simp only [etaI] at hr
    rw [rsignI ha hn, Option.bind_some, rsignI hb hn, Option.bind_some] at hr
    simp only [quadformref01_Cmp.j1, quadformref01_Cmp.j2, cite, bne_iff_ne, decide_eq_true_eq] at hr
    rw [if_pos hs] at hr ⊢
    exact hr
end
end Go.Proofs.Ytbchgegclgpdhaa.V
