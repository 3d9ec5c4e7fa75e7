/- PrimeValuationBack. -/
import Derived.Test.YtcjhbjfkcmncpabN8
import Derived.Test.YtcjhbjfkcmncpabN9
namespace Go.Proofs.Ytcjhbjfkcmncpab.V
open Go Go.Proofs.Ytcjhbjfkcmncpab.E Go.Proofs.Ytcjhbjfkcmncpab.LI Go.Proofs.Ytcjhbjfkcmncpab.Num
set_option linter.unusedVariables false
set_option linter.unusedSimpArgs false

theorem normalize_ok {l : List Int} (s : Bool) (u : Unit) (h : Lim l) (hb : l.length ≤ 1073741824) : integer_Normalize (s, l, u) = some (mkI (iv s l)) := by
  have hx := len_lv h
  unfold integer_Normalize
  rw [magnitude_ok s () h (by omega), Option.bind_some]
  simp only [cite, inC_t, maxL_eq, Int.toNat_natCast, List.length_replicate]
  rw [if_pos (by omega), List.take_length, List.drop_eq_nil_of_le (by simp), List.append_nil, signed_ok s (lim_limbs _) (by omega), Option.bind_some]
  have : iv s (limbs (lv l)) = iv s l := by unfold iv; rw [lv_limbs]
  rw [this]
theorem divmodI {z : Int} (hz : (limbs z.natAbs).length < 33554432) {p : Nat} (h0 : 0 < p) (hp : p < 4294967296) : integer_DivMod (mkI z) (mkI (p : Int)) = some (mkI (z / p), mkI (z % p), true, ()) := by
  have hl : (limbs ((p : Int)).natAbs).length ≤ 1 := limbs_len.2 (by omega)
  have hd := divmod_of (mkI z).1 (mkI (p : Int)).1 () () (lim_mkI z) (lim_mkI (p : Int)) hz (by rw [len_mkI]; omega) (by rw [iv_mkI]; omega) (by rw [lv_mkI, lv_mkI, Int.natAbs_natCast]; exact divide_one (by omega) h0 hp)
  rwa [iv_mkI, iv_mkI] at hd
theorem signI {z : Int} (hz : (limbs z.natAbs).length < 17592186044416) : integer_Sign (mkI z) = some (if z = 0 then 0 else if z < 0 then -1 else 1) := by
  have := sign_ok (mkI z).1 () (lim_mkI z) hz
  rwa [iv_mkI] at this
theorem val1_step {z : Int} (hz : (limbs z.natAbs).length < 33554432) {p : Nat} (h0 : 2 ≤ p) (hp : p ≤ 2147483647) (v : Int) (b : Bool × List Int × Unit) :
    prime_Valuation.s0 v (mkI z) b (mkI (p : Int)) = (if z % (p : Int) = 0 then some (.inl (IntKind.wrap .i64 (v + 1), mkI (z / p), b, mkI (p : Int), ())) else some (.inr (v, 0, mkI z, ()))) := by
  have e1 := Int.emod_nonneg z (show (p : Int) ≠ 0 by omega)
  have e2 := Int.emod_lt_of_pos z (show (0 : Int) < p by omega)
  have hlr : (limbs (z % (p : Int)).natAbs).length ≤ 1 := limbs_len.2 (by omega)
  have d1 : integer_DivMod ((mkI z).1, ((mkI z).2.1, ())) ((mkI (p : Int)).1, ((mkI (p : Int)).2.1, ())) = _ := divmodI hz (p := p) (by omega) (by omega)
  have s1 : integer_Sign ((mkI (z % (p : Int))).1, ((mkI (z % (p : Int))).2.1, ())) = _ := signI (z := z % (p : Int)) (by omega)
  unfold prime_Valuation.s0
  rw [d1, Option.bind_some]
  simp only []
  rw [s1, Option.bind_some]
  simp only [prime_Valuation.j3, cite, bne_iff_ne]
  by_cases h : z % (p : Int) = 0
  · rw [if_pos h, if_pos h, if_neg (by simp)]
  · rw [if_neg h, if_neg h, if_pos (by split <;> simp)]
theorem val1_loop {p : Nat} (h0 : 2 ≤ p) (hp : p ≤ 2147483647) (b : Bool × List Int × Unit) : ∀ (m : Nat) (z : Int) (v : Nat), z ≠ 0 → z.natAbs < 2 ^ m → v + m ≤ 1000000 → (limbs z.natAbs).length < 33554432 →
    ∃ (w : Nat) (z' : Int), iterL (fun x : Int × (Bool × List Int × Unit) × (Bool × List Int × Unit) × (Bool × List Int × Unit) × Unit => prime_Valuation.s0 x.1 x.2.1 x.2.2.1 x.2.2.2.1) ((v : Int), mkI z, b, mkI (p : Int), ()) = some (((v + w : Nat) : Int), 0, mkI z', ()) ∧
      z = (p : Int) ^ w * z' ∧ z' % (p : Int) ≠ 0 ∧ z'.natAbs ≤ z.natAbs := by
  intro m
  induction m with
  | zero => intro z v hz hm; omega
  | succ m ih =>
    intro z v hz hm hv hl
    have t1 := val1_step hl h0 hp (v : Int) b
    by_cases h : z % (p : Int) = 0
    · rw [if_pos h] at t1
      have hzz : z = (p : Int) * (z / p) := by have := Int.mul_ediv_add_emod z p; omega
      have hq0 : z / (p : Int) ≠ 0 := by
        intro h9
        rw [h9, Int.mul_zero] at hzz
        exact hz hzz
      have hna : z.natAbs = p * (z / (p : Int)).natAbs := by
        have h9 := congrArg Int.natAbs hzz
        rwa [Int.natAbs_mul, Int.natAbs_natCast] at h9
      have h2 : 2 * (z / (p : Int)).natAbs ≤ z.natAbs := by rw [hna]; exact Nat.mul_le_mul_right _ h0
      rw [Nat.pow_succ] at hm
      rw [up (by omega)] at t1
      obtain ⟨w, z', q1, q2, q3, q4⟩ := ih (z / p) (v + 1) hq0 (by omega) (by omega) (Nat.lt_of_le_of_lt (len_le (by omega)) hl)
      refine ⟨w + 1, z', ((iterL_next t1).trans q1).trans (by rw [show v + 1 + w = v + (w + 1) by omega]), ?_, q3, by omega⟩
      rw [Int.pow_succ, Int.mul_comm ((p : Int) ^ w) (p : Int), Int.mul_assoc, ← q2]
      exact hzz
    · rw [if_neg h] at t1
      exact ⟨0, z, iterL_done t1, by simp, h, Nat.le_refl _⟩
theorem valI {p : Nat} (hp : Pr p) (hpM : p ≤ 2147483647) {z : Int} (hz : z ≠ 0) (hl : (limbs z.natAbs).length ≤ 20) :
    ∃ (w : Nat) (z' : Int), prime_Valuation (mkI z) (p : Int) = some ((w : Int), mkI z', 0, ()) ∧ z = (p : Int) ^ w * z' ∧ z' % (p : Int) ≠ 0 ∧ z'.natAbs ≤ z.natAbs := by
  obtain ⟨b, hb1, hb2⟩ := is_any p
  have h0 := hp.1
  have hb : b = true := hb1.2 ⟨by omega, by omega, by simpa using hp⟩
  subst hb
  obtain ⟨k, hk, h640⟩ : ∃ k, k ≤ 1000 ∧ z.natAbs < 2 ^ k := by
    have h1 := limbs_len.1 hl
    rw [show (4294967296 : Nat) = 2 ^ 32 from rfl, ← Nat.pow_mul] at h1
    exact ⟨32 * 20, by decide, h1⟩
  obtain ⟨w, z', q1, q2, q3, q4⟩ := val1_loop h0 hpM (false, ([], ())) k z 0 hz h640 (by omega) (by omega)
  rw [Nat.zero_add] at q1
  refine ⟨w, z', ?_, q2, q3, q4⟩
  unfold prime_Valuation
  rw [hb2, Option.bind_some]
  simp only [prime_Valuation.j1, cite, beq_iff_eq, Bool.not_true]
  have sg : integer_Sign ((mkI z).1, ((mkI z).2.1, ())) = _ := signI (z := z) (by omega)
  have nm : integer_Normalize ((mkI z).1, ((mkI z).2.1, ())) = some (mkI z) := by
    have := normalize_ok (mkI z).1 () (lim_mkI z) (by rw [len_mkI]; omega)
    rwa [iv_mkI] at this
  rw [if_neg (by decide), sg, Option.bind_some, if_neg (by rw [if_neg hz]; split <;> simp)]
  simp only [prime_Valuation.j2]
  rw [nm, Option.bind_some, small_ok (by omega) (by omega), Option.bind_some]
  have q1' : iterL (fun x : Int × (Bool × List Int × Unit) × (Bool × List Int × Unit) × (Bool × List Int × Unit) × Unit => prime_Valuation.s0 x.1 x.2.1 x.2.2.1 x.2.2.2.1) ((0 : Int), ((mkI z).1, ((mkI z).2.1, ())), (false, (([] : List Int), ())), ((mkI (p : Int)).1, ((mkI (p : Int)).2.1, ())), ()) = _ := q1
  rw [q1', Option.bind_some]
  rfl

/-! ## powers -/
theorem pow_loop (B : Nat) (hB : (limbs B).length ≤ 100000) (b4 : Bool × List Int × Unit) : ∀ (N e r c : Nat), e < N → e ≤ 64 → r * c ^ e = B → 0 < r → 0 < c →
    iterL (fun x : Int × (Bool × List Int × Unit) × (Bool × List Int × Unit) × (Bool × List Int × Unit) × Unit => integer_Pow.s0 x.1 x.2.1 x.2.2.1 x.2.2.2.1) ((e : Int), b4, mkI (r : Int), mkI (c : Int), ()) = some (b4, mkI (B : Int), ())
  | 0, e, r, c, h, _, _, _, _ => by omega
  | N + 1, e, r, c, h, he, hB', hr, hc => by
    by_cases h0 : e = 0
    · subst h0
      rw [Nat.pow_zero, Nat.mul_one] at hB'
      subst hB'
      refine iterL_done ?_
      simp only [integer_Pow.s0, cite, decide_eq_true_eq]
      rw [if_neg (by omega)]
    · have hm : Int.tmod (e : Int) 2 = ((e % 2 : Nat) : Int) := tmod_nat e 2
      have hh := half_wrap e (by omega)
      have ce : c * c ^ (e - 1) = c ^ e := by rw [← Nat.pow_succ', show (e - 1).succ = e by omega]
      have cpos : 0 < c ^ (e - 1) := Nat.pow_pos hc
      have hce : c ≤ c ^ e := by rw [← ce]; exact Nat.le_mul_of_pos_right _ cpos
      have hrB : r ≤ B := by rw [← hB']; exact Nat.le_mul_of_pos_right _ (Nat.pow_pos hc)
      have hcB : c ≤ B := by rw [← hB']; exact Nat.le_trans hce (Nat.le_mul_of_pos_left _ hr)
      have lr := len_le hrB
      have lc := len_le hcB
      have m1 := mulI (r : Int) (c : Int) (by rw [Int.natAbs_natCast, Int.natAbs_natCast]; omega)
      have m2 := mulI (c : Int) (c : Int) (by rw [Int.natAbs_natCast]; omega)
      rw [← Int.natCast_mul] at m1 m2
      have m1' : integer_Mul ((mkI (r : Int)).1, ((mkI (r : Int)).2.1, ())) ((mkI (c : Int)).1, ((mkI (c : Int)).2.1, ())) = _ := m1
      have m2' : integer_Mul ((mkI (c : Int)).1, ((mkI (c : Int)).2.1, ())) ((mkI (c : Int)).1, ((mkI (c : Int)).2.1, ())) = _ := m2
      have step : ∀ r' : Nat, integer_Pow.j3 (e : Int) b4.1 b4.2.1 (mkI (r' : Int)).1 (mkI (r' : Int)).2.1 (mkI (c : Int)).1 (mkI (c : Int)).2.1 = some (.inl (((e / 2 : Nat) : Int), b4, mkI (r' : Int), mkI ((if e > 1 then c * c else c : Nat) : Int), ())) := fun r' => by
        simp only [integer_Pow.j3, integer_Pow.j4, cite, decide_eq_true_eq]
        by_cases h1 : e > 1
        · rw [if_pos (by omega), m2', Option.bind_some, hh, if_pos h1]
        · rw [if_neg (by omega), hh, if_neg h1]
      have half : ∀ r' : Nat, r' * c ^ (2 * (e / 2)) = B → r' * (if e > 1 then c * c else c : Nat) ^ (e / 2) = B := fun r' h9 => by
        by_cases h1 : e > 1
        · rw [if_pos h1, ← Nat.pow_two, ← Nat.pow_mul]; exact h9
        · rw [if_neg h1, show e / 2 = 0 by omega, Nat.pow_zero]
          rw [show e / 2 = 0 by omega, Nat.mul_zero, Nat.pow_zero] at h9
          exact h9
      have c2 : 0 < (if e > 1 then c * c else c : Nat) := by split <;> first | exact Nat.mul_pos hc hc | exact hc
      by_cases hodd : e % 2 = 1
      · have key := pow_loop B hB b4 N (e / 2) (r * c) (if e > 1 then c * c else c : Nat) (by omega) (by omega) (half _ (by
          rw [Nat.mul_assoc, ← Nat.pow_succ', show (2 * (e / 2)).succ = e by omega]; exact hB')) (Nat.mul_pos hr hc) c2
        refine (iterL_next ?_).trans key
        simp only [integer_Pow.s0, integer_Pow.j2, cite, decide_eq_true_eq, beq_iff_eq]
        rw [if_pos (by omega), hm, if_pos (by rw [hodd]; rfl), m1', Option.bind_some, step (r * c)]
      · have key := pow_loop B hB b4 N (e / 2) r (if e > 1 then c * c else c : Nat) (by omega) (by omega) (half _ (by
          rw [show 2 * (e / 2) = e by omega]; exact hB')) hr c2
        refine (iterL_next ?_).trans key
        simp only [integer_Pow.s0, integer_Pow.j2, cite, decide_eq_true_eq, beq_iff_eq]
        rw [if_pos (by omega), hm, if_neg (by omega), step r]
theorem pow_ok {c e : Nat} (hc : 0 < c) (he : e ≤ 64) (hl : (limbs (c ^ e)).length ≤ 100000) (hl2 : (limbs c).length ≤ 100000) : integer_Pow (mkI (c : Int)) (e : Int) = some (mkI ((c ^ e : Nat) : Int), true, ()) := by
  have key := pow_loop (c ^ e) hl (false, ([], ())) _ e 1 c (Nat.lt_succ_self _) he (by rw [Nat.one_mul]) (by omega) hc
  unfold integer_Pow
  simp only [integer_Pow.j1, cite, decide_eq_true_eq]
  have nm : integer_Normalize ((mkI (c : Int)).1, ((mkI (c : Int)).2.1, ())) = some (mkI (c : Int)) := by
    have := normalize_ok (mkI (c : Int)).1 () (lim_mkI (c : Int)) (by rw [len_mkI, Int.natAbs_natCast]; omega)
    rwa [iv_mkI] at this
  have key' : iterL (fun x : Int × (Bool × List Int × Unit) × (Bool × List Int × Unit) × (Bool × List Int × Unit) × Unit => integer_Pow.s0 x.1 x.2.1 x.2.2.1 x.2.2.2.1) ((e : Int), (false, (([] : List Int), ())), ((mkI 1).1, ((mkI 1).2.1, ())), ((mkI (c : Int)).1, ((mkI (c : Int)).2.1, ())), ()) = _ := key
  rw [if_neg (by omega), if_neg (by omega), small_ok (by decide) (by decide), Option.bind_some, nm, Option.bind_some, key', Option.bind_some]
  rfl
theorem cmp_self (z : Int) (hz : (limbs z.natAbs).length < 17592186044416) : integer_Cmp (mkI z) (mkI z) = some 0 := by
  have sg : integer_Sign ((mkI z).1, ((mkI z).2.1, ())) = _ := signI (z := z) hz
  have mg : integer_magnitude ((mkI z).1, ((mkI z).2.1, ())) = some (limbs z.natAbs) := by
    have := magnitude_ok (mkI z).1 () (lim_mkI z) hz
    rwa [lv_mkI] at this
  unfold integer_Cmp
  rw [sg, Option.bind_some, Option.bind_some]
  simp only [integer_Cmp.j2, cite, bne_iff_ne]
  rw [if_neg (by simp), mg, Option.bind_some, Option.bind_some, compare_ok hz, Option.bind_some, cm_eq rfl, Int.mul_zero]
  rfl
end Go.Proofs.Ytcjhbjfkcmncpab.V
