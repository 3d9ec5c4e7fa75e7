/- Laws of the reference's divisions. -/
import Derived.Test.YtbchgegclgpdhaaN3
namespace Go.Proofs.Ytbchgegclgpdhaa.V
open Go Go.Proofs.Ytbchgegclgpdhaa.E Go.Proofs.Ytbchgegclgpdhaa.LI
set_option linter.unusedVariables false
set_option linter.unusedSimpArgs false

/-! ## bits of 32 -/
theorem or32_nat (a b : Nat) (ha : a < 4294967296) (hb : b < 4294967296) : orI .u32 (a : Int) (b : Int) = ((a ||| b : Nat) : Int) := by
  have h0 : orI .u32 (a : Int) (b : Int) = IntKind.wrap .u32 (((BitVec.ofInt 32 (a : Int) ||| BitVec.ofInt 32 (b : Int)).toNat : Nat) : Int) := rfl
  rw [h0, wu32, BitVec.ofInt_natCast, BitVec.ofInt_natCast, BitVec.toNat_or, BitVec.toNat_ofNat, BitVec.toNat_ofNat, Nat.mod_eq_of_lt ha, Nat.mod_eq_of_lt hb]
  have : a ||| b < 2 ^ 32 := Nat.or_lt_two_pow ha hb
  omega
theorem and32_one (a : Nat) (ha : a < 4294967296) : andI .u32 (a : Int) 1 = ((a % 2 : Nat) : Int) := by
  have h0 : andI .u32 (a : Int) 1 = IntKind.wrap .u32 (((BitVec.ofInt 32 (a : Int) &&& BitVec.ofInt 32 ((1 : Nat) : Int)).toNat : Nat) : Int) := rfl
  rw [h0, wu32, BitVec.ofInt_natCast, BitVec.ofInt_natCast, BitVec.toNat_and, BitVec.toNat_ofNat, BitVec.toNat_ofNat, Nat.mod_eq_of_lt ha, Nat.mod_eq_of_lt (by decide), Nat.and_one_is_mod]
  omega
theorem shr32 (a r : Nat) (hr : r ≤ 32) : shrI .u32 (a : Int) (r : Int) = ((a / 2 ^ r : Nat) : Int) := by
  unfold shrI
  rw [show min (r : Int).toNat IntKind.u32.bits = r by rw [Int.toNat_natCast]; exact Nat.min_eq_left hr]
  have : (2 : Int) ^ r = ((2 ^ r : Nat) : Int) := by push_cast; rfl
  rw [this, Int.fdiv_eq_ediv_of_nonneg _ (Int.natCast_nonneg _)]
  rfl
theorem shl32 (a r : Nat) (hr : r ≤ 32) : shlI .u32 (a : Int) (r : Int) = ((a * 2 ^ r % 4294967296 : Nat) : Int) := by
  unfold shlI
  rw [wu32, show min (r : Int).toNat IntKind.u32.bits = r by rw [Int.toNat_natCast]; exact Nat.min_eq_left hr]
  have : (a : Int) * 2 ^ r = ((a * 2 ^ r : Nat) : Int) := by push_cast; rfl
  rw [this]
  omega
theorem shr_bit (x : Nat) (r : Nat) (hx : x < 4294967296) (hr : r < 32) : andI .u32 (shrI .u32 (x : Int) (r : Int)) 1 = ((x / 2 ^ r % 2 : Nat) : Int) := by
  rw [shr32 _ _ (by omega), and32_one _ (Nat.lt_of_le_of_lt (Nat.div_le_self _ _) hx)]
theorem or_bit (x : Nat) (r : Nat) (hx : x < 4294967296) (hr : r < 32) (h0 : x % 2 ^ (r + 1) = 0) : orI .u32 (x : Int) (shlI .u32 1 (r : Int)) = ((x + 2 ^ r : Nat) : Int) := by
  have hp : 2 ^ r < 2 ^ (r + 1) := Nat.pow_lt_pow_right (by omega) (by omega)
  have hp2 : 2 ^ (r + 1) ≤ 2 ^ 32 := Nat.pow_le_pow_right (by omega) (by omega)
  have h1 := shl32 1 r (by omega)
  rw [show ((1 : Nat) : Int) = 1 from rfl, Nat.one_mul, Nat.mod_eq_of_lt (by omega)] at h1
  rw [h1]
  obtain ⟨q, hq⟩ := Nat.dvd_of_mod_eq_zero h0
  rw [or32_nat _ _ hx (by omega), hq, ← Nat.two_pow_add_eq_or_of_lt hp q]

/-! ## the lowest 64 bits -/
theorem low_step {l : List Int} (hl : Lim l) {u i : Nat} (hi : i < l.length) (h2 : i < 2) (hu : u < 4294967296 ^ i) :
    quadformref01_low.s0 l (u : Int) (i : Int) = some (.inl (l, ((u + 4294967296 ^ i * dg l i : Nat) : Int), ((i + 1 : Nat) : Int), ())) := by
  have hd := dg_lt hl i
  simp only [quadformref01_low.s0, quadformref01_low.j1, cite, decide_eq_true_eq, inB_t]
  rw [Int.toNat_natCast, gd hl, if_pos (by omega), if_pos (by omega), if_pos (by omega), wi64 (x := 32 * (i : Int)) (by omega) (by omega), if_neg (by omega), up (by omega), wu64' (by omega) (by omega)]
  have e : orI .u64 (u : Int) (shlI .u64 ((dg l i : Nat) : Int) (32 * (i : Int))) = ((u + 4294967296 ^ i * dg l i : Nat) : Int) := by
    have h3 : i = 0 ∨ i = 1 := by omega
    rcases h3 with rfl | rfl
    · have hu0 : u = 0 := by simpa using hu
      subst hu0
      have := @shl_nat (dg l 0) 0 (by omega) (by omega)
      rw [show ((0 : Nat) : Int) = 0 from rfl] at this
      rw [show (32 : Int) * ((0 : Nat) : Int) = 0 from rfl, this, orI_nat _ _ (by omega) (by omega)]
      simp
    · have hu1 : u < 4294967296 := by simpa using hu
      have := @shl_nat (dg l 1) 32 (by omega) (by omega)
      rw [show ((32 : Nat) : Int) = 32 from rfl] at this
      rw [show (32 : Int) * ((1 : Nat) : Int) = 32 from rfl, this, orI_nat _ _ (by omega) (by omega), Nat.or_comm, ← Nat.two_pow_add_eq_or_of_lt (by omega) (dg l 1)]
      omega
  rw [e]
theorem low_ok {l : List Int} (hl : Lim l) : quadformref01_low l = some ((lv (l.take 2) : Nat) : Int) := by
  have stop : ∀ (u : Nat) (i : Nat), ¬ (i < l.length ∧ i < 2) → iterL (fun x : List Int × Int × Int × Unit => quadformref01_low.s0 x.1 x.2.1 x.2.2.1) (l, (u : Int), (i : Int), ()) = some ((u : Int), ()) := by
    intro u i h
    refine iterL_done ?_
    simp only [quadformref01_low.s0, cite, decide_eq_true_eq]
    by_cases h1 : i < l.length
    · rw [if_pos (by omega), if_neg (by omega)]
    · rw [if_neg (by omega)]
  have key : iterL (fun x : List Int × Int × Int × Unit => quadformref01_low.s0 x.1 x.2.1 x.2.2.1) (l, ((0 : Nat) : Int), ((0 : Nat) : Int), ()) = some (((lv (l.take 2) : Nat) : Int), ()) := by
    have h1 : lv (l.take 1) = dg l 0 := by have := lv_take_succ l 0; simpa [lv] using this
    have h2 : lv (l.take 2) = lv (l.take 1) + 4294967296 * dg l 1 := by have := lv_take_succ l 1; simpa using this
    by_cases hl0 : 0 < l.length
    · refine (iterL_next (low_step hl (u := 0) (i := 0) hl0 (by omega) (by omega))).trans ?_
      have hd := dg_lt hl 0
      by_cases hl1 : 1 < l.length
      · refine (iterL_next (low_step hl (i := 1) hl1 (by omega) (by simp; omega))).trans ?_
        have e : 0 + 4294967296 ^ 0 * dg l 0 + 4294967296 ^ 1 * dg l 1 = lv (l.take 2) := by rw [h2, h1]; simp
        rw [e]
        exact stop _ 2 (by omega)
      · have e : 0 + 4294967296 ^ 0 * dg l 0 = lv (l.take 2) := by
          rw [dg_out (i := 1) (by omega)] at h2
          rw [h2, h1]
          simp
        rw [e]
        exact stop _ 1 (by omega)
    · have e : 0 = lv (l.take 2) := by
        rw [dg_out (i := 1) (by omega)] at h2
        rw [dg_out (i := 0) (by omega)] at h1
        omega
      have := stop (lv (l.take 2)) 0 (by omega)
      rw [← e] at this ⊢
      exact this
  unfold quadformref01_low
  rw [show ((0 : Nat) : Int) = 0 from rfl] at key
  rw [key]; rfl

/-! ## twice a magnitude, plus a bit -/
theorem double_loop {m : List Int} (hm : Lim m) (hb : m.length < 1073741824) (b0 : Nat) : ∀ (t i : Nat) (out : List Int) (b : Nat), m.length - i = t → i ≤ m.length → out.length = i → Lim out → b ≤ 1 →
    lv out + 4294967296 ^ i * b = 2 * lv (m.take i) + b0 → ∃ b' o', b' ≤ 1 ∧ Lim o' ∧ lv o' + 4294967296 ^ m.length * b' = 2 * lv m + b0 ∧ o'.length = m.length ∧
      iterL (fun x : Int × List Int × Int × Int × List Int × Unit => quadformref01_double.s0 x.1 x.2.1 x.2.2.1 x.2.2.2.1 x.2.2.2.2.1) ((b : Int), m, (m.length : Int), (i : Int), out, ()) = some ((b' : Int), o', ()) := by
  intro t
  induction t with
  | zero =>
    intro i out b ht hi hl ho hc he
    obtain rfl : i = m.length := by omega
    refine ⟨b, out, hc, ho, ?_, hl, iterL_done ?_⟩
    · rw [he, List.take_of_length_le (by omega)]
    · simp only [quadformref01_double.s0, cite, decide_eq_true_eq]
      rw [if_neg (by omega)]
  | succ t ih =>
    intro i out b ht hi hl ho hc he
    have hd := dg_lt hm i
    have h1 := lv_take_succ m i
    obtain ⟨b', o', hr0, hr1, hr2, hr3, hr4⟩ := ih (i + 1) (out ++ [((dg m i * 2 % 4294967296 + b : Nat) : Int)]) (dg m i / 2147483648) (by omega) (by omega) (by simp [hl]) (lim_snoc ho (by omega)) (by omega) (by
      rw [lv_snoc, hl, h1, Nat.pow_succ, Nat.mul_assoc]
      have h3 : 4294967296 ^ i * (dg m i * 2 % 4294967296 + b + 4294967296 * (dg m i / 2147483648)) = 4294967296 ^ i * (dg m i * 2 + b) := by
        congr 1
        omega
      rw [Nat.mul_add, Nat.mul_add, Nat.mul_add, ← Nat.mul_assoc _ (dg m i) 2] at h3
      rw [Nat.mul_add]
      omega)
    refine ⟨b', o', hr0, hr1, hr2, hr3, (iterL_next ?_).trans hr4⟩
    simp only [quadformref01_double.s0, quadformref01_double.j1, cite, decide_eq_true_eq, inB_t, maxL_eq]
    have s1 := shl32 (dg m i) 1 (by omega)
    have s2 := shr32 (dg m i) 31 (by omega)
    rw [show ((1 : Nat) : Int) = 1 from rfl, show (2 : Nat) ^ 1 = 2 from rfl] at s1
    rw [show ((31 : Nat) : Int) = 31 from rfl, show (2 : Nat) ^ 31 = 2147483648 from rfl] at s2
    have e : orI .u32 ((dg m i * 2 % 4294967296 : Nat) : Int) (b : Int) = ((dg m i * 2 % 4294967296 + b : Nat) : Int) := by
      rw [or32_nat _ _ (by omega) (by omega)]
      have h5 : dg m i * 2 % 4294967296 = 2 ^ 1 * (dg m i % 2147483648) := by omega
      rw [h5, ← Nat.two_pow_add_eq_or_of_lt (by omega)]
    rw [Int.toNat_natCast, gd hm, s1, s2, e, if_pos (by omega), if_pos (by omega), if_pos (by simp [hl]; omega), up (by omega)]
theorem double_ok {m : List Int} (hm : Lim m) (hb : m.length < 1073741824) {b : Nat} (h : b ≤ 1) : ∃ r, Lim r ∧ lv r = 2 * lv m + b ∧ r.length = m.length + 1 ∧ quadformref01_double m (b : Int) = some r := by
  obtain ⟨b', o', h0, h1, h2, h3, h4⟩ := double_loop hm hb b _ 0 [] b rfl (by omega) rfl Lim.nil h (by simp [lv])
  refine ⟨o' ++ [(b' : Int)], lim_snoc h1 (by omega), by rw [lv_snoc, h3, h2], by simp [h3], ?_⟩
  unfold quadformref01_double
  rw [show ((0 : Nat) : Int) = 0 from rfl] at h4
  rw [h4, Option.bind_some]
  simp only [quadformref01_double.k0, cite, decide_eq_true_eq, maxL_eq]
  rw [if_pos (by simp [h3]; omega)]

/-! ## division, bit by bit -/
theorem pow32 (j : Nat) : 4294967296 ^ j = 2 ^ (32 * j) := by rw [Nat.pow_mul]
/-- A bit of a digit is a bit of the number. -/
theorem dg_bit {l : List Int} (h : Lim l) (j r : Nat) (hr : r < 32) : dg l j / 2 ^ r % 2 = lv l / 2 ^ (32 * j + r) % 2 := by
  rw [dg_lv h, pow32, Nat.pow_add, ← Nat.div_div_eq_div_mul]
  generalize lv l / 2 ^ (32 * j) = x
  obtain ⟨c, hc⟩ : ∃ c, 32 = r + (c + 1) := ⟨31 - r, by omega⟩
  have e : (4294967296 : Nat) = 2 ^ r * (2 ^ c * 2) := by rw [← Nat.pow_succ, ← Nat.pow_add, ← hc]
  rw [e, Nat.mod_mul_right_div_self, Nat.mul_comm (2 ^ c) 2, Nat.mod_mul_right_mod]
theorem dg_low {l : List Int} (h : Lim l) (j r : Nat) (hr : r < 32) (hd : 2 ^ (32 * j + r + 1) ∣ lv l) : dg l j % 2 ^ (r + 1) = 0 := by
  rw [dg_lv h, pow32]
  obtain ⟨q, hq⟩ := hd
  rw [hq, Nat.add_assoc, Nat.pow_add, Nat.mul_assoc, Nat.mul_div_cancel_left _ (Nat.two_pow_pos _)]
  have e : (4294967296 : Nat) = 2 ^ (r + 1) * 2 ^ (31 - r) := by rw [← Nat.pow_add, show r + 1 + (31 - r) = 32 from by omega]
  rw [e, Nat.mod_mul_right_mod, Nat.mul_mod_right]
theorem step_div (a b N : Nat) (hN : 0 < N) (hb : b ≤ 1) : (2 * (a % N) + b ≥ N → (2 * a + b) / N = 2 * (a / N) + 1 ∧ (2 * a + b) % N = 2 * (a % N) + b - N) ∧ (2 * (a % N) + b < N → (2 * a + b) / N = 2 * (a / N) ∧ (2 * a + b) % N = 2 * (a % N) + b) := by
  have h1 := Nat.div_add_mod a N
  have h2 := Nat.mod_lt a hN
  constructor
  · intro h
    have e : 2 * a + b = (2 * (a % N) + b - N) + N * (2 * (a / N) + 1) := by
      rw [Nat.mul_add, Nat.mul_left_comm]
      omega
    rw [e, Nat.add_mul_div_left _ _ hN, Nat.add_mul_mod_self_left, Nat.div_eq_of_lt (by omega), Nat.mod_eq_of_lt (by omega)]
    omega
  · intro h
    have e : 2 * a + b = (2 * (a % N) + b) + N * (2 * (a / N)) := by
      rw [Nat.mul_left_comm]
      omega
    rw [e, Nat.add_mul_div_left _ _ hN, Nat.add_mul_mod_self_left, Nat.div_eq_of_lt (by omega), Nat.mod_eq_of_lt (by omega)]
    omega
theorem half_bit (M i : Nat) : M / 2 ^ i = 2 * (M / 2 ^ (i + 1)) + M / 2 ^ i % 2 := by
  rw [Nat.pow_succ, ← Nat.div_div_eq_div_mul]
  omega


theorem divide_loop {m : List Int} (hm : Lim m) (hb : m.length < 33554432) {N : Nat} (hN : 0 < N) (hNl : (limbs N).length < 1073741823) : ∀ (i : Nat) (q : List Int), i ≤ 32 * m.length → Lim q → q.length = m.length → lv q = lv m / 2 ^ i / N * 2 ^ i →
    ∃ q', Lim q' ∧ q'.length = m.length ∧ lv q' = lv m / N ∧ iterL (fun x : List Int × List Int × List Int × Int × List Int × Unit => quadformref01_divide.s0 x.1 x.2.1 x.2.2.1 x.2.2.2.1 x.2.2.2.2.1) (m, limbs N, limbs (lv m / 2 ^ i % N), (i : Int) - 1, q, ()) = some (limbs (lv m % N), q', ()) := by
  intro i
  induction i with
  | zero =>
    intro q _ hq hl he
    rw [Nat.pow_zero, Nat.div_one, Nat.mul_one] at he
    refine ⟨q, hq, hl, he, iterL_done ?_⟩
    simp only [quadformref01_divide.s0, cite, decide_eq_true_eq]
    rw [if_neg (by omega), Nat.pow_zero, Nat.div_one]
  | succ i ih =>
    intro q hi hq hl he
    have hj : i / 32 < m.length := by omega
    have hij : 32 * (i / 32) + i % 32 = i := by omega
    have hdm := dg_lt hm (i / 32)
    have hdq := dg_lt hq (i / 32)
    have hbit := dg_bit hm (i / 32) (i % 32) (by omega)
    rw [hij] at hbit
    have hh := half_bit (lv m) i
    have hlt := Nat.mod_lt (lv m / 2 ^ (i + 1)) hN
    have hlen := len_le (Nat.le_of_lt hlt)
    obtain ⟨s1, s2⟩ := step_div (lv m / 2 ^ (i + 1)) (lv m / 2 ^ i % 2) N hN (by omega)
    rw [← hh] at s1 s2
    obtain ⟨r, hr1, hr2, hr3, hr4⟩ := double_ok (lim_limbs (lv m / 2 ^ (i + 1) % N)) (by omega) (b := lv m / 2 ^ i % 2) (by omega)
    rw [lv_limbs] at hr2
    have htr := rtrim_ok hr1 (by omega)
    have hrl := len_lv hr1
    have hcm := rcmp_ok (a := lv r) (b := N) (by omega)
    have hz : dg q (i / 32) % 2 ^ (i % 32 + 1) = 0 := dg_low hq _ _ (by omega) (by rw [hij, he]; exact Nat.dvd_mul_left _ _)
    have e1 : IntKind.wrap .i64 (Int.tdiv (((i + 1 : Nat) : Int) - 1) 32) = ((i / 32 : Nat) : Int) := by
      rw [show ((i + 1 : Nat) : Int) - 1 = (i : Int) from by omega, show Int.tdiv (i : Int) 32 = ((i / 32 : Nat) : Int) from (Int.ofNat_tdiv i 32).symm]
      exact wi64 (by omega) (by omega)
    have e2 : Int.tmod (((i + 1 : Nat) : Int) - 1) 32 = ((i % 32 : Nat) : Int) := by
      rw [show ((i + 1 : Nat) : Int) - 1 = (i : Int) from by omega]
      exact (Int.ofNat_tmod i 32).symm
    have e3 : IntKind.wrap .i64 (((i + 1 : Nat) : Int) - 1 - 1) = (i : Int) - 1 := by
      rw [wi64 (by omega) (by omega)]
      omega
    have hst : quadformref01_divide.s0 m (limbs N) (limbs (lv m / 2 ^ (i + 1) % N)) (((i + 1 : Nat) : Int) - 1) q = (if cm (lv r) N ≥ 0 then (quadformref01_difference (limbs (lv r)) (limbs N)).bind fun y13 => (quadformref01_trim y13).bind fun y14 => some (.inl (m, limbs N, y14, (i : Int) - 1, q.set (i / 32) ((dg q (i / 32) + 2 ^ (i % 32) : Nat) : Int), ())) else some (.inl (m, limbs N, limbs (lv r), (i : Int) - 1, q, ()))) := by
      simp only [quadformref01_divide.s0, quadformref01_divide.j2, quadformref01_divide.j3, cite, decide_eq_true_eq, inB_t]
      rw [if_pos (by omega), e1, e2, e3, if_pos (by omega), if_neg (by omega), Int.toNat_natCast, gd hm, shr_bit _ _ hdm (by omega), hbit, hr4, Option.bind_some, htr, Option.bind_some, hcm, Option.bind_some]
      congr 1
      congr 1
      funext y13
      congr 1
      funext y14
      rw [if_pos (by omega), if_neg (by omega), if_pos (by omega), Nat.zero_add, gd hq, or_bit _ _ hdq (by omega) hz]
    by_cases hge : N ≤ lv r
    · obtain ⟨d, hd1, hd2, hd3, hd4⟩ := diff_ok (lim_limbs (lv r)) (lim_limbs N) (by omega) (len_le hge) (by rw [lv_limbs, lv_limbs]; exact hge)
      rw [lv_limbs, lv_limbs] at hd2
      obtain ⟨s3, s4⟩ := s1 (by omega)
      have htd := rtrim_ok hd1 (by omega)
      rw [show lv d = lv m / 2 ^ i % N from by omega] at htd
      obtain ⟨q', g1, g2, g3, g4⟩ := ih (q.set (i / 32) ((dg q (i / 32) + 2 ^ (i % 32) : Nat) : Int)) (by omega) (hq.set _ (by
          obtain ⟨c, hc⟩ := Nat.dvd_of_mod_eq_zero hz
          have hp2 : (4294967296 : Nat) = 2 ^ (i % 32 + 1) * 2 ^ (31 - i % 32) := by rw [← Nat.pow_add, show i % 32 + 1 + (31 - i % 32) = 32 from by omega]
          have hc1 : c + 1 ≤ 2 ^ (31 - i % 32) := by
            apply Classical.byContradiction
            intro hcc
            have := Nat.mul_le_mul_left (2 ^ (i % 32 + 1)) (show 2 ^ (31 - i % 32) ≤ c by omega)
            omega
          have h5 := Nat.mul_le_mul_left (2 ^ (i % 32 + 1)) hc1
          have h6 : 2 ^ (i % 32) < 2 ^ (i % 32 + 1) := Nat.pow_lt_pow_right (by omega) (by omega)
          rw [Nat.mul_add] at h5
          omega)) (by rw [List.length_set, hl]) (by
          rw [lv_set (by omega), he, s3, pow32, ← Nat.pow_add, hij, Nat.pow_succ]
          generalize 2 ^ i = P
          generalize lv m / (P * 2) / N = z
          rw [Nat.add_mul, Nat.mul_comm 2 z, Nat.mul_assoc, Nat.mul_comm 2 P]
          omega)
      refine ⟨q', g1, g2, g3, (iterL_next ?_).trans g4⟩
      simp only []
      rw [hst, if_pos (by unfold cm; split <;> (try split) <;> omega), hd4, Option.bind_some, htd, Option.bind_some]
    · obtain ⟨s3, s4⟩ := s2 (by omega)
      obtain ⟨q', g1, g2, g3, g4⟩ := ih q (by omega) hq hl (by
          rw [he, s3, Nat.pow_succ]
          generalize 2 ^ i = P
          generalize lv m / (P * 2) / N = z
          rw [Nat.mul_comm 2 z, Nat.mul_assoc, Nat.mul_comm 2 P])
      refine ⟨q', g1, g2, g3, (iterL_next ?_).trans g4⟩
      simp only []
      rw [hst, if_neg (by rw [cm_lt (by omega)]; decide), show lv r = lv m / 2 ^ i % N from by omega]
theorem rdivide_ok {M N : Nat} (hM : (limbs M).length < 33554432) (hN : (limbs N).length < 1073741823) (h0 : 0 < N) : quadformref01_divide (limbs M) (limbs N) = some (limbs (M / N), limbs (M % N), ()) := by
  have long : ((iterL (fun x : List Int × List Int × List Int × Int × List Int × Unit => quadformref01_divide.s0 x.1 x.2.1 x.2.2.1 x.2.2.2.1 x.2.2.2.2.1) (limbs M, limbs N, ([] : List Int), (IntKind.wrap .i64 ((IntKind.wrap .i64 ((32 : Int) * ((List.length (limbs M) : Nat) : Int))) - (1 : Int))), (List.replicate ((((List.length (limbs M) : Nat) : Int)).toNat) ((0 : Int) : Int)), ())).bind fun y => quadformref01_divide.k0 y.1 y.2.1) = some (limbs (M / N), limbs (M % N), ()) := by
    have hz : M / 2 ^ (32 * (limbs M).length) = 0 := Nat.div_eq_of_lt (by rw [← pow32]; exact limbs_len.1 (Nat.le_refl _))
    have hlp := divide_loop (lim_limbs M) hM h0 hN (32 * (limbs M).length) (List.replicate (limbs M).length 0) (Nat.le_refl _) (Lim.replicate _) (by simp) (by rw [lv_limbs, hz, lv_zeros, Nat.zero_div, Nat.zero_mul])
    rw [lv_limbs, hz, Nat.zero_mod, limbs_zero] at hlp
    obtain ⟨q', g1, g2, g3, g4⟩ := hlp
    rw [wi64 (x := 32 * ((limbs M).length : Int)) (by omega) (by omega), wi64 (by omega) (by omega), Int.toNat_natCast]
    rw [show ((32 * (limbs M).length : Nat) : Int) - 1 = 32 * ((limbs M).length : Int) - 1 by omega] at g4
    rw [g4, Option.bind_some]
    simp only [quadformref01_divide.k0]
    rw [rtrim_ok g1 (by omega), Option.bind_some, g3]
  unfold quadformref01_divide
  simp only [quadformref01_divide.j1, cite, decide_eq_true_eq, inC_t, maxL_eq]
  by_cases h1 : (limbs M).length ≤ 2
  · rw [if_pos (by omega)]
    by_cases h2 : (limbs N).length ≤ 2
    · have hM2 := limbs_len.1 h1
      have hN2 := limbs_len.1 h2
      have l1 := low_ok (lim_limbs M)
      have l2 := low_ok (lim_limbs N)
      rw [List.take_of_length_le h1, lv_limbs] at l1
      rw [List.take_of_length_le h2, lv_limbs] at l2
      have hq : M / N < 18446744073709551616 := Nat.lt_of_le_of_lt (Nat.div_le_self _ _) (by omega)
      have hr : M % N < 18446744073709551616 := Nat.lt_of_le_of_lt (Nat.mod_le _ _) (by omega)
      rw [if_pos (by omega), l1, Option.bind_some, l2, Option.bind_some, if_neg (by omega), show Int.tdiv (M : Int) (N : Int) = ((M / N : Nat) : Int) from (Int.ofNat_tdiv M N).symm, show Int.tmod (M : Int) (N : Int) = ((M % N : Nat) : Int) from (Int.ofNat_tmod M N).symm]
      generalize M / N = y at hq ⊢
      generalize M % N = z at hr ⊢
      rw [wu64' (by omega) (by omega), word_ok false hq, Option.bind_some, if_neg (by omega), word_ok false hr, Option.bind_some]
      simp [mkI]
    · rw [if_neg (by omega), if_pos (by omega)]
      exact long
  · rw [if_neg (by omega), if_pos (by omega)]
    exact long

/-! ## quotient and remainder -/
theorem ediv_of {a b Q R : Int} (h : R + b * Q = a) (h0 : 0 ≤ R) (h1 : R < b.natAbs) (hb : b ≠ 0) : a / b = Q ∧ a % b = R := by
  have e : a % b = R := by
    rw [← h, Int.add_mul_emod_self_left]
    by_cases hp : 0 < b
    · exact Int.emod_eq_of_lt h0 (by omega)
    · rw [← Int.emod_neg]
      exact Int.emod_eq_of_lt h0 (by omega)
  refine ⟨?_, e⟩
  have h2 := Int.mul_ediv_add_emod a b
  rw [e] at h2
  exact Int.eq_of_mul_eq_mul_left hb (by omega)

end Go.Proofs.Ytbchgegclgpdhaa.V
