/- Laws of the reference's divisions. -/
import Derived.Test.YtgbndganadelpaaGreatDoorYLocalmassStandard12
namespace Go.Proofs.YtgbndganadelpaaGreatDoor.V
open Go Go.Proofs.YtgbndganadelpaaGreatDoor.E Go.Proofs.YtgbndganadelpaaGreatDoor.LI
set_option linter.unusedVariables false
set_option linter.unusedSimpArgs false
theorem or32_nat (a b : Nat) (ha : a < 4294967296) (hb : b < 4294967296) : orI .u32 (a : Int) (b : Int) = ((a ||| b : Nat) : Int) := by
  have h0 : orI .u32 (a : Int) (b : Int) = IntKind.wrap .u32 (((BitVec.ofInt 32 (a : Int) ||| BitVec.ofInt 32 (b : Int)).toNat : Nat) : Int) := rfl
  rw [h0, wu32, BitVec.ofInt_natCast, BitVec.ofInt_natCast, BitVec.toNat_or, BitVec.toNat_ofNat, BitVec.toNat_ofNat, Nat.mod_eq_of_lt ha, Nat.mod_eq_of_lt hb]
  have : a ||| b < 2 ^ 32 := Nat.or_lt_two_pow ha hb
  omega
theorem and32_one (a : Nat) (ha : a < 4294967296) : andI .u32 (a : Int) 1 = ((a % 2 : Nat) : Int) := by
  have h0 : andI .u32 (a : Int) 1 = IntKind.wrap .u32 (((BitVec.ofInt 32 (a : Int) &&& BitVec.ofInt 32 ((1 : Nat) : Int)).toNat : Nat) : Int) := rfl
  rw [h0, wu32, BitVec.ofInt_natCast, BitVec.ofInt_natCast, BitVec.toNat_and, BitVec.toNat_ofNat, BitVec.toNat_ofNat, Nat.mod_eq_of_lt ha, Nat.mod_eq_of_lt (by decide), Nat.and_one_is_mod]
  omega
theorem shr32 (a r : Nat) (hr : r ≤ 32) : shrI .u32 (a : Int) (r : Int) = ((a / 2 ^ r : Nat) : Int) := by
  unfold shrI
  rw [show min (r : Int).toNat IntKind.u32.bits = r by rw [Int.toNat_natCast]; exact Nat.min_eq_left hr]
  have : (2 : Int) ^ r = ((2 ^ r : Nat) : Int) := by push_cast; rfl
  rw [this, Int.fdiv_eq_ediv_of_nonneg _ (Int.natCast_nonneg _)]
  rfl
theorem shl32 (a r : Nat) (hr : r ≤ 32) : shlI .u32 (a : Int) (r : Int) = ((a * 2 ^ r % 4294967296 : Nat) : Int) := by
  unfold shlI
  rw [wu32, show min (r : Int).toNat IntKind.u32.bits = r by rw [Int.toNat_natCast]; exact Nat.min_eq_left hr]
  have : (a : Int) * 2 ^ r = ((a * 2 ^ r : Nat) : Int) := by push_cast; rfl
  rw [this]
  omega
theorem shr_bit (x : Nat) (r : Nat) (hx : x < 4294967296) (hr : r < 32) : andI .u32 (shrI .u32 (x : Int) (r : Int)) 1 = ((x / 2 ^ r % 2 : Nat) : Int) := by
  rw [shr32 _ _ (by omega), and32_one _ (Nat.lt_of_le_of_lt (Nat.div_le_self _ _) hx)]
theorem or_bit (x : Nat) (r : Nat) (hx : x < 4294967296) (hr : r < 32) (h0 : x % 2 ^ (r + 1) = 0) : orI .u32 (x : Int) (shlI .u32 1 (r : Int)) = ((x + 2 ^ r : Nat) : Int) := by
  have hp : 2 ^ r < 2 ^ (r + 1) := Nat.pow_lt_pow_right (by omega) (by omega)
  have hp2 : 2 ^ (r + 1) ≤ 2 ^ 32 := Nat.pow_le_pow_right (by omega) (by omega)
  have h1 := shl32 1 r (by omega)
  rw [show ((1 : Nat) : Int) = 1 from rfl, Nat.one_mul, Nat.mod_eq_of_lt (by omega)] at h1
  rw [h1]
  obtain ⟨q, hq⟩ := Nat.dvd_of_mod_eq_zero h0
  rw [or32_nat _ _ hx (by omega), hq, ← Nat.two_pow_add_eq_or_of_lt hp q]
theorem low_step {l : List Int} (hl : Lim l) {u i : Nat} (hi : i < l.length) (h2 : i < 2) (hu : u < 4294967296 ^ i) :
    r01_low.s0 l (u : Int) (i : Int) = some (.inl (l, ((u + 4294967296 ^ i * dg l i : Nat) : Int), ((i + 1 : Nat) : Int), ())) := by
  have hd := dg_lt hl i
  simp only [r01_low.s0, r01_low.j1, cite, decide_eq_true_eq, inB_t]
  rw [Int.toNat_natCast, gd hl, if_pos (by omega), if_pos (by omega), if_pos (by omega), wi64 (x := 32 * (i : Int)) (by omega) (by omega), if_neg (by omega), up (by omega), wu64' (by omega) (by omega)]
  have e : orI .u64 (u : Int) (shlI .u64 ((dg l i : Nat) : Int) (32 * (i : Int))) = ((u + 4294967296 ^ i * dg l i : Nat) : Int) := by
    have h3 : i = 0 ∨ i = 1 := by omega
    rcases h3 with rfl | rfl
    · have hu0 : u = 0 := by simpa using hu
      subst hu0
      have := @shl_nat (dg l 0) 0 (by omega) (by omega)
      rw [show ((0 : Nat) : Int) = 0 from rfl] at this
      rw [show (32 : Int) * ((0 : Nat) : Int) = 0 from rfl, this, orI_nat _ _ (by omega) (by omega)]
      simp
    · have hu1 : u < 4294967296 := by simpa using hu
      have := @shl_nat (dg l 1) 32 (by omega) (by omega)
      rw [show ((32 : Nat) : Int) = 32 from rfl] at this
      rw [show (32 : Int) * ((1 : Nat) : Int) = 32 from rfl, this, orI_nat _ _ (by omega) (by omega), Nat.or_comm, ← Nat.two_pow_add_eq_or_of_lt (by omega) (dg l 1)]
      omega
  rw [e]
theorem low_ok {l : List Int} (hl : Lim l) : r01_low l = some ((lv (l.take 2) : Nat) : Int) := by
  have stop : ∀ (u : Nat) (i : Nat), ¬ (i < l.length ∧ i < 2) → iterL (fun x : List Int × Int × Int × Unit => r01_low.s0 x.1 x.2.1 x.2.2.1) (l, (u : Int), (i : Int), ()) = some ((u : Int), ()) := by
    intro u i h
    refine iterL_done ?_
    simp only [r01_low.s0, cite, decide_eq_true_eq]
    by_cases h1 : i < l.length
    · rw [if_pos (by omega), if_neg (by omega)]
    · rw [if_neg (by omega)]
  have key : iterL (fun x : List Int × Int × Int × Unit => r01_low.s0 x.1 x.2.1 x.2.2.1) (l, ((0 : Nat) : Int), ((0 : Nat) : Int), ()) = some (((lv (l.take 2) : Nat) : Int), ()) := by
    have h1 : lv (l.take 1) = dg l 0 := by have := lv_take_succ l 0; simpa [lv] using this
    have h2 : lv (l.take 2) = lv (l.take 1) + 4294967296 * dg l 1 := by have := lv_take_succ l 1; simpa using this
    by_cases hl0 : 0 < l.length
    · refine (iterL_next (low_step hl (u := 0) (i := 0) hl0 (by omega) (by omega))).trans ?_
      have hd := dg_lt hl 0
      by_cases hl1 : 1 < l.length
      · refine (iterL_next (low_step hl (i := 1) hl1 (by omega) (by simp; omega))).trans ?_
        have e : 0 + 4294967296 ^ 0 * dg l 0 + 4294967296 ^ 1 * dg l 1 = lv (l.take 2) := by rw [h2, h1]; simp
        rw [e]
        exact stop _ 2 (by omega)
      · have e : 0 + 4294967296 ^ 0 * dg l 0 = lv (l.take 2) := by
          rw [dg_out (i := 1) (by omega)] at h2
          rw [h2, h1]
          simp
        rw [e]
        exact stop _ 1 (by omega)
    · have e : 0 = lv (l.take 2) := by
        rw [dg_out (i := 1) (by omega)] at h2
        rw [dg_out (i := 0) (by omega)] at h1
        omega
      have := stop (lv (l.take 2)) 0 (by omega)
      rw [← e] at this ⊢
      exact this
  unfold r01_low
  rw [show ((0 : Nat) : Int) = 0 from rfl] at key
  rw [key]; rfl
theorem double_loop {m : List Int} (hm : Lim m) (hb : m.length < 1073741824) (b0 : Nat) : ∀ (t i : Nat) (out : List Int) (b : Nat), m.length - i = t → i ≤ m.length → out.length = i → Lim out → b ≤ 1 →
    lv out + 4294967296 ^ i * b = 2 * lv (m.take i) + b0 → ∃ b' o', b' ≤ 1 ∧ Lim o' ∧ lv o' + 4294967296 ^ m.length * b' = 2 * lv m + b0 ∧ o'.length = m.length ∧
      iterL (fun x : Int × List Int × Int × Int × List Int × Unit => r01_double.s0 x.1 x.2.1 x.2.2.1 x.2.2.2.1 x.2.2.2.2.1) ((b : Int), m, (m.length : Int), (i : Int), out, ()) = some ((b' : Int), o', ()) := by
  intro t
  induction t with
  | zero =>
    intro i out b ht hi hl ho hc he
    obtain rfl : i = m.length := by omega
    refine ⟨b, out, hc, ho, ?_, hl, iterL_done ?_⟩
    · rw [he, List.take_of_length_le (by omega)]
    · simp only [r01_double.s0, cite, decide_eq_true_eq]
      rw [if_neg (by omega)]
  | succ t ih =>
    intro i out b ht hi hl ho hc he
    have hd := dg_lt hm i
    have h1 := lv_take_succ m i
    obtain ⟨b', o', hr0, hr1, hr2, hr3, hr4⟩ := ih (i + 1) (out ++ [((dg m i * 2 % 4294967296 + b : Nat) : Int)]) (dg m i / 2147483648) (by omega) (by omega) (by simp [hl]) (lim_snoc ho (by omega)) (by omega) (by
      rw [lv_snoc, hl, h1, Nat.pow_succ, Nat.mul_assoc]
      have h3 : 4294967296 ^ i * (dg m i * 2 % 4294967296 + b + 4294967296 * (dg m i / 2147483648)) = 4294967296 ^ i * (dg m i * 2 + b) := by
        congr 1
        omega
      rw [Nat.mul_add, Nat.mul_add, Nat.mul_add, ← Nat.mul_assoc _ (dg m i) 2] at h3
      rw [Nat.mul_add]
      omega)
    refine ⟨b', o', hr0, hr1, hr2, hr3, (iterL_next ?_).trans hr4⟩
    simp only [r01_double.s0, r01_double.j1, cite, decide_eq_true_eq, inB_t, maxL_eq]
    have s1 := shl32 (dg m i) 1 (by omega)
    have s2 := shr32 (dg m i) 31 (by omega)
    rw [show ((1 : Nat) : Int) = 1 from rfl, show (2 : Nat) ^ 1 = 2 from rfl] at s1
    rw [show ((31 : Nat) : Int) = 31 from rfl, show (2 : Nat) ^ 31 = 2147483648 from rfl] at s2
    have e : orI .u32 ((dg m i * 2 % 4294967296 : Nat) : Int) (b : Int) = ((dg m i * 2 % 4294967296 + b : Nat) : Int) := by
      rw [or32_nat _ _ (by omega) (by omega)]
      have h5 : dg m i * 2 % 4294967296 = 2 ^ 1 * (dg m i % 2147483648) := by omega
      rw [h5, ← Nat.two_pow_add_eq_or_of_lt (by omega)]
    rw [Int.toNat_natCast, gd hm, s1, s2, e, if_pos (by omega), if_pos (by omega), if_pos (by simp [hl]; omega), up (by omega)]
theorem double_ok {m : List Int} (hm : Lim m) (hb : m.length < 1073741824) {b : Nat} (h : b ≤ 1) : ∃ r, Lim r ∧ lv r = 2 * lv m + b ∧ r.length = m.length + 1 ∧ r01_double m (b : Int) = some r := by
  obtain ⟨b', o', h0, h1, h2, h3, h4⟩ := double_loop hm hb b _ 0 [] b rfl (by omega) rfl Lim.nil h (by simp [lv])
  refine ⟨o' ++ [(b' : Int)], lim_snoc h1 (by omega), by rw [lv_snoc, h3, h2], by simp [h3], ?_⟩
  unfold r01_double
  rw [show ((0 : Nat) : Int) = 0 from rfl] at h4
  rw [h4, Option.bind_some]
  simp only [r01_double.k0, cite, decide_eq_true_eq, maxL_eq]
  rw [if_pos (by simp [h3]; omega)]
theorem pow32 (j : Nat) : 4294967296 ^ j = 2 ^ (32 * j) := by rw [Nat.pow_mul]
/-- A bit of a digit is a bit of the number. -/
theorem dg_bit {l : List Int} (h : Lim l) (j r : Nat) (hr : r < 32) : dg l j / 2 ^ r % 2 = lv l / 2 ^ (32 * j + r) % 2 := by
  rw [dg_lv h, pow32, Nat.pow_add, ← Nat.div_div_eq_div_mul]
  generalize lv l / 2 ^ (32 * j) = x
  obtain ⟨c, hc⟩ : ∃ c, 32 = r + (c + 1) := ⟨31 - r, by omega⟩
  have e : (4294967296 : Nat) = 2 ^ r * (2 ^ c * 2) := by rw [← Nat.pow_succ, ← Nat.pow_add, ← hc]
  rw [e, Nat.mod_mul_right_div_self, Nat.mul_comm (2 ^ c) 2, Nat.mod_mul_right_mod]
theorem dg_low {l : List Int} (h : Lim l) (j r : Nat) (hr : r < 32) (hd : 2 ^ (32 * j + r + 1) ∣ lv l) : dg l j % 2 ^ (r + 1) = 0 := by
  rw [dg_lv h, pow32]
  obtain ⟨q, hq⟩ := hd
  rw [hq, Nat.add_assoc, Nat.pow_add, Nat.mul_assoc, Nat.mul_div_cancel_left _ (Nat.two_pow_pos _)]
  have e : (4294967296 : Nat) = 2 ^ (r + 1) * 2 ^ (31 - r) := by rw [← Nat.pow_add, show r + 1 + (31 - r) = 32 from by omega]
  rw [e, Nat.mod_mul_right_mod, Nat.mul_mod_right]
theorem step_div (a b N : Nat) (hN : 0 < N) (hb : b ≤ 1) : (2 * (a % N) + b ≥ N → (2 * a + b) / N = 2 * (a / N) + 1 ∧ (2 * a + b) % N = 2 * (a % N) + b - N) ∧ (2 * (a % N) + b < N → (2 * a + b) / N = 2 * (a / N) ∧ (2 * a + b) % N = 2 * (a % N) + b) := by
  have h1 := Nat.div_add_mod a N
  have h2 := Nat.mod_lt a hN
  constructor
  · intro h
    have e : 2 * a + b = (2 * (a % N) + b - N) + N * (2 * (a / N) + 1) := by
      rw [Nat.mul_add, Nat.mul_left_comm]
      omega
    rw [e, Nat.add_mul_div_left _ _ hN, Nat.add_mul_mod_self_left, Nat.div_eq_of_lt (by omega), Nat.mod_eq_of_lt (by omega)]
    omega
  · intro h
    have e : 2 * a + b = (2 * (a % N) + b) + N * (2 * (a / N)) := by
      rw [Nat.mul_left_comm]
      omega
    rw [e, Nat.add_mul_div_left _ _ hN, Nat.add_mul_mod_self_left, Nat.div_eq_of_lt (by omega), Nat.mod_eq_of_lt (by omega)]
    omega
theorem half_bit (M i : Nat) : M / 2 ^ i = 2 * (M / 2 ^ (i + 1)) + M / 2 ^ i % 2 := by
  rw [Nat.pow_succ, ← Nat.div_div_eq_div_mul]
  omega
theorem divide_loop {m : List Int} (hm : Lim m) (hb : m.length < 33554432) {N : Nat} (hN : 0 < N) (hNl : (limbs N).length < 1073741823) : ∀ (i : Nat) (q : List Int), i ≤ 32 * m.length → Lim q → q.length = m.length → lv q = lv m / 2 ^ i / N * 2 ^ i →
    ∃ q', Lim q' ∧ q'.length = m.length ∧ lv q' = lv m / N ∧ iterL (fun x : List Int × List Int × List Int × Int × List Int × Unit => r01_divide.s0 x.1 x.2.1 x.2.2.1 x.2.2.2.1 x.2.2.2.2.1) (m, limbs N, limbs (lv m / 2 ^ i % N), (i : Int) - 1, q, ()) = some (limbs (lv m % N), q', ()) := by
  intro i
  induction i with
  | zero =>
    intro q _ hq hl he
    rw [Nat.pow_zero, Nat.div_one, Nat.mul_one] at he
    refine ⟨q, hq, hl, he, iterL_done ?_⟩
    simp only [r01_divide.s0, cite, decide_eq_true_eq]
    rw [if_neg (by omega), Nat.pow_zero, Nat.div_one]
  | succ i ih =>
    intro q hi hq hl he
    have hj : i / 32 < m.length := by omega
    have hij : 32 * (i / 32) + i % 32 = i := by omega
    have hdm := dg_lt hm (i / 32)
    have hdq := dg_lt hq (i / 32)
    have hbit := dg_bit hm (i / 32) (i % 32) (by omega)
    rw [hij] at hbit
    have hh := half_bit (lv m) i
    have hlt := Nat.mod_lt (lv m / 2 ^ (i + 1)) hN
    have hlen := len_le (Nat.le_of_lt hlt)
    obtain ⟨s1, s2⟩ := step_div (lv m / 2 ^ (i + 1)) (lv m / 2 ^ i % 2) N hN (by omega)
    rw [← hh] at s1 s2
    obtain ⟨r, hr1, hr2, hr3, hr4⟩ := double_ok (lim_limbs (lv m / 2 ^ (i + 1) % N)) (by omega) (b := lv m / 2 ^ i % 2) (by omega)
    rw [lv_limbs] at hr2
    have htr := rtrim_ok hr1 (by omega)
    have hrl := len_lv hr1
    have hcm := rcmp_ok (a := lv r) (b := N) (by omega)
    have hz : dg q (i / 32) % 2 ^ (i % 32 + 1) = 0 := dg_low hq _ _ (by omega) (by rw [hij, he]; exact Nat.dvd_mul_left _ _)
    have e1 : IntKind.wrap .i64 (Int.tdiv (((i + 1 : Nat) : Int) - 1) 32) = ((i / 32 : Nat) : Int) := by
      rw [show ((i + 1 : Nat) : Int) - 1 = (i : Int) from by omega, show Int.tdiv (i : Int) 32 = ((i / 32 : Nat) : Int) from (Int.ofNat_tdiv i 32).symm]
      exact wi64 (by omega) (by omega)
    have e2 : Int.tmod (((i + 1 : Nat) : Int) - 1) 32 = ((i % 32 : Nat) : Int) := by
      rw [show ((i + 1 : Nat) : Int) - 1 = (i : Int) from by omega]
      exact (Int.ofNat_tmod i 32).symm
    have e3 : IntKind.wrap .i64 (((i + 1 : Nat) : Int) - 1 - 1) = (i : Int) - 1 := by
      rw [wi64 (by omega) (by omega)]
      omega
    have hst : r01_divide.s0 m (limbs N) (limbs (lv m / 2 ^ (i + 1) % N)) (((i + 1 : Nat) : Int) - 1) q = (if cm (lv r) N ≥ 0 then (r01_difference (limbs (lv r)) (limbs N)).bind fun y13 => (r01_trim y13).bind fun y14 => some (.inl (m, limbs N, y14, (i : Int) - 1, q.set (i / 32) ((dg q (i / 32) + 2 ^ (i % 32) : Nat) : Int), ())) else some (.inl (m, limbs N, limbs (lv r), (i : Int) - 1, q, ()))) := by
      simp only [r01_divide.s0, r01_divide.j2, r01_divide.j3, cite, decide_eq_true_eq, inB_t]
      rw [if_pos (by omega), e1, e2, e3, if_pos (by omega), if_neg (by omega), Int.toNat_natCast, gd hm, shr_bit _ _ hdm (by omega), hbit, hr4, Option.bind_some, htr, Option.bind_some, hcm, Option.bind_some]
      congr 1
      congr 1
      funext y13
      congr 1
      funext y14
      rw [if_pos (by omega), if_neg (by omega), if_pos (by omega), Nat.zero_add, gd hq, or_bit _ _ hdq (by omega) hz]
    by_cases hge : N ≤ lv r
    · obtain ⟨d, hd1, hd2, hd3, hd4⟩ := diff_ok (lim_limbs (lv r)) (lim_limbs N) (by omega) (len_le hge) (by rw [lv_limbs, lv_limbs]; exact hge)
      rw [lv_limbs, lv_limbs] at hd2
      obtain ⟨s3, s4⟩ := s1 (by omega)
      have htd := rtrim_ok hd1 (by omega)
      rw [show lv d = lv m / 2 ^ i % N from by omega] at htd
      obtain ⟨q', g1, g2, g3, g4⟩ := ih (q.set (i / 32) ((dg q (i / 32) + 2 ^ (i % 32) : Nat) : Int)) (by omega) (hq.set _ (by
          obtain ⟨c, hc⟩ := Nat.dvd_of_mod_eq_zero hz
          have hp2 : (4294967296 : Nat) = 2 ^ (i % 32 + 1) * 2 ^ (31 - i % 32) := by rw [← Nat.pow_add, show i % 32 + 1 + (31 - i % 32) = 32 from by omega]
          have hc1 : c + 1 ≤ 2 ^ (31 - i % 32) := by
            apply Classical.byContradiction
            intro hcc
            have := Nat.mul_le_mul_left (2 ^ (i % 32 + 1)) (show 2 ^ (31 - i % 32) ≤ c by omega)
            omega
          have h5 := Nat.mul_le_mul_left (2 ^ (i % 32 + 1)) hc1
          have h6 : 2 ^ (i % 32) < 2 ^ (i % 32 + 1) := Nat.pow_lt_pow_right (by omega) (by omega)
          rw [Nat.mul_add] at h5
          omega)) (by rw [List.length_set, hl]) (by
          rw [lv_set (by omega), he, s3, pow32, ← Nat.pow_add, hij, Nat.pow_succ]
          generalize 2 ^ i = P
          generalize lv m / (P * 2) / N = z
          rw [Nat.add_mul, Nat.mul_comm 2 z, Nat.mul_assoc, Nat.mul_comm 2 P]
          omega)
      refine ⟨q', g1, g2, g3, (iterL_next ?_).trans g4⟩
      simp only []
      rw [hst, if_pos (by unfold cm; split <;> (try split) <;> omega), hd4, Option.bind_some, htd, Option.bind_some]
    · obtain ⟨s3, s4⟩ := s2 (by omega)
      obtain ⟨q', g1, g2, g3, g4⟩ := ih q (by omega) hq hl (by
          rw [he, s3, Nat.pow_succ]
          generalize 2 ^ i = P
          generalize lv m / (P * 2) / N = z
          rw [Nat.mul_comm 2 z, Nat.mul_assoc, Nat.mul_comm 2 P])
      refine ⟨q', g1, g2, g3, (iterL_next ?_).trans g4⟩
      simp only []
      rw [hst, if_neg (by rw [cm_lt (by omega)]; decide), show lv r = lv m / 2 ^ i % N from by omega]
theorem rdivide_ok {M N : Nat} (hM : (limbs M).length < 33554432) (hN : (limbs N).length < 1073741823) (h0 : 0 < N) : r01_divide (limbs M) (limbs N) = some (limbs (M / N), limbs (M % N), ()) := by
  have long : ((iterL (fun x : List Int × List Int × List Int × Int × List Int × Unit => r01_divide.s0 x.1 x.2.1 x.2.2.1 x.2.2.2.1 x.2.2.2.2.1) (limbs M, limbs N, ([] : List Int), (IntKind.wrap .i64 ((IntKind.wrap .i64 ((32 : Int) * ((List.length (limbs M) : Nat) : Int))) - (1 : Int))), (List.replicate ((((List.length (limbs M) : Nat) : Int)).toNat) ((0 : Int) : Int)), ())).bind fun y => r01_divide.k0 y.1 y.2.1) = some (limbs (M / N), limbs (M % N), ()) := by
    have hz : M / 2 ^ (32 * (limbs M).length) = 0 := Nat.div_eq_of_lt (by rw [← pow32]; exact limbs_len.1 (Nat.le_refl _))
    have hlp := divide_loop (lim_limbs M) hM h0 hN (32 * (limbs M).length) (List.replicate (limbs M).length 0) (Nat.le_refl _) (Lim.replicate _) (by simp) (by rw [lv_limbs, hz, lv_zeros, Nat.zero_div, Nat.zero_mul])
    rw [lv_limbs, hz, Nat.zero_mod, limbs_zero] at hlp
    obtain ⟨q', g1, g2, g3, g4⟩ := hlp
    rw [wi64 (x := 32 * ((limbs M).length : Int)) (by omega) (by omega), wi64 (by omega) (by omega), Int.toNat_natCast]
    rw [show ((32 * (limbs M).length : Nat) : Int) - 1 = 32 * ((limbs M).length : Int) - 1 by omega] at g4
    rw [g4, Option.bind_some]
    simp only [r01_divide.k0]
    rw [rtrim_ok g1 (by omega), Option.bind_some, g3]
  unfold r01_divide
  simp only [r01_divide.j1, cite, decide_eq_true_eq, inC_t, maxL_eq]
  by_cases h1 : (limbs M).length ≤ 2
  · rw [if_pos (by omega)]
    by_cases h2 : (limbs N).length ≤ 2
    · have hM2 := limbs_len.1 h1
      have hN2 := limbs_len.1 h2
      have l1 := low_ok (lim_limbs M)
      have l2 := low_ok (lim_limbs N)
      rw [List.take_of_length_le h1, lv_limbs] at l1
      rw [List.take_of_length_le h2, lv_limbs] at l2
      have hq : M / N < 18446744073709551616 := Nat.lt_of_le_of_lt (Nat.div_le_self _ _) (by omega)
      have hr : M % N < 18446744073709551616 := Nat.lt_of_le_of_lt (Nat.mod_le _ _) (by omega)
      rw [if_pos (by omega), l1, Option.bind_some, l2, Option.bind_some, if_neg (by omega), show Int.tdiv (M : Int) (N : Int) = ((M / N : Nat) : Int) from (Int.ofNat_tdiv M N).symm, show Int.tmod (M : Int) (N : Int) = ((M % N : Nat) : Int) from (Int.ofNat_tmod M N).symm]
      generalize M / N = y at hq ⊢
      generalize M % N = z at hr ⊢
      rw [wu64' (by omega) (by omega), word_ok false hq, Option.bind_some, if_neg (by omega), word_ok false hr, Option.bind_some]
      simp [mkI]
    · rw [if_neg (by omega), if_pos (by omega)]
      exact long
  · rw [if_neg (by omega), if_pos (by omega)]
    exact long
theorem ediv_of {a b Q R : Int} (h : R + b * Q = a) (h0 : 0 ≤ R) (h1 : R < b.natAbs) (hb : b ≠ 0) : a / b = Q ∧ a % b = R := by
  have e : a % b = R := by
    rw [← h, Int.add_mul_emod_self_left]
    by_cases hp : 0 < b
    · exact Int.emod_eq_of_lt h0 (by omega)
    · rw [← Int.emod_neg]
      exact Int.emod_eq_of_lt h0 (by omega)
  refine ⟨?_, e⟩
  have h2 := Int.mul_ediv_add_emod a b
  rw [e] at h2
  exact Int.eq_of_mul_eq_mul_left hb (by omega)
end Go.Proofs.YtgbndganadelpaaGreatDoor.V
/- Laws: quotient and remainder; sums and differences of integer. -/
namespace Go.Proofs.YtgbndganadelpaaGreatDoor.V
open Go Go.Proofs.YtgbndganadelpaaGreatDoor.E Go.Proofs.YtgbndganadelpaaGreatDoor.LI
set_option linter.unusedVariables false
set_option linter.unusedSimpArgs false
theorem len_mkI (z : Int) : (mkI z).2.1.length = (limbs z.natAbs).length := rfl
theorem rdivmod_ok {l l' : List Int} (s s' : Bool) (u u' : Unit) (h : Lim l) (h' : Lim l') (hb : l.length < 33554432) (hb' : l'.length < 33554432) (h0 : iv s' l' ≠ 0) :
    r01_DivMod (s, l, u) (s', l', u') = some (mkI (iv s l / iv s' l'), mkI (iv s l % iv s' l'), true, ()) := by
  have hx := len_lv h
  have hy := len_lv h'
  have hN : 0 < lv l' := by unfold iv at h0; split at h0 <;> omega
  generalize hM' : lv l = M at *
  generalize hN' : lv l' = N at *
  have hqM : M / N ≤ M := Nat.div_le_self _ _
  have hrM : M % N < N := Nat.mod_lt _ hN
  have hdm := Nat.div_add_mod M N
  have hlq := len_le hqM
  have hlr := len_le (Nat.le_of_lt hrM)
  have hdv := rdivide_ok (M := M) (N := N) (by omega) (by omega) hN
  unfold r01_DivMod
  rw [rtrim_ok h (by omega), Option.bind_some, rtrim_ok h' (by omega), Option.bind_some, hM', hN']
  simp only [cite, beq_iff_eq, limbs_len0]
  rw [if_neg (by omega)]
  simp only [r01_DivMod.j1, r01_DivMod.j2, r01_DivMod.j3, cite, decide_eq_true_eq]
  rw [hdv, Option.bind_some]
  generalize M / N = q at *
  generalize M % N = r at *
  have m1 := make_ok (!(s == s')) (lim_limbs q) (by omega)
  have m2 := make_ok s (lim_limbs r) (by omega)
  rw [m1, Option.bind_some, m2, Option.bind_some]
  have hiv : iv s' l' = if s' = true then -(N : Int) else N := by unfold iv; rw [hN']
  have hia : iv s l = if s = true then -(M : Int) else M := by unfold iv; rw [hM']
  have hab : (iv s' l').natAbs = N := by rw [iv_natAbs, hN']
  have hdz : (N : Int) * (q : Int) + (r : Int) = M := by exact_mod_cast hdm
  have hQ : iv (!(s == s')) (limbs q) = if (!(s == s')) = true then -(q : Int) else (q : Int) := by unfold iv; rw [lv_limbs]
  have hR : iv s (limbs r) = if s = true then -(r : Int) else (r : Int) := by unfold iv; rw [lv_limbs]
  generalize iv (!(s == s')) (limbs q) = Q at *
  generalize iv s (limbs r) = R at *
  have hlR : (mkI R).2.1.length < 33554433 := by
    rw [len_mkI, show R.natAbs = r from by rw [hR]; split <;> omega]
    omega
  have hlQ : (mkI Q).2.1.length < 33554433 := by
    rw [len_mkI, show Q.natAbs = q from by rw [hQ]; split <;> omega]
    omega
  have sg := rsign_ok (mkI R).1 () (lim_mkI R) (by omega)
  rw [iv_mkI] at sg
  rw [sg, Option.bind_some]
  by_cases hneg : R < 0
  · have hs : s = true := by
      cases s
      · rw [if_neg (by decide)] at hR; omega
      · rfl
    subst hs
    rw [if_pos rfl] at hR hia
    have a1 := make_ok false (lim_limbs N) (by omega)
    rw [iv_f, lv_limbs] at a1
    have a2 := radd_ok (mkI R).1 (mkI (N : Int)).1 () () (lim_mkI R) (lim_mkI (N : Int)) (by omega) (by rw [len_mkI, Int.natAbs_natCast]; omega)
    rw [iv_mkI, iv_mkI] at a2
    have a2' : r01_Add ((mkI R).1, (mkI R).2.1, ()) (mkI (N : Int)) = some (mkI (R + N)) := a2
    rw [show (if R = 0 then (0 : Int) else if R < 0 then -1 else 1) = -1 from by rw [if_neg (by omega), if_pos hneg], if_pos (by decide), a1, Option.bind_some, a2', Option.bind_some, rsign_ok s' () h' (by omega), Option.bind_some, rsmall_ok (n := 1) (by decide) (by decide), Option.bind_some]
    have hl1 : (mkI 1).2.1.length < 8796093022208 := by decide
    have hl1' : (mkI 1).2.1.length = 1 := by decide
    have hsum : R + N = iv true l % iv s' l' := by
      refine ((ediv_of (Q := if s' = true then (q : Int) + 1 else -(q : Int) - 1) ?_ (by omega) (by rw [hab]; omega) h0).2).symm
      rw [hia, hiv]
      cases s'
      · simp only [Bool.false_eq_true, if_false]
        rw [Int.mul_sub, Int.mul_neg]
        omega
      · simp only [if_true]
        rw [Int.neg_mul, Int.mul_add]
        omega
    have hquo : iv true l / iv s' l' = if s' = true then (q : Int) + 1 else -(q : Int) - 1 := by
      refine (ediv_of (R := R + N) ?_ (by omega) (by rw [hab]; omega) h0).1
      rw [hia, hiv]
      cases s'
      · simp only [Bool.false_eq_true, if_false]
        rw [Int.mul_sub, Int.mul_neg]
        omega
      · simp only [if_true]
        rw [Int.neg_mul, Int.mul_add]
        omega
    rw [hsum, hquo]
    cases s'
    · have hQ' : Q = -(q : Int) := by rw [hQ]; rfl
      have hi : iv false l' = (N : Int) := hiv
      have a3 := rsub_ok (mkI Q).1 (mkI 1).1 () () (lim_mkI Q) (lim_mkI 1) (by omega) (by omega)
      rw [iv_mkI, iv_mkI, hQ'] at a3
      have a3' : r01_Sub ((mkI (-(q : Int))).1, (mkI (-(q : Int))).2.1, ()) (mkI 1) = some (mkI (-(q : Int) - 1)) := a3
      rw [show (if iv false l' = 0 then (0 : Int) else if iv false l' < 0 then -1 else 1) = 1 from by rw [hi, if_neg (by omega), if_neg (by omega)], if_neg (by decide), hQ', Option.bind_some, a3', Option.bind_some, if_neg (by decide)]
    · have hQ' : Q = (q : Int) := by rw [hQ]; rfl
      have hi : iv true l' = -(N : Int) := hiv
      have a3 := radd_ok (mkI Q).1 (mkI 1).1 () () (lim_mkI Q) (lim_mkI 1) (by omega) (by omega)
      rw [iv_mkI, iv_mkI, hQ'] at a3
      have a3' : r01_Add ((mkI (q : Int)).1, (mkI (q : Int)).2.1, ()) (mkI 1) = some (mkI ((q : Int) + 1)) := a3
      rw [show (if iv true l' = 0 then (0 : Int) else if iv true l' < 0 then -1 else 1) = -1 from by rw [hi, if_neg (by omega), if_pos (by omega)], if_pos (by decide), hQ', a3', Option.bind_some, if_pos rfl]
  · have hres : iv s l / iv s' l' = Q ∧ iv s l % iv s' l' = R := by
      have hR' : R = (r : Int) := by
        cases s
        · rw [hR]; rfl
        · rw [hR, if_pos rfl] at hneg ⊢; omega
      refine ediv_of ?_ (by omega) (by rw [hab]; omega) h0
      rw [hia, hiv, hQ]
      have hr' : s = true → r = 0 := by
        rintro rfl
        rw [if_pos rfl] at hR
        omega
      cases s <;> cases s'
      · simp only [Bool.false_eq_true, beq_self_eq_true, Bool.not_true, if_false]; omega
      · simp only [Bool.false_eq_true, if_false, if_true, show (!(false == true)) = true from rfl, Int.neg_mul, Int.mul_neg, Int.neg_neg]; omega
      · have := hr' rfl
        simp only [Bool.false_eq_true, if_false, if_true, show (!(true == false)) = true from rfl, Int.mul_neg]; omega
      · have := hr' rfl
        simp only [Bool.false_eq_true, beq_self_eq_true, Bool.not_true, if_false, if_true, Int.neg_mul]; omega
    rw [hres.1, hres.2]
    have : ¬ ((if R = 0 then (0 : Int) else if R < 0 then -1 else 1) < 0) := by split <;> (try split) <;> omega
    rw [if_neg this]
theorem rrem_ok {l l' : List Int} (s s' : Bool) (u u' : Unit) (h : Lim l) (h' : Lim l') (hb : l.length < 33554432) (hb' : l'.length < 33554432) (h0 : iv s' l' ≠ 0) : r01_Rem (s, l, u) (s', l', u') = some (mkI (iv s l % iv s' l')) := by
  unfold r01_Rem
  have := rdivmod_ok s s' () () h h' hb hb' h0
  rw [this, Option.bind_some]
theorem limb_ok {l : List Int} (h : Lim l) (i : Nat) : integer_limb l (i : Int) = some ((dg l i : Nat) : Int) := by
  have hd := dg_lt h i
  simp only [integer_limb, integer_limb.j1, cite, decide_eq_true_eq, inB_t]
  by_cases h1 : i < l.length
  · rw [if_pos (by omega), if_pos (by omega), Int.toNat_natCast, gd h, wu64' (by omega) (by omega)]
  · rw [if_neg (by omega), dg_out (by omega)]; rfl
theorem take_set (a : List Int) (i : Nat) (x : Int) (h : i < a.length) : (a.set i x).take (i + 1) = a.take i ++ [x] := by
  rw [List.take_add_one]
  simp [List.take_set_of_le, h]
theorem plus_loop {m n : List Int} (hm : Lim m) (hn : Lim n) {L : Nat} (hL : L < 17592186044416) : ∀ (t i : Nat) (a : List Int) (c : Nat), L - i = t → i ≤ L → a.length = L + 1 → Lim a → c ≤ 1 → lv (a.take i) + 4294967296 ^ i * c = lv (m.take i) + lv (n.take i) →
    ∃ (a' : List Int) (c' : Nat), iterL (fun x : List Int × List Int × Int × Int × Int × Int × List Int × Unit => integer_plus.s0 x.1 x.2.1 x.2.2.1 x.2.2.2.1 x.2.2.2.2.1 x.2.2.2.2.2.1 x.2.2.2.2.2.2.1) (m, n, (L : Int), (c : Int), (L : Int), (i : Int), a, ()) = some ((L : Int), (c' : Int), a', ()) ∧
      a'.length = L + 1 ∧ Lim a' ∧ c' ≤ 1 ∧ lv (a'.take L) + 4294967296 ^ L * c' = lv (m.take L) + lv (n.take L) := by
  intro t
  induction t with
  | zero =>
    intro i a c ht hi hl ha hc he
    obtain rfl : i = L := by omega
    refine ⟨a, c, iterL_done ?_, hl, ha, hc, he⟩
    simp only [integer_plus.s0, cite, decide_eq_true_eq]
    rw [if_neg (by omega)]
  | succ t ih =>
    intro i a c ht hi hl ha hc he
    have hdm := dg_lt hm i
    have hdn := dg_lt hn i
    obtain ⟨a', c', h1, h2⟩ := ih (i + 1) (a.set i (((c + dg m i + dg n i) % 4294967296 : Nat) : Int)) ((c + dg m i + dg n i) / 4294967296) (by omega) (by omega) (by simpa using hl) (ha.set i (by omega)) (by omega) (by
      rw [take_set _ _ _ (by omega), lv_snoc, lv_take_succ, lv_take_succ, Nat.pow_succ, List.length_take, Nat.min_eq_left (by omega)]
      have h3 : 4294967296 ^ i * (c + dg m i + dg n i) = 4294967296 ^ i * ((c + dg m i + dg n i) % 4294967296) + 4294967296 ^ i * (4294967296 * ((c + dg m i + dg n i) / 4294967296)) := by
        rw [← Nat.mul_add, Nat.mod_add_div]
      rw [Nat.mul_add, Nat.mul_add] at h3
      rw [Nat.mul_assoc]
      omega)
    refine ⟨a', c', (iterL_next ?_).trans h1, h2⟩
    simp only [integer_plus.s0, integer_plus.j1, cite, decide_eq_true_eq, inB_t]
    have e : IntKind.wrap .u64 ((c : Int) + IntKind.wrap .u64 ((dg m i : Int) + (dg n i : Int))) = ((c + dg m i + dg n i : Nat) : Int) := by
      rw [wu64, wu64]; omega
    rw [if_pos (by omega), limb_ok hm, Option.bind_some, limb_ok hn, Option.bind_some, e, hi_word, Int.toNat_natCast, Nat.zero_add, if_pos (by omega), up (by omega), wu32, Int.natCast_emod]
    rfl
theorem plus_ok {m n : List Int} (hm : Lim m) (hn : Lim n) (hb : m.length < 1073741824) (hb' : n.length < 1073741824) : integer_plus m n = some (limbs (lv m + lv n)) := by
  have hmx : mx2 (m.length : Int) (n.length : Int) = ((max m.length n.length : Nat) : Int) := by unfold mx2; split <;> omega
  obtain ⟨a', c', h1, h2, h3, h4, h5⟩ := plus_loop hm hn (L := max m.length n.length) (by omega) _ 0 (List.replicate (max m.length n.length + 1) 0) 0 rfl (by omega) (by simp) (Lim.replicate _) (by omega) (by simp [lv])
  unfold integer_plus
  simp only [hmx, cite, inC_t, maxL_eq]
  rw [up (by omega), if_pos (by omega), Int.toNat_natCast]
  rw [show ((0 : Nat) : Int) = 0 from rfl] at h1
  rw [h1, Option.bind_some]
  simp only [integer_plus.k0, cite, inB_t]
  rw [if_pos (by omega), Int.toNat_natCast, Nat.zero_add, wu32' (by omega) (by omega), trim_ok (h3.set _ (by omega)) (by simp; omega), Option.bind_some]
  have e : lv (a'.set (max m.length n.length) (c' : Int)) = lv m + lv n := by
    have e1 : a'.set (max m.length n.length) (c' : Int) = (a'.set (max m.length n.length) (c' : Int)).take (max m.length n.length + 1) := by rw [List.take_of_length_le (by simp; omega)]
    rw [e1, take_set _ _ _ (by omega), lv_snoc, List.length_take, Nat.min_eq_left (by omega), h5, List.take_of_length_le (by omega), List.take_of_length_le (by omega)]
  rw [e]
theorem minus_loop {m n : List Int} (hm : Lim m) (hn : Lim n) (hb : m.length < 17592186044416) : ∀ (t i : Nat) (a : List Int) (c : Nat), m.length - i = t → i ≤ m.length → a.length = m.length → Lim a → c ≤ 1 → lv (m.take i) + 4294967296 ^ i * c = lv (a.take i) + lv (n.take i) →
    ∃ (a' : List Int) (c' : Nat), iterL (fun x : List Int × List Int × Int × Int × Int × List Int × Unit => integer_minus.s0 x.1 x.2.1 x.2.2.1 x.2.2.2.1 x.2.2.2.2.1 x.2.2.2.2.2.1) (m, n, (c : Int), (m.length : Int), (i : Int), a, ()) = some (a', ()) ∧
      a'.length = m.length ∧ Lim a' ∧ lv m + 4294967296 ^ m.length * c' = lv a' + lv (n.take m.length) := by
  intro t
  induction t with
  | zero =>
    intro i a c ht hi hl ha hc he
    obtain rfl : i = m.length := by omega
    refine ⟨a, c, iterL_done ?_, hl, ha, ?_⟩
    · simp only [integer_minus.s0, cite, decide_eq_true_eq]
      rw [if_neg (by omega)]
    · rw [List.take_length] at he
      rw [he, List.take_of_length_le (show a.length ≤ m.length by omega)]
  | succ t ih =>
    intro i a c ht hi hl ha hc he
    have hdm := dg_lt hm i
    have hdn := dg_lt hn i
    obtain ⟨d, c', hd, hc', h3⟩ : ∃ d c' : Nat, d < 4294967296 ∧ c' ≤ 1 ∧ dg m i + 4294967296 * c' = c + d + dg n i := by
      by_cases h : dg m i < c + dg n i
      · exact ⟨dg m i + 4294967296 - c - dg n i, 1, by omega, by omega, by omega⟩
      · exact ⟨dg m i - c - dg n i, 0, by omega, by omega, by omega⟩
    obtain ⟨a', cc, h1, h2⟩ := ih (i + 1) (a.set i (d : Int)) c' (by omega) (by omega) (by simpa using hl) (ha.set i (by omega)) hc' (by
      rw [take_set _ _ _ (by omega), lv_snoc, lv_take_succ, lv_take_succ, Nat.pow_succ, List.length_take, Nat.min_eq_left (by omega)]
      have h4 : 4294967296 ^ i * (dg m i + 4294967296 * c') = 4294967296 ^ i * (c + d + dg n i) := by rw [h3]
      rw [Nat.mul_add, Nat.mul_add, Nat.mul_add, ← Nat.mul_assoc] at h4
      omega)
    refine ⟨a', cc, (iterL_next ?_).trans h1, h2⟩
    simp only [integer_minus.s0, integer_minus.j1, cite, decide_eq_true_eq, inB_t]
    rw [if_pos (by omega), limb_ok hn, if_pos (by omega), Option.bind_some, Int.toNat_natCast, gd hm, Nat.zero_add]
    have e : IntKind.wrap .u64 (IntKind.wrap .u64 (IntKind.wrap .u64 (dg m i : Int) - (dg n i : Int)) - (c : Int)) = ((d + 18446744069414584320 * c' : Nat) : Int) := by
      rw [wu64, wu64, wu64]
      have : c' = 0 ∨ c' = 1 := by omega
      rcases this with rfl | rfl <;> omega
    rw [e, top_bit, if_pos (by omega), up (by omega), wu32]
    have e2 : ((d + 18446744069414584320 * c') / 9223372036854775808 : Nat) = c' := by
      have : c' = 0 ∨ c' = 1 := by omega
      rcases this with rfl | rfl <;> omega
    have e3 : ((d + 18446744069414584320 * c' : Nat) : Int) % 4294967296 = (d : Int) := by omega
    rw [e2, e3]
theorem minus_ok {m n : List Int} (hm : Lim m) (hn : Lim n) (hb : m.length ≤ 1073741824) (hl : n.length ≤ m.length) (h : lv n ≤ lv m) : integer_minus m n = some (limbs (lv m - lv n)) := by
  obtain ⟨a', c', h1, h2, h3, h4⟩ := minus_loop hm hn (by omega) _ 0 (List.replicate m.length 0) 0 rfl (by omega) (by simp) (Lim.replicate _) (by omega) (by simp [lv])
  unfold integer_minus
  simp only [cite, inC_t, maxL_eq]
  rw [show ((0 : Nat) : Int) = 0 from rfl] at h1
  rw [if_pos (by omega), Int.toNat_natCast, h1, Option.bind_some]
  simp only [integer_minus.k0]
  rw [trim_ok h3 (by omega), Option.bind_some]
  have e : lv a' = lv m - lv n := by
    rw [List.take_of_length_le hl] at h4
    have h5 := lv_lt h3
    rw [h2] at h5
    have : c' = 0 := by
      cases c' with
      | zero => rfl
      | succ c =>
        have : 4294967296 ^ m.length * 1 ≤ 4294967296 ^ m.length * (c + 1) := Nat.mul_le_mul_left _ (by omega)
        omega
    subst this
    omega
  rw [e]
end Go.Proofs.YtgbndganadelpaaGreatDoor.V
/- Laws: quotient and remainder of integer (a divisor of one word), words of 64 bits, residues. -/
namespace Go.Proofs.YtgbndganadelpaaGreatDoor.V
open Go Go.Proofs.YtgbndganadelpaaGreatDoor.E Go.Proofs.YtgbndganadelpaaGreatDoor.LI
set_option linter.unusedVariables false
set_option linter.unusedSimpArgs false
theorem limbs_one {N : Nat} (h : 0 < N) (h2 : N < 4294967296) : limbs N = [(N : Int)] := by
  rw [limbs_pos (by omega), Nat.mod_eq_of_lt h2, Nat.div_eq_of_lt h2, limbs_zero]
theorem divide_small {M N : Nat} (hM : (limbs M).length ≤ 1073741824) (h : M < N) : integer_divide (limbs M) (limbs N) = some (limbs (M / N), limbs (M % N), ()) := by
  unfold integer_divide
  rw [compare_ok (by omega), Option.bind_some]
  simp only [cite, decide_eq_true_eq]
  rw [cm_lt (by omega), if_pos (by decide), if_pos (show (limbs M).length ≤ maxL from hM), Nat.div_eq_of_lt h, Nat.mod_eq_of_lt h, limbs_zero]
theorem divide_one {M N : Nat} (hM : (limbs M).length ≤ 1073741824) (hN : 0 < N) (hN2 : N < 4294967296) : integer_divide (limbs M) (limbs N) = some (limbs (M / N), limbs (M % N), ()) := by
  by_cases h : M < N
  · exact divide_small hM h
  · unfold integer_divide
    rw [compare_ok (by omega), Option.bind_some]
    simp only [integer_divide.j1, cite, decide_eq_true_eq, inB_t, beq_iff_eq]
    have hr : M % N < N := Nat.mod_lt _ hN
    have hc : ¬ cm (M : Int) (N : Int) < 0 := by unfold cm; split <;> (try split) <;> omega
    have ht : integer_trim [((M % N : Nat) : Int)] = some (limbs (M % N)) := by
      have h1 : Lim [((M % N : Nat) : Int)] := Lim.one (by omega)
      rw [trim_ok h1 (by simp), lv_one, Int.toNat_natCast]
    have hs := shortDivide_ok (lim_limbs M) hM hN hN2
    rw [lv_limbs] at hs
    rw [if_neg hc, limbs_one hN hN2]
    simp only [List.length_singleton, List.getD_cons_zero]
    rw [if_pos (by decide), if_pos (by decide), hs, Option.bind_some, ht, Option.bind_some]
theorem divmod_of {l l' : List Int} (s s' : Bool) (u u' : Unit) (h : Lim l) (h' : Lim l') (hb : l.length < 33554432) (hb' : l'.length < 33554432) (h0 : iv s' l' ≠ 0)
    (hdv : integer_divide (limbs (lv l)) (limbs (lv l')) = some (limbs (lv l / lv l'), limbs (lv l % lv l'), ())) :
    integer_DivMod (s, l, u) (s', l', u') = some (mkI (iv s l / iv s' l'), mkI (iv s l % iv s' l'), true, ()) := by
  have hx := len_lv h
  have hy := len_lv h'
  have hN : 0 < lv l' := by unfold iv at h0; split at h0 <;> omega
  unfold integer_DivMod
  rw [magnitude_ok s' () h' (by omega), Option.bind_some]
  simp only [cite, beq_iff_eq, limbs_len0]
  rw [if_neg (by omega)]
  simp only [integer_DivMod.j1, integer_DivMod.j2, cite, decide_eq_true_eq]
  rw [magnitude_ok s () h (by omega), Option.bind_some, hdv, Option.bind_some]
  generalize hM' : lv l = M at *
  generalize hN' : lv l' = N at *
  have hqM : M / N ≤ M := Nat.div_le_self _ _
  have hrM : M % N < N := Nat.mod_lt _ hN
  have hdm := Nat.div_add_mod M N
  have hlq := len_le hqM
  have hlr := len_le (Nat.le_of_lt hrM)
  generalize M / N = q at *
  generalize M % N = r at *
  have hiv : iv s' l' = if s' = true then -(N : Int) else N := by unfold iv; rw [hN']
  have hia : iv s l = if s = true then -(M : Int) else M := by unfold iv; rw [hM']
  have hab : (iv s' l').natAbs = N := by rw [iv_natAbs, hN']
  have hdz : (N : Int) * (q : Int) + (r : Int) = M := by exact_mod_cast hdm
  have fin : ∀ (Q R : Nat), (limbs Q).length < 17592186044416 → (limbs R).length < 17592186044416 → iv (!(s == s')) (limbs Q) = iv s l / iv s' l' → (R : Int) = iv s l % iv s' l' →
      ((integer_signed (!(s == s')) (limbs Q)).bind fun y8 => (integer_signed false (limbs R)).bind fun y9 => some ((y8.1, (y8.2.1, ())), ((y9.1, (y9.2.1, ())), (true, ())))) = some (mkI (iv s l / iv s' l'), mkI (iv s l % iv s' l'), true, ()) := by
    intro Q R h1 h2 h3 h4
    rw [signed_ok _ (lim_limbs Q) h1, Option.bind_some, signed_ok _ (lim_limbs R) h2, Option.bind_some, h3, iv_f, lv_limbs, h4]
  cases hs : s with
  | true =>
    rw [if_pos rfl]
    rw [hs] at hia fin
    rw [if_pos rfl] at hia
    have hlen0 := limbs_len0 r
    by_cases hr0 : r = 0
    · rw [if_neg (by show ¬ (((limbs r).length : Nat) : Int) > 0; rw [hr0]; decide)]
      have := ediv_of (a := iv true l) (b := iv s' l') (Q := iv (!(true == s')) (limbs q)) (R := (r : Int)) (by
        rw [hia, hiv]; cases s'
        · rw [show (!(true == false)) = true from rfl, iv_t, lv_limbs]; simp only [Bool.false_eq_true, if_false, Int.mul_neg]; omega
        · rw [show (!(true == true)) = false from rfl, iv_f, lv_limbs]; simp only [if_true, Int.neg_mul]; omega) (by omega) (by rw [hab]; omega) h0
      exact fin q r (by omega) (by omega) this.1.symm this.2.symm
    · have hpl := limbs_len_pos.2 hr0
      have hp := plus_ok (lim_limbs q) (n := [1]) (Lim.one (by omega)) (by omega) (by simp)
      rw [lv_limbs, lv_one] at hp
      have hmn := minus_ok (lim_limbs N) (lim_limbs r) (by omega) hlr (by rw [lv_limbs, lv_limbs]; omega)
      rw [lv_limbs, lv_limbs] at hmn
      rw [if_pos (show (((limbs r).length : Nat) : Int) > 0 by omega), hp, Option.bind_some, hmn, Option.bind_some]
      have := ediv_of (a := iv true l) (b := iv s' l') (Q := iv (!(true == s')) (limbs (q + 1))) (R := ((N - r : Nat) : Int)) (by
        rw [hia, hiv]; cases s'
        · rw [show (!(true == false)) = true from rfl, iv_t, lv_limbs]; simp only [Bool.false_eq_true, if_false, Int.mul_neg, Int.natCast_add, Int.natCast_one, Int.mul_add, Int.mul_one]; omega
        · rw [show (!(true == true)) = false from rfl, iv_f, lv_limbs]; simp only [if_true, Int.neg_mul, Int.natCast_add, Int.natCast_one, Int.mul_add, Int.mul_one]; omega) (by omega) (by rw [hab]; omega) h0
      have hq1 : (limbs (q + 1)).length ≤ (limbs q).length + 1 := limbs_len.2 (by
        have := limbs_len.1 (Nat.le_refl (limbs q).length)
        rw [Nat.pow_succ]; omega)
      have hnr := len_le (show N - r ≤ N by omega)
      exact fin (q + 1) (N - r) (by omega) (by omega) this.1.symm this.2.symm
  | false =>
    rw [if_neg (by decide)]
    rw [hs] at hia fin
    rw [if_neg (by decide)] at hia
    have := ediv_of (a := iv false l) (b := iv s' l') (Q := iv (!(false == s')) (limbs q)) (R := (r : Int)) (by
        rw [hia, hiv]; cases s'
        · rw [show (!(false == false)) = false from rfl, iv_f, lv_limbs]; simp only [Bool.false_eq_true, if_false]; omega
        · rw [show (!(false == true)) = true from rfl, iv_t, lv_limbs]; simp only [if_true, Int.neg_mul, Int.mul_neg, Int.neg_neg]; omega) (by omega) (by rw [hab]; omega) h0
    exact fin q r (by omega) (by omega) this.1.symm this.2.symm
end Go.Proofs.YtgbndganadelpaaGreatDoor.V
/- Laws: products. -/
namespace Go.Proofs.YtgbndganadelpaaGreatDoor.V
open Go Go.Proofs.YtgbndganadelpaaGreatDoor.E Go.Proofs.YtgbndganadelpaaGreatDoor.LI
set_option linter.unusedVariables false
set_option linter.unusedSimpArgs false
theorem lv_put (l : List Int) {i : Nat} (hi : i < l.length) (x : Nat) : lv (l.set i (x : Int)) + 4294967296 ^ i * dg l i = lv l + 4294967296 ^ i * x := by
  rw [lv_split (l.set i (x : Int)) i (by simp; omega), lv_split l i (by omega), drop_set l i _ hi, lv_cons, drop_dg hi, List.take_set_of_le (by omega)]
  rw [Nat.mul_add, Nat.mul_add]
  omega
theorem dg_put_ne (l : List Int) {i k : Nat} (h : i ≠ k) (x : Int) : dg (l.set i x) k = dg l k := by
  unfold dg
  rw [List.getD_eq_getElem?_getD, List.getD_eq_getElem?_getD, List.getElem?_set_ne h]
theorem mul_le {a b : Nat} (ha : a < 4294967296) (hb : b < 4294967296) : a * b ≤ 18446744065119617025 := by
  have := Nat.mul_le_mul (show a ≤ 4294967295 by omega) (show b ≤ 4294967295 by omega)
  omega
theorem times_inner {m n : List Int} (hm : Lim m) (hn : Lim n) {i : Nat} (hi : i < m.length) (hb : m.length + n.length < 17592186044416) : ∀ (t j : Nat) (a : List Int) (c A0 : Nat), n.length - j = t → j ≤ n.length → a.length = m.length + n.length → Lim a → c < 4294967296 →
    dg a (i + n.length) = 0 → lv a + 4294967296 ^ (i + j) * c = A0 + 4294967296 ^ i * (dg m i * lv (n.take j)) →
    ∃ (a' : List Int) (c' : Nat), iterL (fun x : List Int × List Int × Int × Int × Int × Int × Int × Int × List Int × Unit => integer_times.s0 x.1 x.2.1 x.2.2.1 x.2.2.2.1 x.2.2.2.2.1 x.2.2.2.2.2.1 x.2.2.2.2.2.2.1 x.2.2.2.2.2.2.2.1 x.2.2.2.2.2.2.2.2.1) (m, n, (i : Int), (c : Int), (m.length : Int), (i : Int), (n.length : Int), (j : Int), a, ()) = some (m, n, (i : Int), (c' : Int), (m.length : Int), (i : Int), a', ()) ∧
      a'.length = m.length + n.length ∧ Lim a' ∧ c' < 4294967296 ∧ dg a' (i + n.length) = 0 ∧ lv a' + 4294967296 ^ (i + n.length) * c' = A0 + 4294967296 ^ i * (dg m i * lv n) := by
  intro t
  induction t with
  | zero =>
    intro j a c A0 ht hj hl ha hc hd he
    obtain rfl : j = n.length := by omega
    refine ⟨a, c, iterL_done ?_, hl, ha, hc, hd, by rw [he, List.take_length]⟩
    simp only [integer_times.s0, cite, decide_eq_true_eq]
    rw [if_neg (by omega)]
  | succ t ih =>
    intro j a c A0 ht hj hl ha hc hd he
    have h1 := dg_lt hm i
    have h2 := dg_lt hn j
    have h3 := dg_lt ha (i + j)
    have hp := mul_le h1 h2
    have hv := lv_put a (i := i + j) (by omega) ((c + (dg m i * dg n j + dg a (i + j))) % 4294967296)
    obtain ⟨a', c', g1, g2⟩ := ih (j + 1) (a.set (i + j) (((c + (dg m i * dg n j + dg a (i + j))) % 4294967296 : Nat) : Int)) ((c + (dg m i * dg n j + dg a (i + j))) / 4294967296) A0 (by omega) (by omega) (by simpa using hl) (ha.set _ (by omega)) (by omega)
      (by rw [dg_put_ne _ (by omega)]; exact hd) (by
        rw [lv_take_succ, show i + (j + 1) = (i + j) + 1 from rfl, Nat.pow_succ]
        have e1 : 4294967296 ^ (i + j) * (c + (dg m i * dg n j + dg a (i + j))) = 4294967296 ^ (i + j) * ((c + (dg m i * dg n j + dg a (i + j))) % 4294967296) + 4294967296 ^ (i + j) * 4294967296 * ((c + (dg m i * dg n j + dg a (i + j))) / 4294967296) := by
          rw [Nat.mul_assoc, ← Nat.mul_add, Nat.mod_add_div]
        have e2 : 4294967296 ^ i * (dg m i * (lv (n.take j) + 4294967296 ^ j * dg n j)) = 4294967296 ^ i * (dg m i * lv (n.take j)) + 4294967296 ^ (i + j) * (dg m i * dg n j) := by
          rw [Nat.mul_add, Nat.mul_add, Nat.pow_add, Nat.mul_left_comm (dg m i), ← Nat.mul_assoc (4294967296 ^ i) (4294967296 ^ j)]
        rw [e2]
        rw [Nat.mul_add, Nat.mul_add] at e1
        omega)
    refine ⟨a', c', (iterL_next ?_).trans g1, g2⟩
    simp only [integer_times.s0, integer_times.j2, cite, decide_eq_true_eq, inB_t]
    have w1 : IntKind.wrap .i64 ((i : Int) + (j : Int)) = ((i + j : Nat) : Int) := by rw [wi64 (by omega) (by omega)]; rfl
    have w2 : IntKind.wrap .u64 (IntKind.wrap .u64 ((dg m i : Int) * (dg n j : Int)) + IntKind.wrap .u64 (dg a (i + j) : Int)) = ((dg m i * dg n j + dg a (i + j) : Nat) : Int) := by
      rw [← Int.natCast_mul, wu64' (x := ((dg m i * dg n j : Nat) : Int)) (by omega) (by omega), wu64' (x := (dg a (i + j) : Int)) (by omega) (by omega), wu64' (by omega) (by omega)]
      rfl
    have w3 : IntKind.wrap .u64 ((c : Int) + ((dg m i * dg n j + dg a (i + j) : Nat) : Int)) = ((c + (dg m i * dg n j + dg a (i + j)) : Nat) : Int) := by
      rw [wu64' (by omega) (by omega)]; rfl
    rw [if_pos (by omega), if_pos (by omega), if_pos (by omega), w1, if_pos (by omega), if_pos (by omega)]
    simp only [Int.toNat_natCast, Nat.zero_add]
    rw [gd hm, gd hn, gd ha, wu64' (x := (dg m i : Int)) (by omega) (by omega), wu64' (x := (dg n j : Int)) (by omega) (by omega), w2, w3, hi_word, up (by omega), wu32, Int.natCast_emod]
    rfl
theorem times_outer {m n : List Int} (hm : Lim m) (hn : Lim n) (hb : m.length + n.length < 17592186044416) : ∀ (t i : Nat) (a : List Int), m.length - i = t → i ≤ m.length → a.length = m.length + n.length → Lim a → lv a = lv (m.take i) * lv n →
    ∃ a' : List Int, iterL (fun x : List Int × List Int × Int × Int × List Int × Unit => integer_times.s1 x.1 x.2.1 x.2.2.1 x.2.2.2.1 x.2.2.2.2.1) (m, n, (m.length : Int), (i : Int), a, ()) = some (a', ()) ∧ a'.length = m.length + n.length ∧ Lim a' ∧ lv a' = lv m * lv n := by
  intro t
  induction t with
  | zero =>
    intro i a ht hi hl ha he
    obtain rfl : i = m.length := by omega
    refine ⟨a, iterL_done ?_, hl, ha, by rw [he, List.take_length]⟩
    simp only [integer_times.s1, cite, decide_eq_true_eq]
    rw [if_neg (by omega)]
  | succ t ih =>
    intro i a ht hi hl ha he
    have hd : dg a (i + n.length) = 0 := by
      have b1 := lv_lt (hm.take i)
      have b2 := lv_lt hn
      rw [List.length_take, Nat.min_eq_left hi] at b1
      have : lv a < 4294967296 ^ (i + n.length) := by
        rw [he, Nat.pow_add]
        exact Nat.lt_of_le_of_lt (Nat.mul_le_mul_right _ (Nat.le_of_lt b1)) (Nat.mul_lt_mul_of_pos_left b2 (Nat.pow_pos (by omega)))
      rw [dg_lv ha, Nat.div_eq_of_lt this]
    obtain ⟨a1, c1, g1, g2, g3, g4, g5, g6⟩ := times_inner hm hn (i := i) (by omega) hb _ 0 a 0 (lv a) rfl (by omega) hl ha (by omega) hd (by simp [lv])
    have hv := lv_put a1 (i := i + n.length) (by omega) c1
    rw [g5, Nat.mul_zero, Nat.add_zero, g6, he] at hv
    obtain ⟨a', q1, q2⟩ := ih (i + 1) (a1.set (i + n.length) (c1 : Int)) (by omega) (by omega) (by simpa using g2) (g3.set _ (by omega)) (by
      rw [hv, lv_take_succ, Nat.add_mul, Nat.mul_assoc])
    refine ⟨a', (iterL_next ?_).trans q1, q2⟩
    simp only [integer_times.s1, integer_times.j1, cite, decide_eq_true_eq]
    rw [show ((0 : Nat) : Int) = 0 from rfl] at g1
    rw [if_pos (by omega), g1, Option.bind_some]
    simp only [integer_times.k0, cite, inB_t]
    have w1 : IntKind.wrap .i64 ((i : Int) + ((n.length : Nat) : Int)) = ((i + n.length : Nat) : Int) := by rw [wi64 (by omega) (by omega)]; rfl
    rw [w1, if_pos (by omega), Int.toNat_natCast, Nat.zero_add, up (by omega), wu32' (by omega) (by omega)]
theorem times_ok {m n : List Int} (hm : Lim m) (hn : Lim n) (hb : m.length + n.length ≤ 1073741824) : integer_times m n = some (limbs (lv m * lv n)) := by
  obtain ⟨a', g1, g2, g3, g4⟩ := times_outer hm hn (by omega) _ 0 (List.replicate (m.length + n.length) 0) rfl (by omega) (by simp) (Lim.replicate _) (by rw [lv_zeros]; simp [lv])
  have w1 : IntKind.wrap .i64 ((m.length : Int) + (n.length : Int)) = ((m.length + n.length : Nat) : Int) := by rw [wi64 (by omega) (by omega)]; rfl
  unfold integer_times
  simp only [w1, cite, inC_t, maxL_eq]
  rw [show ((0 : Nat) : Int) = 0 from rfl] at g1
  rw [if_pos (by omega), Int.toNat_natCast, g1, Option.bind_some]
  simp only [integer_times.k1]
  rw [trim_ok g3 (by omega), Option.bind_some, g4]
theorem mul_ok {l l' : List Int} (s s' : Bool) (u u' : Unit) (h : Lim l) (h' : Lim l') (hb : l.length + l'.length ≤ 1073741824) : integer_Mul (s, l, u) (s', l', u') = some (mkI (iv s l * iv s' l')) := by
  have hx := len_lv h
  have hy := len_lv h'
  unfold integer_Mul
  rw [magnitude_ok s () h (by omega), Option.bind_some, magnitude_ok s' () h' (by omega), Option.bind_some, times_ok (lim_limbs _) (lim_limbs _) (by omega), Option.bind_some, lv_limbs, lv_limbs]
  have hlen : (limbs (lv l * lv l')).length ≤ l.length + l'.length := limbs_len.2 (by
    rw [Nat.pow_add]
    have b1 := lv_lt h
    have b2 := lv_lt h'
    exact Nat.lt_of_le_of_lt (Nat.mul_le_mul_right _ (Nat.le_of_lt b1)) (Nat.mul_lt_mul_of_pos_left b2 (Nat.pow_pos (by omega))))
  rw [signed_ok _ (lim_limbs _) (by omega), Option.bind_some]
  have : iv (!(s == s')) (limbs (lv l * lv l')) = iv s l * iv s' l' := by
    cases s <;> cases s' <;> simp [iv, lv_limbs, Int.natCast_mul, Int.mul_neg, Int.neg_mul]
  rw [this]
theorem mulI (a b : Int) (h : (limbs a.natAbs).length + (limbs b.natAbs).length ≤ 1073741824) : integer_Mul (mkI a) (mkI b) = some (mkI (a * b)) := by
  have := mul_ok (mkI a).1 (mkI b).1 () () (lim_mkI a) (lim_mkI b) h
  rwa [iv_mkI, iv_mkI] at this
end Go.Proofs.YtgbndganadelpaaGreatDoor.V
