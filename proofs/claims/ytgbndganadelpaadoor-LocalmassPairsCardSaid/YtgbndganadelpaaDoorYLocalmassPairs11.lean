/- Laws of integer: limb, plus, minus, compare, shortDivide. -/
import Derived.Test.YtgbndganadelpaaDoorYLocalmassPairs10
namespace Go.Proofs.YtgbndganadelpaaDoor.V
open Go Go.Proofs.YtgbndganadelpaaDoor.E Go.Proofs.YtgbndganadelpaaDoor.LI
set_option linter.unusedVariables false
set_option linter.unusedSimpArgs false
theorem orI_nat (a b : Nat) (ha : a < 18446744073709551616) (hb : b < 18446744073709551616) : orI .u64 (a : Int) (b : Int) = ((a ||| b : Nat) : Int) := by
  have h0 : orI .u64 (a : Int) (b : Int) = IntKind.wrap .u64 (((BitVec.ofInt 64 (a : Int) ||| BitVec.ofInt 64 (b : Int)).toNat : Nat) : Int) := rfl
  rw [h0, wu64, BitVec.ofInt_natCast, BitVec.ofInt_natCast, BitVec.toNat_or, BitVec.toNat_ofNat, BitVec.toNat_ofNat, Nat.mod_eq_of_lt ha, Nat.mod_eq_of_lt hb]
  have : a ||| b < 2 ^ 64 := Nat.or_lt_two_pow ha hb
  omega
theorem or_add {a b i : Nat} (hb : b < 2 ^ i) (h : 2 ^ i * a + b < 18446744073709551616) : orI .u64 ((2 ^ i * a : Nat) : Int) (b : Int) = ((2 ^ i * a + b : Nat) : Int) := by
  rw [orI_nat _ _ (by omega) (by omega), ← Nat.two_pow_add_eq_or_of_lt hb]
theorem shl_nat {a i : Nat} (hi : i ≤ 64) (h : a * 2 ^ i < 18446744073709551616) : shlI .u64 (a : Int) (i : Int) = ((2 ^ i * a : Nat) : Int) := by
  unfold shlI
  rw [wu64, show min (i : Int).toNat IntKind.u64.bits = i by rw [Int.toNat_natCast]; exact Nat.min_eq_left hi]
  have : (a : Int) * 2 ^ i = ((a * 2 ^ i : Nat) : Int) := by push_cast; rfl
  rw [this, Nat.mul_comm]
  rw [Nat.mul_comm] at h
  omega
theorem shr_nat {a i : Nat} (hi : i ≤ 64) : shrI .u64 (a : Int) (i : Int) = ((a / 2 ^ i : Nat) : Int) := by
  unfold shrI
  rw [show min (i : Int).toNat IntKind.u64.bits = i by rw [Int.toNat_natCast]; exact Nat.min_eq_left hi]
  have : (2 : Int) ^ i = ((2 ^ i : Nat) : Int) := by push_cast; rfl
  rw [this, Int.fdiv_eq_ediv_of_nonneg _ (Int.natCast_nonneg _)]
  rfl
/-- Two words side by side. -/
theorem pack {a b : Nat} (ha : a < 4294967296) (hb : b < 4294967296) : orI .u64 (shlI .u64 (a : Int) 32) (IntKind.wrap .u64 (b : Int)) = ((4294967296 * a + b : Nat) : Int) := by
  have h1 := @shl_nat a 32 (by omega) (by omega)
  have h2 := @or_add a b 32 (by omega) (by omega)
  rw [show ((32 : Nat) : Int) = 32 from rfl] at h1
  rw [wu64' (by omega) (by omega), h1, h2]
theorem hi_word (a : Nat) : shrI .u64 (a : Int) 32 = ((a / 4294967296 : Nat) : Int) := @shr_nat a 32 (by omega)
theorem top_bit (a : Nat) : shrI .u64 (a : Int) 63 = ((a / 9223372036854775808 : Nat) : Int) := @shr_nat a 63 (by omega)
theorem drop_set (a : List Int) (k : Nat) (x : Int) (hk : k < a.length) : (a.set k x).drop k = x :: a.drop (k + 1) := by
  rw [List.drop_eq_getElem_cons (by simpa using hk), List.drop_set, if_pos (Nat.lt_succ_self k)]
  simp
theorem lv_cons (x : Nat) (l : List Int) : lv ((x : Int) :: l) = x + 4294967296 * lv l := by simp [lv]
theorem short_loop {l : List Int} (hl : Lim l) (hn : l.length < 17592186044416) {d : Nat} (hd : 0 < d) (hd2 : d < 4294967296) : ∀ k, k ≤ l.length → ∀ a : List Int, a.length = l.length → Lim a → lv (a.drop k) = lv (l.drop k) / d →
    ∃ a', iterL (fun x : List Int × Int × Int × Int × List Int × Unit => integer_shortDivide.s0 x.1 x.2.1 x.2.2.1 x.2.2.2.1 x.2.2.2.2.1) (l, (d : Int), ((lv (l.drop k) % d : Nat) : Int), (k : Int) - 1, a, ()) = some (((lv l % d : Nat) : Int), a', ()) ∧
      a'.length = l.length ∧ Lim a' ∧ lv a' = lv l / d := by
  intro k
  induction k with
  | zero =>
    intro _ a h1 h2 h3
    refine ⟨a, iterL_done ?_, h1, h2, by simpa using h3⟩
    simp only [integer_shortDivide.s0, cite, decide_eq_true_eq]
    rw [if_neg (by omega)]
    simp
  | succ k ih =>
    intro hk a h1 h2 h3
    have hr : lv (l.drop (k + 1)) % d < d := Nat.mod_lt _ hd
    have hx := dg_lt hl k
    have hq : (4294967296 * (lv (l.drop (k + 1)) % d) + dg l k) / d < 4294967296 := by
      rw [Nat.div_lt_iff_lt_mul hd]
      have : 4294967296 * (lv (l.drop (k + 1)) % d) + 4294967296 ≤ 4294967296 * d := by
        have : 4294967296 * (lv (l.drop (k + 1)) % d + 1) ≤ 4294967296 * d := Nat.mul_le_mul_left _ hr
        omega
      omega
    obtain ⟨a', g1, g2⟩ := ih (by omega) (a.set k (((4294967296 * (lv (l.drop (k + 1)) % d) + dg l k) / d : Nat) : Int)) (by simpa using h1) (h2.set k ⟨Int.natCast_nonneg _, Int.ofNat_lt.2 hq⟩) (by
      rw [drop_set a k _ (by omega), lv_cons, h3, drop_dg (show k < l.length by omega)]
      have e := Nat.div_add_mod (lv (l.drop (k + 1))) d
      have : dg l k + 4294967296 * lv (l.drop (k + 1)) = (4294967296 * (lv (l.drop (k + 1)) % d) + dg l k) + d * (4294967296 * (lv (l.drop (k + 1)) / d)) := by
        rw [Nat.mul_left_comm]; omega
      rw [this, Nat.add_mul_div_left _ _ hd])
    refine ⟨a', (iterL_next ?_).trans g1, g2⟩
    have e := Nat.div_add_mod (lv (l.drop (k + 1))) d
    have hmod : lv (l.drop k) % d = (4294967296 * (lv (l.drop (k + 1)) % d) + dg l k) % d := by
      rw [drop_dg (show k < l.length by omega)]
      have : dg l k + 4294967296 * lv (l.drop (k + 1)) = (4294967296 * (lv (l.drop (k + 1)) % d) + dg l k) + d * (4294967296 * (lv (l.drop (k + 1)) / d)) := by
        rw [Nat.mul_left_comm]; omega
      rw [this, Nat.add_mul_mod_self_left]
    simp only [integer_shortDivide.s0, integer_shortDivide.j1, cite, decide_eq_true_eq, inB_t, maxL_eq]
    rw [show ((k + 1 : Nat) : Int) - 1 = (k : Int) by omega, Int.toNat_natCast, gd hl, pack (by omega) hx, wu64' (x := (d : Int)) (by omega) (by omega)]
    rw [if_pos (by omega), if_pos (by omega), if_neg (by omega), if_pos (by omega), if_neg (by omega), Nat.zero_add, ← Int.ofNat_tmod, ← Int.ofNat_tdiv, wi64 (by omega) (by omega)]
    have hq0 := Int.natCast_nonneg ((4294967296 * (lv (l.drop (k + 1)) % d) + dg l k) / d)
    have hq1 : (((4294967296 * (lv (l.drop (k + 1)) % d) + dg l k) / d : Nat) : Int) < 4294967296 := Int.ofNat_lt.2 hq
    rw [wu64' hq0 (Int.lt_of_lt_of_le hq1 (by decide)), wu32' hq0 hq1, hmod]
theorem shortDivide_ok {l : List Int} (hl : Lim l) (hn : l.length ≤ 1073741824) {d : Nat} (hd : 0 < d) (hd2 : d < 4294967296) : integer_shortDivide l (d : Int) = some (limbs (lv l / d), ((lv l % d : Nat) : Int), ()) := by
  obtain ⟨a', g1, g2, g3, g4⟩ := short_loop hl (by omega) hd hd2 l.length (Nat.le_refl _) (List.replicate l.length 0) (by simp) (Lim.replicate _) (by rw [List.drop_eq_nil_of_le (by simp), List.drop_eq_nil_of_le (by simp)]; simp [lv])
  unfold integer_shortDivide
  simp only [cite, inC_t, maxL_eq]
  rw [if_pos (by omega), Int.toNat_natCast, wi64 (by omega) (by omega)]
  rw [List.drop_eq_nil_of_le (Nat.le_refl _)] at g1
  rw [show ((lv [] % d : Nat) : Int) = 0 by simp [lv]] at g1
  rw [g1, Option.bind_some]
  simp only [integer_shortDivide.k0]
  rw [trim_ok g3 (by omega), Option.bind_some, g4]
  have : lv l % d < d := Nat.mod_lt _ hd
  rw [wu32' (by omega) (by omega)]
end Go.Proofs.YtgbndganadelpaaDoor.V
/- Laws: comparison; sums and differences, of the reference and of integer. -/
namespace Go.Proofs.YtgbndganadelpaaDoor.V
open Go Go.Proofs.YtgbndganadelpaaDoor.E Go.Proofs.YtgbndganadelpaaDoor.LI
set_option linter.unusedVariables false
set_option linter.unusedSimpArgs false
def cm (a b : Int) : Int := if a < b then -1 else if a = b then 0 else 1
theorem cm_lt {a b : Int} (h : a < b) : cm a b = -1 := if_pos h
theorem cm_gt {a b : Int} (h : b < a) : cm a b = 1 := by unfold cm; rw [if_neg (by omega), if_neg (by omega)]
theorem cm_eq {a b : Int} (h : a = b) : cm a b = 0 := by unfold cm; rw [if_neg (by omega), if_pos h]
theorem top_lt {m n : List Int} (hm : Lim m) {i : Nat} (h1 : i < m.length) (h2 : i < n.length) (hd : m.drop (i + 1) = n.drop (i + 1)) (h : dg m i < dg n i) : lv m < lv n := by
  rw [lv_split m i (by omega), lv_split n i (by omega), drop_dg h1, drop_dg h2, hd]
  have h3 := lv_lt (hm.take i)
  rw [List.length_take, Nat.min_eq_left (by omega)] at h3
  have h4 : 4294967296 ^ i * (dg m i + 1 + 4294967296 * lv (n.drop (i + 1))) ≤ 4294967296 ^ i * (dg n i + 4294967296 * lv (n.drop (i + 1))) := Nat.mul_le_mul_left _ (by omega)
  have h5 : 4294967296 ^ i * (dg m i + 1 + 4294967296 * lv (n.drop (i + 1))) = 4294967296 ^ i * (dg m i + 4294967296 * lv (n.drop (i + 1))) + 4294967296 ^ i := by
    rw [show dg m i + 1 + 4294967296 * lv (n.drop (i + 1)) = (dg m i + 4294967296 * lv (n.drop (i + 1))) + 1 from by omega, Nat.mul_add, Nat.mul_one]
  omega
theorem cmp_loop {m n : List Int} (hm : Lim m) (hn : Lim n) (hl : m.length = n.length) (hb : m.length < 17592186044416) : ∀ i, i ≤ m.length → m.drop i = n.drop i →
    ∃ z, iterL (fun x : List Int × List Int × Int × Unit => integer_compare.s0 x.1 x.2.1 x.2.2.1) (m, n, (i : Int) - 1, ()) = some z ∧ ((z = .inl () ∧ cm (lv m) (lv n) = 0) ∨ z = .inr (cm (lv m) (lv n), ())) := by
  intro i
  induction i with
  | zero =>
    intro _ h
    rw [List.drop_zero, List.drop_zero] at h
    refine ⟨_, iterL_done ?_, .inl ⟨rfl, cm_eq (by rw [h])⟩⟩
    simp only [integer_compare.s0, cite, decide_eq_true_eq]
    rw [if_neg (by omega)]
  | succ i ih =>
    intro hi h
    have hst : integer_compare.s0 m n (((i + 1 : Nat) : Int) - 1) = if (dg m i : Int) = dg n i then some (.inl (m, n, (i : Int) - 1, ())) else if (dg m i : Int) < dg n i then some (.inr (.inr (-1, ()))) else some (.inr (.inr (1, ()))) := by
      simp only [integer_compare.s0, integer_compare.j3, integer_compare.j4, integer_compare.j5, cite, decide_eq_true_eq, inB_t, bne_iff_ne]
      rw [show ((i + 1 : Nat) : Int) - 1 = (i : Int) from by omega, Int.toNat_natCast, gd hm, gd hn, if_pos (by omega), if_pos (by omega), if_pos (by omega)]
      by_cases h0 : (dg m i : Int) = dg n i
      · rw [if_neg (fun h => h h0), if_pos h0, wi64 (by omega) (by omega)]
      · rw [if_pos h0, if_neg h0, if_pos (by omega), if_pos (by omega)]
    by_cases h0 : dg m i = dg n i
    · obtain ⟨z, hz, hz2⟩ := ih (by omega) (by
        rw [List.drop_eq_getElem_cons (l := m) (i := i) (by omega), List.drop_eq_getElem_cons (l := n) (i := i) (by omega), h]
        congr 1
        have h1 := dg_int hm i
        have h2 := dg_int hn i
        rw [h0, h2] at h1
        simp only [List.getD, List.getElem?_eq_getElem (show i < m.length by omega), List.getElem?_eq_getElem (show i < n.length by omega), Option.getD_some] at h1
        exact h1.symm)
      exact ⟨z, (iterL_next (by simp only []; rw [hst, if_pos (by omega)])).trans hz, hz2⟩
    · by_cases h1 : dg m i < dg n i
      · have := top_lt hm (by omega) (by omega) h h1
        exact ⟨_, iterL_done (by simp only []; rw [hst, if_neg (by omega), if_pos (by omega)]), .inr (by rw [cm_lt (by omega)])⟩
      · have := top_lt hn (by omega) (by omega) h.symm (show dg n i < dg m i by omega)
        exact ⟨_, iterL_done (by simp only []; rw [hst, if_neg (by omega), if_neg (by omega)]), .inr (by rw [cm_gt (by omega)])⟩
theorem cmp_same {m n : List Int} (hm : Lim m) (hn : Lim n) (hl : m.length = n.length) (hb : m.length < 17592186044416) : integer_compare m n = some (cm (lv m) (lv n)) := by
  obtain ⟨z, h1, h2⟩ := cmp_loop hm hn hl hb m.length (Nat.le_refl _) (by rw [List.drop_length, hl, List.drop_length])
  unfold integer_compare
  simp only [integer_compare.j2, cite, bne_iff_ne]
  rw [if_neg (by simp [hl]), wi64 (by omega) (by omega), h1, Option.bind_some]
  rcases h2 with ⟨rfl, h2⟩ | rfl
  · simp only [integer_compare.k0_0, h2]
  · rfl
theorem compare_ok {a b : Nat} (ha : (limbs a).length < 17592186044416) : integer_compare (limbs a) (limbs b) = some (cm a b) := by
  by_cases h : (limbs a).length = (limbs b).length
  · have := cmp_same (lim_limbs a) (lim_limbs b) h ha
    rwa [lv_limbs, lv_limbs] at this
  · unfold integer_compare
    simp only [integer_compare.j1, cite, bne_iff_ne, decide_eq_true_eq]
    rw [if_pos (by omega)]
    by_cases h1 : (limbs a).length < (limbs b).length
    · have : ¬ b < 4294967296 ^ (limbs a).length := fun hc => by have := limbs_len.2 hc; omega
      have := limbs_len.1 (Nat.le_refl (limbs a).length)
      rw [if_pos (by omega), cm_lt (by omega)]
    · have : ¬ a < 4294967296 ^ (limbs b).length := fun hc => by have := limbs_len.2 hc; omega
      have := limbs_len.1 (Nat.le_refl (limbs b).length)
      rw [if_neg (by omega), cm_gt (by omega)]
theorem lv_snoc (l : List Int) (d : Nat) : lv (l ++ [(d : Int)]) = lv l + 4294967296 ^ l.length * d := by
  rw [lv_append, lv_one, Int.toNat_natCast]
theorem len_le {a b : Nat} (h : a ≤ b) : (limbs a).length ≤ (limbs b).length := limbs_len.2 (Nat.lt_of_le_of_lt h (limbs_len.1 (Nat.le_refl _)))
theorem len_lv {l : List Int} (h : Lim l) : (limbs (lv l)).length ≤ l.length := limbs_len.2 (lv_lt h)
theorem iv_mkI (z : Int) : iv (mkI z).1 (mkI z).2.1 = z := iv_mk z
theorem lim_mkI (z : Int) : Lim (mkI z).2.1 := lim_limbs _
theorem lv_mkI (z : Int) : lv (mkI z).2.1 = z.natAbs := lv_limbs _
end Go.Proofs.YtgbndganadelpaaDoor.V
/- Laws of the reference's divisions. -/
namespace Go.Proofs.YtgbndganadelpaaDoor.V
open Go Go.Proofs.YtgbndganadelpaaDoor.E Go.Proofs.YtgbndganadelpaaDoor.LI
set_option linter.unusedVariables false
set_option linter.unusedSimpArgs false
theorem or32_nat (a b : Nat) (ha : a < 4294967296) (hb : b < 4294967296) : orI .u32 (a : Int) (b : Int) = ((a ||| b : Nat) : Int) := by
  have h0 : orI .u32 (a : Int) (b : Int) = IntKind.wrap .u32 (((BitVec.ofInt 32 (a : Int) ||| BitVec.ofInt 32 (b : Int)).toNat : Nat) : Int) := rfl
  rw [h0, wu32, BitVec.ofInt_natCast, BitVec.ofInt_natCast, BitVec.toNat_or, BitVec.toNat_ofNat, BitVec.toNat_ofNat, Nat.mod_eq_of_lt ha, Nat.mod_eq_of_lt hb]
  have : a ||| b < 2 ^ 32 := Nat.or_lt_two_pow ha hb
  omega
theorem shr32 (a r : Nat) (hr : r ≤ 32) : shrI .u32 (a : Int) (r : Int) = ((a / 2 ^ r : Nat) : Int) := by
  unfold shrI
  rw [show min (r : Int).toNat IntKind.u32.bits = r by rw [Int.toNat_natCast]; exact Nat.min_eq_left hr]
  have : (2 : Int) ^ r = ((2 ^ r : Nat) : Int) := by push_cast; rfl
  rw [this, Int.fdiv_eq_ediv_of_nonneg _ (Int.natCast_nonneg _)]
  rfl
theorem ediv_of {a b Q R : Int} (h : R + b * Q = a) (h0 : 0 ≤ R) (h1 : R < b.natAbs) (hb : b ≠ 0) : a / b = Q ∧ a % b = R := by
  have e : a % b = R := by
    rw [← h, Int.add_mul_emod_self_left]
    by_cases hp : 0 < b
    · exact Int.emod_eq_of_lt h0 (by omega)
    · rw [← Int.emod_neg]
      exact Int.emod_eq_of_lt h0 (by omega)
  refine ⟨?_, e⟩
  have h2 := Int.mul_ediv_add_emod a b
  rw [e] at h2
  exact Int.eq_of_mul_eq_mul_left hb (by omega)
end Go.Proofs.YtgbndganadelpaaDoor.V
/- Laws: quotient and remainder; sums and differences of integer. -/
namespace Go.Proofs.YtgbndganadelpaaDoor.V
open Go Go.Proofs.YtgbndganadelpaaDoor.E Go.Proofs.YtgbndganadelpaaDoor.LI
set_option linter.unusedVariables false
set_option linter.unusedSimpArgs false
theorem len_mkI (z : Int) : (mkI z).2.1.length = (limbs z.natAbs).length := rfl
theorem limb_ok {l : List Int} (h : Lim l) (i : Nat) : integer_limb l (i : Int) = some ((dg l i : Nat) : Int) := by
  have hd := dg_lt h i
  simp only [integer_limb, integer_limb.j1, cite, decide_eq_true_eq, inB_t]
  by_cases h1 : i < l.length
  · rw [if_pos (by omega), if_pos (by omega), Int.toNat_natCast, gd h, wu64' (by omega) (by omega)]
  · rw [if_neg (by omega), dg_out (by omega)]; rfl
theorem take_set (a : List Int) (i : Nat) (x : Int) (h : i < a.length) : (a.set i x).take (i + 1) = a.take i ++ [x] := by
  rw [List.take_add_one]
  simp [List.take_set_of_le, h]
theorem plus_loop {m n : List Int} (hm : Lim m) (hn : Lim n) {L : Nat} (hL : L < 17592186044416) : ∀ (t i : Nat) (a : List Int) (c : Nat), L - i = t → i ≤ L → a.length = L + 1 → Lim a → c ≤ 1 → lv (a.take i) + 4294967296 ^ i * c = lv (m.take i) + lv (n.take i) →
    ∃ (a' : List Int) (c' : Nat), iterL (fun x : List Int × List Int × Int × Int × Int × Int × List Int × Unit => integer_plus.s0 x.1 x.2.1 x.2.2.1 x.2.2.2.1 x.2.2.2.2.1 x.2.2.2.2.2.1 x.2.2.2.2.2.2.1) (m, n, (L : Int), (c : Int), (L : Int), (i : Int), a, ()) = some ((L : Int), (c' : Int), a', ()) ∧
      a'.length = L + 1 ∧ Lim a' ∧ c' ≤ 1 ∧ lv (a'.take L) + 4294967296 ^ L * c' = lv (m.take L) + lv (n.take L) := by
  intro t
  induction t with
  | zero =>
    intro i a c ht hi hl ha hc he
    obtain rfl : i = L := by omega
    refine ⟨a, c, iterL_done ?_, hl, ha, hc, he⟩
    simp only [integer_plus.s0, cite, decide_eq_true_eq]
    rw [if_neg (by omega)]
  | succ t ih =>
    intro i a c ht hi hl ha hc he
    have hdm := dg_lt hm i
    have hdn := dg_lt hn i
    obtain ⟨a', c', h1, h2⟩ := ih (i + 1) (a.set i (((c + dg m i + dg n i) % 4294967296 : Nat) : Int)) ((c + dg m i + dg n i) / 4294967296) (by omega) (by omega) (by simpa using hl) (ha.set i (by omega)) (by omega) (by
      rw [take_set _ _ _ (by omega), lv_snoc, lv_take_succ, lv_take_succ, Nat.pow_succ, List.length_take, Nat.min_eq_left (by omega)]
      have h3 : 4294967296 ^ i * (c + dg m i + dg n i) = 4294967296 ^ i * ((c + dg m i + dg n i) % 4294967296) + 4294967296 ^ i * (4294967296 * ((c + dg m i + dg n i) / 4294967296)) := by
        rw [← Nat.mul_add, Nat.mod_add_div]
      rw [Nat.mul_add, Nat.mul_add] at h3
      rw [Nat.mul_assoc]
      omega)
    refine ⟨a', c', (iterL_next ?_).trans h1, h2⟩
    simp only [integer_plus.s0, integer_plus.j1, cite, decide_eq_true_eq, inB_t]
    have e : IntKind.wrap .u64 ((c : Int) + IntKind.wrap .u64 ((dg m i : Int) + (dg n i : Int))) = ((c + dg m i + dg n i : Nat) : Int) := by
      rw [wu64, wu64]; omega
    rw [if_pos (by omega), limb_ok hm, Option.bind_some, limb_ok hn, Option.bind_some, e, hi_word, Int.toNat_natCast, Nat.zero_add, if_pos (by omega), up (by omega), wu32, Int.natCast_emod]
    rfl
theorem plus_ok {m n : List Int} (hm : Lim m) (hn : Lim n) (hb : m.length < 1073741824) (hb' : n.length < 1073741824) : integer_plus m n = some (limbs (lv m + lv n)) := by
  have hmx : mx2 (m.length : Int) (n.length : Int) = ((max m.length n.length : Nat) : Int) := by unfold mx2; split <;> omega
  obtain ⟨a', c', h1, h2, h3, h4, h5⟩ := plus_loop hm hn (L := max m.length n.length) (by omega) _ 0 (List.replicate (max m.length n.length + 1) 0) 0 rfl (by omega) (by simp) (Lim.replicate _) (by omega) (by simp [lv])
  unfold integer_plus
  simp only [hmx, cite, inC_t, maxL_eq]
  rw [up (by omega), if_pos (by omega), Int.toNat_natCast]
  rw [show ((0 : Nat) : Int) = 0 from rfl] at h1
  rw [h1, Option.bind_some]
  simp only [integer_plus.k0, cite, inB_t]
  rw [if_pos (by omega), Int.toNat_natCast, Nat.zero_add, wu32' (by omega) (by omega), trim_ok (h3.set _ (by omega)) (by simp; omega), Option.bind_some]
  have e : lv (a'.set (max m.length n.length) (c' : Int)) = lv m + lv n := by
    have e1 : a'.set (max m.length n.length) (c' : Int) = (a'.set (max m.length n.length) (c' : Int)).take (max m.length n.length + 1) := by rw [List.take_of_length_le (by simp; omega)]
    rw [e1, take_set _ _ _ (by omega), lv_snoc, List.length_take, Nat.min_eq_left (by omega), h5, List.take_of_length_le (by omega), List.take_of_length_le (by omega)]
  rw [e]
theorem minus_loop {m n : List Int} (hm : Lim m) (hn : Lim n) (hb : m.length < 17592186044416) : ∀ (t i : Nat) (a : List Int) (c : Nat), m.length - i = t → i ≤ m.length → a.length = m.length → Lim a → c ≤ 1 → lv (m.take i) + 4294967296 ^ i * c = lv (a.take i) + lv (n.take i) →
    ∃ (a' : List Int) (c' : Nat), iterL (fun x : List Int × List Int × Int × Int × Int × List Int × Unit => integer_minus.s0 x.1 x.2.1 x.2.2.1 x.2.2.2.1 x.2.2.2.2.1 x.2.2.2.2.2.1) (m, n, (c : Int), (m.length : Int), (i : Int), a, ()) = some (a', ()) ∧
      a'.length = m.length ∧ Lim a' ∧ lv m + 4294967296 ^ m.length * c' = lv a' + lv (n.take m.length) := by
  intro t
  induction t with
  | zero =>
    intro i a c ht hi hl ha hc he
    obtain rfl : i = m.length := by omega
    refine ⟨a, c, iterL_done ?_, hl, ha, ?_⟩
    · simp only [integer_minus.s0, cite, decide_eq_true_eq]
      rw [if_neg (by omega)]
    · rw [List.take_length] at he
      rw [he, List.take_of_length_le (show a.length ≤ m.length by omega)]
  | succ t ih =>
    intro i a c ht hi hl ha hc he
    have hdm := dg_lt hm i
    have hdn := dg_lt hn i
    obtain ⟨d, c', hd, hc', h3⟩ : ∃ d c' : Nat, d < 4294967296 ∧ c' ≤ 1 ∧ dg m i + 4294967296 * c' = c + d + dg n i := by
      by_cases h : dg m i < c + dg n i
      · exact ⟨dg m i + 4294967296 - c - dg n i, 1, by omega, by omega, by omega⟩
      · exact ⟨dg m i - c - dg n i, 0, by omega, by omega, by omega⟩
    obtain ⟨a', cc, h1, h2⟩ := ih (i + 1) (a.set i (d : Int)) c' (by omega) (by omega) (by simpa using hl) (ha.set i (by omega)) hc' (by
      rw [take_set _ _ _ (by omega), lv_snoc, lv_take_succ, lv_take_succ, Nat.pow_succ, List.length_take, Nat.min_eq_left (by omega)]
      have h4 : 4294967296 ^ i * (dg m i + 4294967296 * c') = 4294967296 ^ i * (c + d + dg n i) := by rw [h3]
      rw [Nat.mul_add, Nat.mul_add, Nat.mul_add, ← Nat.mul_assoc] at h4
      omega)
    refine ⟨a', cc, (iterL_next ?_).trans h1, h2⟩
    simp only [integer_minus.s0, integer_minus.j1, cite, decide_eq_true_eq, inB_t]
    rw [if_pos (by omega), limb_ok hn, if_pos (by omega), Option.bind_some, Int.toNat_natCast, gd hm, Nat.zero_add]
    have e : IntKind.wrap .u64 (IntKind.wrap .u64 (IntKind.wrap .u64 (dg m i : Int) - (dg n i : Int)) - (c : Int)) = ((d + 18446744069414584320 * c' : Nat) : Int) := by
      rw [wu64, wu64, wu64]
      have : c' = 0 ∨ c' = 1 := by omega
      rcases this with rfl | rfl <;> omega
    rw [e, top_bit, if_pos (by omega), up (by omega), wu32]
    have e2 : ((d + 18446744069414584320 * c') / 9223372036854775808 : Nat) = c' := by
      have : c' = 0 ∨ c' = 1 := by omega
      rcases this with rfl | rfl <;> omega
    have e3 : ((d + 18446744069414584320 * c' : Nat) : Int) % 4294967296 = (d : Int) := by omega
    rw [e2, e3]
theorem minus_ok {m n : List Int} (hm : Lim m) (hn : Lim n) (hb : m.length ≤ 1073741824) (hl : n.length ≤ m.length) (h : lv n ≤ lv m) : integer_minus m n = some (limbs (lv m - lv n)) := by
  obtain ⟨a', c', h1, h2, h3, h4⟩ := minus_loop hm hn (by omega) _ 0 (List.replicate m.length 0) 0 rfl (by omega) (by simp) (Lim.replicate _) (by omega) (by simp [lv])
  unfold integer_minus
  simp only [cite, inC_t, maxL_eq]
  rw [show ((0 : Nat) : Int) = 0 from rfl] at h1
  rw [if_pos (by omega), Int.toNat_natCast, h1, Option.bind_some]
  simp only [integer_minus.k0]
  rw [trim_ok h3 (by omega), Option.bind_some]
  have e : lv a' = lv m - lv n := by
    rw [List.take_of_length_le hl] at h4
    have h5 := lv_lt h3
    rw [h2] at h5
    have : c' = 0 := by
      cases c' with
      | zero => rfl
      | succ c =>
        have : 4294967296 ^ m.length * 1 ≤ 4294967296 ^ m.length * (c + 1) := Nat.mul_le_mul_left _ (by omega)
        omega
    subst this
    omega
  rw [e]
end Go.Proofs.YtgbndganadelpaaDoor.V
/- Laws: quotient and remainder of integer (a divisor of one word), words of 64 bits, residues. -/
namespace Go.Proofs.YtgbndganadelpaaDoor.V
open Go Go.Proofs.YtgbndganadelpaaDoor.E Go.Proofs.YtgbndganadelpaaDoor.LI
set_option linter.unusedVariables false
set_option linter.unusedSimpArgs false
theorem limbs_one {N : Nat} (h : 0 < N) (h2 : N < 4294967296) : limbs N = [(N : Int)] := by
  rw [limbs_pos (by omega), Nat.mod_eq_of_lt h2, Nat.div_eq_of_lt h2, limbs_zero]
theorem divide_small {M N : Nat} (hM : (limbs M).length ≤ 1073741824) (h : M < N) : integer_divide (limbs M) (limbs N) = some (limbs (M / N), limbs (M % N), ()) := by
  unfold integer_divide
  rw [compare_ok (by omega), Option.bind_some]
  simp only [cite, decide_eq_true_eq]
  rw [cm_lt (by omega), if_pos (by decide), if_pos (show (limbs M).length ≤ maxL from hM), Nat.div_eq_of_lt h, Nat.mod_eq_of_lt h, limbs_zero]
theorem divide_one {M N : Nat} (hM : (limbs M).length ≤ 1073741824) (hN : 0 < N) (hN2 : N < 4294967296) : integer_divide (limbs M) (limbs N) = some (limbs (M / N), limbs (M % N), ()) := by
  by_cases h : M < N
  · exact divide_small hM h
  · unfold integer_divide
    rw [compare_ok (by omega), Option.bind_some]
    simp only [integer_divide.j1, cite, decide_eq_true_eq, inB_t, beq_iff_eq]
    have hr : M % N < N := Nat.mod_lt _ hN
    have hc : ¬ cm (M : Int) (N : Int) < 0 := by unfold cm; split <;> (try split) <;> omega
    have ht : integer_trim [((M % N : Nat) : Int)] = some (limbs (M % N)) := by
      have h1 : Lim [((M % N : Nat) : Int)] := Lim.one (by omega)
      rw [trim_ok h1 (by simp), lv_one, Int.toNat_natCast]
    have hs := shortDivide_ok (lim_limbs M) hM hN hN2
    rw [lv_limbs] at hs
    rw [if_neg hc, limbs_one hN hN2]
    simp only [List.length_singleton, List.getD_cons_zero]
    rw [if_pos (by decide), if_pos (by decide), hs, Option.bind_some, ht, Option.bind_some]
theorem divmod_of {l l' : List Int} (s s' : Bool) (u u' : Unit) (h : Lim l) (h' : Lim l') (hb : l.length < 33554432) (hb' : l'.length < 33554432) (h0 : iv s' l' ≠ 0)
    (hdv : integer_divide (limbs (lv l)) (limbs (lv l')) = some (limbs (lv l / lv l'), limbs (lv l % lv l'), ())) :
    integer_DivMod (s, l, u) (s', l', u') = some (mkI (iv s l / iv s' l'), mkI (iv s l % iv s' l'), true, ()) := by
  have hx := len_lv h
  have hy := len_lv h'
  have hN : 0 < lv l' := by unfold iv at h0; split at h0 <;> omega
  unfold integer_DivMod
  rw [magnitude_ok s' () h' (by omega), Option.bind_some]
  simp only [cite, beq_iff_eq, limbs_len0]
  rw [if_neg (by omega)]
  simp only [integer_DivMod.j1, integer_DivMod.j2, cite, decide_eq_true_eq]
  rw [magnitude_ok s () h (by omega), Option.bind_some, hdv, Option.bind_some]
  generalize hM' : lv l = M at *
  generalize hN' : lv l' = N at *
  have hqM : M / N ≤ M := Nat.div_le_self _ _
  have hrM : M % N < N := Nat.mod_lt _ hN
  have hdm := Nat.div_add_mod M N
  have hlq := len_le hqM
  have hlr := len_le (Nat.le_of_lt hrM)
  generalize M / N = q at *
  generalize M % N = r at *
  have hiv : iv s' l' = if s' = true then -(N : Int) else N := by unfold iv; rw [hN']
  have hia : iv s l = if s = true then -(M : Int) else M := by unfold iv; rw [hM']
  have hab : (iv s' l').natAbs = N := by rw [iv_natAbs, hN']
  have hdz : (N : Int) * (q : Int) + (r : Int) = M := by exact_mod_cast hdm
  have fin : ∀ (Q R : Nat), (limbs Q).length < 17592186044416 → (limbs R).length < 17592186044416 → iv (!(s == s')) (limbs Q) = iv s l / iv s' l' → (R : Int) = iv s l % iv s' l' →
      ((integer_signed (!(s == s')) (limbs Q)).bind fun y8 => (integer_signed false (limbs R)).bind fun y9 => some ((y8.1, (y8.2.1, ())), ((y9.1, (y9.2.1, ())), (true, ())))) = some (mkI (iv s l / iv s' l'), mkI (iv s l % iv s' l'), true, ()) := by
    intro Q R h1 h2 h3 h4
    rw [signed_ok _ (lim_limbs Q) h1, Option.bind_some, signed_ok _ (lim_limbs R) h2, Option.bind_some, h3, iv_f, lv_limbs, h4]
  cases hs : s with
  | true =>
    rw [if_pos rfl]
    rw [hs] at hia fin
    rw [if_pos rfl] at hia
    have hlen0 := limbs_len0 r
    by_cases hr0 : r = 0
    · rw [if_neg (by show ¬ (((limbs r).length : Nat) : Int) > 0; rw [hr0]; decide)]
      have := ediv_of (a := iv true l) (b := iv s' l') (Q := iv (!(true == s')) (limbs q)) (R := (r : Int)) (by
        rw [hia, hiv]; cases s'
        · rw [show (!(true == false)) = true from rfl, iv_t, lv_limbs]; simp only [Bool.false_eq_true, if_false, Int.mul_neg]; omega
        · rw [show (!(true == true)) = false from rfl, iv_f, lv_limbs]; simp only [if_true, Int.neg_mul]; omega) (by omega) (by rw [hab]; omega) h0
      exact fin q r (by omega) (by omega) this.1.symm this.2.symm
    · have hpl := limbs_len_pos.2 hr0
      have hp := plus_ok (lim_limbs q) (n := [1]) (Lim.one (by omega)) (by omega) (by simp)
      rw [lv_limbs, lv_one] at hp
      have hmn := minus_ok (lim_limbs N) (lim_limbs r) (by omega) hlr (by rw [lv_limbs, lv_limbs]; omega)
      rw [lv_limbs, lv_limbs] at hmn
      rw [if_pos (show (((limbs r).length : Nat) : Int) > 0 by omega), hp, Option.bind_some, hmn, Option.bind_some]
      have := ediv_of (a := iv true l) (b := iv s' l') (Q := iv (!(true == s')) (limbs (q + 1))) (R := ((N - r : Nat) : Int)) (by
        rw [hia, hiv]; cases s'
        · rw [show (!(true == false)) = true from rfl, iv_t, lv_limbs]; simp only [Bool.false_eq_true, if_false, Int.mul_neg, Int.natCast_add, Int.natCast_one, Int.mul_add, Int.mul_one]; omega
        · rw [show (!(true == true)) = false from rfl, iv_f, lv_limbs]; simp only [if_true, Int.neg_mul, Int.natCast_add, Int.natCast_one, Int.mul_add, Int.mul_one]; omega) (by omega) (by rw [hab]; omega) h0
      have hq1 : (limbs (q + 1)).length ≤ (limbs q).length + 1 := limbs_len.2 (by
        have := limbs_len.1 (Nat.le_refl (limbs q).length)
        rw [Nat.pow_succ]; omega)
      have hnr := len_le (show N - r ≤ N by omega)
      exact fin (q + 1) (N - r) (by omega) (by omega) this.1.symm this.2.symm
  | false =>
    rw [if_neg (by decide)]
    rw [hs] at hia fin
    rw [if_neg (by decide)] at hia
    have := ediv_of (a := iv false l) (b := iv s' l') (Q := iv (!(false == s')) (limbs q)) (R := (r : Int)) (by
        rw [hia, hiv]; cases s'
        · rw [show (!(false == false)) = false from rfl, iv_f, lv_limbs]; simp only [Bool.false_eq_true, if_false]; omega
        · rw [show (!(false == true)) = true from rfl, iv_t, lv_limbs]; simp only [if_true, Int.neg_mul, Int.mul_neg, Int.neg_neg]; omega) (by omega) (by rw [hab]; omega) h0
    exact fin q r (by omega) (by omega) this.1.symm this.2.symm
end Go.Proofs.YtgbndganadelpaaDoor.V
/- Laws: products. -/
namespace Go.Proofs.YtgbndganadelpaaDoor.V
open Go Go.Proofs.YtgbndganadelpaaDoor.E Go.Proofs.YtgbndganadelpaaDoor.LI
set_option linter.unusedVariables false
set_option linter.unusedSimpArgs false
theorem lv_put (l : List Int) {i : Nat} (hi : i < l.length) (x : Nat) : lv (l.set i (x : Int)) + 4294967296 ^ i * dg l i = lv l + 4294967296 ^ i * x := by
  rw [lv_split (l.set i (x : Int)) i (by simp; omega), lv_split l i (by omega), drop_set l i _ hi, lv_cons, drop_dg hi, List.take_set_of_le (by omega)]
  rw [Nat.mul_add, Nat.mul_add]
  omega
theorem dg_put_ne (l : List Int) {i k : Nat} (h : i ≠ k) (x : Int) : dg (l.set i x) k = dg l k := by
  unfold dg
  rw [List.getD_eq_getElem?_getD, List.getD_eq_getElem?_getD, List.getElem?_set_ne h]
theorem mul_le {a b : Nat} (ha : a < 4294967296) (hb : b < 4294967296) : a * b ≤ 18446744065119617025 := by
  have := Nat.mul_le_mul (show a ≤ 4294967295 by omega) (show b ≤ 4294967295 by omega)
  omega
theorem times_inner {m n : List Int} (hm : Lim m) (hn : Lim n) {i : Nat} (hi : i < m.length) (hb : m.length + n.length < 17592186044416) : ∀ (t j : Nat) (a : List Int) (c A0 : Nat), n.length - j = t → j ≤ n.length → a.length = m.length + n.length → Lim a → c < 4294967296 →
    dg a (i + n.length) = 0 → lv a + 4294967296 ^ (i + j) * c = A0 + 4294967296 ^ i * (dg m i * lv (n.take j)) →
    ∃ (a' : List Int) (c' : Nat), iterL (fun x : List Int × List Int × Int × Int × Int × Int × Int × Int × List Int × Unit => integer_times.s0 x.1 x.2.1 x.2.2.1 x.2.2.2.1 x.2.2.2.2.1 x.2.2.2.2.2.1 x.2.2.2.2.2.2.1 x.2.2.2.2.2.2.2.1 x.2.2.2.2.2.2.2.2.1) (m, n, (i : Int), (c : Int), (m.length : Int), (i : Int), (n.length : Int), (j : Int), a, ()) = some (m, n, (i : Int), (c' : Int), (m.length : Int), (i : Int), a', ()) ∧
      a'.length = m.length + n.length ∧ Lim a' ∧ c' < 4294967296 ∧ dg a' (i + n.length) = 0 ∧ lv a' + 4294967296 ^ (i + n.length) * c' = A0 + 4294967296 ^ i * (dg m i * lv n) := by
  intro t
  induction t with
  | zero =>
    intro j a c A0 ht hj hl ha hc hd he
    obtain rfl : j = n.length := by omega
    refine ⟨a, c, iterL_done ?_, hl, ha, hc, hd, by rw [he, List.take_length]⟩
    simp only [integer_times.s0, cite, decide_eq_true_eq]
    rw [if_neg (by omega)]
  | succ t ih =>
    intro j a c A0 ht hj hl ha hc hd he
    have h1 := dg_lt hm i
    have h2 := dg_lt hn j
    have h3 := dg_lt ha (i + j)
    have hp := mul_le h1 h2
    have hv := lv_put a (i := i + j) (by omega) ((c + (dg m i * dg n j + dg a (i + j))) % 4294967296)
    obtain ⟨a', c', g1, g2⟩ := ih (j + 1) (a.set (i + j) (((c + (dg m i * dg n j + dg a (i + j))) % 4294967296 : Nat) : Int)) ((c + (dg m i * dg n j + dg a (i + j))) / 4294967296) A0 (by omega) (by omega) (by simpa using hl) (ha.set _ (by omega)) (by omega)
      (by rw [dg_put_ne _ (by omega)]; exact hd) (by
        rw [lv_take_succ, show i + (j + 1) = (i + j) + 1 from rfl, Nat.pow_succ]
        have e1 : 4294967296 ^ (i + j) * (c + (dg m i * dg n j + dg a (i + j))) = 4294967296 ^ (i + j) * ((c + (dg m i * dg n j + dg a (i + j))) % 4294967296) + 4294967296 ^ (i + j) * 4294967296 * ((c + (dg m i * dg n j + dg a (i + j))) / 4294967296) := by
          rw [Nat.mul_assoc, ← Nat.mul_add, Nat.mod_add_div]
        have e2 : 4294967296 ^ i * (dg m i * (lv (n.take j) + 4294967296 ^ j * dg n j)) = 4294967296 ^ i * (dg m i * lv (n.take j)) + 4294967296 ^ (i + j) * (dg m i * dg n j) := by
          rw [Nat.mul_add, Nat.mul_add, Nat.pow_add, Nat.mul_left_comm (dg m i), ← Nat.mul_assoc (4294967296 ^ i) (4294967296 ^ j)]
        rw [e2]
        rw [Nat.mul_add, Nat.mul_add] at e1
        omega)
    refine ⟨a', c', (iterL_next ?_).trans g1, g2⟩
    simp only [integer_times.s0, integer_times.j2, cite, decide_eq_true_eq, inB_t]
    have w1 : IntKind.wrap .i64 ((i : Int) + (j : Int)) = ((i + j : Nat) : Int) := by rw [wi64 (by omega) (by omega)]; rfl
    have w2 : IntKind.wrap .u64 (IntKind.wrap .u64 ((dg m i : Int) * (dg n j : Int)) + IntKind.wrap .u64 (dg a (i + j) : Int)) = ((dg m i * dg n j + dg a (i + j) : Nat) : Int) := by
      rw [← Int.natCast_mul, wu64' (x := ((dg m i * dg n j : Nat) : Int)) (by omega) (by omega), wu64' (x := (dg a (i + j) : Int)) (by omega) (by omega), wu64' (by omega) (by omega)]
      rfl
    have w3 : IntKind.wrap .u64 ((c : Int) + ((dg m i * dg n j + dg a (i + j) : Nat) : Int)) = ((c + (dg m i * dg n j + dg a (i + j)) : Nat) : Int) := by
      rw [wu64' (by omega) (by omega)]; rfl
    rw [if_pos (by omega), if_pos (by omega), if_pos (by omega), w1, if_pos (by omega), if_pos (by omega)]
    simp only [Int.toNat_natCast, Nat.zero_add]
    rw [gd hm, gd hn, gd ha, wu64' (x := (dg m i : Int)) (by omega) (by omega), wu64' (x := (dg n j : Int)) (by omega) (by omega), w2, w3, hi_word, up (by omega), wu32, Int.natCast_emod]
    rfl
theorem times_outer {m n : List Int} (hm : Lim m) (hn : Lim n) (hb : m.length + n.length < 17592186044416) : ∀ (t i : Nat) (a : List Int), m.length - i = t → i ≤ m.length → a.length = m.length + n.length → Lim a → lv a = lv (m.take i) * lv n →
    ∃ a' : List Int, iterL (fun x : List Int × List Int × Int × Int × List Int × Unit => integer_times.s1 x.1 x.2.1 x.2.2.1 x.2.2.2.1 x.2.2.2.2.1) (m, n, (m.length : Int), (i : Int), a, ()) = some (a', ()) ∧ a'.length = m.length + n.length ∧ Lim a' ∧ lv a' = lv m * lv n := by
  intro t
  induction t with
  | zero =>
    intro i a ht hi hl ha he
    obtain rfl : i = m.length := by omega
    refine ⟨a, iterL_done ?_, hl, ha, by rw [he, List.take_length]⟩
    simp only [integer_times.s1, cite, decide_eq_true_eq]
    rw [if_neg (by omega)]
  | succ t ih =>
    intro i a ht hi hl ha he
    have hd : dg a (i + n.length) = 0 := by
      have b1 := lv_lt (hm.take i)
      have b2 := lv_lt hn
      rw [List.length_take, Nat.min_eq_left hi] at b1
      have : lv a < 4294967296 ^ (i + n.length) := by
        rw [he, Nat.pow_add]
        exact Nat.lt_of_le_of_lt (Nat.mul_le_mul_right _ (Nat.le_of_lt b1)) (Nat.mul_lt_mul_of_pos_left b2 (Nat.pow_pos (by omega)))
      rw [dg_lv ha, Nat.div_eq_of_lt this]
    obtain ⟨a1, c1, g1, g2, g3, g4, g5, g6⟩ := times_inner hm hn (i := i) (by omega) hb _ 0 a 0 (lv a) rfl (by omega) hl ha (by omega) hd (by simp [lv])
    have hv := lv_put a1 (i := i + n.length) (by omega) c1
    rw [g5, Nat.mul_zero, Nat.add_zero, g6, he] at hv
    obtain ⟨a', q1, q2⟩ := ih (i + 1) (a1.set (i + n.length) (c1 : Int)) (by omega) (by omega) (by simpa using g2) (g3.set _ (by omega)) (by
      rw [hv, lv_take_succ, Nat.add_mul, Nat.mul_assoc])
    refine ⟨a', (iterL_next ?_).trans q1, q2⟩
    simp only [integer_times.s1, integer_times.j1, cite, decide_eq_true_eq]
    rw [show ((0 : Nat) : Int) = 0 from rfl] at g1
    rw [if_pos (by omega), g1, Option.bind_some]
    simp only [integer_times.k0, cite, inB_t]
    have w1 : IntKind.wrap .i64 ((i : Int) + ((n.length : Nat) : Int)) = ((i + n.length : Nat) : Int) := by rw [wi64 (by omega) (by omega)]; rfl
    rw [w1, if_pos (by omega), Int.toNat_natCast, Nat.zero_add, up (by omega), wu32' (by omega) (by omega)]
theorem times_ok {m n : List Int} (hm : Lim m) (hn : Lim n) (hb : m.length + n.length ≤ 1073741824) : integer_times m n = some (limbs (lv m * lv n)) := by
  obtain ⟨a', g1, g2, g3, g4⟩ := times_outer hm hn (by omega) _ 0 (List.replicate (m.length + n.length) 0) rfl (by omega) (by simp) (Lim.replicate _) (by rw [lv_zeros]; simp [lv])
  have w1 : IntKind.wrap .i64 ((m.length : Int) + (n.length : Int)) = ((m.length + n.length : Nat) : Int) := by rw [wi64 (by omega) (by omega)]; rfl
  unfold integer_times
  simp only [w1, cite, inC_t, maxL_eq]
  rw [show ((0 : Nat) : Int) = 0 from rfl] at g1
  rw [if_pos (by omega), Int.toNat_natCast, g1, Option.bind_some]
  simp only [integer_times.k1]
  rw [trim_ok g3 (by omega), Option.bind_some, g4]
theorem mul_ok {l l' : List Int} (s s' : Bool) (u u' : Unit) (h : Lim l) (h' : Lim l') (hb : l.length + l'.length ≤ 1073741824) : integer_Mul (s, l, u) (s', l', u') = some (mkI (iv s l * iv s' l')) := by
  have hx := len_lv h
  have hy := len_lv h'
  unfold integer_Mul
  rw [magnitude_ok s () h (by omega), Option.bind_some, magnitude_ok s' () h' (by omega), Option.bind_some, times_ok (lim_limbs _) (lim_limbs _) (by omega), Option.bind_some, lv_limbs, lv_limbs]
  have hlen : (limbs (lv l * lv l')).length ≤ l.length + l'.length := limbs_len.2 (by
    rw [Nat.pow_add]
    have b1 := lv_lt h
    have b2 := lv_lt h'
    exact Nat.lt_of_le_of_lt (Nat.mul_le_mul_right _ (Nat.le_of_lt b1)) (Nat.mul_lt_mul_of_pos_left b2 (Nat.pow_pos (by omega))))
  rw [signed_ok _ (lim_limbs _) (by omega), Option.bind_some]
  have : iv (!(s == s')) (limbs (lv l * lv l')) = iv s l * iv s' l' := by
    cases s <;> cases s' <;> simp [iv, lv_limbs, Int.natCast_mul, Int.mul_neg, Int.neg_mul]
  rw [this]
theorem mulI (a b : Int) (h : (limbs a.natAbs).length + (limbs b.natAbs).length ≤ 1073741824) : integer_Mul (mkI a) (mkI b) = some (mkI (a * b)) := by
  have := mul_ok (mkI a).1 (mkI b).1 () () (lim_mkI a) (lim_mkI b) h
  rwa [iv_mkI, iv_mkI] at this
end Go.Proofs.YtgbndganadelpaaDoor.V
/- Laws of integer: leading zeros, shift, unshift. -/
namespace Go.Proofs.YtgbndganadelpaaDoor.V
open Go Go.Proofs.YtgbndganadelpaaDoor.E Go.Proofs.YtgbndganadelpaaDoor.LI
set_option linter.unusedVariables false
set_option linter.unusedSimpArgs false
theorem len_tab24 : ∀ k : Fin 256, k.val ≠ 0 → bits_Len32.j2 (k.val : Int) 24 = some (((24 + (Nat.log2 k.val + 1) : Nat)) : Int) := by decide +kernel
theorem len_tab16 : ∀ k : Fin 256, k.val ≠ 0 → bits_Len32.j3 (k.val : Int) = some (((16 + (Nat.log2 k.val + 1) : Nat)) : Int) := by decide +kernel
theorem len_tab8 : ∀ k : Fin 256, k.val ≠ 0 → bits_Len32.j2 (k.val : Int) 8 = some (((8 + (Nat.log2 k.val + 1) : Nat)) : Int) := by decide +kernel
theorem len_tab0 : ∀ k : Fin 256, k.val ≠ 0 → bits_Len32.j5 (k.val : Int) = some (((0 + (Nat.log2 k.val + 1) : Nat)) : Int) := by decide +kernel
theorem len_t24 (k : Nat) (h : k < 256) (h0 : k ≠ 0) : bits_Len32.j2 (k : Int) 24 = some (((24 + (Nat.log2 k + 1) : Nat)) : Int) := len_tab24 ⟨k, h⟩ h0
theorem len_t16 (k : Nat) (h : k < 256) (h0 : k ≠ 0) : bits_Len32.j3 (k : Int) = some (((16 + (Nat.log2 k + 1) : Nat)) : Int) := len_tab16 ⟨k, h⟩ h0
theorem len_t8 (k : Nat) (h : k < 256) (h0 : k ≠ 0) : bits_Len32.j2 (k : Int) 8 = some (((8 + (Nat.log2 k + 1) : Nat)) : Int) := len_tab8 ⟨k, h⟩ h0
theorem len_t0 (k : Nat) (h : k < 256) (h0 : k ≠ 0) : bits_Len32.j5 (k : Int) = some (((0 + (Nat.log2 k + 1) : Nat)) : Int) := len_tab0 ⟨k, h⟩ h0
theorem log_scale {x y : Nat} (c : Nat) (hy : y = x / 2 ^ c) (h : y ≠ 0) : 2 ^ (c + (Nat.log2 y + 1) - 1) ≤ x ∧ x < 2 ^ (c + (Nat.log2 y + 1)) := by
  subst hy
  have h1 := Nat.log2_self_le h
  have h2 := @Nat.lt_log2_self (x / 2 ^ c)
  constructor
  · rw [show c + (Nat.log2 (x / 2 ^ c) + 1) - 1 = Nat.log2 (x / 2 ^ c) + c by omega, Nat.pow_add]
    exact Nat.le_trans (Nat.mul_le_mul_right _ h1) (Nat.div_mul_le_self _ _)
  · rw [Nat.add_comm, Nat.pow_add]
    exact (Nat.div_lt_iff_lt_mul (Nat.two_pow_pos c)).1 h2
theorem len32 {x : Nat} (h0 : 0 < x) (h1 : x < 4294967296) : ∃ e : Nat, bits_Len32 (x : Int) = some (e : Int) ∧ 2 ^ (e - 1) ≤ x ∧ x < 2 ^ e := by
  have s16 := shr32 x 16 (by omega)
  rw [show ((16 : Nat) : Int) = 16 from rfl, show (2 : Nat) ^ 16 = 65536 from rfl] at s16
  unfold bits_Len32
  simp only [cite, decide_eq_true_eq, bits_Len32.j1, bits_Len32.j4]
  rw [s16]
  by_cases c1 : 65536 ≤ x
  · rw [if_pos (by omega)]
    have s8 := shr32 (x / 65536) 8 (by omega)
    rw [show ((8 : Nat) : Int) = 8 from rfl, show (2 : Nat) ^ 8 = 256 from rfl] at s8
    rw [s8]
    by_cases c2 : 256 ≤ x / 65536
    · rw [if_pos (by omega), show IntKind.wrap .i64 ((16 : Int) + 8) = 24 by rw [wi64 (by decide) (by decide)]; rfl]
      obtain ⟨y, hy⟩ : ∃ y, y = x / 65536 / 256 := ⟨_, rfl⟩
      rw [← hy]
      exact ⟨_, len_t24 y (by omega) (by omega), log_scale 24 (by rw [hy, Nat.div_div_eq_div_mul]) (by omega)⟩
    · rw [if_neg (by omega)]
      obtain ⟨y, hy⟩ : ∃ y, y = x / 65536 := ⟨_, rfl⟩
      rw [← hy]
      exact ⟨_, len_t16 y (by omega) (by omega), log_scale 16 hy (by omega)⟩
  · rw [if_neg (by omega)]
    have s8 := shr32 x 8 (by omega)
    rw [show ((8 : Nat) : Int) = 8 from rfl, show (2 : Nat) ^ 8 = 256 from rfl] at s8
    rw [s8]
    by_cases c2 : 256 ≤ x
    · rw [if_pos (by omega), show IntKind.wrap .i64 ((0 : Int) + 8) = 8 by rw [wi64 (by decide) (by decide)]; rfl]
      obtain ⟨y, hy⟩ : ∃ y, y = x / 256 := ⟨_, rfl⟩
      rw [← hy]
      exact ⟨_, len_t8 y (by omega) (by omega), log_scale 8 hy (by omega)⟩
    · rw [if_neg (by omega)]
      exact ⟨_, len_t0 x (by omega) (by omega), log_scale 0 (by omega) (by omega)⟩
theorem lz32 {x : Nat} (h0 : 0 < x) (h1 : x < 4294967296) : ∃ s : Nat, s < 32 ∧ bits_LeadingZeros32 (x : Int) = some (s : Int) ∧ 2147483648 ≤ x * 2 ^ s ∧ x * 2 ^ s < 4294967296 := by
  obtain ⟨e, h2, h3, h4⟩ := len32 h0 h1
  have he : 1 ≤ e := by
    rcases Nat.eq_zero_or_pos e with rfl | h
    · simp at h4; omega
    · exact h
  have he2 : e ≤ 32 := by
    apply Classical.byContradiction
    intro h
    have := Nat.pow_le_pow_right (show 2 > 0 by omega) (show 32 ≤ e - 1 by omega)
    omega
  refine ⟨32 - e, by omega, ?_, ?_, ?_⟩
  · unfold bits_LeadingZeros32
    rw [h2, Option.bind_some, wi64 (by omega) (by omega)]
    congr 1; omega
  · have := Nat.mul_le_mul_right (2 ^ (32 - e)) h3
    rw [← Nat.pow_add, show e - 1 + (32 - e) = 31 by omega] at this
    omega
  · have := Nat.mul_lt_mul_of_pos_right h4 (Nat.two_pow_pos (32 - e))
    rw [← Nat.pow_add, show e + (32 - e) = 32 by omega] at this
    omega
theorem two32 (s : Nat) (h : s < 32) : ∃ c, 2 ^ s * c = 4294967296 ∧ 0 < c := ⟨2 ^ (32 - s), by rw [← Nat.pow_add, show s + (32 - s) = 32 by omega], Nat.two_pow_pos _⟩
theorem shift_loop {l : List Int} (hl : Lim l) {s : Nat} (hs : s < 32) (hb : l.length < 17592186044416) : ∀ (t i : Nat) (a : List Int), l.length - i = t → i ≤ l.length → a.length = l.length + 1 → Lim a → lv a = 2 ^ s * lv (l.take i) →
    ∃ a' : List Int, iterL (fun x : List Int × Int × Int × Int × List Int × Unit => integer_shift.s0 x.1 x.2.1 x.2.2.1 x.2.2.2.1 x.2.2.2.2.1) (l, (s : Int), (l.length : Int), (i : Int), a, ()) = some (a', ()) ∧ a'.length = l.length + 1 ∧ Lim a' ∧ lv a' = 2 ^ s * lv l := by
  intro t
  induction t with
  | zero =>
    intro i a ht hi hl' ha he
    obtain rfl : i = l.length := by omega
    refine ⟨a, iterL_done ?_, hl', ha, by rw [he, List.take_length]⟩
    simp only [integer_shift.s0, cite, decide_eq_true_eq]
    rw [if_neg (by omega)]
  | succ t ih =>
    intro i a ht hi hl' ha he
    have hd := dg_lt hl i
    obtain ⟨c, hc, hc0⟩ := two32 s hs
    have hp : 0 < 4294967296 ^ i := Nat.pow_pos (by omega)
    have h2s : 0 < 2 ^ s := Nat.two_pow_pos s
    have hlt : lv a < 4294967296 ^ i * 2 ^ s := by
      have := lv_lt (hl.take i)
      rw [List.length_take, Nat.min_eq_left hi] at this
      rw [he, Nat.mul_comm]
      exact Nat.mul_lt_mul_of_pos_right this h2s
    have ho : dg a i < 2 ^ s := by
      rw [dg_lv ha]
      exact Nat.lt_of_le_of_lt (Nat.mod_le _ _) ((Nat.div_lt_iff_lt_mul hp).2 (by rw [Nat.mul_comm]; exact hlt))
    have ho1 : dg a (i + 1) = 0 := by
      rw [dg_lv ha, Nat.div_eq_of_lt]
      rw [Nat.pow_succ]
      exact Nat.lt_of_lt_of_le hlt (Nat.mul_le_mul_left _ (by rw [← hc]; exact Nat.le_mul_of_pos_right _ hc0))
    obtain ⟨w, hw⟩ : ∃ w, w = 2 ^ s * dg l i := ⟨_, rfl⟩
    have hw2 : w < 18446744073709551616 := by
      have := Nat.mul_lt_mul_of_lt_of_le (show dg l i < 4294967296 from hd) (show 2 ^ s ≤ 4294967296 by rw [← hc]; exact Nat.le_mul_of_pos_right _ hc0) (by omega)
      rw [hw, Nat.mul_comm]; omega
    have hw3 : w / 4294967296 < 4294967296 := by omega
    have hwl : w % 4294967296 = 2 ^ s * (dg l i % c) := by rw [hw, ← hc, Nat.mul_mod_mul_left]
    have hor : orI .u32 ((dg a i : Nat) : Int) ((w % 4294967296 : Nat) : Int) = ((dg a i + w % 4294967296 : Nat) : Int) := by
      have := dg_lt ha i
      rw [or32_nat _ _ this (by omega), Nat.or_comm, hwl, ← Nat.two_pow_add_eq_or_of_lt ho, Nat.add_comm]
    have hsum : dg a i + w % 4294967296 < 4294967296 := by
      have h3 : dg l i % c + 1 ≤ c := Nat.mod_lt _ hc0
      have h4 := Nat.mul_le_mul_left (2 ^ s) h3
      rw [Nat.mul_add, Nat.mul_one, hc] at h4
      omega
    have v1 := lv_put a (i := i) (by omega) (dg a i + w % 4294967296)
    have v2 := lv_put (a.set i ((dg a i + w % 4294967296 : Nat) : Int)) (i := i + 1) (by rw [List.length_set]; omega) (w / 4294967296)
    rw [dg_put_ne _ (by omega), ho1, Nat.mul_zero, Nat.add_zero] at v2
    obtain ⟨a', g1, g2⟩ := ih (i + 1) ((a.set i ((dg a i + w % 4294967296 : Nat) : Int)).set (i + 1) ((w / 4294967296 : Nat) : Int)) (by omega) (by omega) (by simpa using hl') ((ha.set _ (by omega)).set _ (by omega)) (by
      rw [v2, lv_take_succ, Nat.mul_add, ← he, Nat.mul_left_comm, ← hw, Nat.pow_succ, Nat.mul_assoc]
      have e : 4294967296 ^ i * w = 4294967296 ^ i * (w % 4294967296) + 4294967296 ^ i * (4294967296 * (w / 4294967296)) := by rw [← Nat.mul_add, Nat.mod_add_div]
      rw [Nat.mul_add] at v1
      omega)
    refine ⟨a', (iterL_next ?_).trans g1, g2⟩
    have hsh := @shl_nat (dg l i) s (by omega) (by rw [Nat.mul_comm, ← hw]; exact hw2)
    rw [← hw] at hsh
    simp only [integer_shift.s0, integer_shift.j1, cite, decide_eq_true_eq, inB_t]
    have wl : IntKind.wrap .u32 ((w : Nat) : Int) = ((w % 4294967296 : Nat) : Int) := by rw [wu32]; omega
    rw [if_pos (by omega), if_pos (by omega), if_neg (by omega), if_pos (by omega), Int.toNat_natCast, Nat.zero_add, gd hl, gd ha, wu64' (x := ((dg l i : Nat) : Int)) (by omega) (by omega), hsh, wl, hor, hi_word, up (by omega), wu32' (by omega) (by omega), if_pos (by omega), if_pos (by rw [List.length_set]; omega), Int.toNat_natCast, Nat.zero_add]
theorem shift_ok {l : List Int} (hl : Lim l) {s : Nat} (hs : s < 32) (hb : l.length < 1073741824) : ∃ r : List Int, integer_shift l (s : Int) = some r ∧ r.length = l.length + 1 ∧ Lim r ∧ lv r = 2 ^ s * lv l := by
  obtain ⟨a', g1, g2, g3, g4⟩ := shift_loop hl hs (by omega) _ 0 (List.replicate (l.length + 1) 0) rfl (by omega) (by simp) (Lim.replicate _) (by rw [lv_zeros]; simp [lv])
  refine ⟨a', ?_, g2, g3, g4⟩
  unfold integer_shift
  simp only [cite, inC_t, maxL_eq]
  rw [show ((0 : Nat) : Int) = 0 from rfl] at g1
  rw [up (by omega), if_pos (by omega), Int.toNat_natCast, g1, Option.bind_some]
  rfl
theorem unshift_loop {l : List Int} (hl : Lim l) {s : Nat} (hs : s < 32) (hb : l.length < 17592186044416) : ∀ (t i : Nat) (a : List Int), l.length - i = t → i ≤ l.length → a.length = l.length → Lim a → 2 ^ s * lv (a.take i) + dg l 0 % 2 ^ s = lv (l.take i) + 4294967296 ^ i * (dg l i % 2 ^ s) →
    ∃ a' : List Int, iterL (fun x : List Int × Int × Int × Int × List Int × Unit => integer_unshift.s0 x.1 x.2.1 x.2.2.1 x.2.2.2.1 x.2.2.2.2.1) (l, (s : Int), (l.length : Int), (i : Int), a, ()) = some (a', ()) ∧ a'.length = l.length ∧ Lim a' ∧ 2 ^ s * lv a' + dg l 0 % 2 ^ s = lv l := by
  intro t
  induction t with
  | zero =>
    intro i a ht hi hl' ha he
    obtain rfl : i = l.length := by omega
    refine ⟨a, iterL_done ?_, hl', ha, ?_⟩
    · simp only [integer_unshift.s0, cite, decide_eq_true_eq]
      rw [if_neg (by omega)]
    · rw [List.take_length, dg_out (i := l.length) (by omega), Nat.zero_mod, Nat.mul_zero, List.take_of_length_le (by omega)] at he
      exact he
  | succ t ih =>
    intro i a ht hi hl' ha he
    have hd := dg_lt hl i
    have hd1 := dg_lt hl (i + 1)
    obtain ⟨c, hc, hc0⟩ := two32 s hs
    have h2s : 0 < 2 ^ s := Nat.two_pow_pos s
    obtain ⟨w, hw⟩ : ∃ w, w = (4294967296 * dg l (i + 1) + dg l i) / 2 ^ s := ⟨_, rfl⟩
    have hw1 : w % 4294967296 = dg l i / 2 ^ s + dg l (i + 1) % 2 ^ s * c := by
      have e : w = c * dg l (i + 1) + dg l i / 2 ^ s := by
        rw [hw, ← hc, Nat.mul_assoc, Nat.mul_add_div h2s]
      have e2 := Nat.div_add_mod (dg l (i + 1)) (2 ^ s)
      have e3 : w = (dg l i / 2 ^ s + dg l (i + 1) % 2 ^ s * c) + 4294967296 * (dg l (i + 1) / 2 ^ s) := by
        rw [e]
        have : c * dg l (i + 1) = c * (2 ^ s * (dg l (i + 1) / 2 ^ s)) + c * (dg l (i + 1) % 2 ^ s) := by rw [← Nat.mul_add, e2]
        rw [this, ← hc, Nat.mul_comm c (dg l (i + 1) % 2 ^ s), ← Nat.mul_assoc, Nat.mul_comm c]
        omega
      have hlow : dg l i / 2 ^ s < c := by rw [Nat.div_lt_iff_lt_mul h2s, Nat.mul_comm, hc]; exact hd
      have hup : (dg l (i + 1) % 2 ^ s + 1) * c ≤ 2 ^ s * c := Nat.mul_le_mul_right _ (Nat.mod_lt _ h2s)
      rw [Nat.add_mul, Nat.one_mul, hc] at hup
      rw [e3, Nat.add_mul_mod_self_left, Nat.mod_eq_of_lt (by omega)]
    obtain ⟨a', g1, g2⟩ := ih (i + 1) (a.set i ((w % 4294967296 : Nat) : Int)) (by omega) (by omega) (by simpa using hl') (ha.set _ (by omega)) (by
      rw [take_set _ _ _ (by omega), lv_snoc, lv_take_succ, List.length_take, Nat.min_eq_left (by omega), Nat.mul_add, Nat.pow_succ, Nat.mul_left_comm]
      have e : 2 ^ s * (w % 4294967296) = 2 ^ s * (dg l i / 2 ^ s) + 4294967296 * (dg l (i + 1) % 2 ^ s) := by
        rw [hw1, Nat.mul_add, ← hc, Nat.mul_comm (dg l (i + 1) % 2 ^ s) c, Nat.mul_assoc]
      rw [e, Nat.mul_assoc]
      have e4 : 4294967296 ^ i * dg l i = 4294967296 ^ i * (2 ^ s * (dg l i / 2 ^ s)) + 4294967296 ^ i * (dg l i % 2 ^ s) := by rw [← Nat.mul_add, Nat.div_add_mod]
      rw [Nat.mul_add, e4]
      omega)
    refine ⟨a', (iterL_next ?_).trans g1, g2⟩
    have hsr := @shr_nat (4294967296 * dg l (i + 1) + dg l i) s (by omega)
    rw [← hw] at hsr
    have wl : IntKind.wrap .u32 ((w : Nat) : Int) = ((w % 4294967296 : Nat) : Int) := by rw [wu32]; omega
    simp only [integer_unshift.s0, integer_unshift.j1, cite, decide_eq_true_eq, inB_t]
    rw [if_pos (by omega), up (by omega), limb_ok hl, Option.bind_some, if_pos (by omega), if_neg (by omega), if_pos (by omega), Int.toNat_natCast, Nat.zero_add, gd hl, pack hd1 hd, hsr, wl]
theorem unshift_ok {l : List Int} (hl : Lim l) {s : Nat} (hs : s < 32) (hb : l.length ≤ 1073741824) : integer_unshift l (s : Int) = some (limbs (lv l / 2 ^ s)) := by
  obtain ⟨a', g1, g2, g3, g4⟩ := unshift_loop hl hs (by omega) _ 0 (List.replicate l.length 0) rfl (by omega) (by simp) (Lim.replicate _) (by simp [lv])
  have h2s : 0 < 2 ^ s := Nat.two_pow_pos s
  have he : lv a' = lv l / 2 ^ s := by
    rw [← g4, Nat.mul_add_div h2s, Nat.div_eq_of_lt (Nat.mod_lt _ h2s), Nat.add_zero]
  unfold integer_unshift
  simp only [cite, inC_t, maxL_eq]
  rw [show ((0 : Nat) : Int) = 0 from rfl] at g1
  rw [if_pos (by omega), Int.toNat_natCast, g1, Option.bind_some]
  simp only [integer_unshift.k0]
  rw [trim_ok g3 (by omega), Option.bind_some, he]
end Go.Proofs.YtgbndganadelpaaDoor.V
