/- Laws: products. -/
import Derived.Test.YtbchgegclgpdhaaYBernoulliClasses12
namespace Go.Proofs.Ytbchgegclgpdhaa.V
open Go Go.Proofs.Ytbchgegclgpdhaa.E Go.Proofs.Ytbchgegclgpdhaa.LI
set_option linter.unusedVariables false
set_option linter.unusedSimpArgs false
theorem lv_put (l : List Int) {i : Nat} (hi : i < l.length) (x : Nat) : lv (l.set i (x : Int)) + 4294967296 ^ i * dg l i = lv l + 4294967296 ^ i * x := by
  rw [lv_split (l.set i (x : Int)) i (by simp; omega), lv_split l i (by omega), drop_set l i _ hi, lv_cons, drop_dg hi, List.take_set_of_le (by omega)]
  rw [Nat.mul_add, Nat.mul_add]
  omega
theorem dg_put_ne (l : List Int) {i k : Nat} (h : i ≠ k) (x : Int) : dg (l.set i x) k = dg l k := by
  unfold dg
  rw [List.getD_eq_getElem?_getD, List.getD_eq_getElem?_getD, List.getElem?_set_ne h]
theorem mul_le {a b : Nat} (ha : a < 4294967296) (hb : b < 4294967296) : a * b ≤ 18446744065119617025 := by
  have := Nat.mul_le_mul (show a ≤ 4294967295 by omega) (show b ≤ 4294967295 by omega)
  omega
theorem times_inner {m n : List Int} (hm : Lim m) (hn : Lim n) {i : Nat} (hi : i < m.length) (hb : m.length + n.length < 17592186044416) : ∀ (t j : Nat) (a : List Int) (c A0 : Nat), n.length - j = t → j ≤ n.length → a.length = m.length + n.length → Lim a → c < 4294967296 →
    dg a (i + n.length) = 0 → lv a + 4294967296 ^ (i + j) * c = A0 + 4294967296 ^ i * (dg m i * lv (n.take j)) →
    ∃ (a' : List Int) (c' : Nat), iterL (fun x : List Int × List Int × Int × Int × Int × Int × Int × Int × List Int × Unit => integer_times.s0 x.1 x.2.1 x.2.2.1 x.2.2.2.1 x.2.2.2.2.1 x.2.2.2.2.2.1 x.2.2.2.2.2.2.1 x.2.2.2.2.2.2.2.1 x.2.2.2.2.2.2.2.2.1) (m, n, (i : Int), (c : Int), (m.length : Int), (i : Int), (n.length : Int), (j : Int), a, ()) = some (m, n, (i : Int), (c' : Int), (m.length : Int), (i : Int), a', ()) ∧
      a'.length = m.length + n.length ∧ Lim a' ∧ c' < 4294967296 ∧ dg a' (i + n.length) = 0 ∧ lv a' + 4294967296 ^ (i + n.length) * c' = A0 + 4294967296 ^ i * (dg m i * lv n) := by
  intro t
  induction t with
  | zero =>
    intro j a c A0 ht hj hl ha hc hd he
    obtain rfl : j = n.length := by omega
    refine ⟨a, c, iterL_done ?_, hl, ha, hc, hd, by rw [he, List.take_length]⟩
    simp only [integer_times.s0, cite, decide_eq_true_eq]
    rw [if_neg (by omega)]
  | succ t ih =>
    intro j a c A0 ht hj hl ha hc hd he
    have h1 := dg_lt hm i
    have h2 := dg_lt hn j
    have h3 := dg_lt ha (i + j)
    have hp := mul_le h1 h2
    have hv := lv_put a (i := i + j) (by omega) ((c + (dg m i * dg n j + dg a (i + j))) % 4294967296)
    obtain ⟨a', c', g1, g2⟩ := ih (j + 1) (a.set (i + j) (((c + (dg m i * dg n j + dg a (i + j))) % 4294967296 : Nat) : Int)) ((c + (dg m i * dg n j + dg a (i + j))) / 4294967296) A0 (by omega) (by omega) (by simpa using hl) (ha.set _ (by omega)) (by omega)
      (by rw [dg_put_ne _ (by omega)]; exact hd) (by
        rw [lv_take_succ, show i + (j + 1) = (i + j) + 1 from rfl, Nat.pow_succ]
        have e1 : 4294967296 ^ (i + j) * (c + (dg m i * dg n j + dg a (i + j))) = 4294967296 ^ (i + j) * ((c + (dg m i * dg n j + dg a (i + j))) % 4294967296) + 4294967296 ^ (i + j) * 4294967296 * ((c + (dg m i * dg n j + dg a (i + j))) / 4294967296) := by
          rw [Nat.mul_assoc, ← Nat.mul_add, Nat.mod_add_div]
        have e2 : 4294967296 ^ i * (dg m i * (lv (n.take j) + 4294967296 ^ j * dg n j)) = 4294967296 ^ i * (dg m i * lv (n.take j)) + 4294967296 ^ (i + j) * (dg m i * dg n j) := by
          rw [Nat.mul_add, Nat.mul_add, Nat.pow_add, Nat.mul_left_comm (dg m i), ← Nat.mul_assoc (4294967296 ^ i) (4294967296 ^ j)]
        rw [e2]
        rw [Nat.mul_add, Nat.mul_add] at e1
        omega)
    refine ⟨a', c', (iterL_next ?_).trans g1, g2⟩
    simp only [integer_times.s0, integer_times.j2, cite, decide_eq_true_eq, inB_t]
    have w1 : IntKind.wrap .i64 ((i : Int) + (j : Int)) = ((i + j : Nat) : Int) := by rw [wi64 (by omega) (by omega)]; rfl
    have w2 : IntKind.wrap .u64 (IntKind.wrap .u64 ((dg m i : Int) * (dg n j : Int)) + IntKind.wrap .u64 (dg a (i + j) : Int)) = ((dg m i * dg n j + dg a (i + j) : Nat) : Int) := by
      rw [← Int.natCast_mul, wu64' (x := ((dg m i * dg n j : Nat) : Int)) (by omega) (by omega), wu64' (x := (dg a (i + j) : Int)) (by omega) (by omega), wu64' (by omega) (by omega)]
      rfl
    have w3 : IntKind.wrap .u64 ((c : Int) + ((dg m i * dg n j + dg a (i + j) : Nat) : Int)) = ((c + (dg m i * dg n j + dg a (i + j)) : Nat) : Int) := by
      rw [wu64' (by omega) (by omega)]; rfl
    rw [if_pos (by omega), if_pos (by omega), if_pos (by omega), w1, if_pos (by omega), if_pos (by omega)]
    simp only [Int.toNat_natCast, Nat.zero_add]
    rw [gd hm, gd hn, gd ha, wu64' (x := (dg m i : Int)) (by omega) (by omega), wu64' (x := (dg n j : Int)) (by omega) (by omega), w2, w3, hi_word, up (by omega), wu32, Int.natCast_emod]
    rfl
theorem times_outer {m n : List Int} (hm : Lim m) (hn : Lim n) (hb : m.length + n.length < 17592186044416) : ∀ (t i : Nat) (a : List Int), m.length - i = t → i ≤ m.length → a.length = m.length + n.length → Lim a → lv a = lv (m.take i) * lv n →
    ∃ a' : List Int, iterL (fun x : List Int × List Int × Int × Int × List Int × Unit => integer_times.s1 x.1 x.2.1 x.2.2.1 x.2.2.2.1 x.2.2.2.2.1) (m, n, (m.length : Int), (i : Int), a, ()) = some (a', ()) ∧ a'.length = m.length + n.length ∧ Lim a' ∧ lv a' = lv m * lv n := by
  intro t
  induction t with
  | zero =>
    intro i a ht hi hl ha he
    obtain rfl : i = m.length := by omega
    refine ⟨a, iterL_done ?_, hl, ha, by rw [he, List.take_length]⟩
    simp only [integer_times.s1, cite, decide_eq_true_eq]
    rw [if_neg (by omega)]
  | succ t ih =>
    intro i a ht hi hl ha he
    have hd : dg a (i + n.length) = 0 := by
      have b1 := lv_lt (hm.take i)
      have b2 := lv_lt hn
      rw [List.length_take, Nat.min_eq_left hi] at b1
      have : lv a < 4294967296 ^ (i + n.length) := by
        rw [he, Nat.pow_add]
        exact Nat.lt_of_le_of_lt (Nat.mul_le_mul_right _ (Nat.le_of_lt b1)) (Nat.mul_lt_mul_of_pos_left b2 (Nat.pow_pos (by omega)))
      rw [dg_lv ha, Nat.div_eq_of_lt this]
    obtain ⟨a1, c1, g1, g2, g3, g4, g5, g6⟩ := times_inner hm hn (i := i) (by omega) hb _ 0 a 0 (lv a) rfl (by omega) hl ha (by omega) hd (by simp [lv])
    have hv := lv_put a1 (i := i + n.length) (by omega) c1
    rw [g5, Nat.mul_zero, Nat.add_zero, g6, he] at hv
    obtain ⟨a', q1, q2⟩ := ih (i + 1) (a1.set (i + n.length) (c1 : Int)) (by omega) (by omega) (by simpa using g2) (g3.set _ (by omega)) (by
      rw [hv, lv_take_succ, Nat.add_mul, Nat.mul_assoc])
    refine ⟨a', (iterL_next ?_).trans q1, q2⟩
    simp only [integer_times.s1, integer_times.j1, cite, decide_eq_true_eq]
    rw [show ((0 : Nat) : Int) = 0 from rfl] at g1
    rw [if_pos (by omega), g1, Option.bind_some]
    simp only [integer_times.k0, cite, inB_t]
    have w1 : IntKind.wrap .i64 ((i : Int) + ((n.length : Nat) : Int)) = ((i + n.length : Nat) : Int) := by rw [wi64 (by omega) (by omega)]; rfl
    rw [w1, if_pos (by omega), Int.toNat_natCast, Nat.zero_add, up (by omega), wu32' (by omega) (by omega)]
theorem times_ok {m n : List Int} (hm : Lim m) (hn : Lim n) (hb : m.length + n.length ≤ 1073741824) : integer_times m n = some (limbs (lv m * lv n)) := by
  obtain ⟨a', g1, g2, g3, g4⟩ := times_outer hm hn (by omega) _ 0 (List.replicate (m.length + n.length) 0) rfl (by omega) (by simp) (Lim.replicate _) (by rw [lv_zeros]; simp [lv])
  have w1 : IntKind.wrap .i64 ((m.length : Int) + (n.length : Int)) = ((m.length + n.length : Nat) : Int) := by rw [wi64 (by omega) (by omega)]; rfl
  unfold integer_times
  simp only [w1, cite, inC_t, maxL_eq]
  rw [show ((0 : Nat) : Int) = 0 from rfl] at g1
  rw [if_pos (by omega), Int.toNat_natCast, g1, Option.bind_some]
  simp only [integer_times.k1]
  rw [trim_ok g3 (by omega), Option.bind_some, g4]
theorem mul_ok {l l' : List Int} (s s' : Bool) (u u' : Unit) (h : Lim l) (h' : Lim l') (hb : l.length + l'.length ≤ 1073741824) : integer_Mul (s, l, u) (s', l', u') = some (mkI (iv s l * iv s' l')) := by
  have hx := len_lv h
  have hy := len_lv h'
  unfold integer_Mul
  rw [magnitude_ok s () h (by omega), Option.bind_some, magnitude_ok s' () h' (by omega), Option.bind_some, times_ok (lim_limbs _) (lim_limbs _) (by omega), Option.bind_some, lv_limbs, lv_limbs]
  have hlen : (limbs (lv l * lv l')).length ≤ l.length + l'.length := limbs_len.2 (by
    rw [Nat.pow_add]
    have b1 := lv_lt h
    have b2 := lv_lt h'
    exact Nat.lt_of_le_of_lt (Nat.mul_le_mul_right _ (Nat.le_of_lt b1)) (Nat.mul_lt_mul_of_pos_left b2 (Nat.pow_pos (by omega))))
  rw [signed_ok _ (lim_limbs _) (by omega), Option.bind_some]
  have : iv (!(s == s')) (limbs (lv l * lv l')) = iv s l * iv s' l' := by
    cases s <;> cases s' <;> simp [iv, lv_limbs, Int.natCast_mul, Int.mul_neg, Int.neg_mul]
  rw [this]
theorem mulI (a b : Int) (h : (limbs a.natAbs).length + (limbs b.natAbs).length ≤ 1073741824) : integer_Mul (mkI a) (mkI b) = some (mkI (a * b)) := by
  have := mul_ok (mkI a).1 (mkI b).1 () () (lim_mkI a) (lim_mkI b) h
  rwa [iv_mkI, iv_mkI] at this
end Go.Proofs.Ytbchgegclgpdhaa.V
/- Laws of integer: leading zeros, shift, unshift. -/
namespace Go.Proofs.Ytbchgegclgpdhaa.V
open Go Go.Proofs.Ytbchgegclgpdhaa.E Go.Proofs.Ytbchgegclgpdhaa.LI
set_option linter.unusedVariables false
set_option linter.unusedSimpArgs false
theorem len_tab24 : ∀ k : Fin 256, k.val ≠ 0 → bits_Len32.j2 (k.val : Int) 24 = some (((24 + (Nat.log2 k.val + 1) : Nat)) : Int) := by decide +kernel
theorem len_tab16 : ∀ k : Fin 256, k.val ≠ 0 → bits_Len32.j3 (k.val : Int) = some (((16 + (Nat.log2 k.val + 1) : Nat)) : Int) := by decide +kernel
theorem len_tab8 : ∀ k : Fin 256, k.val ≠ 0 → bits_Len32.j2 (k.val : Int) 8 = some (((8 + (Nat.log2 k.val + 1) : Nat)) : Int) := by decide +kernel
theorem len_tab0 : ∀ k : Fin 256, k.val ≠ 0 → bits_Len32.j5 (k.val : Int) = some (((0 + (Nat.log2 k.val + 1) : Nat)) : Int) := by decide +kernel
theorem len_t24 (k : Nat) (h : k < 256) (h0 : k ≠ 0) : bits_Len32.j2 (k : Int) 24 = some (((24 + (Nat.log2 k + 1) : Nat)) : Int) := len_tab24 ⟨k, h⟩ h0
theorem len_t16 (k : Nat) (h : k < 256) (h0 : k ≠ 0) : bits_Len32.j3 (k : Int) = some (((16 + (Nat.log2 k + 1) : Nat)) : Int) := len_tab16 ⟨k, h⟩ h0
theorem len_t8 (k : Nat) (h : k < 256) (h0 : k ≠ 0) : bits_Len32.j2 (k : Int) 8 = some (((8 + (Nat.log2 k + 1) : Nat)) : Int) := len_tab8 ⟨k, h⟩ h0
theorem len_t0 (k : Nat) (h : k < 256) (h0 : k ≠ 0) : bits_Len32.j5 (k : Int) = some (((0 + (Nat.log2 k + 1) : Nat)) : Int) := len_tab0 ⟨k, h⟩ h0
theorem log_scale {x y : Nat} (c : Nat) (hy : y = x / 2 ^ c) (h : y ≠ 0) : 2 ^ (c + (Nat.log2 y + 1) - 1) ≤ x ∧ x < 2 ^ (c + (Nat.log2 y + 1)) := by
  subst hy
  have h1 := Nat.log2_self_le h
  have h2 := @Nat.lt_log2_self (x / 2 ^ c)
  constructor
  · rw [show c + (Nat.log2 (x / 2 ^ c) + 1) - 1 = Nat.log2 (x / 2 ^ c) + c by omega, Nat.pow_add]
    exact Nat.le_trans (Nat.mul_le_mul_right _ h1) (Nat.div_mul_le_self _ _)
  · rw [Nat.add_comm, Nat.pow_add]
    exact (Nat.div_lt_iff_lt_mul (Nat.two_pow_pos c)).1 h2
theorem len32 {x : Nat} (h0 : 0 < x) (h1 : x < 4294967296) : ∃ e : Nat, bits_Len32 (x : Int) = some (e : Int) ∧ 2 ^ (e - 1) ≤ x ∧ x < 2 ^ e := by
  have s16 := shr32 x 16 (by omega)
  rw [show ((16 : Nat) : Int) = 16 from rfl, show (2 : Nat) ^ 16 = 65536 from rfl] at s16
  unfold bits_Len32
  simp only [cite, decide_eq_true_eq, bits_Len32.j1, bits_Len32.j4]
  rw [s16]
  by_cases c1 : 65536 ≤ x
  · rw [if_pos (by omega)]
    have s8 := shr32 (x / 65536) 8 (by omega)
    rw [show ((8 : Nat) : Int) = 8 from rfl, show (2 : Nat) ^ 8 = 256 from rfl] at s8
    rw [s8]
    by_cases c2 : 256 ≤ x / 65536
    · rw [if_pos (by omega), show IntKind.wrap .i64 ((16 : Int) + 8) = 24 by rw [wi64 (by decide) (by decide)]; rfl]
      obtain ⟨y, hy⟩ : ∃ y, y = x / 65536 / 256 := ⟨_, rfl⟩
      rw [← hy]
      exact ⟨_, len_t24 y (by omega) (by omega), log_scale 24 (by rw [hy, Nat.div_div_eq_div_mul]) (by omega)⟩
    · rw [if_neg (by omega)]
      obtain ⟨y, hy⟩ : ∃ y, y = x / 65536 := ⟨_, rfl⟩
      rw [← hy]
      exact ⟨_, len_t16 y (by omega) (by omega), log_scale 16 hy (by omega)⟩
  · rw [if_neg (by omega)]
    have s8 := shr32 x 8 (by omega)
    rw [show ((8 : Nat) : Int) = 8 from rfl, show (2 : Nat) ^ 8 = 256 from rfl] at s8
    rw [s8]
    by_cases c2 : 256 ≤ x
    · rw [if_pos (by omega), show IntKind.wrap .i64 ((0 : Int) + 8) = 8 by rw [wi64 (by decide) (by decide)]; rfl]
      obtain ⟨y, hy⟩ : ∃ y, y = x / 256 := ⟨_, rfl⟩
      rw [← hy]
      exact ⟨_, len_t8 y (by omega) (by omega), log_scale 8 hy (by omega)⟩
    · rw [if_neg (by omega)]
      exact ⟨_, len_t0 x (by omega) (by omega), log_scale 0 (by omega) (by omega)⟩
theorem lz32 {x : Nat} (h0 : 0 < x) (h1 : x < 4294967296) : ∃ s : Nat, s < 32 ∧ bits_LeadingZeros32 (x : Int) = some (s : Int) ∧ 2147483648 ≤ x * 2 ^ s ∧ x * 2 ^ s < 4294967296 := by
  obtain ⟨e, h2, h3, h4⟩ := len32 h0 h1
  have he : 1 ≤ e := by
    rcases Nat.eq_zero_or_pos e with rfl | h
    · simp at h4; omega
    · exact h
  have he2 : e ≤ 32 := by
    apply Classical.byContradiction
    intro h
    have := Nat.pow_le_pow_right (show 2 > 0 by omega) (show 32 ≤ e - 1 by omega)
    omega
  refine ⟨32 - e, by omega, ?_, ?_, ?_⟩
  · unfold bits_LeadingZeros32
    rw [h2, Option.bind_some, wi64 (by omega) (by omega)]
    congr 1; omega
  · have := Nat.mul_le_mul_right (2 ^ (32 - e)) h3
    rw [← Nat.pow_add, show e - 1 + (32 - e) = 31 by omega] at this
    omega
  · have := Nat.mul_lt_mul_of_pos_right h4 (Nat.two_pow_pos (32 - e))
    rw [← Nat.pow_add, show e + (32 - e) = 32 by omega] at this
    omega
theorem two32 (s : Nat) (h : s < 32) : ∃ c, 2 ^ s * c = 4294967296 ∧ 0 < c := ⟨2 ^ (32 - s), by rw [← Nat.pow_add, show s + (32 - s) = 32 by omega], Nat.two_pow_pos _⟩
theorem shift_loop {l : List Int} (hl : Lim l) {s : Nat} (hs : s < 32) (hb : l.length < 17592186044416) : ∀ (t i : Nat) (a : List Int), l.length - i = t → i ≤ l.length → a.length = l.length + 1 → Lim a → lv a = 2 ^ s * lv (l.take i) →
    ∃ a' : List Int, iterL (fun x : List Int × Int × Int × Int × List Int × Unit => integer_shift.s0 x.1 x.2.1 x.2.2.1 x.2.2.2.1 x.2.2.2.2.1) (l, (s : Int), (l.length : Int), (i : Int), a, ()) = some (a', ()) ∧ a'.length = l.length + 1 ∧ Lim a' ∧ lv a' = 2 ^ s * lv l := by
  intro t
  induction t with
  | zero =>
    intro i a ht hi hl' ha he
    obtain rfl : i = l.length := by omega
    refine ⟨a, iterL_done ?_, hl', ha, by rw [he, List.take_length]⟩
    simp only [integer_shift.s0, cite, decide_eq_true_eq]
    rw [if_neg (by omega)]
  | succ t ih =>
    intro i a ht hi hl' ha he
    have hd := dg_lt hl i
    obtain ⟨c, hc, hc0⟩ := two32 s hs
    have hp : 0 < 4294967296 ^ i := Nat.pow_pos (by omega)
    have h2s : 0 < 2 ^ s := Nat.two_pow_pos s
    have hlt : lv a < 4294967296 ^ i * 2 ^ s := by
      have := lv_lt (hl.take i)
      rw [List.length_take, Nat.min_eq_left hi] at this
      rw [he, Nat.mul_comm]
      exact Nat.mul_lt_mul_of_pos_right this h2s
    have ho : dg a i < 2 ^ s := by
      rw [dg_lv ha]
      exact Nat.lt_of_le_of_lt (Nat.mod_le _ _) ((Nat.div_lt_iff_lt_mul hp).2 (by rw [Nat.mul_comm]; exact hlt))
    have ho1 : dg a (i + 1) = 0 := by
      rw [dg_lv ha, Nat.div_eq_of_lt]
      rw [Nat.pow_succ]
      exact Nat.lt_of_lt_of_le hlt (Nat.mul_le_mul_left _ (by rw [← hc]; exact Nat.le_mul_of_pos_right _ hc0))
    obtain ⟨w, hw⟩ : ∃ w, w = 2 ^ s * dg l i := ⟨_, rfl⟩
    have hw2 : w < 18446744073709551616 := by
      have := Nat.mul_lt_mul_of_lt_of_le (show dg l i < 4294967296 from hd) (show 2 ^ s ≤ 4294967296 by rw [← hc]; exact Nat.le_mul_of_pos_right _ hc0) (by omega)
      rw [hw, Nat.mul_comm]; omega
    have hw3 : w / 4294967296 < 4294967296 := by omega
    have hwl : w % 4294967296 = 2 ^ s * (dg l i % c) := by rw [hw, ← hc, Nat.mul_mod_mul_left]
    have hor : orI .u32 ((dg a i : Nat) : Int) ((w % 4294967296 : Nat) : Int) = ((dg a i + w % 4294967296 : Nat) : Int) := by
      have := dg_lt ha i
      rw [or32_nat _ _ this (by omega), Nat.or_comm, hwl, ← Nat.two_pow_add_eq_or_of_lt ho, Nat.add_comm]
    have hsum : dg a i + w % 4294967296 < 4294967296 := by
      have h3 : dg l i % c + 1 ≤ c := Nat.mod_lt _ hc0
      have h4 := Nat.mul_le_mul_left (2 ^ s) h3
      rw [Nat.mul_add, Nat.mul_one, hc] at h4
      omega
    have v1 := lv_put a (i := i) (by omega) (dg a i + w % 4294967296)
    have v2 := lv_put (a.set i ((dg a i + w % 4294967296 : Nat) : Int)) (i := i + 1) (by rw [List.length_set]; omega) (w / 4294967296)
    rw [dg_put_ne _ (by omega), ho1, Nat.mul_zero, Nat.add_zero] at v2
    obtain ⟨a', g1, g2⟩ := ih (i + 1) ((a.set i ((dg a i + w % 4294967296 : Nat) : Int)).set (i + 1) ((w / 4294967296 : Nat) : Int)) (by omega) (by omega) (by simpa using hl') ((ha.set _ (by omega)).set _ (by omega)) (by
      rw [v2, lv_take_succ, Nat.mul_add, ← he, Nat.mul_left_comm, ← hw, Nat.pow_succ, Nat.mul_assoc]
      have e : 4294967296 ^ i * w = 4294967296 ^ i * (w % 4294967296) + 4294967296 ^ i * (4294967296 * (w / 4294967296)) := by rw [← Nat.mul_add, Nat.mod_add_div]
      rw [Nat.mul_add] at v1
      omega)
    refine ⟨a', (iterL_next ?_).trans g1, g2⟩
    have hsh := @shl_nat (dg l i) s (by omega) (by rw [Nat.mul_comm, ← hw]; exact hw2)
    rw [← hw] at hsh
    simp only [integer_shift.s0, integer_shift.j1, cite, decide_eq_true_eq, inB_t]
    have wl : IntKind.wrap .u32 ((w : Nat) : Int) = ((w % 4294967296 : Nat) : Int) := by rw [wu32]; omega
    rw [if_pos (by omega), if_pos (by omega), if_neg (by omega), if_pos (by omega), Int.toNat_natCast, Nat.zero_add, gd hl, gd ha, wu64' (x := ((dg l i : Nat) : Int)) (by omega) (by omega), hsh, wl, hor, hi_word, up (by omega), wu32' (by omega) (by omega), if_pos (by omega), if_pos (by rw [List.length_set]; omega), Int.toNat_natCast, Nat.zero_add]
theorem shift_ok {l : List Int} (hl : Lim l) {s : Nat} (hs : s < 32) (hb : l.length < 1073741824) : ∃ r : List Int, integer_shift l (s : Int) = some r ∧ r.length = l.length + 1 ∧ Lim r ∧ lv r = 2 ^ s * lv l := by
  obtain ⟨a', g1, g2, g3, g4⟩ := shift_loop hl hs (by omega) _ 0 (List.replicate (l.length + 1) 0) rfl (by omega) (by simp) (Lim.replicate _) (by rw [lv_zeros]; simp [lv])
  refine ⟨a', ?_, g2, g3, g4⟩
  unfold integer_shift
  simp only [cite, inC_t, maxL_eq]
  rw [show ((0 : Nat) : Int) = 0 from rfl] at g1
  rw [up (by omega), if_pos (by omega), Int.toNat_natCast, g1, Option.bind_some]
  rfl
theorem unshift_loop {l : List Int} (hl : Lim l) {s : Nat} (hs : s < 32) (hb : l.length < 17592186044416) : ∀ (t i : Nat) (a : List Int), l.length - i = t → i ≤ l.length → a.length = l.length → Lim a → 2 ^ s * lv (a.take i) + dg l 0 % 2 ^ s = lv (l.take i) + 4294967296 ^ i * (dg l i % 2 ^ s) →
    ∃ a' : List Int, iterL (fun x : List Int × Int × Int × Int × List Int × Unit => integer_unshift.s0 x.1 x.2.1 x.2.2.1 x.2.2.2.1 x.2.2.2.2.1) (l, (s : Int), (l.length : Int), (i : Int), a, ()) = some (a', ()) ∧ a'.length = l.length ∧ Lim a' ∧ 2 ^ s * lv a' + dg l 0 % 2 ^ s = lv l := by
  intro t
  induction t with
  | zero =>
    intro i a ht hi hl' ha he
    obtain rfl : i = l.length := by omega
    refine ⟨a, iterL_done ?_, hl', ha, ?_⟩
    · simp only [integer_unshift.s0, cite, decide_eq_true_eq]
      rw [if_neg (by omega)]
    · rw [List.take_length, dg_out (i := l.length) (by omega), Nat.zero_mod, Nat.mul_zero, List.take_of_length_le (by omega)] at he
      exact he
  | succ t ih =>
    intro i a ht hi hl' ha he
    have hd := dg_lt hl i
    have hd1 := dg_lt hl (i + 1)
    obtain ⟨c, hc, hc0⟩ := two32 s hs
    have h2s : 0 < 2 ^ s := Nat.two_pow_pos s
    obtain ⟨w, hw⟩ : ∃ w, w = (4294967296 * dg l (i + 1) + dg l i) / 2 ^ s := ⟨_, rfl⟩
    have hw1 : w % 4294967296 = dg l i / 2 ^ s + dg l (i + 1) % 2 ^ s * c := by
      have e : w = c * dg l (i + 1) + dg l i / 2 ^ s := by
        rw [hw, ← hc, Nat.mul_assoc, Nat.mul_add_div h2s]
      have e2 := Nat.div_add_mod (dg l (i + 1)) (2 ^ s)
      have e3 : w = (dg l i / 2 ^ s + dg l (i + 1) % 2 ^ s * c) + 4294967296 * (dg l (i + 1) / 2 ^ s) := by
        rw [e]
        have : c * dg l (i + 1) = c * (2 ^ s * (dg l (i + 1) / 2 ^ s)) + c * (dg l (i + 1) % 2 ^ s) := by rw [← Nat.mul_add, e2]
        rw [this, ← hc, Nat.mul_comm c (dg l (i + 1) % 2 ^ s), ← Nat.mul_assoc, Nat.mul_comm c]
        omega
      have hlow : dg l i / 2 ^ s < c := by rw [Nat.div_lt_iff_lt_mul h2s, Nat.mul_comm, hc]; exact hd
      have hup : (dg l (i + 1) % 2 ^ s + 1) * c ≤ 2 ^ s * c := Nat.mul_le_mul_right _ (Nat.mod_lt _ h2s)
      rw [Nat.add_mul, Nat.one_mul, hc] at hup
      rw [e3, Nat.add_mul_mod_self_left, Nat.mod_eq_of_lt (by omega)]
    obtain ⟨a', g1, g2⟩ := ih (i + 1) (a.set i ((w % 4294967296 : Nat) : Int)) (by omega) (by omega) (by simpa using hl') (ha.set _ (by omega)) (by
      rw [take_set _ _ _ (by omega), lv_snoc, lv_take_succ, List.length_take, Nat.min_eq_left (by omega), Nat.mul_add, Nat.pow_succ, Nat.mul_left_comm]
      have e : 2 ^ s * (w % 4294967296) = 2 ^ s * (dg l i / 2 ^ s) + 4294967296 * (dg l (i + 1) % 2 ^ s) := by
        rw [hw1, Nat.mul_add, ← hc, Nat.mul_comm (dg l (i + 1) % 2 ^ s) c, Nat.mul_assoc]
      rw [e, Nat.mul_assoc]
      have e4 : 4294967296 ^ i * dg l i = 4294967296 ^ i * (2 ^ s * (dg l i / 2 ^ s)) + 4294967296 ^ i * (dg l i % 2 ^ s) := by rw [← Nat.mul_add, Nat.div_add_mod]
      rw [Nat.mul_add, e4]
      omega)
    refine ⟨a', (iterL_next ?_).trans g1, g2⟩
    have hsr := @shr_nat (4294967296 * dg l (i + 1) + dg l i) s (by omega)
    rw [← hw] at hsr
    have wl : IntKind.wrap .u32 ((w : Nat) : Int) = ((w % 4294967296 : Nat) : Int) := by rw [wu32]; omega
    simp only [integer_unshift.s0, integer_unshift.j1, cite, decide_eq_true_eq, inB_t]
    rw [if_pos (by omega), up (by omega), limb_ok hl, Option.bind_some, if_pos (by omega), if_neg (by omega), if_pos (by omega), Int.toNat_natCast, Nat.zero_add, gd hl, pack hd1 hd, hsr, wl]
theorem unshift_ok {l : List Int} (hl : Lim l) {s : Nat} (hs : s < 32) (hb : l.length ≤ 1073741824) : integer_unshift l (s : Int) = some (limbs (lv l / 2 ^ s)) := by
  obtain ⟨a', g1, g2, g3, g4⟩ := unshift_loop hl hs (by omega) _ 0 (List.replicate l.length 0) rfl (by omega) (by simp) (Lim.replicate _) (by simp [lv])
  have h2s : 0 < 2 ^ s := Nat.two_pow_pos s
  have he : lv a' = lv l / 2 ^ s := by
    rw [← g4, Nat.mul_add_div h2s, Nat.div_eq_of_lt (Nat.mod_lt _ h2s), Nat.add_zero]
  unfold integer_unshift
  simp only [cite, inC_t, maxL_eq]
  rw [show ((0 : Nat) : Int) = 0 from rfl] at g1
  rw [if_pos (by omega), Int.toNat_natCast, g1, Option.bind_some]
  simp only [integer_unshift.k0]
  rw [trim_ok g3 (by omega), Option.bind_some, he]
end Go.Proofs.Ytbchgegclgpdhaa.V
/- Laws of integer: a digit of a quotient (long division). -/
namespace Go.Proofs.Ytbchgegclgpdhaa.V
open Go Go.Proofs.Ytbchgegclgpdhaa.E Go.Proofs.Ytbchgegclgpdhaa.LI
set_option linter.unusedVariables false
set_option linter.unusedSimpArgs false
theorem and_low (x : Nat) (hx : x < 18446744073709551616) : andI .u64 (x : Int) 4294967295 = ((x % 4294967296 : Nat) : Int) := by
  have h0 : andI .u64 (x : Int) 4294967295 = IntKind.wrap .u64 (((BitVec.ofInt 64 (x : Int) &&& BitVec.ofInt 64 ((4294967295 : Nat) : Int)).toNat : Nat) : Int) := rfl
  rw [h0, wu64, BitVec.ofInt_natCast, BitVec.ofInt_natCast, BitVec.toNat_and, BitVec.toNat_ofNat, BitVec.toNat_ofNat, Nat.mod_eq_of_lt hx, Nat.mod_eq_of_lt (by decide)]
  have h1 := Nat.and_two_pow_sub_one_eq_mod x 32
  rw [show (2 : Nat) ^ 32 - 1 = 4294967295 from rfl, show (2 : Nat) ^ 32 = 4294967296 from rfl] at h1
  rw [h1]
  omega
theorem mul_lt32 {a b : Nat} (ha : a < 4294967296) (hb : b < 4294967296) : a * b < 18446744069414584321 := by
  have := mul_le ha hb
  omega
/-- The estimate: it is never too small, and at the end at most one too great. -/
theorem est_loop {u v : List Int} (hu : Lim u) (hv : Lim v) {n : Nat} (hn : v.length = n + 2) (hul : u.length = n + 3) {T Q : Nat} (hT : T < 18446744073709551616) (hT2 : T = 4294967296 * dg u (n + 2) + dg u (n + 1)) (hv1 : 0 < dg v (n + 1)) (hb : n < 1000000000000)
    (hQ : ∀ q, q < 4294967296 → q * (4294967296 * dg v (n + 1) + dg v n) > 4294967296 * T + dg u n → Q < q) :
    ∀ (q : Nat), q < 4294967296 → Q ≤ q → q * dg v (n + 1) ≤ T →
    ∃ q' : Nat, iterL (fun x : List Int × Int × Int × Int × List Int × Unit => integer_digit.s0 x.1 x.2.1 x.2.2.1 x.2.2.2.1 x.2.2.2.2.1) (v, ((n + 2 : Nat) : Int), (q : Int), ((T - q * dg v (n + 1) : Nat) : Int), u, ()) = some (v, ((n + 2 : Nat) : Int), (q' : Int), u, ()) ∧
      q' < 4294967296 ∧ Q ≤ q' ∧ q' * (4294967296 * dg v (n + 1) + dg v n) ≤ 4294967296 * T + dg u n := by
  intro q
  induction q with
  | zero =>
    intro h0 hq hm
    refine ⟨0, iterL_done ?_, by omega, hq, by omega⟩
    have hd := dg_lt hu n
    simp only [integer_digit.s0, integer_digit.j1, cite, decide_eq_true_eq, inB_t]
    by_cases hr : T - 0 * dg v (n + 1) < 4294967296
    · have e1 : IntKind.wrap .i64 (((n + 2 : Nat) : Int) - 2) = (n : Int) := by rw [wi64 (by omega) (by omega)]; omega
      have hd0 := dg_lt hv n
      rw [if_pos (by omega), e1, if_pos (by omega), if_pos (by omega), Nat.zero_add, Int.toNat_natCast, gd hv, gd hu, pack hr hd, wu64' (x := ((dg v n : Nat) : Int)) (by omega) (by omega), show ((0 : Nat) : Int) * ((dg v n : Nat) : Int) = 0 by simp, wu64' (by omega) (by omega), if_neg (by omega)]
    · rw [if_neg (by omega)]
  | succ q ih =>
    intro h0 hq hm
    have hdu := dg_lt hu n
    have hd0 := dg_lt hv n
    have hd1 := dg_lt hv (n + 1)
    obtain ⟨R, hR⟩ : ∃ R, R = T - (q + 1) * dg v (n + 1) := ⟨_, rfl⟩
    have hTR : T = (q + 1) * dg v (n + 1) + R := by omega
    have e1 : IntKind.wrap .i64 (((n + 2 : Nat) : Int) - 2) = (n : Int) := by rw [wi64 (by omega) (by omega)]; omega
    have e2 : IntKind.wrap .i64 (((n + 2 : Nat) : Int) - 1) = ((n + 1 : Nat) : Int) := by rw [wi64 (by omega) (by omega)]; omega
    have hP := mul_lt32 h0 hd0
    have e3 : IntKind.wrap .u64 (((q + 1 : Nat) : Int) * IntKind.wrap .u64 ((dg v n : Nat) : Int)) = (((q + 1) * dg v n : Nat) : Int) := by
      rw [wu64' (x := ((dg v n : Nat) : Int)) (by omega) (by omega), ← Int.natCast_mul, wu64' (by omega) (by omega)]
    have key : (q + 1) * (4294967296 * dg v (n + 1) + dg v n) = 4294967296 * ((q + 1) * dg v (n + 1)) + (q + 1) * dg v n := by rw [Nat.mul_add, Nat.mul_left_comm]
    rw [← hR]
    have hst : integer_digit.s0 v ((n + 2 : Nat) : Int) ((q + 1 : Nat) : Int) (R : Int) u = (if R < 4294967296 ∧ 4294967296 * R + dg u n < (q + 1) * dg v n then some (.inl (v, ((n + 2 : Nat) : Int), (q : Int), ((R + dg v (n + 1) : Nat) : Int), u, ())) else some (.inr (v, ((n + 2 : Nat) : Int), ((q + 1 : Nat) : Int), u, ()))) := by
      simp only [integer_digit.s0, integer_digit.j1, cite, decide_eq_true_eq, inB_t]
      by_cases hr : R < 4294967296
      · rw [if_pos (by omega), e1, e2, if_pos (by omega), if_pos (by omega), Nat.zero_add, Int.toNat_natCast, Int.toNat_natCast, gd hv, gd hv, gd hu, pack hr hdu, e3]
        by_cases hc : 4294967296 * R + dg u n < (q + 1) * dg v n
        · rw [if_pos (by omega), if_pos (by omega), if_pos ⟨hr, hc⟩, wu64' (x := ((q + 1 : Nat) : Int) - 1) (by omega) (by omega), wu64' (x := ((dg v (n + 1) : Nat) : Int)) (by omega) (by omega), wu64' (by omega) (by omega), show ((q + 1 : Nat) : Int) - 1 = (q : Int) by omega]
          rfl
        · rw [if_neg (by omega), if_neg (fun h => hc h.2)]
      · rw [if_neg (by omega), if_neg (fun h => hr h.1)]
    by_cases hc : R < 4294967296 ∧ 4294967296 * R + dg u n < (q + 1) * dg v n
    · rw [if_pos hc] at hst
      have hlt := hQ (q + 1) h0 (by rw [key, hTR]; omega)
      have hqm : q * dg v (n + 1) + dg v (n + 1) = (q + 1) * dg v (n + 1) := by rw [Nat.add_mul, Nat.one_mul]
      obtain ⟨q', g1, g2⟩ := ih (by omega) (by omega) (by omega)
      rw [show T - q * dg v (n + 1) = R + dg v (n + 1) by omega] at g1
      refine ⟨q', (iterL_next ?_).trans g1, g2⟩
      simp only []
      exact hst
    · rw [if_neg hc] at hst
      refine ⟨q + 1, iterL_done hst, h0, hq, ?_⟩
      rw [key, hTR]
      by_cases hr : R < 4294967296
      · have : ¬ 4294967296 * R + dg u n < (q + 1) * dg v n := fun h => hc ⟨hr, h⟩
        omega
      · omega
/-- Multiply and subtract. -/
theorem sub_loop {u v : List Int} (hu : Lim u) (hv : Lim v) {q : Nat} (hq : q < 4294967296) (hl : u.length = v.length + 1) (hb : v.length < 17592186044416) : ∀ (t i : Nat) (a : List Int) (b c : Nat), v.length - i = t → i ≤ v.length → a.length = v.length + 1 → Lim a → b ≤ 1 → c < 4294967296 → a.drop i = u.drop i →
    lv (u.take i) + 4294967296 ^ i * (b + c) = lv (a.take i) + q * lv (v.take i) →
    ∃ (a' : List Int) (b' c' : Nat), iterL (fun x : List Int × Int × Int × Int × Int × Int × Int × List Int × Unit => integer_digit.s1 x.1 x.2.1 x.2.2.1 x.2.2.2.1 x.2.2.2.2.1 x.2.2.2.2.2.1 x.2.2.2.2.2.2.1 x.2.2.2.2.2.2.2.1) (v, (v.length : Int), (q : Int), (b : Int), (c : Int), (v.length : Int), (i : Int), a, ()) = some (v, (v.length : Int), (q : Int), (b' : Int), (c' : Int), a', ()) ∧
      a'.length = v.length + 1 ∧ Lim a' ∧ b' ≤ 1 ∧ c' < 4294967296 ∧ dg a' v.length = dg u v.length ∧ lv (u.take v.length) + 4294967296 ^ v.length * (b' + c') = lv (a'.take v.length) + q * lv v := by
  intro t
  induction t with
  | zero =>
    intro i a b c ht hi hla ha hbb hcc hdr he
    obtain rfl : i = v.length := by omega
    refine ⟨a, b, c, iterL_done ?_, hla, ha, hbb, hcc, ?_, ?_⟩
    · simp only [integer_digit.s1, cite, decide_eq_true_eq]
      rw [if_neg (by omega)]
    · have := congrArg (fun l => dg l 0) hdr
      simpa [dg, List.getD_eq_getElem?_getD] using this
    · rw [he, List.take_of_length_le (show v.length ≤ v.length by omega)]
  | succ t ih =>
    intro i a b c ht hi hla ha hbb hcc hdr he
    have hdu : dg a i = dg u i := by
      have := congrArg (fun l => dg l 0) hdr
      simpa [dg, List.getD_eq_getElem?_getD] using this
    have h1 := dg_lt hu i
    have h2 := dg_lt hv i
    have hm := mul_lt32 hq h2
    obtain ⟨C, hC⟩ : ∃ C, C = c + q * dg v i := ⟨_, rfl⟩
    have hC2 : C / 4294967296 < 4294967296 := by omega
    obtain ⟨d, b', hd, hb', h3⟩ : ∃ d b' : Nat, d < 4294967296 ∧ b' ≤ 1 ∧ dg u i + 4294967296 * b' = d + C % 4294967296 + b := by
      by_cases h : dg u i < C % 4294967296 + b
      · exact ⟨dg u i + 4294967296 - C % 4294967296 - b, 1, by omega, by omega, by omega⟩
      · exact ⟨dg u i - C % 4294967296 - b, 0, by omega, by omega, by omega⟩
    obtain ⟨a', bb, cc, g1, g2⟩ := ih (i + 1) (a.set i (d : Int)) b' (C / 4294967296) (by omega) (by omega) (by simpa using hla) (ha.set i (by omega)) hb' hC2 (by
      rw [List.drop_set_of_lt (by omega)]
      have := congrArg (List.drop 1) hdr
      rw [List.drop_drop, List.drop_drop] at this
      exact this) (by
      rw [take_set _ _ _ (by omega), lv_snoc, lv_take_succ u, lv_take_succ v, Nat.pow_succ, List.length_take, Nat.min_eq_left (by omega)]
      have h4 : 4294967296 ^ i * (dg u i + 4294967296 * (b' + C / 4294967296)) = 4294967296 ^ i * (d + b + c + q * dg v i) := by
        congr 1
        omega
      have h5 := Nat.mul_left_comm (4294967296 ^ i) q (dg v i)
      simp only [Nat.mul_add, Nat.mul_assoc] at h4 he ⊢
      omega)
    refine ⟨a', bb, cc, (iterL_next ?_).trans g1, g2⟩
    simp only [integer_digit.s1, integer_digit.j2, cite, decide_eq_true_eq, inB_t]
    have e1 : IntKind.wrap .u64 ((c : Int) + IntKind.wrap .u64 ((q : Int) * IntKind.wrap .u64 ((dg v i : Nat) : Int))) = (C : Int) := by
      rw [wu64' (x := ((dg v i : Nat) : Int)) (by omega) (by omega), ← Int.natCast_mul, wu64' (x := ((q * dg v i : Nat) : Int)) (by omega) (by omega), wu64' (by omega) (by omega), hC]
      rfl
    have e2 : IntKind.wrap .u64 (IntKind.wrap .u64 (IntKind.wrap .u64 ((dg u i : Nat) : Int) - ((C % 4294967296 : Nat) : Int)) - (b : Int)) = ((d + 18446744069414584320 * b' : Nat) : Int) := by
      rw [wu64, wu64, wu64]
      have : b' = 0 ∨ b' = 1 := by omega
      rcases this with rfl | rfl <;> omega
    have e4 : ((d + 18446744069414584320 * b') / 9223372036854775808 : Nat) = b' := by
      have : b' = 0 ∨ b' = 1 := by omega
      rcases this with rfl | rfl <;> omega
    have e5 : IntKind.wrap .u32 ((d + 18446744069414584320 * b' : Nat) : Int) = (d : Int) := by rw [wu32]; omega
    rw [if_pos (by omega), if_pos (by omega), if_pos (by omega), if_pos (by omega), Int.toNat_natCast, Nat.zero_add, gd hv, gd ha, hdu, e1, and_low C (by omega), e2, top_bit, hi_word, e4, e5, up (by omega)]
/-- Add back. -/
theorem back_loop {v : List Int} (hv : Lim v) (hb : v.length < 17592186044416) (q : Int) (A : List Int) (hA : Lim A) : ∀ (t i : Nat) (a : List Int) (c : Nat), v.length - i = t → i ≤ v.length → a.length = v.length + 1 → Lim a → c ≤ 1 → a.drop i = A.drop i →
    lv (a.take i) + 4294967296 ^ i * c = lv (A.take i) + lv (v.take i) →
    ∃ (a' : List Int) (c' : Nat), iterL (fun x : List Int × Int × Int × Int × Int × Int × List Int × Unit => integer_digit.s2 x.1 x.2.1 x.2.2.1 x.2.2.2.1 x.2.2.2.2.1 x.2.2.2.2.2.1 x.2.2.2.2.2.2.1) (v, (v.length : Int), q, (c : Int), (v.length : Int), (i : Int), a, ()) = some ((v.length : Int), q, (c' : Int), a', ()) ∧
      a'.length = v.length + 1 ∧ Lim a' ∧ c' ≤ 1 ∧ dg a' v.length = dg A v.length ∧ lv (a'.take v.length) + 4294967296 ^ v.length * c' = lv (A.take v.length) + lv v := by
  intro t
  induction t with
  | zero =>
    intro i a c ht hi hla ha hcc hdr he
    obtain rfl : i = v.length := by omega
    refine ⟨a, c, iterL_done ?_, hla, ha, hcc, ?_, ?_⟩
    · simp only [integer_digit.s2, cite, decide_eq_true_eq]
      rw [if_neg (by omega)]
    · have := congrArg (fun l => dg l 0) hdr
      simpa [dg, List.getD_eq_getElem?_getD] using this
    · rw [he, List.take_of_length_le (show v.length ≤ v.length by omega)]
  | succ t ih =>
    intro i a c ht hi hla ha hcc hdr he
    have hdu : dg a i = dg A i := by
      have := congrArg (fun l => dg l 0) hdr
      simpa [dg, List.getD_eq_getElem?_getD] using this
    have h1 := dg_lt ha i
    have h2 := dg_lt hv i
    obtain ⟨C, hC⟩ : ∃ C, C = c + (dg a i + dg v i) := ⟨_, rfl⟩
    obtain ⟨a', cc, g1, g2⟩ := ih (i + 1) (a.set i ((C % 4294967296 : Nat) : Int)) (C / 4294967296) (by omega) (by omega) (by simpa using hla) (ha.set i (by omega)) (by omega) (by
      rw [List.drop_set_of_lt (by omega)]
      have := congrArg (List.drop 1) hdr
      rw [List.drop_drop, List.drop_drop] at this
      exact this) (by
      rw [take_set _ _ _ (by omega), lv_snoc, lv_take_succ A, lv_take_succ v, Nat.pow_succ, List.length_take, Nat.min_eq_left (by omega), ← hdu]
      have h4 : 4294967296 ^ i * (C % 4294967296 + 4294967296 * (C / 4294967296)) = 4294967296 ^ i * (c + (dg a i + dg v i)) := by
        congr 1
        omega
      rw [Nat.mul_add, Nat.mul_add, Nat.mul_add] at h4
      rw [Nat.mul_assoc]
      omega)
    refine ⟨a', cc, (iterL_next ?_).trans g1, g2⟩
    simp only [integer_digit.s2, integer_digit.j4, cite, decide_eq_true_eq, inB_t]
    have e1 : IntKind.wrap .u64 ((c : Int) + IntKind.wrap .u64 (IntKind.wrap .u64 ((dg a i : Nat) : Int) + IntKind.wrap .u64 ((dg v i : Nat) : Int))) = (C : Int) := by
      rw [wu64' (x := ((dg v i : Nat) : Int)) (by omega) (by omega), wu64' (x := ((dg a i : Nat) : Int)) (by omega) (by omega), wu64' (x := ((dg a i : Nat) : Int) + _) (by omega) (by omega), wu64' (by omega) (by omega), hC]
      rfl
    have e5 : IntKind.wrap .u32 (C : Int) = ((C % 4294967296 : Nat) : Int) := by rw [wu32]; omega
    rw [if_pos (by omega), if_pos (by omega), if_pos (by omega), if_pos (by omega), Int.toNat_natCast, Nat.zero_add, gd hv, gd ha, e1, hi_word, e5, up (by omega)]
end Go.Proofs.Ytbchgegclgpdhaa.V
/- Laws of integer: long division in general; greatest common divisors. -/
namespace Go.Proofs.Ytbchgegclgpdhaa.V
open Go Go.Proofs.Ytbchgegclgpdhaa.E Go.Proofs.Ytbchgegclgpdhaa.LI
set_option linter.unusedVariables false
set_option linter.unusedSimpArgs false
theorem mn2_nat (a b : Nat) : mn2 (a : Int) (b : Int) = ((min a b : Nat) : Int) := by unfold mn2; split <;> omega
theorem lv_set_last {l : List Int} {m : Nat} (hl : l.length = m + 1) (x : Nat) : lv (l.set m (x : Int)) = lv (l.take m) + 4294967296 ^ m * x := by
  have e : l.set m (x : Int) = (l.set m (x : Int)).take (m + 1) := by rw [List.take_of_length_le (by rw [List.length_set]; omega)]
  rw [e, take_set _ _ _ (by omega), lv_snoc, List.length_take, Nat.min_eq_left (by omega)]
/-- The arithmetic of an estimate. -/
theorem est_arith {P ul vl Ut Vt T v1 u0 : Nat} (hP : 0 < P) (hul : ul < P) (hvl : vl < P) (hUt : Ut = 4294967296 * T + u0) (hu0 : u0 < 4294967296) (hVt : 4294967296 * v1 ≤ Vt) (hv1 : 0 < v1) :
    (∀ q, q * Vt > Ut → (ul + P * Ut) / (vl + P * Vt) < q) ∧ (ul + P * Ut) / (vl + P * Vt) * v1 ≤ T ∧ (∀ q, q < 4294967296 → q * Vt ≤ Ut → q ≤ (ul + P * Ut) / (vl + P * Vt) + 1) := by
  have hPV : P * 4294967296 ≤ P * Vt := Nat.mul_le_mul_left _ (by omega)
  have hV : 0 < vl + P * Vt := by omega
  refine ⟨fun q hq => ?_, ?_, fun q hqB hq => ?_⟩
  · rw [Nat.div_lt_iff_lt_mul hV, Nat.mul_add]
    have h1 : P * (Ut + 1) ≤ P * (q * Vt) := Nat.mul_le_mul_left _ hq
    rw [Nat.mul_left_comm, Nat.mul_add] at h1
    omega
  · obtain ⟨Q, hQ⟩ : ∃ Q, Q = (ul + P * Ut) / (vl + P * Vt) := ⟨_, rfl⟩
    rw [← hQ]
    have h1 : Q * (vl + P * Vt) ≤ ul + P * Ut := by rw [hQ]; exact Nat.div_mul_le_self _ _
    apply Classical.byContradiction
    intro hc
    have h2 : Q * (P * (4294967296 * v1)) ≤ Q * (P * Vt) := Nat.mul_le_mul_left _ (Nat.mul_le_mul_left _ hVt)
    have h3 : P * (4294967296 * (T + 1)) ≤ P * (4294967296 * (Q * v1)) := Nat.mul_le_mul_left _ (Nat.mul_le_mul_left _ (by omega))
    have h4 : P * (4294967296 * (Q * v1)) = Q * (P * (4294967296 * v1)) := by
      rw [Nat.mul_left_comm 4294967296 Q, Nat.mul_left_comm P Q]
    have h5 : P * (Ut + 1) ≤ P * (4294967296 * (T + 1)) := Nat.mul_le_mul_left _ (by omega)
    rw [Nat.mul_add Q] at h1
    rw [Nat.mul_add P Ut] at h5
    omega
  · obtain ⟨Q, hQ⟩ : ∃ Q, Q = (ul + P * Ut) / (vl + P * Vt) := ⟨_, rfl⟩
    rw [← hQ]
    have h1 : ul + P * Ut < (Q + 1) * (vl + P * Vt) := by
      have := Nat.lt_mul_div_succ (ul + P * Ut) hV
      rw [← hQ] at this
      rw [Nat.mul_comm (Q + 1)]
      exact this
    apply Classical.byContradiction
    intro hc
    have h2 : (Q + 2) * (vl + P * Vt) ≤ q * (vl + P * Vt) := Nat.mul_le_mul_right _ (by omega)
    have h3 : q * vl ≤ 4294967296 * vl := Nat.mul_le_mul_right _ (by omega)
    have h4 : 4294967296 * (vl + 1) ≤ 4294967296 * P := Nat.mul_le_mul_left _ hvl
    have h5 : P * (q * Vt) ≤ P * Ut := Nat.mul_le_mul_left _ hq
    rw [Nat.mul_add q, Nat.mul_left_comm q] at h2
    rw [show (Q + 2) * (vl + P * Vt) = (Q + 1) * (vl + P * Vt) + (vl + P * Vt) by rw [Nat.add_mul, Nat.add_mul]; omega] at h2
    omega
theorem digit_ok {u v : List Int} (hu : Lim u) (hv : Lim v) {n : Nat} (hn : v.length = n + 2) (hul : u.length = n + 3) (hb : n < 1000000000) (hv1 : 2147483648 ≤ dg v (n + 1)) (hlt : lv u < lv v * 4294967296) :
    ∃ r, integer_digit u v = some (((lv u / lv v : Nat) : Int), r) ∧ r.length = n + 3 ∧ Lim r ∧ lv r = lv u % lv v := by
  have d2 := dg_lt hu (n + 2)
  have d1 := dg_lt hu (n + 1)
  have d0 := dg_lt hu n
  have c1 := dg_lt hv (n + 1)
  have c0 := dg_lt hv n
  have hUe : lv u = lv (u.take n) + 4294967296 ^ n * (4294967296 * (4294967296 * dg u (n + 2) + dg u (n + 1)) + dg u n) := by
    have e1 := lv_take_succ u n
    have e2 := lv_take_succ u (n + 1)
    have e3 := lv_take_succ u (n + 2)
    rw [List.take_of_length_le (show u.length ≤ n + 2 + 1 by omega)] at e3
    rw [e3, show u.take (n + 2) = u.take (n + 1 + 1) from rfl, e2, e1, show 4294967296 ^ (n + 2) = 4294967296 ^ n * 4294967296 * 4294967296 by rw [Nat.pow_succ, Nat.pow_succ], Nat.pow_succ]
    simp only [Nat.mul_add, Nat.mul_assoc]
    omega
  have hVe : lv v = lv (v.take n) + 4294967296 ^ n * (4294967296 * dg v (n + 1) + dg v n) := by
    have e1 := lv_take_succ v n
    have e2 := lv_take_succ v (n + 1)
    rw [List.take_of_length_le (show v.length ≤ n + 1 + 1 by omega)] at e2
    rw [e2, e1, Nat.pow_succ]
    simp only [Nat.mul_add, Nat.mul_assoc]
    omega
  obtain ⟨T, hT⟩ : ∃ T, T = 4294967296 * dg u (n + 2) + dg u (n + 1) := ⟨_, rfl⟩
  have hu' := lv_lt (hu.take n)
  have hv' := lv_lt (hv.take n)
  rw [List.length_take, Nat.min_eq_left (by omega)] at hu' hv'
  obtain ⟨A1, A2, A3⟩ := est_arith (P := 4294967296 ^ n) (T := T) (u0 := dg u n) (v1 := dg v (n + 1)) (Vt := 4294967296 * dg v (n + 1) + dg v n) (Nat.pow_pos (by omega)) hu' hv' rfl d0 (by omega) (by omega)
  rw [hT, ← hUe, ← hVe, ← hT] at A2
  rw [hT] at A1 A3
  rw [← hUe, ← hVe] at A1 A3
  rw [← hT] at A1 A3
  have hV0 : 0 < lv v := by
    rw [hVe]
    have := Nat.mul_pos (Nat.pow_pos (n := n) (show 0 < 4294967296 by omega)) (show 0 < 4294967296 * dg v (n + 1) + dg v n by omega)
    omega
  have hQB : lv u / lv v < 4294967296 := by rw [Nat.div_lt_iff_lt_mul hV0, Nat.mul_comm]; exact hlt
  have hdm := Nat.div_add_mod (lv u) (lv v)
  have hml := Nat.mod_lt (lv u) hV0
  have hVlt := lv_lt hv
  have hQ0 : lv u / lv v ≤ min (T / dg v (n + 1)) 4294967295 := by
    have := (Nat.le_div_iff_mul_le (show 0 < dg v (n + 1) by omega)).2 A2
    omega
  obtain ⟨q0, hq0⟩ : ∃ q0, q0 = min (T / dg v (n + 1)) 4294967295 := ⟨_, rfl⟩
  have hq0T : q0 * dg v (n + 1) ≤ T := by
    have h1 : q0 ≤ T / dg v (n + 1) := by omega
    exact Nat.le_trans (Nat.mul_le_mul_right _ h1) (Nat.div_mul_le_self _ _)
  obtain ⟨q, g1, g2, g3, g4⟩ := est_loop hu hv hn hul (T := T) (Q := lv u / lv v) (by omega) hT (by omega) (by omega) (fun q _ h => A1 q h) q0 (by omega) (by omega) hq0T
  have hqQ := A3 q g2 g4
  have hlen : ((v.length : Nat) : Int) = ((n + 2 : Nat) : Int) := by rw [hn]
  obtain ⟨a, b, c, s1, s2, s3, s4, s5, s6, s7⟩ := sub_loop hu hv g2 (by omega) (by omega) _ 0 u 0 0 rfl (by omega) (by omega) hu (by omega) (by omega) rfl (by simp [lv])
  have hU2 : lv u = lv (u.take v.length) + 4294967296 ^ v.length * dg u v.length := by
    have := lv_take_succ u v.length
    rwa [List.take_of_length_le (show u.length ≤ v.length + 1 by omega)] at this
  have hdv := dg_lt hu v.length
  obtain ⟨e, b2, he, hb2, h3⟩ : ∃ e b2 : Nat, e < 4294967296 ∧ b2 ≤ 1 ∧ dg u v.length + 4294967296 * b2 = e + c + b := by
    by_cases h : dg u v.length < c + b
    · exact ⟨dg u v.length + 4294967296 - c - b, 1, by omega, by omega, by omega⟩
    · exact ⟨dg u v.length - c - b, 0, by omega, by omega, by omega⟩
  have hLa : Lim (a.set v.length (e : Int)) := s3.set _ (by omega)
  have hva := lv_set_last s2 e
  have hM : lv u + 4294967296 ^ (v.length + 1) * b2 = lv (a.set v.length (e : Int)) + q * lv v := by
    rw [hva, hU2, Nat.pow_succ]
    have h4 : 4294967296 ^ v.length * (dg u v.length + 4294967296 * b2) = 4294967296 ^ v.length * (e + c + b) := by rw [h3]
    simp only [Nat.mul_add, Nat.mul_assoc] at h4 s7 ⊢
    omega
  have hvl2 := lv_lt hLa
  rw [List.length_set, s2] at hvl2
  have x2 : orI .u64 (shlI .u64 (IntKind.wrap .u64 ((dg u (n + 2) : Nat) : Int)) 32) (IntKind.wrap .u64 ((dg u (n + 1) : Nat) : Int)) = (T : Int) := by
    rw [wu64' (x := ((dg u (n + 2) : Nat) : Int)) (by omega) (by omega), pack d2 d1, hT]
  have x3 : IntKind.wrap .i64 (((n + 2 : Nat) : Int) - 1) = ((n + 1 : Nat) : Int) := by rw [wi64 (by omega) (by omega)]; omega
  have hTd : T / dg v (n + 1) < 18446744073709551616 := Nat.lt_of_le_of_lt (Nat.div_le_self _ _) (by omega)
  have x7 : mn2 (IntKind.wrap .u64 (Int.tdiv (T : Int) ((dg v (n + 1) : Nat) : Int))) 4294967295 = (q0 : Int) := by
    rw [← Int.ofNat_tdiv, wu64' (by omega) (by omega), show (4294967295 : Int) = ((4294967295 : Nat) : Int) from rfl, mn2_nat, hq0]
  have x9 : IntKind.wrap .u64 ((T : Int) - IntKind.wrap .u64 ((q0 : Int) * ((dg v (n + 1) : Nat) : Int))) = ((T - q0 * dg v (n + 1) : Nat) : Int) := by
    rw [← Int.natCast_mul, wu64' (x := ((q0 * dg v (n + 1) : Nat) : Int)) (by omega) (by omega), wu64' (by omega) (by omega)]
    omega
  have run : ∃ r, integer_digit.k0 u v (v.length : Int) (q : Int) u = some (((lv u / lv v : Nat) : Int), r) ∧ r.length = n + 3 ∧ Lim r ∧ lv r = lv u % lv v := by
    unfold integer_digit.k0
    rw [show ((0 : Nat) : Int) = 0 from rfl] at s1
    rw [s1, Option.bind_some]
    simp only [integer_digit.k1, cite, inB_t, beq_iff_eq]
    have e2 : IntKind.wrap .u64 (IntKind.wrap .u64 (IntKind.wrap .u64 ((dg u v.length : Nat) : Int) - (c : Int)) - (b : Int)) = ((e + 18446744069414584320 * b2 : Nat) : Int) := by
      rw [wu64, wu64, wu64]
      have : b2 = 0 ∨ b2 = 1 := by omega
      rcases this with rfl | rfl <;> omega
    have e4 : ((e + 18446744069414584320 * b2) / 9223372036854775808 : Nat) = b2 := by
      have : b2 = 0 ∨ b2 = 1 := by omega
      rcases this with rfl | rfl <;> omega
    have e5 : IntKind.wrap .u32 ((e + 18446744069414584320 * b2 : Nat) : Int) = (e : Int) := by rw [wu32]; omega
    rw [if_pos (by omega), if_pos (by omega), Int.toNat_natCast, Nat.zero_add, gd s3, s6, e2, top_bit, e4, e5]
    by_cases hz : b2 = 0
    · subst hz
      rw [Nat.mul_zero, Nat.add_zero] at hM
      have hqe : q = lv u / lv v := by
        have : q ≤ lv u / lv v := (Nat.le_div_iff_mul_le hV0).2 (by omega)
        omega
      rw [if_pos (show ((0 : Nat) : Int) = 0 from rfl), if_pos (by rw [List.length_set, s2, hul]; simp; omega)]
      refine ⟨_, by rw [wu32' (by omega) (by omega), hqe], by rw [List.length_set]; omega, hLa, ?_⟩
      rw [← hqe, Nat.mul_comm] at hdm
      omega
    · obtain rfl : b2 = 1 := by omega
      rw [Nat.mul_one] at hM
      have hqe : q = lv u / lv v + 1 := by
        have : lv u / lv v < q := by rw [Nat.div_lt_iff_lt_mul hV0]; omega
        omega
      have hqv : q * lv v = lv v * (lv u / lv v) + lv v := by rw [hqe, Nat.add_mul, Nat.one_mul, Nat.mul_comm]
      rw [if_neg (show ¬ ((1 : Nat) : Int) = 0 by decide)]
      obtain ⟨a2, c2, t1, t2, t3, t4, t5, t6⟩ := back_loop hv (by omega) (q : Int) (a.set v.length (e : Int)) hLa _ 0 (a.set v.length (e : Int)) 0 rfl (by omega) (by rw [List.length_set]; omega) hLa (by omega) rfl (by simp [lv])
      unfold integer_digit.j3
      rw [show ((0 : Nat) : Int) = 0 from rfl] at t1
      rw [t1, Option.bind_some]
      simp only [integer_digit.k2, cite, inB_t]
      have hde : dg (a.set v.length (e : Int)) v.length = e := by
        unfold dg
        rw [List.getD_eq_getElem?_getD, List.getElem?_set_self (by omega), Option.getD_some, Int.toNat_natCast]
      have w1 : IntKind.wrap .u32 (((e : Nat) : Int) + IntKind.wrap .u32 (c2 : Int)) = (((e + c2) % 4294967296 : Nat) : Int) := by rw [wu32, wu32]; omega
      rw [if_pos (by omega), if_pos (by omega), Int.toNat_natCast, Nat.zero_add, gd t3, t5, hde, w1, if_pos (by rw [List.length_set, t2, hul]; simp; omega)]
      have hva2 := lv_set_last t2 ((e + c2) % 4294967296)
      have hL3 : Lim (a2.set v.length (((e + c2) % 4294967296 : Nat) : Int)) := t3.set _ (by omega)
      have hvl3 := lv_lt hL3
      rw [List.length_set, t2] at hvl3
      have hq1 : 1 ≤ q := by rw [hqe]; exact Nat.le_add_left _ _
      have hq2 : (q : Int) - 1 = ((lv u / lv v : Nat) : Int) := by rw [hqe, Int.natCast_add]; exact Int.add_sub_cancel _ _
      refine ⟨_, by rw [wu64' (x := (q : Int) - 1) (by omega) (by omega), wu32' (x := (q : Int) - 1) (by omega) (by omega), hq2], by rw [List.length_set]; omega, hL3, ?_⟩
      rw [List.take_set_of_le (Nat.le_refl _)] at t6
      rw [hva] at hM
      rw [hva2] at hvl3 ⊢
      rw [hqv] at hM
      rw [Nat.pow_succ] at hM hvl3
      have h5 : (e + c2) % 4294967296 + 4294967296 * ((e + c2) / 4294967296) = e + c2 := Nat.mod_add_div _ _
      have h6 : 4294967296 ^ v.length * ((e + c2) % 4294967296 + 4294967296 * ((e + c2) / 4294967296)) = 4294967296 ^ v.length * (e + c2) := by rw [h5]
      rw [Nat.mul_add, Nat.mul_add, ← Nat.mul_assoc] at h6
      have h7 : (e + c2) / 4294967296 = 0 ∨ (e + c2) / 4294967296 = 1 := by omega
      rcases h7 with h7 | h7 <;> rw [h7] at h6 <;> omega
  obtain ⟨r, r1, r2⟩ := run
  refine ⟨r, ?_, r2⟩
  unfold integer_digit
  rw [hlen]
  rw [hlen] at r1
  simp only [cite, inB_t, decide_eq_true_eq]
  rw [x3, if_pos (by omega), if_pos (by omega), if_pos (by omega)]
  simp only [Int.toNat_natCast, Nat.zero_add]
  rw [gd hu, gd hu, gd hv, x2, wu64' (x := ((dg v (n + 1) : Nat) : Int)) (by omega) (by omega), if_neg (by omega), x7, if_pos (by omega), x9, g1, Option.bind_some]
  exact r1
end Go.Proofs.Ytbchgegclgpdhaa.V
