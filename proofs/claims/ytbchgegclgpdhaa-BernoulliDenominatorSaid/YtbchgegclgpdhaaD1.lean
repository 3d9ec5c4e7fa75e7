/- Laws of integer: leading zeros, shift, unshift. -/
import Derived.Test.YtbchgegclgpdhaaN9
namespace Go.Proofs.Ytbchgegclgpdhaa.V
open Go Go.Proofs.Ytbchgegclgpdhaa.E Go.Proofs.Ytbchgegclgpdhaa.LI
set_option linter.unusedVariables false
set_option linter.unusedSimpArgs false

/-! ## leading zeros -/
theorem len_tab24 : ∀ k : Fin 256, k.val ≠ 0 → bits_Len32.j2 (k.val : Int) 24 = some (((24 + (Nat.log2 k.val + 1) : Nat)) : Int) := by decide +kernel
theorem len_tab16 : ∀ k : Fin 256, k.val ≠ 0 → bits_Len32.j3 (k.val : Int) = some (((16 + (Nat.log2 k.val + 1) : Nat)) : Int) := by decide +kernel
theorem len_tab8 : ∀ k : Fin 256, k.val ≠ 0 → bits_Len32.j2 (k.val : Int) 8 = some (((8 + (Nat.log2 k.val + 1) : Nat)) : Int) := by decide +kernel
theorem len_tab0 : ∀ k : Fin 256, k.val ≠ 0 → bits_Len32.j5 (k.val : Int) = some (((0 + (Nat.log2 k.val + 1) : Nat)) : Int) := by decide +kernel
theorem len_t24 (k : Nat) (h : k < 256) (h0 : k ≠ 0) : bits_Len32.j2 (k : Int) 24 = some (((24 + (Nat.log2 k + 1) : Nat)) : Int) := len_tab24 ⟨k, h⟩ h0
theorem len_t16 (k : Nat) (h : k < 256) (h0 : k ≠ 0) : bits_Len32.j3 (k : Int) = some (((16 + (Nat.log2 k + 1) : Nat)) : Int) := len_tab16 ⟨k, h⟩ h0
theorem len_t8 (k : Nat) (h : k < 256) (h0 : k ≠ 0) : bits_Len32.j2 (k : Int) 8 = some (((8 + (Nat.log2 k + 1) : Nat)) : Int) := len_tab8 ⟨k, h⟩ h0
theorem len_t0 (k : Nat) (h : k < 256) (h0 : k ≠ 0) : bits_Len32.j5 (k : Int) = some (((0 + (Nat.log2 k + 1) : Nat)) : Int) := len_tab0 ⟨k, h⟩ h0
theorem log_scale {x y : Nat} (c : Nat) (hy : y = x / 2 ^ c) (h : y ≠ 0) : 2 ^ (c + (Nat.log2 y + 1) - 1) ≤ x ∧ x < 2 ^ (c + (Nat.log2 y + 1)) := by
  subst hy
  have h1 := Nat.log2_self_le h
  have h2 := @Nat.lt_log2_self (x / 2 ^ c)
  constructor
  · rw [show c + (Nat.log2 (x / 2 ^ c) + 1) - 1 = Nat.log2 (x / 2 ^ c) + c by omega, Nat.pow_add]
    exact Nat.le_trans (Nat.mul_le_mul_right _ h1) (Nat.div_mul_le_self _ _)
  · rw [Nat.add_comm, Nat.pow_add]
    exact (Nat.div_lt_iff_lt_mul (Nat.two_pow_pos c)).1 h2
theorem len32 {x : Nat} (h0 : 0 < x) (h1 : x < 4294967296) : ∃ e : Nat, bits_Len32 (x : Int) = some (e : Int) ∧ 2 ^ (e - 1) ≤ x ∧ x < 2 ^ e := by
  have s16 := shr32 x 16 (by omega)
  rw [show ((16 : Nat) : Int) = 16 from rfl, show (2 : Nat) ^ 16 = 65536 from rfl] at s16
  unfold bits_Len32
  simp only [cite, decide_eq_true_eq, bits_Len32.j1, bits_Len32.j4]
  rw [s16]
  by_cases c1 : 65536 ≤ x
  · rw [if_pos (by omega)]
    have s8 := shr32 (x / 65536) 8 (by omega)
    rw [show ((8 : Nat) : Int) = 8 from rfl, show (2 : Nat) ^ 8 = 256 from rfl] at s8
    rw [s8]
    by_cases c2 : 256 ≤ x / 65536
    · rw [if_pos (by omega), show IntKind.wrap .i64 ((16 : Int) + 8) = 24 by rw [wi64 (by decide) (by decide)]; rfl]
      obtain ⟨y, hy⟩ : ∃ y, y = x / 65536 / 256 := ⟨_, rfl⟩
      rw [← hy]
      exact ⟨_, len_t24 y (by omega) (by omega), log_scale 24 (by rw [hy, Nat.div_div_eq_div_mul]) (by omega)⟩
    · rw [if_neg (by omega)]
      obtain ⟨y, hy⟩ : ∃ y, y = x / 65536 := ⟨_, rfl⟩
      rw [← hy]
      exact ⟨_, len_t16 y (by omega) (by omega), log_scale 16 hy (by omega)⟩
  · rw [if_neg (by omega)]
    have s8 := shr32 x 8 (by omega)
    rw [show ((8 : Nat) : Int) = 8 from rfl, show (2 : Nat) ^ 8 = 256 from rfl] at s8
    rw [s8]
    by_cases c2 : 256 ≤ x
    · rw [if_pos (by omega), show IntKind.wrap .i64 ((0 : Int) + 8) = 8 by rw [wi64 (by decide) (by decide)]; rfl]
      obtain ⟨y, hy⟩ : ∃ y, y = x / 256 := ⟨_, rfl⟩
      rw [← hy]
      exact ⟨_, len_t8 y (by omega) (by omega), log_scale 8 hy (by omega)⟩
    · rw [if_neg (by omega)]
      exact ⟨_, len_t0 x (by omega) (by omega), log_scale 0 (by omega) (by omega)⟩
theorem lz32 {x : Nat} (h0 : 0 < x) (h1 : x < 4294967296) : ∃ s : Nat, s < 32 ∧ bits_LeadingZeros32 (x : Int) = some (s : Int) ∧ 2147483648 ≤ x * 2 ^ s ∧ x * 2 ^ s < 4294967296 := by
  obtain ⟨e, h2, h3, h4⟩ := len32 h0 h1
  have he : 1 ≤ e := by
    rcases Nat.eq_zero_or_pos e with rfl | h
    · simp at h4; omega
    · exact h
  have he2 : e ≤ 32 := by
    apply Classical.byContradiction
    intro h
    have := Nat.pow_le_pow_right (show 2 > 0 by omega) (show 32 ≤ e - 1 by omega)
    omega
  refine ⟨32 - e, by omega, ?_, ?_, ?_⟩
  · unfold bits_LeadingZeros32
    rw [h2, Option.bind_some, wi64 (by omega) (by omega)]
    congr 1; omega
  · have := Nat.mul_le_mul_right (2 ^ (32 - e)) h3
    rw [← Nat.pow_add, show e - 1 + (32 - e) = 31 by omega] at this
    omega
  · have := Nat.mul_lt_mul_of_pos_right h4 (Nat.two_pow_pos (32 - e))
    rw [← Nat.pow_add, show e + (32 - e) = 32 by omega] at this
    omega

/-! ## shift -/
theorem two32 (s : Nat) (h : s < 32) : ∃ c, 2 ^ s * c = 4294967296 ∧ 0 < c := ⟨2 ^ (32 - s), by rw [← Nat.pow_add, show s + (32 - s) = 32 by omega], Nat.two_pow_pos _⟩
theorem shift_loop {l : List Int} (hl : Lim l) {s : Nat} (hs : s < 32) (hb : l.length < 17592186044416) : ∀ (t i : Nat) (a : List Int), l.length - i = t → i ≤ l.length → a.length = l.length + 1 → Lim a → lv a = 2 ^ s * lv (l.take i) →
    ∃ a' : List Int, iterL (fun x : List Int × Int × Int × Int × List Int × Unit => integer_shift.s0 x.1 x.2.1 x.2.2.1 x.2.2.2.1 x.2.2.2.2.1) (l, (s : Int), (l.length : Int), (i : Int), a, ()) = some (a', ()) ∧ a'.length = l.length + 1 ∧ Lim a' ∧ lv a' = 2 ^ s * lv l := by
  intro t
  induction t with
  | zero =>
    intro i a ht hi hl' ha he
    obtain rfl : i = l.length := by omega
    refine ⟨a, iterL_done ?_, hl', ha, by rw [he, List.take_length]⟩
    simp only [integer_shift.s0, cite, decide_eq_true_eq]
    rw [if_neg (by omega)]
  | succ t ih =>
    intro i a ht hi hl' ha he
    have hd := dg_lt hl i
    obtain ⟨c, hc, hc0⟩ := two32 s hs
    have hp : 0 < 4294967296 ^ i := Nat.pow_pos (by omega)
    have h2s : 0 < 2 ^ s := Nat.two_pow_pos s
    have hlt : lv a < 4294967296 ^ i * 2 ^ s := by
      have := lv_lt (hl.take i)
      rw [List.length_take, Nat.min_eq_left hi] at this
      rw [he, Nat.mul_comm]
      exact Nat.mul_lt_mul_of_pos_right this h2s
    have ho : dg a i < 2 ^ s := by
      rw [dg_lv ha]
      exact Nat.lt_of_le_of_lt (Nat.mod_le _ _) ((Nat.div_lt_iff_lt_mul hp).2 (by rw [Nat.mul_comm]; exact hlt))
    have ho1 : dg a (i + 1) = 0 := by
      rw [dg_lv ha, Nat.div_eq_of_lt]
      rw [Nat.pow_succ]
      exact Nat.lt_of_lt_of_le hlt (Nat.mul_le_mul_left _ (by rw [← hc]; exact Nat.le_mul_of_pos_right _ hc0))
    obtain ⟨w, hw⟩ : ∃ w, w = 2 ^ s * dg l i := ⟨_, rfl⟩
    have hw2 : w < 18446744073709551616 := by
      have := Nat.mul_lt_mul_of_lt_of_le (show dg l i < 4294967296 from hd) (show 2 ^ s ≤ 4294967296 by rw [← hc]; exact Nat.le_mul_of_pos_right _ hc0) (by omega)
      rw [hw, Nat.mul_comm]; omega
    have hw3 : w / 4294967296 < 4294967296 := by omega
    have hwl : w % 4294967296 = 2 ^ s * (dg l i % c) := by rw [hw, ← hc, Nat.mul_mod_mul_left]
    have hor : orI .u32 ((dg a i : Nat) : Int) ((w % 4294967296 : Nat) : Int) = ((dg a i + w % 4294967296 : Nat) : Int) := by
      have := dg_lt ha i
      rw [or32_nat _ _ this (by omega), Nat.or_comm, hwl, ← Nat.two_pow_add_eq_or_of_lt ho, Nat.add_comm]
    have hsum : dg a i + w % 4294967296 < 4294967296 := by
      have h3 : dg l i % c + 1 ≤ c := Nat.mod_lt _ hc0
      have h4 := Nat.mul_le_mul_left (2 ^ s) h3
      rw [Nat.mul_add, Nat.mul_one, hc] at h4
      omega
    have v1 := lv_put a (i := i) (by omega) (dg a i + w % 4294967296)
    have v2 := lv_put (a.set i ((dg a i + w % 4294967296 : Nat) : Int)) (i := i + 1) (by rw [List.length_set]; omega) (w / 4294967296)
    rw [dg_put_ne _ (by omega), ho1, Nat.mul_zero, Nat.add_zero] at v2
    obtain ⟨a', g1, g2⟩ := ih (i + 1) ((a.set i ((dg a i + w % 4294967296 : Nat) : Int)).set (i + 1) ((w / 4294967296 : Nat) : Int)) (by omega) (by omega) (by simpa using hl') ((ha.set _ (by omega)).set _ (by omega)) (by
      rw [v2, lv_take_succ, Nat.mul_add, ← he, Nat.mul_left_comm, ← hw, Nat.pow_succ, Nat.mul_assoc]
      have e : 4294967296 ^ i * w = 4294967296 ^ i * (w % 4294967296) + 4294967296 ^ i * (4294967296 * (w / 4294967296)) := by rw [← Nat.mul_add, Nat.mod_add_div]
      rw [Nat.mul_add] at v1
      omega)
    refine ⟨a', (iterL_next ?_).trans g1, g2⟩
    have hsh := @shl_nat (dg l i) s (by omega) (by rw [Nat.mul_comm, ← hw]; exact hw2)
    rw [← hw] at hsh
    simp only [integer_shift.s0, integer_shift.j1, cite, decide_eq_true_eq, inB_t]
    have wl : IntKind.wrap .u32 ((w : Nat) : Int) = ((w % 4294967296 : Nat) : Int) := by rw [wu32]; omega
    rw [if_pos (by omega), if_pos (by omega), if_neg (by omega), if_pos (by omega), Int.toNat_natCast, Nat.zero_add, gd hl, gd ha, wu64' (x := ((dg l i : Nat) : Int)) (by omega) (by omega), hsh, wl, hor, hi_word, up (by omega), wu32' (by omega) (by omega), if_pos (by omega), if_pos (by rw [List.length_set]; omega), Int.toNat_natCast, Nat.zero_add]
theorem shift_ok {l : List Int} (hl : Lim l) {s : Nat} (hs : s < 32) (hb : l.length < 1073741824) : ∃ r : List Int, integer_shift l (s : Int) = some r ∧ r.length = l.length + 1 ∧ Lim r ∧ lv r = 2 ^ s * lv l := by
  obtain ⟨a', g1, g2, g3, g4⟩ := shift_loop hl hs (by omega) _ 0 (List.replicate (l.length + 1) 0) rfl (by omega) (by simp) (Lim.replicate _) (by rw [lv_zeros]; simp [lv])
  refine ⟨a', ?_, g2, g3, g4⟩
  unfold integer_shift
  simp only [cite, inC_t, maxL_eq]
  rw [show ((0 : Nat) : Int) = 0 from rfl] at g1
  rw [up (by omega), if_pos (by omega), Int.toNat_natCast, g1, Option.bind_some]
  rfl

/-! ## unshift -/
theorem unshift_loop {l : List Int} (hl : Lim l) {s : Nat} (hs : s < 32) (hb : l.length < 17592186044416) : ∀ (t i : Nat) (a : List Int), l.length - i = t → i ≤ l.length → a.length = l.length → Lim a → 2 ^ s * lv (a.take i) + dg l 0 % 2 ^ s = lv (l.take i) + 4294967296 ^ i * (dg l i % 2 ^ s) →
    ∃ a' : List Int, iterL (fun x : List Int × Int × Int × Int × List Int × Unit => integer_unshift.s0 x.1 x.2.1 x.2.2.1 x.2.2.2.1 x.2.2.2.2.1) (l, (s : Int), (l.length : Int), (i : Int), a, ()) = some (a', ()) ∧ a'.length = l.length ∧ Lim a' ∧ 2 ^ s * lv a' + dg l 0 % 2 ^ s = lv l := by
  intro t
  induction t with
  | zero =>
    intro i a ht hi hl' ha he
    obtain rfl : i = l.length := by omega
    refine ⟨a, iterL_done ?_, hl', ha, ?_⟩
    · simp only [integer_unshift.s0, cite, decide_eq_true_eq]
      rw [if_neg (by omega)]
    · rw [List.take_length, dg_out (i := l.length) (by omega), Nat.zero_mod, Nat.mul_zero, List.take_of_length_le (by omega)] at he
      exact he
  | succ t ih =>
    intro i a ht hi hl' ha he
    have hd := dg_lt hl i
    have hd1 := dg_lt hl (i + 1)
    obtain ⟨c, hc, hc0⟩ := two32 s hs
    have h2s : 0 < 2 ^ s := Nat.two_pow_pos s
    obtain ⟨w, hw⟩ : ∃ w, w = (4294967296 * dg l (i + 1) + dg l i) / 2 ^ s := ⟨_, rfl⟩
    have hw1 : w % 4294967296 = dg l i / 2 ^ s + dg l (i + 1) % 2 ^ s * c := by
      have e : w = c * dg l (i + 1) + dg l i / 2 ^ s := by
        rw [hw, ← hc, Nat.mul_assoc, Nat.mul_add_div h2s]
      have e2 := Nat.div_add_mod (dg l (i + 1)) (2 ^ s)
      have e3 : w = (dg l i / 2 ^ s + dg l (i + 1) % 2 ^ s * c) + 4294967296 * (dg l (i + 1) / 2 ^ s) := by
        rw [e]
        have : c * dg l (i + 1) = c * (2 ^ s * (dg l (i + 1) / 2 ^ s)) + c * (dg l (i + 1) % 2 ^ s) := by rw [← Nat.mul_add, e2]
        rw [this, ← hc, Nat.mul_comm c (dg l (i + 1) % 2 ^ s), ← Nat.mul_assoc, Nat.mul_comm c]
        omega
      have hlow : dg l i / 2 ^ s < c := by rw [Nat.div_lt_iff_lt_mul h2s, Nat.mul_comm, hc]; exact hd
      have hup : (dg l (i + 1) % 2 ^ s + 1) * c ≤ 2 ^ s * c := Nat.mul_le_mul_right _ (Nat.mod_lt _ h2s)
      rw [Nat.add_mul, Nat.one_mul, hc] at hup
      rw [e3, Nat.add_mul_mod_self_left, Nat.mod_eq_of_lt (by omega)]
    obtain ⟨a', g1, g2⟩ := ih (i + 1) (a.set i ((w % 4294967296 : Nat) : Int)) (by omega) (by omega) (by simpa using hl') (ha.set _ (by omega)) (by
      rw [take_set _ _ _ (by omega), lv_snoc, lv_take_succ, List.length_take, Nat.min_eq_left (by omega), Nat.mul_add, Nat.pow_succ, Nat.mul_left_comm]
      have e : 2 ^ s * (w % 4294967296) = 2 ^ s * (dg l i / 2 ^ s) + 4294967296 * (dg l (i + 1) % 2 ^ s) := by
        rw [hw1, Nat.mul_add, ← hc, Nat.mul_comm (dg l (i + 1) % 2 ^ s) c, Nat.mul_assoc]
      rw [e, Nat.mul_assoc]
      have e4 : 4294967296 ^ i * dg l i = 4294967296 ^ i * (2 ^ s * (dg l i / 2 ^ s)) + 4294967296 ^ i * (dg l i % 2 ^ s) := by rw [← Nat.mul_add, Nat.div_add_mod]
      rw [Nat.mul_add, e4]
      omega)
    refine ⟨a', (iterL_next ?_).trans g1, g2⟩
    have hsr := @shr_nat (4294967296 * dg l (i + 1) + dg l i) s (by omega)
    rw [← hw] at hsr
    have wl : IntKind.wrap .u32 ((w : Nat) : Int) = ((w % 4294967296 : Nat) : Int) := by rw [wu32]; omega
    simp only [integer_unshift.s0, integer_unshift.j1, cite, decide_eq_true_eq, inB_t]
    rw [if_pos (by omega), up (by omega), limb_ok hl, Option.bind_some, if_pos (by omega), if_neg (by omega), if_pos (by omega), Int.toNat_natCast, Nat.zero_add, gd hl, pack hd1 hd, hsr, wl]
theorem unshift_ok {l : List Int} (hl : Lim l) {s : Nat} (hs : s < 32) (hb : l.length ≤ 1073741824) : integer_unshift l (s : Int) = some (limbs (lv l / 2 ^ s)) := by
  obtain ⟨a', g1, g2, g3, g4⟩ := unshift_loop hl hs (by omega) _ 0 (List.replicate l.length 0) rfl (by omega) (by simp) (Lim.replicate _) (by simp [lv])
  have h2s : 0 < 2 ^ s := Nat.two_pow_pos s
  have he : lv a' = lv l / 2 ^ s := by
    rw [← g4, Nat.mul_add_div h2s, Nat.div_eq_of_lt (Nat.mod_lt _ h2s), Nat.add_zero]
  unfold integer_unshift
  simp only [cite, inC_t, maxL_eq]
  rw [show ((0 : Nat) : Int) = 0 from rfl] at g1
  rw [if_pos (by omega), Int.toNat_natCast, g1, Option.bind_some]
  simp only [integer_unshift.k0]
  rw [trim_ok g3 (by omega), Option.bind_some, he]
end Go.Proofs.Ytbchgegclgpdhaa.V
