/- Laws of integer: leading zeros, shift, unshift. -/
import Derived.Test.YtgbndganadelpaaGreatDoorYLocalmassStandard13
namespace Go.Proofs.YtgbndganadelpaaGreatDoor.V
open Go Go.Proofs.YtgbndganadelpaaGreatDoor.E Go.Proofs.YtgbndganadelpaaGreatDoor.LI
set_option linter.unusedVariables false
set_option linter.unusedSimpArgs false
theorem len_tab24 : ∀ k : Fin 256, k.val ≠ 0 → bits_Len32.j2 (k.val : Int) 24 = some (((24 + (Nat.log2 k.val + 1) : Nat)) : Int) := by decide +kernel
theorem len_tab16 : ∀ k : Fin 256, k.val ≠ 0 → bits_Len32.j3 (k.val : Int) = some (((16 + (Nat.log2 k.val + 1) : Nat)) : Int) := by decide +kernel
theorem len_tab8 : ∀ k : Fin 256, k.val ≠ 0 → bits_Len32.j2 (k.val : Int) 8 = some (((8 + (Nat.log2 k.val + 1) : Nat)) : Int) := by decide +kernel
theorem len_tab0 : ∀ k : Fin 256, k.val ≠ 0 → bits_Len32.j5 (k.val : Int) = some (((0 + (Nat.log2 k.val + 1) : Nat)) : Int) := by decide +kernel
theorem len_t24 (k : Nat) (h : k < 256) (h0 : k ≠ 0) : bits_Len32.j2 (k : Int) 24 = some (((24 + (Nat.log2 k + 1) : Nat)) : Int) := len_tab24 ⟨k, h⟩ h0
theorem len_t16 (k : Nat) (h : k < 256) (h0 : k ≠ 0) : bits_Len32.j3 (k : Int) = some (((16 + (Nat.log2 k + 1) : Nat)) : Int) := len_tab16 ⟨k, h⟩ h0
theorem len_t8 (k : Nat) (h : k < 256) (h0 : k ≠ 0) : bits_Len32.j2 (k : Int) 8 = some (((8 + (Nat.log2 k + 1) : Nat)) : Int) := len_tab8 ⟨k, h⟩ h0
theorem len_t0 (k : Nat) (h : k < 256) (h0 : k ≠ 0) : bits_Len32.j5 (k : Int) = some (((0 + (Nat.log2 k + 1) : Nat)) : Int) := len_tab0 ⟨k, h⟩ h0
theorem log_scale {x y : Nat} (c : Nat) (hy : y = x / 2 ^ c) (h : y ≠ 0) : 2 ^ (c + (Nat.log2 y + 1) - 1) ≤ x ∧ x < 2 ^ (c + (Nat.log2 y + 1)) := by
  subst hy
  have h1 := Nat.log2_self_le h
  have h2 := @Nat.lt_log2_self (x / 2 ^ c)
  constructor
  · rw [show c + (Nat.log2 (x / 2 ^ c) + 1) - 1 = Nat.log2 (x / 2 ^ c) + c by omega, Nat.pow_add]
    exact Nat.le_trans (Nat.mul_le_mul_right _ h1) (Nat.div_mul_le_self _ _)
  · rw [Nat.add_comm, Nat.pow_add]
    exact (Nat.div_lt_iff_lt_mul (Nat.two_pow_pos c)).1 h2
theorem len32 {x : Nat} (h0 : 0 < x) (h1 : x < 4294967296) : ∃ e : Nat, bits_Len32 (x : Int) = some (e : Int) ∧ 2 ^ (e - 1) ≤ x ∧ x < 2 ^ e := by
  have s16 := shr32 x 16 (by omega)
  rw [show ((16 : Nat) : Int) = 16 from rfl, show (2 : Nat) ^ 16 = 65536 from rfl] at s16
  unfold bits_Len32
  simp only [cite, decide_eq_true_eq, bits_Len32.j1, bits_Len32.j4]
  rw [s16]
  by_cases c1 : 65536 ≤ x
  · rw [if_pos (by omega)]
    have s8 := shr32 (x / 65536) 8 (by omega)
    rw [show ((8 : Nat) : Int) = 8 from rfl, show (2 : Nat) ^ 8 = 256 from rfl] at s8
    rw [s8]
    by_cases c2 : 256 ≤ x / 65536
    · rw [if_pos (by omega), show IntKind.wrap .i64 ((16 : Int) + 8) = 24 by rw [wi64 (by decide) (by decide)]; rfl]
      obtain ⟨y, hy⟩ : ∃ y, y = x / 65536 / 256 := ⟨_, rfl⟩
      rw [← hy]
      exact ⟨_, len_t24 y (by omega) (by omega), log_scale 24 (by rw [hy, Nat.div_div_eq_div_mul]) (by omega)⟩
    · rw [if_neg (by omega)]
      obtain ⟨y, hy⟩ : ∃ y, y = x / 65536 := ⟨_, rfl⟩
      rw [← hy]
      exact ⟨_, len_t16 y (by omega) (by omega), log_scale 16 hy (by omega)⟩
  · rw [if_neg (by omega)]
    have s8 := shr32 x 8 (by omega)
    rw [show ((8 : Nat) : Int) = 8 from rfl, show (2 : Nat) ^ 8 = 256 from rfl] at s8
    rw [s8]
    by_cases c2 : 256 ≤ x
    · rw [if_pos (by omega), show IntKind.wrap .i64 ((0 : Int) + 8) = 8 by rw [wi64 (by decide) (by decide)]; rfl]
      obtain ⟨y, hy⟩ : ∃ y, y = x / 256 := ⟨_, rfl⟩
      rw [← hy]
      exact ⟨_, len_t8 y (by omega) (by omega), log_scale 8 hy (by omega)⟩
    · rw [if_neg (by omega)]
      exact ⟨_, len_t0 x (by omega) (by omega), log_scale 0 (by omega) (by omega)⟩
theorem lz32 {x : Nat} (h0 : 0 < x) (h1 : x < 4294967296) : ∃ s : Nat, s < 32 ∧ bits_LeadingZeros32 (x : Int) = some (s : Int) ∧ 2147483648 ≤ x * 2 ^ s ∧ x * 2 ^ s < 4294967296 := by
  obtain ⟨e, h2, h3, h4⟩ := len32 h0 h1
  have he : 1 ≤ e := by
    rcases Nat.eq_zero_or_pos e with rfl | h
    · simp at h4; omega
    · exact h
  have he2 : e ≤ 32 := by
    apply Classical.byContradiction
    intro h
    have := Nat.pow_le_pow_right (show 2 > 0 by omega) (show 32 ≤ e - 1 by omega)
    omega
  refine ⟨32 - e, by omega, ?_, ?_, ?_⟩
  · unfold bits_LeadingZeros32
    rw [h2, Option.bind_some, wi64 (by omega) (by omega)]
    congr 1; omega
  · have := Nat.mul_le_mul_right (2 ^ (32 - e)) h3
    rw [← Nat.pow_add, show e - 1 + (32 - e) = 31 by omega] at this
    omega
  · have := Nat.mul_lt_mul_of_pos_right h4 (Nat.two_pow_pos (32 - e))
    rw [← Nat.pow_add, show e + (32 - e) = 32 by omega] at this
    omega
theorem two32 (s : Nat) (h : s < 32) : ∃ c, 2 ^ s * c = 4294967296 ∧ 0 < c := ⟨2 ^ (32 - s), by rw [← Nat.pow_add, show s + (32 - s) = 32 by omega], Nat.two_pow_pos _⟩
theorem shift_loop {l : List Int} (hl : Lim l) {s : Nat} (hs : s < 32) (hb : l.length < 17592186044416) : ∀ (t i : Nat) (a : List Int), l.length - i = t → i ≤ l.length → a.length = l.length + 1 → Lim a → lv a = 2 ^ s * lv (l.take i) →
    ∃ a' : List Int, iterL (fun x : List Int × Int × Int × Int × List Int × Unit => integer_shift.s0 x.1 x.2.1 x.2.2.1 x.2.2.2.1 x.2.2.2.2.1) (l, (s : Int), (l.length : Int), (i : Int), a, ()) = some (a', ()) ∧ a'.length = l.length + 1 ∧ Lim a' ∧ lv a' = 2 ^ s * lv l := by
  intro t
  induction t with
  | zero =>
    intro i a ht hi hl' ha he
    obtain rfl : i = l.length := by omega
    refine ⟨a, iterL_done ?_, hl', ha, by rw [he, List.take_length]⟩
    simp only [integer_shift.s0, cite, decide_eq_true_eq]
    rw [if_neg (by omega)]
  | succ t ih =>
    intro i a ht hi hl' ha he
    have hd := dg_lt hl i
    obtain ⟨c, hc, hc0⟩ := two32 s hs
    have hp : 0 < 4294967296 ^ i := Nat.pow_pos (by omega)
    have h2s : 0 < 2 ^ s := Nat.two_pow_pos s
    have hlt : lv a < 4294967296 ^ i * 2 ^ s := by
      have := lv_lt (hl.take i)
      rw [List.length_take, Nat.min_eq_left hi] at this
      rw [he, Nat.mul_comm]
      exact Nat.mul_lt_mul_of_pos_right this h2s
    have ho : dg a i < 2 ^ s := by
      rw [dg_lv ha]
      exact Nat.lt_of_le_of_lt (Nat.mod_le _ _) ((Nat.div_lt_iff_lt_mul hp).2 (by rw [Nat.mul_comm]; exact hlt))
    have ho1 : dg a (i + 1) = 0 := by
      rw [dg_lv ha, Nat.div_eq_of_lt]
      rw [Nat.pow_succ]
      exact Nat.lt_of_lt_of_le hlt (Nat.mul_le_mul_left _ (by rw [← hc]; exact Nat.le_mul_of_pos_right _ hc0))
    obtain ⟨w, hw⟩ : ∃ w, w = 2 ^ s * dg l i := ⟨_, rfl⟩
    have hw2 : w < 18446744073709551616 := by
      have := Nat.mul_lt_mul_of_lt_of_le (show dg l i < 4294967296 from hd) (show 2 ^ s ≤ 4294967296 by rw [← hc]; exact Nat.le_mul_of_pos_right _ hc0) (by omega)
      rw [hw, Nat.mul_comm]; omega
    have hw3 : w / 4294967296 < 4294967296 := by omega
    have hwl : w % 4294967296 = 2 ^ s * (dg l i % c) := by rw [hw, ← hc, Nat.mul_mod_mul_left]
    have hor : orI .u32 ((dg a i : Nat) : Int) ((w % 4294967296 : Nat) : Int) = ((dg a i + w % 4294967296 : Nat) : Int) := by
      have := dg_lt ha i
      rw [or32_nat _ _ this (by omega), Nat.or_comm, hwl, ← Nat.two_pow_add_eq_or_of_lt ho, Nat.add_comm]
    have hsum : dg a i + w % 4294967296 < 4294967296 := by
      have h3 : dg l i % c + 1 ≤ c := Nat.mod_lt _ hc0
      have h4 := Nat.mul_le_mul_left (2 ^ s) h3
      rw [Nat.mul_add, Nat.mul_one, hc] at h4
      omega
    have v1 := lv_put a (i := i) (by omega) (dg a i + w % 4294967296)
    have v2 := lv_put (a.set i ((dg a i + w % 4294967296 : Nat) : Int)) (i := i + 1) (by rw [List.length_set]; omega) (w / 4294967296)
    rw [dg_put_ne _ (by omega), ho1, Nat.mul_zero, Nat.add_zero] at v2
    obtain ⟨a', g1, g2⟩ := ih (i + 1) ((a.set i ((dg a i + w % 4294967296 : Nat) : Int)).set (i + 1) ((w / 4294967296 : Nat) : Int)) (by omega) (by omega) (by simpa using hl') ((ha.set _ (by omega)).set _ (by omega)) (by
      rw [v2, lv_take_succ, Nat.mul_add, ← he, Nat.mul_left_comm, ← hw, Nat.pow_succ, Nat.mul_assoc]
      have e : 4294967296 ^ i * w = 4294967296 ^ i * (w % 4294967296) + 4294967296 ^ i * (4294967296 * (w / 4294967296)) := by rw [← Nat.mul_add, Nat.mod_add_div]
      rw [Nat.mul_add] at v1
      omega)
    refine ⟨a', (iterL_next ?_).trans g1, g2⟩
    have hsh := @shl_nat (dg l i) s (by omega) (by rw [Nat.mul_comm, ← hw]; exact hw2)
    rw [← hw] at hsh
    simp only [integer_shift.s0, integer_shift.j1, cite, decide_eq_true_eq, inB_t]
    have wl : IntKind.wrap .u32 ((w : Nat) : Int) = ((w % 4294967296 : Nat) : Int) := by rw [wu32]; omega
    rw [if_pos (by omega), if_pos (by omega), if_neg (by omega), if_pos (by omega), Int.toNat_natCast, Nat.zero_add, gd hl, gd ha, wu64' (x := ((dg l i : Nat) : Int)) (by omega) (by omega), hsh, wl, hor, hi_word, up (by omega), wu32' (by omega) (by omega), if_pos (by omega), if_pos (by rw [List.length_set]; omega), Int.toNat_natCast, Nat.zero_add]
theorem shift_ok {l : List Int} (hl : Lim l) {s : Nat} (hs : s < 32) (hb : l.length < 1073741824) : ∃ r : List Int, integer_shift l (s : Int) = some r ∧ r.length = l.length + 1 ∧ Lim r ∧ lv r = 2 ^ s * lv l := by
  obtain ⟨a', g1, g2, g3, g4⟩ := shift_loop hl hs (by omega) _ 0 (List.replicate (l.length + 1) 0) rfl (by omega) (by simp) (Lim.replicate _) (by rw [lv_zeros]; simp [lv])
  refine ⟨a', ?_, g2, g3, g4⟩
  unfold integer_shift
  simp only [cite, inC_t, maxL_eq]
  rw [show ((0 : Nat) : Int) = 0 from rfl] at g1
  rw [up (by omega), if_pos (by omega), Int.toNat_natCast, g1, Option.bind_some]
  rfl
theorem unshift_loop {l : List Int} (hl : Lim l) {s : Nat} (hs : s < 32) (hb : l.length < 17592186044416) : ∀ (t i : Nat) (a : List Int), l.length - i = t → i ≤ l.length → a.length = l.length → Lim a → 2 ^ s * lv (a.take i) + dg l 0 % 2 ^ s = lv (l.take i) + 4294967296 ^ i * (dg l i % 2 ^ s) →
    ∃ a' : List Int, iterL (fun x : List Int × Int × Int × Int × List Int × Unit => integer_unshift.s0 x.1 x.2.1 x.2.2.1 x.2.2.2.1 x.2.2.2.2.1) (l, (s : Int), (l.length : Int), (i : Int), a, ()) = some (a', ()) ∧ a'.length = l.length ∧ Lim a' ∧ 2 ^ s * lv a' + dg l 0 % 2 ^ s = lv l := by
  intro t
  induction t with
  | zero =>
    intro i a ht hi hl' ha he
    obtain rfl : i = l.length := by omega
    refine ⟨a, iterL_done ?_, hl', ha, ?_⟩
    · simp only [integer_unshift.s0, cite, decide_eq_true_eq]
      rw [if_neg (by omega)]
    · rw [List.take_length, dg_out (i := l.length) (by omega), Nat.zero_mod, Nat.mul_zero, List.take_of_length_le (by omega)] at he
      exact he
  | succ t ih =>
    intro i a ht hi hl' ha he
    have hd := dg_lt hl i
    have hd1 := dg_lt hl (i + 1)
    obtain ⟨c, hc, hc0⟩ := two32 s hs
    have h2s : 0 < 2 ^ s := Nat.two_pow_pos s
    obtain ⟨w, hw⟩ : ∃ w, w = (4294967296 * dg l (i + 1) + dg l i) / 2 ^ s := ⟨_, rfl⟩
    have hw1 : w % 4294967296 = dg l i / 2 ^ s + dg l (i + 1) % 2 ^ s * c := by
      have e : w = c * dg l (i + 1) + dg l i / 2 ^ s := by
        rw [hw, ← hc, Nat.mul_assoc, Nat.mul_add_div h2s]
      have e2 := Nat.div_add_mod (dg l (i + 1)) (2 ^ s)
      have e3 : w = (dg l i / 2 ^ s + dg l (i + 1) % 2 ^ s * c) + 4294967296 * (dg l (i + 1) / 2 ^ s) := by
        rw [e]
        have : c * dg l (i + 1) = c * (2 ^ s * (dg l (i + 1) / 2 ^ s)) + c * (dg l (i + 1) % 2 ^ s) := by rw [← Nat.mul_add, e2]
        rw [this, ← hc, Nat.mul_comm c (dg l (i + 1) % 2 ^ s), ← Nat.mul_assoc, Nat.mul_comm c]
        omega
      have hlow : dg l i / 2 ^ s < c := by rw [Nat.div_lt_iff_lt_mul h2s, Nat.mul_comm, hc]; exact hd
      have hup : (dg l (i + 1) % 2 ^ s + 1) * c ≤ 2 ^ s * c := Nat.mul_le_mul_right _ (Nat.mod_lt _ h2s)
      rw [Nat.add_mul, Nat.one_mul, hc] at hup
      rw [e3, Nat.add_mul_mod_self_left, Nat.mod_eq_of_lt (by omega)]
    obtain ⟨a', g1, g2⟩ := ih (i + 1) (a.set i ((w % 4294967296 : Nat) : Int)) (by omega) (by omega) (by simpa using hl') (ha.set _ (by omega)) (by
      rw [take_set _ _ _ (by omega), lv_snoc, lv_take_succ, List.length_take, Nat.min_eq_left (by omega), Nat.mul_add, Nat.pow_succ, Nat.mul_left_comm]
      have e : 2 ^ s * (w % 4294967296) = 2 ^ s * (dg l i / 2 ^ s) + 4294967296 * (dg l (i + 1) % 2 ^ s) := by
        rw [hw1, Nat.mul_add, ← hc, Nat.mul_comm (dg l (i + 1) % 2 ^ s) c, Nat.mul_assoc]
      rw [e, Nat.mul_assoc]
      have e4 : 4294967296 ^ i * dg l i = 4294967296 ^ i * (2 ^ s * (dg l i / 2 ^ s)) + 4294967296 ^ i * (dg l i % 2 ^ s) := by rw [← Nat.mul_add, Nat.div_add_mod]
      rw [Nat.mul_add, e4]
      omega)
    refine ⟨a', (iterL_next ?_).trans g1, g2⟩
    have hsr := @shr_nat (4294967296 * dg l (i + 1) + dg l i) s (by omega)
    rw [← hw] at hsr
    have wl : IntKind.wrap .u32 ((w : Nat) : Int) = ((w % 4294967296 : Nat) : Int) := by rw [wu32]; omega
    simp only [integer_unshift.s0, integer_unshift.j1, cite, decide_eq_true_eq, inB_t]
    rw [if_pos (by omega), up (by omega), limb_ok hl, Option.bind_some, if_pos (by omega), if_neg (by omega), if_pos (by omega), Int.toNat_natCast, Nat.zero_add, gd hl, pack hd1 hd, hsr, wl]
theorem unshift_ok {l : List Int} (hl : Lim l) {s : Nat} (hs : s < 32) (hb : l.length ≤ 1073741824) : integer_unshift l (s : Int) = some (limbs (lv l / 2 ^ s)) := by
  obtain ⟨a', g1, g2, g3, g4⟩ := unshift_loop hl hs (by omega) _ 0 (List.replicate l.length 0) rfl (by omega) (by simp) (Lim.replicate _) (by simp [lv])
  have h2s : 0 < 2 ^ s := Nat.two_pow_pos s
  have he : lv a' = lv l / 2 ^ s := by
    rw [← g4, Nat.mul_add_div h2s, Nat.div_eq_of_lt (Nat.mod_lt _ h2s), Nat.add_zero]
  unfold integer_unshift
  simp only [cite, inC_t, maxL_eq]
  rw [show ((0 : Nat) : Int) = 0 from rfl] at g1
  rw [if_pos (by omega), Int.toNat_natCast, g1, Option.bind_some]
  simp only [integer_unshift.k0]
  rw [trim_ok g3 (by omega), Option.bind_some, he]
end Go.Proofs.YtgbndganadelpaaGreatDoor.V
/- Laws of integer: a digit of a quotient (long division). -/
namespace Go.Proofs.YtgbndganadelpaaGreatDoor.V
open Go Go.Proofs.YtgbndganadelpaaGreatDoor.E Go.Proofs.YtgbndganadelpaaGreatDoor.LI
set_option linter.unusedVariables false
set_option linter.unusedSimpArgs false
theorem and_low (x : Nat) (hx : x < 18446744073709551616) : andI .u64 (x : Int) 4294967295 = ((x % 4294967296 : Nat) : Int) := by
  have h0 : andI .u64 (x : Int) 4294967295 = IntKind.wrap .u64 (((BitVec.ofInt 64 (x : Int) &&& BitVec.ofInt 64 ((4294967295 : Nat) : Int)).toNat : Nat) : Int) := rfl
  rw [h0, wu64, BitVec.ofInt_natCast, BitVec.ofInt_natCast, BitVec.toNat_and, BitVec.toNat_ofNat, BitVec.toNat_ofNat, Nat.mod_eq_of_lt hx, Nat.mod_eq_of_lt (by decide)]
  have h1 := Nat.and_two_pow_sub_one_eq_mod x 32
  rw [show (2 : Nat) ^ 32 - 1 = 4294967295 from rfl, show (2 : Nat) ^ 32 = 4294967296 from rfl] at h1
  rw [h1]
  omega
theorem mul_lt32 {a b : Nat} (ha : a < 4294967296) (hb : b < 4294967296) : a * b < 18446744069414584321 := by
  have := mul_le ha hb
  omega
/-- The estimate: it is never too small, and at the end at most one too great. -/
theorem est_loop {u v : List Int} (hu : Lim u) (hv : Lim v) {n : Nat} (hn : v.length = n + 2) (hul : u.length = n + 3) {T Q : Nat} (hT : T < 18446744073709551616) (hT2 : T = 4294967296 * dg u (n + 2) + dg u (n + 1)) (hv1 : 0 < dg v (n + 1)) (hb : n < 1000000000000)
    (hQ : ∀ q, q < 4294967296 → q * (4294967296 * dg v (n + 1) + dg v n) > 4294967296 * T + dg u n → Q < q) :
    ∀ (q : Nat), q < 4294967296 → Q ≤ q → q * dg v (n + 1) ≤ T →
    ∃ q' : Nat, iterL (fun x : List Int × Int × Int × Int × List Int × Unit => integer_digit.s0 x.1 x.2.1 x.2.2.1 x.2.2.2.1 x.2.2.2.2.1) (v, ((n + 2 : Nat) : Int), (q : Int), ((T - q * dg v (n + 1) : Nat) : Int), u, ()) = some (v, ((n + 2 : Nat) : Int), (q' : Int), u, ()) ∧
      q' < 4294967296 ∧ Q ≤ q' ∧ q' * (4294967296 * dg v (n + 1) + dg v n) ≤ 4294967296 * T + dg u n := by
  intro q
  induction q with
  | zero =>
    intro h0 hq hm
    refine ⟨0, iterL_done ?_, by omega, hq, by omega⟩
    have hd := dg_lt hu n
    simp only [integer_digit.s0, integer_digit.j1, cite, decide_eq_true_eq, inB_t]
    by_cases hr : T - 0 * dg v (n + 1) < 4294967296
    · have e1 : IntKind.wrap .i64 (((n + 2 : Nat) : Int) - 2) = (n : Int) := by rw [wi64 (by omega) (by omega)]; omega
      have hd0 := dg_lt hv n
      rw [if_pos (by omega), e1, if_pos (by omega), if_pos (by omega), Nat.zero_add, Int.toNat_natCast, gd hv, gd hu, pack hr hd, wu64' (x := ((dg v n : Nat) : Int)) (by omega) (by omega), show ((0 : Nat) : Int) * ((dg v n : Nat) : Int) = 0 by simp, wu64' (by omega) (by omega), if_neg (by omega)]
    · rw [if_neg (by omega)]
  | succ q ih =>
    intro h0 hq hm
    have hdu := dg_lt hu n
    have hd0 := dg_lt hv n
    have hd1 := dg_lt hv (n + 1)
    obtain ⟨R, hR⟩ : ∃ R, R = T - (q + 1) * dg v (n + 1) := ⟨_, rfl⟩
    have hTR : T = (q + 1) * dg v (n + 1) + R := by omega
    have e1 : IntKind.wrap .i64 (((n + 2 : Nat) : Int) - 2) = (n : Int) := by rw [wi64 (by omega) (by omega)]; omega
    have e2 : IntKind.wrap .i64 (((n + 2 : Nat) : Int) - 1) = ((n + 1 : Nat) : Int) := by rw [wi64 (by omega) (by omega)]; omega
    have hP := mul_lt32 h0 hd0
    have e3 : IntKind.wrap .u64 (((q + 1 : Nat) : Int) * IntKind.wrap .u64 ((dg v n : Nat) : Int)) = (((q + 1) * dg v n : Nat) : Int) := by
      rw [wu64' (x := ((dg v n : Nat) : Int)) (by omega) (by omega), ← Int.natCast_mul, wu64' (by omega) (by omega)]
    have key : (q + 1) * (4294967296 * dg v (n + 1) + dg v n) = 4294967296 * ((q + 1) * dg v (n + 1)) + (q + 1) * dg v n := by rw [Nat.mul_add, Nat.mul_left_comm]
    rw [← hR]
    have hst : integer_digit.s0 v ((n + 2 : Nat) : Int) ((q + 1 : Nat) : Int) (R : Int) u = (if R < 4294967296 ∧ 4294967296 * R + dg u n < (q + 1) * dg v n then some (.inl (v, ((n + 2 : Nat) : Int), (q : Int), ((R + dg v (n + 1) : Nat) : Int), u, ())) else some (.inr (v, ((n + 2 : Nat) : Int), ((q + 1 : Nat) : Int), u, ()))) := by
      simp only [integer_digit.s0, integer_digit.j1, cite, decide_eq_true_eq, inB_t]
      by_cases hr : R < 4294967296
      · rw [if_pos (by omega), e1, e2, if_pos (by omega), if_pos (by omega), Nat.zero_add, Int.toNat_natCast, Int.toNat_natCast, gd hv, gd hv, gd hu, pack hr hdu, e3]
        by_cases hc : 4294967296 * R + dg u n < (q + 1) * dg v n
        · rw [if_pos (by omega), if_pos (by omega), if_pos ⟨hr, hc⟩, wu64' (x := ((q + 1 : Nat) : Int) - 1) (by omega) (by omega), wu64' (x := ((dg v (n + 1) : Nat) : Int)) (by omega) (by omega), wu64' (by omega) (by omega), show ((q + 1 : Nat) : Int) - 1 = (q : Int) by omega]
          rfl
        · rw [if_neg (by omega), if_neg (fun h => hc h.2)]
      · rw [if_neg (by omega), if_neg (fun h => hr h.1)]
    by_cases hc : R < 4294967296 ∧ 4294967296 * R + dg u n < (q + 1) * dg v n
    · rw [if_pos hc] at hst
      have hlt := hQ (q + 1) h0 (by rw [key, hTR]; omega)
      have hqm : q * dg v (n + 1) + dg v (n + 1) = (q + 1) * dg v (n + 1) := by rw [Nat.add_mul, Nat.one_mul]
      obtain ⟨q', g1, g2⟩ := ih (by omega) (by omega) (by omega)
      rw [show T - q * dg v (n + 1) = R + dg v (n + 1) by omega] at g1
      refine ⟨q', (iterL_next ?_).trans g1, g2⟩
      simp only []
      exact hst
    · rw [if_neg hc] at hst
      refine ⟨q + 1, iterL_done hst, h0, hq, ?_⟩
      rw [key, hTR]
      by_cases hr : R < 4294967296
      · have : ¬ 4294967296 * R + dg u n < (q + 1) * dg v n := fun h => hc ⟨hr, h⟩
        omega
      · omega
/-- Multiply and subtract. -/
theorem sub_loop {u v : List Int} (hu : Lim u) (hv : Lim v) {q : Nat} (hq : q < 4294967296) (hl : u.length = v.length + 1) (hb : v.length < 17592186044416) : ∀ (t i : Nat) (a : List Int) (b c : Nat), v.length - i = t → i ≤ v.length → a.length = v.length + 1 → Lim a → b ≤ 1 → c < 4294967296 → a.drop i = u.drop i →
    lv (u.take i) + 4294967296 ^ i * (b + c) = lv (a.take i) + q * lv (v.take i) →
    ∃ (a' : List Int) (b' c' : Nat), iterL (fun x : List Int × Int × Int × Int × Int × Int × Int × List Int × Unit => integer_digit.s1 x.1 x.2.1 x.2.2.1 x.2.2.2.1 x.2.2.2.2.1 x.2.2.2.2.2.1 x.2.2.2.2.2.2.1 x.2.2.2.2.2.2.2.1) (v, (v.length : Int), (q : Int), (b : Int), (c : Int), (v.length : Int), (i : Int), a, ()) = some (v, (v.length : Int), (q : Int), (b' : Int), (c' : Int), a', ()) ∧
      a'.length = v.length + 1 ∧ Lim a' ∧ b' ≤ 1 ∧ c' < 4294967296 ∧ dg a' v.length = dg u v.length ∧ lv (u.take v.length) + 4294967296 ^ v.length * (b' + c') = lv (a'.take v.length) + q * lv v := by
  intro t
  induction t with
  | zero =>
    intro i a b c ht hi hla ha hbb hcc hdr he
    obtain rfl : i = v.length := by omega
    refine ⟨a, b, c, iterL_done ?_, hla, ha, hbb, hcc, ?_, ?_⟩
    · simp only [integer_digit.s1, cite, decide_eq_true_eq]
      rw [if_neg (by omega)]
    · have := congrArg (fun l => dg l 0) hdr
      simpa [dg, List.getD_eq_getElem?_getD] using this
    · rw [he, List.take_of_length_le (show v.length ≤ v.length by omega)]
  | succ t ih =>
    intro i a b c ht hi hla ha hbb hcc hdr he
    have hdu : dg a i = dg u i := by
      have := congrArg (fun l => dg l 0) hdr
      simpa [dg, List.getD_eq_getElem?_getD] using this
    have h1 := dg_lt hu i
    have h2 := dg_lt hv i
    have hm := mul_lt32 hq h2
    obtain ⟨C, hC⟩ : ∃ C, C = c + q * dg v i := ⟨_, rfl⟩
    have hC2 : C / 4294967296 < 4294967296 := by omega
    obtain ⟨d, b', hd, hb', h3⟩ : ∃ d b' : Nat, d < 4294967296 ∧ b' ≤ 1 ∧ dg u i + 4294967296 * b' = d + C % 4294967296 + b := by
      by_cases h : dg u i < C % 4294967296 + b
      · exact ⟨dg u i + 4294967296 - C % 4294967296 - b, 1, by omega, by omega, by omega⟩
      · exact ⟨dg u i - C % 4294967296 - b, 0, by omega, by omega, by omega⟩
    obtain ⟨a', bb, cc, g1, g2⟩ := ih (i + 1) (a.set i (d : Int)) b' (C / 4294967296) (by omega) (by omega) (by simpa using hla) (ha.set i (by omega)) hb' hC2 (by
      rw [List.drop_set_of_lt (by omega)]
      have := congrArg (List.drop 1) hdr
      rw [List.drop_drop, List.drop_drop] at this
      exact this) (by
      rw [take_set _ _ _ (by omega), lv_snoc, lv_take_succ u, lv_take_succ v, Nat.pow_succ, List.length_take, Nat.min_eq_left (by omega)]
      have h4 : 4294967296 ^ i * (dg u i + 4294967296 * (b' + C / 4294967296)) = 4294967296 ^ i * (d + b + c + q * dg v i) := by
        congr 1
        omega
      have h5 := Nat.mul_left_comm (4294967296 ^ i) q (dg v i)
      simp only [Nat.mul_add, Nat.mul_assoc] at h4 he ⊢
      omega)
    refine ⟨a', bb, cc, (iterL_next ?_).trans g1, g2⟩
    simp only [integer_digit.s1, integer_digit.j2, cite, decide_eq_true_eq, inB_t]
    have e1 : IntKind.wrap .u64 ((c : Int) + IntKind.wrap .u64 ((q : Int) * IntKind.wrap .u64 ((dg v i : Nat) : Int))) = (C : Int) := by
      rw [wu64' (x := ((dg v i : Nat) : Int)) (by omega) (by omega), ← Int.natCast_mul, wu64' (x := ((q * dg v i : Nat) : Int)) (by omega) (by omega), wu64' (by omega) (by omega), hC]
      rfl
    have e2 : IntKind.wrap .u64 (IntKind.wrap .u64 (IntKind.wrap .u64 ((dg u i : Nat) : Int) - ((C % 4294967296 : Nat) : Int)) - (b : Int)) = ((d + 18446744069414584320 * b' : Nat) : Int) := by
      rw [wu64, wu64, wu64]
      have : b' = 0 ∨ b' = 1 := by omega
      rcases this with rfl | rfl <;> omega
    have e4 : ((d + 18446744069414584320 * b') / 9223372036854775808 : Nat) = b' := by
      have : b' = 0 ∨ b' = 1 := by omega
      rcases this with rfl | rfl <;> omega
    have e5 : IntKind.wrap .u32 ((d + 18446744069414584320 * b' : Nat) : Int) = (d : Int) := by rw [wu32]; omega
    rw [if_pos (by omega), if_pos (by omega), if_pos (by omega), if_pos (by omega), Int.toNat_natCast, Nat.zero_add, gd hv, gd ha, hdu, e1, and_low C (by omega), e2, top_bit, hi_word, e4, e5, up (by omega)]
/-- Add back. -/
theorem back_loop {v : List Int} (hv : Lim v) (hb : v.length < 17592186044416) (q : Int) (A : List Int) (hA : Lim A) : ∀ (t i : Nat) (a : List Int) (c : Nat), v.length - i = t → i ≤ v.length → a.length = v.length + 1 → Lim a → c ≤ 1 → a.drop i = A.drop i →
    lv (a.take i) + 4294967296 ^ i * c = lv (A.take i) + lv (v.take i) →
    ∃ (a' : List Int) (c' : Nat), iterL (fun x : List Int × Int × Int × Int × Int × Int × List Int × Unit => integer_digit.s2 x.1 x.2.1 x.2.2.1 x.2.2.2.1 x.2.2.2.2.1 x.2.2.2.2.2.1 x.2.2.2.2.2.2.1) (v, (v.length : Int), q, (c : Int), (v.length : Int), (i : Int), a, ()) = some ((v.length : Int), q, (c' : Int), a', ()) ∧
      a'.length = v.length + 1 ∧ Lim a' ∧ c' ≤ 1 ∧ dg a' v.length = dg A v.length ∧ lv (a'.take v.length) + 4294967296 ^ v.length * c' = lv (A.take v.length) + lv v := by
  intro t
  induction t with
  | zero =>
    intro i a c ht hi hla ha hcc hdr he
    obtain rfl : i = v.length := by omega
    refine ⟨a, c, iterL_done ?_, hla, ha, hcc, ?_, ?_⟩
    · simp only [integer_digit.s2, cite, decide_eq_true_eq]
      rw [if_neg (by omega)]
    · have := congrArg (fun l => dg l 0) hdr
      simpa [dg, List.getD_eq_getElem?_getD] using this
    · rw [he, List.take_of_length_le (show v.length ≤ v.length by omega)]
  | succ t ih =>
    intro i a c ht hi hla ha hcc hdr he
    have hdu : dg a i = dg A i := by
      have := congrArg (fun l => dg l 0) hdr
      simpa [dg, List.getD_eq_getElem?_getD] using this
    have h1 := dg_lt ha i
    have h2 := dg_lt hv i
    obtain ⟨C, hC⟩ : ∃ C, C = c + (dg a i + dg v i) := ⟨_, rfl⟩
    obtain ⟨a', cc, g1, g2⟩ := ih (i + 1) (a.set i ((C % 4294967296 : Nat) : Int)) (C / 4294967296) (by omega) (by omega) (by simpa using hla) (ha.set i (by omega)) (by omega) (by
      rw [List.drop_set_of_lt (by omega)]
      have := congrArg (List.drop 1) hdr
      rw [List.drop_drop, List.drop_drop] at this
      exact this) (by
      rw [take_set _ _ _ (by omega), lv_snoc, lv_take_succ A, lv_take_succ v, Nat.pow_succ, List.length_take, Nat.min_eq_left (by omega), ← hdu]
      have h4 : 4294967296 ^ i * (C % 4294967296 + 4294967296 * (C / 4294967296)) = 4294967296 ^ i * (c + (dg a i + dg v i)) := by
        congr 1
        omega
      rw [Nat.mul_add, Nat.mul_add, Nat.mul_add] at h4
      rw [Nat.mul_assoc]
      omega)
    refine ⟨a', cc, (iterL_next ?_).trans g1, g2⟩
    simp only [integer_digit.s2, integer_digit.j4, cite, decide_eq_true_eq, inB_t]
    have e1 : IntKind.wrap .u64 ((c : Int) + IntKind.wrap .u64 (IntKind.wrap .u64 ((dg a i : Nat) : Int) + IntKind.wrap .u64 ((dg v i : Nat) : Int))) = (C : Int) := by
      rw [wu64' (x := ((dg v i : Nat) : Int)) (by omega) (by omega), wu64' (x := ((dg a i : Nat) : Int)) (by omega) (by omega), wu64' (x := ((dg a i : Nat) : Int) + _) (by omega) (by omega), wu64' (by omega) (by omega), hC]
      rfl
    have e5 : IntKind.wrap .u32 (C : Int) = ((C % 4294967296 : Nat) : Int) := by rw [wu32]; omega
    rw [if_pos (by omega), if_pos (by omega), if_pos (by omega), if_pos (by omega), Int.toNat_natCast, Nat.zero_add, gd hv, gd ha, e1, hi_word, e5, up (by omega)]
end Go.Proofs.YtgbndganadelpaaGreatDoor.V
/- Laws of integer: long division in general; greatest common divisors. -/
namespace Go.Proofs.YtgbndganadelpaaGreatDoor.V
open Go Go.Proofs.YtgbndganadelpaaGreatDoor.E Go.Proofs.YtgbndganadelpaaGreatDoor.LI
set_option linter.unusedVariables false
set_option linter.unusedSimpArgs false
theorem mn2_nat (a b : Nat) : mn2 (a : Int) (b : Int) = ((min a b : Nat) : Int) := by unfold mn2; split <;> omega
theorem lv_set_last {l : List Int} {m : Nat} (hl : l.length = m + 1) (x : Nat) : lv (l.set m (x : Int)) = lv (l.take m) + 4294967296 ^ m * x := by
  have e : l.set m (x : Int) = (l.set m (x : Int)).take (m + 1) := by rw [List.take_of_length_le (by rw [List.length_set]; omega)]
  rw [e, take_set _ _ _ (by omega), lv_snoc, List.length_take, Nat.min_eq_left (by omega)]
/-- The arithmetic of an estimate. -/
theorem est_arith {P ul vl Ut Vt T v1 u0 : Nat} (hP : 0 < P) (hul : ul < P) (hvl : vl < P) (hUt : Ut = 4294967296 * T + u0) (hu0 : u0 < 4294967296) (hVt : 4294967296 * v1 ≤ Vt) (hv1 : 0 < v1) :
    (∀ q, q * Vt > Ut → (ul + P * Ut) / (vl + P * Vt) < q) ∧ (ul + P * Ut) / (vl + P * Vt) * v1 ≤ T ∧ (∀ q, q < 4294967296 → q * Vt ≤ Ut → q ≤ (ul + P * Ut) / (vl + P * Vt) + 1) := by
  have hPV : P * 4294967296 ≤ P * Vt := Nat.mul_le_mul_left _ (by omega)
  have hV : 0 < vl + P * Vt := by omega
  refine ⟨fun q hq => ?_, ?_, fun q hqB hq => ?_⟩
  · rw [Nat.div_lt_iff_lt_mul hV, Nat.mul_add]
    have h1 : P * (Ut + 1) ≤ P * (q * Vt) := Nat.mul_le_mul_left _ hq
    rw [Nat.mul_left_comm, Nat.mul_add] at h1
    omega
  · obtain ⟨Q, hQ⟩ : ∃ Q, Q = (ul + P * Ut) / (vl + P * Vt) := ⟨_, rfl⟩
    rw [← hQ]
    have h1 : Q * (vl + P * Vt) ≤ ul + P * Ut := by rw [hQ]; exact Nat.div_mul_le_self _ _
    apply Classical.byContradiction
    intro hc
    have h2 : Q * (P * (4294967296 * v1)) ≤ Q * (P * Vt) := Nat.mul_le_mul_left _ (Nat.mul_le_mul_left _ hVt)
    have h3 : P * (4294967296 * (T + 1)) ≤ P * (4294967296 * (Q * v1)) := Nat.mul_le_mul_left _ (Nat.mul_le_mul_left _ (by omega))
    have h4 : P * (4294967296 * (Q * v1)) = Q * (P * (4294967296 * v1)) := by
      rw [Nat.mul_left_comm 4294967296 Q, Nat.mul_left_comm P Q]
    have h5 : P * (Ut + 1) ≤ P * (4294967296 * (T + 1)) := Nat.mul_le_mul_left _ (by omega)
    rw [Nat.mul_add Q] at h1
    rw [Nat.mul_add P Ut] at h5
    omega
  · obtain ⟨Q, hQ⟩ : ∃ Q, Q = (ul + P * Ut) / (vl + P * Vt) := ⟨_, rfl⟩
    rw [← hQ]
    have h1 : ul + P * Ut < (Q + 1) * (vl + P * Vt) := by
      have := Nat.lt_mul_div_succ (ul + P * Ut) hV
      rw [← hQ] at this
      rw [Nat.mul_comm (Q + 1)]
      exact this
    apply Classical.byContradiction
    intro hc
    have h2 : (Q + 2) * (vl + P * Vt) ≤ q * (vl + P * Vt) := Nat.mul_le_mul_right _ (by omega)
    have h3 : q * vl ≤ 4294967296 * vl := Nat.mul_le_mul_right _ (by omega)
    have h4 : 4294967296 * (vl + 1) ≤ 4294967296 * P := Nat.mul_le_mul_left _ hvl
    have h5 : P * (q * Vt) ≤ P * Ut := Nat.mul_le_mul_left _ hq
    rw [Nat.mul_add q, Nat.mul_left_comm q] at h2
    rw [show (Q + 2) * (vl + P * Vt) = (Q + 1) * (vl + P * Vt) + (vl + P * Vt) by rw [Nat.add_mul, Nat.add_mul]; omega] at h2
    omega
theorem digit_ok {u v : List Int} (hu : Lim u) (hv : Lim v) {n : Nat} (hn : v.length = n + 2) (hul : u.length = n + 3) (hb : n < 1000000000) (hv1 : 2147483648 ≤ dg v (n + 1)) (hlt : lv u < lv v * 4294967296) :
    ∃ r, integer_digit u v = some (((lv u / lv v : Nat) : Int), r) ∧ r.length = n + 3 ∧ Lim r ∧ lv r = lv u % lv v := by
  have d2 := dg_lt hu (n + 2)
  have d1 := dg_lt hu (n + 1)
  have d0 := dg_lt hu n
  have c1 := dg_lt hv (n + 1)
  have c0 := dg_lt hv n
  have hUe : lv u = lv (u.take n) + 4294967296 ^ n * (4294967296 * (4294967296 * dg u (n + 2) + dg u (n + 1)) + dg u n) := by
    have e1 := lv_take_succ u n
    have e2 := lv_take_succ u (n + 1)
    have e3 := lv_take_succ u (n + 2)
    rw [List.take_of_length_le (show u.length ≤ n + 2 + 1 by omega)] at e3
    rw [e3, show u.take (n + 2) = u.take (n + 1 + 1) from rfl, e2, e1, show 4294967296 ^ (n + 2) = 4294967296 ^ n * 4294967296 * 4294967296 by rw [Nat.pow_succ, Nat.pow_succ], Nat.pow_succ]
    simp only [Nat.mul_add, Nat.mul_assoc]
    omega
  have hVe : lv v = lv (v.take n) + 4294967296 ^ n * (4294967296 * dg v (n + 1) + dg v n) := by
    have e1 := lv_take_succ v n
    have e2 := lv_take_succ v (n + 1)
    rw [List.take_of_length_le (show v.length ≤ n + 1 + 1 by omega)] at e2
    rw [e2, e1, Nat.pow_succ]
    simp only [Nat.mul_add, Nat.mul_assoc]
    omega
  obtain ⟨T, hT⟩ : ∃ T, T = 4294967296 * dg u (n + 2) + dg u (n + 1) := ⟨_, rfl⟩
  have hu' := lv_lt (hu.take n)
  have hv' := lv_lt (hv.take n)
  rw [List.length_take, Nat.min_eq_left (by omega)] at hu' hv'
  obtain ⟨A1, A2, A3⟩ := est_arith (P := 4294967296 ^ n) (T := T) (u0 := dg u n) (v1 := dg v (n + 1)) (Vt := 4294967296 * dg v (n + 1) + dg v n) (Nat.pow_pos (by omega)) hu' hv' rfl d0 (by omega) (by omega)
  rw [hT, ← hUe, ← hVe, ← hT] at A2
  rw [hT] at A1 A3
  rw [← hUe, ← hVe] at A1 A3
  rw [← hT] at A1 A3
  have hV0 : 0 < lv v := by
    rw [hVe]
    have := Nat.mul_pos (Nat.pow_pos (n := n) (show 0 < 4294967296 by omega)) (show 0 < 4294967296 * dg v (n + 1) + dg v n by omega)
    omega
  have hQB : lv u / lv v < 4294967296 := by rw [Nat.div_lt_iff_lt_mul hV0, Nat.mul_comm]; exact hlt
  have hdm := Nat.div_add_mod (lv u) (lv v)
  have hml := Nat.mod_lt (lv u) hV0
  have hVlt := lv_lt hv
  have hQ0 : lv u / lv v ≤ min (T / dg v (n + 1)) 4294967295 := by
    have := (Nat.le_div_iff_mul_le (show 0 < dg v (n + 1) by omega)).2 A2
    omega
  obtain ⟨q0, hq0⟩ : ∃ q0, q0 = min (T / dg v (n + 1)) 4294967295 := ⟨_, rfl⟩
  have hq0T : q0 * dg v (n + 1) ≤ T := by
    have h1 : q0 ≤ T / dg v (n + 1) := by omega
    exact Nat.le_trans (Nat.mul_le_mul_right _ h1) (Nat.div_mul_le_self _ _)
  obtain ⟨q, g1, g2, g3, g4⟩ := est_loop hu hv hn hul (T := T) (Q := lv u / lv v) (by omega) hT (by omega) (by omega) (fun q _ h => A1 q h) q0 (by omega) (by omega) hq0T
  have hqQ := A3 q g2 g4
  have hlen : ((v.length : Nat) : Int) = ((n + 2 : Nat) : Int) := by rw [hn]
  obtain ⟨a, b, c, s1, s2, s3, s4, s5, s6, s7⟩ := sub_loop hu hv g2 (by omega) (by omega) _ 0 u 0 0 rfl (by omega) (by omega) hu (by omega) (by omega) rfl (by simp [lv])
  have hU2 : lv u = lv (u.take v.length) + 4294967296 ^ v.length * dg u v.length := by
    have := lv_take_succ u v.length
    rwa [List.take_of_length_le (show u.length ≤ v.length + 1 by omega)] at this
  have hdv := dg_lt hu v.length
  obtain ⟨e, b2, he, hb2, h3⟩ : ∃ e b2 : Nat, e < 4294967296 ∧ b2 ≤ 1 ∧ dg u v.length + 4294967296 * b2 = e + c + b := by
    by_cases h : dg u v.length < c + b
    · exact ⟨dg u v.length + 4294967296 - c - b, 1, by omega, by omega, by omega⟩
    · exact ⟨dg u v.length - c - b, 0, by omega, by omega, by omega⟩
  have hLa : Lim (a.set v.length (e : Int)) := s3.set _ (by omega)
  have hva := lv_set_last s2 e
  have hM : lv u + 4294967296 ^ (v.length + 1) * b2 = lv (a.set v.length (e : Int)) + q * lv v := by
    rw [hva, hU2, Nat.pow_succ]
    have h4 : 4294967296 ^ v.length * (dg u v.length + 4294967296 * b2) = 4294967296 ^ v.length * (e + c + b) := by rw [h3]
    simp only [Nat.mul_add, Nat.mul_assoc] at h4 s7 ⊢
    omega
  have hvl2 := lv_lt hLa
  rw [List.length_set, s2] at hvl2
  have x2 : orI .u64 (shlI .u64 (IntKind.wrap .u64 ((dg u (n + 2) : Nat) : Int)) 32) (IntKind.wrap .u64 ((dg u (n + 1) : Nat) : Int)) = (T : Int) := by
    rw [wu64' (x := ((dg u (n + 2) : Nat) : Int)) (by omega) (by omega), pack d2 d1, hT]
  have x3 : IntKind.wrap .i64 (((n + 2 : Nat) : Int) - 1) = ((n + 1 : Nat) : Int) := by rw [wi64 (by omega) (by omega)]; omega
  have hTd : T / dg v (n + 1) < 18446744073709551616 := Nat.lt_of_le_of_lt (Nat.div_le_self _ _) (by omega)
  have x7 : mn2 (IntKind.wrap .u64 (Int.tdiv (T : Int) ((dg v (n + 1) : Nat) : Int))) 4294967295 = (q0 : Int) := by
    rw [← Int.ofNat_tdiv, wu64' (by omega) (by omega), show (4294967295 : Int) = ((4294967295 : Nat) : Int) from rfl, mn2_nat, hq0]
  have x9 : IntKind.wrap .u64 ((T : Int) - IntKind.wrap .u64 ((q0 : Int) * ((dg v (n + 1) : Nat) : Int))) = ((T - q0 * dg v (n + 1) : Nat) : Int) := by
    rw [← Int.natCast_mul, wu64' (x := ((q0 * dg v (n + 1) : Nat) : Int)) (by omega) (by omega), wu64' (by omega) (by omega)]
    omega
  have run : ∃ r, integer_digit.k0 u v (v.length : Int) (q : Int) u = some (((lv u / lv v : Nat) : Int), r) ∧ r.length = n + 3 ∧ Lim r ∧ lv r = lv u % lv v := by
    unfold integer_digit.k0
    rw [show ((0 : Nat) : Int) = 0 from rfl] at s1
    rw [s1, Option.bind_some]
    simp only [integer_digit.k1, cite, inB_t, beq_iff_eq]
    have e2 : IntKind.wrap .u64 (IntKind.wrap .u64 (IntKind.wrap .u64 ((dg u v.length : Nat) : Int) - (c : Int)) - (b : Int)) = ((e + 18446744069414584320 * b2 : Nat) : Int) := by
      rw [wu64, wu64, wu64]
      have : b2 = 0 ∨ b2 = 1 := by omega
      rcases this with rfl | rfl <;> omega
    have e4 : ((e + 18446744069414584320 * b2) / 9223372036854775808 : Nat) = b2 := by
      have : b2 = 0 ∨ b2 = 1 := by omega
      rcases this with rfl | rfl <;> omega
    have e5 : IntKind.wrap .u32 ((e + 18446744069414584320 * b2 : Nat) : Int) = (e : Int) := by rw [wu32]; omega
    rw [if_pos (by omega), if_pos (by omega), Int.toNat_natCast, Nat.zero_add, gd s3, s6, e2, top_bit, e4, e5]
    by_cases hz : b2 = 0
    · subst hz
      rw [Nat.mul_zero, Nat.add_zero] at hM
      have hqe : q = lv u / lv v := by
        have : q ≤ lv u / lv v := (Nat.le_div_iff_mul_le hV0).2 (by omega)
        omega
      rw [if_pos (show ((0 : Nat) : Int) = 0 from rfl), if_pos (by rw [List.length_set, s2, hul]; simp; omega)]
      refine ⟨_, by rw [wu32' (by omega) (by omega), hqe], by rw [List.length_set]; omega, hLa, ?_⟩
      rw [← hqe, Nat.mul_comm] at hdm
      omega
    · obtain rfl : b2 = 1 := by omega
      rw [Nat.mul_one] at hM
      have hqe : q = lv u / lv v + 1 := by
        have : lv u / lv v < q := by rw [Nat.div_lt_iff_lt_mul hV0]; omega
        omega
      have hqv : q * lv v = lv v * (lv u / lv v) + lv v := by rw [hqe, Nat.add_mul, Nat.one_mul, Nat.mul_comm]
      rw [if_neg (show ¬ ((1 : Nat) : Int) = 0 by decide)]
      obtain ⟨a2, c2, t1, t2, t3, t4, t5, t6⟩ := back_loop hv (by omega) (q : Int) (a.set v.length (e : Int)) hLa _ 0 (a.set v.length (e : Int)) 0 rfl (by omega) (by rw [List.length_set]; omega) hLa (by omega) rfl (by simp [lv])
      unfold integer_digit.j3
      rw [show ((0 : Nat) : Int) = 0 from rfl] at t1
      rw [t1, Option.bind_some]
      simp only [integer_digit.k2, cite, inB_t]
      have hde : dg (a.set v.length (e : Int)) v.length = e := by
        unfold dg
        rw [List.getD_eq_getElem?_getD, List.getElem?_set_self (by omega), Option.getD_some, Int.toNat_natCast]
      have w1 : IntKind.wrap .u32 (((e : Nat) : Int) + IntKind.wrap .u32 (c2 : Int)) = (((e + c2) % 4294967296 : Nat) : Int) := by rw [wu32, wu32]; omega
      rw [if_pos (by omega), if_pos (by omega), Int.toNat_natCast, Nat.zero_add, gd t3, t5, hde, w1, if_pos (by rw [List.length_set, t2, hul]; simp; omega)]
      have hva2 := lv_set_last t2 ((e + c2) % 4294967296)
      have hL3 : Lim (a2.set v.length (((e + c2) % 4294967296 : Nat) : Int)) := t3.set _ (by omega)
      have hvl3 := lv_lt hL3
      rw [List.length_set, t2] at hvl3
      have hq1 : 1 ≤ q := by rw [hqe]; exact Nat.le_add_left _ _
      have hq2 : (q : Int) - 1 = ((lv u / lv v : Nat) : Int) := by rw [hqe, Int.natCast_add]; exact Int.add_sub_cancel _ _
      refine ⟨_, by rw [wu64' (x := (q : Int) - 1) (by omega) (by omega), wu32' (x := (q : Int) - 1) (by omega) (by omega), hq2], by rw [List.length_set]; omega, hL3, ?_⟩
      rw [List.take_set_of_le (Nat.le_refl _)] at t6
      rw [hva] at hM
      rw [hva2] at hvl3 ⊢
      rw [hqv] at hM
      rw [Nat.pow_succ] at hM hvl3
      have h5 : (e + c2) % 4294967296 + 4294967296 * ((e + c2) / 4294967296) = e + c2 := Nat.mod_add_div _ _
      have h6 : 4294967296 ^ v.length * ((e + c2) % 4294967296 + 4294967296 * ((e + c2) / 4294967296)) = 4294967296 ^ v.length * (e + c2) := by rw [h5]
      rw [Nat.mul_add, Nat.mul_add, ← Nat.mul_assoc] at h6
      have h7 : (e + c2) / 4294967296 = 0 ∨ (e + c2) / 4294967296 = 1 := by omega
      rcases h7 with h7 | h7 <;> rw [h7] at h6 <;> omega
  obtain ⟨r, r1, r2⟩ := run
  refine ⟨r, ?_, r2⟩
  unfold integer_digit
  rw [hlen]
  rw [hlen] at r1
  simp only [cite, inB_t, decide_eq_true_eq]
  rw [x3, if_pos (by omega), if_pos (by omega), if_pos (by omega)]
  simp only [Int.toNat_natCast, Nat.zero_add]
  rw [gd hu, gd hu, gd hv, x2, wu64' (x := ((dg v (n + 1) : Nat) : Int)) (by omega) (by omega), if_neg (by omega), x7, if_pos (by omega), x9, g1, Option.bind_some]
  exact r1
end Go.Proofs.YtgbndganadelpaaGreatDoor.V
/- Laws of integer: long division in general; greatest common divisors. -/
namespace Go.Proofs.YtgbndganadelpaaGreatDoor.V
open Go Go.Proofs.YtgbndganadelpaaGreatDoor.E Go.Proofs.YtgbndganadelpaaGreatDoor.LI
set_option linter.unusedVariables false
set_option linter.unusedSimpArgs false
theorem lv_high {l : List Int} {k : Nat} (h : lv l < 4294967296 ^ k) : lv (l.drop k) = 0 ∧ lv (l.take k) = lv l := by
  by_cases hk : k ≤ l.length
  · have h1 := lv_split l k hk
    have h2 : lv (l.drop k) = 0 := by
      rcases Nat.eq_zero_or_pos (lv (l.drop k)) with h3 | h3
      · exact h3
      · have := Nat.mul_le_mul_left (4294967296 ^ k) (show 1 ≤ lv (l.drop k) from h3)
        omega
    rw [h2] at h1
    exact ⟨h2, by omega⟩
  · rw [List.drop_eq_nil_of_le (by omega), List.take_of_length_le (by omega)]
    exact ⟨rfl, rfl⟩
theorem div_loop {v : List Int} (hv : Lim v) {n : Nat} (hn : v.length = n + 2) (hv1 : 2147483648 ≤ dg v (n + 1)) (t1 : List Int) (ht1 : t1.length = n + 2) (t8 : Int) {K : Nat} (hb : K + n + 2 < 1000000000) (U0 : Nat) : ∀ (i : Nat) (u q : List Int), i ≤ K → u.length = K + n + 2 → q.length = K → Lim u → Lim q → lv (u.drop i) < lv v → U0 = lv u + lv v * (4294967296 ^ i * lv (q.drop i)) →
    ∃ (u' q' : List Int), iterL (fun x : List Int × Int × List Int × Int × List Int × List Int × Unit => integer_divide.s0 x.1 x.2.1 x.2.2.1 x.2.2.2.1 x.2.2.2.2.1 x.2.2.2.2.2.1) (t1, t8, v, (i : Int) - 1, u, q, ()) = some (t1, t8, u', q', ()) ∧
      u'.length = K + n + 2 ∧ q'.length = K ∧ Lim u' ∧ Lim q' ∧ lv u' < lv v ∧ U0 = lv u' + lv v * lv q' := by
  intro i
  induction i with
  | zero =>
    intro u q _ hu1 hq1 hu hq hlt he
    refine ⟨u, q, iterL_done ?_, hu1, hq1, hu, hq, by simpa using hlt, by simpa using he⟩
    simp only [integer_divide.s0, cite, decide_eq_true_eq]
    rw [if_neg (by omega)]
  | succ i ih =>
    intro u q hi hu1 hq1 hu hq hlt he
    have hdi := dg_lt hu i
    have hd := drop_dg (l := u) (i := i) (by omega)
    have hVlt := lv_lt hv
    rw [hn] at hVlt
    have hWlt : lv (u.drop i) < lv v * 4294967296 := by
      have := Nat.mul_le_mul_left 4294967296 (show lv (u.drop (i + 1)) + 1 ≤ lv v from hlt)
      omega
    have hhi := lv_high (l := u.drop i) (k := n + 3) (by
      have : 4294967296 ^ (n + 3) = 4294967296 ^ (n + 2) * 4294967296 := Nat.pow_succ _ _
      omega)
    have hwl : ((u.drop i).take (n + 3)).length = n + 3 := by rw [List.length_take, List.length_drop]; omega
    obtain ⟨r, r1, r2, r3, r4⟩ := digit_ok ((hu.drop i).take (n + 3)) hv hn hwl (by omega) hv1 (by rw [hhi.2]; exact hWlt)
    rw [hhi.2] at r1 r4
    have hV0 : 0 < lv v := by omega
    have hQlt : lv (u.drop i) / lv v < 4294967296 := by rw [Nat.div_lt_iff_lt_mul hV0, Nat.mul_comm]; exact hWlt
    have hdm := Nat.div_add_mod (lv (u.drop i)) (lv v)
    have hml := Nat.mod_lt (lv (u.drop i)) hV0
    have hh0 : lv (u.drop (i + (n + 3))) = 0 := by rw [← List.drop_drop]; exact hhi.1
    obtain ⟨Q, hQ⟩ : ∃ Q, Q = lv (u.drop i) / lv v := ⟨_, rfl⟩
    rw [← hQ] at r1 hQlt hdm
    obtain ⟨u1, hu1e⟩ : ∃ u1, u1 = u.take i ++ r ++ u.drop (i + (n + 3)) := ⟨_, rfl⟩
    have htl : (u.take i).length = i := by rw [List.length_take]; omega
    have hL1 : Lim u1 := by rw [hu1e]; exact ((hu.take i).append r3).append (hu.drop _)
    have hlen1 : u1.length = K + n + 2 := by rw [hu1e, List.length_append, List.length_append, htl, r2, List.length_drop]; omega
    have hdrop1 : lv (u1.drop i) = lv r := by
      rw [hu1e, List.append_assoc, List.drop_append_of_le_length (by omega), List.drop_eq_nil_of_le (by omega), List.nil_append, lv_append, hh0, Nat.mul_zero, Nat.add_zero]
    have htake1 : u1.take i = u.take i := by rw [hu1e, List.append_assoc, List.take_append_of_le_length (by omega), List.take_of_length_le (by omega)]
    have hs := lv_split u i (by omega)
    have hs1 := lv_split u1 i (by omega)
    rw [hdrop1, htake1] at hs1
    obtain ⟨u', q', g1, g2⟩ := ih u1 (q.set i (Q : Int)) (by omega) hlen1 (by simpa using hq1) hL1 (hq.set _ (by omega)) (by rw [hdrop1, r4]; exact hml) (by
      rw [drop_set q i _ (by omega), lv_cons, hs1, he, hs, ← hdm, r4, Nat.pow_succ]
      have e1 : lv v * (4294967296 ^ i * Q) = 4294967296 ^ i * (lv v * Q) := Nat.mul_left_comm _ _ _
      simp only [Nat.mul_add, Nat.mul_assoc] at e1 ⊢
      omega)
    refine ⟨u', q', (iterL_next ?_).trans g1, g2⟩
    simp only [integer_divide.s0, integer_divide.j3, cite, decide_eq_true_eq, inB_t, inC_t, Bool.and_eq_true]
    have w1 : IntKind.wrap .i64 (((i + 1 : Nat) : Int) - 1 + ((t1.length : Nat) : Int)) = ((i + (n + 2) : Nat) : Int) := by rw [wi64 (by omega) (by omega)]; omega
    have w2 : IntKind.wrap .i64 (((i + (n + 2) : Nat) : Int) + 1) = ((i + (n + 3) : Nat) : Int) := by rw [wi64 (by omega) (by omega)]; omega
    have w3 : ((i + 1 : Nat) : Int) - 1 = (i : Int) := by omega
    rw [w1, w2, w3, if_pos (by omega), if_pos (by omega), if_pos (by omega)]
    simp only [Int.toNat_natCast, Nat.zero_add]
    rw [show i + (n + 3) - i = n + 3 by omega, r1, Option.bind_some, if_pos (by omega), wi64 (by omega) (by omega), hwl, hu1e]
theorem len_ge {a b : Nat} (h : a ≤ b) : (limbs a).length ≤ (limbs b).length := limbs_len.2 (Nat.lt_of_le_of_lt h (limbs_len.1 (Nat.le_refl _)))
theorem divide_ok {M N : Nat} (hM : (limbs M).length < 33554432) (hN : 0 < N) : integer_divide (limbs M) (limbs N) = some (limbs (M / N), limbs (M % N), ()) := by
  by_cases hlt : M < N
  · exact divide_small (by omega) hlt
  by_cases h1 : N < 4294967296
  · exact divide_one (by omega) hN h1
  have hge : N ≤ M := by omega
  have hln : (limbs N).length ≤ (limbs M).length := len_ge hge
  obtain ⟨n, hn⟩ : ∃ n, (limbs N).length = n + 2 := by
    have : ¬ (limbs N).length ≤ 1 := fun h => by have := limbs_len.1 h; omega
    exact ⟨(limbs N).length - 2, by omega⟩
  obtain ⟨K, hK⟩ : ∃ K, (limbs M).length + 1 = K + n + 2 := ⟨(limbs M).length - (n + 1), by omega⟩
  have hLN := lim_limbs N
  have hLM := lim_limbs M
  have htop : 0 < dg (limbs N) (n + 1) := by
    rcases Nat.eq_zero_or_pos (dg (limbs N) (n + 1)) with h | h
    · exfalso
      have e := lv_take_succ (limbs N) (n + 1)
      rw [List.take_of_length_le (by omega), h, Nat.mul_zero, Nat.add_zero] at e
      have h2 := lv_lt (hLN.take (n + 1))
      rw [← e, List.length_take, Nat.min_eq_left (by omega), lv_limbs] at h2
      have := limbs_len.2 h2
      omega
    · exact h
  have htlt := dg_lt hLN (n + 1)
  obtain ⟨s, hs, hz, hs1, hs2⟩ := lz32 htop htlt
  have h2s : 0 < 2 ^ s := Nat.two_pow_pos s
  obtain ⟨u, u1, u2, u3, u4⟩ := shift_ok hLM hs (by omega)
  obtain ⟨w, w1, w2, w3, w4⟩ := shift_ok hLN hs (by omega)
  rw [lv_limbs] at u4 w4
  have hNtop : N = lv ((limbs N).take (n + 1)) + 4294967296 ^ (n + 1) * dg (limbs N) (n + 1) := by
    have e := lv_take_succ (limbs N) (n + 1)
    rwa [List.take_of_length_le (by omega), lv_limbs] at e
  have hNl := lv_lt (hLN.take (n + 1))
  rw [List.length_take, Nat.min_eq_left (by omega)] at hNl
  obtain ⟨P, hP⟩ : ∃ P, P = 4294967296 ^ (n + 1) := ⟨_, rfl⟩
  have hPp : 0 < P := by rw [hP]; exact Nat.pow_pos (by omega)
  rw [← hP] at hNtop hNl
  obtain ⟨g, hg⟩ : ∃ g, g = dg (limbs N) (n + 1) := ⟨_, rfl⟩
  rw [← hg] at hs1 hs2 htop htlt hNtop
  -- the shifted divisor
  have hVlo : P * 2147483648 ≤ 2 ^ s * N := by
    have a1 := Nat.mul_le_mul_left P hs1
    have a2 : 2 ^ s * (P * g) ≤ 2 ^ s * N := Nat.mul_le_mul_left _ (by omega)
    have a3 : 2 ^ s * (P * g) = P * (g * 2 ^ s) := by rw [Nat.mul_left_comm, Nat.mul_comm g]
    omega
  have hVhi : 2 ^ s * N < 4294967296 ^ (n + 2) := by
    have a1 : 2 ^ s * N < 2 ^ s * (P * (g + 1)) := Nat.mul_lt_mul_of_pos_left (by rw [Nat.mul_add]; omega) h2s
    obtain ⟨c, hc, hc0⟩ := two32 s hs
    have a2 : g + 1 ≤ c := by
      apply Classical.byContradiction
      intro h
      have := Nat.mul_le_mul_right (2 ^ s) (show c ≤ g by omega)
      rw [Nat.mul_comm c, hc] at this
      omega
    have a3 : 2 ^ s * (P * (g + 1)) ≤ 2 ^ s * (P * c) := Nat.mul_le_mul_left _ (Nat.mul_le_mul_left _ a2)
    have a4 : 2 ^ s * (P * c) = P * 4294967296 := by rw [Nat.mul_left_comm, hc]
    rw [show n + 2 = n + 1 + 1 from rfl, Nat.pow_succ, ← hP]
    omega
  have hv := lv_high (l := w) (k := n + 2) (by rw [w4]; exact hVhi)
  obtain ⟨v, hve⟩ : ∃ v, v = w.take (n + 2) := ⟨_, rfl⟩
  have hvL : Lim v := by rw [hve]; exact w3.take _
  have hvl : v.length = n + 2 := by rw [hve, List.length_take]; omega
  have hvv : lv v = 2 ^ s * N := by rw [hve, hv.2, w4]
  have hv1 : 2147483648 ≤ dg v (n + 1) := by
    have e := lv_take_succ v (n + 1)
    rw [List.take_of_length_le (by omega), ← hP] at e
    have h2 := lv_lt (hvL.take (n + 1))
    rw [List.length_take, Nat.min_eq_left (by omega), ← hP] at h2
    apply Classical.byContradiction
    intro h
    have := Nat.mul_le_mul_left P (show dg v (n + 1) + 1 ≤ 2147483648 by omega)
    rw [Nat.mul_add] at this
    omega
  have hul : lv (u.drop K) < lv v := by
    have e := lv_split u K (by omega)
    have hm := limbs_len.1 (Nat.le_refl (limbs M).length)
    rw [show (limbs M).length = K + (n + 1) by omega, Nat.pow_add, ← hP] at hm
    rw [u4] at e
    rw [hvv]
    apply Classical.byContradiction
    intro h
    have b1 := Nat.mul_le_mul_left (4294967296 ^ K) (show P * 2147483648 ≤ lv (u.drop K) by omega)
    have b2 : 2 ^ s * M < 2 ^ s * (4294967296 ^ K * P) := Nat.mul_lt_mul_of_pos_left hm h2s
    have b3 : 2 ^ s * (4294967296 ^ K * P) ≤ 2147483648 * (4294967296 ^ K * P) := Nat.mul_le_mul_right _ (by
      have := Nat.pow_le_pow_right (show 2 > 0 by omega) (show s ≤ 31 by omega)
      omega)
    have b4 : 4294967296 ^ K * (P * 2147483648) = 2147483648 * (4294967296 ^ K * P) := by rw [Nat.mul_comm 2147483648, Nat.mul_assoc]
    omega
  obtain ⟨u', q', g1, g2, g3, g4, g5, g6, g7⟩ := div_loop hvL hvl hv1 (limbs N) hn (s : Int) (K := K) (by omega) (lv u) K u (List.replicate K 0) (Nat.le_refl _) (by omega) (by simp) u3 (Lim.replicate _) hul (by
    rw [List.drop_eq_nil_of_le (by simp)]; simp [lv])
  rw [u4, hvv] at g7
  rw [hvv] at g6
  have hq : lv q' = M / N ∧ lv u' / 2 ^ s = M % N := by
    have hNs : 0 < 2 ^ s * N := Nat.mul_pos h2s hN
    have e1 : lv q' = 2 ^ s * M / (2 ^ s * N) := by
      rw [g7, Nat.add_mul_div_left _ _ hNs, Nat.div_eq_of_lt g6, Nat.zero_add]
    have e2 : lv u' = 2 ^ s * M % (2 ^ s * N) := by
      rw [g7, Nat.add_mul_mod_self_left, Nat.mod_eq_of_lt g6]
    rw [Nat.mul_div_mul_left _ _ h2s] at e1
    rw [Nat.mul_mod_mul_left] at e2
    exact ⟨e1, by rw [e2, Nat.mul_div_cancel_left _ h2s]⟩
  have hu' := lv_high (l := u') (k := n + 2) (by omega)
  unfold integer_divide
  rw [compare_ok (by omega), Option.bind_some]
  have hc : ¬ cm (M : Int) (N : Int) < 0 := by unfold cm; split <;> (try split) <;> omega
  simp only [integer_divide.j1, integer_divide.j2, cite, decide_eq_true_eq, inB_t, inC_t, beq_iff_eq, maxL_eq]
  have x1 : IntKind.wrap .i64 (((limbs N).length : Int) - 1) = ((n + 1 : Nat) : Int) := by rw [wi64 (by omega) (by omega)]; omega
  have x2 : IntKind.wrap .u64 (s : Int) = (s : Int) := wu64' (by omega) (by omega)
  have x3 : IntKind.wrap .i64 (IntKind.wrap .i64 (((limbs M).length : Int) - ((limbs N).length : Int)) + 1) = (K : Int) := by rw [wi64 (x := ((limbs M).length : Int) - ((limbs N).length : Int)) (by omega) (by omega), wi64 (by omega) (by omega)]; omega
  have x4 : IntKind.wrap .i64 (((List.replicate (K : Nat) (0 : Int)).length : Int) - 1) = (K : Int) - 1 := by rw [List.length_replicate, wi64 (by omega) (by omega)]
  rw [if_neg hc, if_neg (by omega), x1, if_pos (by omega), Int.toNat_natCast, gd hLN, hz, Option.bind_some, x2, u1, Option.bind_some, w1, Option.bind_some, if_pos (by omega), x3, if_pos (by omega)]
  simp only [Int.toNat_natCast, List.drop_zero]
  rw [x4, hn, ← hve, g1, Option.bind_some]
  simp only [integer_divide.k0, cite, inC_t]
  have hul' : (limbs (lv u')).length ≤ n + 2 := limbs_len.2 (by omega)
  rw [trim_ok g5 (by omega), Option.bind_some, if_pos (by omega), Int.toNat_natCast, hn, trim_ok (g4.take _) (by rw [List.length_take]; omega), Option.bind_some, hu'.2, unshift_ok (lim_limbs _) hs (by omega), Option.bind_some, lv_limbs, hq.1, hq.2]
theorem divmodG {a b : Int} (ha : (limbs a.natAbs).length < 33554432) (hb : (limbs b.natAbs).length < 33554432) (h0 : b ≠ 0) : integer_DivMod (mkI a) (mkI b) = some (mkI (a / b), mkI (a % b), true, ()) := by
  have hd := divmod_of (mkI a).1 (mkI b).1 () () (lim_mkI a) (lim_mkI b) ha hb (by rw [iv_mkI]; exact h0) (by rw [lv_mkI, lv_mkI]; exact divide_ok ha (by omega))
  rwa [iv_mkI, iv_mkI] at hd
theorem normI {z : Int} (hz : (limbs z.natAbs).length ≤ 1073741824) : integer_Normalize (mkI z) = some (mkI z) := by
  have hx : (limbs z.natAbs).length ≤ 1073741824 := hz
  unfold integer_Normalize
  rw [magnitude_ok _ () (lim_mkI z) (by rw [len_mkI]; omega), Option.bind_some, lv_mkI]
  simp only [cite, inC_t, maxL_eq, Int.toNat_natCast, List.length_replicate]
  rw [if_pos (by omega), List.take_length, List.drop_eq_nil_of_le (by simp), List.append_nil, signed_ok _ (lim_limbs _) (by omega), Option.bind_some]
  have : iv (mkI z).1 (limbs z.natAbs) = z := iv_mkI z
  rw [this]
theorem gcd_loop (c : Bool × List Int × Unit) : ∀ (b a : Nat), (limbs a).length < 33554432 → (limbs b).length < 33554432 →
    iterL (fun x : List Int × List Int × (Bool × List Int × Unit) × Unit => integer_Gcd.s0 x.1 x.2.1 x.2.2.1) (limbs a, limbs b, c, ()) = some (limbs (Nat.gcd a b), c, ()) := by
  intro b
  induction b using Nat.strongRecOn with
  | ind b ih =>
    intro a ha hb
    by_cases h0 : b = 0
    · subst h0
      refine iterL_done ?_
      simp only [integer_Gcd.s0, cite, decide_eq_true_eq]
      rw [if_neg (by rw [limbs_zero]; decide), Nat.gcd_zero_right]
    · have hp := limbs_len_pos.2 h0
      have hm : a % b < b := Nat.mod_lt _ (by omega)
      have hlm := len_le (Nat.le_of_lt hm)
      have key := ih (a % b) hm b hb (by omega)
      rw [Nat.gcd_comm a b, Nat.gcd_rec b a, Nat.gcd_comm]
      refine (iterL_next ?_).trans key
      simp only [integer_Gcd.s0, integer_Gcd.j1, cite, decide_eq_true_eq]
      rw [if_pos (by omega), divide_ok ha (by omega), Option.bind_some]
theorem gcdI {a b : Int} (ha : (limbs a.natAbs).length < 33554432) (hb : (limbs b.natAbs).length < 33554432) : integer_Gcd (mkI a) (mkI b) = some (mkI (Int.gcd a b : Nat)) := by
  have n1 : integer_Normalize ((mkI a).1, ((mkI a).2.1, ())) = _ := normI (z := a) (by omega)
  have n2 : integer_Normalize ((mkI b).1, ((mkI b).2.1, ())) = _ := normI (z := b) (by omega)
  have g := gcd_loop (false, ([], ())) b.natAbs a.natAbs ha hb
  have g' : iterL (fun x : List Int × List Int × (Bool × List Int × Unit) × Unit => integer_Gcd.s0 x.1 x.2.1 x.2.2.1) ((mkI a).2.1, (mkI b).2.1, (false, ([], ())), ()) = _ := g
  have hl : (limbs (Nat.gcd a.natAbs b.natAbs)).length < 33554433 := by
    by_cases h0 : a.natAbs = 0
    · rw [h0, Nat.gcd_zero_left]; omega
    · have := len_le (Nat.gcd_le_left b.natAbs (show 0 < a.natAbs by omega))
      omega
  unfold integer_Gcd
  rw [n1, Option.bind_some, n2, Option.bind_some, g', Option.bind_some]
  simp only [integer_Gcd.k0]
  rw [signed_ok _ (lim_limbs _) (by omega), Option.bind_some, iv_f, lv_limbs]
  rfl
end Go.Proofs.YtgbndganadelpaaGreatDoor.V
