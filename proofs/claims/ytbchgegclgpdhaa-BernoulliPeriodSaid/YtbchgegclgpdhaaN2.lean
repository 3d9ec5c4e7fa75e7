/- Laws of integer: limb, plus, minus, compare, shortDivide. -/
import Derived.Test.YtbchgegclgpdhaaN1
namespace Go.Proofs.Ytbchgegclgpdhaa.V
open Go Go.Proofs.Ytbchgegclgpdhaa.E Go.Proofs.Ytbchgegclgpdhaa.LI
set_option linter.unusedVariables false
set_option linter.unusedSimpArgs false

theorem orI_nat (a b : Nat) (ha : a < 18446744073709551616) (hb : b < 18446744073709551616) : orI .u64 (a : Int) (b : Int) = ((a ||| b : Nat) : Int) := by
  have h0 : orI .u64 (a : Int) (b : Int) = IntKind.wrap .u64 (((BitVec.ofInt 64 (a : Int) ||| BitVec.ofInt 64 (b : Int)).toNat : Nat) : Int) := rfl
  rw [h0, wu64, BitVec.ofInt_natCast, BitVec.ofInt_natCast, BitVec.toNat_or, BitVec.toNat_ofNat, BitVec.toNat_ofNat, Nat.mod_eq_of_lt ha, Nat.mod_eq_of_lt hb]
  have : a ||| b < 2 ^ 64 := Nat.or_lt_two_pow ha hb
  omega
theorem or_add {a b i : Nat} (hb : b < 2 ^ i) (h : 2 ^ i * a + b < 18446744073709551616) : orI .u64 ((2 ^ i * a : Nat) : Int) (b : Int) = ((2 ^ i * a + b : Nat) : Int) := by
  rw [orI_nat _ _ (by omega) (by omega), ← Nat.two_pow_add_eq_or_of_lt hb]
theorem shl_nat {a i : Nat} (hi : i ≤ 64) (h : a * 2 ^ i < 18446744073709551616) : shlI .u64 (a : Int) (i : Int) = ((2 ^ i * a : Nat) : Int) := by
  unfold shlI
  rw [wu64, show min (i : Int).toNat IntKind.u64.bits = i by rw [Int.toNat_natCast]; exact Nat.min_eq_left hi]
  have : (a : Int) * 2 ^ i = ((a * 2 ^ i : Nat) : Int) := by push_cast; rfl
  rw [this, Nat.mul_comm]
  rw [Nat.mul_comm] at h
  omega
theorem shr_nat {a i : Nat} (hi : i ≤ 64) : shrI .u64 (a : Int) (i : Int) = ((a / 2 ^ i : Nat) : Int) := by
  unfold shrI
  rw [show min (i : Int).toNat IntKind.u64.bits = i by rw [Int.toNat_natCast]; exact Nat.min_eq_left hi]
  have : (2 : Int) ^ i = ((2 ^ i : Nat) : Int) := by push_cast; rfl
  rw [this, Int.fdiv_eq_ediv_of_nonneg _ (Int.natCast_nonneg _)]
  rfl
/-- Two words side by side. -/
theorem pack {a b : Nat} (ha : a < 4294967296) (hb : b < 4294967296) : orI .u64 (shlI .u64 (a : Int) 32) (IntKind.wrap .u64 (b : Int)) = ((4294967296 * a + b : Nat) : Int) := by
  have h1 := @shl_nat a 32 (by omega) (by omega)
  have h2 := @or_add a b 32 (by omega) (by omega)
  rw [show ((32 : Nat) : Int) = 32 from rfl] at h1
  rw [wu64' (by omega) (by omega), h1, h2]
theorem hi_word (a : Nat) : shrI .u64 (a : Int) 32 = ((a / 4294967296 : Nat) : Int) := @shr_nat a 32 (by omega)
theorem top_bit (a : Nat) : shrI .u64 (a : Int) 63 = ((a / 9223372036854775808 : Nat) : Int) := @shr_nat a 63 (by omega)

/-! ## shortDivide -/
theorem drop_set (a : List Int) (k : Nat) (x : Int) (hk : k < a.length) : (a.set k x).drop k = x :: a.drop (k + 1) := by
  rw [List.drop_eq_getElem_cons (by simpa using hk), List.drop_set, if_pos (Nat.lt_succ_self k)]
  simp
theorem lv_cons (x : Nat) (l : List Int) : lv ((x : Int) :: l) = x + 4294967296 * lv l := by simp [lv]
theorem short_loop {l : List Int} (hl : Lim l) (hn : l.length < 17592186044416) {d : Nat} (hd : 0 < d) (hd2 : d < 4294967296) : ∀ k, k ≤ l.length → ∀ a : List Int, a.length = l.length → Lim a → lv (a.drop k) = lv (l.drop k) / d →
    ∃ a', iterL (fun x : List Int × Int × Int × Int × List Int × Unit => integer_shortDivide.s0 x.1 x.2.1 x.2.2.1 x.2.2.2.1 x.2.2.2.2.1) (l, (d : Int), ((lv (l.drop k) % d : Nat) : Int), (k : Int) - 1, a, ()) = some (((lv l % d : Nat) : Int), a', ()) ∧
      a'.length = l.length ∧ Lim a' ∧ lv a' = lv l / d := by
  intro k
  induction k with
  | zero =>
    intro _ a h1 h2 h3
    refine ⟨a, iterL_done ?_, h1, h2, by simpa using h3⟩
    simp only [integer_shortDivide.s0, cite, decide_eq_true_eq]
    rw [if_neg (by omega)]
    simp
  | succ k ih =>
    intro hk a h1 h2 h3
    have hr : lv (l.drop (k + 1)) % d < d := Nat.mod_lt _ hd
    have hx := dg_lt hl k
    have hq : (4294967296 * (lv (l.drop (k + 1)) % d) + dg l k) / d < 4294967296 := by
      rw [Nat.div_lt_iff_lt_mul hd]
      have : 4294967296 * (lv (l.drop (k + 1)) % d) + 4294967296 ≤ 4294967296 * d := by
        have : 4294967296 * (lv (l.drop (k + 1)) % d + 1) ≤ 4294967296 * d := Nat.mul_le_mul_left _ hr
        omega
      omega
    obtain ⟨a', g1, g2⟩ := ih (by omega) (a.set k (((4294967296 * (lv (l.drop (k + 1)) % d) + dg l k) / d : Nat) : Int)) (by simpa using h1) (h2.set k ⟨Int.natCast_nonneg _, Int.ofNat_lt.2 hq⟩) (by
      rw [drop_set a k _ (by omega), lv_cons, h3, drop_dg (show k < l.length by omega)]
      have e := Nat.div_add_mod (lv (l.drop (k + 1))) d
      have : dg l k + 4294967296 * lv (l.drop (k + 1)) = (4294967296 * (lv (l.drop (k + 1)) % d) + dg l k) + d * (4294967296 * (lv (l.drop (k + 1)) / d)) := by
        rw [Nat.mul_left_comm]; omega
      rw [this, Nat.add_mul_div_left _ _ hd])
    refine ⟨a', (iterL_next ?_).trans g1, g2⟩
    have e := Nat.div_add_mod (lv (l.drop (k + 1))) d
    have hmod : lv (l.drop k) % d = (4294967296 * (lv (l.drop (k + 1)) % d) + dg l k) % d := by
      rw [drop_dg (show k < l.length by omega)]
      have : dg l k + 4294967296 * lv (l.drop (k + 1)) = (4294967296 * (lv (l.drop (k + 1)) % d) + dg l k) + d * (4294967296 * (lv (l.drop (k + 1)) / d)) := by
        rw [Nat.mul_left_comm]; omega
      rw [this, Nat.add_mul_mod_self_left]
    simp only [integer_shortDivide.s0, integer_shortDivide.j1, cite, decide_eq_true_eq, inB_t, maxL_eq]
    rw [show ((k + 1 : Nat) : Int) - 1 = (k : Int) by omega, Int.toNat_natCast, gd hl, pack (by omega) hx, wu64' (x := (d : Int)) (by omega) (by omega)]
    rw [if_pos (by omega), if_pos (by omega), if_neg (by omega), if_pos (by omega), if_neg (by omega), Nat.zero_add, ← Int.ofNat_tmod, ← Int.ofNat_tdiv, wi64 (by omega) (by omega)]
    have hq0 := Int.natCast_nonneg ((4294967296 * (lv (l.drop (k + 1)) % d) + dg l k) / d)
    have hq1 : (((4294967296 * (lv (l.drop (k + 1)) % d) + dg l k) / d : Nat) : Int) < 4294967296 := Int.ofNat_lt.2 hq
    rw [wu64' hq0 (Int.lt_of_lt_of_le hq1 (by decide)), wu32' hq0 hq1, hmod]
theorem shortDivide_ok {l : List Int} (hl : Lim l) (hn : l.length ≤ 1073741824) {d : Nat} (hd : 0 < d) (hd2 : d < 4294967296) : integer_shortDivide l (d : Int) = some (limbs (lv l / d), ((lv l % d : Nat) : Int), ()) := by
  obtain ⟨a', g1, g2, g3, g4⟩ := short_loop hl (by omega) hd hd2 l.length (Nat.le_refl _) (List.replicate l.length 0) (by simp) (Lim.replicate _) (by rw [List.drop_eq_nil_of_le (by simp), List.drop_eq_nil_of_le (by simp)]; simp [lv])
  unfold integer_shortDivide
  simp only [cite, inC_t, maxL_eq]
  rw [if_pos (by omega), Int.toNat_natCast, wi64 (by omega) (by omega)]
  rw [List.drop_eq_nil_of_le (Nat.le_refl _)] at g1
  rw [show ((lv [] % d : Nat) : Int) = 0 by simp [lv]] at g1
  rw [g1, Option.bind_some]
  simp only [integer_shortDivide.k0]
  rw [trim_ok g3 (by omega), Option.bind_some, g4]
  have : lv l % d < d := Nat.mod_lt _ hd
  rw [wu32' (by omega) (by omega)]
end Go.Proofs.Ytbchgegclgpdhaa.V
