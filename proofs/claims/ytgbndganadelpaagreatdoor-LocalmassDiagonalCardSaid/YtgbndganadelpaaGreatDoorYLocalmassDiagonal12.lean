/- Functions of the program as_ functions on values, without fuel, and that the evaluator computes them (printed by gen.py). -/
import Derived.Test.YtgbndganadelpaaGreatDoorYLocalmassDiagonal11
import Derived.Test.YtgbndganadelpaaGreatDoorYLocalmassDiagonal8
import Derived.Test.YtgbndganadelpaaGreatDoorYLocalmassDiagonal9
import Derived.Test.YtgbndganadelpaaGreatDoorYLocalmassDiagonal10
import Derived.Test.YtgbndganadelpaaGreatDoorYLocalmassDiagonal0
namespace Go.Proofs.YtgbndganadelpaaGreatDoor.E
open Go
set_option linter.unusedVariables false
set_option maxRecDepth 100000
end Go.Proofs.YtgbndganadelpaaGreatDoor.E
/- All functions. -/
/- Laws of the functions on values: words for all; trim, signs, small numbers, comparison. -/
namespace Go.Proofs.YtgbndganadelpaaGreatDoor.V
open Go Go.Proofs.YtgbndganadelpaaGreatDoor.E Go.Proofs.YtgbndganadelpaaGreatDoor.LI
set_option linter.unusedVariables false
set_option linter.unusedSimpArgs false
theorem wi64 {x : Int} (h : -9223372036854775808 ≤ x) (h' : x ≤ 9223372036854775807) : IntKind.wrap .i64 x = x := by
  simp [IntKind.wrap, IntKind.bits, IntKind.signed]; omega
theorem wu64 (x : Int) : IntKind.wrap .u64 x = x % 18446744073709551616 := by simp [IntKind.wrap, IntKind.bits, IntKind.signed]
theorem wu32 (x : Int) : IntKind.wrap .u32 x = x % 4294967296 := by simp [IntKind.wrap, IntKind.bits, IntKind.signed]
theorem wu64' {x : Int} (h : 0 ≤ x) (h' : x < 18446744073709551616) : IntKind.wrap .u64 x = x := by rw [wu64]; omega
theorem wu32' {x : Int} (h : 0 ≤ x) (h' : x < 4294967296) : IntKind.wrap .u32 x = x := by rw [wu32]; omega
theorem cite {α : Type} (c : Bool) (a b : α) : cond c a b = if c = true then a else b := by cases c <;> rfl
theorem inB_t (i : Int) (n : Nat) : (inB i n = true) = (0 ≤ i ∧ i < n) := by simp [inB]
theorem inC_t (i : Int) (n : Nat) : (inC i n = true) = (0 ≤ i ∧ i ≤ n) := by simp [inC]
theorem up {i : Nat} (h : i < 9223372036854775807) : IntKind.wrap .i64 ((i : Int) + 1) = ((i + 1 : Nat) : Int) := by rw [wi64 (by omega) (by omega)]; rfl
theorem down {i : Nat} (h : i < 9223372036854775807) : IntKind.wrap .i64 (((i + 1 : Nat) : Int) - 1) = (i : Int) := by rw [wi64 (by omega) (by omega)]; omega
theorem gd {l : List Int} (h : Lim l) (i : Nat) : l.getD i 0 = ((dg l i : Nat) : Int) := (dg_int h i).symm
theorem maxL_eq : maxL = 1073741824 := rfl
theorem trim_s_same : quadformref01_trim.s0 = integer_trim.s0 := rfl
theorem trim_loop {l : List Int} (hl : Lim l) (hn : l.length < 17592186044416) : ∀ j, j ≤ l.length → lv (l.take j) = lv l →
    ∃ j' : Nat, j' ≤ l.length ∧ l.take j' = limbs (lv l) ∧ iterL (fun x : List Int × Int × Unit => integer_trim.s0 x.1 x.2.1) (l, (j : Int), ()) = some (l, (j' : Int), ()) := by
  intro j
  induction j with
  | zero =>
    intro _ h
    refine ⟨0, Nat.zero_le _, by rw [← h]; rfl, iterL_done ?_⟩
    simp only [integer_trim.s0, cite, decide_eq_true_eq]
    rw [if_neg (by omega)]
  | succ j ih =>
    intro hj h
    by_cases h0 : dg l j = 0
    · obtain ⟨j', h1, h2, h3⟩ := ih (by omega) (by rw [lv_take_succ, h0] at h; simpa using h)
      refine ⟨j', h1, h2, (iterL_next ?_).trans h3⟩
      simp only [integer_trim.s0, integer_trim.j1, cite, decide_eq_true_eq, inB_t, beq_iff_eq]
      rw [down (by omega), Int.toNat_natCast, gd hl, h0, if_pos (by omega), if_pos (by omega), if_pos (by omega)]
    · refine ⟨j + 1, hj, ?_, iterL_done ?_⟩
      · rw [← h, limbs_lv (hl.take _) (fun hne e => ?_)]
        apply h0
        rw [List.getLast_eq_getElem] at e
        simp only [List.getElem_take, List.length_take, Nat.min_eq_left hj, Nat.add_sub_cancel] at e
        simp only [dg, List.getD, List.getElem?_eq_getElem (show j < l.length by omega), Option.getD_some, e]
        rfl
      · simp only [integer_trim.s0, integer_trim.j1, cite, decide_eq_true_eq, inB_t, beq_iff_eq]
        rw [down (by omega), Int.toNat_natCast, gd hl, if_pos (by omega), if_pos (by omega), if_neg (by omega)]
theorem trim_ok {l : List Int} (hl : Lim l) (hn : l.length < 17592186044416) : integer_trim l = some (limbs (lv l)) := by
  obtain ⟨j, h1, h2, h3⟩ := trim_loop hl hn l.length (Nat.le_refl _) (by rw [List.take_length])
  unfold integer_trim
  rw [h3, Option.bind_some]
  simp only [integer_trim.k0, cite, inC_t, Bool.and_eq_true, decide_eq_true_eq]
  rw [if_pos (by omega), if_pos (by omega), Int.toNat_natCast, h2]
theorem rtrim_ok {l : List Int} (hl : Lim l) (hn : l.length ≤ 1073741824) : quadformref01_trim l = some (limbs (lv l)) := by
  obtain ⟨j, h1, h2, h3⟩ := trim_loop hl (by omega) l.length (Nat.le_refl _) (by rw [List.take_length])
  unfold quadformref01_trim
  rw [trim_s_same, h3, Option.bind_some]
  simp only [quadformref01_trim.k0, cite, inC_t, decide_eq_true_eq, maxL_eq]
  rw [if_pos (by omega), if_pos (by simp; omega), Int.toNat_natCast, h2]
theorem iv_t (l : List Int) : iv true l = -(lv l : Int) := rfl
theorem iv_f (l : List Int) : iv false l = (lv l : Int) := rfl
/-- An integer as_ the program holds it. -/
def mkI (z : Int) : Bool × List Int × Unit := (decide (z < 0), limbs z.natAbs, ())
theorem limbs_len0 (n : Nat) : (((limbs n).length : Int) = 0) = (n = 0) := by
  have := @limbs_len_pos n
  apply propext
  constructor
  · intro h; by_cases h0 : n = 0
    · exact h0
    · have := this.2 h0; omega
  · rintro rfl; rfl
theorem signed_ok {l : List Int} (neg : Bool) (hl : Lim l) (hn : l.length < 17592186044416) : integer_signed neg l = some (mkI (iv neg l)) := by
  unfold integer_signed
  rw [trim_ok hl hn, Option.bind_some]
  simp only [integer_signed.j1, cite, beq_iff_eq, limbs_len0]
  by_cases h : lv l = 0
  · rw [if_pos h]
    have : iv neg l = 0 := by unfold iv; cases neg <;> simp [h]
    rw [this]; rfl
  · rw [if_neg h]
    cases neg with
    | true =>
      have e : decide (iv true l < 0) = true := by simp only [iv, if_true, decide_eq_true_eq]; omega
      simp only [mkI, iv_natAbs, e]
    | false =>
      have e : decide (iv false l < 0) = false := by simp only [iv, decide_eq_false_iff_not]; simp
      simp only [mkI, iv_natAbs, e]
theorem magnitude_ok {l : List Int} (neg : Bool) (u : Unit) (hl : Lim l) (hn : l.length < 17592186044416) : integer_magnitude (neg, l, u) = some (limbs (lv l)) := by
  unfold integer_magnitude
  rw [trim_ok hl hn]; rfl
theorem sign_ok {l : List Int} (neg : Bool) (u : Unit) (hl : Lim l) (hn : l.length < 17592186044416) : integer_Sign (neg, l, u) = some (if iv neg l = 0 then 0 else if iv neg l < 0 then -1 else 1) := by
  unfold integer_Sign
  rw [magnitude_ok neg _ hl hn, Option.bind_some]
  simp only [integer_Sign.j1, integer_Sign.j2, cite, beq_iff_eq, limbs_len0]
  cases neg with
  | true =>
    rw [iv_t]
    by_cases h : lv l = 0
    · rw [if_pos h, if_pos (by omega)]
    · rw [if_neg h, if_pos rfl, if_neg (by omega), if_pos (by omega)]
  | false =>
    rw [iv_f]
    by_cases h : lv l = 0
    · rw [if_pos h, if_pos (by omega)]
    · rw [if_neg h, if_neg (by simp), if_neg (by omega), if_neg (by omega)]
theorem make_ok {l : List Int} (neg : Bool) (hl : Lim l) (hn : l.length ≤ 1073741824) : quadformref01_Make neg l = some (mkI (iv neg l)) := by
  unfold quadformref01_Make
  rw [rtrim_ok hl hn, Option.bind_some]
  have hp := @limbs_len_pos (lv l)
  cases neg with
  | true =>
    rw [show mkI (iv true l) = (decide (iv true l < 0), limbs (iv true l).natAbs, ()) from rfl, iv_natAbs, iv_t, cond_true]
    congr 2
    by_cases h : lv l = 0
    · have h2 : ¬ 0 < (limbs (lv l)).length := fun h3 => hp.1 h3 h
      rw [decide_eq_false (by omega), decide_eq_false (by omega)]
    · have h2 := hp.2 h
      rw [decide_eq_true (by omega), decide_eq_true (by omega)]
  | false =>
    rw [show mkI (iv false l) = (decide (iv false l < 0), limbs (iv false l).natAbs, ()) from rfl, iv_natAbs, iv_f, cond_false, decide_eq_false (by omega)]
theorem rsign_ok {l : List Int} (neg : Bool) (u : Unit) (hl : Lim l) (hn : l.length ≤ 1073741824) : quadformref01_Sign (neg, l, u) = some (if iv neg l = 0 then 0 else if iv neg l < 0 then -1 else 1) := by
  unfold quadformref01_Sign
  rw [rtrim_ok hl hn, Option.bind_some]
  simp only [quadformref01_Sign.j1, quadformref01_Sign.j2, cite, beq_iff_eq, limbs_len0]
  cases neg with
  | true =>
    rw [iv_t]
    by_cases h : lv l = 0
    · rw [if_pos h, if_pos (by omega)]
    · rw [if_neg h, if_pos rfl, if_neg (by omega), if_pos (by omega)]
  | false =>
    rw [iv_f]
    by_cases h : lv l = 0
    · rw [if_pos h, if_pos (by omega)]
    · rw [if_neg h, if_neg (by simp), if_neg (by omega), if_neg (by omega)]
theorem lv_two {u : Nat} (hu : u < 18446744073709551616) : lv [((u % 4294967296 : Nat) : Int), ((u / 4294967296 : Nat) : Int)] = u ∧ Lim [((u % 4294967296 : Nat) : Int), ((u / 4294967296 : Nat) : Int)] := by
  constructor
  · simp only [lv, Int.toNat_natCast]; omega
  · exact Lim.mk (by omega) (Lim.one (by omega))
theorem two_words {u : Nat} (hu : u < 18446744073709551616) : ([IntKind.wrap .u32 (u : Int), IntKind.wrap .u32 (shrI .u64 (u : Int) 32)] : List Int) = [((u % 4294967296 : Nat) : Int), ((u / 4294967296 : Nat) : Int)] := by
  have h1 : shrI .u64 (u : Int) 32 = ((u / 4294967296 : Nat) : Int) := by
    simp only [shrI, IntKind.bits]
    rw [show min (32 : Int).toNat 64 = 32 from rfl, show (2 : Int) ^ 32 = 4294967296 from rfl, Int.fdiv_eq_ediv_of_nonneg _ (by decide)]; omega
  rw [h1, wu32, wu32]
  congr 1
  congr 1
  omega
theorem word_ok (neg : Bool) {u : Nat} (hu : u < 18446744073709551616) : quadformref01_word neg (u : Int) = some (mkI (if neg = true then -(u : Int) else u)) := by
  obtain ⟨h1, h2⟩ := lv_two hu
  unfold quadformref01_word
  rw [two_words hu, make_ok neg h2 (by simp), Option.bind_some]
  have : iv neg [((u % 4294967296 : Nat) : Int), ((u / 4294967296 : Nat) : Int)] = if neg = true then -(u : Int) else u := by
    cases neg with
    | true => rw [iv_t, h1]; rfl
    | false => rw [iv_f, h1]; rfl
  rw [this]
theorem rsmall_ok {n : Int} (h : -9223372036854775808 ≤ n) (h' : n ≤ 9223372036854775807) : quadformref01_Small n = some (mkI n) := by
  unfold quadformref01_Small
  simp only [cite, decide_eq_true_eq]
  by_cases h0 : n < 0
  · rw [if_pos h0]
    have : IntKind.wrap .u64 (0 - IntKind.wrap .u64 n) = ((n.natAbs : Nat) : Int) := by rw [wu64, wu64]; omega
    rw [this, word_ok true (by omega), Option.bind_some, if_pos rfl, show -((n.natAbs : Nat) : Int) = n by omega]
  · rw [if_neg h0]
    have : IntKind.wrap .u64 n = ((n.natAbs : Nat) : Int) := by rw [wu64]; omega
    unfold quadformref01_Small.j1
    rw [this, word_ok false (by omega), Option.bind_some, if_neg (by decide), show ((n.natAbs : Nat) : Int) = n by omega]
theorem small_ok {n : Int} (h : -9223372036854775808 ≤ n) (h' : n ≤ 9223372036854775807) : integer_Small n = some (mkI n) := by
  unfold integer_Small
  simp only [cite, decide_eq_true_eq]
  have key : ∀ b : List Int, integer_Small.j1 n ((n.natAbs : Nat) : Int) b = some (mkI n) := fun b => by
    obtain ⟨h1, h2⟩ := lv_two (u := n.natAbs) (by omega)
    unfold integer_Small.j1
    rw [two_words (by omega), signed_ok _ h2 (by simp), Option.bind_some]
    have : iv (decide (n < 0)) [((n.natAbs % 4294967296 : Nat) : Int), ((n.natAbs / 4294967296 : Nat) : Int)] = n := by
      by_cases h0 : n < 0
      · rw [decide_eq_true h0, iv_t, h1]; omega
      · rw [decide_eq_false h0, iv_f, h1]; omega
    rw [this]
  by_cases h0 : n < 0
  · rw [if_pos h0, show IntKind.wrap .u64 (0 - IntKind.wrap .u64 n) = ((n.natAbs : Nat) : Int) by rw [wu64, wu64]; omega]
    exact key _
  · rw [if_neg h0, show IntKind.wrap .u64 n = ((n.natAbs : Nat) : Int) by rw [wu64]; omega]
    exact key _
end Go.Proofs.YtgbndganadelpaaGreatDoor.V
/- Laws of integer: limb, plus, minus, compare, shortDivide. -/
namespace Go.Proofs.YtgbndganadelpaaGreatDoor.V
open Go Go.Proofs.YtgbndganadelpaaGreatDoor.E Go.Proofs.YtgbndganadelpaaGreatDoor.LI
set_option linter.unusedVariables false
set_option linter.unusedSimpArgs false
theorem orI_nat (a b : Nat) (ha : a < 18446744073709551616) (hb : b < 18446744073709551616) : orI .u64 (a : Int) (b : Int) = ((a ||| b : Nat) : Int) := by
  have h0 : orI .u64 (a : Int) (b : Int) = IntKind.wrap .u64 (((BitVec.ofInt 64 (a : Int) ||| BitVec.ofInt 64 (b : Int)).toNat : Nat) : Int) := rfl
  rw [h0, wu64, BitVec.ofInt_natCast, BitVec.ofInt_natCast, BitVec.toNat_or, BitVec.toNat_ofNat, BitVec.toNat_ofNat, Nat.mod_eq_of_lt ha, Nat.mod_eq_of_lt hb]
  have : a ||| b < 2 ^ 64 := Nat.or_lt_two_pow ha hb
  omega
theorem or_add {a b i : Nat} (hb : b < 2 ^ i) (h : 2 ^ i * a + b < 18446744073709551616) : orI .u64 ((2 ^ i * a : Nat) : Int) (b : Int) = ((2 ^ i * a + b : Nat) : Int) := by
  rw [orI_nat _ _ (by omega) (by omega), ← Nat.two_pow_add_eq_or_of_lt hb]
theorem shl_nat {a i : Nat} (hi : i ≤ 64) (h : a * 2 ^ i < 18446744073709551616) : shlI .u64 (a : Int) (i : Int) = ((2 ^ i * a : Nat) : Int) := by
  unfold shlI
  rw [wu64, show min (i : Int).toNat IntKind.u64.bits = i by rw [Int.toNat_natCast]; exact Nat.min_eq_left hi]
  have : (a : Int) * 2 ^ i = ((a * 2 ^ i : Nat) : Int) := by push_cast; rfl
  rw [this, Nat.mul_comm]
  rw [Nat.mul_comm] at h
  omega
theorem shr_nat {a i : Nat} (hi : i ≤ 64) : shrI .u64 (a : Int) (i : Int) = ((a / 2 ^ i : Nat) : Int) := by
  unfold shrI
  rw [show min (i : Int).toNat IntKind.u64.bits = i by rw [Int.toNat_natCast]; exact Nat.min_eq_left hi]
  have : (2 : Int) ^ i = ((2 ^ i : Nat) : Int) := by push_cast; rfl
  rw [this, Int.fdiv_eq_ediv_of_nonneg _ (Int.natCast_nonneg _)]
  rfl
/-- Two words side by side. -/
theorem pack {a b : Nat} (ha : a < 4294967296) (hb : b < 4294967296) : orI .u64 (shlI .u64 (a : Int) 32) (IntKind.wrap .u64 (b : Int)) = ((4294967296 * a + b : Nat) : Int) := by
  have h1 := @shl_nat a 32 (by omega) (by omega)
  have h2 := @or_add a b 32 (by omega) (by omega)
  rw [show ((32 : Nat) : Int) = 32 from rfl] at h1
  rw [wu64' (by omega) (by omega), h1, h2]
theorem hi_word (a : Nat) : shrI .u64 (a : Int) 32 = ((a / 4294967296 : Nat) : Int) := @shr_nat a 32 (by omega)
theorem top_bit (a : Nat) : shrI .u64 (a : Int) 63 = ((a / 9223372036854775808 : Nat) : Int) := @shr_nat a 63 (by omega)
theorem drop_set (a : List Int) (k : Nat) (x : Int) (hk : k < a.length) : (a.set k x).drop k = x :: a.drop (k + 1) := by
  rw [List.drop_eq_getElem_cons (by simpa using hk), List.drop_set, if_pos (Nat.lt_succ_self k)]
  simp
theorem lv_cons (x : Nat) (l : List Int) : lv ((x : Int) :: l) = x + 4294967296 * lv l := by simp [lv]
theorem short_loop {l : List Int} (hl : Lim l) (hn : l.length < 17592186044416) {d : Nat} (hd : 0 < d) (hd2 : d < 4294967296) : ∀ k, k ≤ l.length → ∀ a : List Int, a.length = l.length → Lim a → lv (a.drop k) = lv (l.drop k) / d →
    ∃ a', iterL (fun x : List Int × Int × Int × Int × List Int × Unit => integer_shortDivide.s0 x.1 x.2.1 x.2.2.1 x.2.2.2.1 x.2.2.2.2.1) (l, (d : Int), ((lv (l.drop k) % d : Nat) : Int), (k : Int) - 1, a, ()) = some (((lv l % d : Nat) : Int), a', ()) ∧
      a'.length = l.length ∧ Lim a' ∧ lv a' = lv l / d := by
  intro k
  induction k with
  | zero =>
    intro _ a h1 h2 h3
    refine ⟨a, iterL_done ?_, h1, h2, by simpa using h3⟩
    simp only [integer_shortDivide.s0, cite, decide_eq_true_eq]
    rw [if_neg (by omega)]
    simp
  | succ k ih =>
    intro hk a h1 h2 h3
    have hr : lv (l.drop (k + 1)) % d < d := Nat.mod_lt _ hd
    have hx := dg_lt hl k
    have hq : (4294967296 * (lv (l.drop (k + 1)) % d) + dg l k) / d < 4294967296 := by
      rw [Nat.div_lt_iff_lt_mul hd]
      have : 4294967296 * (lv (l.drop (k + 1)) % d) + 4294967296 ≤ 4294967296 * d := by
        have : 4294967296 * (lv (l.drop (k + 1)) % d + 1) ≤ 4294967296 * d := Nat.mul_le_mul_left _ hr
        omega
      omega
    obtain ⟨a', g1, g2⟩ := ih (by omega) (a.set k (((4294967296 * (lv (l.drop (k + 1)) % d) + dg l k) / d : Nat) : Int)) (by simpa using h1) (h2.set k ⟨Int.natCast_nonneg _, Int.ofNat_lt.2 hq⟩) (by
      rw [drop_set a k _ (by omega), lv_cons, h3, drop_dg (show k < l.length by omega)]
      have e := Nat.div_add_mod (lv (l.drop (k + 1))) d
      have : dg l k + 4294967296 * lv (l.drop (k + 1)) = (4294967296 * (lv (l.drop (k + 1)) % d) + dg l k) + d * (4294967296 * (lv (l.drop (k + 1)) / d)) := by
        rw [Nat.mul_left_comm]; omega
      rw [this, Nat.add_mul_div_left _ _ hd])
    refine ⟨a', (iterL_next ?_).trans g1, g2⟩
    have e := Nat.div_add_mod (lv (l.drop (k + 1))) d
    have hmod : lv (l.drop k) % d = (4294967296 * (lv (l.drop (k + 1)) % d) + dg l k) % d := by
      rw [drop_dg (show k < l.length by omega)]
      have : dg l k + 4294967296 * lv (l.drop (k + 1)) = (4294967296 * (lv (l.drop (k + 1)) % d) + dg l k) + d * (4294967296 * (lv (l.drop (k + 1)) / d)) := by
        rw [Nat.mul_left_comm]; omega
      rw [this, Nat.add_mul_mod_self_left]
    simp only [integer_shortDivide.s0, integer_shortDivide.j1, cite, decide_eq_true_eq, inB_t, maxL_eq]
    rw [show ((k + 1 : Nat) : Int) - 1 = (k : Int) by omega, Int.toNat_natCast, gd hl, pack (by omega) hx, wu64' (x := (d : Int)) (by omega) (by omega)]
    rw [if_pos (by omega), if_pos (by omega), if_neg (by omega), if_pos (by omega), if_neg (by omega), Nat.zero_add, ← Int.ofNat_tmod, ← Int.ofNat_tdiv, wi64 (by omega) (by omega)]
    have hq0 := Int.natCast_nonneg ((4294967296 * (lv (l.drop (k + 1)) % d) + dg l k) / d)
    have hq1 : (((4294967296 * (lv (l.drop (k + 1)) % d) + dg l k) / d : Nat) : Int) < 4294967296 := Int.ofNat_lt.2 hq
    rw [wu64' hq0 (Int.lt_of_lt_of_le hq1 (by decide)), wu32' hq0 hq1, hmod]
theorem shortDivide_ok {l : List Int} (hl : Lim l) (hn : l.length ≤ 1073741824) {d : Nat} (hd : 0 < d) (hd2 : d < 4294967296) : integer_shortDivide l (d : Int) = some (limbs (lv l / d), ((lv l % d : Nat) : Int), ()) := by
  obtain ⟨a', g1, g2, g3, g4⟩ := short_loop hl (by omega) hd hd2 l.length (Nat.le_refl _) (List.replicate l.length 0) (by simp) (Lim.replicate _) (by rw [List.drop_eq_nil_of_le (by simp), List.drop_eq_nil_of_le (by simp)]; simp [lv])
  unfold integer_shortDivide
  simp only [cite, inC_t, maxL_eq]
  rw [if_pos (by omega), Int.toNat_natCast, wi64 (by omega) (by omega)]
  rw [List.drop_eq_nil_of_le (Nat.le_refl _)] at g1
  rw [show ((lv [] % d : Nat) : Int) = 0 by simp [lv]] at g1
  rw [g1, Option.bind_some]
  simp only [integer_shortDivide.k0]
  rw [trim_ok g3 (by omega), Option.bind_some, g4]
  have : lv l % d < d := Nat.mod_lt _ hd
  rw [wu32' (by omega) (by omega)]
end Go.Proofs.YtgbndganadelpaaGreatDoor.V
/- Laws: comparison; sums and differences, of the reference and of integer. -/
namespace Go.Proofs.YtgbndganadelpaaGreatDoor.V
open Go Go.Proofs.YtgbndganadelpaaGreatDoor.E Go.Proofs.YtgbndganadelpaaGreatDoor.LI
set_option linter.unusedVariables false
set_option linter.unusedSimpArgs false
def cm (a b : Int) : Int := if a < b then -1 else if a = b then 0 else 1
theorem cm_lt {a b : Int} (h : a < b) : cm a b = -1 := if_pos h
theorem cm_gt {a b : Int} (h : b < a) : cm a b = 1 := by unfold cm; rw [if_neg (by omega), if_neg (by omega)]
theorem cm_eq {a b : Int} (h : a = b) : cm a b = 0 := by unfold cm; rw [if_neg (by omega), if_pos h]
theorem top_lt {m n : List Int} (hm : Lim m) {i : Nat} (h1 : i < m.length) (h2 : i < n.length) (hd : m.drop (i + 1) = n.drop (i + 1)) (h : dg m i < dg n i) : lv m < lv n := by
  rw [lv_split m i (by omega), lv_split n i (by omega), drop_dg h1, drop_dg h2, hd]
  have h3 := lv_lt (hm.take i)
  rw [List.length_take, Nat.min_eq_left (by omega)] at h3
  have h4 : 4294967296 ^ i * (dg m i + 1 + 4294967296 * lv (n.drop (i + 1))) ≤ 4294967296 ^ i * (dg n i + 4294967296 * lv (n.drop (i + 1))) := Nat.mul_le_mul_left _ (by omega)
  have h5 : 4294967296 ^ i * (dg m i + 1 + 4294967296 * lv (n.drop (i + 1))) = 4294967296 ^ i * (dg m i + 4294967296 * lv (n.drop (i + 1))) + 4294967296 ^ i := by
    rw [show dg m i + 1 + 4294967296 * lv (n.drop (i + 1)) = (dg m i + 4294967296 * lv (n.drop (i + 1))) + 1 from by omega, Nat.mul_add, Nat.mul_one]
  omega
theorem cmp_loop {m n : List Int} (hm : Lim m) (hn : Lim n) (hl : m.length = n.length) (hb : m.length < 17592186044416) : ∀ i, i ≤ m.length → m.drop i = n.drop i →
    ∃ z, iterL (fun x : List Int × List Int × Int × Unit => integer_compare.s0 x.1 x.2.1 x.2.2.1) (m, n, (i : Int) - 1, ()) = some z ∧ ((z = .inl () ∧ cm (lv m) (lv n) = 0) ∨ z = .inr (cm (lv m) (lv n), ())) := by
  intro i
  induction i with
  | zero =>
    intro _ h
    rw [List.drop_zero, List.drop_zero] at h
    refine ⟨_, iterL_done ?_, .inl ⟨rfl, cm_eq (by rw [h])⟩⟩
    simp only [integer_compare.s0, cite, decide_eq_true_eq]
    rw [if_neg (by omega)]
  | succ i ih =>
    intro hi h
    have hst : integer_compare.s0 m n (((i + 1 : Nat) : Int) - 1) = if (dg m i : Int) = dg n i then some (.inl (m, n, (i : Int) - 1, ())) else if (dg m i : Int) < dg n i then some (.inr (.inr (-1, ()))) else some (.inr (.inr (1, ()))) := by
      simp only [integer_compare.s0, integer_compare.j3, integer_compare.j4, integer_compare.j5, cite, decide_eq_true_eq, inB_t, bne_iff_ne]
      rw [show ((i + 1 : Nat) : Int) - 1 = (i : Int) from by omega, Int.toNat_natCast, gd hm, gd hn, if_pos (by omega), if_pos (by omega), if_pos (by omega)]
      by_cases h0 : (dg m i : Int) = dg n i
      · rw [if_neg (fun h => h h0), if_pos h0, wi64 (by omega) (by omega)]
      · rw [if_pos h0, if_neg h0, if_pos (by omega), if_pos (by omega)]
    by_cases h0 : dg m i = dg n i
    · obtain ⟨z, hz, hz2⟩ := ih (by omega) (by
        rw [List.drop_eq_getElem_cons (l := m) (i := i) (by omega), List.drop_eq_getElem_cons (l := n) (i := i) (by omega), h]
        congr 1
        have h1 := dg_int hm i
        have h2 := dg_int hn i
        rw [h0, h2] at h1
        simp only [List.getD, List.getElem?_eq_getElem (show i < m.length by omega), List.getElem?_eq_getElem (show i < n.length by omega), Option.getD_some] at h1
        exact h1.symm)
      exact ⟨z, (iterL_next (by simp only []; rw [hst, if_pos (by omega)])).trans hz, hz2⟩
    · by_cases h1 : dg m i < dg n i
      · have := top_lt hm (by omega) (by omega) h h1
        exact ⟨_, iterL_done (by simp only []; rw [hst, if_neg (by omega), if_pos (by omega)]), .inr (by rw [cm_lt (by omega)])⟩
      · have := top_lt hn (by omega) (by omega) h.symm (show dg n i < dg m i by omega)
        exact ⟨_, iterL_done (by simp only []; rw [hst, if_neg (by omega), if_neg (by omega)]), .inr (by rw [cm_gt (by omega)])⟩
theorem cmp_same {m n : List Int} (hm : Lim m) (hn : Lim n) (hl : m.length = n.length) (hb : m.length < 17592186044416) : integer_compare m n = some (cm (lv m) (lv n)) := by
  obtain ⟨z, h1, h2⟩ := cmp_loop hm hn hl hb m.length (Nat.le_refl _) (by rw [List.drop_length, hl, List.drop_length])
  unfold integer_compare
  simp only [integer_compare.j2, cite, bne_iff_ne]
  rw [if_neg (by simp [hl]), wi64 (by omega) (by omega), h1, Option.bind_some]
  rcases h2 with ⟨rfl, h2⟩ | rfl
  · simp only [integer_compare.k0_0, h2]
  · rfl
theorem compare_ok {a b : Nat} (ha : (limbs a).length < 17592186044416) : integer_compare (limbs a) (limbs b) = some (cm a b) := by
  by_cases h : (limbs a).length = (limbs b).length
  · have := cmp_same (lim_limbs a) (lim_limbs b) h ha
    rwa [lv_limbs, lv_limbs] at this
  · unfold integer_compare
    simp only [integer_compare.j1, cite, bne_iff_ne, decide_eq_true_eq]
    rw [if_pos (by omega)]
    by_cases h1 : (limbs a).length < (limbs b).length
    · have : ¬ b < 4294967296 ^ (limbs a).length := fun hc => by have := limbs_len.2 hc; omega
      have := limbs_len.1 (Nat.le_refl (limbs a).length)
      rw [if_pos (by omega), cm_lt (by omega)]
    · have : ¬ a < 4294967296 ^ (limbs b).length := fun hc => by have := limbs_len.2 hc; omega
      have := limbs_len.1 (Nat.le_refl (limbs b).length)
      rw [if_neg (by omega), cm_gt (by omega)]
theorem rcmp_eq (m n : List Int) : quadformref01_cmp m n = integer_compare m n := rfl
theorem rcmp_ok {a b : Nat} (ha : (limbs a).length < 17592186044416) : quadformref01_cmp (limbs a) (limbs b) = some (cm a b) := (rcmp_eq _ _).trans (compare_ok ha)
theorem lv_snoc (l : List Int) (d : Nat) : lv (l ++ [(d : Int)]) = lv l + 4294967296 ^ l.length * d := by
  rw [lv_append, lv_one, Int.toNat_natCast]
theorem lim_snoc {l : List Int} (h : Lim l) {d : Nat} (hd : d < 4294967296) : Lim (l ++ [(d : Int)]) := h.append (Lim.one (by omega))
theorem sum_step {m n : List Int} (hm : Lim m) (hn : Lim n) {i c : Nat} {out : List Int} (hi : i < m.length ∨ i < n.length) (hl : out.length = i) (hc : c ≤ 1) (hb : m.length < 1073741824) (hb' : n.length < 1073741824) :
    quadformref01_sum.s0 m n (c : Int) (i : Int) out = some (.inl (m, n, (((c + dg m i + dg n i) / 4294967296 : Nat) : Int), ((i + 1 : Nat) : Int), out ++ [(((c + dg m i + dg n i) % 4294967296 : Nat) : Int)], ())) := by
  have hdm := dg_lt hm i
  have hdn := dg_lt hn i
  have j2 : ∀ x : Nat, x < 12884901888 → quadformref01_sum.j2 m n (x : Int) (i : Int) out = some (.inl (m, n, ((x / 4294967296 : Nat) : Int), ((i + 1 : Nat) : Int), out ++ [((x % 4294967296 : Nat) : Int)], ())) := fun x hx => by
    simp only [quadformref01_sum.j2, cite, decide_eq_true_eq, maxL_eq]
    rw [if_pos (by simp [hl]; omega), hi_word, wu32, up (by omega)]
    congr 5
  have j1 : ∀ x : Nat, x < 8589934592 → quadformref01_sum.j1 m n (x : Int) (i : Int) out = some (.inl (m, n, (((x + dg n i) / 4294967296 : Nat) : Int), ((i + 1 : Nat) : Int), out ++ [(((x + dg n i) % 4294967296 : Nat) : Int)], ())) := fun x hx => by
    simp only [quadformref01_sum.j1, cite, decide_eq_true_eq, inB_t]
    rw [Int.toNat_natCast, gd hn, wu64' (x := ((dg n i : Nat) : Int)) (by omega) (by omega)]
    by_cases h5 : i < n.length
    · rw [if_pos (by omega), if_pos (by omega), wu64' (by omega) (by omega)]
      exact j2 (x + dg n i) (by omega)
    · rw [if_neg (by omega), dg_out (by omega)]
      exact j2 x (by omega)
  simp only [quadformref01_sum.s0, quadformref01_sum.j3, cite, decide_eq_true_eq, inB_t]
  rw [Int.toNat_natCast, gd hm, wu64' (x := ((dg m i : Nat) : Int)) (by omega) (by omega)]
  by_cases h4 : i < m.length
  · rw [if_pos (by omega), if_pos (by omega), if_pos (by omega), wu64' (by omega) (by omega)]
    exact j1 (c + dg m i) (by omega)
  · have h6 : dg m i = 0 := dg_out (by omega)
    rw [if_neg (by omega), if_pos (by omega), if_neg (by omega), h6]
    exact j1 c (by omega)
theorem sum_loop {m n : List Int} (hm : Lim m) (hn : Lim n) (hb : m.length < 1073741824) (hb' : n.length < 1073741824) : ∀ (t i : Nat) (out : List Int) (c : Nat), max m.length n.length - i = t → i ≤ max m.length n.length → out.length = i → Lim out → c ≤ 1 →
    lv out + 4294967296 ^ i * c = lv (m.take i) + lv (n.take i) → ∃ (c' : Nat) (o' : List Int), c' ≤ 1 ∧ Lim o' ∧ lv o' + 4294967296 ^ max m.length n.length * c' = lv m + lv n ∧ o'.length = max m.length n.length ∧
      iterL (fun x : List Int × List Int × Int × Int × List Int × Unit => quadformref01_sum.s0 x.1 x.2.1 x.2.2.1 x.2.2.2.1 x.2.2.2.2.1) (m, n, (c : Int), (i : Int), out, ()) = some ((c' : Int), o', ()) := by
  intro t
  induction t with
  | zero =>
    intro i out c ht hi hl ho hc he
    obtain rfl : i = max m.length n.length := by omega
    refine ⟨c, out, hc, ho, ?_, hl, iterL_done ?_⟩
    · rw [he, List.take_of_length_le (by omega), List.take_of_length_le (by omega)]
    · simp only [quadformref01_sum.s0, cite, decide_eq_true_eq]
      rw [if_neg (by omega), if_neg (by omega)]
  | succ t ih =>
    intro i out c ht hi hl ho hc he
    have hdm := dg_lt hm i
    have hdn := dg_lt hn i
    have h1 := lv_take_succ m i
    have h2 := lv_take_succ n i
    obtain ⟨c', o', hr1, hr2, hr3, hr4, hr5⟩ := ih (i + 1) (out ++ [(((c + dg m i + dg n i) % 4294967296 : Nat) : Int)]) ((c + dg m i + dg n i) / 4294967296) (by omega) (by omega) (by simp [hl]) (lim_snoc ho (by omega)) (by omega) (by
      rw [lv_snoc, hl, h1, h2, Nat.pow_succ]
      have h3 : 4294967296 ^ i * (c + dg m i + dg n i) = 4294967296 ^ i * ((c + dg m i + dg n i) % 4294967296) + 4294967296 ^ i * (4294967296 * ((c + dg m i + dg n i) / 4294967296)) := by
        rw [← Nat.mul_add, Nat.mod_add_div]
      rw [Nat.mul_add, Nat.mul_add] at h3
      rw [Nat.mul_assoc]
      omega)
    exact ⟨c', o', hr1, hr2, hr3, hr4, (iterL_next (sum_step hm hn (by omega) hl hc hb hb')).trans hr5⟩
theorem sum_ok {m n : List Int} (hm : Lim m) (hn : Lim n) (hb : m.length < 1073741824) (hb' : n.length < 1073741824) : ∃ r, Lim r ∧ lv r = lv m + lv n ∧ r.length = max m.length n.length + 1 ∧ quadformref01_sum m n = some r := by
  obtain ⟨c, o, h1, h2, h3, h4, h5⟩ := sum_loop hm hn hb hb' _ 0 [] 0 rfl (by omega) rfl Lim.nil (by omega) (by simp [lv])
  refine ⟨o ++ [(c : Int)], lim_snoc h2 (by omega), by rw [lv_snoc, h4, h3], by simp [h4], ?_⟩
  unfold quadformref01_sum
  rw [show ((0 : Nat) : Int) = 0 from rfl] at h5
  rw [h5, Option.bind_some]
  simp only [quadformref01_sum.k0, cite, decide_eq_true_eq, maxL_eq]
  rw [if_pos (by simp [h4]; omega), wu32' (by omega) (by omega)]
theorem diff_loop {m n : List Int} (hm : Lim m) (hn : Lim n) (hb : m.length < 1073741824) : ∀ (t i : Nat) (out : List Int) (c : Nat), m.length - i = t → i ≤ m.length → out.length = i → Lim out → c ≤ 1 →
    lv (m.take i) + 4294967296 ^ i * c = lv out + lv (n.take i) → ∃ r c', Lim r ∧ lv m + 4294967296 ^ m.length * c' = lv r + lv (n.take m.length) ∧ r.length = m.length ∧
      iterL (fun x : List Int × List Int × Int × Int × List Int × Unit => quadformref01_difference.s0 x.1 x.2.1 x.2.2.1 x.2.2.2.1 x.2.2.2.2.1) (m, n, (c : Int), (i : Int), out, ()) = some (r, ()) := by
  intro t
  induction t with
  | zero =>
    intro i out c ht hi hl ho hc he
    obtain rfl : i = m.length := by omega
    refine ⟨out, c, ho, by rwa [List.take_length] at he, hl, iterL_done ?_⟩
    simp only [quadformref01_difference.s0, cite, decide_eq_true_eq]
    rw [if_neg (by omega)]
  | succ t ih =>
    intro i out c ht hi hl ho hc he
    have hdm := dg_lt hm i
    have hdn := dg_lt hn i
    have h1 := lv_take_succ m i
    have h2 := lv_take_succ n i
    obtain ⟨d, c', hd, hc', h3, h7⟩ : ∃ d c' : Nat, d < 4294967296 ∧ c' ≤ 1 ∧ dg m i + 4294967296 * c' = c + d + dg n i ∧ (c' = if dg m i < c + dg n i then 1 else 0) := by
      by_cases h : dg m i < c + dg n i
      · exact ⟨dg m i + 4294967296 - c - dg n i, 1, by omega, by omega, by omega, by rw [if_pos h]⟩
      · exact ⟨dg m i - c - dg n i, 0, by omega, by omega, by omega, by rw [if_neg h]⟩
    obtain ⟨r, cc, hr1, hr2, hr3, hr4⟩ := ih (i + 1) (out ++ [(d : Int)]) c' (by omega) (by omega) (by simp [hl]) (lim_snoc ho hd) hc' (by
      rw [lv_snoc, hl, h1, h2, Nat.pow_succ]
      have h4 : 4294967296 ^ i * (dg m i + 4294967296 * c') = 4294967296 ^ i * (c + d + dg n i) := by rw [h3]
      rw [Nat.mul_add, Nat.mul_add, Nat.mul_add, ← Nat.mul_assoc] at h4
      omega)
    refine ⟨r, cc, hr1, hr2, hr3, (iterL_next ?_).trans hr4⟩
    have j2 : ∀ x : Nat, x = c + dg n i → quadformref01_difference.j2 m n (i : Int) (x : Int) out = some (.inl (m, n, (c' : Int), ((i + 1 : Nat) : Int), out ++ [(d : Int)], ())) := fun x hx => by
      simp only [quadformref01_difference.j2, quadformref01_difference.j3, quadformref01_difference.j4, cite, decide_eq_true_eq, inB_t, maxL_eq]
      have e3 : IntKind.wrap .u32 (IntKind.wrap .u64 ((dg m i : Int) - (x : Int))) = (d : Int) := by rw [wu64, wu32]; omega
      rw [Int.toNat_natCast, gd hm, wu64' (x := ((dg m i : Nat) : Int)) (by omega) (by omega), e3, if_pos (by omega), if_pos (by simp [hl]; omega), if_pos (by omega), up (by omega)]
      by_cases h6 : dg m i < c + dg n i
      · rw [if_pos h6] at h7
        rw [if_pos (by omega), h7]; rfl
      · rw [if_neg h6] at h7
        rw [if_neg (by omega), h7]; rfl
    simp only [quadformref01_difference.s0, quadformref01_difference.j1, cite, decide_eq_true_eq, inB_t]
    rw [if_pos (by omega), Int.toNat_natCast, gd hn, wu64' (x := ((dg n i : Nat) : Int)) (by omega) (by omega)]
    by_cases h5 : i < n.length
    · rw [if_pos (by omega), if_pos (by omega), wu64' (by omega) (by omega)]
      exact j2 (c + dg n i) rfl
    · rw [if_neg (by omega)]
      exact j2 c (by rw [dg_out (by omega)]; rfl)
theorem diff_ok {m n : List Int} (hm : Lim m) (hn : Lim n) (hb : m.length < 1073741824) (hl : n.length ≤ m.length) (h : lv n ≤ lv m) : ∃ r, Lim r ∧ lv r = lv m - lv n ∧ r.length = m.length ∧ quadformref01_difference m n = some r := by
  obtain ⟨r, c, h1, h2, h3, h4⟩ := diff_loop hm hn hb _ 0 [] 0 rfl (by omega) rfl Lim.nil (by omega) (by simp [lv])
  refine ⟨r, h1, ?_, h3, ?_⟩
  · rw [List.take_of_length_le hl] at h2
    have h5 := lv_lt h1
    rw [h3] at h5
    have : c = 0 := by
      cases c with
      | zero => rfl
      | succ c =>
        have : 4294967296 ^ m.length * 1 ≤ 4294967296 ^ m.length * (c + 1) := Nat.mul_le_mul_left _ (by omega)
        omega
    subst this
    omega
  · unfold quadformref01_difference
    rw [show ((0 : Nat) : Int) = 0 from rfl] at h4
    rw [h4]; rfl
theorem len_le {a b : Nat} (h : a ≤ b) : (limbs a).length ≤ (limbs b).length := limbs_len.2 (Nat.lt_of_le_of_lt h (limbs_len.1 (Nat.le_refl _)))
theorem len_lv {l : List Int} (h : Lim l) : (limbs (lv l)).length ≤ l.length := limbs_len.2 (lv_lt h)
theorem iv_mkI (z : Int) : iv (mkI z).1 (mkI z).2.1 = z := iv_mk z
theorem lim_mkI (z : Int) : Lim (mkI z).2.1 := lim_limbs _
theorem lv_mkI (z : Int) : lv (mkI z).2.1 = z.natAbs := lv_limbs _
theorem radd_ok {l l' : List Int} (s s' : Bool) (u u' : Unit) (h : Lim l) (h' : Lim l') (hb : l.length < 1073741823) (hb' : l'.length < 1073741823) : quadformref01_Add (s, l, u) (s', l', u') = some (mkI (iv s l + iv s' l')) := by
  have hx := len_lv h
  have hy := len_lv h'
  unfold quadformref01_Add
  rw [rtrim_ok h (by omega), Option.bind_some, rtrim_ok h' (by omega), Option.bind_some]
  simp only [cite, beq_iff_eq]
  by_cases hs : s = s'
  · subst hs
    obtain ⟨r, h1, h2, h3, h4⟩ := sum_ok (lim_limbs (lv l)) (lim_limbs (lv l')) (by omega) (by omega)
    have h5 := make_ok s h1 (by rw [h3]; omega)
    rw [lv_limbs, lv_limbs] at h2
    rw [show iv s r = iv s l + iv s l' from by unfold iv; split <;> omega] at h5
    rw [if_pos rfl, h4, Option.bind_some, h5]; rfl
  · rw [if_neg hs]
    simp only [quadformref01_Add.j1, quadformref01_Add.j2, cite, decide_eq_true_eq]
    rw [rcmp_ok (by omega), Option.bind_some]
    by_cases hc : lv l' ≤ lv l
    · obtain ⟨r, h1, h2, h3, h4⟩ := diff_ok (lim_limbs (lv l)) (lim_limbs (lv l')) (by omega) (len_le hc) (by rw [lv_limbs, lv_limbs]; exact hc)
      have h5 := make_ok s h1 (by rw [h3]; omega)
      rw [lv_limbs, lv_limbs] at h2
      rw [show iv s r = iv s l + iv s' l' from by cases s <;> cases s' <;> simp_all [iv] <;> omega] at h5
      rw [if_pos (by unfold cm; split <;> (try split) <;> omega), h4, Option.bind_some, h5]; rfl
    · obtain ⟨r, h1, h2, h3, h4⟩ := diff_ok (lim_limbs (lv l')) (lim_limbs (lv l)) (by omega) (len_le (by omega)) (by rw [lv_limbs, lv_limbs]; omega)
      have h5 := make_ok s' h1 (by rw [h3]; omega)
      rw [lv_limbs, lv_limbs] at h2
      rw [show iv s' r = iv s l + iv s' l' from by cases s <;> cases s' <;> simp_all [iv] <;> omega] at h5
      rw [cm_lt (by omega), if_neg (by omega), h4, Option.bind_some, h5]; rfl
theorem rneg_ok {l : List Int} (neg : Bool) (u : Unit) (hl : Lim l) (hn : l.length ≤ 1073741824) : quadformref01_Neg (neg, l, u) = some (mkI (-iv neg l)) := by
  unfold quadformref01_Neg
  rw [make_ok _ hl hn, Option.bind_some, show iv (!neg) l = -iv neg l by cases neg <;> simp [iv]]
theorem rsub_ok {l l' : List Int} (s s' : Bool) (u u' : Unit) (h : Lim l) (h' : Lim l') (hb : l.length < 1073741823) (hb' : l'.length < 1073741823) : quadformref01_Sub (s, l, u) (s', l', u') = some (mkI (iv s l - iv s' l')) := by
  have hy := len_lv h'
  unfold quadformref01_Sub
  rw [rneg_ok s' _ h' (by omega), Option.bind_some]
  have h2 := radd_ok s (mkI (-iv s' l')).1 u () h (lim_mkI (-iv s' l')) hb (by show (limbs (-iv s' l').natAbs).length < _; rw [Int.natAbs_neg, iv_natAbs]; omega)
  rw [iv_mkI, ← Int.sub_eq_add_neg] at h2
  exact (congrArg (fun o => o.bind fun y => some (y.1, (y.2.1, ()))) h2).trans rfl
end Go.Proofs.YtgbndganadelpaaGreatDoor.V
/- Laws of the reference's divisions. -/
namespace Go.Proofs.YtgbndganadelpaaGreatDoor.V
open Go Go.Proofs.YtgbndganadelpaaGreatDoor.E Go.Proofs.YtgbndganadelpaaGreatDoor.LI
set_option linter.unusedVariables false
set_option linter.unusedSimpArgs false
theorem or32_nat (a b : Nat) (ha : a < 4294967296) (hb : b < 4294967296) : orI .u32 (a : Int) (b : Int) = ((a ||| b : Nat) : Int) := by
  have h0 : orI .u32 (a : Int) (b : Int) = IntKind.wrap .u32 (((BitVec.ofInt 32 (a : Int) ||| BitVec.ofInt 32 (b : Int)).toNat : Nat) : Int) := rfl
  rw [h0, wu32, BitVec.ofInt_natCast, BitVec.ofInt_natCast, BitVec.toNat_or, BitVec.toNat_ofNat, BitVec.toNat_ofNat, Nat.mod_eq_of_lt ha, Nat.mod_eq_of_lt hb]
  have : a ||| b < 2 ^ 32 := Nat.or_lt_two_pow ha hb
  omega
theorem and32_one (a : Nat) (ha : a < 4294967296) : andI .u32 (a : Int) 1 = ((a % 2 : Nat) : Int) := by
  have h0 : andI .u32 (a : Int) 1 = IntKind.wrap .u32 (((BitVec.ofInt 32 (a : Int) &&& BitVec.ofInt 32 ((1 : Nat) : Int)).toNat : Nat) : Int) := rfl
  rw [h0, wu32, BitVec.ofInt_natCast, BitVec.ofInt_natCast, BitVec.toNat_and, BitVec.toNat_ofNat, BitVec.toNat_ofNat, Nat.mod_eq_of_lt ha, Nat.mod_eq_of_lt (by decide), Nat.and_one_is_mod]
  omega
theorem shr32 (a r : Nat) (hr : r ≤ 32) : shrI .u32 (a : Int) (r : Int) = ((a / 2 ^ r : Nat) : Int) := by
  unfold shrI
  rw [show min (r : Int).toNat IntKind.u32.bits = r by rw [Int.toNat_natCast]; exact Nat.min_eq_left hr]
  have : (2 : Int) ^ r = ((2 ^ r : Nat) : Int) := by push_cast; rfl
  rw [this, Int.fdiv_eq_ediv_of_nonneg _ (Int.natCast_nonneg _)]
  rfl
theorem shl32 (a r : Nat) (hr : r ≤ 32) : shlI .u32 (a : Int) (r : Int) = ((a * 2 ^ r % 4294967296 : Nat) : Int) := by
  unfold shlI
  rw [wu32, show min (r : Int).toNat IntKind.u32.bits = r by rw [Int.toNat_natCast]; exact Nat.min_eq_left hr]
  have : (a : Int) * 2 ^ r = ((a * 2 ^ r : Nat) : Int) := by push_cast; rfl
  rw [this]
  omega
theorem shr_bit (x : Nat) (r : Nat) (hx : x < 4294967296) (hr : r < 32) : andI .u32 (shrI .u32 (x : Int) (r : Int)) 1 = ((x / 2 ^ r % 2 : Nat) : Int) := by
  rw [shr32 _ _ (by omega), and32_one _ (Nat.lt_of_le_of_lt (Nat.div_le_self _ _) hx)]
theorem or_bit (x : Nat) (r : Nat) (hx : x < 4294967296) (hr : r < 32) (h0 : x % 2 ^ (r + 1) = 0) : orI .u32 (x : Int) (shlI .u32 1 (r : Int)) = ((x + 2 ^ r : Nat) : Int) := by
  have hp : 2 ^ r < 2 ^ (r + 1) := Nat.pow_lt_pow_right (by omega) (by omega)
  have hp2 : 2 ^ (r + 1) ≤ 2 ^ 32 := Nat.pow_le_pow_right (by omega) (by omega)
  have h1 := shl32 1 r (by omega)
  rw [show ((1 : Nat) : Int) = 1 from rfl, Nat.one_mul, Nat.mod_eq_of_lt (by omega)] at h1
  rw [h1]
  obtain ⟨q, hq⟩ := Nat.dvd_of_mod_eq_zero h0
  rw [or32_nat _ _ hx (by omega), hq, ← Nat.two_pow_add_eq_or_of_lt hp q]
theorem low_step {l : List Int} (hl : Lim l) {u i : Nat} (hi : i < l.length) (h2 : i < 2) (hu : u < 4294967296 ^ i) :
    quadformref01_low.s0 l (u : Int) (i : Int) = some (.inl (l, ((u + 4294967296 ^ i * dg l i : Nat) : Int), ((i + 1 : Nat) : Int), ())) := by
  have hd := dg_lt hl i
  simp only [quadformref01_low.s0, quadformref01_low.j1, cite, decide_eq_true_eq, inB_t]
  rw [Int.toNat_natCast, gd hl, if_pos (by omega), if_pos (by omega), if_pos (by omega), wi64 (x := 32 * (i : Int)) (by omega) (by omega), if_neg (by omega), up (by omega), wu64' (by omega) (by omega)]
  have e : orI .u64 (u : Int) (shlI .u64 ((dg l i : Nat) : Int) (32 * (i : Int))) = ((u + 4294967296 ^ i * dg l i : Nat) : Int) := by
    have h3 : i = 0 ∨ i = 1 := by omega
    rcases h3 with rfl | rfl
    · have hu0 : u = 0 := by simpa using hu
      subst hu0
      have := @shl_nat (dg l 0) 0 (by omega) (by omega)
      rw [show ((0 : Nat) : Int) = 0 from rfl] at this
      rw [show (32 : Int) * ((0 : Nat) : Int) = 0 from rfl, this, orI_nat _ _ (by omega) (by omega)]
      simp
    · have hu1 : u < 4294967296 := by simpa using hu
      have := @shl_nat (dg l 1) 32 (by omega) (by omega)
      rw [show ((32 : Nat) : Int) = 32 from rfl] at this
      rw [show (32 : Int) * ((1 : Nat) : Int) = 32 from rfl, this, orI_nat _ _ (by omega) (by omega), Nat.or_comm, ← Nat.two_pow_add_eq_or_of_lt (by omega) (dg l 1)]
      omega
  rw [e]
theorem low_ok {l : List Int} (hl : Lim l) : quadformref01_low l = some ((lv (l.take 2) : Nat) : Int) := by
  have stop : ∀ (u : Nat) (i : Nat), ¬ (i < l.length ∧ i < 2) → iterL (fun x : List Int × Int × Int × Unit => quadformref01_low.s0 x.1 x.2.1 x.2.2.1) (l, (u : Int), (i : Int), ()) = some ((u : Int), ()) := by
    intro u i h
    refine iterL_done ?_
    simp only [quadformref01_low.s0, cite, decide_eq_true_eq]
    by_cases h1 : i < l.length
    · rw [if_pos (by omega), if_neg (by omega)]
    · rw [if_neg (by omega)]
  have key : iterL (fun x : List Int × Int × Int × Unit => quadformref01_low.s0 x.1 x.2.1 x.2.2.1) (l, ((0 : Nat) : Int), ((0 : Nat) : Int), ()) = some (((lv (l.take 2) : Nat) : Int), ()) := by
    have h1 : lv (l.take 1) = dg l 0 := by have := lv_take_succ l 0; simpa [lv] using this
    have h2 : lv (l.take 2) = lv (l.take 1) + 4294967296 * dg l 1 := by have := lv_take_succ l 1; simpa using this
    by_cases hl0 : 0 < l.length
    · refine (iterL_next (low_step hl (u := 0) (i := 0) hl0 (by omega) (by omega))).trans ?_
      have hd := dg_lt hl 0
      by_cases hl1 : 1 < l.length
      · refine (iterL_next (low_step hl (i := 1) hl1 (by omega) (by simp; omega))).trans ?_
        have e : 0 + 4294967296 ^ 0 * dg l 0 + 4294967296 ^ 1 * dg l 1 = lv (l.take 2) := by rw [h2, h1]; simp
        rw [e]
        exact stop _ 2 (by omega)
      · have e : 0 + 4294967296 ^ 0 * dg l 0 = lv (l.take 2) := by
          rw [dg_out (i := 1) (by omega)] at h2
          rw [h2, h1]
          simp
        rw [e]
        exact stop _ 1 (by omega)
    · have e : 0 = lv (l.take 2) := by
        rw [dg_out (i := 1) (by omega)] at h2
        rw [dg_out (i := 0) (by omega)] at h1
        omega
      have := stop (lv (l.take 2)) 0 (by omega)
      rw [← e] at this ⊢
      exact this
  unfold quadformref01_low
  rw [show ((0 : Nat) : Int) = 0 from rfl] at key
  rw [key]; rfl
theorem double_loop {m : List Int} (hm : Lim m) (hb : m.length < 1073741824) (b0 : Nat) : ∀ (t i : Nat) (out : List Int) (b : Nat), m.length - i = t → i ≤ m.length → out.length = i → Lim out → b ≤ 1 →
    lv out + 4294967296 ^ i * b = 2 * lv (m.take i) + b0 → ∃ b' o', b' ≤ 1 ∧ Lim o' ∧ lv o' + 4294967296 ^ m.length * b' = 2 * lv m + b0 ∧ o'.length = m.length ∧
      iterL (fun x : Int × List Int × Int × Int × List Int × Unit => quadformref01_double.s0 x.1 x.2.1 x.2.2.1 x.2.2.2.1 x.2.2.2.2.1) ((b : Int), m, (m.length : Int), (i : Int), out, ()) = some ((b' : Int), o', ()) := by
  intro t
  induction t with
  | zero =>
    intro i out b ht hi hl ho hc he
    obtain rfl : i = m.length := by omega
    refine ⟨b, out, hc, ho, ?_, hl, iterL_done ?_⟩
    · rw [he, List.take_of_length_le (by omega)]
    · simp only [quadformref01_double.s0, cite, decide_eq_true_eq]
      rw [if_neg (by omega)]
  | succ t ih =>
    intro i out b ht hi hl ho hc he
    have hd := dg_lt hm i
    have h1 := lv_take_succ m i
    obtain ⟨b', o', hr0, hr1, hr2, hr3, hr4⟩ := ih (i + 1) (out ++ [((dg m i * 2 % 4294967296 + b : Nat) : Int)]) (dg m i / 2147483648) (by omega) (by omega) (by simp [hl]) (lim_snoc ho (by omega)) (by omega) (by
      rw [lv_snoc, hl, h1, Nat.pow_succ, Nat.mul_assoc]
      have h3 : 4294967296 ^ i * (dg m i * 2 % 4294967296 + b + 4294967296 * (dg m i / 2147483648)) = 4294967296 ^ i * (dg m i * 2 + b) := by
        congr 1
        omega
      rw [Nat.mul_add, Nat.mul_add, Nat.mul_add, ← Nat.mul_assoc _ (dg m i) 2] at h3
      rw [Nat.mul_add]
      omega)
    refine ⟨b', o', hr0, hr1, hr2, hr3, (iterL_next ?_).trans hr4⟩
    simp only [quadformref01_double.s0, quadformref01_double.j1, cite, decide_eq_true_eq, inB_t, maxL_eq]
    have s1 := shl32 (dg m i) 1 (by omega)
    have s2 := shr32 (dg m i) 31 (by omega)
    rw [show ((1 : Nat) : Int) = 1 from rfl, show (2 : Nat) ^ 1 = 2 from rfl] at s1
    rw [show ((31 : Nat) : Int) = 31 from rfl, show (2 : Nat) ^ 31 = 2147483648 from rfl] at s2
    have e : orI .u32 ((dg m i * 2 % 4294967296 : Nat) : Int) (b : Int) = ((dg m i * 2 % 4294967296 + b : Nat) : Int) := by
      rw [or32_nat _ _ (by omega) (by omega)]
      have h5 : dg m i * 2 % 4294967296 = 2 ^ 1 * (dg m i % 2147483648) := by omega
      rw [h5, ← Nat.two_pow_add_eq_or_of_lt (by omega)]
    rw [Int.toNat_natCast, gd hm, s1, s2, e, if_pos (by omega), if_pos (by omega), if_pos (by simp [hl]; omega), up (by omega)]
theorem double_ok {m : List Int} (hm : Lim m) (hb : m.length < 1073741824) {b : Nat} (h : b ≤ 1) : ∃ r, Lim r ∧ lv r = 2 * lv m + b ∧ r.length = m.length + 1 ∧ quadformref01_double m (b : Int) = some r := by
  obtain ⟨b', o', h0, h1, h2, h3, h4⟩ := double_loop hm hb b _ 0 [] b rfl (by omega) rfl Lim.nil h (by simp [lv])
  refine ⟨o' ++ [(b' : Int)], lim_snoc h1 (by omega), by rw [lv_snoc, h3, h2], by simp [h3], ?_⟩
  unfold quadformref01_double
  rw [show ((0 : Nat) : Int) = 0 from rfl] at h4
  rw [h4, Option.bind_some]
  simp only [quadformref01_double.k0, cite, decide_eq_true_eq, maxL_eq]
  rw [if_pos (by simp [h3]; omega)]
theorem pow32 (j : Nat) : 4294967296 ^ j = 2 ^ (32 * j) := by rw [Nat.pow_mul]
/-- A bit of a digit is a bit of the number. -/
theorem dg_bit {l : List Int} (h : Lim l) (j r : Nat) (hr : r < 32) : dg l j / 2 ^ r % 2 = lv l / 2 ^ (32 * j + r) % 2 := by
  rw [dg_lv h, pow32, Nat.pow_add, ← Nat.div_div_eq_div_mul]
  generalize lv l / 2 ^ (32 * j) = x
  obtain ⟨c, hc⟩ : ∃ c, 32 = r + (c + 1) := ⟨31 - r, by omega⟩
  have e : (4294967296 : Nat) = 2 ^ r * (2 ^ c * 2) := by rw [← Nat.pow_succ, ← Nat.pow_add, ← hc]
  rw [e, Nat.mod_mul_right_div_self, Nat.mul_comm (2 ^ c) 2, Nat.mod_mul_right_mod]
theorem dg_low {l : List Int} (h : Lim l) (j r : Nat) (hr : r < 32) (hd : 2 ^ (32 * j + r + 1) ∣ lv l) : dg l j % 2 ^ (r + 1) = 0 := by
  rw [dg_lv h, pow32]
  obtain ⟨q, hq⟩ := hd
  rw [hq, Nat.add_assoc, Nat.pow_add, Nat.mul_assoc, Nat.mul_div_cancel_left _ (Nat.two_pow_pos _)]
  have e : (4294967296 : Nat) = 2 ^ (r + 1) * 2 ^ (31 - r) := by rw [← Nat.pow_add, show r + 1 + (31 - r) = 32 from by omega]
  rw [e, Nat.mod_mul_right_mod, Nat.mul_mod_right]
theorem step_div (a b N : Nat) (hN : 0 < N) (hb : b ≤ 1) : (2 * (a % N) + b ≥ N → (2 * a + b) / N = 2 * (a / N) + 1 ∧ (2 * a + b) % N = 2 * (a % N) + b - N) ∧ (2 * (a % N) + b < N → (2 * a + b) / N = 2 * (a / N) ∧ (2 * a + b) % N = 2 * (a % N) + b) := by
  have h1 := Nat.div_add_mod a N
  have h2 := Nat.mod_lt a hN
  constructor
  · intro h
    have e : 2 * a + b = (2 * (a % N) + b - N) + N * (2 * (a / N) + 1) := by
      rw [Nat.mul_add, Nat.mul_left_comm]
      omega
    rw [e, Nat.add_mul_div_left _ _ hN, Nat.add_mul_mod_self_left, Nat.div_eq_of_lt (by omega), Nat.mod_eq_of_lt (by omega)]
    omega
  · intro h
    have e : 2 * a + b = (2 * (a % N) + b) + N * (2 * (a / N)) := by
      rw [Nat.mul_left_comm]
      omega
    rw [e, Nat.add_mul_div_left _ _ hN, Nat.add_mul_mod_self_left, Nat.div_eq_of_lt (by omega), Nat.mod_eq_of_lt (by omega)]
    omega
theorem half_bit (M i : Nat) : M / 2 ^ i = 2 * (M / 2 ^ (i + 1)) + M / 2 ^ i % 2 := by
  rw [Nat.pow_succ, ← Nat.div_div_eq_div_mul]
  omega
theorem divide_loop {m : List Int} (hm : Lim m) (hb : m.length < 33554432) {N : Nat} (hN : 0 < N) (hNl : (limbs N).length < 1073741823) : ∀ (i : Nat) (q : List Int), i ≤ 32 * m.length → Lim q → q.length = m.length → lv q = lv m / 2 ^ i / N * 2 ^ i →
    ∃ q', Lim q' ∧ q'.length = m.length ∧ lv q' = lv m / N ∧ iterL (fun x : List Int × List Int × List Int × Int × List Int × Unit => quadformref01_divide.s0 x.1 x.2.1 x.2.2.1 x.2.2.2.1 x.2.2.2.2.1) (m, limbs N, limbs (lv m / 2 ^ i % N), (i : Int) - 1, q, ()) = some (limbs (lv m % N), q', ()) := by
  intro i
  induction i with
  | zero =>
    intro q _ hq hl he
    rw [Nat.pow_zero, Nat.div_one, Nat.mul_one] at he
    refine ⟨q, hq, hl, he, iterL_done ?_⟩
    simp only [quadformref01_divide.s0, cite, decide_eq_true_eq]
    rw [if_neg (by omega), Nat.pow_zero, Nat.div_one]
  | succ i ih =>
    intro q hi hq hl he
    have hj : i / 32 < m.length := by omega
    have hij : 32 * (i / 32) + i % 32 = i := by omega
    have hdm := dg_lt hm (i / 32)
    have hdq := dg_lt hq (i / 32)
    have hbit := dg_bit hm (i / 32) (i % 32) (by omega)
    rw [hij] at hbit
    have hh := half_bit (lv m) i
    have hlt := Nat.mod_lt (lv m / 2 ^ (i + 1)) hN
    have hlen := len_le (Nat.le_of_lt hlt)
    obtain ⟨s1, s2⟩ := step_div (lv m / 2 ^ (i + 1)) (lv m / 2 ^ i % 2) N hN (by omega)
    rw [← hh] at s1 s2
    obtain ⟨r, hr1, hr2, hr3, hr4⟩ := double_ok (lim_limbs (lv m / 2 ^ (i + 1) % N)) (by omega) (b := lv m / 2 ^ i % 2) (by omega)
    rw [lv_limbs] at hr2
    have htr := rtrim_ok hr1 (by omega)
    have hrl := len_lv hr1
    have hcm := rcmp_ok (a := lv r) (b := N) (by omega)
    have hz : dg q (i / 32) % 2 ^ (i % 32 + 1) = 0 := dg_low hq _ _ (by omega) (by rw [hij, he]; exact Nat.dvd_mul_left _ _)
    have e1 : IntKind.wrap .i64 (Int.tdiv (((i + 1 : Nat) : Int) - 1) 32) = ((i / 32 : Nat) : Int) := by
      rw [show ((i + 1 : Nat) : Int) - 1 = (i : Int) from by omega, show Int.tdiv (i : Int) 32 = ((i / 32 : Nat) : Int) from (Int.ofNat_tdiv i 32).symm]
      exact wi64 (by omega) (by omega)
    have e2 : Int.tmod (((i + 1 : Nat) : Int) - 1) 32 = ((i % 32 : Nat) : Int) := by
      rw [show ((i + 1 : Nat) : Int) - 1 = (i : Int) from by omega]
      exact (Int.ofNat_tmod i 32).symm
    have e3 : IntKind.wrap .i64 (((i + 1 : Nat) : Int) - 1 - 1) = (i : Int) - 1 := by
      rw [wi64 (by omega) (by omega)]
      omega
    have hst : quadformref01_divide.s0 m (limbs N) (limbs (lv m / 2 ^ (i + 1) % N)) (((i + 1 : Nat) : Int) - 1) q = (if cm (lv r) N ≥ 0 then (quadformref01_difference (limbs (lv r)) (limbs N)).bind fun y13 => (quadformref01_trim y13).bind fun y14 => some (.inl (m, limbs N, y14, (i : Int) - 1, q.set (i / 32) ((dg q (i / 32) + 2 ^ (i % 32) : Nat) : Int), ())) else some (.inl (m, limbs N, limbs (lv r), (i : Int) - 1, q, ()))) := by
      simp only [quadformref01_divide.s0, quadformref01_divide.j2, quadformref01_divide.j3, cite, decide_eq_true_eq, inB_t]
      rw [if_pos (by omega), e1, e2, e3, if_pos (by omega), if_neg (by omega), Int.toNat_natCast, gd hm, shr_bit _ _ hdm (by omega), hbit, hr4, Option.bind_some, htr, Option.bind_some, hcm, Option.bind_some]
      congr 1
      congr 1
      funext y13
      congr 1
      funext y14
      rw [if_pos (by omega), if_neg (by omega), if_pos (by omega), Nat.zero_add, gd hq, or_bit _ _ hdq (by omega) hz]
    by_cases hge : N ≤ lv r
    · obtain ⟨d, hd1, hd2, hd3, hd4⟩ := diff_ok (lim_limbs (lv r)) (lim_limbs N) (by omega) (len_le hge) (by rw [lv_limbs, lv_limbs]; exact hge)
      rw [lv_limbs, lv_limbs] at hd2
      obtain ⟨s3, s4⟩ := s1 (by omega)
      have htd := rtrim_ok hd1 (by omega)
      rw [show lv d = lv m / 2 ^ i % N from by omega] at htd
      obtain ⟨q', g1, g2, g3, g4⟩ := ih (q.set (i / 32) ((dg q (i / 32) + 2 ^ (i % 32) : Nat) : Int)) (by omega) (hq.set _ (by
          obtain ⟨c, hc⟩ := Nat.dvd_of_mod_eq_zero hz
          have hp2 : (4294967296 : Nat) = 2 ^ (i % 32 + 1) * 2 ^ (31 - i % 32) := by rw [← Nat.pow_add, show i % 32 + 1 + (31 - i % 32) = 32 from by omega]
          have hc1 : c + 1 ≤ 2 ^ (31 - i % 32) := by
            apply Classical.byContradiction
            intro hcc
            have := Nat.mul_le_mul_left (2 ^ (i % 32 + 1)) (show 2 ^ (31 - i % 32) ≤ c by omega)
            omega
          have h5 := Nat.mul_le_mul_left (2 ^ (i % 32 + 1)) hc1
          have h6 : 2 ^ (i % 32) < 2 ^ (i % 32 + 1) := Nat.pow_lt_pow_right (by omega) (by omega)
          rw [Nat.mul_add] at h5
          omega)) (by rw [List.length_set, hl]) (by
          rw [lv_set (by omega), he, s3, pow32, ← Nat.pow_add, hij, Nat.pow_succ]
          generalize 2 ^ i = P
          generalize lv m / (P * 2) / N = z
          rw [Nat.add_mul, Nat.mul_comm 2 z, Nat.mul_assoc, Nat.mul_comm 2 P]
          omega)
      refine ⟨q', g1, g2, g3, (iterL_next ?_).trans g4⟩
      simp only []
      rw [hst, if_pos (by unfold cm; split <;> (try split) <;> omega), hd4, Option.bind_some, htd, Option.bind_some]
    · obtain ⟨s3, s4⟩ := s2 (by omega)
      obtain ⟨q', g1, g2, g3, g4⟩ := ih q (by omega) hq hl (by
          rw [he, s3, Nat.pow_succ]
          generalize 2 ^ i = P
          generalize lv m / (P * 2) / N = z
          rw [Nat.mul_comm 2 z, Nat.mul_assoc, Nat.mul_comm 2 P])
      refine ⟨q', g1, g2, g3, (iterL_next ?_).trans g4⟩
      simp only []
      rw [hst, if_neg (by rw [cm_lt (by omega)]; decide), show lv r = lv m / 2 ^ i % N from by omega]
theorem rdivide_ok {M N : Nat} (hM : (limbs M).length < 33554432) (hN : (limbs N).length < 1073741823) (h0 : 0 < N) : quadformref01_divide (limbs M) (limbs N) = some (limbs (M / N), limbs (M % N), ()) := by
  have long : ((iterL (fun x : List Int × List Int × List Int × Int × List Int × Unit => quadformref01_divide.s0 x.1 x.2.1 x.2.2.1 x.2.2.2.1 x.2.2.2.2.1) (limbs M, limbs N, ([] : List Int), (IntKind.wrap .i64 ((IntKind.wrap .i64 ((32 : Int) * ((List.length (limbs M) : Nat) : Int))) - (1 : Int))), (List.replicate ((((List.length (limbs M) : Nat) : Int)).toNat) ((0 : Int) : Int)), ())).bind fun y => quadformref01_divide.k0 y.1 y.2.1) = some (limbs (M / N), limbs (M % N), ()) := by
    have hz : M / 2 ^ (32 * (limbs M).length) = 0 := Nat.div_eq_of_lt (by rw [← pow32]; exact limbs_len.1 (Nat.le_refl _))
    have hlp := divide_loop (lim_limbs M) hM h0 hN (32 * (limbs M).length) (List.replicate (limbs M).length 0) (Nat.le_refl _) (Lim.replicate _) (by simp) (by rw [lv_limbs, hz, lv_zeros, Nat.zero_div, Nat.zero_mul])
    rw [lv_limbs, hz, Nat.zero_mod, limbs_zero] at hlp
    obtain ⟨q', g1, g2, g3, g4⟩ := hlp
    rw [wi64 (x := 32 * ((limbs M).length : Int)) (by omega) (by omega), wi64 (by omega) (by omega), Int.toNat_natCast]
    rw [show ((32 * (limbs M).length : Nat) : Int) - 1 = 32 * ((limbs M).length : Int) - 1 by omega] at g4
    rw [g4, Option.bind_some]
    simp only [quadformref01_divide.k0]
    rw [rtrim_ok g1 (by omega), Option.bind_some, g3]
  unfold quadformref01_divide
  simp only [quadformref01_divide.j1, cite, decide_eq_true_eq, inC_t, maxL_eq]
  by_cases h1 : (limbs M).length ≤ 2
  · rw [if_pos (by omega)]
    by_cases h2 : (limbs N).length ≤ 2
    · have hM2 := limbs_len.1 h1
      have hN2 := limbs_len.1 h2
      have l1 := low_ok (lim_limbs M)
      have l2 := low_ok (lim_limbs N)
      rw [List.take_of_length_le h1, lv_limbs] at l1
      rw [List.take_of_length_le h2, lv_limbs] at l2
      have hq : M / N < 18446744073709551616 := Nat.lt_of_le_of_lt (Nat.div_le_self _ _) (by omega)
      have hr : M % N < 18446744073709551616 := Nat.lt_of_le_of_lt (Nat.mod_le _ _) (by omega)
      rw [if_pos (by omega), l1, Option.bind_some, l2, Option.bind_some, if_neg (by omega), show Int.tdiv (M : Int) (N : Int) = ((M / N : Nat) : Int) from (Int.ofNat_tdiv M N).symm, show Int.tmod (M : Int) (N : Int) = ((M % N : Nat) : Int) from (Int.ofNat_tmod M N).symm]
      generalize M / N = y at hq ⊢
      generalize M % N = z at hr ⊢
      rw [wu64' (by omega) (by omega), word_ok false hq, Option.bind_some, if_neg (by omega), word_ok false hr, Option.bind_some]
      simp [mkI]
    · rw [if_neg (by omega), if_pos (by omega)]
      exact long
  · rw [if_neg (by omega), if_pos (by omega)]
    exact long
theorem ediv_of {a b Q R : Int} (h : R + b * Q = a) (h0 : 0 ≤ R) (h1 : R < b.natAbs) (hb : b ≠ 0) : a / b = Q ∧ a % b = R := by
  have e : a % b = R := by
    rw [← h, Int.add_mul_emod_self_left]
    by_cases hp : 0 < b
    · exact Int.emod_eq_of_lt h0 (by omega)
    · rw [← Int.emod_neg]
      exact Int.emod_eq_of_lt h0 (by omega)
  refine ⟨?_, e⟩
  have h2 := Int.mul_ediv_add_emod a b
  rw [e] at h2
  exact Int.eq_of_mul_eq_mul_left hb (by omega)
end Go.Proofs.YtgbndganadelpaaGreatDoor.V
