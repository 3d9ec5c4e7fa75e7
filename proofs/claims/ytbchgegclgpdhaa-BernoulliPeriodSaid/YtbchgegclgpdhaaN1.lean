/- Laws of the functions on values: words for all; trim, signs, small numbers, comparison. -/
import Derived.Test.YtbchgegclgpdhaaLI
import Derived.Test.YtbchgegclgpdhaaGA
namespace Go.Proofs.Ytbchgegclgpdhaa.V
open Go Go.Proofs.Ytbchgegclgpdhaa.E Go.Proofs.Ytbchgegclgpdhaa.LI
set_option linter.unusedVariables false
set_option linter.unusedSimpArgs false

theorem wi64 {x : Int} (h : -9223372036854775808 ≤ x) (h' : x ≤ 9223372036854775807) : IntKind.wrap .i64 x = x := by
  simp [IntKind.wrap, IntKind.bits, IntKind.signed]; omega
theorem wu64 (x : Int) : IntKind.wrap .u64 x = x % 18446744073709551616 := by simp [IntKind.wrap, IntKind.bits, IntKind.signed]
theorem wu32 (x : Int) : IntKind.wrap .u32 x = x % 4294967296 := by simp [IntKind.wrap, IntKind.bits, IntKind.signed]
theorem wu64' {x : Int} (h : 0 ≤ x) (h' : x < 18446744073709551616) : IntKind.wrap .u64 x = x := by rw [wu64]; omega
theorem wu32' {x : Int} (h : 0 ≤ x) (h' : x < 4294967296) : IntKind.wrap .u32 x = x := by rw [wu32]; omega
theorem cite {α : Type} (c : Bool) (a b : α) : cond c a b = if c = true then a else b := by cases c <;> rfl
theorem inB_t (i : Int) (n : Nat) : (inB i n = true) = (0 ≤ i ∧ i < n) := by simp [inB]
theorem inC_t (i : Int) (n : Nat) : (inC i n = true) = (0 ≤ i ∧ i ≤ n) := by simp [inC]
theorem up {i : Nat} (h : i < 9223372036854775807) : IntKind.wrap .i64 ((i : Int) + 1) = ((i + 1 : Nat) : Int) := by rw [wi64 (by omega) (by omega)]; rfl
theorem down {i : Nat} (h : i < 9223372036854775807) : IntKind.wrap .i64 (((i + 1 : Nat) : Int) - 1) = (i : Int) := by rw [wi64 (by omega) (by omega)]; omega
theorem gd {l : List Int} (h : Lim l) (i : Nat) : l.getD i 0 = ((dg l i : Nat) : Int) := (dg_int h i).symm
theorem maxL_eq : maxL = 1073741824 := rfl

/-! ## trim -/
theorem trim_s_same : quadformref01_trim.s0 = integer_trim.s0 := rfl
theorem trim_loop {l : List Int} (hl : Lim l) (hn : l.length < 17592186044416) : ∀ j, j ≤ l.length → lv (l.take j) = lv l →
    ∃ j' : Nat, j' ≤ l.length ∧ l.take j' = limbs (lv l) ∧ iterL (fun x : List Int × Int × Unit => integer_trim.s0 x.1 x.2.1) (l, (j : Int), ()) = some (l, (j' : Int), ()) := by
  intro j
  induction j with
  | zero =>
    intro _ h
    refine ⟨0, Nat.zero_le _, by rw [← h]; rfl, iterL_done ?_⟩
    simp only [integer_trim.s0, cite, decide_eq_true_eq]
    rw [if_neg (by omega)]
  | succ j ih =>
    intro hj h
    by_cases h0 : dg l j = 0
    · obtain ⟨j', h1, h2, h3⟩ := ih (by omega) (by rw [lv_take_succ, h0] at h; simpa using h)
      refine ⟨j', h1, h2, (iterL_next ?_).trans h3⟩
      simp only [integer_trim.s0, integer_trim.j1, cite, decide_eq_true_eq, inB_t, beq_iff_eq]
      rw [down (by omega), Int.toNat_natCast, gd hl, h0, if_pos (by omega), if_pos (by omega), if_pos (by omega)]
    · refine ⟨j + 1, hj, ?_, iterL_done ?_⟩
      · rw [← h, limbs_lv (hl.take _) (fun hne e => ?_)]
        apply h0
        rw [List.getLast_eq_getElem] at e
        simp only [List.getElem_take, List.length_take, Nat.min_eq_left hj, Nat.add_sub_cancel] at e
        simp only [dg, List.getD, List.getElem?_eq_getElem (show j < l.length by omega), Option.getD_some, e]
        rfl
      · simp only [integer_trim.s0, integer_trim.j1, cite, decide_eq_true_eq, inB_t, beq_iff_eq]
        rw [down (by omega), Int.toNat_natCast, gd hl, if_pos (by omega), if_pos (by omega), if_neg (by omega)]
theorem trim_ok {l : List Int} (hl : Lim l) (hn : l.length < 17592186044416) : integer_trim l = some (limbs (lv l)) := by
  obtain ⟨j, h1, h2, h3⟩ := trim_loop hl hn l.length (Nat.le_refl _) (by rw [List.take_length])
  unfold integer_trim
  rw [h3, Option.bind_some]
  simp only [integer_trim.k0, cite, inC_t, Bool.and_eq_true, decide_eq_true_eq]
  rw [if_pos (by omega), if_pos (by omega), Int.toNat_natCast, h2]
theorem rtrim_ok {l : List Int} (hl : Lim l) (hn : l.length ≤ 1073741824) : quadformref01_trim l = some (limbs (lv l)) := by
  obtain ⟨j, h1, h2, h3⟩ := trim_loop hl (by omega) l.length (Nat.le_refl _) (by rw [List.take_length])
  unfold quadformref01_trim
  rw [trim_s_same, h3, Option.bind_some]
  simp only [quadformref01_trim.k0, cite, inC_t, decide_eq_true_eq, maxL_eq]
  rw [if_pos (by omega), if_pos (by simp; omega), Int.toNat_natCast, h2]

/-! ## signs -/
theorem iv_t (l : List Int) : iv true l = -(lv l : Int) := rfl
theorem iv_f (l : List Int) : iv false l = (lv l : Int) := rfl
/-- An integer as the program holds it. -/
def mkI (z : Int) : Bool × List Int × Unit := (decide (z < 0), limbs z.natAbs, ())
theorem limbs_len0 (n : Nat) : (((limbs n).length : Int) = 0) = (n = 0) := by
  have := @limbs_len_pos n
  apply propext
  constructor
  · intro h; by_cases h0 : n = 0
    · exact h0
    · have := this.2 h0; omega
  · rintro rfl; rfl
theorem signed_ok {l : List Int} (neg : Bool) (hl : Lim l) (hn : l.length < 17592186044416) : integer_signed neg l = some (mkI (iv neg l)) := by
  unfold integer_signed
  rw [trim_ok hl hn, Option.bind_some]
  simp only [integer_signed.j1, cite, beq_iff_eq, limbs_len0]
  by_cases h : lv l = 0
  · rw [if_pos h]
    have : iv neg l = 0 := by unfold iv; cases neg <;> simp [h]
    rw [this]; rfl
  · rw [if_neg h]
    cases neg with
    | true =>
      have e : decide (iv true l < 0) = true := by simp only [iv, if_true, decide_eq_true_eq]; omega
      simp only [mkI, iv_natAbs, e]
    | false =>
      have e : decide (iv false l < 0) = false := by simp only [iv, decide_eq_false_iff_not]; simp
      simp only [mkI, iv_natAbs, e]
theorem magnitude_ok {l : List Int} (neg : Bool) (u : Unit) (hl : Lim l) (hn : l.length < 17592186044416) : integer_magnitude (neg, l, u) = some (limbs (lv l)) := by
  unfold integer_magnitude
  rw [trim_ok hl hn]; rfl
theorem sign_ok {l : List Int} (neg : Bool) (u : Unit) (hl : Lim l) (hn : l.length < 17592186044416) : integer_Sign (neg, l, u) = some (if iv neg l = 0 then 0 else if iv neg l < 0 then -1 else 1) := by
  unfold integer_Sign
  rw [magnitude_ok neg _ hl hn, Option.bind_some]
  simp only [integer_Sign.j1, integer_Sign.j2, cite, beq_iff_eq, limbs_len0]
  cases neg with
  | true =>
    rw [iv_t]
    by_cases h : lv l = 0
    · rw [if_pos h, if_pos (by omega)]
    · rw [if_neg h, if_pos rfl, if_neg (by omega), if_pos (by omega)]
  | false =>
    rw [iv_f]
    by_cases h : lv l = 0
    · rw [if_pos h, if_pos (by omega)]
    · rw [if_neg h, if_neg (by simp), if_neg (by omega), if_neg (by omega)]
theorem make_ok {l : List Int} (neg : Bool) (hl : Lim l) (hn : l.length ≤ 1073741824) : quadformref01_Make neg l = some (mkI (iv neg l)) := by
  unfold quadformref01_Make
  rw [rtrim_ok hl hn, Option.bind_some]
  have hp := @limbs_len_pos (lv l)
  cases neg with
  | true =>
    rw [show mkI (iv true l) = (decide (iv true l < 0), limbs (iv true l).natAbs, ()) from rfl, iv_natAbs, iv_t, cond_true]
    congr 2
    by_cases h : lv l = 0
    · have h2 : ¬ 0 < (limbs (lv l)).length := fun h3 => hp.1 h3 h
      rw [decide_eq_false (by omega), decide_eq_false (by omega)]
    · have h2 := hp.2 h
      rw [decide_eq_true (by omega), decide_eq_true (by omega)]
  | false =>
    rw [show mkI (iv false l) = (decide (iv false l < 0), limbs (iv false l).natAbs, ()) from rfl, iv_natAbs, iv_f, cond_false, decide_eq_false (by omega)]
theorem rsign_ok {l : List Int} (neg : Bool) (u : Unit) (hl : Lim l) (hn : l.length ≤ 1073741824) : quadformref01_Sign (neg, l, u) = some (if iv neg l = 0 then 0 else if iv neg l < 0 then -1 else 1) := by
  unfold quadformref01_Sign
  rw [rtrim_ok hl hn, Option.bind_some]
  simp only [quadformref01_Sign.j1, quadformref01_Sign.j2, cite, beq_iff_eq, limbs_len0]
  cases neg with
  | true =>
    rw [iv_t]
    by_cases h : lv l = 0
    · rw [if_pos h, if_pos (by omega)]
    · rw [if_neg h, if_pos rfl, if_neg (by omega), if_pos (by omega)]
  | false =>
    rw [iv_f]
    by_cases h : lv l = 0
    · rw [if_pos h, if_pos (by omega)]
    · rw [if_neg h, if_neg (by simp), if_neg (by omega), if_neg (by omega)]

/-! ## small numbers -/
theorem lv_two {u : Nat} (hu : u < 18446744073709551616) : lv [((u % 4294967296 : Nat) : Int), ((u / 4294967296 : Nat) : Int)] = u ∧ Lim [((u % 4294967296 : Nat) : Int), ((u / 4294967296 : Nat) : Int)] := by
  constructor
  · simp only [lv, Int.toNat_natCast]; omega
  · exact Lim.mk (by omega) (Lim.one (by omega))
theorem two_words {u : Nat} (hu : u < 18446744073709551616) : ([IntKind.wrap .u32 (u : Int), IntKind.wrap .u32 (shrI .u64 (u : Int) 32)] : List Int) = [((u % 4294967296 : Nat) : Int), ((u / 4294967296 : Nat) : Int)] := by
  have h1 : shrI .u64 (u : Int) 32 = ((u / 4294967296 : Nat) : Int) := by
    simp only [shrI, IntKind.bits]
    rw [show min (32 : Int).toNat 64 = 32 from rfl, show (2 : Int) ^ 32 = 4294967296 from rfl, Int.fdiv_eq_ediv_of_nonneg _ (by decide)]; omega
  rw [h1, wu32, wu32]
  congr 1
  congr 1
  omega
theorem word_ok (neg : Bool) {u : Nat} (hu : u < 18446744073709551616) : quadformref01_word neg (u : Int) = some (mkI (if neg = true then -(u : Int) else u)) := by
  obtain ⟨h1, h2⟩ := lv_two hu
  unfold quadformref01_word
  rw [two_words hu, make_ok neg h2 (by simp), Option.bind_some]
  have : iv neg [((u % 4294967296 : Nat) : Int), ((u / 4294967296 : Nat) : Int)] = if neg = true then -(u : Int) else u := by
    cases neg with
    | true => rw [iv_t, h1]; rfl
    | false => rw [iv_f, h1]; rfl
  rw [this]
theorem rsmall_ok {n : Int} (h : -9223372036854775808 ≤ n) (h' : n ≤ 9223372036854775807) : quadformref01_Small n = some (mkI n) := by
  unfold quadformref01_Small
  simp only [cite, decide_eq_true_eq]
  by_cases h0 : n < 0
  · rw [if_pos h0]
    have : IntKind.wrap .u64 (0 - IntKind.wrap .u64 n) = ((n.natAbs : Nat) : Int) := by rw [wu64, wu64]; omega
    rw [this, word_ok true (by omega), Option.bind_some, if_pos rfl, show -((n.natAbs : Nat) : Int) = n by omega]
  · rw [if_neg h0]
    have : IntKind.wrap .u64 n = ((n.natAbs : Nat) : Int) := by rw [wu64]; omega
    unfold quadformref01_Small.j1
    rw [this, word_ok false (by omega), Option.bind_some, if_neg (by decide), show ((n.natAbs : Nat) : Int) = n by omega]
theorem small_ok {n : Int} (h : -9223372036854775808 ≤ n) (h' : n ≤ 9223372036854775807) : integer_Small n = some (mkI n) := by
  unfold integer_Small
  simp only [cite, decide_eq_true_eq]
  have key : ∀ b : List Int, integer_Small.j1 n ((n.natAbs : Nat) : Int) b = some (mkI n) := fun b => by
    obtain ⟨h1, h2⟩ := lv_two (u := n.natAbs) (by omega)
    unfold integer_Small.j1
    rw [two_words (by omega), signed_ok _ h2 (by simp), Option.bind_some]
    have : iv (decide (n < 0)) [((n.natAbs % 4294967296 : Nat) : Int), ((n.natAbs / 4294967296 : Nat) : Int)] = n := by
      by_cases h0 : n < 0
      · rw [decide_eq_true h0, iv_t, h1]; omega
      · rw [decide_eq_false h0, iv_f, h1]; omega
    rw [this]
  by_cases h0 : n < 0
  · rw [if_pos h0, show IntKind.wrap .u64 (0 - IntKind.wrap .u64 n) = ((n.natAbs : Nat) : Int) by rw [wu64, wu64]; omega]
    exact key _
  · rw [if_neg h0, show IntKind.wrap .u64 n = ((n.natAbs : Nat) : Int) by rw [wu64]; omega]
    exact key _
end Go.Proofs.Ytbchgegclgpdhaa.V
