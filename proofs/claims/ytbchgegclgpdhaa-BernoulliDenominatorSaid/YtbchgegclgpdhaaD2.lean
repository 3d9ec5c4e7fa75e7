/- Laws of integer: a digit of a quotient (long division). -/
import Derived.Test.YtbchgegclgpdhaaD1
namespace Go.Proofs.Ytbchgegclgpdhaa.V
open Go Go.Proofs.Ytbchgegclgpdhaa.E Go.Proofs.Ytbchgegclgpdhaa.LI
set_option linter.unusedVariables false
set_option linter.unusedSimpArgs false

theorem and_low (x : Nat) (hx : x < 18446744073709551616) : andI .u64 (x : Int) 4294967295 = ((x % 4294967296 : Nat) : Int) := by
  have h0 : andI .u64 (x : Int) 4294967295 = IntKind.wrap .u64 (((BitVec.ofInt 64 (x : Int) &&& BitVec.ofInt 64 ((4294967295 : Nat) : Int)).toNat : Nat) : Int) := rfl
  rw [h0, wu64, BitVec.ofInt_natCast, BitVec.ofInt_natCast, BitVec.toNat_and, BitVec.toNat_ofNat, BitVec.toNat_ofNat, Nat.mod_eq_of_lt hx, Nat.mod_eq_of_lt (by decide)]
  have h1 := Nat.and_two_pow_sub_one_eq_mod x 32
  rw [show (2 : Nat) ^ 32 - 1 = 4294967295 from rfl, show (2 : Nat) ^ 32 = 4294967296 from rfl] at h1
  rw [h1]
  omega
theorem mul_lt32 {a b : Nat} (ha : a < 4294967296) (hb : b < 4294967296) : a * b < 18446744069414584321 := by
  have := mul_le ha hb
  omega
/-- The estimate: it is never too small, and at the end at most one too great. -/
theorem est_loop {u v : List Int} (hu : Lim u) (hv : Lim v) {n : Nat} (hn : v.length = n + 2) (hul : u.length = n + 3) {T Q : Nat} (hT : T < 18446744073709551616) (hT2 : T = 4294967296 * dg u (n + 2) + dg u (n + 1)) (hv1 : 0 < dg v (n + 1)) (hb : n < 1000000000000)
    (hQ : ∀ q, q < 4294967296 → q * (4294967296 * dg v (n + 1) + dg v n) > 4294967296 * T + dg u n → Q < q) :
    ∀ (q : Nat), q < 4294967296 → Q ≤ q → q * dg v (n + 1) ≤ T →
    ∃ q' : Nat, iterL (fun x : List Int × Int × Int × Int × List Int × Unit => integer_digit.s0 x.1 x.2.1 x.2.2.1 x.2.2.2.1 x.2.2.2.2.1) (v, ((n + 2 : Nat) : Int), (q : Int), ((T - q * dg v (n + 1) : Nat) : Int), u, ()) = some (v, ((n + 2 : Nat) : Int), (q' : Int), u, ()) ∧
      q' < 4294967296 ∧ Q ≤ q' ∧ q' * (4294967296 * dg v (n + 1) + dg v n) ≤ 4294967296 * T + dg u n := by
  intro q
  induction q with
  | zero =>
    intro h0 hq hm
    refine ⟨0, iterL_done ?_, by omega, hq, by omega⟩
    have hd := dg_lt hu n
    simp only [integer_digit.s0, integer_digit.j1, cite, decide_eq_true_eq, inB_t]
    by_cases hr : T - 0 * dg v (n + 1) < 4294967296
    · have e1 : IntKind.wrap .i64 (((n + 2 : Nat) : Int) - 2) = (n : Int) := by rw [wi64 (by omega) (by omega)]; omega
      have hd0 := dg_lt hv n
      rw [if_pos (by omega), e1, if_pos (by omega), if_pos (by omega), Nat.zero_add, Int.toNat_natCast, gd hv, gd hu, pack hr hd, wu64' (x := ((dg v n : Nat) : Int)) (by omega) (by omega), show ((0 : Nat) : Int) * ((dg v n : Nat) : Int) = 0 by simp, wu64' (by omega) (by omega), if_neg (by omega)]
    · rw [if_neg (by omega)]
  | succ q ih =>
    intro h0 hq hm
    have hdu := dg_lt hu n
    have hd0 := dg_lt hv n
    have hd1 := dg_lt hv (n + 1)
    obtain ⟨R, hR⟩ : ∃ R, R = T - (q + 1) * dg v (n + 1) := ⟨_, rfl⟩
    have hTR : T = (q + 1) * dg v (n + 1) + R := by omega
    have e1 : IntKind.wrap .i64 (((n + 2 : Nat) : Int) - 2) = (n : Int) := by rw [wi64 (by omega) (by omega)]; omega
    have e2 : IntKind.wrap .i64 (((n + 2 : Nat) : Int) - 1) = ((n + 1 : Nat) : Int) := by rw [wi64 (by omega) (by omega)]; omega
    have hP := mul_lt32 h0 hd0
    have e3 : IntKind.wrap .u64 (((q + 1 : Nat) : Int) * IntKind.wrap .u64 ((dg v n : Nat) : Int)) = (((q + 1) * dg v n : Nat) : Int) := by
      rw [wu64' (x := ((dg v n : Nat) : Int)) (by omega) (by omega), ← Int.natCast_mul, wu64' (by omega) (by omega)]
    have key : (q + 1) * (4294967296 * dg v (n + 1) + dg v n) = 4294967296 * ((q + 1) * dg v (n + 1)) + (q + 1) * dg v n := by rw [Nat.mul_add, Nat.mul_left_comm]
    rw [← hR]
    have hst : integer_digit.s0 v ((n + 2 : Nat) : Int) ((q + 1 : Nat) : Int) (R : Int) u = (if R < 4294967296 ∧ 4294967296 * R + dg u n < (q + 1) * dg v n then some (.inl (v, ((n + 2 : Nat) : Int), (q : Int), ((R + dg v (n + 1) : Nat) : Int), u, ())) else some (.inr (v, ((n + 2 : Nat) : Int), ((q + 1 : Nat) : Int), u, ()))) := by
      simp only [integer_digit.s0, integer_digit.j1, cite, decide_eq_true_eq, inB_t]
      by_cases hr : R < 4294967296
      · rw [if_pos (by omega), e1, e2, if_pos (by omega), if_pos (by omega), Nat.zero_add, Int.toNat_natCast, Int.toNat_natCast, gd hv, gd hv, gd hu, pack hr hdu, e3]
        by_cases hc : 4294967296 * R + dg u n < (q + 1) * dg v n
        · rw [if_pos (by omega), if_pos (by omega), if_pos ⟨hr, hc⟩, wu64' (x := ((q + 1 : Nat) : Int) - 1) (by omega) (by omega), wu64' (x := ((dg v (n + 1) : Nat) : Int)) (by omega) (by omega), wu64' (by omega) (by omega), show ((q + 1 : Nat) : Int) - 1 = (q : Int) by omega]
          rfl
        · rw [if_neg (by omega), if_neg (fun h => hc h.2)]
      · rw [if_neg (by omega), if_neg (fun h => hr h.1)]
    by_cases hc : R < 4294967296 ∧ 4294967296 * R + dg u n < (q + 1) * dg v n
    · rw [if_pos hc] at hst
      have hlt := hQ (q + 1) h0 (by rw [key, hTR]; omega)
      have hqm : q * dg v (n + 1) + dg v (n + 1) = (q + 1) * dg v (n + 1) := by rw [Nat.add_mul, Nat.one_mul]
      obtain ⟨q', g1, g2⟩ := ih (by omega) (by omega) (by omega)
      rw [show T - q * dg v (n + 1) = R + dg v (n + 1) by omega] at g1
      refine ⟨q', (iterL_next ?_).trans g1, g2⟩
      simp only []
      exact hst
    · rw [if_neg hc] at hst
      refine ⟨q + 1, iterL_done hst, h0, hq, ?_⟩
      rw [key, hTR]
      by_cases hr : R < 4294967296
      · have : ¬ 4294967296 * R + dg u n < (q + 1) * dg v n := fun h => hc ⟨hr, h⟩
        omega
      · omega
/-- Multiply and subtract. -/
theorem sub_loop {u v : List Int} (hu : Lim u) (hv : Lim v) {q : Nat} (hq : q < 4294967296) (hl : u.length = v.length + 1) (hb : v.length < 17592186044416) : ∀ (t i : Nat) (a : List Int) (b c : Nat), v.length - i = t → i ≤ v.length → a.length = v.length + 1 → Lim a → b ≤ 1 → c < 4294967296 → a.drop i = u.drop i →
    lv (u.take i) + 4294967296 ^ i * (b + c) = lv (a.take i) + q * lv (v.take i) →
    ∃ (a' : List Int) (b' c' : Nat), iterL (fun x : List Int × Int × Int × Int × Int × Int × Int × List Int × Unit => integer_digit.s1 x.1 x.2.1 x.2.2.1 x.2.2.2.1 x.2.2.2.2.1 x.2.2.2.2.2.1 x.2.2.2.2.2.2.1 x.2.2.2.2.2.2.2.1) (v, (v.length : Int), (q : Int), (b : Int), (c : Int), (v.length : Int), (i : Int), a, ()) = some (v, (v.length : Int), (q : Int), (b' : Int), (c' : Int), a', ()) ∧
      a'.length = v.length + 1 ∧ Lim a' ∧ b' ≤ 1 ∧ c' < 4294967296 ∧ dg a' v.length = dg u v.length ∧ lv (u.take v.length) + 4294967296 ^ v.length * (b' + c') = lv (a'.take v.length) + q * lv v := by
  intro t
  induction t with
  | zero =>
    intro i a b c ht hi hla ha hbb hcc hdr he
    obtain rfl : i = v.length := by omega
    refine ⟨a, b, c, iterL_done ?_, hla, ha, hbb, hcc, ?_, ?_⟩
    · simp only [integer_digit.s1, cite, decide_eq_true_eq]
      rw [if_neg (by omega)]
    · have := congrArg (fun l => dg l 0) hdr
      simpa [dg, List.getD_eq_getElem?_getD] using this
    · rw [he, List.take_of_length_le (show v.length ≤ v.length by omega)]
  | succ t ih =>
    intro i a b c ht hi hla ha hbb hcc hdr he
    have hdu : dg a i = dg u i := by
      have := congrArg (fun l => dg l 0) hdr
      simpa [dg, List.getD_eq_getElem?_getD] using this
    have h1 := dg_lt hu i
    have h2 := dg_lt hv i
    have hm := mul_lt32 hq h2
    obtain ⟨C, hC⟩ : ∃ C, C = c + q * dg v i := ⟨_, rfl⟩
    have hC2 : C / 4294967296 < 4294967296 := by omega
    obtain ⟨d, b', hd, hb', h3⟩ : ∃ d b' : Nat, d < 4294967296 ∧ b' ≤ 1 ∧ dg u i + 4294967296 * b' = d + C % 4294967296 + b := by
      by_cases h : dg u i < C % 4294967296 + b
      · exact ⟨dg u i + 4294967296 - C % 4294967296 - b, 1, by omega, by omega, by omega⟩
      · exact ⟨dg u i - C % 4294967296 - b, 0, by omega, by omega, by omega⟩
    obtain ⟨a', bb, cc, g1, g2⟩ := ih (i + 1) (a.set i (d : Int)) b' (C / 4294967296) (by omega) (by omega) (by simpa using hla) (ha.set i (by omega)) hb' hC2 (by
      rw [List.drop_set_of_lt (by omega)]
      have := congrArg (List.drop 1) hdr
      rw [List.drop_drop, List.drop_drop] at this
      exact this) (by
      rw [take_set _ _ _ (by omega), lv_snoc, lv_take_succ u, lv_take_succ v, Nat.pow_succ, List.length_take, Nat.min_eq_left (by omega)]
      have h4 : 4294967296 ^ i * (dg u i + 4294967296 * (b' + C / 4294967296)) = 4294967296 ^ i * (d + b + c + q * dg v i) := by
        congr 1
        omega
      have h5 := Nat.mul_left_comm (4294967296 ^ i) q (dg v i)
      simp only [Nat.mul_add, Nat.mul_assoc] at h4 he ⊢
      omega)
    refine ⟨a', bb, cc, (iterL_next ?_).trans g1, g2⟩
    simp only [integer_digit.s1, integer_digit.j2, cite, decide_eq_true_eq, inB_t]
    have e1 : IntKind.wrap .u64 ((c : Int) + IntKind.wrap .u64 ((q : Int) * IntKind.wrap .u64 ((dg v i : Nat) : Int))) = (C : Int) := by
      rw [wu64' (x := ((dg v i : Nat) : Int)) (by omega) (by omega), ← Int.natCast_mul, wu64' (x := ((q * dg v i : Nat) : Int)) (by omega) (by omega), wu64' (by omega) (by omega), hC]
      rfl
    have e2 : IntKind.wrap .u64 (IntKind.wrap .u64 (IntKind.wrap .u64 ((dg u i : Nat) : Int) - ((C % 4294967296 : Nat) : Int)) - (b : Int)) = ((d + 18446744069414584320 * b' : Nat) : Int) := by
      rw [wu64, wu64, wu64]
      have : b' = 0 ∨ b' = 1 := by omega
      rcases this with rfl | rfl <;> omega
    have e4 : ((d + 18446744069414584320 * b') / 9223372036854775808 : Nat) = b' := by
      have : b' = 0 ∨ b' = 1 := by omega
      rcases this with rfl | rfl <;> omega
    have e5 : IntKind.wrap .u32 ((d + 18446744069414584320 * b' : Nat) : Int) = (d : Int) := by rw [wu32]; omega
    rw [if_pos (by omega), if_pos (by omega), if_pos (by omega), if_pos (by omega), Int.toNat_natCast, Nat.zero_add, gd hv, gd ha, hdu, e1, and_low C (by omega), e2, top_bit, hi_word, e4, e5, up (by omega)]
/-- Add back. -/
theorem back_loop {v : List Int} (hv : Lim v) (hb : v.length < 17592186044416) (q : Int) (A : List Int) (hA : Lim A) : ∀ (t i : Nat) (a : List Int) (c : Nat), v.length - i = t → i ≤ v.length → a.length = v.length + 1 → Lim a → c ≤ 1 → a.drop i = A.drop i →
    lv (a.take i) + 4294967296 ^ i * c = lv (A.take i) + lv (v.take i) →
    ∃ (a' : List Int) (c' : Nat), iterL (fun x : List Int × Int × Int × Int × Int × Int × List Int × Unit => integer_digit.s2 x.1 x.2.1 x.2.2.1 x.2.2.2.1 x.2.2.2.2.1 x.2.2.2.2.2.1 x.2.2.2.2.2.2.1) (v, (v.length : Int), q, (c : Int), (v.length : Int), (i : Int), a, ()) = some ((v.length : Int), q, (c' : Int), a', ()) ∧
      a'.length = v.length + 1 ∧ Lim a' ∧ c' ≤ 1 ∧ dg a' v.length = dg A v.length ∧ lv (a'.take v.length) + 4294967296 ^ v.length * c' = lv (A.take v.length) + lv v := by
  intro t
  induction t with
  | zero =>
    intro i a c ht hi hla ha hcc hdr he
    obtain rfl : i = v.length := by omega
    refine ⟨a, c, iterL_done ?_, hla, ha, hcc, ?_, ?_⟩
    · simp only [integer_digit.s2, cite, decide_eq_true_eq]
      rw [if_neg (by omega)]
    · have := congrArg (fun l => dg l 0) hdr
      simpa [dg, List.getD_eq_getElem?_getD] using this
    · rw [he, List.take_of_length_le (show v.length ≤ v.length by omega)]
  | succ t ih =>
    intro i a c ht hi hla ha hcc hdr he
    have hdu : dg a i = dg A i := by
      have := congrArg (fun l => dg l 0) hdr
      simpa [dg, List.getD_eq_getElem?_getD] using this
    have h1 := dg_lt ha i
    have h2 := dg_lt hv i
    obtain ⟨C, hC⟩ : ∃ C, C = c + (dg a i + dg v i) := ⟨_, rfl⟩
    obtain ⟨a', cc, g1, g2⟩ := ih (i + 1) (a.set i ((C % 4294967296 : Nat) : Int)) (C / 4294967296) (by omega) (by omega) (by simpa using hla) (ha.set i (by omega)) (by omega) (by
      rw [List.drop_set_of_lt (by omega)]
      have := congrArg (List.drop 1) hdr
      rw [List.drop_drop, List.drop_drop] at this
      exact this) (by
      rw [take_set _ _ _ (by omega), lv_snoc, lv_take_succ A, lv_take_succ v, Nat.pow_succ, List.length_take, Nat.min_eq_left (by omega), ← hdu]
      have h4 : 4294967296 ^ i * (C % 4294967296 + 4294967296 * (C / 4294967296)) = 4294967296 ^ i * (c + (dg a i + dg v i)) := by
        congr 1
        omega
      rw [Nat.mul_add, Nat.mul_add, Nat.mul_add] at h4
      rw [Nat.mul_assoc]
      omega)
    refine ⟨a', cc, (iterL_next ?_).trans g1, g2⟩
    simp only [integer_digit.s2, integer_digit.j4, cite, decide_eq_true_eq, inB_t]
    have e1 : IntKind.wrap .u64 ((c : Int) + IntKind.wrap .u64 (IntKind.wrap .u64 ((dg a i : Nat) : Int) + IntKind.wrap .u64 ((dg v i : Nat) : Int))) = (C : Int) := by
      rw [wu64' (x := ((dg v i : Nat) : Int)) (by omega) (by omega), wu64' (x := ((dg a i : Nat) : Int)) (by omega) (by omega), wu64' (x := ((dg a i : Nat) : Int) + _) (by omega) (by omega), wu64' (by omega) (by omega), hC]
      rfl
    have e5 : IntKind.wrap .u32 (C : Int) = ((C % 4294967296 : Nat) : Int) := by rw [wu32]; omega
    rw [if_pos (by omega), if_pos (by omega), if_pos (by omega), if_pos (by omega), Int.toNat_natCast, Nat.zero_add, gd hv, gd ha, e1, hi_word, e5, up (by omega)]
end Go.Proofs.Ytbchgegclgpdhaa.V
