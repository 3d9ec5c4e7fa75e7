/- Laws of integer: long division in general; greatest common divisors. -/
import Derived.Test.YtbchgegclgpdhaaD2
namespace Go.Proofs.Ytbchgegclgpdhaa.V
open Go Go.Proofs.Ytbchgegclgpdhaa.E Go.Proofs.Ytbchgegclgpdhaa.LI
set_option linter.unusedVariables false
set_option linter.unusedSimpArgs false

theorem mn2_nat (a b : Nat) : mn2 (a : Int) (b : Int) = ((min a b : Nat) : Int) := by unfold mn2; split <;> omega
theorem lv_set_last {l : List Int} {m : Nat} (hl : l.length = m + 1) (x : Nat) : lv (l.set m (x : Int)) = lv (l.take m) + 4294967296 ^ m * x := by
  have e : l.set m (x : Int) = (l.set m (x : Int)).take (m + 1) := by rw [List.take_of_length_le (by rw [List.length_set]; omega)]
  rw [e, take_set _ _ _ (by omega), lv_snoc, List.length_take, Nat.min_eq_left (by omega)]
/-- The arithmetic of an estimate. -/
theorem est_arith {P ul vl Ut Vt T v1 u0 : Nat} (hP : 0 < P) (hul : ul < P) (hvl : vl < P) (hUt : Ut = 4294967296 * T + u0) (hu0 : u0 < 4294967296) (hVt : 4294967296 * v1 ≤ Vt) (hv1 : 0 < v1) :
    (∀ q, q * Vt > Ut → (ul + P * Ut) / (vl + P * Vt) < q) ∧ (ul + P * Ut) / (vl + P * Vt) * v1 ≤ T ∧ (∀ q, q < 4294967296 → q * Vt ≤ Ut → q ≤ (ul + P * Ut) / (vl + P * Vt) + 1) := by
  have hPV : P * 4294967296 ≤ P * Vt := Nat.mul_le_mul_left _ (by omega)
  have hV : 0 < vl + P * Vt := by omega
  refine ⟨fun q hq => ?_, ?_, fun q hqB hq => ?_⟩
  · rw [Nat.div_lt_iff_lt_mul hV, Nat.mul_add]
    have h1 : P * (Ut + 1) ≤ P * (q * Vt) := Nat.mul_le_mul_left _ hq
    rw [Nat.mul_left_comm, Nat.mul_add] at h1
    omega
  · obtain ⟨Q, hQ⟩ : ∃ Q, Q = (ul + P * Ut) / (vl + P * Vt) := ⟨_, rfl⟩
    rw [← hQ]
    have h1 : Q * (vl + P * Vt) ≤ ul + P * Ut := by rw [hQ]; exact Nat.div_mul_le_self _ _
    apply Classical.byContradiction
    intro hc
    have h2 : Q * (P * (4294967296 * v1)) ≤ Q * (P * Vt) := Nat.mul_le_mul_left _ (Nat.mul_le_mul_left _ hVt)
    have h3 : P * (4294967296 * (T + 1)) ≤ P * (4294967296 * (Q * v1)) := Nat.mul_le_mul_left _ (Nat.mul_le_mul_left _ (by omega))
    have h4 : P * (4294967296 * (Q * v1)) = Q * (P * (4294967296 * v1)) := by
      rw [Nat.mul_left_comm 4294967296 Q, Nat.mul_left_comm P Q]
    have h5 : P * (Ut + 1) ≤ P * (4294967296 * (T + 1)) := Nat.mul_le_mul_left _ (by omega)
    rw [Nat.mul_add Q] at h1
    rw [Nat.mul_add P Ut] at h5
    omega
  · obtain ⟨Q, hQ⟩ : ∃ Q, Q = (ul + P * Ut) / (vl + P * Vt) := ⟨_, rfl⟩
    rw [← hQ]
    have h1 : ul + P * Ut < (Q + 1) * (vl + P * Vt) := by
      have := Nat.lt_mul_div_succ (ul + P * Ut) hV
      rw [← hQ] at this
      rw [Nat.mul_comm (Q + 1)]
      exact this
    apply Classical.byContradiction
    intro hc
    have h2 : (Q + 2) * (vl + P * Vt) ≤ q * (vl + P * Vt) := Nat.mul_le_mul_right _ (by omega)
    have h3 : q * vl ≤ 4294967296 * vl := Nat.mul_le_mul_right _ (by omega)
    have h4 : 4294967296 * (vl + 1) ≤ 4294967296 * P := Nat.mul_le_mul_left _ hvl
    have h5 : P * (q * Vt) ≤ P * Ut := Nat.mul_le_mul_left _ hq
    rw [Nat.mul_add q, Nat.mul_left_comm q] at h2
    rw [show (Q + 2) * (vl + P * Vt) = (Q + 1) * (vl + P * Vt) + (vl + P * Vt) by rw [Nat.add_mul, Nat.add_mul]; omega] at h2
    omega
theorem digit_ok {u v : List Int} (hu : Lim u) (hv : Lim v) {n : Nat} (hn : v.length = n + 2) (hul : u.length = n + 3) (hb : n < 1000000000) (hv1 : 2147483648 ≤ dg v (n + 1)) (hlt : lv u < lv v * 4294967296) :
    ∃ r, integer_digit u v = some (((lv u / lv v : Nat) : Int), r) ∧ r.length = n + 3 ∧ Lim r ∧ lv r = lv u % lv v := by
  have d2 := dg_lt hu (n + 2)
  have d1 := dg_lt hu (n + 1)
  have d0 := dg_lt hu n
  have c1 := dg_lt hv (n + 1)
  have c0 := dg_lt hv n
  have hUe : lv u = lv (u.take n) + 4294967296 ^ n * (4294967296 * (4294967296 * dg u (n + 2) + dg u (n + 1)) + dg u n) := by
    have e1 := lv_take_succ u n
    have e2 := lv_take_succ u (n + 1)
    have e3 := lv_take_succ u (n + 2)
    rw [List.take_of_length_le (show u.length ≤ n + 2 + 1 by omega)] at e3
    rw [e3, show u.take (n + 2) = u.take (n + 1 + 1) from rfl, e2, e1, show 4294967296 ^ (n + 2) = 4294967296 ^ n * 4294967296 * 4294967296 by rw [Nat.pow_succ, Nat.pow_succ], Nat.pow_succ]
    simp only [Nat.mul_add, Nat.mul_assoc]
    omega
  have hVe : lv v = lv (v.take n) + 4294967296 ^ n * (4294967296 * dg v (n + 1) + dg v n) := by
    have e1 := lv_take_succ v n
    have e2 := lv_take_succ v (n + 1)
    rw [List.take_of_length_le (show v.length ≤ n + 1 + 1 by omega)] at e2
    rw [e2, e1, Nat.pow_succ]
    simp only [Nat.mul_add, Nat.mul_assoc]
    omega
  obtain ⟨T, hT⟩ : ∃ T, T = 4294967296 * dg u (n + 2) + dg u (n + 1) := ⟨_, rfl⟩
  have hu' := lv_lt (hu.take n)
  have hv' := lv_lt (hv.take n)
  rw [List.length_take, Nat.min_eq_left (by omega)] at hu' hv'
  obtain ⟨A1, A2, A3⟩ := est_arith (P := 4294967296 ^ n) (T := T) (u0 := dg u n) (v1 := dg v (n + 1)) (Vt := 4294967296 * dg v (n + 1) + dg v n) (Nat.pow_pos (by omega)) hu' hv' rfl d0 (by omega) (by omega)
  rw [hT, ← hUe, ← hVe, ← hT] at A2
  rw [hT] at A1 A3
  rw [← hUe, ← hVe] at A1 A3
  rw [← hT] at A1 A3
  have hV0 : 0 < lv v := by
    rw [hVe]
    have := Nat.mul_pos (Nat.pow_pos (n := n) (show 0 < 4294967296 by omega)) (show 0 < 4294967296 * dg v (n + 1) + dg v n by omega)
    omega
  have hQB : lv u / lv v < 4294967296 := by rw [Nat.div_lt_iff_lt_mul hV0, Nat.mul_comm]; exact hlt
  have hdm := Nat.div_add_mod (lv u) (lv v)
  have hml := Nat.mod_lt (lv u) hV0
  have hVlt := lv_lt hv
  have hQ0 : lv u / lv v ≤ min (T / dg v (n + 1)) 4294967295 := by
    have := (Nat.le_div_iff_mul_le (show 0 < dg v (n + 1) by omega)).2 A2
    omega
  obtain ⟨q0, hq0⟩ : ∃ q0, q0 = min (T / dg v (n + 1)) 4294967295 := ⟨_, rfl⟩
  have hq0T : q0 * dg v (n + 1) ≤ T := by
    have h1 : q0 ≤ T / dg v (n + 1) := by omega
    exact Nat.le_trans (Nat.mul_le_mul_right _ h1) (Nat.div_mul_le_self _ _)
  obtain ⟨q, g1, g2, g3, g4⟩ := est_loop hu hv hn hul (T := T) (Q := lv u / lv v) (by omega) hT (by omega) (by omega) (fun q _ h => A1 q h) q0 (by omega) (by omega) hq0T
  have hqQ := A3 q g2 g4
  have hlen : ((v.length : Nat) : Int) = ((n + 2 : Nat) : Int) := by rw [hn]
  obtain ⟨a, b, c, s1, s2, s3, s4, s5, s6, s7⟩ := sub_loop hu hv g2 (by omega) (by omega) _ 0 u 0 0 rfl (by omega) (by omega) hu (by omega) (by omega) rfl (by simp [lv])
  have hU2 : lv u = lv (u.take v.length) + 4294967296 ^ v.length * dg u v.length := by
    have := lv_take_succ u v.length
    rwa [List.take_of_length_le (show u.length ≤ v.length + 1 by omega)] at this
  have hdv := dg_lt hu v.length
  obtain ⟨e, b2, he, hb2, h3⟩ : ∃ e b2 : Nat, e < 4294967296 ∧ b2 ≤ 1 ∧ dg u v.length + 4294967296 * b2 = e + c + b := by
    by_cases h : dg u v.length < c + b
    · exact ⟨dg u v.length + 4294967296 - c - b, 1, by omega, by omega, by omega⟩
    · exact ⟨dg u v.length - c - b, 0, by omega, by omega, by omega⟩
  have hLa : Lim (a.set v.length (e : Int)) := s3.set _ (by omega)
  have hva := lv_set_last s2 e
  have hM : lv u + 4294967296 ^ (v.length + 1) * b2 = lv (a.set v.length (e : Int)) + q * lv v := by
    rw [hva, hU2, Nat.pow_succ]
    have h4 : 4294967296 ^ v.length * (dg u v.length + 4294967296 * b2) = 4294967296 ^ v.length * (e + c + b) := by rw [h3]
    simp only [Nat.mul_add, Nat.mul_assoc] at h4 s7 ⊢
    omega
  have hvl2 := lv_lt hLa
  rw [List.length_set, s2] at hvl2
  have x2 : orI .u64 (shlI .u64 (IntKind.wrap .u64 ((dg u (n + 2) : Nat) : Int)) 32) (IntKind.wrap .u64 ((dg u (n + 1) : Nat) : Int)) = (T : Int) := by
    rw [wu64' (x := ((dg u (n + 2) : Nat) : Int)) (by omega) (by omega), pack d2 d1, hT]
  have x3 : IntKind.wrap .i64 (((n + 2 : Nat) : Int) - 1) = ((n + 1 : Nat) : Int) := by rw [wi64 (by omega) (by omega)]; omega
  have hTd : T / dg v (n + 1) < 18446744073709551616 := Nat.lt_of_le_of_lt (Nat.div_le_self _ _) (by omega)
  have x7 : mn2 (IntKind.wrap .u64 (Int.tdiv (T : Int) ((dg v (n + 1) : Nat) : Int))) 4294967295 = (q0 : Int) := by
    rw [← Int.ofNat_tdiv, wu64' (by omega) (by omega), show (4294967295 : Int) = ((4294967295 : Nat) : Int) from rfl, mn2_nat, hq0]
  have x9 : IntKind.wrap .u64 ((T : Int) - IntKind.wrap .u64 ((q0 : Int) * ((dg v (n + 1) : Nat) : Int))) = ((T - q0 * dg v (n + 1) : Nat) : Int) := by
    rw [← Int.natCast_mul, wu64' (x := ((q0 * dg v (n + 1) : Nat) : Int)) (by omega) (by omega), wu64' (by omega) (by omega)]
    omega
  have run : ∃ r, integer_digit.k0 u v (v.length : Int) (q : Int) u = some (((lv u / lv v : Nat) : Int), r) ∧ r.length = n + 3 ∧ Lim r ∧ lv r = lv u % lv v := by
    unfold integer_digit.k0
    rw [show ((0 : Nat) : Int) = 0 from rfl] at s1
    rw [s1, Option.bind_some]
    simp only [integer_digit.k1, cite, inB_t, beq_iff_eq]
    have e2 : IntKind.wrap .u64 (IntKind.wrap .u64 (IntKind.wrap .u64 ((dg u v.length : Nat) : Int) - (c : Int)) - (b : Int)) = ((e + 18446744069414584320 * b2 : Nat) : Int) := by
      rw [wu64, wu64, wu64]
      have : b2 = 0 ∨ b2 = 1 := by omega
      rcases this with rfl | rfl <;> omega
    have e4 : ((e + 18446744069414584320 * b2) / 9223372036854775808 : Nat) = b2 := by
      have : b2 = 0 ∨ b2 = 1 := by omega
      rcases this with rfl | rfl <;> omega
    have e5 : IntKind.wrap .u32 ((e + 18446744069414584320 * b2 : Nat) : Int) = (e : Int) := by rw [wu32]; omega
    rw [if_pos (by omega), if_pos (by omega), Int.toNat_natCast, Nat.zero_add, gd s3, s6, e2, top_bit, e4, e5]
    by_cases hz : b2 = 0
    · subst hz
      rw [Nat.mul_zero, Nat.add_zero] at hM
      have hqe : q = lv u / lv v := by
        have : q ≤ lv u / lv v := (Nat.le_div_iff_mul_le hV0).2 (by omega)
        omega
      rw [if_pos (show ((0 : Nat) : Int) = 0 from rfl), if_pos (by rw [List.length_set, s2, hul]; simp; omega)]
      refine ⟨_, by rw [wu32' (by omega) (by omega), hqe], by rw [List.length_set]; omega, hLa, ?_⟩
      rw [← hqe, Nat.mul_comm] at hdm
      omega
    · obtain rfl : b2 = 1 := by omega
      rw [Nat.mul_one] at hM
      have hqe : q = lv u / lv v + 1 := by
        have : lv u / lv v < q := by rw [Nat.div_lt_iff_lt_mul hV0]; omega
        omega
      have hqv : q * lv v = lv v * (lv u / lv v) + lv v := by rw [hqe, Nat.add_mul, Nat.one_mul, Nat.mul_comm]
      rw [if_neg (show ¬ ((1 : Nat) : Int) = 0 by decide)]
      obtain ⟨a2, c2, t1, t2, t3, t4, t5, t6⟩ := back_loop hv (by omega) (q : Int) (a.set v.length (e : Int)) hLa _ 0 (a.set v.length (e : Int)) 0 rfl (by omega) (by rw [List.length_set]; omega) hLa (by omega) rfl (by simp [lv])
      unfold integer_digit.j3
      rw [show ((0 : Nat) : Int) = 0 from rfl] at t1
      rw [t1, Option.bind_some]
      simp only [integer_digit.k2, cite, inB_t]
      have hde : dg (a.set v.length (e : Int)) v.length = e := by
        unfold dg
        rw [List.getD_eq_getElem?_getD, List.getElem?_set_self (by omega), Option.getD_some, Int.toNat_natCast]
      have w1 : IntKind.wrap .u32 (((e : Nat) : Int) + IntKind.wrap .u32 (c2 : Int)) = (((e + c2) % 4294967296 : Nat) : Int) := by rw [wu32, wu32]; omega
      rw [if_pos (by omega), if_pos (by omega), Int.toNat_natCast, Nat.zero_add, gd t3, t5, hde, w1, if_pos (by rw [List.length_set, t2, hul]; simp; omega)]
      have hva2 := lv_set_last t2 ((e + c2) % 4294967296)
      have hL3 : Lim (a2.set v.length (((e + c2) % 4294967296 : Nat) : Int)) := t3.set _ (by omega)
      have hvl3 := lv_lt hL3
      rw [List.length_set, t2] at hvl3
      have hq1 : 1 ≤ q := by rw [hqe]; exact Nat.le_add_left _ _
      have hq2 : (q : Int) - 1 = ((lv u / lv v : Nat) : Int) := by rw [hqe, Int.natCast_add]; exact Int.add_sub_cancel _ _
      refine ⟨_, by rw [wu64' (x := (q : Int) - 1) (by omega) (by omega), wu32' (x := (q : Int) - 1) (by omega) (by omega), hq2], by rw [List.length_set]; omega, hL3, ?_⟩
      rw [List.take_set_of_le (Nat.le_refl _)] at t6
      rw [hva] at hM
      rw [hva2] at hvl3 ⊢
      rw [hqv] at hM
      rw [Nat.pow_succ] at hM hvl3
      have h5 : (e + c2) % 4294967296 + 4294967296 * ((e + c2) / 4294967296) = e + c2 := Nat.mod_add_div _ _
      have h6 : 4294967296 ^ v.length * ((e + c2) % 4294967296 + 4294967296 * ((e + c2) / 4294967296)) = 4294967296 ^ v.length * (e + c2) := by rw [h5]
      rw [Nat.mul_add, Nat.mul_add, ← Nat.mul_assoc] at h6
      have h7 : (e + c2) / 4294967296 = 0 ∨ (e + c2) / 4294967296 = 1 := by omega
      rcases h7 with h7 | h7 <;> rw [h7] at h6 <;> omega
  obtain ⟨r, r1, r2⟩ := run
  refine ⟨r, ?_, r2⟩
  unfold integer_digit
  rw [hlen]
  rw [hlen] at r1
  simp only [cite, inB_t, decide_eq_true_eq]
  rw [x3, if_pos (by omega), if_pos (by omega), if_pos (by omega)]
  simp only [Int.toNat_natCast, Nat.zero_add]
  rw [gd hu, gd hu, gd hv, x2, wu64' (x := ((dg v (n + 1) : Nat) : Int)) (by omega) (by omega), if_neg (by omega), x7, if_pos (by omega), x9, g1, Option.bind_some]
  exact r1
end Go.Proofs.Ytbchgegclgpdhaa.V
