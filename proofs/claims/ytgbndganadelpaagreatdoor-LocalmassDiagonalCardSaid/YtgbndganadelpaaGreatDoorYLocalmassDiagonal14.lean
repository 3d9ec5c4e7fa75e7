/- Laws of integer: long division in general; greatest common divisors. -/
import Derived.Test.YtgbndganadelpaaGreatDoorYLocalmassDiagonal13
namespace Go.Proofs.YtgbndganadelpaaGreatDoor.V
open Go Go.Proofs.YtgbndganadelpaaGreatDoor.E Go.Proofs.YtgbndganadelpaaGreatDoor.LI
set_option linter.unusedVariables false
set_option linter.unusedSimpArgs false
theorem mn2_nat (a b : Nat) : mn2 (a : Int) (b : Int) = ((min a b : Nat) : Int) := by unfold mn2; split <;> omega
theorem lv_set_last {l : List Int} {m : Nat} (hl : l.length = m + 1) (x : Nat) : lv (l.set m (x : Int)) = lv (l.take m) + 4294967296 ^ m * x := by
  have e : l.set m (x : Int) = (l.set m (x : Int)).take (m + 1) := by rw [List.take_of_length_le (by rw [List.length_set]; omega)]
  rw [e, take_set _ _ _ (by omega), lv_snoc, List.length_take, Nat.min_eq_left (by omega)]
/-- The arithmetic of an estimate. -/
theorem est_arith {P ul vl Ut Vt T v1 u0 : Nat} (hP : 0 < P) (hul : ul < P) (hvl : vl < P) (hUt : Ut = 4294967296 * T + u0) (hu0 : u0 < 4294967296) (hVt : 4294967296 * v1 ≤ Vt) (hv1 : 0 < v1) :
    (∀ q, q * Vt > Ut → (ul + P * Ut) / (vl + P * Vt) < q) ∧ (ul + P * Ut) / (vl + P * Vt) * v1 ≤ T ∧ (∀ q, q < 4294967296 → q * Vt ≤ Ut → q ≤ (ul + P * Ut) / (vl + P * Vt) + 1) := by
  have hPV : P * 4294967296 ≤ P * Vt := Nat.mul_le_mul_left _ (by omega)
  have hV : 0 < vl + P * Vt := by omega
  refine ⟨fun q hq => ?_, ?_, fun q hqB hq => ?_⟩
  · rw [Nat.div_lt_iff_lt_mul hV, Nat.mul_add]
    have h1 : P * (Ut + 1) ≤ P * (q * Vt) := Nat.mul_le_mul_left _ hq
    rw [Nat.mul_left_comm, Nat.mul_add] at h1
    omega
  · obtain ⟨Q, hQ⟩ : ∃ Q, Q = (ul + P * Ut) / (vl + P * Vt) := ⟨_, rfl⟩
    rw [← hQ]
    have h1 : Q * (vl + P * Vt) ≤ ul + P * Ut := by rw [hQ]; exact Nat.div_mul_le_self _ _
    apply Classical.byContradiction
    intro hc
    have h2 : Q * (P * (4294967296 * v1)) ≤ Q * (P * Vt) := Nat.mul_le_mul_left _ (Nat.mul_le_mul_left _ hVt)
    have h3 : P * (4294967296 * (T + 1)) ≤ P * (4294967296 * (Q * v1)) := Nat.mul_le_mul_left _ (Nat.mul_le_mul_left _ (by omega))
    have h4 : P * (4294967296 * (Q * v1)) = Q * (P * (4294967296 * v1)) := by
      rw [Nat.mul_left_comm 4294967296 Q, Nat.mul_left_comm P Q]
    have h5 : P * (Ut + 1) ≤ P * (4294967296 * (T + 1)) := Nat.mul_le_mul_left _ (by omega)
    rw [Nat.mul_add Q] at h1
    rw [Nat.mul_add P Ut] at h5
    omega
  · obtain ⟨Q, hQ⟩ : ∃ Q, Q = (ul + P * Ut) / (vl + P * Vt) := ⟨_, rfl⟩
    rw [← hQ]
    have h1 : ul + P * Ut < (Q + 1) * (vl + P * Vt) := by
      have := Nat.lt_mul_div_succ (ul + P * Ut) hV
      rw [← hQ] at this
      rw [Nat.mul_comm (Q + 1)]
      exact this
    apply Classical.byContradiction
    intro hc
    have h2 : (Q + 2) * (vl + P * Vt) ≤ q * (vl + P * Vt) := Nat.mul_le_mul_right _ (by omega)
    have h3 : q * vl ≤ 4294967296 * vl := Nat.mul_le_mul_right _ (by omega)
    have h4 : 4294967296 * (vl + 1) ≤ 4294967296 * P := Nat.mul_le_mul_left _ hvl
    have h5 : P * (q * Vt) ≤ P * Ut := Nat.mul_le_mul_left _ hq
    rw [Nat.mul_add q, Nat.mul_left_comm q] at h2
    rw [show (Q + 2) * (vl + P * Vt) = (Q + 1) * (vl + P * Vt) + (vl + P * Vt) by rw [Nat.add_mul, Nat.add_mul]; omega] at h2
    omega
theorem digit_ok {u v : List Int} (hu : Lim u) (hv : Lim v) {n : Nat} (hn : v.length = n + 2) (hul : u.length = n + 3) (hb : n < 1000000000) (hv1 : 2147483648 ≤ dg v (n + 1)) (hlt : lv u < lv v * 4294967296) :
    ∃ r, integer_digit u v = some (((lv u / lv v : Nat) : Int), r) ∧ r.length = n + 3 ∧ Lim r ∧ lv r = lv u % lv v := by
  have d2 := dg_lt hu (n + 2)
  have d1 := dg_lt hu (n + 1)
  have d0 := dg_lt hu n
  have c1 := dg_lt hv (n + 1)
  have c0 := dg_lt hv n
  have hUe : lv u = lv (u.take n) + 4294967296 ^ n * (4294967296 * (4294967296 * dg u (n + 2) + dg u (n + 1)) + dg u n) := by
    have e1 := lv_take_succ u n
    have e2 := lv_take_succ u (n + 1)
    have e3 := lv_take_succ u (n + 2)
    rw [List.take_of_length_le (show u.length ≤ n + 2 + 1 by omega)] at e3
    rw [e3, show u.take (n + 2) = u.take (n + 1 + 1) from rfl, e2, e1, show 4294967296 ^ (n + 2) = 4294967296 ^ n * 4294967296 * 4294967296 by rw [Nat.pow_succ, Nat.pow_succ], Nat.pow_succ]
    simp only [Nat.mul_add, Nat.mul_assoc]
    omega
  have hVe : lv v = lv (v.take n) + 4294967296 ^ n * (4294967296 * dg v (n + 1) + dg v n) := by
    have e1 := lv_take_succ v n
    have e2 := lv_take_succ v (n + 1)
    rw [List.take_of_length_le (show v.length ≤ n + 1 + 1 by omega)] at e2
    rw [e2, e1, Nat.pow_succ]
    simp only [Nat.mul_add, Nat.mul_assoc]
    omega
  obtain ⟨T, hT⟩ : ∃ T, T = 4294967296 * dg u (n + 2) + dg u (n + 1) := ⟨_, rfl⟩
  have hu' := lv_lt (hu.take n)
  have hv' := lv_lt (hv.take n)
  rw [List.length_take, Nat.min_eq_left (by omega)] at hu' hv'
  obtain ⟨A1, A2, A3⟩ := est_arith (P := 4294967296 ^ n) (T := T) (u0 := dg u n) (v1 := dg v (n + 1)) (Vt := 4294967296 * dg v (n + 1) + dg v n) (Nat.pow_pos (by omega)) hu' hv' rfl d0 (by omega) (by omega)
  rw [hT, ← hUe, ← hVe, ← hT] at A2
  rw [hT] at A1 A3
  rw [← hUe, ← hVe] at A1 A3
  rw [← hT] at A1 A3
  have hV0 : 0 < lv v := by
    rw [hVe]
    have := Nat.mul_pos (Nat.pow_pos (n := n) (show 0 < 4294967296 by omega)) (show 0 < 4294967296 * dg v (n + 1) + dg v n by omega)
    omega
  have hQB : lv u / lv v < 4294967296 := by rw [Nat.div_lt_iff_lt_mul hV0, Nat.mul_comm]; exact hlt
  have hdm := Nat.div_add_mod (lv u) (lv v)
  have hml := Nat.mod_lt (lv u) hV0
  have hVlt := lv_lt hv
  have hQ0 : lv u / lv v ≤ min (T / dg v (n + 1)) 4294967295 := by
    have := (Nat.le_div_iff_mul_le (show 0 < dg v (n + 1) by omega)).2 A2
    omega
  obtain ⟨q0, hq0⟩ : ∃ q0, q0 = min (T / dg v (n + 1)) 4294967295 := ⟨_, rfl⟩
  have hq0T : q0 * dg v (n + 1) ≤ T := by
    have h1 : q0 ≤ T / dg v (n + 1) := by omega
    exact Nat.le_trans (Nat.mul_le_mul_right _ h1) (Nat.div_mul_le_self _ _)
  obtain ⟨q, g1, g2, g3, g4⟩ := est_loop hu hv hn hul (T := T) (Q := lv u / lv v) (by omega) hT (by omega) (by omega) (fun q _ h => A1 q h) q0 (by omega) (by omega) hq0T
  have hqQ := A3 q g2 g4
  have hlen : ((v.length : Nat) : Int) = ((n + 2 : Nat) : Int) := by rw [hn]
  obtain ⟨a, b, c, s1, s2, s3, s4, s5, s6, s7⟩ := sub_loop hu hv g2 (by omega) (by omega) _ 0 u 0 0 rfl (by omega) (by omega) hu (by omega) (by omega) rfl (by simp [lv])
  have hU2 : lv u = lv (u.take v.length) + 4294967296 ^ v.length * dg u v.length := by
    have := lv_take_succ u v.length
    rwa [List.take_of_length_le (show u.length ≤ v.length + 1 by omega)] at this
  have hdv := dg_lt hu v.length
  obtain ⟨e, b2, he, hb2, h3⟩ : ∃ e b2 : Nat, e < 4294967296 ∧ b2 ≤ 1 ∧ dg u v.length + 4294967296 * b2 = e + c + b := by
    by_cases h : dg u v.length < c + b
    · exact ⟨dg u v.length + 4294967296 - c - b, 1, by omega, by omega, by omega⟩
    · exact ⟨dg u v.length - c - b, 0, by omega, by omega, by omega⟩
  have hLa : Lim (a.set v.length (e : Int)) := s3.set _ (by omega)
  have hva := lv_set_last s2 e
  have hM : lv u + 4294967296 ^ (v.length + 1) * b2 = lv (a.set v.length (e : Int)) + q * lv v := by
    rw [hva, hU2, Nat.pow_succ]
    have h4 : 4294967296 ^ v.length * (dg u v.length + 4294967296 * b2) = 4294967296 ^ v.length * (e + c + b) := by rw [h3]
    simp only [Nat.mul_add, Nat.mul_assoc] at h4 s7 ⊢
    omega
  have hvl2 := lv_lt hLa
  rw [List.length_set, s2] at hvl2
  have x2 : orI .u64 (shlI .u64 (IntKind.wrap .u64 ((dg u (n + 2) : Nat) : Int)) 32) (IntKind.wrap .u64 ((dg u (n + 1) : Nat) : Int)) = (T : Int) := by
    rw [wu64' (x := ((dg u (n + 2) : Nat) : Int)) (by omega) (by omega), pack d2 d1, hT]
  have x3 : IntKind.wrap .i64 (((n + 2 : Nat) : Int) - 1) = ((n + 1 : Nat) : Int) := by rw [wi64 (by omega) (by omega)]; omega
  have hTd : T / dg v (n + 1) < 18446744073709551616 := Nat.lt_of_le_of_lt (Nat.div_le_self _ _) (by omega)
  have x7 : mn2 (IntKind.wrap .u64 (Int.tdiv (T : Int) ((dg v (n + 1) : Nat) : Int))) 4294967295 = (q0 : Int) := by
    rw [← Int.ofNat_tdiv, wu64' (by omega) (by omega), show (4294967295 : Int) = ((4294967295 : Nat) : Int) from rfl, mn2_nat, hq0]
  have x9 : IntKind.wrap .u64 ((T : Int) - IntKind.wrap .u64 ((q0 : Int) * ((dg v (n + 1) : Nat) : Int))) = ((T - q0 * dg v (n + 1) : Nat) : Int) := by
    rw [← Int.natCast_mul, wu64' (x := ((q0 * dg v (n + 1) : Nat) : Int)) (by omega) (by omega), wu64' (by omega) (by omega)]
    omega
  have run : ∃ r, integer_digit.k0 u v (v.length : Int) (q : Int) u = some (((lv u / lv v : Nat) : Int), r) ∧ r.length = n + 3 ∧ Lim r ∧ lv r = lv u % lv v := by
    unfold integer_digit.k0
    rw [show ((0 : Nat) : Int) = 0 from rfl] at s1
    rw [s1, Option.bind_some]
    simp only [integer_digit.k1, cite, inB_t, beq_iff_eq]
    have e2 : IntKind.wrap .u64 (IntKind.wrap .u64 (IntKind.wrap .u64 ((dg u v.length : Nat) : Int) - (c : Int)) - (b : Int)) = ((e + 18446744069414584320 * b2 : Nat) : Int) := by
      rw [wu64, wu64, wu64]
      have : b2 = 0 ∨ b2 = 1 := by omega
      rcases this with rfl | rfl <;> omega
    have e4 : ((e + 18446744069414584320 * b2) / 9223372036854775808 : Nat) = b2 := by
      have : b2 = 0 ∨ b2 = 1 := by omega
      rcases this with rfl | rfl <;> omega
    have e5 : IntKind.wrap .u32 ((e + 18446744069414584320 * b2 : Nat) : Int) = (e : Int) := by rw [wu32]; omega
    rw [if_pos (by omega), if_pos (by omega), Int.toNat_natCast, Nat.zero_add, gd s3, s6, e2, top_bit, e4, e5]
    by_cases hz : b2 = 0
    · subst hz
      rw [Nat.mul_zero, Nat.add_zero] at hM
      have hqe : q = lv u / lv v := by
        have : q ≤ lv u / lv v := (Nat.le_div_iff_mul_le hV0).2 (by omega)
        omega
      rw [if_pos (show ((0 : Nat) : Int) = 0 from rfl), if_pos (by rw [List.length_set, s2, hul]; simp; omega)]
      refine ⟨_, by rw [wu32' (by omega) (by omega), hqe], by rw [List.length_set]; omega, hLa, ?_⟩
      rw [← hqe, Nat.mul_comm] at hdm
      omega
    · obtain rfl : b2 = 1 := by omega
      rw [Nat.mul_one] at hM
      have hqe : q = lv u / lv v + 1 := by
        have : lv u / lv v < q := by rw [Nat.div_lt_iff_lt_mul hV0]; omega
        omega
      have hqv : q * lv v = lv v * (lv u / lv v) + lv v := by rw [hqe, Nat.add_mul, Nat.one_mul, Nat.mul_comm]
      rw [if_neg (show ¬ ((1 : Nat) : Int) = 0 by decide)]
      obtain ⟨a2, c2, t1, t2, t3, t4, t5, t6⟩ := back_loop hv (by omega) (q : Int) (a.set v.length (e : Int)) hLa _ 0 (a.set v.length (e : Int)) 0 rfl (by omega) (by rw [List.length_set]; omega) hLa (by omega) rfl (by simp [lv])
      unfold integer_digit.j3
      rw [show ((0 : Nat) : Int) = 0 from rfl] at t1
      rw [t1, Option.bind_some]
      simp only [integer_digit.k2, cite, inB_t]
      have hde : dg (a.set v.length (e : Int)) v.length = e := by
        unfold dg
        rw [List.getD_eq_getElem?_getD, List.getElem?_set_self (by omega), Option.getD_some, Int.toNat_natCast]
      have w1 : IntKind.wrap .u32 (((e : Nat) : Int) + IntKind.wrap .u32 (c2 : Int)) = (((e + c2) % 4294967296 : Nat) : Int) := by rw [wu32, wu32]; omega
      rw [if_pos (by omega), if_pos (by omega), Int.toNat_natCast, Nat.zero_add, gd t3, t5, hde, w1, if_pos (by rw [List.length_set, t2, hul]; simp; omega)]
      have hva2 := lv_set_last t2 ((e + c2) % 4294967296)
      have hL3 : Lim (a2.set v.length (((e + c2) % 4294967296 : Nat) : Int)) := t3.set _ (by omega)
      have hvl3 := lv_lt hL3
      rw [List.length_set, t2] at hvl3
      have hq1 : 1 ≤ q := by rw [hqe]; exact Nat.le_add_left _ _
      have hq2 : (q : Int) - 1 = ((lv u / lv v : Nat) : Int) := by rw [hqe, Int.natCast_add]; exact Int.add_sub_cancel _ _
      refine ⟨_, by rw [wu64' (x := (q : Int) - 1) (by omega) (by omega), wu32' (x := (q : Int) - 1) (by omega) (by omega), hq2], by rw [List.length_set]; omega, hL3, ?_⟩
      rw [List.take_set_of_le (Nat.le_refl _)] at t6
      rw [hva] at hM
      rw [hva2] at hvl3 ⊢
      rw [hqv] at hM
      rw [Nat.pow_succ] at hM hvl3
      have h5 : (e + c2) % 4294967296 + 4294967296 * ((e + c2) / 4294967296) = e + c2 := Nat.mod_add_div _ _
      have h6 : 4294967296 ^ v.length * ((e + c2) % 4294967296 + 4294967296 * ((e + c2) / 4294967296)) = 4294967296 ^ v.length * (e + c2) := by rw [h5]
      rw [Nat.mul_add, Nat.mul_add, ← Nat.mul_assoc] at h6
      have h7 : (e + c2) / 4294967296 = 0 ∨ (e + c2) / 4294967296 = 1 := by omega
      rcases h7 with h7 | h7 <;> rw [h7] at h6 <;> omega
  obtain ⟨r, r1, r2⟩ := run
  refine ⟨r, ?_, r2⟩
  unfold integer_digit
  rw [hlen]
  rw [hlen] at r1
  simp only [cite, inB_t, decide_eq_true_eq]
  rw [x3, if_pos (by omega), if_pos (by omega), if_pos (by omega)]
  simp only [Int.toNat_natCast, Nat.zero_add]
  rw [gd hu, gd hu, gd hv, x2, wu64' (x := ((dg v (n + 1) : Nat) : Int)) (by omega) (by omega), if_neg (by omega), x7, if_pos (by omega), x9, g1, Option.bind_some]
  exact r1
end Go.Proofs.YtgbndganadelpaaGreatDoor.V
/- Laws of integer: long division in general; greatest common divisors. -/
namespace Go.Proofs.YtgbndganadelpaaGreatDoor.V
open Go Go.Proofs.YtgbndganadelpaaGreatDoor.E Go.Proofs.YtgbndganadelpaaGreatDoor.LI
set_option linter.unusedVariables false
set_option linter.unusedSimpArgs false
theorem lv_high {l : List Int} {k : Nat} (h : lv l < 4294967296 ^ k) : lv (l.drop k) = 0 ∧ lv (l.take k) = lv l := by
  by_cases hk : k ≤ l.length
  · have h1 := lv_split l k hk
    have h2 : lv (l.drop k) = 0 := by
      rcases Nat.eq_zero_or_pos (lv (l.drop k)) with h3 | h3
      · exact h3
      · have := Nat.mul_le_mul_left (4294967296 ^ k) (show 1 ≤ lv (l.drop k) from h3)
        omega
    rw [h2] at h1
    exact ⟨h2, by omega⟩
  · rw [List.drop_eq_nil_of_le (by omega), List.take_of_length_le (by omega)]
    exact ⟨rfl, rfl⟩
theorem div_loop {v : List Int} (hv : Lim v) {n : Nat} (hn : v.length = n + 2) (hv1 : 2147483648 ≤ dg v (n + 1)) (t1 : List Int) (ht1 : t1.length = n + 2) (t8 : Int) {K : Nat} (hb : K + n + 2 < 1000000000) (U0 : Nat) : ∀ (i : Nat) (u q : List Int), i ≤ K → u.length = K + n + 2 → q.length = K → Lim u → Lim q → lv (u.drop i) < lv v → U0 = lv u + lv v * (4294967296 ^ i * lv (q.drop i)) →
    ∃ (u' q' : List Int), iterL (fun x : List Int × Int × List Int × Int × List Int × List Int × Unit => integer_divide.s0 x.1 x.2.1 x.2.2.1 x.2.2.2.1 x.2.2.2.2.1 x.2.2.2.2.2.1) (t1, t8, v, (i : Int) - 1, u, q, ()) = some (t1, t8, u', q', ()) ∧
      u'.length = K + n + 2 ∧ q'.length = K ∧ Lim u' ∧ Lim q' ∧ lv u' < lv v ∧ U0 = lv u' + lv v * lv q' := by
  intro i
  induction i with
  | zero =>
    intro u q _ hu1 hq1 hu hq hlt he
    refine ⟨u, q, iterL_done ?_, hu1, hq1, hu, hq, by simpa using hlt, by simpa using he⟩
    simp only [integer_divide.s0, cite, decide_eq_true_eq]
    rw [if_neg (by omega)]
  | succ i ih =>
    intro u q hi hu1 hq1 hu hq hlt he
    have hdi := dg_lt hu i
    have hd := drop_dg (l := u) (i := i) (by omega)
    have hVlt := lv_lt hv
    rw [hn] at hVlt
    have hWlt : lv (u.drop i) < lv v * 4294967296 := by
      have := Nat.mul_le_mul_left 4294967296 (show lv (u.drop (i + 1)) + 1 ≤ lv v from hlt)
      omega
    have hhi := lv_high (l := u.drop i) (k := n + 3) (by
      have : 4294967296 ^ (n + 3) = 4294967296 ^ (n + 2) * 4294967296 := Nat.pow_succ _ _
      omega)
    have hwl : ((u.drop i).take (n + 3)).length = n + 3 := by rw [List.length_take, List.length_drop]; omega
    obtain ⟨r, r1, r2, r3, r4⟩ := digit_ok ((hu.drop i).take (n + 3)) hv hn hwl (by omega) hv1 (by rw [hhi.2]; exact hWlt)
    rw [hhi.2] at r1 r4
    have hV0 : 0 < lv v := by omega
    have hQlt : lv (u.drop i) / lv v < 4294967296 := by rw [Nat.div_lt_iff_lt_mul hV0, Nat.mul_comm]; exact hWlt
    have hdm := Nat.div_add_mod (lv (u.drop i)) (lv v)
    have hml := Nat.mod_lt (lv (u.drop i)) hV0
    have hh0 : lv (u.drop (i + (n + 3))) = 0 := by rw [← List.drop_drop]; exact hhi.1
    obtain ⟨Q, hQ⟩ : ∃ Q, Q = lv (u.drop i) / lv v := ⟨_, rfl⟩
    rw [← hQ] at r1 hQlt hdm
    obtain ⟨u1, hu1e⟩ : ∃ u1, u1 = u.take i ++ r ++ u.drop (i + (n + 3)) := ⟨_, rfl⟩
    have htl : (u.take i).length = i := by rw [List.length_take]; omega
    have hL1 : Lim u1 := by rw [hu1e]; exact ((hu.take i).append r3).append (hu.drop _)
    have hlen1 : u1.length = K + n + 2 := by rw [hu1e, List.length_append, List.length_append, htl, r2, List.length_drop]; omega
    have hdrop1 : lv (u1.drop i) = lv r := by
      rw [hu1e, List.append_assoc, List.drop_append_of_le_length (by omega), List.drop_eq_nil_of_le (by omega), List.nil_append, lv_append, hh0, Nat.mul_zero, Nat.add_zero]
    have htake1 : u1.take i = u.take i := by rw [hu1e, List.append_assoc, List.take_append_of_le_length (by omega), List.take_of_length_le (by omega)]
    have hs := lv_split u i (by omega)
    have hs1 := lv_split u1 i (by omega)
    rw [hdrop1, htake1] at hs1
    obtain ⟨u', q', g1, g2⟩ := ih u1 (q.set i (Q : Int)) (by omega) hlen1 (by simpa using hq1) hL1 (hq.set _ (by omega)) (by rw [hdrop1, r4]; exact hml) (by
      rw [drop_set q i _ (by omega), lv_cons, hs1, he, hs, ← hdm, r4, Nat.pow_succ]
      have e1 : lv v * (4294967296 ^ i * Q) = 4294967296 ^ i * (lv v * Q) := Nat.mul_left_comm _ _ _
      simp only [Nat.mul_add, Nat.mul_assoc] at e1 ⊢
      omega)
    refine ⟨u', q', (iterL_next ?_).trans g1, g2⟩
    simp only [integer_divide.s0, integer_divide.j3, cite, decide_eq_true_eq, inB_t, inC_t, Bool.and_eq_true]
    have w1 : IntKind.wrap .i64 (((i + 1 : Nat) : Int) - 1 + ((t1.length : Nat) : Int)) = ((i + (n + 2) : Nat) : Int) := by rw [wi64 (by omega) (by omega)]; omega
    have w2 : IntKind.wrap .i64 (((i + (n + 2) : Nat) : Int) + 1) = ((i + (n + 3) : Nat) : Int) := by rw [wi64 (by omega) (by omega)]; omega
    have w3 : ((i + 1 : Nat) : Int) - 1 = (i : Int) := by omega
    rw [w1, w2, w3, if_pos (by omega), if_pos (by omega), if_pos (by omega)]
    simp only [Int.toNat_natCast, Nat.zero_add]
    rw [show i + (n + 3) - i = n + 3 by omega, r1, Option.bind_some, if_pos (by omega), wi64 (by omega) (by omega), hwl, hu1e]
theorem len_ge {a b : Nat} (h : a ≤ b) : (limbs a).length ≤ (limbs b).length := limbs_len.2 (Nat.lt_of_le_of_lt h (limbs_len.1 (Nat.le_refl _)))
theorem divide_ok {M N : Nat} (hM : (limbs M).length < 33554432) (hN : 0 < N) : integer_divide (limbs M) (limbs N) = some (limbs (M / N), limbs (M % N), ()) := by
  by_cases hlt : M < N
  · exact divide_small (by omega) hlt
  by_cases h1 : N < 4294967296
  · exact divide_one (by omega) hN h1
  have hge : N ≤ M := by omega
  have hln : (limbs N).length ≤ (limbs M).length := len_ge hge
  obtain ⟨n, hn⟩ : ∃ n, (limbs N).length = n + 2 := by
    have : ¬ (limbs N).length ≤ 1 := fun h => by have := limbs_len.1 h; omega
    exact ⟨(limbs N).length - 2, by omega⟩
  obtain ⟨K, hK⟩ : ∃ K, (limbs M).length + 1 = K + n + 2 := ⟨(limbs M).length - (n + 1), by omega⟩
  have hLN := lim_limbs N
  have hLM := lim_limbs M
  have htop : 0 < dg (limbs N) (n + 1) := by
    rcases Nat.eq_zero_or_pos (dg (limbs N) (n + 1)) with h | h
    · exfalso
      have e := lv_take_succ (limbs N) (n + 1)
      rw [List.take_of_length_le (by omega), h, Nat.mul_zero, Nat.add_zero] at e
      have h2 := lv_lt (hLN.take (n + 1))
      rw [← e, List.length_take, Nat.min_eq_left (by omega), lv_limbs] at h2
      have := limbs_len.2 h2
      omega
    · exact h
  have htlt := dg_lt hLN (n + 1)
  obtain ⟨s, hs, hz, hs1, hs2⟩ := lz32 htop htlt
  have h2s : 0 < 2 ^ s := Nat.two_pow_pos s
  obtain ⟨u, u1, u2, u3, u4⟩ := shift_ok hLM hs (by omega)
  obtain ⟨w, w1, w2, w3, w4⟩ := shift_ok hLN hs (by omega)
  rw [lv_limbs] at u4 w4
  have hNtop : N = lv ((limbs N).take (n + 1)) + 4294967296 ^ (n + 1) * dg (limbs N) (n + 1) := by
    have e := lv_take_succ (limbs N) (n + 1)
    rwa [List.take_of_length_le (by omega), lv_limbs] at e
  have hNl := lv_lt (hLN.take (n + 1))
  rw [List.length_take, Nat.min_eq_left (by omega)] at hNl
  obtain ⟨P, hP⟩ : ∃ P, P = 4294967296 ^ (n + 1) := ⟨_, rfl⟩
  have hPp : 0 < P := by rw [hP]; exact Nat.pow_pos (by omega)
  rw [← hP] at hNtop hNl
  obtain ⟨g, hg⟩ : ∃ g, g = dg (limbs N) (n + 1) := ⟨_, rfl⟩
  rw [← hg] at hs1 hs2 htop htlt hNtop
  -- the shifted divisor
  have hVlo : P * 2147483648 ≤ 2 ^ s * N := by
    have a1 := Nat.mul_le_mul_left P hs1
    have a2 : 2 ^ s * (P * g) ≤ 2 ^ s * N := Nat.mul_le_mul_left _ (by omega)
    have a3 : 2 ^ s * (P * g) = P * (g * 2 ^ s) := by rw [Nat.mul_left_comm, Nat.mul_comm g]
    omega
  have hVhi : 2 ^ s * N < 4294967296 ^ (n + 2) := by
    have a1 : 2 ^ s * N < 2 ^ s * (P * (g + 1)) := Nat.mul_lt_mul_of_pos_left (by rw [Nat.mul_add]; omega) h2s
    obtain ⟨c, hc, hc0⟩ := two32 s hs
    have a2 : g + 1 ≤ c := by
      apply Classical.byContradiction
      intro h
      have := Nat.mul_le_mul_right (2 ^ s) (show c ≤ g by omega)
      rw [Nat.mul_comm c, hc] at this
      omega
    have a3 : 2 ^ s * (P * (g + 1)) ≤ 2 ^ s * (P * c) := Nat.mul_le_mul_left _ (Nat.mul_le_mul_left _ a2)
    have a4 : 2 ^ s * (P * c) = P * 4294967296 := by rw [Nat.mul_left_comm, hc]
    rw [show n + 2 = n + 1 + 1 from rfl, Nat.pow_succ, ← hP]
    omega
  have hv := lv_high (l := w) (k := n + 2) (by rw [w4]; exact hVhi)
  obtain ⟨v, hve⟩ : ∃ v, v = w.take (n + 2) := ⟨_, rfl⟩
  have hvL : Lim v := by rw [hve]; exact w3.take _
  have hvl : v.length = n + 2 := by rw [hve, List.length_take]; omega
  have hvv : lv v = 2 ^ s * N := by rw [hve, hv.2, w4]
  have hv1 : 2147483648 ≤ dg v (n + 1) := by
    have e := lv_take_succ v (n + 1)
    rw [List.take_of_length_le (by omega), ← hP] at e
    have h2 := lv_lt (hvL.take (n + 1))
    rw [List.length_take, Nat.min_eq_left (by omega), ← hP] at h2
    apply Classical.byContradiction
    intro h
    have := Nat.mul_le_mul_left P (show dg v (n + 1) + 1 ≤ 2147483648 by omega)
    rw [Nat.mul_add] at this
    omega
  have hul : lv (u.drop K) < lv v := by
    have e := lv_split u K (by omega)
    have hm := limbs_len.1 (Nat.le_refl (limbs M).length)
    rw [show (limbs M).length = K + (n + 1) by omega, Nat.pow_add, ← hP] at hm
    rw [u4] at e
    rw [hvv]
    apply Classical.byContradiction
    intro h
    have b1 := Nat.mul_le_mul_left (4294967296 ^ K) (show P * 2147483648 ≤ lv (u.drop K) by omega)
    have b2 : 2 ^ s * M < 2 ^ s * (4294967296 ^ K * P) := Nat.mul_lt_mul_of_pos_left hm h2s
    have b3 : 2 ^ s * (4294967296 ^ K * P) ≤ 2147483648 * (4294967296 ^ K * P) := Nat.mul_le_mul_right _ (by
      have := Nat.pow_le_pow_right (show 2 > 0 by omega) (show s ≤ 31 by omega)
      omega)
    have b4 : 4294967296 ^ K * (P * 2147483648) = 2147483648 * (4294967296 ^ K * P) := by rw [Nat.mul_comm 2147483648, Nat.mul_assoc]
    omega
  obtain ⟨u', q', g1, g2, g3, g4, g5, g6, g7⟩ := div_loop hvL hvl hv1 (limbs N) hn (s : Int) (K := K) (by omega) (lv u) K u (List.replicate K 0) (Nat.le_refl _) (by omega) (by simp) u3 (Lim.replicate _) hul (by
    rw [List.drop_eq_nil_of_le (by simp)]; simp [lv])
  rw [u4, hvv] at g7
  rw [hvv] at g6
  have hq : lv q' = M / N ∧ lv u' / 2 ^ s = M % N := by
    have hNs : 0 < 2 ^ s * N := Nat.mul_pos h2s hN
    have e1 : lv q' = 2 ^ s * M / (2 ^ s * N) := by
      rw [g7, Nat.add_mul_div_left _ _ hNs, Nat.div_eq_of_lt g6, Nat.zero_add]
    have e2 : lv u' = 2 ^ s * M % (2 ^ s * N) := by
      rw [g7, Nat.add_mul_mod_self_left, Nat.mod_eq_of_lt g6]
    rw [Nat.mul_div_mul_left _ _ h2s] at e1
    rw [Nat.mul_mod_mul_left] at e2
    exact ⟨e1, by rw [e2, Nat.mul_div_cancel_left _ h2s]⟩
  have hu' := lv_high (l := u') (k := n + 2) (by omega)
  unfold integer_divide
  rw [compare_ok (by omega), Option.bind_some]
  have hc : ¬ cm (M : Int) (N : Int) < 0 := by unfold cm; split <;> (try split) <;> omega
  simp only [integer_divide.j1, integer_divide.j2, cite, decide_eq_true_eq, inB_t, inC_t, beq_iff_eq, maxL_eq]
  have x1 : IntKind.wrap .i64 (((limbs N).length : Int) - 1) = ((n + 1 : Nat) : Int) := by rw [wi64 (by omega) (by omega)]; omega
  have x2 : IntKind.wrap .u64 (s : Int) = (s : Int) := wu64' (by omega) (by omega)
  have x3 : IntKind.wrap .i64 (IntKind.wrap .i64 (((limbs M).length : Int) - ((limbs N).length : Int)) + 1) = (K : Int) := by rw [wi64 (x := ((limbs M).length : Int) - ((limbs N).length : Int)) (by omega) (by omega), wi64 (by omega) (by omega)]; omega
  have x4 : IntKind.wrap .i64 (((List.replicate (K : Nat) (0 : Int)).length : Int) - 1) = (K : Int) - 1 := by rw [List.length_replicate, wi64 (by omega) (by omega)]
  rw [if_neg hc, if_neg (by omega), x1, if_pos (by omega), Int.toNat_natCast, gd hLN, hz, Option.bind_some, x2, u1, Option.bind_some, w1, Option.bind_some, if_pos (by omega), x3, if_pos (by omega)]
  simp only [Int.toNat_natCast, List.drop_zero]
  rw [x4, hn, ← hve, g1, Option.bind_some]
  simp only [integer_divide.k0, cite, inC_t]
  have hul' : (limbs (lv u')).length ≤ n + 2 := limbs_len.2 (by omega)
  rw [trim_ok g5 (by omega), Option.bind_some, if_pos (by omega), Int.toNat_natCast, hn, trim_ok (g4.take _) (by rw [List.length_take]; omega), Option.bind_some, hu'.2, unshift_ok (lim_limbs _) hs (by omega), Option.bind_some, lv_limbs, hq.1, hq.2]
theorem divmodG {a b : Int} (ha : (limbs a.natAbs).length < 33554432) (hb : (limbs b.natAbs).length < 33554432) (h0 : b ≠ 0) : integer_DivMod (mkI a) (mkI b) = some (mkI (a / b), mkI (a % b), true, ()) := by
  have hd := divmod_of (mkI a).1 (mkI b).1 () () (lim_mkI a) (lim_mkI b) ha hb (by rw [iv_mkI]; exact h0) (by rw [lv_mkI, lv_mkI]; exact divide_ok ha (by omega))
  rwa [iv_mkI, iv_mkI] at hd
theorem normI {z : Int} (hz : (limbs z.natAbs).length ≤ 1073741824) : integer_Normalize (mkI z) = some (mkI z) := by
  have hx : (limbs z.natAbs).length ≤ 1073741824 := hz
  unfold integer_Normalize
  rw [magnitude_ok _ () (lim_mkI z) (by rw [len_mkI]; omega), Option.bind_some, lv_mkI]
  simp only [cite, inC_t, maxL_eq, Int.toNat_natCast, List.length_replicate]
  rw [if_pos (by omega), List.take_length, List.drop_eq_nil_of_le (by simp), List.append_nil, signed_ok _ (lim_limbs _) (by omega), Option.bind_some]
  have : iv (mkI z).1 (limbs z.natAbs) = z := iv_mkI z
  rw [this]
theorem gcd_loop (c : Bool × List Int × Unit) : ∀ (b a : Nat), (limbs a).length < 33554432 → (limbs b).length < 33554432 →
    iterL (fun x : List Int × List Int × (Bool × List Int × Unit) × Unit => integer_Gcd.s0 x.1 x.2.1 x.2.2.1) (limbs a, limbs b, c, ()) = some (limbs (Nat.gcd a b), c, ()) := by
  intro b
  induction b using Nat.strongRecOn with
  | ind b ih =>
    intro a ha hb
    by_cases h0 : b = 0
    · subst h0
      refine iterL_done ?_
      simp only [integer_Gcd.s0, cite, decide_eq_true_eq]
      rw [if_neg (by rw [limbs_zero]; decide), Nat.gcd_zero_right]
    · have hp := limbs_len_pos.2 h0
      have hm : a % b < b := Nat.mod_lt _ (by omega)
      have hlm := len_le (Nat.le_of_lt hm)
      have key := ih (a % b) hm b hb (by omega)
      rw [Nat.gcd_comm a b, Nat.gcd_rec b a, Nat.gcd_comm]
      refine (iterL_next ?_).trans key
      simp only [integer_Gcd.s0, integer_Gcd.j1, cite, decide_eq_true_eq]
      rw [if_pos (by omega), divide_ok ha (by omega), Option.bind_some]
theorem gcdI {a b : Int} (ha : (limbs a.natAbs).length < 33554432) (hb : (limbs b.natAbs).length < 33554432) : integer_Gcd (mkI a) (mkI b) = some (mkI (Int.gcd a b : Nat)) := by
  have n1 : integer_Normalize ((mkI a).1, ((mkI a).2.1, ())) = _ := normI (z := a) (by omega)
  have n2 : integer_Normalize ((mkI b).1, ((mkI b).2.1, ())) = _ := normI (z := b) (by omega)
  have g := gcd_loop (false, ([], ())) b.natAbs a.natAbs ha hb
  have g' : iterL (fun x : List Int × List Int × (Bool × List Int × Unit) × Unit => integer_Gcd.s0 x.1 x.2.1 x.2.2.1) ((mkI a).2.1, (mkI b).2.1, (false, ([], ())), ()) = _ := g
  have hl : (limbs (Nat.gcd a.natAbs b.natAbs)).length < 33554433 := by
    by_cases h0 : a.natAbs = 0
    · rw [h0, Nat.gcd_zero_left]; omega
    · have := len_le (Nat.gcd_le_left b.natAbs (show 0 < a.natAbs by omega))
      omega
  unfold integer_Gcd
  rw [n1, Option.bind_some, n2, Option.bind_some, g', Option.bind_some]
  simp only [integer_Gcd.k0]
  rw [signed_ok _ (lim_limbs _) (by omega), Option.bind_some, iv_f, lv_limbs]
  rfl
end Go.Proofs.YtgbndganadelpaaGreatDoor.V
/- Laws of the whole numbers of both: on numbers `mkI z`, with bounds in bits. -/
namespace Go.Proofs.YtgbndganadelpaaGreatDoor.V
open Go Go.Proofs.YtgbndganadelpaaGreatDoor.E Go.Proofs.YtgbndganadelpaaGreatDoor.LI
set_option linter.unusedVariables false
set_option linter.unusedSimpArgs false
abbrev IV : Type := Bool × List Int × Unit
abbrev QV : Type := IV × IV × Unit
theorem etaI (z : IV) : (z.1, z.2.1, ()) = z := rfl
theorem etaQ (z : QV) : ((z.1.1, z.1.2.1, ()), (z.2.1.1, z.2.1.2.1, ()), ()) = z := rfl
theorem etaP (z : QV) : (z.1, z.2.1, ()) = z := rfl
/-- A number of at most n bits. -/
def Bd (n : Nat) (z : Int) : Prop := z.natAbs < 2 ^ n
theorem Bd.mono {n m : Nat} {z : Int} (h : Bd n z) (hm : n ≤ m) : Bd m z := Nat.lt_of_lt_of_le h (Nat.pow_le_pow_right (by omega) hm)
theorem Bd.mul {n m : Nat} {a b : Int} (h : Bd n a) (h' : Bd m b) : Bd (n + m) (a * b) := by
  unfold Bd at *
  rw [Int.natAbs_mul, Nat.pow_add]
  exact Nat.lt_of_le_of_lt (Nat.mul_le_mul_right _ (Nat.le_of_lt h)) (Nat.mul_lt_mul_of_pos_left h' (Nat.two_pow_pos n))
theorem Bd.add {n : Nat} {a b : Int} (h : Bd n a) (h' : Bd n b) : Bd (n + 1) (a + b) := by
  unfold Bd at *
  rw [Nat.pow_succ]
  omega
theorem Bd.neg {n : Nat} {a : Int} (h : Bd n a) : Bd n (-a) := by
  unfold Bd at *
  rwa [Int.natAbs_neg]
theorem Bd.len {n : Nat} {z : Int} (h : Bd n z) (hn : n ≤ 1000000000) : (limbs z.natAbs).length ≤ 31250001 := by
  have : (limbs z.natAbs).length ≤ n / 32 + 1 := limbs_len.2 (Nat.lt_of_lt_of_le h (by
    rw [show (4294967296 : Nat) = 2 ^ 32 from rfl, ← Nat.pow_mul]
    exact Nat.pow_le_pow_right (by omega) (by omega)))
  omega
theorem Bd.small {n : Nat} {z : Int} (h : z.natAbs < 2 ^ n) : Bd n z := h
theorem Bd.i64 {z : Int} (h : -9223372036854775808 ≤ z) (h' : z ≤ 9223372036854775807) : Bd 64 z := by
  unfold Bd
  rw [show (2 : Nat) ^ 64 = 18446744073709551616 from rfl]
  omega
section
variable {a b : Int} {n : Nat}
theorem raddI (ha : Bd n a) (hb : Bd n b) (hn : n ≤ 1000000000) : quadformref01_Add (mkI a) (mkI b) = some (mkI (a + b)) := by
  have h1 := ha.len hn
  have h2 := hb.len hn
  have := radd_ok (mkI a).1 (mkI b).1 () () (lim_mkI a) (lim_mkI b) (by rw [len_mkI]; omega) (by rw [len_mkI]; omega)
  rwa [iv_mkI, iv_mkI] at this
theorem rnegI (ha : Bd n a) (hn : n ≤ 1000000000) : quadformref01_Neg (mkI a) = some (mkI (-a)) := by
  have h1 := ha.len hn
  have := rneg_ok (mkI a).1 () (lim_mkI a) (by rw [len_mkI]; omega)
  rwa [iv_mkI] at this
theorem rsignI (ha : Bd n a) (hn : n ≤ 1000000000) : quadformref01_Sign (mkI a) = some (if a = 0 then 0 else if a < 0 then -1 else 1) := by
  have h1 := ha.len hn
  have := rsign_ok (mkI a).1 () (lim_mkI a) (by rw [len_mkI]; omega)
  rwa [iv_mkI] at this
theorem rnormI (ha : Bd n a) (hn : n ≤ 1000000000) : quadformref01_Normalize (mkI a) = some (mkI a) := by
  have h1 := ha.len hn
  unfold quadformref01_Normalize
  rw [make_ok (mkI a).1 (lim_mkI a) (by rw [len_mkI]; omega), iv_mkI]
  rfl
theorem rabsI (ha : Bd n a) (hn : n ≤ 1000000000) : quadformref01_Abs (mkI a) = some (mkI (a.natAbs : Nat)) := by
  have h1 := ha.len hn
  unfold quadformref01_Abs
  rw [make_ok false (lim_mkI a) (by rw [len_mkI]; omega), iv_f, lv_mkI]
  rfl
theorem rdivmodI (ha : Bd n a) (hb : Bd n b) (hn : n ≤ 1000000000) (h0 : b ≠ 0) : quadformref01_DivMod (mkI a) (mkI b) = some (mkI (a / b), mkI (a % b), true, ()) := by
  have h1 := ha.len hn
  have h2 := hb.len hn
  have := rdivmod_ok (mkI a).1 (mkI b).1 () () (lim_mkI a) (lim_mkI b) (by rw [len_mkI]; omega) (by rw [len_mkI]; omega) (by rw [iv_mkI]; exact h0)
  rwa [iv_mkI, iv_mkI] at this
theorem rquoI (ha : Bd n a) (hb : Bd n b) (hn : n ≤ 1000000000) (h0 : b ≠ 0) : quadformref01_Quo (mkI a) (mkI b) = some (mkI (a / b)) := by
  unfold quadformref01_Quo
  simp only [etaI]
  rw [rdivmodI ha hb hn h0, Option.bind_some]
theorem rremI (ha : Bd n a) (hb : Bd n b) (hn : n ≤ 1000000000) (h0 : b ≠ 0) : quadformref01_Rem (mkI a) (mkI b) = some (mkI (a % b)) := by
  have h1 := ha.len hn
  have h2 := hb.len hn
  have := rrem_ok (mkI a).1 (mkI b).1 () () (lim_mkI a) (lim_mkI b) (by rw [len_mkI]; omega) (by rw [len_mkI]; omega) (by rw [iv_mkI]; exact h0)
  rwa [iv_mkI, iv_mkI] at this
theorem rgcd_loop (hn : n ≤ 1000000000) (c : IV) : ∀ (b a : Nat), Bd n (a : Int) → Bd n (b : Int) →
    iterL (fun x : (Bool × List Int × Unit) × (Bool × List Int × Unit) × (Bool × List Int × Unit) × Unit => quadformref01_Gcd.s0 x.1 x.2.1 x.2.2.1) (c, mkI (a : Int), mkI (b : Int), ()) = some (c, mkI ((Nat.gcd a b : Nat) : Int), ()) := by
  intro b
  induction b using Nat.strongRecOn with
  | ind b ih =>
    intro a ha hb
    by_cases h0 : b = 0
    · subst h0
      refine iterL_done ?_
      simp only [quadformref01_Gcd.s0, cite, bne_iff_ne, etaI]
      rw [rsignI hb hn, Option.bind_some, if_neg (by decide), Nat.gcd_zero_right]
    · have hm : a % b < b := Nat.mod_lt _ (by omega)
      have key := ih (a % b) hm b hb (by unfold Bd at *; omega)
      rw [Nat.gcd_comm a b, Nat.gcd_rec b a, Nat.gcd_comm]
      refine (iterL_next ?_).trans key
      simp only [quadformref01_Gcd.s0, quadformref01_Gcd.j1, cite, bne_iff_ne, etaI]
      rw [rsignI hb hn, Option.bind_some, if_pos (by rw [if_neg (by omega), if_neg (by omega)]; decide), rremI ha hb hn (by omega), Option.bind_some]
      rfl
theorem rgcdI (ha : Bd n a) (hb : Bd n b) (hn : n ≤ 1000000000) : quadformref01_Gcd (mkI a) (mkI b) = some (mkI ((Int.gcd a b : Nat) : Int)) := by
  unfold quadformref01_Gcd
  simp only [etaI]
  rw [rabsI ha hn, Option.bind_some, rabsI hb hn, Option.bind_some, rgcd_loop hn _ _ _ (by unfold Bd at *; rwa [Int.natAbs_natCast]) (by unfold Bd at *; rwa [Int.natAbs_natCast]), Option.bind_some]
  rfl
theorem rsameI (hb : Bd n a) (hn : n ≤ 1000000000) : quadformref01_Same (mkI a) (mkI b) = some (decide (a = b)) := by
  have h1 := hb.len hn
  unfold quadformref01_Same
  simp only [cite, beq_iff_eq]
  have e1 : (mkI a).1 = decide (a < 0) := rfl
  have e2 : (mkI b).1 = decide (b < 0) := rfl
  have e3 : (mkI a).2.1 = limbs a.natAbs := rfl
  have e4 : (mkI b).2.1 = limbs b.natAbs := rfl
  rw [e1, e2, e3, e4]
  by_cases hs : decide (a < 0) = decide (b < 0)
  · rw [if_pos hs]
    by_cases hl : (limbs a.natAbs).length = (limbs b.natAbs).length
    · rw [if_pos (by rw [hl]), rcmp_ok (by omega), Option.bind_some]
      congr 1
      rw [decide_eq_decide] at hs
      by_cases hab : a = b
      · rw [decide_eq_true hab, cm_eq (by rw [hab])]; rfl
      · rw [decide_eq_false hab, beq_eq_false_iff_ne]
        unfold cm
        split
        · decide
        · split
          · omega
          · decide
    · rw [if_neg (by omega)]
      congr 1
      symm
      exact decide_eq_false (fun h => hl (by rw [h]))
  · rw [if_neg hs]
    congr 1
    symm
    exact decide_eq_false (fun h => hs (by rw [h]))
theorem addI (ha : Bd n a) (hb : Bd n b) (hn : n ≤ 1000000000) : integer_Add (mkI a) (mkI b) = some (mkI (a + b)) := by
  have h1 := ha.len hn
  have h2 := hb.len hn
  have m1 : integer_magnitude (mkI a) = some (limbs a.natAbs) := by
    have := magnitude_ok (mkI a).1 () (lim_mkI a) (by rw [len_mkI]; omega)
    rwa [lv_mkI] at this
  have m2 : integer_magnitude (mkI b) = some (limbs b.natAbs) := by
    have := magnitude_ok (mkI b).1 () (lim_mkI b) (by rw [len_mkI]; omega)
    rwa [lv_mkI] at this
  have e1 : (mkI a).1 = decide (a < 0) := rfl
  have e2 : (mkI b).1 = decide (b < 0) := rfl
  unfold integer_Add
  simp only [etaI]
  rw [m1, Option.bind_some, m2, Option.bind_some]
  simp only [integer_Add.j1, integer_Add.j2, cite, beq_iff_eq, decide_eq_true_eq]
  rw [e1, e2]
  by_cases hs : decide (a < 0) = decide (b < 0)
  · rw [if_pos hs, plus_ok (lim_limbs _) (lim_limbs _) (by omega) (by omega), Option.bind_some, lv_limbs, lv_limbs]
    have hl : (limbs (a.natAbs + b.natAbs)).length < 17592186044416 := by
      have := (ha.add hb)
      have h3 : Bd (n + 1) ((a.natAbs + b.natAbs : Nat) : Int) := by unfold Bd at *; rw [Nat.pow_succ, Int.natAbs_natCast]; omega
      have h4 : (limbs ((a.natAbs + b.natAbs : Nat) : Int).natAbs).length ≤ (n + 1) / 32 + 1 := limbs_len.2 (Nat.lt_of_lt_of_le h3 (by
        rw [show (4294967296 : Nat) = 2 ^ 32 from rfl, ← Nat.pow_mul]
        exact Nat.pow_le_pow_right (by omega) (by omega)))
      rw [Int.natAbs_natCast] at h4
      omega
    rw [signed_ok _ (lim_limbs _) hl, Option.bind_some]
    congr 1
    have : iv (decide (a < 0)) (limbs (a.natAbs + b.natAbs)) = a + b := by
      rw [decide_eq_decide] at hs
      unfold iv
      rw [lv_limbs]
      by_cases h0 : a < 0
      · rw [if_pos (decide_eq_true h0)]; omega
      · rw [if_neg (by simpa using h0)]; omega
    rw [this]
  · rw [if_neg hs, compare_ok (by omega), Option.bind_some]
    have hss : ¬ (a < 0 ↔ b < 0) := fun h => hs (decide_eq_decide.2 h)
    by_cases hc : b.natAbs ≤ a.natAbs
    · rw [if_pos (by unfold cm; split <;> (try split) <;> omega), minus_ok (lim_limbs _) (lim_limbs _) (by omega) (len_le hc) (by rw [lv_limbs, lv_limbs]; exact hc), Option.bind_some, lv_limbs, lv_limbs]
      have := len_le (show a.natAbs - b.natAbs ≤ a.natAbs by omega)
      rw [signed_ok _ (lim_limbs _) (by omega), Option.bind_some]
      congr 1
      have : iv (decide (a < 0)) (limbs (a.natAbs - b.natAbs)) = a + b := by
        unfold iv
        rw [lv_limbs]
        by_cases h0 : a < 0
        · rw [if_pos (decide_eq_true h0)]; omega
        · rw [if_neg (by simpa using h0)]; omega
      rw [this]
    · rw [cm_lt (by omega), if_neg (by decide), minus_ok (lim_limbs _) (lim_limbs _) (by omega) (len_le (by omega)) (by rw [lv_limbs, lv_limbs]; omega), Option.bind_some, lv_limbs, lv_limbs]
      have := len_le (show b.natAbs - a.natAbs ≤ b.natAbs by omega)
      rw [signed_ok _ (lim_limbs _) (by omega), Option.bind_some]
      congr 1
      have : iv (decide (b < 0)) (limbs (b.natAbs - a.natAbs)) = a + b := by
        unfold iv
        rw [lv_limbs]
        by_cases h0 : b < 0
        · rw [if_pos (decide_eq_true h0)]; omega
        · rw [if_neg (by simpa using h0)]; omega
      rw [this]
theorem negI (ha : Bd n a) (hn : n ≤ 1000000000) : integer_Neg (mkI a) = some (mkI (-a)) := by
  have h1 := ha.len hn
  unfold integer_Neg
  simp only [etaI]
  rw [normI (by omega), Option.bind_some, signed_ok _ (lim_mkI a) (by rw [len_mkI]; omega), Option.bind_some]
  congr 1
  have : iv (!(mkI a).1) (mkI a).2.1 = -a := by
    have e1 : (mkI a).1 = decide (a < 0) := rfl
    unfold iv
    rw [lv_mkI, e1]
    by_cases h0 : a < 0
    · rw [decide_eq_true h0, if_neg (by decide)]; omega
    · rw [decide_eq_false h0, if_pos (by decide)]; omega
  rw [this]
theorem signB (ha : Bd n a) (hn : n ≤ 1000000000) : integer_Sign (mkI a) = some (if a = 0 then 0 else if a < 0 then -1 else 1) := by
  have h1 := ha.len hn
  have := sign_ok (mkI a).1 () (lim_mkI a) (by rw [len_mkI]; omega)
  rwa [iv_mkI] at this
theorem mulB (ha : Bd n a) (hb : Bd n b) (hn : n ≤ 1000000000) : integer_Mul (mkI a) (mkI b) = some (mkI (a * b)) := mulI a b (by
  have h1 := ha.len hn
  have h2 := hb.len hn
  omega)
end
end Go.Proofs.YtgbndganadelpaaGreatDoor.V
/- Laws of rational: on canonical numbers `mkQ q`. -/
namespace Go.Proofs.YtgbndganadelpaaGreatDoor.V
open Go Go.Proofs.YtgbndganadelpaaGreatDoor.E Go.Proofs.YtgbndganadelpaaGreatDoor.LI
set_option linter.unusedVariables false
set_option linter.unusedSimpArgs false
/-- A rational number as_ the program holds it, in lowest terms. -/
def mkQ (q : Rat) : QV := (mkI q.num, mkI (q.den : Int), ())
theorem mkQ_1 (q : Rat) : (mkQ q).1 = mkI q.num := rfl
theorem mkQ_2 (q : Rat) : (mkQ q).2.1 = mkI (q.den : Int) := rfl
theorem mkQ_3 (q : Rat) : ((mkI q.num, mkI (q.den : Int), ()) : QV) = mkQ q := rfl
def BQ (n : Nat) (q : Rat) : Prop := Bd n q.num ∧ q.den < 2 ^ n
theorem BQ.den {n : Nat} {q : Rat} (h : BQ n q) : Bd n (q.den : Int) := by unfold Bd; rw [Int.natAbs_natCast]; exact h.2
theorem BQ.mono {n m : Nat} {q : Rat} (h : BQ n q) (hm : n ≤ m) : BQ m q := ⟨h.1.mono hm, Nat.lt_of_lt_of_le h.2 (Nat.pow_le_pow_right (by omega) hm)⟩
theorem den_pos (q : Rat) : (0 : Int) < (q.den : Int) := by have := q.den_nz; omega
theorem BQ.pos {n : Nat} {q : Rat} (h : BQ n q) : 1 ≤ n := by
  have h1 := h.2
  have := q.den_nz
  rcases n with _ | n
  · simp at h1; omega
  · omega
theorem BQ.neg {n : Nat} {q : Rat} (h : BQ n q) : BQ n (-q) := ⟨h.1.neg, h.2⟩
theorem BQ.divInt {n : Nat} {a b : Int} (ha : Bd n a) (hb : Bd n b) (hn : 1 ≤ n) : BQ n (Rat.divInt a b) := by
  constructor
  · unfold Bd at *
    rw [Rat.num_divInt]
    refine Nat.lt_of_le_of_lt (Int.natAbs_ediv_le_natAbs _ _) ?_
    rw [Int.natAbs_mul]
    refine Nat.lt_of_le_of_lt ?_ ha
    rw [Int.natAbs_sign]
    split <;> simp
  · rw [Rat.den_divInt]
    unfold Bd at *
    split
    · exact Nat.lt_of_lt_of_le (by decide : 1 < 2 ^ 1) (Nat.pow_le_pow_right (by omega) hn)
    · exact Nat.lt_of_le_of_lt (Nat.div_le_self _ _) hb
theorem add_divInt (a b : Rat) : a + b = Rat.divInt (a.num * b.den + b.num * a.den) (a.den * b.den) := by
  rw [Rat.add_def', ← Rat.divInt_ofNat, Int.natCast_mul]
theorem mul_divInt (a b : Rat) : a * b = Rat.divInt (a.num * b.num) (a.den * b.den) := by
  rw [Rat.mul_def', ← Rat.divInt_ofNat, Int.natCast_mul]
theorem div_divInt (a b : Rat) : a / b = Rat.divInt (a.num * b.den) (a.den * b.num) := by
  rw [Rat.div_def, Rat.inv_def, ← Rat.divInt_mul_divInt, Rat.num_divInt_den]
theorem pow_divInt (q : Rat) (k : Nat) : q ^ k = Rat.divInt (q.num ^ k) ((q.den : Int) ^ k) := by
  rw [← Int.natCast_pow]
  exact (Rat.num_divInt_den (q ^ k)).symm
theorem BQ.mul {n m : Nat} {a b : Rat} (h : BQ n a) (h' : BQ m b) : BQ (n + m) (a * b) := by
  rw [mul_divInt]
  exact BQ.divInt (h.1.mul h'.1) (h.den.mul h'.den) (by have := h.pos; omega)
theorem BQ.add {n m : Nat} {a b : Rat} (h : BQ n a) (h' : BQ m b) : BQ (n + m + 1) (a + b) := by
  rw [add_divInt]
  exact BQ.divInt (Bd.add (h.1.mul h'.den) ((h'.1.mul h.den).mono (by omega))) ((h.den.mul h'.den).mono (by omega)) (by omega)
theorem BQ.div {n m : Nat} {a b : Rat} (h : BQ n a) (h' : BQ m b) : BQ (n + m) (a / b) := by
  rw [div_divInt]
  exact BQ.divInt (h.1.mul h'.den) (h.den.mul h'.1) (by have := h.pos; omega)
theorem BQ.int {n : Nat} {z : Int} (h : Bd n z) (hn : 1 ≤ n) : BQ n (z : Rat) := ⟨h, Nat.lt_of_lt_of_le (by decide : 1 < 2 ^ 1) (Nat.pow_le_pow_right (by omega) hn)⟩
theorem BQ.pow {n : Nat} {q : Rat} (h : BQ n q) : ∀ k : Nat, BQ (n * k + 1) (q ^ k)
  | 0 => by rw [Rat.pow_zero]; exact BQ.int (z := 1) (Bd.mono (n := 1) (by unfold Bd; decide) (by omega)) (by omega)
  | k + 1 => by
    rw [Rat.pow_succ]
    exact (BQ.mul (BQ.pow h k) h).mono (by rw [Nat.mul_add]; omega)
/-- The zero value beside 'false'. -/
def zQ : QV := ((false, ([], ())), (false, ([], ())), ())
section
variable {n : Nat}
theorem frac_rat {a b : Int} (ha : Bd n a) (hb : Bd n b) (hn : n ≤ 1000000000) (h0 : 0 < b) : rational_fraction__rat (mkI a, mkI b, ()) = some (mkQ (Rat.divInt a b)) := by
  have h1 := ha.len hn
  have h2 := hb.len hn
  have hg : Bd n ((Int.gcd a b : Nat) : Int) := by
    have := Int.gcd_le_natAbs_right a (show b ≠ 0 by omega)
    unfold Bd at *
    rw [Int.natAbs_natCast]
    omega
  have hg0 : ((Int.gcd a b : Nat) : Int) ≠ 0 := by
    have := Int.gcd_pos_of_ne_zero_right a (show b ≠ 0 by omega)
    omega
  have h3 := hg.len hn
  unfold rational_fraction__rat
  simp only [etaI]
  rw [gcdI (by omega) (by omega), Option.bind_some]
  rw [divmodG (by omega) (by omega) hg0, Option.bind_some, divmodG (by omega) (by omega) hg0, Option.bind_some]
  have e1 : (Rat.divInt a b).num = a / ((Int.gcd a b : Nat) : Int) := by rw [Rat.num_divInt, Int.sign_eq_one_of_pos h0, Int.one_mul, Int.gcd_comm]
  have e2 : (((Rat.divInt a b).den : Nat) : Int) = b / ((Int.gcd a b : Nat) : Int) := by
    rw [Rat.den_divInt, if_neg (by omega), Int.gcd_comm, Int.natCast_ediv]
    congr 1
    omega
  unfold mkQ
  rw [e1, e2]
theorem of_ok {q : Rat} (h : BQ n q) (hn : n ≤ 1000000000) : rational_of (mkQ q) = some (mkQ q) := by
  have hp := den_pos q
  unfold rational_of
  simp only [etaI, mkQ_1, mkQ_2]
  rw [signB h.den hn, Option.bind_some]
  simp only [rational_of.j1, rational_of.j2, cite, beq_iff_eq]
  rw [if_neg (show ¬ (q.den : Int) = 0 by omega), if_neg (show ¬ (q.den : Int) < 0 by omega), if_neg (by decide), if_neg (by decide)]
  rfl
theorem product_ok {a b : Int} {m : Nat} (ha : Bd n a) (hb : Bd m b) (h1 : 1 ≤ n) (hn : n + m ≤ 1000000000) : rational_product [mkI a, mkI b] = some (mkI (a * b)) := by
  have step : ∀ (i : Nat) (x y : Int) (c : IV), Bd (n + m) x → Bd (n + m) y → [mkI a, mkI b].getD i (false, ([], ())) = mkI y → i < 2 → rational_product.s0 [mkI a, mkI b] 2 (i : Int) c (mkI x) = some (.inl ([mkI a, mkI b], 2, ((i + 1 : Nat) : Int), c, mkI (x * y), ())) := by
    intro i x y c hx hy hg hi
    simp only [rational_product.s0, rational_product.j1, cite, decide_eq_true_eq, inB_t, etaI, List.length_cons, List.length_nil]
    rw [if_pos (by omega), if_pos (by omega), Int.toNat_natCast, hg, mulB hx hy hn, Option.bind_some, up (by omega)]
  have s0 := step 0 1 a (false, ([], ())) (Bd.mono (n := 1) (by unfold Bd; decide) (by omega)) (ha.mono (by omega)) rfl (by omega)
  have s1 := step 1 a b (false, ([], ())) (ha.mono (by omega)) (hb.mono (by omega)) rfl (by omega)
  rw [Int.one_mul] at s0
  have s2 : rational_product.s0 [mkI a, mkI b] 2 ((2 : Nat) : Int) (false, ([], ())) (mkI (a * b)) = some (.inr ((false, ([], ())), mkI (a * b), ())) := rfl
  have key : iterL (fun x : (List (Bool × List Int × Unit)) × Int × Int × (Bool × List Int × Unit) × (Bool × List Int × Unit) × Unit => rational_product.s0 x.1 x.2.1 x.2.2.1 x.2.2.2.1 x.2.2.2.2.1) ([mkI a, mkI b], 2, ((0 : Nat) : Int), (false, ([], ())), mkI 1, ()) = some ((false, ([], ())), mkI (a * b), ()) :=
    (iterL_next s0).trans ((iterL_next s1).trans (iterL_done s2))
  unfold rational_product
  simp only [etaI]
  rw [small_ok (by decide) (by decide), Option.bind_some]
  exact (congrArg (fun o => Option.bind o fun y => rational_product.k0 y.1 y.2.1) key).trans rfl
theorem rat_sum {a b : Int} (ha : Bd n a) (hb : Bd n b) (h1 : 1 ≤ n) (hn : n ≤ 1000000000) : rational_sum [mkI a, mkI b] = some (mkI (a + b)) := by
  have step : ∀ (i : Nat) (x y : Int) (c : IV), Bd n x → Bd n y → [mkI a, mkI b].getD i (false, ([], ())) = mkI y → i < 2 → rational_sum.s0 [mkI a, mkI b] 2 (i : Int) c (mkI x) = some (.inl ([mkI a, mkI b], 2, ((i + 1 : Nat) : Int), c, mkI (x + y), ())) := by
    intro i x y c hx hy hg hi
    simp only [rational_sum.s0, rational_sum.j1, cite, decide_eq_true_eq, inB_t, etaI, List.length_cons, List.length_nil]
    rw [if_pos (by omega), if_pos (by omega), Int.toNat_natCast, hg, addI hx hy hn, Option.bind_some, up (by omega)]
  have s0 := step 0 0 a (false, ([], ())) (Bd.mono (n := 1) (by unfold Bd; decide) (by omega)) ha rfl (by omega)
  have s1 := step 1 a b (false, ([], ())) ha hb rfl (by omega)
  rw [Int.zero_add] at s0
  have s2 : rational_sum.s0 [mkI a, mkI b] 2 ((2 : Nat) : Int) (false, ([], ())) (mkI (a + b)) = some (.inr ((false, ([], ())), mkI (a + b), ())) := rfl
  have key : iterL (fun x : (List (Bool × List Int × Unit)) × Int × Int × (Bool × List Int × Unit) × (Bool × List Int × Unit) × Unit => rational_sum.s0 x.1 x.2.1 x.2.2.1 x.2.2.2.1 x.2.2.2.2.1) ([mkI a, mkI b], 2, ((0 : Nat) : Int), (false, ([], ())), mkI 0, ()) = some ((false, ([], ())), mkI (a + b), ()) :=
    (iterL_next s0).trans ((iterL_next s1).trans (iterL_done s2))
  unfold rational_sum
  exact (congrArg (fun o => Option.bind o fun y => rational_sum.k0 y.1 y.2.1) key).trans rfl
theorem qnorm_frac {a b : Int} (ha : Bd n a) (hb : Bd n b) (hn : n ≤ 1000000000) (h0 : b ≠ 0) : rational_Normalize (mkI a, mkI b, ()) = some (mkQ (Rat.divInt a b)) := by
  unfold rational_Normalize rational_of
  simp only [etaI]
  rw [signB hb hn, Option.bind_some]
  simp only [rational_of.j1, rational_of.j2, cite, beq_iff_eq, etaI]
  rw [if_neg h0]
  by_cases hneg : b < 0
  · rw [if_pos hneg, if_neg (by decide), if_pos rfl, negI ha hn, Option.bind_some, negI hb hn, Option.bind_some]
    rw [Option.bind_some]
    rw [frac_rat ha.neg hb.neg hn (by omega), Option.bind_some, Rat.neg_divInt_neg]
  · rw [if_neg hneg, if_neg (by decide), if_neg (by decide), Option.bind_some, frac_rat ha hb hn (by omega), Option.bind_some]
theorem qnew {a b : Int} (ha : Bd n a) (hb : Bd n b) (hn : n ≤ 1000000000) (h0 : b ≠ 0) : rational_New (mkI a) (mkI b) = some (mkQ (Rat.divInt a b), true, ()) := by
  unfold rational_New
  simp only [etaI]
  rw [signB hb hn, Option.bind_some]
  simp only [rational_New.j1, cite, beq_iff_eq, etaI]
  rw [if_neg (by rw [if_neg h0]; split <;> decide), qnorm_frac ha hb hn h0, Option.bind_some]
theorem qwhole {a : Int} (ha : Bd n a) (hn : n ≤ 1000000000) : rational_Whole (mkI a) = some (mkQ (a : Rat)) := by
  have h1 := ha.len hn
  unfold rational_Whole
  simp only [etaI]
  rw [normI (by omega), Option.bind_some, small_ok (by decide) (by decide), Option.bind_some]
  rfl
theorem qneg {q : Rat} (h : BQ n q) (hn : n ≤ 1000000000) : rational_Neg (mkQ q) = some (mkQ (-q)) := by
  have hp := den_pos q
  unfold rational_Neg
  simp only [etaI, etaQ]
  rw [of_ok h hn, Option.bind_some]
  simp only [mkQ_1, mkQ_2, etaI]
  rw [negI h.1 hn, Option.bind_some]
  rw [frac_rat h.1.neg h.den hn hp, Option.bind_some, ← Rat.neg_divInt, Rat.num_divInt_den]
theorem qadd {m : Nat} {a b : Rat} (h : BQ n a) (h' : BQ m b) (hn : n + m + 1 ≤ 1000000000) : rational_Add (mkQ a) (mkQ b) = some (mkQ (a + b)) := by
  have hp := den_pos a
  have hp' := den_pos b
  have h1 := h.pos
  have h2 := h'.pos
  unfold rational_Add
  simp only [etaI, etaQ]
  rw [of_ok h (by omega), Option.bind_some, of_ok h' (by omega), Option.bind_some]
  simp only [mkQ_1, mkQ_2, etaI]
  rw [product_ok h.1 h'.den h1 (by omega), Option.bind_some, product_ok h'.1 h.den h2 (by omega), Option.bind_some, rat_sum (n := n + m) (h.1.mul h'.den) ((h'.1.mul h.den).mono (by omega)) (by omega) (by omega), Option.bind_some, product_ok h.den h'.den h1 (by omega), Option.bind_some]
  rw [frac_rat (n := n + m + 1) (Bd.add (h.1.mul h'.den) ((h'.1.mul h.den).mono (by omega))) ((h.den.mul h'.den).mono (by omega)) (by omega) (Int.mul_pos hp hp'), Option.bind_some, ← add_divInt]
theorem qsub {m : Nat} {a b : Rat} (h : BQ n a) (h' : BQ m b) (hn : n + m + 1 ≤ 1000000000) : rational_Sub (mkQ a) (mkQ b) = some (mkQ (a - b)) := by
  unfold rational_Sub
  simp only [etaI, etaQ]
  rw [qneg h' (by omega), Option.bind_some, qadd h h'.neg hn, Option.bind_some, Rat.sub_eq_add_neg]
theorem qmul {m : Nat} {a b : Rat} (h : BQ n a) (h' : BQ m b) (hn : n + m ≤ 1000000000) : rational_Mul (mkQ a) (mkQ b) = some (mkQ (a * b)) := by
  have hp := den_pos a
  have hp' := den_pos b
  have h1 := h.pos
  unfold rational_Mul
  simp only [etaI, etaQ]
  rw [of_ok h (by omega), Option.bind_some, of_ok h' (by omega), Option.bind_some]
  simp only [mkQ_1, mkQ_2, etaI]
  rw [product_ok h.1 h'.1 h1 (by omega), Option.bind_some, product_ok h.den h'.den h1 (by omega), Option.bind_some]
  rw [frac_rat (n := n + m) (h.1.mul h'.1) (h.den.mul h'.den) (by omega) (Int.mul_pos hp hp'), Option.bind_some, ← mul_divInt]
theorem num_ne {q : Rat} (h : q ≠ 0) : q.num ≠ 0 := fun h0 => h (Rat.num_eq_zero.1 h0)
theorem qquo {m : Nat} {a b : Rat} (h : BQ n a) (h' : BQ m b) (hn : n + m ≤ 1000000000) (h0 : b ≠ 0) : rational_Quo (mkQ a) (mkQ b) = some (mkQ (a / b), true, ()) := by
  have hp := den_pos a
  have hp' := den_pos b
  have h1 := h.pos
  unfold rational_Quo
  simp only [etaI, etaQ]
  rw [of_ok h (by omega), Option.bind_some, of_ok h' (by omega), Option.bind_some]
  simp only [mkQ_1, mkQ_2, etaI]
  rw [product_ok h.1 h'.den h1 (by omega), Option.bind_some, product_ok h.den h'.1 h1 (by omega), Option.bind_some]
  rw [qnew (n := n + m) (h.1.mul h'.den) (h.den.mul h'.1) (by omega) (Int.mul_ne_zero (by omega) (num_ne h0)), Option.bind_some, ← div_divInt]
end
end Go.Proofs.YtgbndganadelpaaGreatDoor.V
/- Prime numbers, factor lists, and what is multiplicative over them. -/
namespace Go.Proofs.YtgbndganadelpaaGreatDoor.Num
def Pr (p : Nat) : Prop := 2 ≤ p ∧ ∀ d, d ∣ p → d = 1 ∨ d = p
theorem Pr.coprime {p a : Nat} (hp : Pr p) (h : ¬ p ∣ a) : Nat.Coprime p a := by
  rcases hp.2 (Nat.gcd p a) (Nat.gcd_dvd_left _ _) with h1 | h1
  · exact h1
  · exact absurd (h1 ▸ Nat.gcd_dvd_right p a) h
theorem Pr.dvd_mul {p a b : Nat} (hp : Pr p) (h : p ∣ a * b) : p ∣ a ∨ p ∣ b := by
  by_cases ha : p ∣ a
  · exact .inl ha
  · exact .inr ((hp.coprime ha).dvd_of_dvd_mul_left h)
theorem Pr.not_dvd_one {p : Nat} (hp : Pr p) : ¬ p ∣ 1 := by
  intro h
  have := Nat.le_of_dvd (by omega) h
  have := hp.1
  omega
theorem Pr.eq_of_dvd {p q : Nat} (hp : Pr p) (hq : Pr q) (h : p ∣ q) : p = q := by
  rcases hq.2 p h with h | h
  · have := hp.1; omega
  · exact h
theorem pr_of_noDiv {n c : Nat} (hn : 2 ≤ n) (h : ∀ q, 2 ≤ q → q ∣ n → q < n → c ≤ q) (hc : n < c * c) : Pr n := by
  refine ⟨hn, fun d hd => ?_⟩
  obtain ⟨e, he⟩ := hd
  by_cases h1 : d = 1
  · exact .inl h1
  by_cases h2 : d = n
  · exact .inr h2
  exfalso
  have hd0 : d ≠ 0 := by rintro rfl; simp at he; omega
  have he0 : e ≠ 0 := by rintro rfl; simp at he; omega
  have he1 : e ≠ 1 := by rintro rfl; simp at he; omega
  have hdn : d < n := by
    have : d ≤ n := by rw [he]; exact Nat.le_mul_of_pos_right _ (by omega)
    omega
  have hen : e < n := by
    have : e ≤ n := by rw [he]; exact Nat.le_mul_of_pos_left _ (by omega)
    by_cases q : e = n
    · exfalso
      have h3 : d * e = 1 * e := by rw [← he, q]; omega
      have := Nat.eq_of_mul_eq_mul_right (by omega) h3
      omega
    · omega
  have a := h d (by omega) ⟨e, he⟩ hdn
  have b := h e (by omega) ⟨d, by rw [he, Nat.mul_comm]⟩ hen
  have := Nat.mul_le_mul a b
  omega
/-- `L` is the list of the prime powers of `n`, ascending, all primes above `lo`. -/
def Fac : Nat → Nat → List (Nat × Nat) → Prop
  | _, n, [] => n = 1
  | lo, n, (p, e) :: L => lo < p ∧ Pr p ∧ 1 ≤ e ∧ ∃ m, n = p ^ e * m ∧ Fac p m L
theorem Fac.pos : ∀ {L : List (Nat × Nat)} {lo n : Nat}, Fac lo n L → 1 ≤ n
  | [], _, _, h => by simp only [Fac] at h; omega
  | (p, e) :: L, _, _, h => by
    obtain ⟨_, hp, _, m, rfl, hm⟩ := h
    have := hm.pos
    have h2 : 0 < p ^ e := Nat.pow_pos (by have := hp.1; omega)
    exact Nat.mul_pos h2 (by omega)
theorem Fac.mono : ∀ {L : List (Nat × Nat)} {lo lo' n : Nat}, Fac lo n L → lo' ≤ lo → Fac lo' n L
  | [], _, _, _, h, _ => h
  | (p, e) :: L, _, _, _, h, hl => by
    obtain ⟨h1, h2⟩ := h
    exact ⟨by omega, h2⟩
theorem Fac.mem : ∀ {L : List (Nat × Nat)} {lo n : Nat}, Fac lo n L → ∀ x ∈ L, Pr x.1 ∧ 1 ≤ x.2 ∧ x.1 ^ x.2 ∣ n ∧ lo < x.1
  | [], _, _, _ => by simp
  | (p, e) :: L, lo, n, h => by
    obtain ⟨h1, hp, he, m, rfl, hm⟩ := h
    intro x hx
    rcases List.mem_cons.1 hx with rfl | hx
    · exact ⟨hp, he, ⟨m, rfl⟩, h1⟩
    · obtain ⟨a, b, c, d⟩ := hm.mem x hx
      exact ⟨a, b, Nat.dvd_trans c ⟨p ^ e, Nat.mul_comm _ _⟩, by omega⟩
inductive JR (s : Nat → Int) : Nat → Int → Prop
  | one : JR s 1 1
  | mul {p n : Nat} {v : Int} : Pr p → JR s n v → JR s (p * n) (s p * v)
theorem JR.pos {s : Nat → Int} {n : Nat} {v : Int} (h : JR s n v) : 1 ≤ n := by
  induction h with
  | one => exact Nat.le_refl _
  | mul hp _ ih => exact Nat.mul_pos (by have := hp.1; omega) ih
theorem JR.div {s : Nat → Int} {n : Nat} {v : Int} (h : JR s n v) {q : Nat} (hq : Pr q) : q ∣ n → ∃ m v', n = q * m ∧ JR s m v' ∧ v = s q * v' := by
  induction h with
  | one => exact fun h => absurd h hq.not_dvd_one
  | @mul p n v hp hn ih =>
    intro hd
    by_cases hqp : q = p
    · subst hqp; exact ⟨n, v, rfl, hn, rfl⟩
    · rcases hq.dvd_mul hd with hd | hd
      · exact absurd (hq.eq_of_dvd hp hd) hqp
      · obtain ⟨m, v', rfl, hm, rfl⟩ := ih hd
        refine ⟨p * m, s p * v', ?_, .mul hp hm, ?_⟩
        · rw [← Nat.mul_assoc, ← Nat.mul_assoc, Nat.mul_comm p q]
        · rw [← Int.mul_assoc, ← Int.mul_assoc, Int.mul_comm (s p)]
theorem JR.fn {s : Nat → Int} {n : Nat} {v : Int} (h : JR s n v) : ∀ {v' : Int}, JR s n v' → v = v' := by
  induction h with
  | one =>
    intro v' h'
    generalize hn : 1 = n at h'
    cases h' with
    | one => rfl
    | @mul p n v hp h2 => exact absurd ⟨n, hn⟩ hp.not_dvd_one
  | @mul p n v hp hn ih =>
    intro v' h'
    obtain ⟨m, w, hm, hw, rfl⟩ := h'.div hp ⟨n, rfl⟩
    have : n = m := Nat.eq_of_mul_eq_mul_left (by have := hp.1; omega) hm
    subst this
    rw [ih hw]
theorem JR.times {s : Nat → Int} {m : Nat} {v : Int} (h : JR s m v) {n : Nat} {w : Int} (h' : JR s n w) : JR s (m * n) (v * w) := by
  induction h with
  | one => simpa using h'
  | mul hp _ ih => rw [Nat.mul_assoc, Int.mul_assoc]; exact .mul hp ih
theorem JR.prime {s : Nat → Int} {p : Nat} (hp : Pr p) : JR s p (s p) := by
  have := JR.mul (s := s) hp JR.one
  simpa using this
theorem JR.pow {s : Nat → Int} {p : Nat} (hp : Pr p) : ∀ e, JR s (p ^ e) (s p ^ e)
  | 0 => by simpa using JR.one
  | e + 1 => by
    rw [Nat.pow_succ, Int.pow_succ]
    exact (JR.pow hp e).times (JR.prime hp)
/-- The value of a factor list. -/
def val (s : Nat → Int) : List (Nat × Nat) → Int
  | [] => 1
  | (p, e) :: L => s p ^ e * val s L
theorem JR.congr {s t : Nat → Int} {n : Nat} {v : Int} (h : JR s n v) : (∀ p, Pr p → p ∣ n → s p = t p) → JR t n v := by
  induction h with
  | one => exact fun _ => .one
  | @mul p n v hp hn ih =>
    intro hst
    rw [hst p hp ⟨n, rfl⟩]
    exact .mul hp (ih fun q hq hd => hst q hq (Nat.dvd_trans hd ⟨p, Nat.mul_comm _ _⟩))
end Go.Proofs.YtgbndganadelpaaGreatDoor.Num
/- Laws: residues, powers modulo a prime number, the symbol of a unit. -/
namespace Go.Proofs.YtgbndganadelpaaGreatDoor.V
open Go Go.Proofs.YtgbndganadelpaaGreatDoor.E Go.Proofs.YtgbndganadelpaaGreatDoor.LI Go.Proofs.YtgbndganadelpaaGreatDoor.Num
set_option linter.unusedVariables false
set_option linter.unusedSimpArgs false
theorem sq_le {d n : Nat} (h : d * d ≤ n) (hn : n ≤ 2147483647) : d ≤ 46340 := by
  apply Classical.byContradiction
  intro hc
  have := Nat.mul_le_mul (show 46341 ≤ d by omega) (show 46341 ≤ d by omega)
  omega
theorem sq_wrap {d : Nat} (h : d ≤ 46342) : IntKind.wrap .i64 ((d : Int) * d) = ((d * d : Nat) : Int) := by
  have := Nat.mul_le_mul h h
  rw [← Int.natCast_mul]
  apply wi64 <;> omega
theorem tmod_nat (m n : Nat) : Int.tmod (m : Int) (n : Int) = ((m % n : Nat) : Int) := (Int.ofNat_tmod m n).symm
theorem tdiv_nat (m n : Nat) : Int.tdiv (m : Int) (n : Int) = ((m / n : Nat) : Int) := (Int.ofNat_tdiv m n).symm
theorem half_wrap (e : Nat) (he : e ≤ 2147483647) : IntKind.wrap .i64 (Int.tdiv (e : Int) 2) = ((e / 2 : Nat) : Int) := by
  rw [show Int.tdiv (e : Int) 2 = ((e / 2 : Nat) : Int) from tdiv_nat e 2]
  exact wi64 (by omega) (by omega)
/-- The symbol of a residue r modulo an odd prime number. -/
def lg (r p : Nat) : Int := if r ^ ((p - 1) / 2) % p = 1 then 1 else -1
end Go.Proofs.YtgbndganadelpaaGreatDoor.V
