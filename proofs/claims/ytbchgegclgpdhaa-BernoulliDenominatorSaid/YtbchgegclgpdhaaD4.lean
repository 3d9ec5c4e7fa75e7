/- Laws of integer: long division in general; greatest common divisors. -/
import Derived.Test.YtbchgegclgpdhaaD3
namespace Go.Proofs.Ytbchgegclgpdhaa.V
open Go Go.Proofs.Ytbchgegclgpdhaa.E Go.Proofs.Ytbchgegclgpdhaa.LI
set_option linter.unusedVariables false
set_option linter.unusedSimpArgs false

theorem lv_high {l : List Int} {k : Nat} (h : lv l < 4294967296 ^ k) : lv (l.drop k) = 0 ∧ lv (l.take k) = lv l := by
  by_cases hk : k ≤ l.length
  · have h1 := lv_split l k hk
    have h2 : lv (l.drop k) = 0 := by
      rcases Nat.eq_zero_or_pos (lv (l.drop k)) with h3 | h3
      · exact h3
      · have := Nat.mul_le_mul_left (4294967296 ^ k) (show 1 ≤ lv (l.drop k) from h3)
        omega
    rw [h2] at h1
    exact ⟨h2, by omega⟩
  · rw [List.drop_eq_nil_of_le (by omega), List.take_of_length_le (by omega)]
    exact ⟨rfl, rfl⟩
theorem div_loop {v : List Int} (hv : Lim v) {n : Nat} (hn : v.length = n + 2) (hv1 : 2147483648 ≤ dg v (n + 1)) (t1 : List Int) (ht1 : t1.length = n + 2) (t8 : Int) {K : Nat} (hb : K + n + 2 < 1000000000) (U0 : Nat) : ∀ (i : Nat) (u q : List Int), i ≤ K → u.length = K + n + 2 → q.length = K → Lim u → Lim q → lv (u.drop i) < lv v → U0 = lv u + lv v * (4294967296 ^ i * lv (q.drop i)) →
    ∃ (u' q' : List Int), iterL (fun x : List Int × Int × List Int × Int × List Int × List Int × Unit => integer_divide.s0 x.1 x.2.1 x.2.2.1 x.2.2.2.1 x.2.2.2.2.1 x.2.2.2.2.2.1) (t1, t8, v, (i : Int) - 1, u, q, ()) = some (t1, t8, u', q', ()) ∧
      u'.length = K + n + 2 ∧ q'.length = K ∧ Lim u' ∧ Lim q' ∧ lv u' < lv v ∧ U0 = lv u' + lv v * lv q' := by
  intro i
  induction i with
  | zero =>
    intro u q _ hu1 hq1 hu hq hlt he
    refine ⟨u, q, iterL_done ?_, hu1, hq1, hu, hq, by simpa using hlt, by simpa using he⟩
    simp only [integer_divide.s0, cite, decide_eq_true_eq]
    rw [if_neg (by omega)]
  | succ i ih =>
    intro u q hi hu1 hq1 hu hq hlt he
    have hdi := dg_lt hu i
    have hd := drop_dg (l := u) (i := i) (by omega)
    have hVlt := lv_lt hv
    rw [hn] at hVlt
    have hWlt : lv (u.drop i) < lv v * 4294967296 := by
      have := Nat.mul_le_mul_left 4294967296 (show lv (u.drop (i + 1)) + 1 ≤ lv v from hlt)
      omega
    have hhi := lv_high (l := u.drop i) (k := n + 3) (by
      have : 4294967296 ^ (n + 3) = 4294967296 ^ (n + 2) * 4294967296 := Nat.pow_succ _ _
      omega)
    have hwl : ((u.drop i).take (n + 3)).length = n + 3 := by rw [List.length_take, List.length_drop]; omega
    obtain ⟨r, r1, r2, r3, r4⟩ := digit_ok ((hu.drop i).take (n + 3)) hv hn hwl (by omega) hv1 (by rw [hhi.2]; exact hWlt)
    rw [hhi.2] at r1 r4
    have hV0 : 0 < lv v := by omega
    have hQlt : lv (u.drop i) / lv v < 4294967296 := by rw [Nat.div_lt_iff_lt_mul hV0, Nat.mul_comm]; exact hWlt
    have hdm := Nat.div_add_mod (lv (u.drop i)) (lv v)
    have hml := Nat.mod_lt (lv (u.drop i)) hV0
    have hh0 : lv (u.drop (i + (n + 3))) = 0 := by rw [← List.drop_drop]; exact hhi.1
    obtain ⟨Q, hQ⟩ : ∃ Q, Q = lv (u.drop i) / lv v := ⟨_, rfl⟩
    rw [← hQ] at r1 hQlt hdm
    obtain ⟨u1, hu1e⟩ : ∃ u1, u1 = u.take i ++ r ++ u.drop (i + (n + 3)) := ⟨_, rfl⟩
    have htl : (u.take i).length = i := by rw [List.length_take]; omega
    have hL1 : Lim u1 := by rw [hu1e]; exact ((hu.take i).append r3).append (hu.drop _)
    have hlen1 : u1.length = K + n + 2 := by rw [hu1e, List.length_append, List.length_append, htl, r2, List.length_drop]; omega
    have hdrop1 : lv (u1.drop i) = lv r := by
      rw [hu1e, List.append_assoc, List.drop_append_of_le_length (by omega), List.drop_eq_nil_of_le (by omega), List.nil_append, lv_append, hh0, Nat.mul_zero, Nat.add_zero]
    have htake1 : u1.take i = u.take i := by rw [hu1e, List.append_assoc, List.take_append_of_le_length (by omega), List.take_of_length_le (by omega)]
    have hs := lv_split u i (by omega)
    have hs1 := lv_split u1 i (by omega)
    rw [hdrop1, htake1] at hs1
    obtain ⟨u', q', g1, g2⟩ := ih u1 (q.set i (Q : Int)) (by omega) hlen1 (by simpa using hq1) hL1 (hq.set _ (by omega)) (by rw [hdrop1, r4]; exact hml) (by
      rw [drop_set q i _ (by omega), lv_cons, hs1, he, hs, ← hdm, r4, Nat.pow_succ]
      have e1 : lv v * (4294967296 ^ i * Q) = 4294967296 ^ i * (lv v * Q) := Nat.mul_left_comm _ _ _
      simp only [Nat.mul_add, Nat.mul_assoc] at e1 ⊢
      omega)
    refine ⟨u', q', (iterL_next ?_).trans g1, g2⟩
    simp only [integer_divide.s0, integer_divide.j3, cite, decide_eq_true_eq, inB_t, inC_t, Bool.and_eq_true]
    have w1 : IntKind.wrap .i64 (((i + 1 : Nat) : Int) - 1 + ((t1.length : Nat) : Int)) = ((i + (n + 2) : Nat) : Int) := by rw [wi64 (by omega) (by omega)]; omega
    have w2 : IntKind.wrap .i64 (((i + (n + 2) : Nat) : Int) + 1) = ((i + (n + 3) : Nat) : Int) := by rw [wi64 (by omega) (by omega)]; omega
    have w3 : ((i + 1 : Nat) : Int) - 1 = (i : Int) := by omega
    rw [w1, w2, w3, if_pos (by omega), if_pos (by omega), if_pos (by omega)]
    simp only [Int.toNat_natCast, Nat.zero_add]
    rw [show i + (n + 3) - i = n + 3 by omega, r1, Option.bind_some, if_pos (by omega), wi64 (by omega) (by omega), hwl, hu1e]
theorem len_ge {a b : Nat} (h : a ≤ b) : (limbs a).length ≤ (limbs b).length := limbs_len.2 (Nat.lt_of_le_of_lt h (limbs_len.1 (Nat.le_refl _)))
theorem divide_ok {M N : Nat} (hM : (limbs M).length < 33554432) (hN : 0 < N) : integer_divide (limbs M) (limbs N) = some (limbs (M / N), limbs (M % N), ()) := by
  by_cases hlt : M < N
  · exact divide_small (by omega) hlt
  by_cases h1 : N < 4294967296
  · exact divide_one (by omega) hN h1
  have hge : N ≤ M := by omega
  have hln : (limbs N).length ≤ (limbs M).length := len_ge hge
  obtain ⟨n, hn⟩ : ∃ n, (limbs N).length = n + 2 := by
    have : ¬ (limbs N).length ≤ 1 := fun h => by have := limbs_len.1 h; omega
    exact ⟨(limbs N).length - 2, by omega⟩
  obtain ⟨K, hK⟩ : ∃ K, (limbs M).length + 1 = K + n + 2 := ⟨(limbs M).length - (n + 1), by omega⟩
  have hLN := lim_limbs N
  have hLM := lim_limbs M
  have htop : 0 < dg (limbs N) (n + 1) := by
    rcases Nat.eq_zero_or_pos (dg (limbs N) (n + 1)) with h | h
    · exfalso
      have e := lv_take_succ (limbs N) (n + 1)
      rw [List.take_of_length_le (by omega), h, Nat.mul_zero, Nat.add_zero] at e
      have h2 := lv_lt (hLN.take (n + 1))
      rw [← e, List.length_take, Nat.min_eq_left (by omega), lv_limbs] at h2
      have := limbs_len.2 h2
      omega
    · exact h
  have htlt := dg_lt hLN (n + 1)
  obtain ⟨s, hs, hz, hs1, hs2⟩ := lz32 htop htlt
  have h2s : 0 < 2 ^ s := Nat.two_pow_pos s
  obtain ⟨u, u1, u2, u3, u4⟩ := shift_ok hLM hs (by omega)
  obtain ⟨w, w1, w2, w3, w4⟩ := shift_ok hLN hs (by omega)
  rw [lv_limbs] at u4 w4
  have hNtop : N = lv ((limbs N).take (n + 1)) + 4294967296 ^ (n + 1) * dg (limbs N) (n + 1) := by
    have e := lv_take_succ (limbs N) (n + 1)
    rwa [List.take_of_length_le (by omega), lv_limbs] at e
  have hNl := lv_lt (hLN.take (n + 1))
  rw [List.length_take, Nat.min_eq_left (by omega)] at hNl
  obtain ⟨P, hP⟩ : ∃ P, P = 4294967296 ^ (n + 1) := ⟨_, rfl⟩
  have hPp : 0 < P := by rw [hP]; exact Nat.pow_pos (by omega)
  rw [← hP] at hNtop hNl
  obtain ⟨g, hg⟩ : ∃ g, g = dg (limbs N) (n + 1) := ⟨_, rfl⟩
  rw [← hg] at hs1 hs2 htop htlt hNtop
  -- the shifted divisor
  have hVlo : P * 2147483648 ≤ 2 ^ s * N := by
    have a1 := Nat.mul_le_mul_left P hs1
    have a2 : 2 ^ s * (P * g) ≤ 2 ^ s * N := Nat.mul_le_mul_left _ (by omega)
    have a3 : 2 ^ s * (P * g) = P * (g * 2 ^ s) := by rw [Nat.mul_left_comm, Nat.mul_comm g]
    omega
  have hVhi : 2 ^ s * N < 4294967296 ^ (n + 2) := by
    have a1 : 2 ^ s * N < 2 ^ s * (P * (g + 1)) := Nat.mul_lt_mul_of_pos_left (by rw [Nat.mul_add]; omega) h2s
    obtain ⟨c, hc, hc0⟩ := two32 s hs
    have a2 : g + 1 ≤ c := by
      apply Classical.byContradiction
      intro h
      have := Nat.mul_le_mul_right (2 ^ s) (show c ≤ g by omega)
      rw [Nat.mul_comm c, hc] at this
      omega
    have a3 : 2 ^ s * (P * (g + 1)) ≤ 2 ^ s * (P * c) := Nat.mul_le_mul_left _ (Nat.mul_le_mul_left _ a2)
    have a4 : 2 ^ s * (P * c) = P * 4294967296 := by rw [Nat.mul_left_comm, hc]
    rw [show n + 2 = n + 1 + 1 from rfl, Nat.pow_succ, ← hP]
    omega
  have hv := lv_high (l := w) (k := n + 2) (by rw [w4]; exact hVhi)
  obtain ⟨v, hve⟩ : ∃ v, v = w.take (n + 2) := ⟨_, rfl⟩
  have hvL : Lim v := by rw [hve]; exact w3.take _
  have hvl : v.length = n + 2 := by rw [hve, List.length_take]; omega
  have hvv : lv v = 2 ^ s * N := by rw [hve, hv.2, w4]
  have hv1 : 2147483648 ≤ dg v (n + 1) := by
    have e := lv_take_succ v (n + 1)
    rw [List.take_of_length_le (by omega), ← hP] at e
    have h2 := lv_lt (hvL.take (n + 1))
    rw [List.length_take, Nat.min_eq_left (by omega), ← hP] at h2
    apply Classical.byContradiction
    intro h
    have := Nat.mul_le_mul_left P (show dg v (n + 1) + 1 ≤ 2147483648 by omega)
    rw [Nat.mul_add] at this
    omega
  have hul : lv (u.drop K) < lv v := by
    have e := lv_split u K (by omega)
    have hm := limbs_len.1 (Nat.le_refl (limbs M).length)
    rw [show (limbs M).length = K + (n + 1) by omega, Nat.pow_add, ← hP] at hm
    rw [u4] at e
    rw [hvv]
    apply Classical.byContradiction
    intro h
    have b1 := Nat.mul_le_mul_left (4294967296 ^ K) (show P * 2147483648 ≤ lv (u.drop K) by omega)
    have b2 : 2 ^ s * M < 2 ^ s * (4294967296 ^ K * P) := Nat.mul_lt_mul_of_pos_left hm h2s
    have b3 : 2 ^ s * (4294967296 ^ K * P) ≤ 2147483648 * (4294967296 ^ K * P) := Nat.mul_le_mul_right _ (by
      have := Nat.pow_le_pow_right (show 2 > 0 by omega) (show s ≤ 31 by omega)
      omega)
    have b4 : 4294967296 ^ K * (P * 2147483648) = 2147483648 * (4294967296 ^ K * P) := by rw [Nat.mul_comm 2147483648, Nat.mul_assoc]
    omega
  obtain ⟨u', q', g1, g2, g3, g4, g5, g6, g7⟩ := div_loop hvL hvl hv1 (limbs N) hn (s : Int) (K := K) (by omega) (lv u) K u (List.replicate K 0) (Nat.le_refl _) (by omega) (by simp) u3 (Lim.replicate _) hul (by
    rw [List.drop_eq_nil_of_le (by simp)]; simp [lv])
  rw [u4, hvv] at g7
  rw [hvv] at g6
  have hq : lv q' = M / N ∧ lv u' / 2 ^ s = M % N := by
    have hNs : 0 < 2 ^ s * N := Nat.mul_pos h2s hN
    have e1 : lv q' = 2 ^ s * M / (2 ^ s * N) := by
      rw [g7, Nat.add_mul_div_left _ _ hNs, Nat.div_eq_of_lt g6, Nat.zero_add]
    have e2 : lv u' = 2 ^ s * M % (2 ^ s * N) := by
      rw [g7, Nat.add_mul_mod_self_left, Nat.mod_eq_of_lt g6]
    rw [Nat.mul_div_mul_left _ _ h2s] at e1
    rw [Nat.mul_mod_mul_left] at e2
    exact ⟨e1, by rw [e2, Nat.mul_div_cancel_left _ h2s]⟩
  have hu' := lv_high (l := u') (k := n + 2) (by omega)
  unfold integer_divide
  rw [compare_ok (by omega), Option.bind_some]
  have hc : ¬ cm (M : Int) (N : Int) < 0 := by unfold cm; split <;> (try split) <;> omega
  simp only [integer_divide.j1, integer_divide.j2, cite, decide_eq_true_eq, inB_t, inC_t, beq_iff_eq, maxL_eq]
  have x1 : IntKind.wrap .i64 (((limbs N).length : Int) - 1) = ((n + 1 : Nat) : Int) := by rw [wi64 (by omega) (by omega)]; omega
  have x2 : IntKind.wrap .u64 (s : Int) = (s : Int) := wu64' (by omega) (by omega)
  have x3 : IntKind.wrap .i64 (IntKind.wrap .i64 (((limbs M).length : Int) - ((limbs N).length : Int)) + 1) = (K : Int) := by rw [wi64 (x := ((limbs M).length : Int) - ((limbs N).length : Int)) (by omega) (by omega), wi64 (by omega) (by omega)]; omega
  have x4 : IntKind.wrap .i64 (((List.replicate (K : Nat) (0 : Int)).length : Int) - 1) = (K : Int) - 1 := by rw [List.length_replicate, wi64 (by omega) (by omega)]
  rw [if_neg hc, if_neg (by omega), x1, if_pos (by omega), Int.toNat_natCast, gd hLN, hz, Option.bind_some, x2, u1, Option.bind_some, w1, Option.bind_some, if_pos (by omega), x3, if_pos (by omega)]
  simp only [Int.toNat_natCast, List.drop_zero]
  rw [x4, hn, ← hve, g1, Option.bind_some]
  simp only [integer_divide.k0, cite, inC_t]
  have hul' : (limbs (lv u')).length ≤ n + 2 := limbs_len.2 (by omega)
  rw [trim_ok g5 (by omega), Option.bind_some, if_pos (by omega), Int.toNat_natCast, hn, trim_ok (g4.take _) (by rw [List.length_take]; omega), Option.bind_some, hu'.2, unshift_ok (lim_limbs _) hs (by omega), Option.bind_some, lv_limbs, hq.1, hq.2]
theorem divmodG {a b : Int} (ha : (limbs a.natAbs).length < 33554432) (hb : (limbs b.natAbs).length < 33554432) (h0 : b ≠ 0) : integer_DivMod (mkI a) (mkI b) = some (mkI (a / b), mkI (a % b), true, ()) := by
  have hd := divmod_of (mkI a).1 (mkI b).1 () () (lim_mkI a) (lim_mkI b) ha hb (by rw [iv_mkI]; exact h0) (by rw [lv_mkI, lv_mkI]; exact divide_ok ha (by omega))
  rwa [iv_mkI, iv_mkI] at hd
theorem normI {z : Int} (hz : (limbs z.natAbs).length ≤ 1073741824) : integer_Normalize (mkI z) = some (mkI z) := by
  have hx : (limbs z.natAbs).length ≤ 1073741824 := hz
  unfold integer_Normalize
  rw [magnitude_ok _ () (lim_mkI z) (by rw [len_mkI]; omega), Option.bind_some, lv_mkI]
  simp only [cite, inC_t, maxL_eq, Int.toNat_natCast, List.length_replicate]
  rw [if_pos (by omega), List.take_length, List.drop_eq_nil_of_le (by simp), List.append_nil, signed_ok _ (lim_limbs _) (by omega), Option.bind_some]
  have : iv (mkI z).1 (limbs z.natAbs) = z := iv_mkI z
  rw [this]
theorem gcd_loop (c : Bool × List Int × Unit) : ∀ (b a : Nat), (limbs a).length < 33554432 → (limbs b).length < 33554432 →
    iterL (fun x : List Int × List Int × (Bool × List Int × Unit) × Unit => integer_Gcd.s0 x.1 x.2.1 x.2.2.1) (limbs a, limbs b, c, ()) = some (limbs (Nat.gcd a b), c, ()) := by
  intro b
  induction b using Nat.strongRecOn with
  | ind b ih =>
    intro a ha hb
    by_cases h0 : b = 0
    · subst h0
      refine iterL_done ?_
      simp only [integer_Gcd.s0, cite, decide_eq_true_eq]
      rw [if_neg (by rw [limbs_zero]; decide), Nat.gcd_zero_right]
    · have hp := limbs_len_pos.2 h0
      have hm : a % b < b := Nat.mod_lt _ (by omega)
      have hlm := len_le (Nat.le_of_lt hm)
      have key := ih (a % b) hm b hb (by omega)
      rw [Nat.gcd_comm a b, Nat.gcd_rec b a, Nat.gcd_comm]
      refine (iterL_next ?_).trans key
      simp only [integer_Gcd.s0, integer_Gcd.j1, cite, decide_eq_true_eq]
      rw [if_pos (by omega), divide_ok ha (by omega), Option.bind_some]
theorem gcdI {a b : Int} (ha : (limbs a.natAbs).length < 33554432) (hb : (limbs b.natAbs).length < 33554432) : integer_Gcd (mkI a) (mkI b) = some (mkI (Int.gcd a b : Nat)) := by
  have n1 : integer_Normalize ((mkI a).1, ((mkI a).2.1, ())) = _ := normI (z := a) (by omega)
  have n2 : integer_Normalize ((mkI b).1, ((mkI b).2.1, ())) = _ := normI (z := b) (by omega)
  have g := gcd_loop (false, ([], ())) b.natAbs a.natAbs ha hb
  have g' : iterL (fun x : List Int × List Int × (Bool × List Int × Unit) × Unit => integer_Gcd.s0 x.1 x.2.1 x.2.2.1) ((mkI a).2.1, (mkI b).2.1, (false, ([], ())), ()) = _ := g
  have hl : (limbs (Nat.gcd a.natAbs b.natAbs)).length < 33554433 := by
    by_cases h0 : a.natAbs = 0
    · rw [h0, Nat.gcd_zero_left]; omega
    · have := len_le (Nat.gcd_le_left b.natAbs (show 0 < a.natAbs by omega))
      omega
  unfold integer_Gcd
  rw [n1, Option.bind_some, n2, Option.bind_some, g', Option.bind_some]
  simp only [integer_Gcd.k0]
  rw [signed_ok _ (lim_limbs _) (by omega), Option.bind_some, iv_f, lv_limbs]
  rfl
end Go.Proofs.Ytbchgegclgpdhaa.V
