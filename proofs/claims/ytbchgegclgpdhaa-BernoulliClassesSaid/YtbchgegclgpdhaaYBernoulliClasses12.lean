/- Laws: comparison; sums and differences, of the reference and of integer. -/
import Derived.Test.YtbchgegclgpdhaaYBernoulliClasses11
namespace Go.Proofs.Ytbchgegclgpdhaa.V
open Go Go.Proofs.Ytbchgegclgpdhaa.E Go.Proofs.Ytbchgegclgpdhaa.LI
set_option linter.unusedVariables false
set_option linter.unusedSimpArgs false
def cm (a b : Int) : Int := if a < b then -1 else if a = b then 0 else 1
theorem cm_lt {a b : Int} (h : a < b) : cm a b = -1 := if_pos h
theorem cm_gt {a b : Int} (h : b < a) : cm a b = 1 := by unfold cm; rw [if_neg (by omega), if_neg (by omega)]
theorem cm_eq {a b : Int} (h : a = b) : cm a b = 0 := by unfold cm; rw [if_neg (by omega), if_pos h]
theorem top_lt {m n : List Int} (hm : Lim m) {i : Nat} (h1 : i < m.length) (h2 : i < n.length) (hd : m.drop (i + 1) = n.drop (i + 1)) (h : dg m i < dg n i) : lv m < lv n := by
  rw [lv_split m i (by omega), lv_split n i (by omega), drop_dg h1, drop_dg h2, hd]
  have h3 := lv_lt (hm.take i)
  rw [List.length_take, Nat.min_eq_left (by omega)] at h3
  have h4 : 4294967296 ^ i * (dg m i + 1 + 4294967296 * lv (n.drop (i + 1))) ≤ 4294967296 ^ i * (dg n i + 4294967296 * lv (n.drop (i + 1))) := Nat.mul_le_mul_left _ (by omega)
  have h5 : 4294967296 ^ i * (dg m i + 1 + 4294967296 * lv (n.drop (i + 1))) = 4294967296 ^ i * (dg m i + 4294967296 * lv (n.drop (i + 1))) + 4294967296 ^ i := by
    rw [show dg m i + 1 + 4294967296 * lv (n.drop (i + 1)) = (dg m i + 4294967296 * lv (n.drop (i + 1))) + 1 from by omega, Nat.mul_add, Nat.mul_one]
  omega
theorem cmp_loop {m n : List Int} (hm : Lim m) (hn : Lim n) (hl : m.length = n.length) (hb : m.length < 17592186044416) : ∀ i, i ≤ m.length → m.drop i = n.drop i →
    ∃ z, iterL (fun x : List Int × List Int × Int × Unit => integer_compare.s0 x.1 x.2.1 x.2.2.1) (m, n, (i : Int) - 1, ()) = some z ∧ ((z = .inl () ∧ cm (lv m) (lv n) = 0) ∨ z = .inr (cm (lv m) (lv n), ())) := by
  intro i
  induction i with
  | zero =>
    intro _ h
    rw [List.drop_zero, List.drop_zero] at h
    refine ⟨_, iterL_done ?_, .inl ⟨rfl, cm_eq (by rw [h])⟩⟩
    simp only [integer_compare.s0, cite, decide_eq_true_eq]
    rw [if_neg (by omega)]
  | succ i ih =>
    intro hi h
    have hst : integer_compare.s0 m n (((i + 1 : Nat) : Int) - 1) = if (dg m i : Int) = dg n i then some (.inl (m, n, (i : Int) - 1, ())) else if (dg m i : Int) < dg n i then some (.inr (.inr (-1, ()))) else some (.inr (.inr (1, ()))) := by
      simp only [integer_compare.s0, integer_compare.j3, integer_compare.j4, integer_compare.j5, cite, decide_eq_true_eq, inB_t, bne_iff_ne]
      rw [show ((i + 1 : Nat) : Int) - 1 = (i : Int) from by omega, Int.toNat_natCast, gd hm, gd hn, if_pos (by omega), if_pos (by omega), if_pos (by omega)]
      by_cases h0 : (dg m i : Int) = dg n i
      · rw [if_neg (fun h => h h0), if_pos h0, wi64 (by omega) (by omega)]
      · rw [if_pos h0, if_neg h0, if_pos (by omega), if_pos (by omega)]
    by_cases h0 : dg m i = dg n i
    · obtain ⟨z, hz, hz2⟩ := ih (by omega) (by
        rw [List.drop_eq_getElem_cons (l := m) (i := i) (by omega), List.drop_eq_getElem_cons (l := n) (i := i) (by omega), h]
        congr 1
        have h1 := dg_int hm i
        have h2 := dg_int hn i
        rw [h0, h2] at h1
        simp only [List.getD, List.getElem?_eq_getElem (show i < m.length by omega), List.getElem?_eq_getElem (show i < n.length by omega), Option.getD_some] at h1
        exact h1.symm)
      exact ⟨z, (iterL_next (by simp only []; rw [hst, if_pos (by omega)])).trans hz, hz2⟩
    · by_cases h1 : dg m i < dg n i
      · have := top_lt hm (by omega) (by omega) h h1
        exact ⟨_, iterL_done (by simp only []; rw [hst, if_neg (by omega), if_pos (by omega)]), .inr (by rw [cm_lt (by omega)])⟩
      · have := top_lt hn (by omega) (by omega) h.symm (show dg n i < dg m i by omega)
        exact ⟨_, iterL_done (by simp only []; rw [hst, if_neg (by omega), if_neg (by omega)]), .inr (by rw [cm_gt (by omega)])⟩
theorem cmp_same {m n : List Int} (hm : Lim m) (hn : Lim n) (hl : m.length = n.length) (hb : m.length < 17592186044416) : integer_compare m n = some (cm (lv m) (lv n)) := by
  obtain ⟨z, h1, h2⟩ := cmp_loop hm hn hl hb m.length (Nat.le_refl _) (by rw [List.drop_length, hl, List.drop_length])
  unfold integer_compare
  simp only [integer_compare.j2, cite, bne_iff_ne]
  rw [if_neg (by simp [hl]), wi64 (by omega) (by omega), h1, Option.bind_some]
  rcases h2 with ⟨rfl, h2⟩ | rfl
  · simp only [integer_compare.k0_0, h2]
  · rfl
theorem compare_ok {a b : Nat} (ha : (limbs a).length < 17592186044416) : integer_compare (limbs a) (limbs b) = some (cm a b) := by
  by_cases h : (limbs a).length = (limbs b).length
  · have := cmp_same (lim_limbs a) (lim_limbs b) h ha
    rwa [lv_limbs, lv_limbs] at this
  · unfold integer_compare
    simp only [integer_compare.j1, cite, bne_iff_ne, decide_eq_true_eq]
    rw [if_pos (by omega)]
    by_cases h1 : (limbs a).length < (limbs b).length
    · have : ¬ b < 4294967296 ^ (limbs a).length := fun hc => by have := limbs_len.2 hc; omega
      have := limbs_len.1 (Nat.le_refl (limbs a).length)
      rw [if_pos (by omega), cm_lt (by omega)]
    · have : ¬ a < 4294967296 ^ (limbs b).length := fun hc => by have := limbs_len.2 hc; omega
      have := limbs_len.1 (Nat.le_refl (limbs b).length)
      rw [if_neg (by omega), cm_gt (by omega)]
theorem rcmp_eq (m n : List Int) : quadformref01_cmp m n = integer_compare m n := rfl
theorem rcmp_ok {a b : Nat} (ha : (limbs a).length < 17592186044416) : quadformref01_cmp (limbs a) (limbs b) = some (cm a b) := (rcmp_eq _ _).trans (compare_ok ha)
theorem lv_snoc (l : List Int) (d : Nat) : lv (l ++ [(d : Int)]) = lv l + 4294967296 ^ l.length * d := by
  rw [lv_append, lv_one, Int.toNat_natCast]
theorem lim_snoc {l : List Int} (h : Lim l) {d : Nat} (hd : d < 4294967296) : Lim (l ++ [(d : Int)]) := h.append (Lim.one (by omega))
theorem sum_step {m n : List Int} (hm : Lim m) (hn : Lim n) {i c : Nat} {out : List Int} (hi : i < m.length ∨ i < n.length) (hl : out.length = i) (hc : c ≤ 1) (hb : m.length < 1073741824) (hb' : n.length < 1073741824) :
    quadformref01_sum.s0 m n (c : Int) (i : Int) out = some (.inl (m, n, (((c + dg m i + dg n i) / 4294967296 : Nat) : Int), ((i + 1 : Nat) : Int), out ++ [(((c + dg m i + dg n i) % 4294967296 : Nat) : Int)], ())) := by
  have hdm := dg_lt hm i
  have hdn := dg_lt hn i
  have j2 : ∀ x : Nat, x < 12884901888 → quadformref01_sum.j2 m n (x : Int) (i : Int) out = some (.inl (m, n, ((x / 4294967296 : Nat) : Int), ((i + 1 : Nat) : Int), out ++ [((x % 4294967296 : Nat) : Int)], ())) := fun x hx => by
    simp only [quadformref01_sum.j2, cite, decide_eq_true_eq, maxL_eq]
    rw [if_pos (by simp [hl]; omega), hi_word, wu32, up (by omega)]
    congr 5
  have j1 : ∀ x : Nat, x < 8589934592 → quadformref01_sum.j1 m n (x : Int) (i : Int) out = some (.inl (m, n, (((x + dg n i) / 4294967296 : Nat) : Int), ((i + 1 : Nat) : Int), out ++ [(((x + dg n i) % 4294967296 : Nat) : Int)], ())) := fun x hx => by
    simp only [quadformref01_sum.j1, cite, decide_eq_true_eq, inB_t]
    rw [Int.toNat_natCast, gd hn, wu64' (x := ((dg n i : Nat) : Int)) (by omega) (by omega)]
    by_cases h5 : i < n.length
    · rw [if_pos (by omega), if_pos (by omega), wu64' (by omega) (by omega)]
      exact j2 (x + dg n i) (by omega)
    · rw [if_neg (by omega), dg_out (by omega)]
      exact j2 x (by omega)
  simp only [quadformref01_sum.s0, quadformref01_sum.j3, cite, decide_eq_true_eq, inB_t]
  rw [Int.toNat_natCast, gd hm, wu64' (x := ((dg m i : Nat) : Int)) (by omega) (by omega)]
  by_cases h4 : i < m.length
  · rw [if_pos (by omega), if_pos (by omega), if_pos (by omega), wu64' (by omega) (by omega)]
    exact j1 (c + dg m i) (by omega)
  · have h6 : dg m i = 0 := dg_out (by omega)
    rw [if_neg (by omega), if_pos (by omega), if_neg (by omega), h6]
    exact j1 c (by omega)
theorem sum_loop {m n : List Int} (hm : Lim m) (hn : Lim n) (hb : m.length < 1073741824) (hb' : n.length < 1073741824) : ∀ (t i : Nat) (out : List Int) (c : Nat), max m.length n.length - i = t → i ≤ max m.length n.length → out.length = i → Lim out → c ≤ 1 →
    lv out + 4294967296 ^ i * c = lv (m.take i) + lv (n.take i) → ∃ (c' : Nat) (o' : List Int), c' ≤ 1 ∧ Lim o' ∧ lv o' + 4294967296 ^ max m.length n.length * c' = lv m + lv n ∧ o'.length = max m.length n.length ∧
      iterL (fun x : List Int × List Int × Int × Int × List Int × Unit => quadformref01_sum.s0 x.1 x.2.1 x.2.2.1 x.2.2.2.1 x.2.2.2.2.1) (m, n, (c : Int), (i : Int), out, ()) = some ((c' : Int), o', ()) := by
  intro t
  induction t with
  | zero =>
    intro i out c ht hi hl ho hc he
    obtain rfl : i = max m.length n.length := by omega
    refine ⟨c, out, hc, ho, ?_, hl, iterL_done ?_⟩
    · rw [he, List.take_of_length_le (by omega), List.take_of_length_le (by omega)]
    · simp only [quadformref01_sum.s0, cite, decide_eq_true_eq]
      rw [if_neg (by omega), if_neg (by omega)]
  | succ t ih =>
    intro i out c ht hi hl ho hc he
    have hdm := dg_lt hm i
    have hdn := dg_lt hn i
    have h1 := lv_take_succ m i
    have h2 := lv_take_succ n i
    obtain ⟨c', o', hr1, hr2, hr3, hr4, hr5⟩ := ih (i + 1) (out ++ [(((c + dg m i + dg n i) % 4294967296 : Nat) : Int)]) ((c + dg m i + dg n i) / 4294967296) (by omega) (by omega) (by simp [hl]) (lim_snoc ho (by omega)) (by omega) (by
      rw [lv_snoc, hl, h1, h2, Nat.pow_succ]
      have h3 : 4294967296 ^ i * (c + dg m i + dg n i) = 4294967296 ^ i * ((c + dg m i + dg n i) % 4294967296) + 4294967296 ^ i * (4294967296 * ((c + dg m i + dg n i) / 4294967296)) := by
        rw [← Nat.mul_add, Nat.mod_add_div]
      rw [Nat.mul_add, Nat.mul_add] at h3
      rw [Nat.mul_assoc]
      omega)
    exact ⟨c', o', hr1, hr2, hr3, hr4, (iterL_next (sum_step hm hn (by omega) hl hc hb hb')).trans hr5⟩
theorem sum_ok {m n : List Int} (hm : Lim m) (hn : Lim n) (hb : m.length < 1073741824) (hb' : n.length < 1073741824) : ∃ r, Lim r ∧ lv r = lv m + lv n ∧ r.length = max m.length n.length + 1 ∧ quadformref01_sum m n = some r := by
  obtain ⟨c, o, h1, h2, h3, h4, h5⟩ := sum_loop hm hn hb hb' _ 0 [] 0 rfl (by omega) rfl Lim.nil (by omega) (by simp [lv])
  refine ⟨o ++ [(c : Int)], lim_snoc h2 (by omega), by rw [lv_snoc, h4, h3], by simp [h4], ?_⟩
  unfold quadformref01_sum
  rw [show ((0 : Nat) : Int) = 0 from rfl] at h5
  rw [h5, Option.bind_some]
  simp only [quadformref01_sum.k0, cite, decide_eq_true_eq, maxL_eq]
  rw [if_pos (by simp [h4]; omega), wu32' (by omega) (by omega)]
theorem diff_loop {m n : List Int} (hm : Lim m) (hn : Lim n) (hb : m.length < 1073741824) : ∀ (t i : Nat) (out : List Int) (c : Nat), m.length - i = t → i ≤ m.length → out.length = i → Lim out → c ≤ 1 →
    lv (m.take i) + 4294967296 ^ i * c = lv out + lv (n.take i) → ∃ r c', Lim r ∧ lv m + 4294967296 ^ m.length * c' = lv r + lv (n.take m.length) ∧ r.length = m.length ∧
      iterL (fun x : List Int × List Int × Int × Int × List Int × Unit => quadformref01_difference.s0 x.1 x.2.1 x.2.2.1 x.2.2.2.1 x.2.2.2.2.1) (m, n, (c : Int), (i : Int), out, ()) = some (r, ()) := by
  intro t
  induction t with
  | zero =>
    intro i out c ht hi hl ho hc he
    obtain rfl : i = m.length := by omega
    refine ⟨out, c, ho, by rwa [List.take_length] at he, hl, iterL_done ?_⟩
    simp only [quadformref01_difference.s0, cite, decide_eq_true_eq]
    rw [if_neg (by omega)]
  | succ t ih =>
    intro i out c ht hi hl ho hc he
    have hdm := dg_lt hm i
    have hdn := dg_lt hn i
    have h1 := lv_take_succ m i
    have h2 := lv_take_succ n i
    obtain ⟨d, c', hd, hc', h3, h7⟩ : ∃ d c' : Nat, d < 4294967296 ∧ c' ≤ 1 ∧ dg m i + 4294967296 * c' = c + d + dg n i ∧ (c' = if dg m i < c + dg n i then 1 else 0) := by
      by_cases h : dg m i < c + dg n i
      · exact ⟨dg m i + 4294967296 - c - dg n i, 1, by omega, by omega, by omega, by rw [if_pos h]⟩
      · exact ⟨dg m i - c - dg n i, 0, by omega, by omega, by omega, by rw [if_neg h]⟩
    obtain ⟨r, cc, hr1, hr2, hr3, hr4⟩ := ih (i + 1) (out ++ [(d : Int)]) c' (by omega) (by omega) (by simp [hl]) (lim_snoc ho hd) hc' (by
      rw [lv_snoc, hl, h1, h2, Nat.pow_succ]
      have h4 : 4294967296 ^ i * (dg m i + 4294967296 * c') = 4294967296 ^ i * (c + d + dg n i) := by rw [h3]
      rw [Nat.mul_add, Nat.mul_add, Nat.mul_add, ← Nat.mul_assoc] at h4
      omega)
    refine ⟨r, cc, hr1, hr2, hr3, (iterL_next ?_).trans hr4⟩
    have j2 : ∀ x : Nat, x = c + dg n i → quadformref01_difference.j2 m n (i : Int) (x : Int) out = some (.inl (m, n, (c' : Int), ((i + 1 : Nat) : Int), out ++ [(d : Int)], ())) := fun x hx => by
      simp only [quadformref01_difference.j2, quadformref01_difference.j3, quadformref01_difference.j4, cite, decide_eq_true_eq, inB_t, maxL_eq]
      have e3 : IntKind.wrap .u32 (IntKind.wrap .u64 ((dg m i : Int) - (x : Int))) = (d : Int) := by rw [wu64, wu32]; omega
      rw [Int.toNat_natCast, gd hm, wu64' (x := ((dg m i : Nat) : Int)) (by omega) (by omega), e3, if_pos (by omega), if_pos (by simp [hl]; omega), if_pos (by omega), up (by omega)]
      by_cases h6 : dg m i < c + dg n i
      · rw [if_pos h6] at h7
        rw [if_pos (by omega), h7]; rfl
      · rw [if_neg h6] at h7
        rw [if_neg (by omega), h7]; rfl
    simp only [quadformref01_difference.s0, quadformref01_difference.j1, cite, decide_eq_true_eq, inB_t]
    rw [if_pos (by omega), Int.toNat_natCast, gd hn, wu64' (x := ((dg n i : Nat) : Int)) (by omega) (by omega)]
    by_cases h5 : i < n.length
    · rw [if_pos (by omega), if_pos (by omega), wu64' (by omega) (by omega)]
      exact j2 (c + dg n i) rfl
    · rw [if_neg (by omega)]
      exact j2 c (by rw [dg_out (by omega)]; rfl)
theorem diff_ok {m n : List Int} (hm : Lim m) (hn : Lim n) (hb : m.length < 1073741824) (hl : n.length ≤ m.length) (h : lv n ≤ lv m) : ∃ r, Lim r ∧ lv r = lv m - lv n ∧ r.length = m.length ∧ quadformref01_difference m n = some r := by
  obtain ⟨r, c, h1, h2, h3, h4⟩ := diff_loop hm hn hb _ 0 [] 0 rfl (by omega) rfl Lim.nil (by omega) (by simp [lv])
  refine ⟨r, h1, ?_, h3, ?_⟩
  · rw [List.take_of_length_le hl] at h2
    have h5 := lv_lt h1
    rw [h3] at h5
    have : c = 0 := by
      cases c with
      | zero => rfl
      | succ c =>
        have : 4294967296 ^ m.length * 1 ≤ 4294967296 ^ m.length * (c + 1) := Nat.mul_le_mul_left _ (by omega)
        omega
    subst this
    omega
  · unfold quadformref01_difference
    rw [show ((0 : Nat) : Int) = 0 from rfl] at h4
    rw [h4]; rfl
theorem len_le {a b : Nat} (h : a ≤ b) : (limbs a).length ≤ (limbs b).length := limbs_len.2 (Nat.lt_of_le_of_lt h (limbs_len.1 (Nat.le_refl _)))
theorem len_lv {l : List Int} (h : Lim l) : (limbs (lv l)).length ≤ l.length := limbs_len.2 (lv_lt h)
theorem iv_mkI (z : Int) : iv (mkI z).1 (mkI z).2.1 = z := iv_mk z
theorem lim_mkI (z : Int) : Lim (mkI z).2.1 := lim_limbs _
theorem lv_mkI (z : Int) : lv (mkI z).2.1 = z.natAbs := lv_limbs _
theorem radd_ok {l l' : List Int} (s s' : Bool) (u u' : Unit) (h : Lim l) (h' : Lim l') (hb : l.length < 1073741823) (hb' : l'.length < 1073741823) : quadformref01_Add (s, l, u) (s', l', u') = some (mkI (iv s l + iv s' l')) := by
  have hx := len_lv h
  have hy := len_lv h'
  unfold quadformref01_Add
  rw [rtrim_ok h (by omega), Option.bind_some, rtrim_ok h' (by omega), Option.bind_some]
  simp only [cite, beq_iff_eq]
  by_cases hs : s = s'
  · subst hs
    obtain ⟨r, h1, h2, h3, h4⟩ := sum_ok (lim_limbs (lv l)) (lim_limbs (lv l')) (by omega) (by omega)
    have h5 := make_ok s h1 (by rw [h3]; omega)
    rw [lv_limbs, lv_limbs] at h2
    rw [show iv s r = iv s l + iv s l' from by unfold iv; split <;> omega] at h5
    rw [if_pos rfl, h4, Option.bind_some, h5]; rfl
  · rw [if_neg hs]
    simp only [quadformref01_Add.j1, quadformref01_Add.j2, cite, decide_eq_true_eq]
    rw [rcmp_ok (by omega), Option.bind_some]
    by_cases hc : lv l' ≤ lv l
    · obtain ⟨r, h1, h2, h3, h4⟩ := diff_ok (lim_limbs (lv l)) (lim_limbs (lv l')) (by omega) (len_le hc) (by rw [lv_limbs, lv_limbs]; exact hc)
      have h5 := make_ok s h1 (by rw [h3]; omega)
      rw [lv_limbs, lv_limbs] at h2
      rw [show iv s r = iv s l + iv s' l' from by cases s <;> cases s' <;> simp_all [iv] <;> omega] at h5
      rw [if_pos (by unfold cm; split <;> (try split) <;> omega), h4, Option.bind_some, h5]; rfl
    · obtain ⟨r, h1, h2, h3, h4⟩ := diff_ok (lim_limbs (lv l')) (lim_limbs (lv l)) (by omega) (len_le (by omega)) (by rw [lv_limbs, lv_limbs]; omega)
      have h5 := make_ok s' h1 (by rw [h3]; omega)
      rw [lv_limbs, lv_limbs] at h2
      rw [show iv s' r = iv s l + iv s' l' from by cases s <;> cases s' <;> simp_all [iv] <;> omega] at h5
      rw [cm_lt (by omega), if_neg (by omega), h4, Option.bind_some, h5]; rfl
theorem rneg_ok {l : List Int} (neg : Bool) (u : Unit) (hl : Lim l) (hn : l.length ≤ 1073741824) : quadformref01_Neg (neg, l, u) = some (mkI (-iv neg l)) := by
  unfold quadformref01_Neg
  rw [make_ok _ hl hn, Option.bind_some, show iv (!neg) l = -iv neg l by cases neg <;> simp [iv]]
theorem rsub_ok {l l' : List Int} (s s' : Bool) (u u' : Unit) (h : Lim l) (h' : Lim l') (hb : l.length < 1073741823) (hb' : l'.length < 1073741823) : quadformref01_Sub (s, l, u) (s', l', u') = some (mkI (iv s l - iv s' l')) := by
  have hy := len_lv h'
  unfold quadformref01_Sub
  rw [rneg_ok s' _ h' (by omega), Option.bind_some]
  have h2 := radd_ok s (mkI (-iv s' l')).1 u () h (lim_mkI (-iv s' l')) hb (by show (limbs (-iv s' l').natAbs).length < _; rw [Int.natAbs_neg, iv_natAbs]; omega)
  rw [iv_mkI, ← Int.sub_eq_add_neg] at h2
  exact (congrArg (fun o => o.bind fun y => some (y.1, (y.2.1, ()))) h2).trans rfl
end Go.Proofs.Ytbchgegclgpdhaa.V
/- Laws of the reference's divisions. -/
namespace Go.Proofs.Ytbchgegclgpdhaa.V
open Go Go.Proofs.Ytbchgegclgpdhaa.E Go.Proofs.Ytbchgegclgpdhaa.LI
set_option linter.unusedVariables false
set_option linter.unusedSimpArgs false
theorem or32_nat (a b : Nat) (ha : a < 4294967296) (hb : b < 4294967296) : orI .u32 (a : Int) (b : Int) = ((a ||| b : Nat) : Int) := by
  have h0 : orI .u32 (a : Int) (b : Int) = IntKind.wrap .u32 (((BitVec.ofInt 32 (a : Int) ||| BitVec.ofInt 32 (b : Int)).toNat : Nat) : Int) := rfl
  rw [h0, wu32, BitVec.ofInt_natCast, BitVec.ofInt_natCast, BitVec.toNat_or, BitVec.toNat_ofNat, BitVec.toNat_ofNat, Nat.mod_eq_of_lt ha, Nat.mod_eq_of_lt hb]
  have : a ||| b < 2 ^ 32 := Nat.or_lt_two_pow ha hb
  omega
theorem and32_one (a : Nat) (ha : a < 4294967296) : andI .u32 (a : Int) 1 = ((a % 2 : Nat) : Int) := by
  have h0 : andI .u32 (a : Int) 1 = IntKind.wrap .u32 (((BitVec.ofInt 32 (a : Int) &&& BitVec.ofInt 32 ((1 : Nat) : Int)).toNat : Nat) : Int) := rfl
  rw [h0, wu32, BitVec.ofInt_natCast, BitVec.ofInt_natCast, BitVec.toNat_and, BitVec.toNat_ofNat, BitVec.toNat_ofNat, Nat.mod_eq_of_lt ha, Nat.mod_eq_of_lt (by decide), Nat.and_one_is_mod]
  omega
theorem shr32 (a r : Nat) (hr : r ≤ 32) : shrI .u32 (a : Int) (r : Int) = ((a / 2 ^ r : Nat) : Int) := by
  unfold shrI
  rw [show min (r : Int).toNat IntKind.u32.bits = r by rw [Int.toNat_natCast]; exact Nat.min_eq_left hr]
  have : (2 : Int) ^ r = ((2 ^ r : Nat) : Int) := by push_cast; rfl
  rw [this, Int.fdiv_eq_ediv_of_nonneg _ (Int.natCast_nonneg _)]
  rfl
theorem shl32 (a r : Nat) (hr : r ≤ 32) : shlI .u32 (a : Int) (r : Int) = ((a * 2 ^ r % 4294967296 : Nat) : Int) := by
  unfold shlI
  rw [wu32, show min (r : Int).toNat IntKind.u32.bits = r by rw [Int.toNat_natCast]; exact Nat.min_eq_left hr]
  have : (a : Int) * 2 ^ r = ((a * 2 ^ r : Nat) : Int) := by push_cast; rfl
  rw [this]
  omega
theorem shr_bit (x : Nat) (r : Nat) (hx : x < 4294967296) (hr : r < 32) : andI .u32 (shrI .u32 (x : Int) (r : Int)) 1 = ((x / 2 ^ r % 2 : Nat) : Int) := by
  rw [shr32 _ _ (by omega), and32_one _ (Nat.lt_of_le_of_lt (Nat.div_le_self _ _) hx)]
theorem or_bit (x : Nat) (r : Nat) (hx : x < 4294967296) (hr : r < 32) (h0 : x % 2 ^ (r + 1) = 0) : orI .u32 (x : Int) (shlI .u32 1 (r : Int)) = ((x + 2 ^ r : Nat) : Int) := by
  have hp : 2 ^ r < 2 ^ (r + 1) := Nat.pow_lt_pow_right (by omega) (by omega)
  have hp2 : 2 ^ (r + 1) ≤ 2 ^ 32 := Nat.pow_le_pow_right (by omega) (by omega)
  have h1 := shl32 1 r (by omega)
  rw [show ((1 : Nat) : Int) = 1 from rfl, Nat.one_mul, Nat.mod_eq_of_lt (by omega)] at h1
  rw [h1]
  obtain ⟨q, hq⟩ := Nat.dvd_of_mod_eq_zero h0
  rw [or32_nat _ _ hx (by omega), hq, ← Nat.two_pow_add_eq_or_of_lt hp q]
theorem low_step {l : List Int} (hl : Lim l) {u i : Nat} (hi : i < l.length) (h2 : i < 2) (hu : u < 4294967296 ^ i) :
    quadformref01_low.s0 l (u : Int) (i : Int) = some (.inl (l, ((u + 4294967296 ^ i * dg l i : Nat) : Int), ((i + 1 : Nat) : Int), ())) := by
  have hd := dg_lt hl i
  simp only [quadformref01_low.s0, quadformref01_low.j1, cite, decide_eq_true_eq, inB_t]
  rw [Int.toNat_natCast, gd hl, if_pos (by omega), if_pos (by omega), if_pos (by omega), wi64 (x := 32 * (i : Int)) (by omega) (by omega), if_neg (by omega), up (by omega), wu64' (by omega) (by omega)]
  have e : orI .u64 (u : Int) (shlI .u64 ((dg l i : Nat) : Int) (32 * (i : Int))) = ((u + 4294967296 ^ i * dg l i : Nat) : Int) := by
    have h3 : i = 0 ∨ i = 1 := by omega
    rcases h3 with rfl | rfl
    · have hu0 : u = 0 := by simpa using hu
      subst hu0
      have := @shl_nat (dg l 0) 0 (by omega) (by omega)
      rw [show ((0 : Nat) : Int) = 0 from rfl] at this
      rw [show (32 : Int) * ((0 : Nat) : Int) = 0 from rfl, this, orI_nat _ _ (by omega) (by omega)]
      simp
    · have hu1 : u < 4294967296 := by simpa using hu
      have := @shl_nat (dg l 1) 32 (by omega) (by omega)
      rw [show ((32 : Nat) : Int) = 32 from rfl] at this
      rw [show (32 : Int) * ((1 : Nat) : Int) = 32 from rfl, this, orI_nat _ _ (by omega) (by omega), Nat.or_comm, ← Nat.two_pow_add_eq_or_of_lt (by omega) (dg l 1)]
      omega
  rw [e]
theorem low_ok {l : List Int} (hl : Lim l) : quadformref01_low l = some ((lv (l.take 2) : Nat) : Int) := by
  have stop : ∀ (u : Nat) (i : Nat), ¬ (i < l.length ∧ i < 2) → iterL (fun x : List Int × Int × Int × Unit => quadformref01_low.s0 x.1 x.2.1 x.2.2.1) (l, (u : Int), (i : Int), ()) = some ((u : Int), ()) := by
    intro u i h
    refine iterL_done ?_
    simp only [quadformref01_low.s0, cite, decide_eq_true_eq]
    by_cases h1 : i < l.length
    · rw [if_pos (by omega), if_neg (by omega)]
    · rw [if_neg (by omega)]
  have key : iterL (fun x : List Int × Int × Int × Unit => quadformref01_low.s0 x.1 x.2.1 x.2.2.1) (l, ((0 : Nat) : Int), ((0 : Nat) : Int), ()) = some (((lv (l.take 2) : Nat) : Int), ()) := by
    have h1 : lv (l.take 1) = dg l 0 := by have := lv_take_succ l 0; simpa [lv] using this
    have h2 : lv (l.take 2) = lv (l.take 1) + 4294967296 * dg l 1 := by have := lv_take_succ l 1; simpa using this
    by_cases hl0 : 0 < l.length
    · refine (iterL_next (low_step hl (u := 0) (i := 0) hl0 (by omega) (by omega))).trans ?_
      have hd := dg_lt hl 0
      by_cases hl1 : 1 < l.length
      · refine (iterL_next (low_step hl (i := 1) hl1 (by omega) (by simp; omega))).trans ?_
        have e : 0 + 4294967296 ^ 0 * dg l 0 + 4294967296 ^ 1 * dg l 1 = lv (l.take 2) := by rw [h2, h1]; simp
        rw [e]
        exact stop _ 2 (by omega)
      · have e : 0 + 4294967296 ^ 0 * dg l 0 = lv (l.take 2) := by
          rw [dg_out (i := 1) (by omega)] at h2
          rw [h2, h1]
          simp
        rw [e]
        exact stop _ 1 (by omega)
    · have e : 0 = lv (l.take 2) := by
        rw [dg_out (i := 1) (by omega)] at h2
        rw [dg_out (i := 0) (by omega)] at h1
        omega
      have := stop (lv (l.take 2)) 0 (by omega)
      rw [← e] at this ⊢
      exact this
  unfold quadformref01_low
  rw [show ((0 : Nat) : Int) = 0 from rfl] at key
  rw [key]; rfl
theorem double_loop {m : List Int} (hm : Lim m) (hb : m.length < 1073741824) (b0 : Nat) : ∀ (t i : Nat) (out : List Int) (b : Nat), m.length - i = t → i ≤ m.length → out.length = i → Lim out → b ≤ 1 →
    lv out + 4294967296 ^ i * b = 2 * lv (m.take i) + b0 → ∃ b' o', b' ≤ 1 ∧ Lim o' ∧ lv o' + 4294967296 ^ m.length * b' = 2 * lv m + b0 ∧ o'.length = m.length ∧
      iterL (fun x : Int × List Int × Int × Int × List Int × Unit => quadformref01_double.s0 x.1 x.2.1 x.2.2.1 x.2.2.2.1 x.2.2.2.2.1) ((b : Int), m, (m.length : Int), (i : Int), out, ()) = some ((b' : Int), o', ()) := by
  intro t
  induction t with
  | zero =>
    intro i out b ht hi hl ho hc he
    obtain rfl : i = m.length := by omega
    refine ⟨b, out, hc, ho, ?_, hl, iterL_done ?_⟩
    · rw [he, List.take_of_length_le (by omega)]
    · simp only [quadformref01_double.s0, cite, decide_eq_true_eq]
      rw [if_neg (by omega)]
  | succ t ih =>
    intro i out b ht hi hl ho hc he
    have hd := dg_lt hm i
    have h1 := lv_take_succ m i
    obtain ⟨b', o', hr0, hr1, hr2, hr3, hr4⟩ := ih (i + 1) (out ++ [((dg m i * 2 % 4294967296 + b : Nat) : Int)]) (dg m i / 2147483648) (by omega) (by omega) (by simp [hl]) (lim_snoc ho (by omega)) (by omega) (by
      rw [lv_snoc, hl, h1, Nat.pow_succ, Nat.mul_assoc]
      have h3 : 4294967296 ^ i * (dg m i * 2 % 4294967296 + b + 4294967296 * (dg m i / 2147483648)) = 4294967296 ^ i * (dg m i * 2 + b) := by
        congr 1
        omega
      rw [Nat.mul_add, Nat.mul_add, Nat.mul_add, ← Nat.mul_assoc _ (dg m i) 2] at h3
      rw [Nat.mul_add]
      omega)
    refine ⟨b', o', hr0, hr1, hr2, hr3, (iterL_next ?_).trans hr4⟩
    simp only [quadformref01_double.s0, quadformref01_double.j1, cite, decide_eq_true_eq, inB_t, maxL_eq]
    have s1 := shl32 (dg m i) 1 (by omega)
    have s2 := shr32 (dg m i) 31 (by omega)
    rw [show ((1 : Nat) : Int) = 1 from rfl, show (2 : Nat) ^ 1 = 2 from rfl] at s1
    rw [show ((31 : Nat) : Int) = 31 from rfl, show (2 : Nat) ^ 31 = 2147483648 from rfl] at s2
    have e : orI .u32 ((dg m i * 2 % 4294967296 : Nat) : Int) (b : Int) = ((dg m i * 2 % 4294967296 + b : Nat) : Int) := by
      rw [or32_nat _ _ (by omega) (by omega)]
      have h5 : dg m i * 2 % 4294967296 = 2 ^ 1 * (dg m i % 2147483648) := by omega
      rw [h5, ← Nat.two_pow_add_eq_or_of_lt (by omega)]
    rw [Int.toNat_natCast, gd hm, s1, s2, e, if_pos (by omega), if_pos (by omega), if_pos (by simp [hl]; omega), up (by omega)]
theorem double_ok {m : List Int} (hm : Lim m) (hb : m.length < 1073741824) {b : Nat} (h : b ≤ 1) : ∃ r, Lim r ∧ lv r = 2 * lv m + b ∧ r.length = m.length + 1 ∧ quadformref01_double m (b : Int) = some r := by
  obtain ⟨b', o', h0, h1, h2, h3, h4⟩ := double_loop hm hb b _ 0 [] b rfl (by omega) rfl Lim.nil h (by simp [lv])
  refine ⟨o' ++ [(b' : Int)], lim_snoc h1 (by omega), by rw [lv_snoc, h3, h2], by simp [h3], ?_⟩
  unfold quadformref01_double
  rw [show ((0 : Nat) : Int) = 0 from rfl] at h4
  rw [h4, Option.bind_some]
  simp only [quadformref01_double.k0, cite, decide_eq_true_eq, maxL_eq]
  rw [if_pos (by simp [h3]; omega)]
theorem pow32 (j : Nat) : 4294967296 ^ j = 2 ^ (32 * j) := by rw [Nat.pow_mul]
/-- A bit of a digit is a bit of the number. -/
theorem dg_bit {l : List Int} (h : Lim l) (j r : Nat) (hr : r < 32) : dg l j / 2 ^ r % 2 = lv l / 2 ^ (32 * j + r) % 2 := by
  rw [dg_lv h, pow32, Nat.pow_add, ← Nat.div_div_eq_div_mul]
  generalize lv l / 2 ^ (32 * j) = x
  obtain ⟨c, hc⟩ : ∃ c, 32 = r + (c + 1) := ⟨31 - r, by omega⟩
  have e : (4294967296 : Nat) = 2 ^ r * (2 ^ c * 2) := by rw [← Nat.pow_succ, ← Nat.pow_add, ← hc]
  rw [e, Nat.mod_mul_right_div_self, Nat.mul_comm (2 ^ c) 2, Nat.mod_mul_right_mod]
theorem dg_low {l : List Int} (h : Lim l) (j r : Nat) (hr : r < 32) (hd : 2 ^ (32 * j + r + 1) ∣ lv l) : dg l j % 2 ^ (r + 1) = 0 := by
  rw [dg_lv h, pow32]
  obtain ⟨q, hq⟩ := hd
  rw [hq, Nat.add_assoc, Nat.pow_add, Nat.mul_assoc, Nat.mul_div_cancel_left _ (Nat.two_pow_pos _)]
  have e : (4294967296 : Nat) = 2 ^ (r + 1) * 2 ^ (31 - r) := by rw [← Nat.pow_add, show r + 1 + (31 - r) = 32 from by omega]
  rw [e, Nat.mod_mul_right_mod, Nat.mul_mod_right]
theorem step_div (a b N : Nat) (hN : 0 < N) (hb : b ≤ 1) : (2 * (a % N) + b ≥ N → (2 * a + b) / N = 2 * (a / N) + 1 ∧ (2 * a + b) % N = 2 * (a % N) + b - N) ∧ (2 * (a % N) + b < N → (2 * a + b) / N = 2 * (a / N) ∧ (2 * a + b) % N = 2 * (a % N) + b) := by
  have h1 := Nat.div_add_mod a N
  have h2 := Nat.mod_lt a hN
  constructor
  · intro h
    have e : 2 * a + b = (2 * (a % N) + b - N) + N * (2 * (a / N) + 1) := by
      rw [Nat.mul_add, Nat.mul_left_comm]
      omega
    rw [e, Nat.add_mul_div_left _ _ hN, Nat.add_mul_mod_self_left, Nat.div_eq_of_lt (by omega), Nat.mod_eq_of_lt (by omega)]
    omega
  · intro h
    have e : 2 * a + b = (2 * (a % N) + b) + N * (2 * (a / N)) := by
      rw [Nat.mul_left_comm]
      omega
    rw [e, Nat.add_mul_div_left _ _ hN, Nat.add_mul_mod_self_left, Nat.div_eq_of_lt (by omega), Nat.mod_eq_of_lt (by omega)]
    omega
theorem half_bit (M i : Nat) : M / 2 ^ i = 2 * (M / 2 ^ (i + 1)) + M / 2 ^ i % 2 := by
  rw [Nat.pow_succ, ← Nat.div_div_eq_div_mul]
  omega
theorem divide_loop {m : List Int} (hm : Lim m) (hb : m.length < 33554432) {N : Nat} (hN : 0 < N) (hNl : (limbs N).length < 1073741823) : ∀ (i : Nat) (q : List Int), i ≤ 32 * m.length → Lim q → q.length = m.length → lv q = lv m / 2 ^ i / N * 2 ^ i →
    ∃ q', Lim q' ∧ q'.length = m.length ∧ lv q' = lv m / N ∧ iterL (fun x : List Int × List Int × List Int × Int × List Int × Unit => quadformref01_divide.s0 x.1 x.2.1 x.2.2.1 x.2.2.2.1 x.2.2.2.2.1) (m, limbs N, limbs (lv m / 2 ^ i % N), (i : Int) - 1, q, ()) = some (limbs (lv m % N), q', ()) := by
  intro i
  induction i with
  | zero =>
    intro q _ hq hl he
    rw [Nat.pow_zero, Nat.div_one, Nat.mul_one] at he
    refine ⟨q, hq, hl, he, iterL_done ?_⟩
    simp only [quadformref01_divide.s0, cite, decide_eq_true_eq]
    rw [if_neg (by omega), Nat.pow_zero, Nat.div_one]
  | succ i ih =>
    intro q hi hq hl he
    have hj : i / 32 < m.length := by omega
    have hij : 32 * (i / 32) + i % 32 = i := by omega
    have hdm := dg_lt hm (i / 32)
    have hdq := dg_lt hq (i / 32)
    have hbit := dg_bit hm (i / 32) (i % 32) (by omega)
    rw [hij] at hbit
    have hh := half_bit (lv m) i
    have hlt := Nat.mod_lt (lv m / 2 ^ (i + 1)) hN
    have hlen := len_le (Nat.le_of_lt hlt)
    obtain ⟨s1, s2⟩ := step_div (lv m / 2 ^ (i + 1)) (lv m / 2 ^ i % 2) N hN (by omega)
    rw [← hh] at s1 s2
    obtain ⟨r, hr1, hr2, hr3, hr4⟩ := double_ok (lim_limbs (lv m / 2 ^ (i + 1) % N)) (by omega) (b := lv m / 2 ^ i % 2) (by omega)
    rw [lv_limbs] at hr2
    have htr := rtrim_ok hr1 (by omega)
    have hrl := len_lv hr1
    have hcm := rcmp_ok (a := lv r) (b := N) (by omega)
    have hz : dg q (i / 32) % 2 ^ (i % 32 + 1) = 0 := dg_low hq _ _ (by omega) (by rw [hij, he]; exact Nat.dvd_mul_left _ _)
    have e1 : IntKind.wrap .i64 (Int.tdiv (((i + 1 : Nat) : Int) - 1) 32) = ((i / 32 : Nat) : Int) := by
      rw [show ((i + 1 : Nat) : Int) - 1 = (i : Int) from by omega, show Int.tdiv (i : Int) 32 = ((i / 32 : Nat) : Int) from (Int.ofNat_tdiv i 32).symm]
      exact wi64 (by omega) (by omega)
    have e2 : Int.tmod (((i + 1 : Nat) : Int) - 1) 32 = ((i % 32 : Nat) : Int) := by
      rw [show ((i + 1 : Nat) : Int) - 1 = (i : Int) from by omega]
      exact (Int.ofNat_tmod i 32).symm
    have e3 : IntKind.wrap .i64 (((i + 1 : Nat) : Int) - 1 - 1) = (i : Int) - 1 := by
      rw [wi64 (by omega) (by omega)]
      omega
    have hst : quadformref01_divide.s0 m (limbs N) (limbs (lv m / 2 ^ (i + 1) % N)) (((i + 1 : Nat) : Int) - 1) q = (if cm (lv r) N ≥ 0 then (quadformref01_difference (limbs (lv r)) (limbs N)).bind fun y13 => (quadformref01_trim y13).bind fun y14 => some (.inl (m, limbs N, y14, (i : Int) - 1, q.set (i / 32) ((dg q (i / 32) + 2 ^ (i % 32) : Nat) : Int), ())) else some (.inl (m, limbs N, limbs (lv r), (i : Int) - 1, q, ()))) := by
      simp only [quadformref01_divide.s0, quadformref01_divide.j2, quadformref01_divide.j3, cite, decide_eq_true_eq, inB_t]
      rw [if_pos (by omega), e1, e2, e3, if_pos (by omega), if_neg (by omega), Int.toNat_natCast, gd hm, shr_bit _ _ hdm (by omega), hbit, hr4, Option.bind_some, htr, Option.bind_some, hcm, Option.bind_some]
      congr 1
      congr 1
      funext y13
      congr 1
      funext y14
      rw [if_pos (by omega), if_neg (by omega), if_pos (by omega), Nat.zero_add, gd hq, or_bit _ _ hdq (by omega) hz]
    by_cases hge : N ≤ lv r
    · obtain ⟨d, hd1, hd2, hd3, hd4⟩ := diff_ok (lim_limbs (lv r)) (lim_limbs N) (by omega) (len_le hge) (by rw [lv_limbs, lv_limbs]; exact hge)
      rw [lv_limbs, lv_limbs] at hd2
      obtain ⟨s3, s4⟩ := s1 (by omega)
      have htd := rtrim_ok hd1 (by omega)
      rw [show lv d = lv m / 2 ^ i % N from by omega] at htd
      obtain ⟨q', g1, g2, g3, g4⟩ := ih (q.set (i / 32) ((dg q (i / 32) + 2 ^ (i % 32) : Nat) : Int)) (by omega) (hq.set _ (by
          obtain ⟨c, hc⟩ := Nat.dvd_of_mod_eq_zero hz
          have hp2 : (4294967296 : Nat) = 2 ^ (i % 32 + 1) * 2 ^ (31 - i % 32) := by rw [← Nat.pow_add, show i % 32 + 1 + (31 - i % 32) = 32 from by omega]
          have hc1 : c + 1 ≤ 2 ^ (31 - i % 32) := by
            apply Classical.byContradiction
            intro hcc
            have := Nat.mul_le_mul_left (2 ^ (i % 32 + 1)) (show 2 ^ (31 - i % 32) ≤ c by omega)
            omega
          have h5 := Nat.mul_le_mul_left (2 ^ (i % 32 + 1)) hc1
          have h6 : 2 ^ (i % 32) < 2 ^ (i % 32 + 1) := Nat.pow_lt_pow_right (by omega) (by omega)
          rw [Nat.mul_add] at h5
          omega)) (by rw [List.length_set, hl]) (by
          rw [lv_set (by omega), he, s3, pow32, ← Nat.pow_add, hij, Nat.pow_succ]
          generalize 2 ^ i = P
          generalize lv m / (P * 2) / N = z
          rw [Nat.add_mul, Nat.mul_comm 2 z, Nat.mul_assoc, Nat.mul_comm 2 P]
          omega)
      refine ⟨q', g1, g2, g3, (iterL_next ?_).trans g4⟩
      simp only []
      rw [hst, if_pos (by unfold cm; split <;> (try split) <;> omega), hd4, Option.bind_some, htd, Option.bind_some]
    · obtain ⟨s3, s4⟩ := s2 (by omega)
      obtain ⟨q', g1, g2, g3, g4⟩ := ih q (by omega) hq hl (by
          rw [he, s3, Nat.pow_succ]
          generalize 2 ^ i = P
          generalize lv m / (P * 2) / N = z
          rw [Nat.mul_comm 2 z, Nat.mul_assoc, Nat.mul_comm 2 P])
      refine ⟨q', g1, g2, g3, (iterL_next ?_).trans g4⟩
      simp only []
      rw [hst, if_neg (by rw [cm_lt (by omega)]; decide), show lv r = lv m / 2 ^ i % N from by omega]
theorem rdivide_ok {M N : Nat} (hM : (limbs M).length < 33554432) (hN : (limbs N).length < 1073741823) (h0 : 0 < N) : quadformref01_divide (limbs M) (limbs N) = some (limbs (M / N), limbs (M % N), ()) := by
  have long : ((iterL (fun x : List Int × List Int × List Int × Int × List Int × Unit => quadformref01_divide.s0 x.1 x.2.1 x.2.2.1 x.2.2.2.1 x.2.2.2.2.1) (limbs M, limbs N, ([] : List Int), (IntKind.wrap .i64 ((IntKind.wrap .i64 ((32 : Int) * ((List.length (limbs M) : Nat) : Int))) - (1 : Int))), (List.replicate ((((List.length (limbs M) : Nat) : Int)).toNat) ((0 : Int) : Int)), ())).bind fun y => quadformref01_divide.k0 y.1 y.2.1) = some (limbs (M / N), limbs (M % N), ()) := by
    have hz : M / 2 ^ (32 * (limbs M).length) = 0 := Nat.div_eq_of_lt (by rw [← pow32]; exact limbs_len.1 (Nat.le_refl _))
    have hlp := divide_loop (lim_limbs M) hM h0 hN (32 * (limbs M).length) (List.replicate (limbs M).length 0) (Nat.le_refl _) (Lim.replicate _) (by simp) (by rw [lv_limbs, hz, lv_zeros, Nat.zero_div, Nat.zero_mul])
    rw [lv_limbs, hz, Nat.zero_mod, limbs_zero] at hlp
    obtain ⟨q', g1, g2, g3, g4⟩ := hlp
    rw [wi64 (x := 32 * ((limbs M).length : Int)) (by omega) (by omega), wi64 (by omega) (by omega), Int.toNat_natCast]
    rw [show ((32 * (limbs M).length : Nat) : Int) - 1 = 32 * ((limbs M).length : Int) - 1 by omega] at g4
    rw [g4, Option.bind_some]
    simp only [quadformref01_divide.k0]
    rw [rtrim_ok g1 (by omega), Option.bind_some, g3]
  unfold quadformref01_divide
  simp only [quadformref01_divide.j1, cite, decide_eq_true_eq, inC_t, maxL_eq]
  by_cases h1 : (limbs M).length ≤ 2
  · rw [if_pos (by omega)]
    by_cases h2 : (limbs N).length ≤ 2
    · have hM2 := limbs_len.1 h1
      have hN2 := limbs_len.1 h2
      have l1 := low_ok (lim_limbs M)
      have l2 := low_ok (lim_limbs N)
      rw [List.take_of_length_le h1, lv_limbs] at l1
      rw [List.take_of_length_le h2, lv_limbs] at l2
      have hq : M / N < 18446744073709551616 := Nat.lt_of_le_of_lt (Nat.div_le_self _ _) (by omega)
      have hr : M % N < 18446744073709551616 := Nat.lt_of_le_of_lt (Nat.mod_le _ _) (by omega)
      rw [if_pos (by omega), l1, Option.bind_some, l2, Option.bind_some, if_neg (by omega), show Int.tdiv (M : Int) (N : Int) = ((M / N : Nat) : Int) from (Int.ofNat_tdiv M N).symm, show Int.tmod (M : Int) (N : Int) = ((M % N : Nat) : Int) from (Int.ofNat_tmod M N).symm]
      generalize M / N = y at hq ⊢
      generalize M % N = z at hr ⊢
      rw [wu64' (by omega) (by omega), word_ok false hq, Option.bind_some, if_neg (by omega), word_ok false hr, Option.bind_some]
      simp [mkI]
    · rw [if_neg (by omega), if_pos (by omega)]
      exact long
  · rw [if_neg (by omega), if_pos (by omega)]
    exact long
theorem ediv_of {a b Q R : Int} (h : R + b * Q = a) (h0 : 0 ≤ R) (h1 : R < b.natAbs) (hb : b ≠ 0) : a / b = Q ∧ a % b = R := by
  have e : a % b = R := by
    rw [← h, Int.add_mul_emod_self_left]
    by_cases hp : 0 < b
    · exact Int.emod_eq_of_lt h0 (by omega)
    · rw [← Int.emod_neg]
      exact Int.emod_eq_of_lt h0 (by omega)
  refine ⟨?_, e⟩
  have h2 := Int.mul_ediv_add_emod a b
  rw [e] at h2
  exact Int.eq_of_mul_eq_mul_left hb (by omega)
end Go.Proofs.Ytbchgegclgpdhaa.V
/- Laws: quotient and remainder; sums and differences of integer. -/
namespace Go.Proofs.Ytbchgegclgpdhaa.V
open Go Go.Proofs.Ytbchgegclgpdhaa.E Go.Proofs.Ytbchgegclgpdhaa.LI
set_option linter.unusedVariables false
set_option linter.unusedSimpArgs false
theorem len_mkI (z : Int) : (mkI z).2.1.length = (limbs z.natAbs).length := rfl
theorem rdivmod_ok {l l' : List Int} (s s' : Bool) (u u' : Unit) (h : Lim l) (h' : Lim l') (hb : l.length < 33554432) (hb' : l'.length < 33554432) (h0 : iv s' l' ≠ 0) :
    quadformref01_DivMod (s, l, u) (s', l', u') = some (mkI (iv s l / iv s' l'), mkI (iv s l % iv s' l'), true, ()) := by
  have hx := len_lv h
  have hy := len_lv h'
  have hN : 0 < lv l' := by unfold iv at h0; split at h0 <;> omega
  generalize hM' : lv l = M at *
  generalize hN' : lv l' = N at *
  have hqM : M / N ≤ M := Nat.div_le_self _ _
  have hrM : M % N < N := Nat.mod_lt _ hN
  have hdm := Nat.div_add_mod M N
  have hlq := len_le hqM
  have hlr := len_le (Nat.le_of_lt hrM)
  have hdv := rdivide_ok (M := M) (N := N) (by omega) (by omega) hN
  unfold quadformref01_DivMod
  rw [rtrim_ok h (by omega), Option.bind_some, rtrim_ok h' (by omega), Option.bind_some, hM', hN']
  simp only [cite, beq_iff_eq, limbs_len0]
  rw [if_neg (by omega)]
  simp only [quadformref01_DivMod.j1, quadformref01_DivMod.j2, quadformref01_DivMod.j3, cite, decide_eq_true_eq]
  rw [hdv, Option.bind_some]
  generalize M / N = q at *
  generalize M % N = r at *
  have m1 := make_ok (!(s == s')) (lim_limbs q) (by omega)
  have m2 := make_ok s (lim_limbs r) (by omega)
  rw [m1, Option.bind_some, m2, Option.bind_some]
  have hiv : iv s' l' = if s' = true then -(N : Int) else N := by unfold iv; rw [hN']
  have hia : iv s l = if s = true then -(M : Int) else M := by unfold iv; rw [hM']
  have hab : (iv s' l').natAbs = N := by rw [iv_natAbs, hN']
  have hdz : (N : Int) * (q : Int) + (r : Int) = M := by exact_mod_cast hdm
  have hQ : iv (!(s == s')) (limbs q) = if (!(s == s')) = true then -(q : Int) else (q : Int) := by unfold iv; rw [lv_limbs]
  have hR : iv s (limbs r) = if s = true then -(r : Int) else (r : Int) := by unfold iv; rw [lv_limbs]
  generalize iv (!(s == s')) (limbs q) = Q at *
  generalize iv s (limbs r) = R at *
  have hlR : (mkI R).2.1.length < 33554433 := by
    rw [len_mkI, show R.natAbs = r from by rw [hR]; split <;> omega]
    omega
  have hlQ : (mkI Q).2.1.length < 33554433 := by
    rw [len_mkI, show Q.natAbs = q from by rw [hQ]; split <;> omega]
    omega
  have sg := rsign_ok (mkI R).1 () (lim_mkI R) (by omega)
  rw [iv_mkI] at sg
  rw [sg, Option.bind_some]
  by_cases hneg : R < 0
  · have hs : s = true := by
      cases s
      · rw [if_neg (by decide)] at hR; omega
      · rfl
    subst hs
    rw [if_pos rfl] at hR hia
    have a1 := make_ok false (lim_limbs N) (by omega)
    rw [iv_f, lv_limbs] at a1
    have a2 := radd_ok (mkI R).1 (mkI (N : Int)).1 () () (lim_mkI R) (lim_mkI (N : Int)) (by omega) (by rw [len_mkI, Int.natAbs_natCast]; omega)
    rw [iv_mkI, iv_mkI] at a2
    have a2' : quadformref01_Add ((mkI R).1, (mkI R).2.1, ()) (mkI (N : Int)) = some (mkI (R + N)) := a2
    rw [show (if R = 0 then (0 : Int) else if R < 0 then -1 else 1) = -1 from by rw [if_neg (by omega), if_pos hneg], if_pos (by decide), a1, Option.bind_some, a2', Option.bind_some, rsign_ok s' () h' (by omega), Option.bind_some, rsmall_ok (n := 1) (by decide) (by decide), Option.bind_some]
    have hl1 : (mkI 1).2.1.length < 8796093022208 := by decide
    have hl1' : (mkI 1).2.1.length = 1 := by decide
    have hsum : R + N = iv true l % iv s' l' := by
      refine ((ediv_of (Q := if s' = true then (q : Int) + 1 else -(q : Int) - 1) ?_ (by omega) (by rw [hab]; omega) h0).2).symm
      rw [hia, hiv]
      cases s'
      · simp only [Bool.false_eq_true, if_false]
        rw [Int.mul_sub, Int.mul_neg]
        omega
      · simp only [if_true]
        rw [Int.neg_mul, Int.mul_add]
        omega
    have hquo : iv true l / iv s' l' = if s' = true then (q : Int) + 1 else -(q : Int) - 1 := by
      refine (ediv_of (R := R + N) ?_ (by omega) (by rw [hab]; omega) h0).1
      rw [hia, hiv]
      cases s'
      · simp only [Bool.false_eq_true, if_false]
        rw [Int.mul_sub, Int.mul_neg]
        omega
      · simp only [if_true]
        rw [Int.neg_mul, Int.mul_add]
        omega
    rw [hsum, hquo]
    cases s'
    · have hQ' : Q = -(q : Int) := by rw [hQ]; rfl
      have hi : iv false l' = (N : Int) := hiv
      have a3 := rsub_ok (mkI Q).1 (mkI 1).1 () () (lim_mkI Q) (lim_mkI 1) (by omega) (by omega)
      rw [iv_mkI, iv_mkI, hQ'] at a3
      have a3' : quadformref01_Sub ((mkI (-(q : Int))).1, (mkI (-(q : Int))).2.1, ()) (mkI 1) = some (mkI (-(q : Int) - 1)) := a3
      rw [show (if iv false l' = 0 then (0 : Int) else if iv false l' < 0 then -1 else 1) = 1 from by rw [hi, if_neg (by omega), if_neg (by omega)], if_neg (by decide), hQ', Option.bind_some, a3', Option.bind_some, if_neg (by decide)]
    · have hQ' : Q = (q : Int) := by rw [hQ]; rfl
      have hi : iv true l' = -(N : Int) := hiv
      have a3 := radd_ok (mkI Q).1 (mkI 1).1 () () (lim_mkI Q) (lim_mkI 1) (by omega) (by omega)
      rw [iv_mkI, iv_mkI, hQ'] at a3
      have a3' : quadformref01_Add ((mkI (q : Int)).1, (mkI (q : Int)).2.1, ()) (mkI 1) = some (mkI ((q : Int) + 1)) := a3
      rw [show (if iv true l' = 0 then (0 : Int) else if iv true l' < 0 then -1 else 1) = -1 from by rw [hi, if_neg (by omega), if_pos (by omega)], if_pos (by decide), hQ', a3', Option.bind_some, if_pos rfl]
  · have hres : iv s l / iv s' l' = Q ∧ iv s l % iv s' l' = R := by
      have hR' : R = (r : Int) := by
        cases s
        · rw [hR]; rfl
        · rw [hR, if_pos rfl] at hneg ⊢; omega
      refine ediv_of ?_ (by omega) (by rw [hab]; omega) h0
      rw [hia, hiv, hQ]
      have hr' : s = true → r = 0 := by
        rintro rfl
        rw [if_pos rfl] at hR
        omega
      cases s <;> cases s'
      · simp only [Bool.false_eq_true, beq_self_eq_true, Bool.not_true, if_false]; omega
      · simp only [Bool.false_eq_true, if_false, if_true, show (!(false == true)) = true from rfl, Int.neg_mul, Int.mul_neg, Int.neg_neg]; omega
      · have := hr' rfl
        simp only [Bool.false_eq_true, if_false, if_true, show (!(true == false)) = true from rfl, Int.mul_neg]; omega
      · have := hr' rfl
        simp only [Bool.false_eq_true, beq_self_eq_true, Bool.not_true, if_false, if_true, Int.neg_mul]; omega
    rw [hres.1, hres.2]
    have : ¬ ((if R = 0 then (0 : Int) else if R < 0 then -1 else 1) < 0) := by split <;> (try split) <;> omega
    rw [if_neg this]
theorem rrem_ok {l l' : List Int} (s s' : Bool) (u u' : Unit) (h : Lim l) (h' : Lim l') (hb : l.length < 33554432) (hb' : l'.length < 33554432) (h0 : iv s' l' ≠ 0) : quadformref01_Rem (s, l, u) (s', l', u') = some (mkI (iv s l % iv s' l')) := by
  unfold quadformref01_Rem
  have := rdivmod_ok s s' () () h h' hb hb' h0
  rw [this, Option.bind_some]
theorem limb_ok {l : List Int} (h : Lim l) (i : Nat) : integer_limb l (i : Int) = some ((dg l i : Nat) : Int) := by
  have hd := dg_lt h i
  simp only [integer_limb, integer_limb.j1, cite, decide_eq_true_eq, inB_t]
  by_cases h1 : i < l.length
  · rw [if_pos (by omega), if_pos (by omega), Int.toNat_natCast, gd h, wu64' (by omega) (by omega)]
  · rw [if_neg (by omega), dg_out (by omega)]; rfl
theorem take_set (a : List Int) (i : Nat) (x : Int) (h : i < a.length) : (a.set i x).take (i + 1) = a.take i ++ [x] := by
  rw [List.take_add_one]
  simp [List.take_set_of_le, h]
theorem plus_loop {m n : List Int} (hm : Lim m) (hn : Lim n) {L : Nat} (hL : L < 17592186044416) : ∀ (t i : Nat) (a : List Int) (c : Nat), L - i = t → i ≤ L → a.length = L + 1 → Lim a → c ≤ 1 → lv (a.take i) + 4294967296 ^ i * c = lv (m.take i) + lv (n.take i) →
    ∃ (a' : List Int) (c' : Nat), iterL (fun x : List Int × List Int × Int × Int × Int × Int × List Int × Unit => integer_plus.s0 x.1 x.2.1 x.2.2.1 x.2.2.2.1 x.2.2.2.2.1 x.2.2.2.2.2.1 x.2.2.2.2.2.2.1) (m, n, (L : Int), (c : Int), (L : Int), (i : Int), a, ()) = some ((L : Int), (c' : Int), a', ()) ∧
      a'.length = L + 1 ∧ Lim a' ∧ c' ≤ 1 ∧ lv (a'.take L) + 4294967296 ^ L * c' = lv (m.take L) + lv (n.take L) := by
  intro t
  induction t with
  | zero =>
    intro i a c ht hi hl ha hc he
    obtain rfl : i = L := by omega
    refine ⟨a, c, iterL_done ?_, hl, ha, hc, he⟩
    simp only [integer_plus.s0, cite, decide_eq_true_eq]
    rw [if_neg (by omega)]
  | succ t ih =>
    intro i a c ht hi hl ha hc he
    have hdm := dg_lt hm i
    have hdn := dg_lt hn i
    obtain ⟨a', c', h1, h2⟩ := ih (i + 1) (a.set i (((c + dg m i + dg n i) % 4294967296 : Nat) : Int)) ((c + dg m i + dg n i) / 4294967296) (by omega) (by omega) (by simpa using hl) (ha.set i (by omega)) (by omega) (by
      rw [take_set _ _ _ (by omega), lv_snoc, lv_take_succ, lv_take_succ, Nat.pow_succ, List.length_take, Nat.min_eq_left (by omega)]
      have h3 : 4294967296 ^ i * (c + dg m i + dg n i) = 4294967296 ^ i * ((c + dg m i + dg n i) % 4294967296) + 4294967296 ^ i * (4294967296 * ((c + dg m i + dg n i) / 4294967296)) := by
        rw [← Nat.mul_add, Nat.mod_add_div]
      rw [Nat.mul_add, Nat.mul_add] at h3
      rw [Nat.mul_assoc]
      omega)
    refine ⟨a', c', (iterL_next ?_).trans h1, h2⟩
    simp only [integer_plus.s0, integer_plus.j1, cite, decide_eq_true_eq, inB_t]
    have e : IntKind.wrap .u64 ((c : Int) + IntKind.wrap .u64 ((dg m i : Int) + (dg n i : Int))) = ((c + dg m i + dg n i : Nat) : Int) := by
      rw [wu64, wu64]; omega
    rw [if_pos (by omega), limb_ok hm, Option.bind_some, limb_ok hn, Option.bind_some, e, hi_word, Int.toNat_natCast, Nat.zero_add, if_pos (by omega), up (by omega), wu32, Int.natCast_emod]
    rfl
theorem plus_ok {m n : List Int} (hm : Lim m) (hn : Lim n) (hb : m.length < 1073741824) (hb' : n.length < 1073741824) : integer_plus m n = some (limbs (lv m + lv n)) := by
  have hmx : mx2 (m.length : Int) (n.length : Int) = ((max m.length n.length : Nat) : Int) := by unfold mx2; split <;> omega
  obtain ⟨a', c', h1, h2, h3, h4, h5⟩ := plus_loop hm hn (L := max m.length n.length) (by omega) _ 0 (List.replicate (max m.length n.length + 1) 0) 0 rfl (by omega) (by simp) (Lim.replicate _) (by omega) (by simp [lv])
  unfold integer_plus
  simp only [hmx, cite, inC_t, maxL_eq]
  rw [up (by omega), if_pos (by omega), Int.toNat_natCast]
  rw [show ((0 : Nat) : Int) = 0 from rfl] at h1
  rw [h1, Option.bind_some]
  simp only [integer_plus.k0, cite, inB_t]
  rw [if_pos (by omega), Int.toNat_natCast, Nat.zero_add, wu32' (by omega) (by omega), trim_ok (h3.set _ (by omega)) (by simp; omega), Option.bind_some]
  have e : lv (a'.set (max m.length n.length) (c' : Int)) = lv m + lv n := by
    have e1 : a'.set (max m.length n.length) (c' : Int) = (a'.set (max m.length n.length) (c' : Int)).take (max m.length n.length + 1) := by rw [List.take_of_length_le (by simp; omega)]
    rw [e1, take_set _ _ _ (by omega), lv_snoc, List.length_take, Nat.min_eq_left (by omega), h5, List.take_of_length_le (by omega), List.take_of_length_le (by omega)]
  rw [e]
theorem minus_loop {m n : List Int} (hm : Lim m) (hn : Lim n) (hb : m.length < 17592186044416) : ∀ (t i : Nat) (a : List Int) (c : Nat), m.length - i = t → i ≤ m.length → a.length = m.length → Lim a → c ≤ 1 → lv (m.take i) + 4294967296 ^ i * c = lv (a.take i) + lv (n.take i) →
    ∃ (a' : List Int) (c' : Nat), iterL (fun x : List Int × List Int × Int × Int × Int × List Int × Unit => integer_minus.s0 x.1 x.2.1 x.2.2.1 x.2.2.2.1 x.2.2.2.2.1 x.2.2.2.2.2.1) (m, n, (c : Int), (m.length : Int), (i : Int), a, ()) = some (a', ()) ∧
      a'.length = m.length ∧ Lim a' ∧ lv m + 4294967296 ^ m.length * c' = lv a' + lv (n.take m.length) := by
  intro t
  induction t with
  | zero =>
    intro i a c ht hi hl ha hc he
    obtain rfl : i = m.length := by omega
    refine ⟨a, c, iterL_done ?_, hl, ha, ?_⟩
    · simp only [integer_minus.s0, cite, decide_eq_true_eq]
      rw [if_neg (by omega)]
    · rw [List.take_length] at he
      rw [he, List.take_of_length_le (show a.length ≤ m.length by omega)]
  | succ t ih =>
    intro i a c ht hi hl ha hc he
    have hdm := dg_lt hm i
    have hdn := dg_lt hn i
    obtain ⟨d, c', hd, hc', h3⟩ : ∃ d c' : Nat, d < 4294967296 ∧ c' ≤ 1 ∧ dg m i + 4294967296 * c' = c + d + dg n i := by
      by_cases h : dg m i < c + dg n i
      · exact ⟨dg m i + 4294967296 - c - dg n i, 1, by omega, by omega, by omega⟩
      · exact ⟨dg m i - c - dg n i, 0, by omega, by omega, by omega⟩
    obtain ⟨a', cc, h1, h2⟩ := ih (i + 1) (a.set i (d : Int)) c' (by omega) (by omega) (by simpa using hl) (ha.set i (by omega)) hc' (by
      rw [take_set _ _ _ (by omega), lv_snoc, lv_take_succ, lv_take_succ, Nat.pow_succ, List.length_take, Nat.min_eq_left (by omega)]
      have h4 : 4294967296 ^ i * (dg m i + 4294967296 * c') = 4294967296 ^ i * (c + d + dg n i) := by rw [h3]
      rw [Nat.mul_add, Nat.mul_add, Nat.mul_add, ← Nat.mul_assoc] at h4
      omega)
    refine ⟨a', cc, (iterL_next ?_).trans h1, h2⟩
    simp only [integer_minus.s0, integer_minus.j1, cite, decide_eq_true_eq, inB_t]
    rw [if_pos (by omega), limb_ok hn, if_pos (by omega), Option.bind_some, Int.toNat_natCast, gd hm, Nat.zero_add]
    have e : IntKind.wrap .u64 (IntKind.wrap .u64 (IntKind.wrap .u64 (dg m i : Int) - (dg n i : Int)) - (c : Int)) = ((d + 18446744069414584320 * c' : Nat) : Int) := by
      rw [wu64, wu64, wu64]
      have : c' = 0 ∨ c' = 1 := by omega
      rcases this with rfl | rfl <;> omega
    rw [e, top_bit, if_pos (by omega), up (by omega), wu32]
    have e2 : ((d + 18446744069414584320 * c') / 9223372036854775808 : Nat) = c' := by
      have : c' = 0 ∨ c' = 1 := by omega
      rcases this with rfl | rfl <;> omega
    have e3 : ((d + 18446744069414584320 * c' : Nat) : Int) % 4294967296 = (d : Int) := by omega
    rw [e2, e3]
theorem minus_ok {m n : List Int} (hm : Lim m) (hn : Lim n) (hb : m.length ≤ 1073741824) (hl : n.length ≤ m.length) (h : lv n ≤ lv m) : integer_minus m n = some (limbs (lv m - lv n)) := by
  obtain ⟨a', c', h1, h2, h3, h4⟩ := minus_loop hm hn (by omega) _ 0 (List.replicate m.length 0) 0 rfl (by omega) (by simp) (Lim.replicate _) (by omega) (by simp [lv])
  unfold integer_minus
  simp only [cite, inC_t, maxL_eq]
  rw [show ((0 : Nat) : Int) = 0 from rfl] at h1
  rw [if_pos (by omega), Int.toNat_natCast, h1, Option.bind_some]
  simp only [integer_minus.k0]
  rw [trim_ok h3 (by omega), Option.bind_some]
  have e : lv a' = lv m - lv n := by
    rw [List.take_of_length_le hl] at h4
    have h5 := lv_lt h3
    rw [h2] at h5
    have : c' = 0 := by
      cases c' with
      | zero => rfl
      | succ c =>
        have : 4294967296 ^ m.length * 1 ≤ 4294967296 ^ m.length * (c + 1) := Nat.mul_le_mul_left _ (by omega)
        omega
    subst this
    omega
  rw [e]
end Go.Proofs.Ytbchgegclgpdhaa.V
/- Laws: quotient and remainder of integer (a divisor of one word), words of 64 bits, residues. -/
namespace Go.Proofs.Ytbchgegclgpdhaa.V
open Go Go.Proofs.Ytbchgegclgpdhaa.E Go.Proofs.Ytbchgegclgpdhaa.LI
set_option linter.unusedVariables false
set_option linter.unusedSimpArgs false
theorem limbs_one {N : Nat} (h : 0 < N) (h2 : N < 4294967296) : limbs N = [(N : Int)] := by
  rw [limbs_pos (by omega), Nat.mod_eq_of_lt h2, Nat.div_eq_of_lt h2, limbs_zero]
theorem divide_small {M N : Nat} (hM : (limbs M).length ≤ 1073741824) (h : M < N) : integer_divide (limbs M) (limbs N) = some (limbs (M / N), limbs (M % N), ()) := by
  unfold integer_divide
  rw [compare_ok (by omega), Option.bind_some]
  simp only [cite, decide_eq_true_eq]
  rw [cm_lt (by omega), if_pos (by decide), if_pos (show (limbs M).length ≤ maxL from hM), Nat.div_eq_of_lt h, Nat.mod_eq_of_lt h, limbs_zero]
theorem divide_one {M N : Nat} (hM : (limbs M).length ≤ 1073741824) (hN : 0 < N) (hN2 : N < 4294967296) : integer_divide (limbs M) (limbs N) = some (limbs (M / N), limbs (M % N), ()) := by
  by_cases h : M < N
  · exact divide_small hM h
  · unfold integer_divide
    rw [compare_ok (by omega), Option.bind_some]
    simp only [integer_divide.j1, cite, decide_eq_true_eq, inB_t, beq_iff_eq]
    have hr : M % N < N := Nat.mod_lt _ hN
    have hc : ¬ cm (M : Int) (N : Int) < 0 := by unfold cm; split <;> (try split) <;> omega
    have ht : integer_trim [((M % N : Nat) : Int)] = some (limbs (M % N)) := by
      have h1 : Lim [((M % N : Nat) : Int)] := Lim.one (by omega)
      rw [trim_ok h1 (by simp), lv_one, Int.toNat_natCast]
    have hs := shortDivide_ok (lim_limbs M) hM hN hN2
    rw [lv_limbs] at hs
    rw [if_neg hc, limbs_one hN hN2]
    simp only [List.length_singleton, List.getD_cons_zero]
    rw [if_pos (by decide), if_pos (by decide), hs, Option.bind_some, ht, Option.bind_some]
theorem divmod_of {l l' : List Int} (s s' : Bool) (u u' : Unit) (h : Lim l) (h' : Lim l') (hb : l.length < 33554432) (hb' : l'.length < 33554432) (h0 : iv s' l' ≠ 0)
    (hdv : integer_divide (limbs (lv l)) (limbs (lv l')) = some (limbs (lv l / lv l'), limbs (lv l % lv l'), ())) :
    integer_DivMod (s, l, u) (s', l', u') = some (mkI (iv s l / iv s' l'), mkI (iv s l % iv s' l'), true, ()) := by
  have hx := len_lv h
  have hy := len_lv h'
  have hN : 0 < lv l' := by unfold iv at h0; split at h0 <;> omega
  unfold integer_DivMod
  rw [magnitude_ok s' () h' (by omega), Option.bind_some]
  simp only [cite, beq_iff_eq, limbs_len0]
  rw [if_neg (by omega)]
  simp only [integer_DivMod.j1, integer_DivMod.j2, cite, decide_eq_true_eq]
  rw [magnitude_ok s () h (by omega), Option.bind_some, hdv, Option.bind_some]
  generalize hM' : lv l = M at *
  generalize hN' : lv l' = N at *
  have hqM : M / N ≤ M := Nat.div_le_self _ _
  have hrM : M % N < N := Nat.mod_lt _ hN
  have hdm := Nat.div_add_mod M N
  have hlq := len_le hqM
  have hlr := len_le (Nat.le_of_lt hrM)
  generalize M / N = q at *
  generalize M % N = r at *
  have hiv : iv s' l' = if s' = true then -(N : Int) else N := by unfold iv; rw [hN']
  have hia : iv s l = if s = true then -(M : Int) else M := by unfold iv; rw [hM']
  have hab : (iv s' l').natAbs = N := by rw [iv_natAbs, hN']
  have hdz : (N : Int) * (q : Int) + (r : Int) = M := by exact_mod_cast hdm
  have fin : ∀ (Q R : Nat), (limbs Q).length < 17592186044416 → (limbs R).length < 17592186044416 → iv (!(s == s')) (limbs Q) = iv s l / iv s' l' → (R : Int) = iv s l % iv s' l' →
      ((integer_signed (!(s == s')) (limbs Q)).bind fun y8 => (integer_signed false (limbs R)).bind fun y9 => some ((y8.1, (y8.2.1, ())), ((y9.1, (y9.2.1, ())), (true, ())))) = some (mkI (iv s l / iv s' l'), mkI (iv s l % iv s' l'), true, ()) := by
    intro Q R h1 h2 h3 h4
    rw [signed_ok _ (lim_limbs Q) h1, Option.bind_some, signed_ok _ (lim_limbs R) h2, Option.bind_some, h3, iv_f, lv_limbs, h4]
  cases hs : s with
  | true =>
    rw [if_pos rfl]
    rw [hs] at hia fin
    rw [if_pos rfl] at hia
    have hlen0 := limbs_len0 r
    by_cases hr0 : r = 0
    · rw [if_neg (by show ¬ (((limbs r).length : Nat) : Int) > 0; rw [hr0]; decide)]
      have := ediv_of (a := iv true l) (b := iv s' l') (Q := iv (!(true == s')) (limbs q)) (R := (r : Int)) (by
        rw [hia, hiv]; cases s'
        · rw [show (!(true == false)) = true from rfl, iv_t, lv_limbs]; simp only [Bool.false_eq_true, if_false, Int.mul_neg]; omega
        · rw [show (!(true == true)) = false from rfl, iv_f, lv_limbs]; simp only [if_true, Int.neg_mul]; omega) (by omega) (by rw [hab]; omega) h0
      exact fin q r (by omega) (by omega) this.1.symm this.2.symm
    · have hpl := limbs_len_pos.2 hr0
      have hp := plus_ok (lim_limbs q) (n := [1]) (Lim.one (by omega)) (by omega) (by simp)
      rw [lv_limbs, lv_one] at hp
      have hmn := minus_ok (lim_limbs N) (lim_limbs r) (by omega) hlr (by rw [lv_limbs, lv_limbs]; omega)
      rw [lv_limbs, lv_limbs] at hmn
      rw [if_pos (show (((limbs r).length : Nat) : Int) > 0 by omega), hp, Option.bind_some, hmn, Option.bind_some]
      have := ediv_of (a := iv true l) (b := iv s' l') (Q := iv (!(true == s')) (limbs (q + 1))) (R := ((N - r : Nat) : Int)) (by
        rw [hia, hiv]; cases s'
        · rw [show (!(true == false)) = true from rfl, iv_t, lv_limbs]; simp only [Bool.false_eq_true, if_false, Int.mul_neg, Int.natCast_add, Int.natCast_one, Int.mul_add, Int.mul_one]; omega
        · rw [show (!(true == true)) = false from rfl, iv_f, lv_limbs]; simp only [if_true, Int.neg_mul, Int.natCast_add, Int.natCast_one, Int.mul_add, Int.mul_one]; omega) (by omega) (by rw [hab]; omega) h0
      have hq1 : (limbs (q + 1)).length ≤ (limbs q).length + 1 := limbs_len.2 (by
        have := limbs_len.1 (Nat.le_refl (limbs q).length)
        rw [Nat.pow_succ]; omega)
      have hnr := len_le (show N - r ≤ N by omega)
      exact fin (q + 1) (N - r) (by omega) (by omega) this.1.symm this.2.symm
  | false =>
    rw [if_neg (by decide)]
    rw [hs] at hia fin
    rw [if_neg (by decide)] at hia
    have := ediv_of (a := iv false l) (b := iv s' l') (Q := iv (!(false == s')) (limbs q)) (R := (r : Int)) (by
        rw [hia, hiv]; cases s'
        · rw [show (!(false == false)) = false from rfl, iv_f, lv_limbs]; simp only [Bool.false_eq_true, if_false]; omega
        · rw [show (!(false == true)) = true from rfl, iv_t, lv_limbs]; simp only [if_true, Int.neg_mul, Int.mul_neg, Int.neg_neg]; omega) (by omega) (by rw [hab]; omega) h0
    exact fin q r (by omega) (by omega) this.1.symm this.2.symm
end Go.Proofs.Ytbchgegclgpdhaa.V
