/- Laws: comparison; sums and differences, of the reference and of integer. -/
import Derived.Test.YtbchgegclgpdhaaN2
namespace Go.Proofs.Ytbchgegclgpdhaa.V
open Go Go.Proofs.Ytbchgegclgpdhaa.E Go.Proofs.Ytbchgegclgpdhaa.LI
set_option linter.unusedVariables false
set_option linter.unusedSimpArgs false

def cm (a b : Int) : Int := if a < b then -1 else if a = b then 0 else 1
theorem cm_lt {a b : Int} (h : a < b) : cm a b = -1 := if_pos h
theorem cm_gt {a b : Int} (h : b < a) : cm a b = 1 := by unfold cm; rw [if_neg (by omega), if_neg (by omega)]
theorem cm_eq {a b : Int} (h : a = b) : cm a b = 0 := by unfold cm; rw [if_neg (by omega), if_pos h]
theorem top_lt {m n : List Int} (hm : Lim m) {i : Nat} (h1 : i < m.length) (h2 : i < n.length) (hd : m.drop (i + 1) = n.drop (i + 1)) (h : dg m i < dg n i) : lv m < lv n := by
  rw [lv_split m i (by omega), lv_split n i (by omega), drop_dg h1, drop_dg h2, hd]
  have h3 := lv_lt (hm.take i)
  rw [List.length_take, Nat.min_eq_left (by omega)] at h3
  have h4 : 4294967296 ^ i * (dg m i + 1 + 4294967296 * lv (n.drop (i + 1))) ≤ 4294967296 ^ i * (dg n i + 4294967296 * lv (n.drop (i + 1))) := Nat.mul_le_mul_left _ (by omega)
  have h5 : 4294967296 ^ i * (dg m i + 1 + 4294967296 * lv (n.drop (i + 1))) = 4294967296 ^ i * (dg m i + 4294967296 * lv (n.drop (i + 1))) + 4294967296 ^ i := by
    rw [show dg m i + 1 + 4294967296 * lv (n.drop (i + 1)) = (dg m i + 4294967296 * lv (n.drop (i + 1))) + 1 from by omega, Nat.mul_add, Nat.mul_one]
  omega
theorem cmp_s_same : quadformref01_cmp.s0 = integer_compare.s0 := rfl
theorem cmp_loop {m n : List Int} (hm : Lim m) (hn : Lim n) (hl : m.length = n.length) (hb : m.length < 17592186044416) : ∀ i, i ≤ m.length → m.drop i = n.drop i →
    ∃ z, iterL (fun x : List Int × List Int × Int × Unit => integer_compare.s0 x.1 x.2.1 x.2.2.1) (m, n, (i : Int) - 1, ()) = some z ∧ ((z = .inl () ∧ cm (lv m) (lv n) = 0) ∨ z = .inr (cm (lv m) (lv n), ())) := by
  intro i
  induction i with
  | zero =>
    intro _ h
    rw [List.drop_zero, List.drop_zero] at h
    refine ⟨_, iterL_done ?_, .inl ⟨rfl, cm_eq (by rw [h])⟩⟩
    simp only [integer_compare.s0, cite, decide_eq_true_eq]
    rw [if_neg (by omega)]
  | succ i ih =>
    intro hi h
    have hst : integer_compare.s0 m n (((i + 1 : Nat) : Int) - 1) = if (dg m i : Int) = dg n i then some (.inl (m, n, (i : Int) - 1, ())) else if (dg m i : Int) < dg n i then some (.inr (.inr (-1, ()))) else some (.inr (.inr (1, ()))) := by
      simp only [integer_compare.s0, integer_compare.j3, integer_compare.j4, integer_compare.j5, cite, decide_eq_true_eq, inB_t, bne_iff_ne]
      rw [show ((i + 1 : Nat) : Int) - 1 = (i : Int) from by omega, Int.toNat_natCast, gd hm, gd hn, if_pos (by omega), if_pos (by omega), if_pos (by omega)]
      by_cases h0 : (dg m i : Int) = dg n i
      · rw [if_neg (fun h => h h0), if_pos h0, wi64 (by omega) (by omega)]
      · rw [if_pos h0, if_neg h0, if_pos (by omega), if_pos (by omega)]
    by_cases h0 : dg m i = dg n i
    · obtain ⟨z, hz, hz2⟩ := ih (by omega) (by
        rw [List.drop_eq_getElem_cons (l := m) (i := i) (by omega), List.drop_eq_getElem_cons (l := n) (i := i) (by omega), h]
        congr 1
        have h1 := dg_int hm i
        have h2 := dg_int hn i
        rw [h0, h2] at h1
        simp only [List.getD, List.getElem?_eq_getElem (show i < m.length by omega), List.getElem?_eq_getElem (show i < n.length by omega), Option.getD_some] at h1
        exact h1.symm)
      exact ⟨z, (iterL_next (by simp only []; rw [hst, if_pos (by omega)])).trans hz, hz2⟩
    · by_cases h1 : dg m i < dg n i
      · have := top_lt hm (by omega) (by omega) h h1
        exact ⟨_, iterL_done (by simp only []; rw [hst, if_neg (by omega), if_pos (by omega)]), .inr (by rw [cm_lt (by omega)])⟩
      · have := top_lt hn (by omega) (by omega) h.symm (show dg n i < dg m i by omega)
        exact ⟨_, iterL_done (by simp only []; rw [hst, if_neg (by omega), if_neg (by omega)]), .inr (by rw [cm_gt (by omega)])⟩
theorem cmp_same {m n : List Int} (hm : Lim m) (hn : Lim n) (hl : m.length = n.length) (hb : m.length < 17592186044416) : integer_compare m n = some (cm (lv m) (lv n)) := by
  obtain ⟨z, h1, h2⟩ := cmp_loop hm hn hl hb m.length (Nat.le_refl _) (by rw [List.drop_length, hl, List.drop_length])
  unfold integer_compare
  simp only [integer_compare.j2, cite, bne_iff_ne]
  rw [if_neg (by simp [hl]), wi64 (by omega) (by omega), h1, Option.bind_some]
  rcases h2 with ⟨rfl, h2⟩ | rfl
  · simp only [integer_compare.k0_0, h2]
  · rfl
theorem compare_ok {a b : Nat} (ha : (limbs a).length < 17592186044416) : integer_compare (limbs a) (limbs b) = some (cm a b) := by
  by_cases h : (limbs a).length = (limbs b).length
  · have := cmp_same (lim_limbs a) (lim_limbs b) h ha
    rwa [lv_limbs, lv_limbs] at this
  · unfold integer_compare
    simp only [integer_compare.j1, cite, bne_iff_ne, decide_eq_true_eq]
    rw [if_pos (by omega)]
    by_cases h1 : (limbs a).length < (limbs b).length
    · have : ¬ b < 4294967296 ^ (limbs a).length := fun hc => by have := limbs_len.2 hc; omega
      have := limbs_len.1 (Nat.le_refl (limbs a).length)
      rw [if_pos (by omega), cm_lt (by omega)]
    · have : ¬ a < 4294967296 ^ (limbs b).length := fun hc => by have := limbs_len.2 hc; omega
      have := limbs_len.1 (Nat.le_refl (limbs b).length)
      rw [if_neg (by omega), cm_gt (by omega)]
theorem rcmp_eq (m n : List Int) : quadformref01_cmp m n = integer_compare m n := rfl
theorem rcmp_ok {a b : Nat} (ha : (limbs a).length < 17592186044416) : quadformref01_cmp (limbs a) (limbs b) = some (cm a b) := (rcmp_eq _ _).trans (compare_ok ha)

/-! ## the reference's sums -/
theorem lv_snoc (l : List Int) (d : Nat) : lv (l ++ [(d : Int)]) = lv l + 4294967296 ^ l.length * d := by
  rw [lv_append, lv_one, Int.toNat_natCast]
theorem lim_snoc {l : List Int} (h : Lim l) {d : Nat} (hd : d < 4294967296) : Lim (l ++ [(d : Int)]) := h.append (Lim.one (by omega))
theorem sum_step {m n : List Int} (hm : Lim m) (hn : Lim n) {i c : Nat} {out : List Int} (hi : i < m.length ∨ i < n.length) (hl : out.length = i) (hc : c ≤ 1) (hb : m.length < 1073741824) (hb' : n.length < 1073741824) :
    quadformref01_sum.s0 m n (c : Int) (i : Int) out = some (.inl (m, n, (((c + dg m i + dg n i) / 4294967296 : Nat) : Int), ((i + 1 : Nat) : Int), out ++ [(((c + dg m i + dg n i) % 4294967296 : Nat) : Int)], ())) := by
  have hdm := dg_lt hm i
  have hdn := dg_lt hn i
  have j2 : ∀ x : Nat, x < 12884901888 → quadformref01_sum.j2 m n (x : Int) (i : Int) out = some (.inl (m, n, ((x / 4294967296 : Nat) : Int), ((i + 1 : Nat) : Int), out ++ [((x % 4294967296 : Nat) : Int)], ())) := fun x hx => by
    simp only [quadformref01_sum.j2, cite, decide_eq_true_eq, maxL_eq]
    rw [if_pos (by simp [hl]; omega), hi_word, wu32, up (by omega)]
    congr 5
  have j1 : ∀ x : Nat, x < 8589934592 → quadformref01_sum.j1 m n (x : Int) (i : Int) out = some (.inl (m, n, (((x + dg n i) / 4294967296 : Nat) : Int), ((i + 1 : Nat) : Int), out ++ [(((x + dg n i) % 4294967296 : Nat) : Int)], ())) := fun x hx => by
    simp only [quadformref01_sum.j1, cite, decide_eq_true_eq, inB_t]
    rw [Int.toNat_natCast, gd hn, wu64' (x := ((dg n i : Nat) : Int)) (by omega) (by omega)]
    by_cases h5 : i < n.length
    · rw [if_pos (by omega), if_pos (by omega), wu64' (by omega) (by omega)]
      exact j2 (x + dg n i) (by omega)
    · rw [if_neg (by omega), dg_out (by omega)]
      exact j2 x (by omega)
  simp only [quadformref01_sum.s0, quadformref01_sum.j3, cite, decide_eq_true_eq, inB_t]
  rw [Int.toNat_natCast, gd hm, wu64' (x := ((dg m i : Nat) : Int)) (by omega) (by omega)]
  by_cases h4 : i < m.length
  · rw [if_pos (by omega), if_pos (by omega), if_pos (by omega), wu64' (by omega) (by omega)]
    exact j1 (c + dg m i) (by omega)
  · have h6 : dg m i = 0 := dg_out (by omega)
    rw [if_neg (by omega), if_pos (by omega), if_neg (by omega), h6]
    exact j1 c (by omega)
theorem sum_loop {m n : List Int} (hm : Lim m) (hn : Lim n) (hb : m.length < 1073741824) (hb' : n.length < 1073741824) : ∀ (t i : Nat) (out : List Int) (c : Nat), max m.length n.length - i = t → i ≤ max m.length n.length → out.length = i → Lim out → c ≤ 1 →
    lv out + 4294967296 ^ i * c = lv (m.take i) + lv (n.take i) → ∃ (c' : Nat) (o' : List Int), c' ≤ 1 ∧ Lim o' ∧ lv o' + 4294967296 ^ max m.length n.length * c' = lv m + lv n ∧ o'.length = max m.length n.length ∧
      iterL (fun x : List Int × List Int × Int × Int × List Int × Unit => quadformref01_sum.s0 x.1 x.2.1 x.2.2.1 x.2.2.2.1 x.2.2.2.2.1) (m, n, (c : Int), (i : Int), out, ()) = some ((c' : Int), o', ()) := by
  intro t
  induction t with
  | zero =>
    intro i out c ht hi hl ho hc he
    obtain rfl : i = max m.length n.length := by omega
    refine ⟨c, out, hc, ho, ?_, hl, iterL_done ?_⟩
    · rw [he, List.take_of_length_le (by omega), List.take_of_length_le (by omega)]
    · simp only [quadformref01_sum.s0, cite, decide_eq_true_eq]
      rw [if_neg (by omega), if_neg (by omega)]
  | succ t ih =>
    intro i out c ht hi hl ho hc he
    have hdm := dg_lt hm i
    have hdn := dg_lt hn i
    have h1 := lv_take_succ m i
    have h2 := lv_take_succ n i
    obtain ⟨c', o', hr1, hr2, hr3, hr4, hr5⟩ := ih (i + 1) (out ++ [(((c + dg m i + dg n i) % 4294967296 : Nat) : Int)]) ((c + dg m i + dg n i) / 4294967296) (by omega) (by omega) (by simp [hl]) (lim_snoc ho (by omega)) (by omega) (by
      rw [lv_snoc, hl, h1, h2, Nat.pow_succ]
      have h3 : 4294967296 ^ i * (c + dg m i + dg n i) = 4294967296 ^ i * ((c + dg m i + dg n i) % 4294967296) + 4294967296 ^ i * (4294967296 * ((c + dg m i + dg n i) / 4294967296)) := by
        rw [← Nat.mul_add, Nat.mod_add_div]
      rw [Nat.mul_add, Nat.mul_add] at h3
      rw [Nat.mul_assoc]
      omega)
    exact ⟨c', o', hr1, hr2, hr3, hr4, (iterL_next (sum_step hm hn (by omega) hl hc hb hb')).trans hr5⟩
theorem sum_ok {m n : List Int} (hm : Lim m) (hn : Lim n) (hb : m.length < 1073741824) (hb' : n.length < 1073741824) : ∃ r, Lim r ∧ lv r = lv m + lv n ∧ r.length = max m.length n.length + 1 ∧ quadformref01_sum m n = some r := by
  obtain ⟨c, o, h1, h2, h3, h4, h5⟩ := sum_loop hm hn hb hb' _ 0 [] 0 rfl (by omega) rfl Lim.nil (by omega) (by simp [lv])
  refine ⟨o ++ [(c : Int)], lim_snoc h2 (by omega), by rw [lv_snoc, h4, h3], by simp [h4], ?_⟩
  unfold quadformref01_sum
  rw [show ((0 : Nat) : Int) = 0 from rfl] at h5
  rw [h5, Option.bind_some]
  simp only [quadformref01_sum.k0, cite, decide_eq_true_eq, maxL_eq]
  rw [if_pos (by simp [h4]; omega), wu32' (by omega) (by omega)]

theorem diff_loop {m n : List Int} (hm : Lim m) (hn : Lim n) (hb : m.length < 1073741824) : ∀ (t i : Nat) (out : List Int) (c : Nat), m.length - i = t → i ≤ m.length → out.length = i → Lim out → c ≤ 1 →
    lv (m.take i) + 4294967296 ^ i * c = lv out + lv (n.take i) → ∃ r c', Lim r ∧ lv m + 4294967296 ^ m.length * c' = lv r + lv (n.take m.length) ∧ r.length = m.length ∧
      iterL (fun x : List Int × List Int × Int × Int × List Int × Unit => quadformref01_difference.s0 x.1 x.2.1 x.2.2.1 x.2.2.2.1 x.2.2.2.2.1) (m, n, (c : Int), (i : Int), out, ()) = some (r, ()) := by
  intro t
  induction t with
  | zero =>
    intro i out c ht hi hl ho hc he
    obtain rfl : i = m.length := by omega
    refine ⟨out, c, ho, by rwa [List.take_length] at he, hl, iterL_done ?_⟩
    simp only [quadformref01_difference.s0, cite, decide_eq_true_eq]
    rw [if_neg (by omega)]
  | succ t ih =>
    intro i out c ht hi hl ho hc he
    have hdm := dg_lt hm i
    have hdn := dg_lt hn i
    have h1 := lv_take_succ m i
    have h2 := lv_take_succ n i
    obtain ⟨d, c', hd, hc', h3, h7⟩ : ∃ d c' : Nat, d < 4294967296 ∧ c' ≤ 1 ∧ dg m i + 4294967296 * c' = c + d + dg n i ∧ (c' = if dg m i < c + dg n i then 1 else 0) := by
      by_cases h : dg m i < c + dg n i
      · exact ⟨dg m i + 4294967296 - c - dg n i, 1, by omega, by omega, by omega, by rw [if_pos h]⟩
      · exact ⟨dg m i - c - dg n i, 0, by omega, by omega, by omega, by rw [if_neg h]⟩
    obtain ⟨r, cc, hr1, hr2, hr3, hr4⟩ := ih (i + 1) (out ++ [(d : Int)]) c' (by omega) (by omega) (by simp [hl]) (lim_snoc ho hd) hc' (by
      rw [lv_snoc, hl, h1, h2, Nat.pow_succ]
      have h4 : 4294967296 ^ i * (dg m i + 4294967296 * c') = 4294967296 ^ i * (c + d + dg n i) := by rw [h3]
      rw [Nat.mul_add, Nat.mul_add, Nat.mul_add, ← Nat.mul_assoc] at h4
      omega)
    refine ⟨r, cc, hr1, hr2, hr3, (iterL_next ?_).trans hr4⟩
    have j2 : ∀ x : Nat, x = c + dg n i → quadformref01_difference.j2 m n (i : Int) (x : Int) out = some (.inl (m, n, (c' : Int), ((i + 1 : Nat) : Int), out ++ [(d : Int)], ())) := fun x hx => by
      simp only [quadformref01_difference.j2, quadformref01_difference.j3, quadformref01_difference.j4, cite, decide_eq_true_eq, inB_t, maxL_eq]
      have e3 : IntKind.wrap .u32 (IntKind.wrap .u64 ((dg m i : Int) - (x : Int))) = (d : Int) := by rw [wu64, wu32]; omega
      rw [Int.toNat_natCast, gd hm, wu64' (x := ((dg m i : Nat) : Int)) (by omega) (by omega), e3, if_pos (by omega), if_pos (by simp [hl]; omega), if_pos (by omega), up (by omega)]
      by_cases h6 : dg m i < c + dg n i
      · rw [if_pos h6] at h7
        rw [if_pos (by omega), h7]; rfl
      · rw [if_neg h6] at h7
        rw [if_neg (by omega), h7]; rfl
    simp only [quadformref01_difference.s0, quadformref01_difference.j1, cite, decide_eq_true_eq, inB_t]
    rw [if_pos (by omega), Int.toNat_natCast, gd hn, wu64' (x := ((dg n i : Nat) : Int)) (by omega) (by omega)]
    by_cases h5 : i < n.length
    · rw [if_pos (by omega), if_pos (by omega), wu64' (by omega) (by omega)]
      exact j2 (c + dg n i) rfl
    · rw [if_neg (by omega)]
      exact j2 c (by rw [dg_out (by omega)]; rfl)
theorem diff_ok {m n : List Int} (hm : Lim m) (hn : Lim n) (hb : m.length < 1073741824) (hl : n.length ≤ m.length) (h : lv n ≤ lv m) : ∃ r, Lim r ∧ lv r = lv m - lv n ∧ r.length = m.length ∧ quadformref01_difference m n = some r := by
  obtain ⟨r, c, h1, h2, h3, h4⟩ := diff_loop hm hn hb _ 0 [] 0 rfl (by omega) rfl Lim.nil (by omega) (by simp [lv])
  refine ⟨r, h1, ?_, h3, ?_⟩
  · rw [List.take_of_length_le hl] at h2
    have h5 := lv_lt h1
    rw [h3] at h5
    have : c = 0 := by
      cases c with
      | zero => rfl
      | succ c =>
        have : 4294967296 ^ m.length * 1 ≤ 4294967296 ^ m.length * (c + 1) := Nat.mul_le_mul_left _ (by omega)
        omega
    subst this
    omega
  · unfold quadformref01_difference
    rw [show ((0 : Nat) : Int) = 0 from rfl] at h4
    rw [h4]; rfl
theorem len_le {a b : Nat} (h : a ≤ b) : (limbs a).length ≤ (limbs b).length := limbs_len.2 (Nat.lt_of_le_of_lt h (limbs_len.1 (Nat.le_refl _)))
theorem len_lv {l : List Int} (h : Lim l) : (limbs (lv l)).length ≤ l.length := limbs_len.2 (lv_lt h)
theorem iv_mkI (z : Int) : iv (mkI z).1 (mkI z).2.1 = z := iv_mk z
theorem lim_mkI (z : Int) : Lim (mkI z).2.1 := lim_limbs _
theorem lv_mkI (z : Int) : lv (mkI z).2.1 = z.natAbs := lv_limbs _
theorem radd_ok {l l' : List Int} (s s' : Bool) (u u' : Unit) (h : Lim l) (h' : Lim l') (hb : l.length < 1073741823) (hb' : l'.length < 1073741823) : quadformref01_Add (s, l, u) (s', l', u') = some (mkI (iv s l + iv s' l')) := by
  have hx := len_lv h
  have hy := len_lv h'
  unfold quadformref01_Add
  rw [rtrim_ok h (by omega), Option.bind_some, rtrim_ok h' (by omega), Option.bind_some]
  simp only [cite, beq_iff_eq]
  by_cases hs : s = s'
  · subst hs
    obtain ⟨r, h1, h2, h3, h4⟩ := sum_ok (lim_limbs (lv l)) (lim_limbs (lv l')) (by omega) (by omega)
    have h5 := make_ok s h1 (by rw [h3]; omega)
    rw [lv_limbs, lv_limbs] at h2
    rw [show iv s r = iv s l + iv s l' from by unfold iv; split <;> omega] at h5
    rw [if_pos rfl, h4, Option.bind_some, h5]; rfl
  · rw [if_neg hs]
    simp only [quadformref01_Add.j1, quadformref01_Add.j2, cite, decide_eq_true_eq]
    rw [rcmp_ok (by omega), Option.bind_some]
    by_cases hc : lv l' ≤ lv l
    · obtain ⟨r, h1, h2, h3, h4⟩ := diff_ok (lim_limbs (lv l)) (lim_limbs (lv l')) (by omega) (len_le hc) (by rw [lv_limbs, lv_limbs]; exact hc)
      have h5 := make_ok s h1 (by rw [h3]; omega)
      rw [lv_limbs, lv_limbs] at h2
      rw [show iv s r = iv s l + iv s' l' from by cases s <;> cases s' <;> simp_all [iv] <;> omega] at h5
      rw [if_pos (by unfold cm; split <;> (try split) <;> omega), h4, Option.bind_some, h5]; rfl
    · obtain ⟨r, h1, h2, h3, h4⟩ := diff_ok (lim_limbs (lv l')) (lim_limbs (lv l)) (by omega) (len_le (by omega)) (by rw [lv_limbs, lv_limbs]; omega)
      have h5 := make_ok s' h1 (by rw [h3]; omega)
      rw [lv_limbs, lv_limbs] at h2
      rw [show iv s' r = iv s l + iv s' l' from by cases s <;> cases s' <;> simp_all [iv] <;> omega] at h5
      rw [cm_lt (by omega), if_neg (by omega), h4, Option.bind_some, h5]; rfl
theorem rneg_ok {l : List Int} (neg : Bool) (u : Unit) (hl : Lim l) (hn : l.length ≤ 1073741824) : quadformref01_Neg (neg, l, u) = some (mkI (-iv neg l)) := by
  unfold quadformref01_Neg
  rw [make_ok _ hl hn, Option.bind_some, show iv (!neg) l = -iv neg l by cases neg <;> simp [iv]]
theorem rsub_ok {l l' : List Int} (s s' : Bool) (u u' : Unit) (h : Lim l) (h' : Lim l') (hb : l.length < 1073741823) (hb' : l'.length < 1073741823) : quadformref01_Sub (s, l, u) (s', l', u') = some (mkI (iv s l - iv s' l')) := by
  have hy := len_lv h'
  unfold quadformref01_Sub
  rw [rneg_ok s' _ h' (by omega), Option.bind_some]
  have h2 := radd_ok s (mkI (-iv s' l')).1 u () h (lim_mkI (-iv s' l')) hb (by show (limbs (-iv s' l').natAbs).length < _; rw [Int.natAbs_neg, iv_natAbs]; omega)
  rw [iv_mkI, ← Int.sub_eq_add_neg] at h2
  exact (congrArg (fun o => o.bind fun y => some (y.1, (y.2.1, ()))) h2).trans rfl
end Go.Proofs.Ytbchgegclgpdhaa.V
