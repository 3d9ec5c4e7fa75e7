/- Laws: quotient and remainder; sums and differences of integer. -/
import Derived.Test.YtgbndganadelpaaGreatDoorYLocalmassDiagonal12
namespace Go.Proofs.YtgbndganadelpaaGreatDoor.V
open Go Go.Proofs.YtgbndganadelpaaGreatDoor.E Go.Proofs.YtgbndganadelpaaGreatDoor.LI
set_option linter.unusedVariables false
set_option linter.unusedSimpArgs false
theorem len_mkI (z : Int) : (mkI z).2.1.length = (limbs z.natAbs).length := rfl
theorem rdivmod_ok {l l' : List Int} (s s' : Bool) (u u' : Unit) (h : Lim l) (h' : Lim l') (hb : l.length < 33554432) (hb' : l'.length < 33554432) (h0 : iv s' l' ≠ 0) :
    quadformref01_DivMod (s, l, u) (s', l', u') = some (mkI (iv s l / iv s' l'), mkI (iv s l % iv s' l'), true, ()) := by
  have hx := len_lv h
  have hy := len_lv h'
  have hN : 0 < lv l' := by unfold iv at h0; split at h0 <;> omega
  generalize hM' : lv l = M at *
  generalize hN' : lv l' = N at *
  have hqM : M / N ≤ M := Nat.div_le_self _ _
  have hrM : M % N < N := Nat.mod_lt _ hN
  have hdm := Nat.div_add_mod M N
  have hlq := len_le hqM
  have hlr := len_le (Nat.le_of_lt hrM)
  have hdv := rdivide_ok (M := M) (N := N) (by omega) (by omega) hN
  unfold quadformref01_DivMod
  rw [rtrim_ok h (by omega), Option.bind_some, rtrim_ok h' (by omega), Option.bind_some, hM', hN']
  simp only [cite, beq_iff_eq, limbs_len0]
  rw [if_neg (by omega)]
  simp only [quadformref01_DivMod.j1, quadformref01_DivMod.j2, quadformref01_DivMod.j3, cite, decide_eq_true_eq]
  rw [hdv, Option.bind_some]
  generalize M / N = q at *
  generalize M % N = r at *
  have m1 := make_ok (!(s == s')) (lim_limbs q) (by omega)
  have m2 := make_ok s (lim_limbs r) (by omega)
  rw [m1, Option.bind_some, m2, Option.bind_some]
  have hiv : iv s' l' = if s' = true then -(N : Int) else N := by unfold iv; rw [hN']
  have hia : iv s l = if s = true then -(M : Int) else M := by unfold iv; rw [hM']
  have hab : (iv s' l').natAbs = N := by rw [iv_natAbs, hN']
  have hdz : (N : Int) * (q : Int) + (r : Int) = M := by exact_mod_cast hdm
  have hQ : iv (!(s == s')) (limbs q) = if (!(s == s')) = true then -(q : Int) else (q : Int) := by unfold iv; rw [lv_limbs]
  have hR : iv s (limbs r) = if s = true then -(r : Int) else (r : Int) := by unfold iv; rw [lv_limbs]
  generalize iv (!(s == s')) (limbs q) = Q at *
  generalize iv s (limbs r) = R at *
  have hlR : (mkI R).2.1.length < 33554433 := by
    rw [len_mkI, show R.natAbs = r from by rw [hR]; split <;> omega]
    omega
  have hlQ : (mkI Q).2.1.length < 33554433 := by
    rw [len_mkI, show Q.natAbs = q from by rw [hQ]; split <;> omega]
    omega
  have sg := rsign_ok (mkI R).1 () (lim_mkI R) (by omega)
  rw [iv_mkI] at sg
  rw [sg, Option.bind_some]
  by_cases hneg : R < 0
  · have hs : s = true := by
      cases s
      · rw [if_neg (by decide)] at hR; omega
      · rfl
    subst hs
    rw [if_pos rfl] at hR hia
    have a1 := make_ok false (lim_limbs N) (by omega)
    rw [iv_f, lv_limbs] at a1
    have a2 := radd_ok (mkI R).1 (mkI (N : Int)).1 () () (lim_mkI R) (lim_mkI (N : Int)) (by omega) (by rw [len_mkI, Int.natAbs_natCast]; omega)
    rw [iv_mkI, iv_mkI] at a2
    have a2' : quadformref01_Add ((mkI R).1, (mkI R).2.1, ()) (mkI (N : Int)) = some (mkI (R + N)) := a2
    rw [show (if R = 0 then (0 : Int) else if R < 0 then -1 else 1) = -1 from by rw [if_neg (by omega), if_pos hneg], if_pos (by decide), a1, Option.bind_some, a2', Option.bind_some, rsign_ok s' () h' (by omega), Option.bind_some, rsmall_ok (n := 1) (by decide) (by decide), Option.bind_some]
    have hl1 : (mkI 1).2.1.length < 8796093022208 := by decide
    have hl1' : (mkI 1).2.1.length = 1 := by decide
    have hsum : R + N = iv true l % iv s' l' := by
      refine ((ediv_of (Q := if s' = true then (q : Int) + 1 else -(q : Int) - 1) ?_ (by omega) (by rw [hab]; omega) h0).2).symm
      rw [hia, hiv]
      cases s'
      · simp only [Bool.false_eq_true, if_false]
        rw [Int.mul_sub, Int.mul_neg]
        omega
      · simp only [if_true]
        rw [Int.neg_mul, Int.mul_add]
        omega
    have hquo : iv true l / iv s' l' = if s' = true then (q : Int) + 1 else -(q : Int) - 1 := by
      refine (ediv_of (R := R + N) ?_ (by omega) (by rw [hab]; omega) h0).1
      rw [hia, hiv]
      cases s'
      · simp only [Bool.false_eq_true, if_false]
        rw [Int.mul_sub, Int.mul_neg]
        omega
      · simp only [if_true]
        rw [Int.neg_mul, Int.mul_add]
        omega
    rw [hsum, hquo]
    cases s'
    · have hQ' : Q = -(q : Int) := by rw [hQ]; rfl
      have hi : iv false l' = (N : Int) := hiv
      have a3 := rsub_ok (mkI Q).1 (mkI 1).1 () () (lim_mkI Q) (lim_mkI 1) (by omega) (by omega)
      rw [iv_mkI, iv_mkI, hQ'] at a3
      have a3' : quadformref01_Sub ((mkI (-(q : Int))).1, (mkI (-(q : Int))).2.1, ()) (mkI 1) = some (mkI (-(q : Int) - 1)) := a3
      rw [show (if iv false l' = 0 then (0 : Int) else if iv false l' < 0 then -1 else 1) = 1 from by rw [hi, if_neg (by omega), if_neg (by omega)], if_neg (by decide), hQ', Option.bind_some, a3', Option.bind_some, if_neg (by decide)]
    · have hQ' : Q = (q : Int) := by rw [hQ]; rfl
      have hi : iv true l' = -(N : Int) := hiv
      have a3 := radd_ok (mkI Q).1 (mkI 1).1 () () (lim_mkI Q) (lim_mkI 1) (by omega) (by omega)
      rw [iv_mkI, iv_mkI, hQ'] at a3
      have a3' : quadformref01_Add ((mkI (q : Int)).1, (mkI (q : Int)).2.1, ()) (mkI 1) = some (mkI ((q : Int) + 1)) := a3
      rw [show (if iv true l' = 0 then (0 : Int) else if iv true l' < 0 then -1 else 1) = -1 from by rw [hi, if_neg (by omega), if_pos (by omega)], if_pos (by decide), hQ', a3', Option.bind_some, if_pos rfl]
  · have hres : iv s l / iv s' l' = Q ∧ iv s l % iv s' l' = R := by
      have hR' : R = (r : Int) := by
        cases s
        · rw [hR]; rfl
        · rw [hR, if_pos rfl] at hneg ⊢; omega
      refine ediv_of ?_ (by omega) (by rw [hab]; omega) h0
      rw [hia, hiv, hQ]
      have hr' : s = true → r = 0 := by
        rintro rfl
        rw [if_pos rfl] at hR
        omega
      cases s <;> cases s'
      · simp only [Bool.false_eq_true, beq_self_eq_true, Bool.not_true, if_false]; omega
      · simp only [Bool.false_eq_true, if_false, if_true, show (!(false == true)) = true from rfl, Int.neg_mul, Int.mul_neg, Int.neg_neg]; omega
      · have := hr' rfl
        simp only [Bool.false_eq_true, if_false, if_true, show (!(true == false)) = true from rfl, Int.mul_neg]; omega
      · have := hr' rfl
        simp only [Bool.false_eq_true, beq_self_eq_true, Bool.not_true, if_false, if_true, Int.neg_mul]; omega
    rw [hres.1, hres.2]
    have : ¬ ((if R = 0 then (0 : Int) else if R < 0 then -1 else 1) < 0) := by split <;> (try split) <;> omega
    rw [if_neg this]
theorem rrem_ok {l l' : List Int} (s s' : Bool) (u u' : Unit) (h : Lim l) (h' : Lim l') (hb : l.length < 33554432) (hb' : l'.length < 33554432) (h0 : iv s' l' ≠ 0) : quadformref01_Rem (s, l, u) (s', l', u') = some (mkI (iv s l % iv s' l')) := by
  unfold quadformref01_Rem
  have := rdivmod_ok s s' () () h h' hb hb' h0
  rw [this, Option.bind_some]
theorem limb_ok {l : List Int} (h : Lim l) (i : Nat) : integer_limb l (i : Int) = some ((dg l i : Nat) : Int) := by
  have hd := dg_lt h i
  simp only [integer_limb, integer_limb.j1, cite, decide_eq_true_eq, inB_t]
  by_cases h1 : i < l.length
  · rw [if_pos (by omega), if_pos (by omega), Int.toNat_natCast, gd h, wu64' (by omega) (by omega)]
  · rw [if_neg (by omega), dg_out (by omega)]; rfl
theorem take_set (a : List Int) (i : Nat) (x : Int) (h : i < a.length) : (a.set i x).take (i + 1) = a.take i ++ [x] := by
  rw [List.take_add_one]
  simp [List.take_set_of_le, h]
theorem plus_loop {m n : List Int} (hm : Lim m) (hn : Lim n) {L : Nat} (hL : L < 17592186044416) : ∀ (t i : Nat) (a : List Int) (c : Nat), L - i = t → i ≤ L → a.length = L + 1 → Lim a → c ≤ 1 → lv (a.take i) + 4294967296 ^ i * c = lv (m.take i) + lv (n.take i) →
    ∃ (a' : List Int) (c' : Nat), iterL (fun x : List Int × List Int × Int × Int × Int × Int × List Int × Unit => integer_plus.s0 x.1 x.2.1 x.2.2.1 x.2.2.2.1 x.2.2.2.2.1 x.2.2.2.2.2.1 x.2.2.2.2.2.2.1) (m, n, (L : Int), (c : Int), (L : Int), (i : Int), a, ()) = some ((L : Int), (c' : Int), a', ()) ∧
      a'.length = L + 1 ∧ Lim a' ∧ c' ≤ 1 ∧ lv (a'.take L) + 4294967296 ^ L * c' = lv (m.take L) + lv (n.take L) := by
  intro t
  induction t with
  | zero =>
    intro i a c ht hi hl ha hc he
    obtain rfl : i = L := by omega
    refine ⟨a, c, iterL_done ?_, hl, ha, hc, he⟩
    simp only [integer_plus.s0, cite, decide_eq_true_eq]
    rw [if_neg (by omega)]
  | succ t ih =>
    intro i a c ht hi hl ha hc he
    have hdm := dg_lt hm i
    have hdn := dg_lt hn i
    obtain ⟨a', c', h1, h2⟩ := ih (i + 1) (a.set i (((c + dg m i + dg n i) % 4294967296 : Nat) : Int)) ((c + dg m i + dg n i) / 4294967296) (by omega) (by omega) (by simpa using hl) (ha.set i (by omega)) (by omega) (by
      rw [take_set _ _ _ (by omega), lv_snoc, lv_take_succ, lv_take_succ, Nat.pow_succ, List.length_take, Nat.min_eq_left (by omega)]
      have h3 : 4294967296 ^ i * (c + dg m i + dg n i) = 4294967296 ^ i * ((c + dg m i + dg n i) % 4294967296) + 4294967296 ^ i * (4294967296 * ((c + dg m i + dg n i) / 4294967296)) := by
        rw [← Nat.mul_add, Nat.mod_add_div]
      rw [Nat.mul_add, Nat.mul_add] at h3
      rw [Nat.mul_assoc]
      omega)
    refine ⟨a', c', (iterL_next ?_).trans h1, h2⟩
    simp only [integer_plus.s0, integer_plus.j1, cite, decide_eq_true_eq, inB_t]
    have e : IntKind.wrap .u64 ((c : Int) + IntKind.wrap .u64 ((dg m i : Int) + (dg n i : Int))) = ((c + dg m i + dg n i : Nat) : Int) := by
      rw [wu64, wu64]; omega
    rw [if_pos (by omega), limb_ok hm, Option.bind_some, limb_ok hn, Option.bind_some, e, hi_word, Int.toNat_natCast, Nat.zero_add, if_pos (by omega), up (by omega), wu32, Int.natCast_emod]
    rfl
theorem plus_ok {m n : List Int} (hm : Lim m) (hn : Lim n) (hb : m.length < 1073741824) (hb' : n.length < 1073741824) : integer_plus m n = some (limbs (lv m + lv n)) := by
  have hmx : mx2 (m.length : Int) (n.length : Int) = ((max m.length n.length : Nat) : Int) := by unfold mx2; split <;> omega
  obtain ⟨a', c', h1, h2, h3, h4, h5⟩ := plus_loop hm hn (L := max m.length n.length) (by omega) _ 0 (List.replicate (max m.length n.length + 1) 0) 0 rfl (by omega) (by simp) (Lim.replicate _) (by omega) (by simp [lv])
  unfold integer_plus
  simp only [hmx, cite, inC_t, maxL_eq]
  rw [up (by omega), if_pos (by omega), Int.toNat_natCast]
  rw [show ((0 : Nat) : Int) = 0 from rfl] at h1
  rw [h1, Option.bind_some]
  simp only [integer_plus.k0, cite, inB_t]
  rw [if_pos (by omega), Int.toNat_natCast, Nat.zero_add, wu32' (by omega) (by omega), trim_ok (h3.set _ (by omega)) (by simp; omega), Option.bind_some]
  have e : lv (a'.set (max m.length n.length) (c' : Int)) = lv m + lv n := by
    have e1 : a'.set (max m.length n.length) (c' : Int) = (a'.set (max m.length n.length) (c' : Int)).take (max m.length n.length + 1) := by rw [List.take_of_length_le (by simp; omega)]
    rw [e1, take_set _ _ _ (by omega), lv_snoc, List.length_take, Nat.min_eq_left (by omega), h5, List.take_of_length_le (by omega), List.take_of_length_le (by omega)]
  rw [e]
theorem minus_loop {m n : List Int} (hm : Lim m) (hn : Lim n) (hb : m.length < 17592186044416) : ∀ (t i : Nat) (a : List Int) (c : Nat), m.length - i = t → i ≤ m.length → a.length = m.length → Lim a → c ≤ 1 → lv (m.take i) + 4294967296 ^ i * c = lv (a.take i) + lv (n.take i) →
    ∃ (a' : List Int) (c' : Nat), iterL (fun x : List Int × List Int × Int × Int × Int × List Int × Unit => integer_minus.s0 x.1 x.2.1 x.2.2.1 x.2.2.2.1 x.2.2.2.2.1 x.2.2.2.2.2.1) (m, n, (c : Int), (m.length : Int), (i : Int), a, ()) = some (a', ()) ∧
      a'.length = m.length ∧ Lim a' ∧ lv m + 4294967296 ^ m.length * c' = lv a' + lv (n.take m.length) := by
  intro t
  induction t with
  | zero =>
    intro i a c ht hi hl ha hc he
    obtain rfl : i = m.length := by omega
    refine ⟨a, c, iterL_done ?_, hl, ha, ?_⟩
    · simp only [integer_minus.s0, cite, decide_eq_true_eq]
      rw [if_neg (by omega)]
    · rw [List.take_length] at he
      rw [he, List.take_of_length_le (show a.length ≤ m.length by omega)]
  | succ t ih =>
    intro i a c ht hi hl ha hc he
    have hdm := dg_lt hm i
    have hdn := dg_lt hn i
    obtain ⟨d, c', hd, hc', h3⟩ : ∃ d c' : Nat, d < 4294967296 ∧ c' ≤ 1 ∧ dg m i + 4294967296 * c' = c + d + dg n i := by
      by_cases h : dg m i < c + dg n i
      · exact ⟨dg m i + 4294967296 - c - dg n i, 1, by omega, by omega, by omega⟩
      · exact ⟨dg m i - c - dg n i, 0, by omega, by omega, by omega⟩
    obtain ⟨a', cc, h1, h2⟩ := ih (i + 1) (a.set i (d : Int)) c' (by omega) (by omega) (by simpa using hl) (ha.set i (by omega)) hc' (by
      rw [take_set _ _ _ (by omega), lv_snoc, lv_take_succ, lv_take_succ, Nat.pow_succ, List.length_take, Nat.min_eq_left (by omega)]
      have h4 : 4294967296 ^ i * (dg m i + 4294967296 * c') = 4294967296 ^ i * (c + d + dg n i) := by rw [h3]
      rw [Nat.mul_add, Nat.mul_add, Nat.mul_add, ← Nat.mul_assoc] at h4
      omega)
    refine ⟨a', cc, (iterL_next ?_).trans h1, h2⟩
    simp only [integer_minus.s0, integer_minus.j1, cite, decide_eq_true_eq, inB_t]
    rw [if_pos (by omega), limb_ok hn, if_pos (by omega), Option.bind_some, Int.toNat_natCast, gd hm, Nat.zero_add]
    have e : IntKind.wrap .u64 (IntKind.wrap .u64 (IntKind.wrap .u64 (dg m i : Int) - (dg n i : Int)) - (c : Int)) = ((d + 18446744069414584320 * c' : Nat) : Int) := by
      rw [wu64, wu64, wu64]
      have : c' = 0 ∨ c' = 1 := by omega
      rcases this with rfl | rfl <;> omega
    rw [e, top_bit, if_pos (by omega), up (by omega), wu32]
    have e2 : ((d + 18446744069414584320 * c') / 9223372036854775808 : Nat) = c' := by
      have : c' = 0 ∨ c' = 1 := by omega
      rcases this with rfl | rfl <;> omega
    have e3 : ((d + 18446744069414584320 * c' : Nat) : Int) % 4294967296 = (d : Int) := by omega
    rw [e2, e3]
theorem minus_ok {m n : List Int} (hm : Lim m) (hn : Lim n) (hb : m.length ≤ 1073741824) (hl : n.length ≤ m.length) (h : lv n ≤ lv m) : integer_minus m n = some (limbs (lv m - lv n)) := by
  obtain ⟨a', c', h1, h2, h3, h4⟩ := minus_loop hm hn (by omega) _ 0 (List.replicate m.length 0) 0 rfl (by omega) (by simp) (Lim.replicate _) (by omega) (by simp [lv])
  unfold integer_minus
  simp only [cite, inC_t, maxL_eq]
  rw [show ((0 : Nat) : Int) = 0 from rfl] at h1
  rw [if_pos (by omega), Int.toNat_natCast, h1, Option.bind_some]
  simp only [integer_minus.k0]
  rw [trim_ok h3 (by omega), Option.bind_some]
  have e : lv a' = lv m - lv n := by
    rw [List.take_of_length_le hl] at h4
    have h5 := lv_lt h3
    rw [h2] at h5
    have : c' = 0 := by
      cases c' with
      | zero => rfl
      | succ c =>
        have : 4294967296 ^ m.length * 1 ≤ 4294967296 ^ m.length * (c + 1) := Nat.mul_le_mul_left _ (by omega)
        omega
    subst this
    omega
  rw [e]
end Go.Proofs.YtgbndganadelpaaGreatDoor.V
/- Laws: quotient and remainder of integer (a divisor of one word), words of 64 bits, residues. -/
namespace Go.Proofs.YtgbndganadelpaaGreatDoor.V
open Go Go.Proofs.YtgbndganadelpaaGreatDoor.E Go.Proofs.YtgbndganadelpaaGreatDoor.LI
set_option linter.unusedVariables false
set_option linter.unusedSimpArgs false
theorem limbs_one {N : Nat} (h : 0 < N) (h2 : N < 4294967296) : limbs N = [(N : Int)] := by
  rw [limbs_pos (by omega), Nat.mod_eq_of_lt h2, Nat.div_eq_of_lt h2, limbs_zero]
theorem divide_small {M N : Nat} (hM : (limbs M).length ≤ 1073741824) (h : M < N) : integer_divide (limbs M) (limbs N) = some (limbs (M / N), limbs (M % N), ()) := by
  unfold integer_divide
  rw [compare_ok (by omega), Option.bind_some]
  simp only [cite, decide_eq_true_eq]
  rw [cm_lt (by omega), if_pos (by decide), if_pos (show (limbs M).length ≤ maxL from hM), Nat.div_eq_of_lt h, Nat.mod_eq_of_lt h, limbs_zero]
theorem divide_one {M N : Nat} (hM : (limbs M).length ≤ 1073741824) (hN : 0 < N) (hN2 : N < 4294967296) : integer_divide (limbs M) (limbs N) = some (limbs (M / N), limbs (M % N), ()) := by
  by_cases h : M < N
  · exact divide_small hM h
  · unfold integer_divide
    rw [compare_ok (by omega), Option.bind_some]
    simp only [integer_divide.j1, cite, decide_eq_true_eq, inB_t, beq_iff_eq]
    have hr : M % N < N := Nat.mod_lt _ hN
    have hc : ¬ cm (M : Int) (N : Int) < 0 := by unfold cm; split <;> (try split) <;> omega
    have ht : integer_trim [((M % N : Nat) : Int)] = some (limbs (M % N)) := by
      have h1 : Lim [((M % N : Nat) : Int)] := Lim.one (by omega)
      rw [trim_ok h1 (by simp), lv_one, Int.toNat_natCast]
    have hs := shortDivide_ok (lim_limbs M) hM hN hN2
    rw [lv_limbs] at hs
    rw [if_neg hc, limbs_one hN hN2]
    simp only [List.length_singleton, List.getD_cons_zero]
    rw [if_pos (by decide), if_pos (by decide), hs, Option.bind_some, ht, Option.bind_some]
theorem divmod_of {l l' : List Int} (s s' : Bool) (u u' : Unit) (h : Lim l) (h' : Lim l') (hb : l.length < 33554432) (hb' : l'.length < 33554432) (h0 : iv s' l' ≠ 0)
    (hdv : integer_divide (limbs (lv l)) (limbs (lv l')) = some (limbs (lv l / lv l'), limbs (lv l % lv l'), ())) :
    integer_DivMod (s, l, u) (s', l', u') = some (mkI (iv s l / iv s' l'), mkI (iv s l % iv s' l'), true, ()) := by
  have hx := len_lv h
  have hy := len_lv h'
  have hN : 0 < lv l' := by unfold iv at h0; split at h0 <;> omega
  unfold integer_DivMod
  rw [magnitude_ok s' () h' (by omega), Option.bind_some]
  simp only [cite, beq_iff_eq, limbs_len0]
  rw [if_neg (by omega)]
  simp only [integer_DivMod.j1, integer_DivMod.j2, cite, decide_eq_true_eq]
  rw [magnitude_ok s () h (by omega), Option.bind_some, hdv, Option.bind_some]
  generalize hM' : lv l = M at *
  generalize hN' : lv l' = N at *
  have hqM : M / N ≤ M := Nat.div_le_self _ _
  have hrM : M % N < N := Nat.mod_lt _ hN
  have hdm := Nat.div_add_mod M N
  have hlq := len_le hqM
  have hlr := len_le (Nat.le_of_lt hrM)
  generalize M / N = q at *
  generalize M % N = r at *
  have hiv : iv s' l' = if s' = true then -(N : Int) else N := by unfold iv; rw [hN']
  have hia : iv s l = if s = true then -(M : Int) else M := by unfold iv; rw [hM']
  have hab : (iv s' l').natAbs = N := by rw [iv_natAbs, hN']
  have hdz : (N : Int) * (q : Int) + (r : Int) = M := by exact_mod_cast hdm
  have fin : ∀ (Q R : Nat), (limbs Q).length < 17592186044416 → (limbs R).length < 17592186044416 → iv (!(s == s')) (limbs Q) = iv s l / iv s' l' → (R : Int) = iv s l % iv s' l' →
      ((integer_signed (!(s == s')) (limbs Q)).bind fun y8 => (integer_signed false (limbs R)).bind fun y9 => some ((y8.1, (y8.2.1, ())), ((y9.1, (y9.2.1, ())), (true, ())))) = some (mkI (iv s l / iv s' l'), mkI (iv s l % iv s' l'), true, ()) := by
    intro Q R h1 h2 h3 h4
    rw [signed_ok _ (lim_limbs Q) h1, Option.bind_some, signed_ok _ (lim_limbs R) h2, Option.bind_some, h3, iv_f, lv_limbs, h4]
  cases hs : s with
  | true =>
    rw [if_pos rfl]
    rw [hs] at hia fin
    rw [if_pos rfl] at hia
    have hlen0 := limbs_len0 r
    by_cases hr0 : r = 0
    · rw [if_neg (by show ¬ (((limbs r).length : Nat) : Int) > 0; rw [hr0]; decide)]
      have := ediv_of (a := iv true l) (b := iv s' l') (Q := iv (!(true == s')) (limbs q)) (R := (r : Int)) (by
        rw [hia, hiv]; cases s'
        · rw [show (!(true == false)) = true from rfl, iv_t, lv_limbs]; simp only [Bool.false_eq_true, if_false, Int.mul_neg]; omega
        · rw [show (!(true == true)) = false from rfl, iv_f, lv_limbs]; simp only [if_true, Int.neg_mul]; omega) (by omega) (by rw [hab]; omega) h0
      exact fin q r (by omega) (by omega) this.1.symm this.2.symm
    · have hpl := limbs_len_pos.2 hr0
      have hp := plus_ok (lim_limbs q) (n := [1]) (Lim.one (by omega)) (by omega) (by simp)
      rw [lv_limbs, lv_one] at hp
      have hmn := minus_ok (lim_limbs N) (lim_limbs r) (by omega) hlr (by rw [lv_limbs, lv_limbs]; omega)
      rw [lv_limbs, lv_limbs] at hmn
      rw [if_pos (show (((limbs r).length : Nat) : Int) > 0 by omega), hp, Option.bind_some, hmn, Option.bind_some]
      have := ediv_of (a := iv true l) (b := iv s' l') (Q := iv (!(true == s')) (limbs (q + 1))) (R := ((N - r : Nat) : Int)) (by
        rw [hia, hiv]; cases s'
        · rw [show (!(true == false)) = true from rfl, iv_t, lv_limbs]; simp only [Bool.false_eq_true, if_false, Int.mul_neg, Int.natCast_add, Int.natCast_one, Int.mul_add, Int.mul_one]; omega
        · rw [show (!(true == true)) = false from rfl, iv_f, lv_limbs]; simp only [if_true, Int.neg_mul, Int.natCast_add, Int.natCast_one, Int.mul_add, Int.mul_one]; omega) (by omega) (by rw [hab]; omega) h0
      have hq1 : (limbs (q + 1)).length ≤ (limbs q).length + 1 := limbs_len.2 (by
        have := limbs_len.1 (Nat.le_refl (limbs q).length)
        rw [Nat.pow_succ]; omega)
      have hnr := len_le (show N - r ≤ N by omega)
      exact fin (q + 1) (N - r) (by omega) (by omega) this.1.symm this.2.symm
  | false =>
    rw [if_neg (by decide)]
    rw [hs] at hia fin
    rw [if_neg (by decide)] at hia
    have := ediv_of (a := iv false l) (b := iv s' l') (Q := iv (!(false == s')) (limbs q)) (R := (r : Int)) (by
        rw [hia, hiv]; cases s'
        · rw [show (!(false == false)) = false from rfl, iv_f, lv_limbs]; simp only [Bool.false_eq_true, if_false]; omega
        · rw [show (!(false == true)) = true from rfl, iv_t, lv_limbs]; simp only [if_true, Int.neg_mul, Int.mul_neg, Int.neg_neg]; omega) (by omega) (by rw [hab]; omega) h0
    exact fin q r (by omega) (by omega) this.1.symm this.2.symm
end Go.Proofs.YtgbndganadelpaaGreatDoor.V
/- Laws: products. -/
namespace Go.Proofs.YtgbndganadelpaaGreatDoor.V
open Go Go.Proofs.YtgbndganadelpaaGreatDoor.E Go.Proofs.YtgbndganadelpaaGreatDoor.LI
set_option linter.unusedVariables false
set_option linter.unusedSimpArgs false
theorem lv_put (l : List Int) {i : Nat} (hi : i < l.length) (x : Nat) : lv (l.set i (x : Int)) + 4294967296 ^ i * dg l i = lv l + 4294967296 ^ i * x := by
  rw [lv_split (l.set i (x : Int)) i (by simp; omega), lv_split l i (by omega), drop_set l i _ hi, lv_cons, drop_dg hi, List.take_set_of_le (by omega)]
  rw [Nat.mul_add, Nat.mul_add]
  omega
theorem dg_put_ne (l : List Int) {i k : Nat} (h : i ≠ k) (x : Int) : dg (l.set i x) k = dg l k := by
  unfold dg
  rw [List.getD_eq_getElem?_getD, List.getD_eq_getElem?_getD, List.getElem?_set_ne h]
theorem mul_le {a b : Nat} (ha : a < 4294967296) (hb : b < 4294967296) : a * b ≤ 18446744065119617025 := by
  have := Nat.mul_le_mul (show a ≤ 4294967295 by omega) (show b ≤ 4294967295 by omega)
  omega
theorem times_inner {m n : List Int} (hm : Lim m) (hn : Lim n) {i : Nat} (hi : i < m.length) (hb : m.length + n.length < 17592186044416) : ∀ (t j : Nat) (a : List Int) (c A0 : Nat), n.length - j = t → j ≤ n.length → a.length = m.length + n.length → Lim a → c < 4294967296 →
    dg a (i + n.length) = 0 → lv a + 4294967296 ^ (i + j) * c = A0 + 4294967296 ^ i * (dg m i * lv (n.take j)) →
    ∃ (a' : List Int) (c' : Nat), iterL (fun x : List Int × List Int × Int × Int × Int × Int × Int × Int × List Int × Unit => integer_times.s0 x.1 x.2.1 x.2.2.1 x.2.2.2.1 x.2.2.2.2.1 x.2.2.2.2.2.1 x.2.2.2.2.2.2.1 x.2.2.2.2.2.2.2.1 x.2.2.2.2.2.2.2.2.1) (m, n, (i : Int), (c : Int), (m.length : Int), (i : Int), (n.length : Int), (j : Int), a, ()) = some (m, n, (i : Int), (c' : Int), (m.length : Int), (i : Int), a', ()) ∧
      a'.length = m.length + n.length ∧ Lim a' ∧ c' < 4294967296 ∧ dg a' (i + n.length) = 0 ∧ lv a' + 4294967296 ^ (i + n.length) * c' = A0 + 4294967296 ^ i * (dg m i * lv n) := by
  intro t
  induction t with
  | zero =>
    intro j a c A0 ht hj hl ha hc hd he
    obtain rfl : j = n.length := by omega
    refine ⟨a, c, iterL_done ?_, hl, ha, hc, hd, by rw [he, List.take_length]⟩
    simp only [integer_times.s0, cite, decide_eq_true_eq]
    rw [if_neg (by omega)]
  | succ t ih =>
    intro j a c A0 ht hj hl ha hc hd he
    have h1 := dg_lt hm i
    have h2 := dg_lt hn j
    have h3 := dg_lt ha (i + j)
    have hp := mul_le h1 h2
    have hv := lv_put a (i := i + j) (by omega) ((c + (dg m i * dg n j + dg a (i + j))) % 4294967296)
    obtain ⟨a', c', g1, g2⟩ := ih (j + 1) (a.set (i + j) (((c + (dg m i * dg n j + dg a (i + j))) % 4294967296 : Nat) : Int)) ((c + (dg m i * dg n j + dg a (i + j))) / 4294967296) A0 (by omega) (by omega) (by simpa using hl) (ha.set _ (by omega)) (by omega)
      (by rw [dg_put_ne _ (by omega)]; exact hd) (by
        rw [lv_take_succ, show i + (j + 1) = (i + j) + 1 from rfl, Nat.pow_succ]
        have e1 : 4294967296 ^ (i + j) * (c + (dg m i * dg n j + dg a (i + j))) = 4294967296 ^ (i + j) * ((c + (dg m i * dg n j + dg a (i + j))) % 4294967296) + 4294967296 ^ (i + j) * 4294967296 * ((c + (dg m i * dg n j + dg a (i + j))) / 4294967296) := by
          rw [Nat.mul_assoc, ← Nat.mul_add, Nat.mod_add_div]
        have e2 : 4294967296 ^ i * (dg m i * (lv (n.take j) + 4294967296 ^ j * dg n j)) = 4294967296 ^ i * (dg m i * lv (n.take j)) + 4294967296 ^ (i + j) * (dg m i * dg n j) := by
          rw [Nat.mul_add, Nat.mul_add, Nat.pow_add, Nat.mul_left_comm (dg m i), ← Nat.mul_assoc (4294967296 ^ i) (4294967296 ^ j)]
        rw [e2]
        rw [Nat.mul_add, Nat.mul_add] at e1
        omega)
    refine ⟨a', c', (iterL_next ?_).trans g1, g2⟩
    simp only [integer_times.s0, integer_times.j2, cite, decide_eq_true_eq, inB_t]
    have w1 : IntKind.wrap .i64 ((i : Int) + (j : Int)) = ((i + j : Nat) : Int) := by rw [wi64 (by omega) (by omega)]; rfl
    have w2 : IntKind.wrap .u64 (IntKind.wrap .u64 ((dg m i : Int) * (dg n j : Int)) + IntKind.wrap .u64 (dg a (i + j) : Int)) = ((dg m i * dg n j + dg a (i + j) : Nat) : Int) := by
      rw [← Int.natCast_mul, wu64' (x := ((dg m i * dg n j : Nat) : Int)) (by omega) (by omega), wu64' (x := (dg a (i + j) : Int)) (by omega) (by omega), wu64' (by omega) (by omega)]
      rfl
    have w3 : IntKind.wrap .u64 ((c : Int) + ((dg m i * dg n j + dg a (i + j) : Nat) : Int)) = ((c + (dg m i * dg n j + dg a (i + j)) : Nat) : Int) := by
      rw [wu64' (by omega) (by omega)]; rfl
    rw [if_pos (by omega), if_pos (by omega), if_pos (by omega), w1, if_pos (by omega), if_pos (by omega)]
    simp only [Int.toNat_natCast, Nat.zero_add]
    rw [gd hm, gd hn, gd ha, wu64' (x := (dg m i : Int)) (by omega) (by omega), wu64' (x := (dg n j : Int)) (by omega) (by omega), w2, w3, hi_word, up (by omega), wu32, Int.natCast_emod]
    rfl
theorem times_outer {m n : List Int} (hm : Lim m) (hn : Lim n) (hb : m.length + n.length < 17592186044416) : ∀ (t i : Nat) (a : List Int), m.length - i = t → i ≤ m.length → a.length = m.length + n.length → Lim a → lv a = lv (m.take i) * lv n →
    ∃ a' : List Int, iterL (fun x : List Int × List Int × Int × Int × List Int × Unit => integer_times.s1 x.1 x.2.1 x.2.2.1 x.2.2.2.1 x.2.2.2.2.1) (m, n, (m.length : Int), (i : Int), a, ()) = some (a', ()) ∧ a'.length = m.length + n.length ∧ Lim a' ∧ lv a' = lv m * lv n := by
  intro t
  induction t with
  | zero =>
    intro i a ht hi hl ha he
    obtain rfl : i = m.length := by omega
    refine ⟨a, iterL_done ?_, hl, ha, by rw [he, List.take_length]⟩
    simp only [integer_times.s1, cite, decide_eq_true_eq]
    rw [if_neg (by omega)]
  | succ t ih =>
    intro i a ht hi hl ha he
    have hd : dg a (i + n.length) = 0 := by
      have b1 := lv_lt (hm.take i)
      have b2 := lv_lt hn
      rw [List.length_take, Nat.min_eq_left hi] at b1
      have : lv a < 4294967296 ^ (i + n.length) := by
        rw [he, Nat.pow_add]
        exact Nat.lt_of_le_of_lt (Nat.mul_le_mul_right _ (Nat.le_of_lt b1)) (Nat.mul_lt_mul_of_pos_left b2 (Nat.pow_pos (by omega)))
      rw [dg_lv ha, Nat.div_eq_of_lt this]
    obtain ⟨a1, c1, g1, g2, g3, g4, g5, g6⟩ := times_inner hm hn (i := i) (by omega) hb _ 0 a 0 (lv a) rfl (by omega) hl ha (by omega) hd (by simp [lv])
    have hv := lv_put a1 (i := i + n.length) (by omega) c1
    rw [g5, Nat.mul_zero, Nat.add_zero, g6, he] at hv
    obtain ⟨a', q1, q2⟩ := ih (i + 1) (a1.set (i + n.length) (c1 : Int)) (by omega) (by omega) (by simpa using g2) (g3.set _ (by omega)) (by
      rw [hv, lv_take_succ, Nat.add_mul, Nat.mul_assoc])
    refine ⟨a', (iterL_next ?_).trans q1, q2⟩
    simp only [integer_times.s1, integer_times.j1, cite, decide_eq_true_eq]
    rw [show ((0 : Nat) : Int) = 0 from rfl] at g1
    rw [if_pos (by omega), g1, Option.bind_some]
    simp only [integer_times.k0, cite, inB_t]
    have w1 : IntKind.wrap .i64 ((i : Int) + ((n.length : Nat) : Int)) = ((i + n.length : Nat) : Int) := by rw [wi64 (by omega) (by omega)]; rfl
    rw [w1, if_pos (by omega), Int.toNat_natCast, Nat.zero_add, up (by omega), wu32' (by omega) (by omega)]
theorem times_ok {m n : List Int} (hm : Lim m) (hn : Lim n) (hb : m.length + n.length ≤ 1073741824) : integer_times m n = some (limbs (lv m * lv n)) := by
  obtain ⟨a', g1, g2, g3, g4⟩ := times_outer hm hn (by omega) _ 0 (List.replicate (m.length + n.length) 0) rfl (by omega) (by simp) (Lim.replicate _) (by rw [lv_zeros]; simp [lv])
  have w1 : IntKind.wrap .i64 ((m.length : Int) + (n.length : Int)) = ((m.length + n.length : Nat) : Int) := by rw [wi64 (by omega) (by omega)]; rfl
  unfold integer_times
  simp only [w1, cite, inC_t, maxL_eq]
  rw [show ((0 : Nat) : Int) = 0 from rfl] at g1
  rw [if_pos (by omega), Int.toNat_natCast, g1, Option.bind_some]
  simp only [integer_times.k1]
  rw [trim_ok g3 (by omega), Option.bind_some, g4]
theorem mul_ok {l l' : List Int} (s s' : Bool) (u u' : Unit) (h : Lim l) (h' : Lim l') (hb : l.length + l'.length ≤ 1073741824) : integer_Mul (s, l, u) (s', l', u') = some (mkI (iv s l * iv s' l')) := by
  have hx := len_lv h
  have hy := len_lv h'
  unfold integer_Mul
  rw [magnitude_ok s () h (by omega), Option.bind_some, magnitude_ok s' () h' (by omega), Option.bind_some, times_ok (lim_limbs _) (lim_limbs _) (by omega), Option.bind_some, lv_limbs, lv_limbs]
  have hlen : (limbs (lv l * lv l')).length ≤ l.length + l'.length := limbs_len.2 (by
    rw [Nat.pow_add]
    have b1 := lv_lt h
    have b2 := lv_lt h'
    exact Nat.lt_of_le_of_lt (Nat.mul_le_mul_right _ (Nat.le_of_lt b1)) (Nat.mul_lt_mul_of_pos_left b2 (Nat.pow_pos (by omega))))
  rw [signed_ok _ (lim_limbs _) (by omega), Option.bind_some]
  have : iv (!(s == s')) (limbs (lv l * lv l')) = iv s l * iv s' l' := by
    cases s <;> cases s' <;> simp [iv, lv_limbs, Int.natCast_mul, Int.mul_neg, Int.neg_mul]
  rw [this]
theorem mulI (a b : Int) (h : (limbs a.natAbs).length + (limbs b.natAbs).length ≤ 1073741824) : integer_Mul (mkI a) (mkI b) = some (mkI (a * b)) := by
  have := mul_ok (mkI a).1 (mkI b).1 () () (lim_mkI a) (lim_mkI b) h
  rwa [iv_mkI, iv_mkI] at this
end Go.Proofs.YtgbndganadelpaaGreatDoor.V
/- Laws of integer: leading zeros, shift, unshift. -/
namespace Go.Proofs.YtgbndganadelpaaGreatDoor.V
open Go Go.Proofs.YtgbndganadelpaaGreatDoor.E Go.Proofs.YtgbndganadelpaaGreatDoor.LI
set_option linter.unusedVariables false
set_option linter.unusedSimpArgs false
theorem len_tab24 : ∀ k : Fin 256, k.val ≠ 0 → bits_Len32.j2 (k.val : Int) 24 = some (((24 + (Nat.log2 k.val + 1) : Nat)) : Int) := by decide +kernel
theorem len_tab16 : ∀ k : Fin 256, k.val ≠ 0 → bits_Len32.j3 (k.val : Int) = some (((16 + (Nat.log2 k.val + 1) : Nat)) : Int) := by decide +kernel
theorem len_tab8 : ∀ k : Fin 256, k.val ≠ 0 → bits_Len32.j2 (k.val : Int) 8 = some (((8 + (Nat.log2 k.val + 1) : Nat)) : Int) := by decide +kernel
theorem len_tab0 : ∀ k : Fin 256, k.val ≠ 0 → bits_Len32.j5 (k.val : Int) = some (((0 + (Nat.log2 k.val + 1) : Nat)) : Int) := by decide +kernel
theorem len_t24 (k : Nat) (h : k < 256) (h0 : k ≠ 0) : bits_Len32.j2 (k : Int) 24 = some (((24 + (Nat.log2 k + 1) : Nat)) : Int) := len_tab24 ⟨k, h⟩ h0
theorem len_t16 (k : Nat) (h : k < 256) (h0 : k ≠ 0) : bits_Len32.j3 (k : Int) = some (((16 + (Nat.log2 k + 1) : Nat)) : Int) := len_tab16 ⟨k, h⟩ h0
theorem len_t8 (k : Nat) (h : k < 256) (h0 : k ≠ 0) : bits_Len32.j2 (k : Int) 8 = some (((8 + (Nat.log2 k + 1) : Nat)) : Int) := len_tab8 ⟨k, h⟩ h0
theorem len_t0 (k : Nat) (h : k < 256) (h0 : k ≠ 0) : bits_Len32.j5 (k : Int) = some (((0 + (Nat.log2 k + 1) : Nat)) : Int) := len_tab0 ⟨k, h⟩ h0
theorem log_scale {x y : Nat} (c : Nat) (hy : y = x / 2 ^ c) (h : y ≠ 0) : 2 ^ (c + (Nat.log2 y + 1) - 1) ≤ x ∧ x < 2 ^ (c + (Nat.log2 y + 1)) := by
  subst hy
  have h1 := Nat.log2_self_le h
  have h2 := @Nat.lt_log2_self (x / 2 ^ c)
  constructor
  · rw [show c + (Nat.log2 (x / 2 ^ c) + 1) - 1 = Nat.log2 (x / 2 ^ c) + c by omega, Nat.pow_add]
    exact Nat.le_trans (Nat.mul_le_mul_right _ h1) (Nat.div_mul_le_self _ _)
  · rw [Nat.add_comm, Nat.pow_add]
    exact (Nat.div_lt_iff_lt_mul (Nat.two_pow_pos c)).1 h2
theorem len32 {x : Nat} (h0 : 0 < x) (h1 : x < 4294967296) : ∃ e : Nat, bits_Len32 (x : Int) = some (e : Int) ∧ 2 ^ (e - 1) ≤ x ∧ x < 2 ^ e := by
  have s16 := shr32 x 16 (by omega)
  rw [show ((16 : Nat) : Int) = 16 from rfl, show (2 : Nat) ^ 16 = 65536 from rfl] at s16
  unfold bits_Len32
  simp only [cite, decide_eq_true_eq, bits_Len32.j1, bits_Len32.j4]
  rw [s16]
  by_cases c1 : 65536 ≤ x
  · rw [if_pos (by omega)]
    have s8 := shr32 (x / 65536) 8 (by omega)
    rw [show ((8 : Nat) : Int) = 8 from rfl, show (2 : Nat) ^ 8 = 256 from rfl] at s8
    rw [s8]
    by_cases c2 : 256 ≤ x / 65536
    · rw [if_pos (by omega), show IntKind.wrap .i64 ((16 : Int) + 8) = 24 by rw [wi64 (by decide) (by decide)]; rfl]
      obtain ⟨y, hy⟩ : ∃ y, y = x / 65536 / 256 := ⟨_, rfl⟩
      rw [← hy]
      exact ⟨_, len_t24 y (by omega) (by omega), log_scale 24 (by rw [hy, Nat.div_div_eq_div_mul]) (by omega)⟩
    · rw [if_neg (by omega)]
      obtain ⟨y, hy⟩ : ∃ y, y = x / 65536 := ⟨_, rfl⟩
      rw [← hy]
      exact ⟨_, len_t16 y (by omega) (by omega), log_scale 16 hy (by omega)⟩
  · rw [if_neg (by omega)]
    have s8 := shr32 x 8 (by omega)
    rw [show ((8 : Nat) : Int) = 8 from rfl, show (2 : Nat) ^ 8 = 256 from rfl] at s8
    rw [s8]
    by_cases c2 : 256 ≤ x
    · rw [if_pos (by omega), show IntKind.wrap .i64 ((0 : Int) + 8) = 8 by rw [wi64 (by decide) (by decide)]; rfl]
      obtain ⟨y, hy⟩ : ∃ y, y = x / 256 := ⟨_, rfl⟩
      rw [← hy]
      exact ⟨_, len_t8 y (by omega) (by omega), log_scale 8 hy (by omega)⟩
    · rw [if_neg (by omega)]
      exact ⟨_, len_t0 x (by omega) (by omega), log_scale 0 (by omega) (by omega)⟩
theorem lz32 {x : Nat} (h0 : 0 < x) (h1 : x < 4294967296) : ∃ s : Nat, s < 32 ∧ bits_LeadingZeros32 (x : Int) = some (s : Int) ∧ 2147483648 ≤ x * 2 ^ s ∧ x * 2 ^ s < 4294967296 := by
  obtain ⟨e, h2, h3, h4⟩ := len32 h0 h1
  have he : 1 ≤ e := by
    rcases Nat.eq_zero_or_pos e with rfl | h
    · simp at h4; omega
    · exact h
  have he2 : e ≤ 32 := by
    apply Classical.byContradiction
    intro h
    have := Nat.pow_le_pow_right (show 2 > 0 by omega) (show 32 ≤ e - 1 by omega)
    omega
  refine ⟨32 - e, by omega, ?_, ?_, ?_⟩
  · unfold bits_LeadingZeros32
    rw [h2, Option.bind_some, wi64 (by omega) (by omega)]
    congr 1; omega
  · have := Nat.mul_le_mul_right (2 ^ (32 - e)) h3
    rw [← Nat.pow_add, show e - 1 + (32 - e) = 31 by omega] at this
    omega
  · have := Nat.mul_lt_mul_of_pos_right h4 (Nat.two_pow_pos (32 - e))
    rw [← Nat.pow_add, show e + (32 - e) = 32 by omega] at this
    omega
theorem two32 (s : Nat) (h : s < 32) : ∃ c, 2 ^ s * c = 4294967296 ∧ 0 < c := ⟨2 ^ (32 - s), by rw [← Nat.pow_add, show s + (32 - s) = 32 by omega], Nat.two_pow_pos _⟩
theorem shift_loop {l : List Int} (hl : Lim l) {s : Nat} (hs : s < 32) (hb : l.length < 17592186044416) : ∀ (t i : Nat) (a : List Int), l.length - i = t → i ≤ l.length → a.length = l.length + 1 → Lim a → lv a = 2 ^ s * lv (l.take i) →
    ∃ a' : List Int, iterL (fun x : List Int × Int × Int × Int × List Int × Unit => integer_shift.s0 x.1 x.2.1 x.2.2.1 x.2.2.2.1 x.2.2.2.2.1) (l, (s : Int), (l.length : Int), (i : Int), a, ()) = some (a', ()) ∧ a'.length = l.length + 1 ∧ Lim a' ∧ lv a' = 2 ^ s * lv l := by
  intro t
  induction t with
  | zero =>
    intro i a ht hi hl' ha he
    obtain rfl : i = l.length := by omega
    refine ⟨a, iterL_done ?_, hl', ha, by rw [he, List.take_length]⟩
    simp only [integer_shift.s0, cite, decide_eq_true_eq]
    rw [if_neg (by omega)]
  | succ t ih =>
    intro i a ht hi hl' ha he
    have hd := dg_lt hl i
    obtain ⟨c, hc, hc0⟩ := two32 s hs
    have hp : 0 < 4294967296 ^ i := Nat.pow_pos (by omega)
    have h2s : 0 < 2 ^ s := Nat.two_pow_pos s
    have hlt : lv a < 4294967296 ^ i * 2 ^ s := by
      have := lv_lt (hl.take i)
      rw [List.length_take, Nat.min_eq_left hi] at this
      rw [he, Nat.mul_comm]
      exact Nat.mul_lt_mul_of_pos_right this h2s
    have ho : dg a i < 2 ^ s := by
      rw [dg_lv ha]
      exact Nat.lt_of_le_of_lt (Nat.mod_le _ _) ((Nat.div_lt_iff_lt_mul hp).2 (by rw [Nat.mul_comm]; exact hlt))
    have ho1 : dg a (i + 1) = 0 := by
      rw [dg_lv ha, Nat.div_eq_of_lt]
      rw [Nat.pow_succ]
      exact Nat.lt_of_lt_of_le hlt (Nat.mul_le_mul_left _ (by rw [← hc]; exact Nat.le_mul_of_pos_right _ hc0))
    obtain ⟨w, hw⟩ : ∃ w, w = 2 ^ s * dg l i := ⟨_, rfl⟩
    have hw2 : w < 18446744073709551616 := by
      have := Nat.mul_lt_mul_of_lt_of_le (show dg l i < 4294967296 from hd) (show 2 ^ s ≤ 4294967296 by rw [← hc]; exact Nat.le_mul_of_pos_right _ hc0) (by omega)
      rw [hw, Nat.mul_comm]; omega
    have hw3 : w / 4294967296 < 4294967296 := by omega
    have hwl : w % 4294967296 = 2 ^ s * (dg l i % c) := by rw [hw, ← hc, Nat.mul_mod_mul_left]
    have hor : orI .u32 ((dg a i : Nat) : Int) ((w % 4294967296 : Nat) : Int) = ((dg a i + w % 4294967296 : Nat) : Int) := by
      have := dg_lt ha i
      rw [or32_nat _ _ this (by omega), Nat.or_comm, hwl, ← Nat.two_pow_add_eq_or_of_lt ho, Nat.add_comm]
    have hsum : dg a i + w % 4294967296 < 4294967296 := by
      have h3 : dg l i % c + 1 ≤ c := Nat.mod_lt _ hc0
      have h4 := Nat.mul_le_mul_left (2 ^ s) h3
      rw [Nat.mul_add, Nat.mul_one, hc] at h4
      omega
    have v1 := lv_put a (i := i) (by omega) (dg a i + w % 4294967296)
    have v2 := lv_put (a.set i ((dg a i + w % 4294967296 : Nat) : Int)) (i := i + 1) (by rw [List.length_set]; omega) (w / 4294967296)
    rw [dg_put_ne _ (by omega), ho1, Nat.mul_zero, Nat.add_zero] at v2
    obtain ⟨a', g1, g2⟩ := ih (i + 1) ((a.set i ((dg a i + w % 4294967296 : Nat) : Int)).set (i + 1) ((w / 4294967296 : Nat) : Int)) (by omega) (by omega) (by simpa using hl') ((ha.set _ (by omega)).set _ (by omega)) (by
      rw [v2, lv_take_succ, Nat.mul_add, ← he, Nat.mul_left_comm, ← hw, Nat.pow_succ, Nat.mul_assoc]
      have e : 4294967296 ^ i * w = 4294967296 ^ i * (w % 4294967296) + 4294967296 ^ i * (4294967296 * (w / 4294967296)) := by rw [← Nat.mul_add, Nat.mod_add_div]
      rw [Nat.mul_add] at v1
      omega)
    refine ⟨a', (iterL_next ?_).trans g1, g2⟩
    have hsh := @shl_nat (dg l i) s (by omega) (by rw [Nat.mul_comm, ← hw]; exact hw2)
    rw [← hw] at hsh
    simp only [integer_shift.s0, integer_shift.j1, cite, decide_eq_true_eq, inB_t]
    have wl : IntKind.wrap .u32 ((w : Nat) : Int) = ((w % 4294967296 : Nat) : Int) := by rw [wu32]; omega
    rw [if_pos (by omega), if_pos (by omega), if_neg (by omega), if_pos (by omega), Int.toNat_natCast, Nat.zero_add, gd hl, gd ha, wu64' (x := ((dg l i : Nat) : Int)) (by omega) (by omega), hsh, wl, hor, hi_word, up (by omega), wu32' (by omega) (by omega), if_pos (by omega), if_pos (by rw [List.length_set]; omega), Int.toNat_natCast, Nat.zero_add]
theorem shift_ok {l : List Int} (hl : Lim l) {s : Nat} (hs : s < 32) (hb : l.length < 1073741824) : ∃ r : List Int, integer_shift l (s : Int) = some r ∧ r.length = l.length + 1 ∧ Lim r ∧ lv r = 2 ^ s * lv l := by
  obtain ⟨a', g1, g2, g3, g4⟩ := shift_loop hl hs (by omega) _ 0 (List.replicate (l.length + 1) 0) rfl (by omega) (by simp) (Lim.replicate _) (by rw [lv_zeros]; simp [lv])
  refine ⟨a', ?_, g2, g3, g4⟩
  unfold integer_shift
  simp only [cite, inC_t, maxL_eq]
  rw [show ((0 : Nat) : Int) = 0 from rfl] at g1
  rw [up (by omega), if_pos (by omega), Int.toNat_natCast, g1, Option.bind_some]
  rfl
theorem unshift_loop {l : List Int} (hl : Lim l) {s : Nat} (hs : s < 32) (hb : l.length < 17592186044416) : ∀ (t i : Nat) (a : List Int), l.length - i = t → i ≤ l.length → a.length = l.length → Lim a → 2 ^ s * lv (a.take i) + dg l 0 % 2 ^ s = lv (l.take i) + 4294967296 ^ i * (dg l i % 2 ^ s) →
    ∃ a' : List Int, iterL (fun x : List Int × Int × Int × Int × List Int × Unit => integer_unshift.s0 x.1 x.2.1 x.2.2.1 x.2.2.2.1 x.2.2.2.2.1) (l, (s : Int), (l.length : Int), (i : Int), a, ()) = some (a', ()) ∧ a'.length = l.length ∧ Lim a' ∧ 2 ^ s * lv a' + dg l 0 % 2 ^ s = lv l := by
  intro t
  induction t with
  | zero =>
    intro i a ht hi hl' ha he
    obtain rfl : i = l.length := by omega
    refine ⟨a, iterL_done ?_, hl', ha, ?_⟩
    · simp only [integer_unshift.s0, cite, decide_eq_true_eq]
      rw [if_neg (by omega)]
    · rw [List.take_length, dg_out (i := l.length) (by omega), Nat.zero_mod, Nat.mul_zero, List.take_of_length_le (by omega)] at he
      exact he
  | succ t ih =>
    intro i a ht hi hl' ha he
    have hd := dg_lt hl i
    have hd1 := dg_lt hl (i + 1)
    obtain ⟨c, hc, hc0⟩ := two32 s hs
    have h2s : 0 < 2 ^ s := Nat.two_pow_pos s
    obtain ⟨w, hw⟩ : ∃ w, w = (4294967296 * dg l (i + 1) + dg l i) / 2 ^ s := ⟨_, rfl⟩
    have hw1 : w % 4294967296 = dg l i / 2 ^ s + dg l (i + 1) % 2 ^ s * c := by
      have e : w = c * dg l (i + 1) + dg l i / 2 ^ s := by
        rw [hw, ← hc, Nat.mul_assoc, Nat.mul_add_div h2s]
      have e2 := Nat.div_add_mod (dg l (i + 1)) (2 ^ s)
      have e3 : w = (dg l i / 2 ^ s + dg l (i + 1) % 2 ^ s * c) + 4294967296 * (dg l (i + 1) / 2 ^ s) := by
        rw [e]
        have : c * dg l (i + 1) = c * (2 ^ s * (dg l (i + 1) / 2 ^ s)) + c * (dg l (i + 1) % 2 ^ s) := by rw [← Nat.mul_add, e2]
        rw [this, ← hc, Nat.mul_comm c (dg l (i + 1) % 2 ^ s), ← Nat.mul_assoc, Nat.mul_comm c]
        omega
      have hlow : dg l i / 2 ^ s < c := by rw [Nat.div_lt_iff_lt_mul h2s, Nat.mul_comm, hc]; exact hd
      have hup : (dg l (i + 1) % 2 ^ s + 1) * c ≤ 2 ^ s * c := Nat.mul_le_mul_right _ (Nat.mod_lt _ h2s)
      rw [Nat.add_mul, Nat.one_mul, hc] at hup
      rw [e3, Nat.add_mul_mod_self_left, Nat.mod_eq_of_lt (by omega)]
    obtain ⟨a', g1, g2⟩ := ih (i + 1) (a.set i ((w % 4294967296 : Nat) : Int)) (by omega) (by omega) (by simpa using hl') (ha.set _ (by omega)) (by
      rw [take_set _ _ _ (by omega), lv_snoc, lv_take_succ, List.length_take, Nat.min_eq_left (by omega), Nat.mul_add, Nat.pow_succ, Nat.mul_left_comm]
      have e : 2 ^ s * (w % 4294967296) = 2 ^ s * (dg l i / 2 ^ s) + 4294967296 * (dg l (i + 1) % 2 ^ s) := by
        rw [hw1, Nat.mul_add, ← hc, Nat.mul_comm (dg l (i + 1) % 2 ^ s) c, Nat.mul_assoc]
      rw [e, Nat.mul_assoc]
      have e4 : 4294967296 ^ i * dg l i = 4294967296 ^ i * (2 ^ s * (dg l i / 2 ^ s)) + 4294967296 ^ i * (dg l i % 2 ^ s) := by rw [← Nat.mul_add, Nat.div_add_mod]
      rw [Nat.mul_add, e4]
      omega)
    refine ⟨a', (iterL_next ?_).trans g1, g2⟩
    have hsr := @shr_nat (4294967296 * dg l (i + 1) + dg l i) s (by omega)
    rw [← hw] at hsr
    have wl : IntKind.wrap .u32 ((w : Nat) : Int) = ((w % 4294967296 : Nat) : Int) := by rw [wu32]; omega
    simp only [integer_unshift.s0, integer_unshift.j1, cite, decide_eq_true_eq, inB_t]
    rw [if_pos (by omega), up (by omega), limb_ok hl, Option.bind_some, if_pos (by omega), if_neg (by omega), if_pos (by omega), Int.toNat_natCast, Nat.zero_add, gd hl, pack hd1 hd, hsr, wl]
theorem unshift_ok {l : List Int} (hl : Lim l) {s : Nat} (hs : s < 32) (hb : l.length ≤ 1073741824) : integer_unshift l (s : Int) = some (limbs (lv l / 2 ^ s)) := by
  obtain ⟨a', g1, g2, g3, g4⟩ := unshift_loop hl hs (by omega) _ 0 (List.replicate l.length 0) rfl (by omega) (by simp) (Lim.replicate _) (by simp [lv])
  have h2s : 0 < 2 ^ s := Nat.two_pow_pos s
  have he : lv a' = lv l / 2 ^ s := by
    rw [← g4, Nat.mul_add_div h2s, Nat.div_eq_of_lt (Nat.mod_lt _ h2s), Nat.add_zero]
  unfold integer_unshift
  simp only [cite, inC_t, maxL_eq]
  rw [show ((0 : Nat) : Int) = 0 from rfl] at g1
  rw [if_pos (by omega), Int.toNat_natCast, g1, Option.bind_some]
  simp only [integer_unshift.k0]
  rw [trim_ok g3 (by omega), Option.bind_some, he]
end Go.Proofs.YtgbndganadelpaaGreatDoor.V
/- Laws of integer: a digit of a quotient (long division). -/
namespace Go.Proofs.YtgbndganadelpaaGreatDoor.V
open Go Go.Proofs.YtgbndganadelpaaGreatDoor.E Go.Proofs.YtgbndganadelpaaGreatDoor.LI
set_option linter.unusedVariables false
set_option linter.unusedSimpArgs false
theorem and_low (x : Nat) (hx : x < 18446744073709551616) : andI .u64 (x : Int) 4294967295 = ((x % 4294967296 : Nat) : Int) := by
  have h0 : andI .u64 (x : Int) 4294967295 = IntKind.wrap .u64 (((BitVec.ofInt 64 (x : Int) &&& BitVec.ofInt 64 ((4294967295 : Nat) : Int)).toNat : Nat) : Int) := rfl
  rw [h0, wu64, BitVec.ofInt_natCast, BitVec.ofInt_natCast, BitVec.toNat_and, BitVec.toNat_ofNat, BitVec.toNat_ofNat, Nat.mod_eq_of_lt hx, Nat.mod_eq_of_lt (by decide)]
  have h1 := Nat.and_two_pow_sub_one_eq_mod x 32
  rw [show (2 : Nat) ^ 32 - 1 = 4294967295 from rfl, show (2 : Nat) ^ 32 = 4294967296 from rfl] at h1
  rw [h1]
  omega
theorem mul_lt32 {a b : Nat} (ha : a < 4294967296) (hb : b < 4294967296) : a * b < 18446744069414584321 := by
  have := mul_le ha hb
  omega
/-- The estimate: it is never too small, and at the end at most one too great. -/
theorem est_loop {u v : List Int} (hu : Lim u) (hv : Lim v) {n : Nat} (hn : v.length = n + 2) (hul : u.length = n + 3) {T Q : Nat} (hT : T < 18446744073709551616) (hT2 : T = 4294967296 * dg u (n + 2) + dg u (n + 1)) (hv1 : 0 < dg v (n + 1)) (hb : n < 1000000000000)
    (hQ : ∀ q, q < 4294967296 → q * (4294967296 * dg v (n + 1) + dg v n) > 4294967296 * T + dg u n → Q < q) :
    ∀ (q : Nat), q < 4294967296 → Q ≤ q → q * dg v (n + 1) ≤ T →
    ∃ q' : Nat, iterL (fun x : List Int × Int × Int × Int × List Int × Unit => integer_digit.s0 x.1 x.2.1 x.2.2.1 x.2.2.2.1 x.2.2.2.2.1) (v, ((n + 2 : Nat) : Int), (q : Int), ((T - q * dg v (n + 1) : Nat) : Int), u, ()) = some (v, ((n + 2 : Nat) : Int), (q' : Int), u, ()) ∧
      q' < 4294967296 ∧ Q ≤ q' ∧ q' * (4294967296 * dg v (n + 1) + dg v n) ≤ 4294967296 * T + dg u n := by
  intro q
  induction q with
  | zero =>
    intro h0 hq hm
    refine ⟨0, iterL_done ?_, by omega, hq, by omega⟩
    have hd := dg_lt hu n
    simp only [integer_digit.s0, integer_digit.j1, cite, decide_eq_true_eq, inB_t]
    by_cases hr : T - 0 * dg v (n + 1) < 4294967296
    · have e1 : IntKind.wrap .i64 (((n + 2 : Nat) : Int) - 2) = (n : Int) := by rw [wi64 (by omega) (by omega)]; omega
      have hd0 := dg_lt hv n
      rw [if_pos (by omega), e1, if_pos (by omega), if_pos (by omega), Nat.zero_add, Int.toNat_natCast, gd hv, gd hu, pack hr hd, wu64' (x := ((dg v n : Nat) : Int)) (by omega) (by omega), show ((0 : Nat) : Int) * ((dg v n : Nat) : Int) = 0 by simp, wu64' (by omega) (by omega), if_neg (by omega)]
    · rw [if_neg (by omega)]
  | succ q ih =>
    intro h0 hq hm
    have hdu := dg_lt hu n
    have hd0 := dg_lt hv n
    have hd1 := dg_lt hv (n + 1)
    obtain ⟨R, hR⟩ : ∃ R, R = T - (q + 1) * dg v (n + 1) := ⟨_, rfl⟩
    have hTR : T = (q + 1) * dg v (n + 1) + R := by omega
    have e1 : IntKind.wrap .i64 (((n + 2 : Nat) : Int) - 2) = (n : Int) := by rw [wi64 (by omega) (by omega)]; omega
    have e2 : IntKind.wrap .i64 (((n + 2 : Nat) : Int) - 1) = ((n + 1 : Nat) : Int) := by rw [wi64 (by omega) (by omega)]; omega
    have hP := mul_lt32 h0 hd0
    have e3 : IntKind.wrap .u64 (((q + 1 : Nat) : Int) * IntKind.wrap .u64 ((dg v n : Nat) : Int)) = (((q + 1) * dg v n : Nat) : Int) := by
      rw [wu64' (x := ((dg v n : Nat) : Int)) (by omega) (by omega), ← Int.natCast_mul, wu64' (by omega) (by omega)]
    have key : (q + 1) * (4294967296 * dg v (n + 1) + dg v n) = 4294967296 * ((q + 1) * dg v (n + 1)) + (q + 1) * dg v n := by rw [Nat.mul_add, Nat.mul_left_comm]
    rw [← hR]
    have hst : integer_digit.s0 v ((n + 2 : Nat) : Int) ((q + 1 : Nat) : Int) (R : Int) u = (if R < 4294967296 ∧ 4294967296 * R + dg u n < (q + 1) * dg v n then some (.inl (v, ((n + 2 : Nat) : Int), (q : Int), ((R + dg v (n + 1) : Nat) : Int), u, ())) else some (.inr (v, ((n + 2 : Nat) : Int), ((q + 1 : Nat) : Int), u, ()))) := by
      simp only [integer_digit.s0, integer_digit.j1, cite, decide_eq_true_eq, inB_t]
      by_cases hr : R < 4294967296
      · rw [if_pos (by omega), e1, e2, if_pos (by omega), if_pos (by omega), Nat.zero_add, Int.toNat_natCast, Int.toNat_natCast, gd hv, gd hv, gd hu, pack hr hdu, e3]
        by_cases hc : 4294967296 * R + dg u n < (q + 1) * dg v n
        · rw [if_pos (by omega), if_pos (by omega), if_pos ⟨hr, hc⟩, wu64' (x := ((q + 1 : Nat) : Int) - 1) (by omega) (by omega), wu64' (x := ((dg v (n + 1) : Nat) : Int)) (by omega) (by omega), wu64' (by omega) (by omega), show ((q + 1 : Nat) : Int) - 1 = (q : Int) by omega]
          rfl
        · rw [if_neg (by omega), if_neg (fun h => hc h.2)]
      · rw [if_neg (by omega), if_neg (fun h => hr h.1)]
    by_cases hc : R < 4294967296 ∧ 4294967296 * R + dg u n < (q + 1) * dg v n
    · rw [if_pos hc] at hst
      have hlt := hQ (q + 1) h0 (by rw [key, hTR]; omega)
      have hqm : q * dg v (n + 1) + dg v (n + 1) = (q + 1) * dg v (n + 1) := by rw [Nat.add_mul, Nat.one_mul]
      obtain ⟨q', g1, g2⟩ := ih (by omega) (by omega) (by omega)
      rw [show T - q * dg v (n + 1) = R + dg v (n + 1) by omega] at g1
      refine ⟨q', (iterL_next ?_).trans g1, g2⟩
      simp only []
      exact hst
    · rw [if_neg hc] at hst
      refine ⟨q + 1, iterL_done hst, h0, hq, ?_⟩
      rw [key, hTR]
      by_cases hr : R < 4294967296
      · have : ¬ 4294967296 * R + dg u n < (q + 1) * dg v n := fun h => hc ⟨hr, h⟩
        omega
      · omega
/-- Multiply and subtract. -/
theorem sub_loop {u v : List Int} (hu : Lim u) (hv : Lim v) {q : Nat} (hq : q < 4294967296) (hl : u.length = v.length + 1) (hb : v.length < 17592186044416) : ∀ (t i : Nat) (a : List Int) (b c : Nat), v.length - i = t → i ≤ v.length → a.length = v.length + 1 → Lim a → b ≤ 1 → c < 4294967296 → a.drop i = u.drop i →
    lv (u.take i) + 4294967296 ^ i * (b + c) = lv (a.take i) + q * lv (v.take i) →
    ∃ (a' : List Int) (b' c' : Nat), iterL (fun x : List Int × Int × Int × Int × Int × Int × Int × List Int × Unit => integer_digit.s1 x.1 x.2.1 x.2.2.1 x.2.2.2.1 x.2.2.2.2.1 x.2.2.2.2.2.1 x.2.2.2.2.2.2.1 x.2.2.2.2.2.2.2.1) (v, (v.length : Int), (q : Int), (b : Int), (c : Int), (v.length : Int), (i : Int), a, ()) = some (v, (v.length : Int), (q : Int), (b' : Int), (c' : Int), a', ()) ∧
      a'.length = v.length + 1 ∧ Lim a' ∧ b' ≤ 1 ∧ c' < 4294967296 ∧ dg a' v.length = dg u v.length ∧ lv (u.take v.length) + 4294967296 ^ v.length * (b' + c') = lv (a'.take v.length) + q * lv v := by
  intro t
  induction t with
  | zero =>
    intro i a b c ht hi hla ha hbb hcc hdr he
    obtain rfl : i = v.length := by omega
    refine ⟨a, b, c, iterL_done ?_, hla, ha, hbb, hcc, ?_, ?_⟩
    · simp only [integer_digit.s1, cite, decide_eq_true_eq]
      rw [if_neg (by omega)]
    · have := congrArg (fun l => dg l 0) hdr
      simpa [dg, List.getD_eq_getElem?_getD] using this
    · rw [he, List.take_of_length_le (show v.length ≤ v.length by omega)]
  | succ t ih =>
    intro i a b c ht hi hla ha hbb hcc hdr he
    have hdu : dg a i = dg u i := by
      have := congrArg (fun l => dg l 0) hdr
      simpa [dg, List.getD_eq_getElem?_getD] using this
    have h1 := dg_lt hu i
    have h2 := dg_lt hv i
    have hm := mul_lt32 hq h2
    obtain ⟨C, hC⟩ : ∃ C, C = c + q * dg v i := ⟨_, rfl⟩
    have hC2 : C / 4294967296 < 4294967296 := by omega
    obtain ⟨d, b', hd, hb', h3⟩ : ∃ d b' : Nat, d < 4294967296 ∧ b' ≤ 1 ∧ dg u i + 4294967296 * b' = d + C % 4294967296 + b := by
      by_cases h : dg u i < C % 4294967296 + b
      · exact ⟨dg u i + 4294967296 - C % 4294967296 - b, 1, by omega, by omega, by omega⟩
      · exact ⟨dg u i - C % 4294967296 - b, 0, by omega, by omega, by omega⟩
    obtain ⟨a', bb, cc, g1, g2⟩ := ih (i + 1) (a.set i (d : Int)) b' (C / 4294967296) (by omega) (by omega) (by simpa using hla) (ha.set i (by omega)) hb' hC2 (by
      rw [List.drop_set_of_lt (by omega)]
      have := congrArg (List.drop 1) hdr
      rw [List.drop_drop, List.drop_drop] at this
      exact this) (by
      rw [take_set _ _ _ (by omega), lv_snoc, lv_take_succ u, lv_take_succ v, Nat.pow_succ, List.length_take, Nat.min_eq_left (by omega)]
      have h4 : 4294967296 ^ i * (dg u i + 4294967296 * (b' + C / 4294967296)) = 4294967296 ^ i * (d + b + c + q * dg v i) := by
        congr 1
        omega
      have h5 := Nat.mul_left_comm (4294967296 ^ i) q (dg v i)
      simp only [Nat.mul_add, Nat.mul_assoc] at h4 he ⊢
      omega)
    refine ⟨a', bb, cc, (iterL_next ?_).trans g1, g2⟩
    simp only [integer_digit.s1, integer_digit.j2, cite, decide_eq_true_eq, inB_t]
    have e1 : IntKind.wrap .u64 ((c : Int) + IntKind.wrap .u64 ((q : Int) * IntKind.wrap .u64 ((dg v i : Nat) : Int))) = (C : Int) := by
      rw [wu64' (x := ((dg v i : Nat) : Int)) (by omega) (by omega), ← Int.natCast_mul, wu64' (x := ((q * dg v i : Nat) : Int)) (by omega) (by omega), wu64' (by omega) (by omega), hC]
      rfl
    have e2 : IntKind.wrap .u64 (IntKind.wrap .u64 (IntKind.wrap .u64 ((dg u i : Nat) : Int) - ((C % 4294967296 : Nat) : Int)) - (b : Int)) = ((d + 18446744069414584320 * b' : Nat) : Int) := by
      rw [wu64, wu64, wu64]
      have : b' = 0 ∨ b' = 1 := by omega
      rcases this with rfl | rfl <;> omega
    have e4 : ((d + 18446744069414584320 * b') / 9223372036854775808 : Nat) = b' := by
      have : b' = 0 ∨ b' = 1 := by omega
      rcases this with rfl | rfl <;> omega
    have e5 : IntKind.wrap .u32 ((d + 18446744069414584320 * b' : Nat) : Int) = (d : Int) := by rw [wu32]; omega
    rw [if_pos (by omega), if_pos (by omega), if_pos (by omega), if_pos (by omega), Int.toNat_natCast, Nat.zero_add, gd hv, gd ha, hdu, e1, and_low C (by omega), e2, top_bit, hi_word, e4, e5, up (by omega)]
/-- Add back. -/
theorem back_loop {v : List Int} (hv : Lim v) (hb : v.length < 17592186044416) (q : Int) (A : List Int) (hA : Lim A) : ∀ (t i : Nat) (a : List Int) (c : Nat), v.length - i = t → i ≤ v.length → a.length = v.length + 1 → Lim a → c ≤ 1 → a.drop i = A.drop i →
    lv (a.take i) + 4294967296 ^ i * c = lv (A.take i) + lv (v.take i) →
    ∃ (a' : List Int) (c' : Nat), iterL (fun x : List Int × Int × Int × Int × Int × Int × List Int × Unit => integer_digit.s2 x.1 x.2.1 x.2.2.1 x.2.2.2.1 x.2.2.2.2.1 x.2.2.2.2.2.1 x.2.2.2.2.2.2.1) (v, (v.length : Int), q, (c : Int), (v.length : Int), (i : Int), a, ()) = some ((v.length : Int), q, (c' : Int), a', ()) ∧
      a'.length = v.length + 1 ∧ Lim a' ∧ c' ≤ 1 ∧ dg a' v.length = dg A v.length ∧ lv (a'.take v.length) + 4294967296 ^ v.length * c' = lv (A.take v.length) + lv v := by
  intro t
  induction t with
  | zero =>
    intro i a c ht hi hla ha hcc hdr he
    obtain rfl : i = v.length := by omega
    refine ⟨a, c, iterL_done ?_, hla, ha, hcc, ?_, ?_⟩
    · simp only [integer_digit.s2, cite, decide_eq_true_eq]
      rw [if_neg (by omega)]
    · have := congrArg (fun l => dg l 0) hdr
      simpa [dg, List.getD_eq_getElem?_getD] using this
    · rw [he, List.take_of_length_le (show v.length ≤ v.length by omega)]
  | succ t ih =>
    intro i a c ht hi hla ha hcc hdr he
    have hdu : dg a i = dg A i := by
      have := congrArg (fun l => dg l 0) hdr
      simpa [dg, List.getD_eq_getElem?_getD] using this
    have h1 := dg_lt ha i
    have h2 := dg_lt hv i
    obtain ⟨C, hC⟩ : ∃ C, C = c + (dg a i + dg v i) := ⟨_, rfl⟩
    obtain ⟨a', cc, g1, g2⟩ := ih (i + 1) (a.set i ((C % 4294967296 : Nat) : Int)) (C / 4294967296) (by omega) (by omega) (by simpa using hla) (ha.set i (by omega)) (by omega) (by
      rw [List.drop_set_of_lt (by omega)]
      have := congrArg (List.drop 1) hdr
      rw [List.drop_drop, List.drop_drop] at this
      exact this) (by
      rw [take_set _ _ _ (by omega), lv_snoc, lv_take_succ A, lv_take_succ v, Nat.pow_succ, List.length_take, Nat.min_eq_left (by omega), ← hdu]
      have h4 : 4294967296 ^ i * (C % 4294967296 + 4294967296 * (C / 4294967296)) = 4294967296 ^ i * (c + (dg a i + dg v i)) := by
        congr 1
        omega
      rw [Nat.mul_add, Nat.mul_add, Nat.mul_add] at h4
      rw [Nat.mul_assoc]
      omega)
    refine ⟨a', cc, (iterL_next ?_).trans g1, g2⟩
    simp only [integer_digit.s2, integer_digit.j4, cite, decide_eq_true_eq, inB_t]
    have e1 : IntKind.wrap .u64 ((c : Int) + IntKind.wrap .u64 (IntKind.wrap .u64 ((dg a i : Nat) : Int) + IntKind.wrap .u64 ((dg v i : Nat) : Int))) = (C : Int) := by
      rw [wu64' (x := ((dg v i : Nat) : Int)) (by omega) (by omega), wu64' (x := ((dg a i : Nat) : Int)) (by omega) (by omega), wu64' (x := ((dg a i : Nat) : Int) + _) (by omega) (by omega), wu64' (by omega) (by omega), hC]
      rfl
    have e5 : IntKind.wrap .u32 (C : Int) = ((C % 4294967296 : Nat) : Int) := by rw [wu32]; omega
    rw [if_pos (by omega), if_pos (by omega), if_pos (by omega), if_pos (by omega), Int.toNat_natCast, Nat.zero_add, gd hv, gd ha, e1, hi_word, e5, up (by omega)]
end Go.Proofs.YtgbndganadelpaaGreatDoor.V
