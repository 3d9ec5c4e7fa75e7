/- Laws: quotient and remainder; sums and differences of integer. -/
import Derived.Test.YtbchgegclgpdhaaN4
namespace Go.Proofs.Ytbchgegclgpdhaa.V
open Go Go.Proofs.Ytbchgegclgpdhaa.E Go.Proofs.Ytbchgegclgpdhaa.LI
set_option linter.unusedVariables false
set_option linter.unusedSimpArgs false

theorem len_mkI (z : Int) : (mkI z).2.1.length = (limbs z.natAbs).length := rfl
theorem rdivmod_ok {l l' : List Int} (s s' : Bool) (u u' : Unit) (h : Lim l) (h' : Lim l') (hb : l.length < 33554432) (hb' : l'.length < 33554432) (h0 : iv s' l' ≠ 0) :
    quadformref01_DivMod (s, l, u) (s', l', u') = some (mkI (iv s l / iv s' l'), mkI (iv s l % iv s' l'), true, ()) := by
  have hx := len_lv h
  have hy := len_lv h'
  have hN : 0 < lv l' := by unfold iv at h0; split at h0 <;> omega
  generalize hM' : lv l = M at *
  generalize hN' : lv l' = N at *
  have hqM : M / N ≤ M := Nat.div_le_self _ _
  have hrM : M % N < N := Nat.mod_lt _ hN
  have hdm := Nat.div_add_mod M N
  have hlq := len_le hqM
  have hlr := len_le (Nat.le_of_lt hrM)
  have hdv := rdivide_ok (M := M) (N := N) (by omega) (by omega) hN
  unfold quadformref01_DivMod
  rw [rtrim_ok h (by omega), Option.bind_some, rtrim_ok h' (by omega), Option.bind_some, hM', hN']
  simp only [cite, beq_iff_eq, limbs_len0]
  rw [if_neg (by omega)]
  simp only [quadformref01_DivMod.j1, quadformref01_DivMod.j2, quadformref01_DivMod.j3, cite, decide_eq_true_eq]
  rw [hdv, Option.bind_some]
  generalize M / N = q at *
  generalize M % N = r at *
  have m1 := make_ok (!(s == s')) (lim_limbs q) (by omega)
  have m2 := make_ok s (lim_limbs r) (by omega)
  rw [m1, Option.bind_some, m2, Option.bind_some]
  have hiv : iv s' l' = if s' = true then -(N : Int) else N := by unfold iv; rw [hN']
  have hia : iv s l = if s = true then -(M : Int) else M := by unfold iv; rw [hM']
  have hab : (iv s' l').natAbs = N := by rw [iv_natAbs, hN']
  have hdz : (N : Int) * (q : Int) + (r : Int) = M := by exact_mod_cast hdm
  have hQ : iv (!(s == s')) (limbs q) = if (!(s == s')) = true then -(q : Int) else (q : Int) := by unfold iv; rw [lv_limbs]
  have hR : iv s (limbs r) = if s = true then -(r : Int) else (r : Int) := by unfold iv; rw [lv_limbs]
  generalize iv (!(s == s')) (limbs q) = Q at *
  generalize iv s (limbs r) = R at *
  have hlR : (mkI R).2.1.length < 33554433 := by
    rw [len_mkI, show R.natAbs = r from by rw [hR]; split <;> omega]
    omega
  have hlQ : (mkI Q).2.1.length < 33554433 := by
    rw [len_mkI, show Q.natAbs = q from by rw [hQ]; split <;> omega]
    omega
  have sg := rsign_ok (mkI R).1 () (lim_mkI R) (by omega)
  rw [iv_mkI] at sg
  rw [sg, Option.bind_some]
  by_cases hneg : R < 0
  · have hs : s = true := by
      cases s
      · rw [if_neg (by decide)] at hR; omega
      · rfl
    subst hs
    rw [if_pos rfl] at hR hia
    have a1 := make_ok false (lim_limbs N) (by omega)
    rw [iv_f, lv_limbs] at a1
    have a2 := radd_ok (mkI R).1 (mkI (N : Int)).1 () () (lim_mkI R) (lim_mkI (N : Int)) (by omega) (by rw [len_mkI, Int.natAbs_natCast]; omega)
    rw [iv_mkI, iv_mkI] at a2
    have a2' : quadformref01_Add ((mkI R).1, (mkI R).2.1, ()) (mkI (N : Int)) = some (mkI (R + N)) := a2
    rw [show (if R = 0 then (0 : Int) else if R < 0 then -1 else 1) = -1 from by rw [if_neg (by omega), if_pos hneg], if_pos (by decide), a1, Option.bind_some, a2', Option.bind_some, rsign_ok s' () h' (by omega), Option.bind_some, rsmall_ok (n := 1) (by decide) (by decide), Option.bind_some]
    have hl1 : (mkI 1).2.1.length < 8796093022208 := by decide
    have hl1' : (mkI 1).2.1.length = 1 := by decide
    have hsum : R + N = iv true l % iv s' l' := by
      refine ((ediv_of (Q := if s' = true then (q : Int) + 1 else -(q : Int) - 1) ?_ (by omega) (by rw [hab]; omega) h0).2).symm
      rw [hia, hiv]
      cases s'
      · simp only [Bool.false_eq_true, if_false]
        rw [Int.mul_sub, Int.mul_neg]
        omega
      · simp only [if_true]
        rw [Int.neg_mul, Int.mul_add]
        omega
    have hquo : iv true l / iv s' l' = if s' = true then (q : Int) + 1 else -(q : Int) - 1 := by
      refine (ediv_of (R := R + N) ?_ (by omega) (by rw [hab]; omega) h0).1
      rw [hia, hiv]
      cases s'
      · simp only [Bool.false_eq_true, if_false]
        rw [Int.mul_sub, Int.mul_neg]
        omega
      · simp only [if_true]
        rw [Int.neg_mul, Int.mul_add]
        omega
    rw [hsum, hquo]
    cases s'
    · have hQ' : Q = -(q : Int) := by rw [hQ]; rfl
      have hi : iv false l' = (N : Int) := hiv
      have a3 := rsub_ok (mkI Q).1 (mkI 1).1 () () (lim_mkI Q) (lim_mkI 1) (by omega) (by omega)
      rw [iv_mkI, iv_mkI, hQ'] at a3
      have a3' : quadformref01_Sub ((mkI (-(q : Int))).1, (mkI (-(q : Int))).2.1, ()) (mkI 1) = some (mkI (-(q : Int) - 1)) := a3
      rw [show (if iv false l' = 0 then (0 : Int) else if iv false l' < 0 then -1 else 1) = 1 from by rw [hi, if_neg (by omega), if_neg (by omega)], if_neg (by decide), hQ', Option.bind_some, a3', Option.bind_some, if_neg (by decide)]
    · have hQ' : Q = (q : Int) := by rw [hQ]; rfl
      have hi : iv true l' = -(N : Int) := hiv
      have a3 := radd_ok (mkI Q).1 (mkI 1).1 () () (lim_mkI Q) (lim_mkI 1) (by omega) (by omega)
      rw [iv_mkI, iv_mkI, hQ'] at a3
      have a3' : quadformref01_Add ((mkI (q : Int)).1, (mkI (q : Int)).2.1, ()) (mkI 1) = some (mkI ((q : Int) + 1)) := a3
      rw [show (if iv true l' = 0 then (0 : Int) else if iv true l' < 0 then -1 else 1) = -1 from by rw [hi, if_neg (by omega), if_pos (by omega)], if_pos (by decide), hQ', a3', Option.bind_some, if_pos rfl]
  · have hres : iv s l / iv s' l' = Q ∧ iv s l % iv s' l' = R := by
      have hR' : R = (r : Int) := by
        cases s
        · rw [hR]; rfl
        · rw [hR, if_pos rfl] at hneg ⊢; omega
      refine ediv_of ?_ (by omega) (by rw [hab]; omega) h0
      rw [hia, hiv, hQ]
      have hr' : s = true → r = 0 := by
        rintro rfl
        rw [if_pos rfl] at hR
        omega
      cases s <;> cases s'
      · simp only [Bool.false_eq_true, beq_self_eq_true, Bool.not_true, if_false]; omega
      · simp only [Bool.false_eq_true, if_false, if_true, show (!(false == true)) = true from rfl, Int.neg_mul, Int.mul_neg, Int.neg_neg]; omega
      · have := hr' rfl
        simp only [Bool.false_eq_true, if_false, if_true, show (!(true == false)) = true from rfl, Int.mul_neg]; omega
      · have := hr' rfl
        simp only [Bool.false_eq_true, beq_self_eq_true, Bool.not_true, if_false, if_true, Int.neg_mul]; omega
    rw [hres.1, hres.2]
    have : ¬ ((if R = 0 then (0 : Int) else if R < 0 then -1 else 1) < 0) := by split <;> (try split) <;> omega
    rw [if_neg this]
theorem rrem_ok {l l' : List Int} (s s' : Bool) (u u' : Unit) (h : Lim l) (h' : Lim l') (hb : l.length < 33554432) (hb' : l'.length < 33554432) (h0 : iv s' l' ≠ 0) : quadformref01_Rem (s, l, u) (s', l', u') = some (mkI (iv s l % iv s' l')) := by
  unfold quadformref01_Rem
  have := rdivmod_ok s s' () () h h' hb hb' h0
  rw [this, Option.bind_some]

/-! ## integer: limb, plus, minus -/
theorem limb_ok {l : List Int} (h : Lim l) (i : Nat) : integer_limb l (i : Int) = some ((dg l i : Nat) : Int) := by
  have hd := dg_lt h i
  simp only [integer_limb, integer_limb.j1, cite, decide_eq_true_eq, inB_t]
  by_cases h1 : i < l.length
  · rw [if_pos (by omega), if_pos (by omega), Int.toNat_natCast, gd h, wu64' (by omega) (by omega)]
  · rw [if_neg (by omega), dg_out (by omega)]; rfl
theorem take_set (a : List Int) (i : Nat) (x : Int) (h : i < a.length) : (a.set i x).take (i + 1) = a.take i ++ [x] := by
  rw [List.take_add_one]
  simp [List.take_set_of_le, h]
theorem plus_loop {m n : List Int} (hm : Lim m) (hn : Lim n) {L : Nat} (hL : L < 17592186044416) : ∀ (t i : Nat) (a : List Int) (c : Nat), L - i = t → i ≤ L → a.length = L + 1 → Lim a → c ≤ 1 → lv (a.take i) + 4294967296 ^ i * c = lv (m.take i) + lv (n.take i) →
    ∃ (a' : List Int) (c' : Nat), iterL (fun x : List Int × List Int × Int × Int × Int × Int × List Int × Unit => integer_plus.s0 x.1 x.2.1 x.2.2.1 x.2.2.2.1 x.2.2.2.2.1 x.2.2.2.2.2.1 x.2.2.2.2.2.2.1) (m, n, (L : Int), (c : Int), (L : Int), (i : Int), a, ()) = some ((L : Int), (c' : Int), a', ()) ∧
      a'.length = L + 1 ∧ Lim a' ∧ c' ≤ 1 ∧ lv (a'.take L) + 4294967296 ^ L * c' = lv (m.take L) + lv (n.take L) := by
  intro t
  induction t with
  | zero =>
    intro i a c ht hi hl ha hc he
    obtain rfl : i = L := by omega
    refine ⟨a, c, iterL_done ?_, hl, ha, hc, he⟩
    simp only [integer_plus.s0, cite, decide_eq_true_eq]
    rw [if_neg (by omega)]
  | succ t ih =>
    intro i a c ht hi hl ha hc he
    have hdm := dg_lt hm i
    have hdn := dg_lt hn i
    obtain ⟨a', c', h1, h2⟩ := ih (i + 1) (a.set i (((c + dg m i + dg n i) % 4294967296 : Nat) : Int)) ((c + dg m i + dg n i) / 4294967296) (by omega) (by omega) (by simpa using hl) (ha.set i (by omega)) (by omega) (by
      rw [take_set _ _ _ (by omega), lv_snoc, lv_take_succ, lv_take_succ, Nat.pow_succ, List.length_take, Nat.min_eq_left (by omega)]
      have h3 : 4294967296 ^ i * (c + dg m i + dg n i) = 4294967296 ^ i * ((c + dg m i + dg n i) % 4294967296) + 4294967296 ^ i * (4294967296 * ((c + dg m i + dg n i) / 4294967296)) := by
        rw [← Nat.mul_add, Nat.mod_add_div]
      rw [Nat.mul_add, Nat.mul_add] at h3
      rw [Nat.mul_assoc]
      omega)
    refine ⟨a', c', (iterL_next ?_).trans h1, h2⟩
    simp only [integer_plus.s0, integer_plus.j1, cite, decide_eq_true_eq, inB_t]
    have e : IntKind.wrap .u64 ((c : Int) + IntKind.wrap .u64 ((dg m i : Int) + (dg n i : Int))) = ((c + dg m i + dg n i : Nat) : Int) := by
      rw [wu64, wu64]; omega
    rw [if_pos (by omega), limb_ok hm, Option.bind_some, limb_ok hn, Option.bind_some, e, hi_word, Int.toNat_natCast, Nat.zero_add, if_pos (by omega), up (by omega), wu32, Int.natCast_emod]
    rfl
theorem plus_ok {m n : List Int} (hm : Lim m) (hn : Lim n) (hb : m.length < 1073741824) (hb' : n.length < 1073741824) : integer_plus m n = some (limbs (lv m + lv n)) := by
  have hmx : mx2 (m.length : Int) (n.length : Int) = ((max m.length n.length : Nat) : Int) := by unfold mx2; split <;> omega
  obtain ⟨a', c', h1, h2, h3, h4, h5⟩ := plus_loop hm hn (L := max m.length n.length) (by omega) _ 0 (List.replicate (max m.length n.length + 1) 0) 0 rfl (by omega) (by simp) (Lim.replicate _) (by omega) (by simp [lv])
  unfold integer_plus
  simp only [hmx, cite, inC_t, maxL_eq]
  rw [up (by omega), if_pos (by omega), Int.toNat_natCast]
  rw [show ((0 : Nat) : Int) = 0 from rfl] at h1
  rw [h1, Option.bind_some]
  simp only [integer_plus.k0, cite, inB_t]
  rw [if_pos (by omega), Int.toNat_natCast, Nat.zero_add, wu32' (by omega) (by omega), trim_ok (h3.set _ (by omega)) (by simp; omega), Option.bind_some]
  have e : lv (a'.set (max m.length n.length) (c' : Int)) = lv m + lv n := by
    have e1 : a'.set (max m.length n.length) (c' : Int) = (a'.set (max m.length n.length) (c' : Int)).take (max m.length n.length + 1) := by rw [List.take_of_length_le (by simp; omega)]
    rw [e1, take_set _ _ _ (by omega), lv_snoc, List.length_take, Nat.min_eq_left (by omega), h5, List.take_of_length_le (by omega), List.take_of_length_le (by omega)]
  rw [e]
theorem minus_loop {m n : List Int} (hm : Lim m) (hn : Lim n) (hb : m.length < 17592186044416) : ∀ (t i : Nat) (a : List Int) (c : Nat), m.length - i = t → i ≤ m.length → a.length = m.length → Lim a → c ≤ 1 → lv (m.take i) + 4294967296 ^ i * c = lv (a.take i) + lv (n.take i) →
    ∃ (a' : List Int) (c' : Nat), iterL (fun x : List Int × List Int × Int × Int × Int × List Int × Unit => integer_minus.s0 x.1 x.2.1 x.2.2.1 x.2.2.2.1 x.2.2.2.2.1 x.2.2.2.2.2.1) (m, n, (c : Int), (m.length : Int), (i : Int), a, ()) = some (a', ()) ∧
      a'.length = m.length ∧ Lim a' ∧ lv m + 4294967296 ^ m.length * c' = lv a' + lv (n.take m.length) := by
  intro t
  induction t with
  | zero =>
    intro i a c ht hi hl ha hc he
    obtain rfl : i = m.length := by omega
    refine ⟨a, c, iterL_done ?_, hl, ha, ?_⟩
    · simp only [integer_minus.s0, cite, decide_eq_true_eq]
      rw [if_neg (by omega)]
    · rw [List.take_length] at he
      rw [he, List.take_of_length_le (show a.length ≤ m.length by omega)]
  | succ t ih =>
    intro i a c ht hi hl ha hc he
    have hdm := dg_lt hm i
    have hdn := dg_lt hn i
    obtain ⟨d, c', hd, hc', h3⟩ : ∃ d c' : Nat, d < 4294967296 ∧ c' ≤ 1 ∧ dg m i + 4294967296 * c' = c + d + dg n i := by
      by_cases h : dg m i < c + dg n i
      · exact ⟨dg m i + 4294967296 - c - dg n i, 1, by omega, by omega, by omega⟩
      · exact ⟨dg m i - c - dg n i, 0, by omega, by omega, by omega⟩
    obtain ⟨a', cc, h1, h2⟩ := ih (i + 1) (a.set i (d : Int)) c' (by omega) (by omega) (by simpa using hl) (ha.set i (by omega)) hc' (by
      rw [take_set _ _ _ (by omega), lv_snoc, lv_take_succ, lv_take_succ, Nat.pow_succ, List.length_take, Nat.min_eq_left (by omega)]
      have h4 : 4294967296 ^ i * (dg m i + 4294967296 * c') = 4294967296 ^ i * (c + d + dg n i) := by rw [h3]
      rw [Nat.mul_add, Nat.mul_add, Nat.mul_add, ← Nat.mul_assoc] at h4
      omega)
    refine ⟨a', cc, (iterL_next ?_).trans h1, h2⟩
    simp only [integer_minus.s0, integer_minus.j1, cite, decide_eq_true_eq, inB_t]
    rw [if_pos (by omega), limb_ok hn, if_pos (by omega), Option.bind_some, Int.toNat_natCast, gd hm, Nat.zero_add]
    have e : IntKind.wrap .u64 (IntKind.wrap .u64 (IntKind.wrap .u64 (dg m i : Int) - (dg n i : Int)) - (c : Int)) = ((d + 18446744069414584320 * c' : Nat) : Int) := by
      rw [wu64, wu64, wu64]
      have : c' = 0 ∨ c' = 1 := by omega
      rcases this with rfl | rfl <;> omega
    rw [e, top_bit, if_pos (by omega), up (by omega), wu32]
    have e2 : ((d + 18446744069414584320 * c') / 9223372036854775808 : Nat) = c' := by
      have : c' = 0 ∨ c' = 1 := by omega
      rcases this with rfl | rfl <;> omega
    have e3 : ((d + 18446744069414584320 * c' : Nat) : Int) % 4294967296 = (d : Int) := by omega
    rw [e2, e3]
theorem minus_ok {m n : List Int} (hm : Lim m) (hn : Lim n) (hb : m.length ≤ 1073741824) (hl : n.length ≤ m.length) (h : lv n ≤ lv m) : integer_minus m n = some (limbs (lv m - lv n)) := by
  obtain ⟨a', c', h1, h2, h3, h4⟩ := minus_loop hm hn (by omega) _ 0 (List.replicate m.length 0) 0 rfl (by omega) (by simp) (Lim.replicate _) (by omega) (by simp [lv])
  unfold integer_minus
  simp only [cite, inC_t, maxL_eq]
  rw [show ((0 : Nat) : Int) = 0 from rfl] at h1
  rw [if_pos (by omega), Int.toNat_natCast, h1, Option.bind_some]
  simp only [integer_minus.k0]
  rw [trim_ok h3 (by omega), Option.bind_some]
  have e : lv a' = lv m - lv n := by
    rw [List.take_of_length_le hl] at h4
    have h5 := lv_lt h3
    rw [h2] at h5
    have : c' = 0 := by
      cases c' with
      | zero => rfl
      | succ c =>
        have : 4294967296 ^ m.length * 1 ≤ 4294967296 ^ m.length * (c + 1) := Nat.mul_le_mul_left _ (by omega)
        omega
    subst this
    omega
  rw [e]
end Go.Proofs.Ytbchgegclgpdhaa.V
