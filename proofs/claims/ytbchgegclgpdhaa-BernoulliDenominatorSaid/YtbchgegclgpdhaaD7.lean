/- Laws of powers, and of the reference's rational numbers. -/
import Derived.Test.YtbchgegclgpdhaaD6
import Derived.Test.YtbchgegclgpdhaaW7
namespace Go.Proofs.Ytbchgegclgpdhaa.V
open Go Go.Proofs.Ytbchgegclgpdhaa.E Go.Proofs.Ytbchgegclgpdhaa.LI
set_option linter.unusedVariables false
set_option linter.unusedSimpArgs false

theorem pow_loop (B : Nat) (hB : (limbs B).length ≤ 100000) (b4 : Bool × List Int × Unit) : ∀ (N e r c : Nat), e < N → e ≤ 64 → r * c ^ e = B → 0 < r → 0 < c →
    iterL (fun x : Int × (Bool × List Int × Unit) × (Bool × List Int × Unit) × (Bool × List Int × Unit) × Unit => integer_Pow.s0 x.1 x.2.1 x.2.2.1 x.2.2.2.1) ((e : Int), b4, mkI (r : Int), mkI (c : Int), ()) = some (b4, mkI (B : Int), ())
  | 0, e, r, c, h, _, _, _, _ => by omega
  | N + 1, e, r, c, h, he, hB', hr, hc => by
    by_cases h0 : e = 0
    · subst h0
      rw [Nat.pow_zero, Nat.mul_one] at hB'
      subst hB'
      refine iterL_done ?_
      simp only [integer_Pow.s0, cite, decide_eq_true_eq]
      rw [if_neg (by omega)]
    · have hm : Int.tmod (e : Int) 2 = ((e % 2 : Nat) : Int) := tmod_nat e 2
      have hh := half_wrap e (by omega)
      have ce : c * c ^ (e - 1) = c ^ e := by rw [← Nat.pow_succ', show (e - 1).succ = e by omega]
      have cpos : 0 < c ^ (e - 1) := Nat.pow_pos hc
      have hce : c ≤ c ^ e := by rw [← ce]; exact Nat.le_mul_of_pos_right _ cpos
      have hrB : r ≤ B := by rw [← hB']; exact Nat.le_mul_of_pos_right _ (Nat.pow_pos hc)
      have hcB : c ≤ B := by rw [← hB']; exact Nat.le_trans hce (Nat.le_mul_of_pos_left _ hr)
      have lr := len_le hrB
      have lc := len_le hcB
      have m1 := mulI (r : Int) (c : Int) (by rw [Int.natAbs_natCast, Int.natAbs_natCast]; omega)
      have m2 := mulI (c : Int) (c : Int) (by rw [Int.natAbs_natCast]; omega)
      rw [← Int.natCast_mul] at m1 m2
      have m1' : integer_Mul ((mkI (r : Int)).1, ((mkI (r : Int)).2.1, ())) ((mkI (c : Int)).1, ((mkI (c : Int)).2.1, ())) = _ := m1
      have m2' : integer_Mul ((mkI (c : Int)).1, ((mkI (c : Int)).2.1, ())) ((mkI (c : Int)).1, ((mkI (c : Int)).2.1, ())) = _ := m2
      have step : ∀ r' : Nat, integer_Pow.j3 (e : Int) b4.1 b4.2.1 (mkI (r' : Int)).1 (mkI (r' : Int)).2.1 (mkI (c : Int)).1 (mkI (c : Int)).2.1 = some (.inl (((e / 2 : Nat) : Int), b4, mkI (r' : Int), mkI ((if e > 1 then c * c else c : Nat) : Int), ())) := fun r' => by
        simp only [integer_Pow.j3, integer_Pow.j4, cite, decide_eq_true_eq]
        by_cases h1 : e > 1
        · rw [if_pos (by omega), m2', Option.bind_some, hh, if_pos h1]
        · rw [if_neg (by omega), hh, if_neg h1]
      have half : ∀ r' : Nat, r' * c ^ (2 * (e / 2)) = B → r' * (if e > 1 then c * c else c : Nat) ^ (e / 2) = B := fun r' h9 => by
        by_cases h1 : e > 1
        · rw [if_pos h1, ← Nat.pow_two, ← Nat.pow_mul]; exact h9
        · rw [if_neg h1, show e / 2 = 0 by omega, Nat.pow_zero]
          rw [show e / 2 = 0 by omega, Nat.mul_zero, Nat.pow_zero] at h9
          exact h9
      have c2 : 0 < (if e > 1 then c * c else c : Nat) := by split <;> first | exact Nat.mul_pos hc hc | exact hc
      by_cases hodd : e % 2 = 1
      · have key := pow_loop B hB b4 N (e / 2) (r * c) (if e > 1 then c * c else c : Nat) (by omega) (by omega) (half _ (by
          rw [Nat.mul_assoc, ← Nat.pow_succ', show (2 * (e / 2)).succ = e by omega]; exact hB')) (Nat.mul_pos hr hc) c2
        refine (iterL_next ?_).trans key
        simp only [integer_Pow.s0, integer_Pow.j2, cite, decide_eq_true_eq, beq_iff_eq]
        rw [if_pos (by omega), hm, if_pos (by rw [hodd]; rfl), m1', Option.bind_some, step (r * c)]
      · have key := pow_loop B hB b4 N (e / 2) r (if e > 1 then c * c else c : Nat) (by omega) (by omega) (half _ (by
          rw [show 2 * (e / 2) = e by omega]; exact hB')) hr c2
        refine (iterL_next ?_).trans key
        simp only [integer_Pow.s0, integer_Pow.j2, cite, decide_eq_true_eq, beq_iff_eq]
        rw [if_pos (by omega), hm, if_neg (by omega), step r]
theorem pow_ok {c e : Nat} (hc : 0 < c) (he : e ≤ 64) (hl : (limbs (c ^ e)).length ≤ 100000) (hl2 : (limbs c).length ≤ 100000) : integer_Pow (mkI (c : Int)) (e : Int) = some (mkI ((c ^ e : Nat) : Int), true, ()) := by
  have key := pow_loop (c ^ e) hl (false, ([], ())) _ e 1 c (Nat.lt_succ_self _) he (by rw [Nat.one_mul]) (by omega) hc
  unfold integer_Pow
  simp only [integer_Pow.j1, cite, decide_eq_true_eq]
  have nm : integer_Normalize ((mkI (c : Int)).1, ((mkI (c : Int)).2.1, ())) = some (mkI (c : Int)) := normI (by rw [Int.natAbs_natCast]; omega)
  have key' : iterL (fun x : Int × (Bool × List Int × Unit) × (Bool × List Int × Unit) × (Bool × List Int × Unit) × Unit => integer_Pow.s0 x.1 x.2.1 x.2.2.1 x.2.2.2.1) ((e : Int), (false, (([] : List Int), ())), ((mkI 1).1, ((mkI 1).2.1, ())), ((mkI (c : Int)).1, ((mkI (c : Int)).2.1, ())), ()) = _ := key
  rw [if_neg (by omega), if_neg (by omega), small_ok (by decide) (by decide), Option.bind_some, nm, Option.bind_some, key', Option.bind_some]
  rfl

theorem Bd.pow {n : Nat} {a : Int} (h : Bd n a) : ∀ k : Nat, Bd (n * k + 1) (a ^ k)
  | 0 => by rw [Int.pow_zero]; exact Bd.mono (n := 1) (by unfold Bd; decide) (by omega)
  | k + 1 => by
    rw [Int.pow_succ]
    exact ((Bd.pow h k).mul h).mono (by rw [Nat.mul_add]; omega)
theorem Bd.lenG {n : Nat} {z : Int} (h : Bd n z) : (limbs z.natAbs).length ≤ n / 32 + 1 := limbs_len.2 (Nat.lt_of_lt_of_le h (by
  rw [show (4294967296 : Nat) = 2 ^ 32 from rfl, ← Nat.pow_mul]
  exact Nat.pow_le_pow_right (by omega) (by omega)))
theorem powB {n k : Nat} {a : Int} (h : Bd n a) (ha : 0 < a) (hn : n ≤ 10000) (hk : k ≤ 64) : integer_Pow (mkI a) (k : Int) = some (mkI (a ^ k), true, ()) := by
  obtain ⟨c, rfl⟩ : ∃ c : Nat, a = c := ⟨a.toNat, by omega⟩
  have hb : n * k + 1 ≤ 1000000 := by
    have := Nat.mul_le_mul hn hk
    omega
  have hp := (h.pow k).lenG
  rw [← Int.natCast_pow, Int.natAbs_natCast] at hp
  have hl2 := h.lenG
  rw [Int.natAbs_natCast] at hl2
  have := pow_ok (c := c) (e := k) (by omega) hk (by omega) (by omega)
  rw [this, Int.natCast_pow]
theorem qpow {n k : Nat} {q : Rat} (h : BQ n q) (hq : 0 < q.num) (hn : n ≤ 10000) (hk : k ≤ 64) : rational_Pow (mkQ q) (k : Int) = some (mkQ (q ^ k), true, ()) := by
  have hp := den_pos q
  have hb : n * k + 1 ≤ 1000000 := by
    have := Nat.mul_le_mul hn hk
    omega
  have hm : mx2 (k : Int) (IntKind.wrap .i64 (0 - (k : Int))) = (k : Int) := by
    rw [wi64 (by omega) (by omega)]; unfold mx2; split <;> omega
  unfold rational_Pow
  simp only [rational_Pow.j1, rational_Pow.j2, cite, decide_eq_true_eq, etaI, etaQ, mkQ_1, mkQ_2]
  rw [if_neg (by omega), if_neg (by omega), mkQ_3, of_ok h (by omega), Option.bind_some, hm, mkQ_1, mkQ_2, powB h.1 hq hn hk, Option.bind_some, powB h.den hp hn hk, Option.bind_some, if_neg (by omega), qnew (h.1.pow k) (h.den.pow k) (by omega) (by have := Int.pow_pos hp (m := k); omega), Option.bind_some, ← pow_divInt]
theorem qpow_neg {n k : Nat} {q : Rat} (h : BQ n q) (hq : 0 < q.num) (hn : n ≤ 10000) (hk : k ≤ 64) (h1 : 0 < k) : rational_Pow (mkQ q) (-(k : Int)) = some (mkQ ((q ^ k)⁻¹), true, ()) := by
  have hp := den_pos q
  have hb : n * k + 1 ≤ 1000000 := by
    have := Nat.mul_le_mul hn hk
    omega
  have hm : mx2 (-(k : Int)) (IntKind.wrap .i64 (0 - -(k : Int))) = (k : Int) := by
    rw [wi64 (by omega) (by omega)]; unfold mx2; split <;> omega
  unfold rational_Pow
  simp only [rational_Pow.j1, rational_Pow.j2, cite, decide_eq_true_eq, etaI, etaQ, mkQ_1, mkQ_2]
  rw [if_neg (by omega), if_neg (by omega), mkQ_3, of_ok h (by omega), Option.bind_some, hm, mkQ_1, mkQ_2, powB h.1 hq hn hk, Option.bind_some, powB h.den hp hn hk, Option.bind_some, if_pos (by omega), qnew (h.den.pow k) (h.1.pow k) (by omega) (by have := Int.pow_pos hq (m := k); omega), Option.bind_some, pow_divInt, Rat.inv_divInt]

/-! ## the reference's products -/
theorem rmul_inner {m n : List Int} (hm : Lim m) (hn : Lim n) {i : Nat} (hi : i < m.length) (hb : m.length + n.length < 17592186044416) (b2 b3 b4 : IV) : ∀ (t j : Nat) (a : List Int) (c A0 : Nat), n.length - j = t → j ≤ n.length → a.length = m.length + n.length → Lim a → c < 4294967296 →
    dg a (i + n.length) = 0 → lv a + 4294967296 ^ (i + j) * c = A0 + 4294967296 ^ i * (dg m i * lv (n.take j)) →
    ∃ (a' : List Int) (c' : Nat), iterL (fun x : Int × Int × Int × List Int × Int × Int × List Int × Int × Int × List Int × (Bool × List Int × Unit) × (Bool × List Int × Unit) × (Bool × List Int × Unit) × Unit => quadformref01_Mul.s0 x.1 x.2.1 x.2.2.1 x.2.2.2.1 x.2.2.2.2.1 x.2.2.2.2.2.1 x.2.2.2.2.2.2.1 x.2.2.2.2.2.2.2.1 x.2.2.2.2.2.2.2.2.1 x.2.2.2.2.2.2.2.2.2.1 x.2.2.2.2.2.2.2.2.2.2.1 x.2.2.2.2.2.2.2.2.2.2.2.1 x.2.2.2.2.2.2.2.2.2.2.2.2.1) ((i : Int), ((dg m i : Nat) : Int), (c : Int), m, (m.length : Int), (i : Int), n, (n.length : Int), (j : Int), a, b2, b3, b4, ()) = some ((i : Int), (c' : Int), m, (m.length : Int), (i : Int), a', b2, b3, b4, ()) ∧
      a'.length = m.length + n.length ∧ Lim a' ∧ c' < 4294967296 ∧ dg a' (i + n.length) = 0 ∧ lv a' + 4294967296 ^ (i + n.length) * c' = A0 + 4294967296 ^ i * (dg m i * lv n) := by
  intro t
  induction t with
  | zero =>
    intro j a c A0 ht hj hl ha hc hd he
    obtain rfl : j = n.length := by omega
    refine ⟨a, c, iterL_done ?_, hl, ha, hc, hd, by rw [he, List.take_length]⟩
    simp only [quadformref01_Mul.s0, cite, decide_eq_true_eq]
    rw [if_neg (by omega)]
  | succ t ih =>
    intro j a c A0 ht hj hl ha hc hd he
    have h1 := dg_lt hm i
    have h2 := dg_lt hn j
    have h3 := dg_lt ha (i + j)
    have hp := mul_le h1 h2
    have hv := lv_put a (i := i + j) (by omega) ((c + (dg m i * dg n j + dg a (i + j))) % 4294967296)
    obtain ⟨a', c', g1, g2⟩ := ih (j + 1) (a.set (i + j) (((c + (dg m i * dg n j + dg a (i + j))) % 4294967296 : Nat) : Int)) ((c + (dg m i * dg n j + dg a (i + j))) / 4294967296) A0 (by omega) (by omega) (by simpa using hl) (ha.set _ (by omega)) (by omega)
      (by rw [dg_put_ne _ (by omega)]; exact hd) (by
        rw [lv_take_succ, show i + (j + 1) = (i + j) + 1 from rfl, Nat.pow_succ]
        have e1 : 4294967296 ^ (i + j) * (c + (dg m i * dg n j + dg a (i + j))) = 4294967296 ^ (i + j) * ((c + (dg m i * dg n j + dg a (i + j))) % 4294967296) + 4294967296 ^ (i + j) * 4294967296 * ((c + (dg m i * dg n j + dg a (i + j))) / 4294967296) := by
          rw [Nat.mul_assoc, ← Nat.mul_add, Nat.mod_add_div]
        have e2 : 4294967296 ^ i * (dg m i * (lv (n.take j) + 4294967296 ^ j * dg n j)) = 4294967296 ^ i * (dg m i * lv (n.take j)) + 4294967296 ^ (i + j) * (dg m i * dg n j) := by
          rw [Nat.mul_add, Nat.mul_add, Nat.pow_add, Nat.mul_left_comm (dg m i), ← Nat.mul_assoc (4294967296 ^ i) (4294967296 ^ j)]
        rw [e2]
        rw [Nat.mul_add, Nat.mul_add] at e1
        omega)
    refine ⟨a', c', (iterL_next ?_).trans g1, g2⟩
    simp only [quadformref01_Mul.s0, quadformref01_Mul.j2, cite, decide_eq_true_eq, inB_t, etaI]
    have w1 : IntKind.wrap .i64 ((i : Int) + (j : Int)) = ((i + j : Nat) : Int) := by rw [wi64 (by omega) (by omega)]; rfl
    have w2 : IntKind.wrap .u64 (IntKind.wrap .u64 ((dg m i : Int) * (dg n j : Int)) + IntKind.wrap .u64 (dg a (i + j) : Int)) = ((dg m i * dg n j + dg a (i + j) : Nat) : Int) := by
      rw [← Int.natCast_mul, wu64' (x := ((dg m i * dg n j : Nat) : Int)) (by omega) (by omega), wu64' (x := (dg a (i + j) : Int)) (by omega) (by omega), wu64' (by omega) (by omega)]
      rfl
    have w3 : IntKind.wrap .u64 ((c : Int) + ((dg m i * dg n j + dg a (i + j) : Nat) : Int)) = ((c + (dg m i * dg n j + dg a (i + j)) : Nat) : Int) := by
      rw [wu64' (by omega) (by omega)]; rfl
    rw [if_pos (by omega), if_pos (by omega), w1, if_pos (by omega), if_pos (by omega)]
    simp only [Int.toNat_natCast, Nat.zero_add]
    rw [gd hn, gd ha, wu64' (x := (dg m i : Int)) (by omega) (by omega), wu64' (x := (dg n j : Int)) (by omega) (by omega), w2, w3, hi_word, up (by omega), wu32, Int.natCast_emod]
    rfl
theorem rmul_outer {m n : List Int} (hm : Lim m) (hn : Lim n) (hb : m.length + n.length < 17592186044416) (b2 b4 : IV) (s : Bool) : ∀ (t i : Nat) (a : List Int), m.length - i = t → i ≤ m.length → a.length = m.length + n.length → Lim a → lv a = lv (m.take i) * lv n →
    ∃ a' : List Int, iterL (fun x : List Int × Int × Int × List Int × (Bool × List Int × Unit) × (Bool × List Int × Unit) × (Bool × List Int × Unit) × Unit => quadformref01_Mul.s1 x.1 x.2.1 x.2.2.1 x.2.2.2.1 x.2.2.2.2.1 x.2.2.2.2.2.1 x.2.2.2.2.2.2.1) (m, (m.length : Int), (i : Int), a, b2, (s, n, ()), b4, ()) = some (a', b2, (s, n, ()), b4, ()) ∧ a'.length = m.length + n.length ∧ Lim a' ∧ lv a' = lv m * lv n := by
  intro t
  induction t with
  | zero =>
    intro i a ht hi hl ha he
    obtain rfl : i = m.length := by omega
    refine ⟨a, iterL_done ?_, hl, ha, by rw [he, List.take_length]⟩
    simp only [quadformref01_Mul.s1, cite, decide_eq_true_eq]
    rw [if_neg (by omega)]
  | succ t ih =>
    intro i a ht hi hl ha he
    have hd : dg a (i + n.length) = 0 := by
      have b1 := lv_lt (hm.take i)
      have b2 := lv_lt hn
      rw [List.length_take, Nat.min_eq_left hi] at b1
      have : lv a < 4294967296 ^ (i + n.length) := by
        rw [he, Nat.pow_add]
        exact Nat.lt_of_le_of_lt (Nat.mul_le_mul_right _ (Nat.le_of_lt b1)) (Nat.mul_lt_mul_of_pos_left b2 (Nat.pow_pos (by omega)))
      rw [dg_lv ha, Nat.div_eq_of_lt this]
    obtain ⟨a1, c1, g1, g2, g3, g4, g5, g6⟩ := rmul_inner hm hn (i := i) (by omega) hb b2 (s, n, ()) b4 _ 0 a 0 (lv a) rfl (by omega) hl ha (by omega) hd (by simp [lv])
    have hv := lv_put a1 (i := i + n.length) (by omega) c1
    rw [g5, Nat.mul_zero, Nat.add_zero, g6, he] at hv
    obtain ⟨a', q1, q2⟩ := ih (i + 1) (a1.set (i + n.length) (c1 : Int)) (by omega) (by omega) (by simpa using g2) (g3.set _ (by omega)) (by
      rw [hv, lv_take_succ, Nat.add_mul, Nat.mul_assoc])
    refine ⟨a', (iterL_next ?_).trans q1, q2⟩
    simp only [quadformref01_Mul.s1, quadformref01_Mul.j1, cite, decide_eq_true_eq, inB_t, etaI]
    rw [show ((0 : Nat) : Int) = 0 from rfl] at g1
    rw [if_pos (by omega), if_pos (by omega), Int.toNat_natCast, gd hm, g1, Option.bind_some]
    simp only [quadformref01_Mul.k0, cite, inB_t, etaI]
    have w1 : IntKind.wrap .i64 ((i : Int) + ((n.length : Nat) : Int)) = ((i + n.length : Nat) : Int) := by rw [wi64 (by omega) (by omega)]; rfl
    rw [w1, if_pos (by omega), Int.toNat_natCast, Nat.zero_add, up (by omega), wu32' (by omega) (by omega)]
theorem rmulI {a b : Int} {n : Nat} (ha : Bd n a) (hb : Bd n b) (hn : n ≤ 1000000000) : quadformref01_Mul (mkI a) (mkI b) = some (mkI (a * b)) := by
  have h1 := ha.len hn
  have h2 := hb.len hn
  have l1 := len_mkI a
  have l2 := len_mkI b
  obtain ⟨a', g1, g2, g3, g4⟩ := rmul_outer (lim_mkI a) (lim_mkI b) (by omega) (mkI a) (false, ([], ())) (mkI b).1 _ 0 (List.replicate ((mkI a).2.1.length + (mkI b).2.1.length) 0) rfl (by omega) (by simp) (Lim.replicate _) (by rw [lv_zeros]; simp [lv])
  have w1 : IntKind.wrap .i64 (((mkI a).2.1.length : Int) + ((mkI b).2.1.length : Int)) = (((mkI a).2.1.length + (mkI b).2.1.length : Nat) : Int) := by rw [wi64 (by omega) (by omega)]; rfl
  unfold quadformref01_Mul
  simp only [w1, cite, inC_t, maxL_eq, etaI]
  rw [show ((0 : Nat) : Int) = 0 from rfl, etaI] at g1
  rw [if_pos (by omega), Int.toNat_natCast, g1, Option.bind_some]
  simp only [quadformref01_Mul.k1]
  rw [make_ok _ g3 (by omega), Option.bind_some]
  have : iv (!((mkI a).1 == (mkI b).1)) a' = a * b := by
    have e1 : (mkI a).1 = decide (a < 0) := rfl
    have e2 : (mkI b).1 = decide (b < 0) := rfl
    rw [lv_mkI, lv_mkI] at g4
    unfold iv
    rw [g4, e1, e2, Int.natCast_mul]
    by_cases c1 : a < 0 <;> by_cases c2 : b < 0 <;> simp only [decide_eq_true, decide_eq_false, c1, c2, not_false_eq_true, beq_self_eq_true, Bool.not_true, Bool.false_eq_true, if_false, if_true, Bool.not_false, show (true == false) = false from rfl, show (false == true) = false from rfl]
    · rw [show ((a.natAbs : Nat) : Int) = -a by omega, show ((b.natAbs : Nat) : Int) = -b by omega, Int.neg_mul_neg]
    · rw [show ((a.natAbs : Nat) : Int) = -a by omega, show ((b.natAbs : Nat) : Int) = b by omega, Int.neg_mul, Int.neg_neg]
    · rw [show ((a.natAbs : Nat) : Int) = a by omega, show ((b.natAbs : Nat) : Int) = -b by omega, Int.mul_neg, Int.neg_neg]
    · rw [show ((a.natAbs : Nat) : Int) = a by omega, show ((b.natAbs : Nat) : Int) = b by omega]
  rw [this]
theorem rpow_loop {n : Nat} {a : Int} (h : Bd n a) (hn : n ≤ 10000) {k : Nat} (hk : k ≤ 64) (b4 : IV) : ∀ (t i : Nat), k - i = t → i ≤ k →
    iterL (fun x : Int × Int × (Bool × List Int × Unit) × (Bool × List Int × Unit) × (Bool × List Int × Unit) × Unit => quadformref01_Pow.s0 x.1 x.2.1 x.2.2.1 x.2.2.2.1 x.2.2.2.2.1) ((k : Int), (i : Int), mkI a, b4, mkI (a ^ i), ()) = some (b4, mkI (a ^ k), ()) := by
  intro t
  induction t with
  | zero =>
    intro i ht hi
    obtain rfl : i = k := by omega
    refine iterL_done ?_
    simp only [quadformref01_Pow.s0, cite, decide_eq_true_eq]
    rw [if_neg (by omega)]
  | succ t ih =>
    intro i ht hi
    refine (iterL_next ?_).trans (ih (i + 1) (by omega) (by omega))
    have hb : n * i + 1 + n ≤ 1000000 := by
      have := Nat.mul_le_mul hn (show i ≤ 64 by omega)
      omega
    simp only [quadformref01_Pow.s0, quadformref01_Pow.j2, cite, decide_eq_true_eq, etaI]
    rw [if_pos (by omega), rmulI (n := n * i + 1 + n) ((h.pow i).mono (by omega)) (h.mono (by omega)) (by omega), Option.bind_some, up (by omega), Int.pow_succ]
theorem rpowI {n k : Nat} {a : Int} (h : Bd n a) (hn : n ≤ 10000) (hk : k ≤ 64) : quadformref01_Pow (mkI a) (k : Int) = some (mkI (a ^ k), true, ()) := by
  unfold quadformref01_Pow
  simp only [quadformref01_Pow.j1, cite, decide_eq_true_eq, etaI]
  have key := rpow_loop h hn hk (false, ([], ())) _ 0 rfl (by omega)
  rw [Int.pow_zero, show ((0 : Nat) : Int) = 0 from rfl] at key
  rw [if_neg (by omega), if_neg (by omega), rsmall_ok (by decide) (by decide), Option.bind_some, key, Option.bind_some]
  rfl
end Go.Proofs.Ytbchgegclgpdhaa.V
