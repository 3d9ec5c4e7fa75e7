/- Laws of powers, and of the reference's rational numbers. -/
import Derived.Test.YtgbndganadelpaaGreatDoorYLocalmassStandard15
import Derived.Test.YtgbndganadelpaaGreatDoorYLocalmassStandard7
namespace Go.Proofs.YtgbndganadelpaaGreatDoor.V
open Go Go.Proofs.YtgbndganadelpaaGreatDoor.E Go.Proofs.YtgbndganadelpaaGreatDoor.LI
set_option linter.unusedVariables false
set_option linter.unusedSimpArgs false
theorem pow_loop (B : Nat) (hB : (limbs B).length ≤ 100000) (b4 : Bool × List Int × Unit) : ∀ (N e r c : Nat), e < N → e ≤ 64 → r * c ^ e = B → 0 < r → 0 < c →
    iterL (fun x : Int × (Bool × List Int × Unit) × (Bool × List Int × Unit) × (Bool × List Int × Unit) × Unit => integer_Pow.s0 x.1 x.2.1 x.2.2.1 x.2.2.2.1) ((e : Int), b4, mkI (r : Int), mkI (c : Int), ()) = some (b4, mkI (B : Int), ())
  | 0, e, r, c, h, _, _, _, _ => by omega
  | N + 1, e, r, c, h, he, hB', hr, hc => by
    by_cases h0 : e = 0
    · subst h0
      rw [Nat.pow_zero, Nat.mul_one] at hB'
      subst hB'
      refine iterL_done ?_
      simp only [integer_Pow.s0, cite, decide_eq_true_eq]
      rw [if_neg (by omega)]
    · have hm : Int.tmod (e : Int) 2 = ((e % 2 : Nat) : Int) := tmod_nat e 2
      have hh := half_wrap e (by omega)
      have ce : c * c ^ (e - 1) = c ^ e := by rw [← Nat.pow_succ', show (e - 1).succ = e by omega]
      have cpos : 0 < c ^ (e - 1) := Nat.pow_pos hc
      have hce : c ≤ c ^ e := by rw [← ce]; exact Nat.le_mul_of_pos_right _ cpos
      have hrB : r ≤ B := by rw [← hB']; exact Nat.le_mul_of_pos_right _ (Nat.pow_pos hc)
      have hcB : c ≤ B := by rw [← hB']; exact Nat.le_trans hce (Nat.le_mul_of_pos_left _ hr)
      have lr := len_le hrB
      have lc := len_le hcB
      have m1 := mulI (r : Int) (c : Int) (by rw [Int.natAbs_natCast, Int.natAbs_natCast]; omega)
      have m2 := mulI (c : Int) (c : Int) (by rw [Int.natAbs_natCast]; omega)
      rw [← Int.natCast_mul] at m1 m2
      have m1' : integer_Mul ((mkI (r : Int)).1, ((mkI (r : Int)).2.1, ())) ((mkI (c : Int)).1, ((mkI (c : Int)).2.1, ())) = _ := m1
      have m2' : integer_Mul ((mkI (c : Int)).1, ((mkI (c : Int)).2.1, ())) ((mkI (c : Int)).1, ((mkI (c : Int)).2.1, ())) = _ := m2
      have step : ∀ r' : Nat, integer_Pow.j3 (e : Int) b4.1 b4.2.1 (mkI (r' : Int)).1 (mkI (r' : Int)).2.1 (mkI (c : Int)).1 (mkI (c : Int)).2.1 = some (.inl (((e / 2 : Nat) : Int), b4, mkI (r' : Int), mkI ((if e > 1 then c * c else c : Nat) : Int), ())) := fun r' => by
        simp only [integer_Pow.j3, integer_Pow.j4, cite, decide_eq_true_eq]
        by_cases h1 : e > 1
        · rw [if_pos (by omega), m2', Option.bind_some, hh, if_pos h1]
        · rw [if_neg (by omega), hh, if_neg h1]
      have half : ∀ r' : Nat, r' * c ^ (2 * (e / 2)) = B → r' * (if e > 1 then c * c else c : Nat) ^ (e / 2) = B := fun r' h9 => by
        by_cases h1 : e > 1
        · rw [if_pos h1, ← Nat.pow_two, ← Nat.pow_mul]; exact h9
        · rw [if_neg h1, show e / 2 = 0 by omega, Nat.pow_zero]
          rw [show e / 2 = 0 by omega, Nat.mul_zero, Nat.pow_zero] at h9
          exact h9
      have c2 : 0 < (if e > 1 then c * c else c : Nat) := by split <;> first | exact Nat.mul_pos hc hc | exact hc
      by_cases hodd : e % 2 = 1
      · have key := pow_loop B hB b4 N (e / 2) (r * c) (if e > 1 then c * c else c : Nat) (by omega) (by omega) (half _ (by
          rw [Nat.mul_assoc, ← Nat.pow_succ', show (2 * (e / 2)).succ = e by omega]; exact hB')) (Nat.mul_pos hr hc) c2
        refine (iterL_next ?_).trans key
        simp only [integer_Pow.s0, integer_Pow.j2, cite, decide_eq_true_eq, beq_iff_eq]
        rw [if_pos (by omega), hm, if_pos (by rw [hodd]; rfl), m1', Option.bind_some, step (r * c)]
      · have key := pow_loop B hB b4 N (e / 2) r (if e > 1 then c * c else c : Nat) (by omega) (by omega) (half _ (by
          rw [show 2 * (e / 2) = e by omega]; exact hB')) hr c2
        refine (iterL_next ?_).trans key
        simp only [integer_Pow.s0, integer_Pow.j2, cite, decide_eq_true_eq, beq_iff_eq]
        rw [if_pos (by omega), hm, if_neg (by omega), step r]
theorem pow_ok {c e : Nat} (hc : 0 < c) (he : e ≤ 64) (hl : (limbs (c ^ e)).length ≤ 100000) (hl2 : (limbs c).length ≤ 100000) : integer_Pow (mkI (c : Int)) (e : Int) = some (mkI ((c ^ e : Nat) : Int), true, ()) := by
  have key := pow_loop (c ^ e) hl (false, ([], ())) _ e 1 c (Nat.lt_succ_self _) he (by rw [Nat.one_mul]) (by omega) hc
  unfold integer_Pow
  simp only [integer_Pow.j1, cite, decide_eq_true_eq]
  have nm : integer_Normalize ((mkI (c : Int)).1, ((mkI (c : Int)).2.1, ())) = some (mkI (c : Int)) := normI (by rw [Int.natAbs_natCast]; omega)
  have key' : iterL (fun x : Int × (Bool × List Int × Unit) × (Bool × List Int × Unit) × (Bool × List Int × Unit) × Unit => integer_Pow.s0 x.1 x.2.1 x.2.2.1 x.2.2.2.1) ((e : Int), (false, (([] : List Int), ())), ((mkI 1).1, ((mkI 1).2.1, ())), ((mkI (c : Int)).1, ((mkI (c : Int)).2.1, ())), ()) = _ := key
  rw [if_neg (by omega), if_neg (by omega), small_ok (by decide) (by decide), Option.bind_some, nm, Option.bind_some, key', Option.bind_some]
  rfl
theorem Bd.pow {n : Nat} {a : Int} (h : Bd n a) : ∀ k : Nat, Bd (n * k + 1) (a ^ k)
  | 0 => by rw [Int.pow_zero]; exact Bd.mono (n := 1) (by unfold Bd; decide) (by omega)
  | k + 1 => by
    rw [Int.pow_succ]
    exact ((Bd.pow h k).mul h).mono (by rw [Nat.mul_add]; omega)
theorem Bd.lenG {n : Nat} {z : Int} (h : Bd n z) : (limbs z.natAbs).length ≤ n / 32 + 1 := limbs_len.2 (Nat.lt_of_lt_of_le h (by
  rw [show (4294967296 : Nat) = 2 ^ 32 from rfl, ← Nat.pow_mul]
  exact Nat.pow_le_pow_right (by omega) (by omega)))
theorem powB {n k : Nat} {a : Int} (h : Bd n a) (ha : 0 < a) (hn : n ≤ 10000) (hk : k ≤ 64) : integer_Pow (mkI a) (k : Int) = some (mkI (a ^ k), true, ()) := by
  obtain ⟨c, rfl⟩ : ∃ c : Nat, a = c := ⟨a.toNat, by omega⟩
  have hb : n * k + 1 ≤ 1000000 := by
    have := Nat.mul_le_mul hn hk
    omega
  have hp := (h.pow k).lenG
  rw [← Int.natCast_pow, Int.natAbs_natCast] at hp
  have hl2 := h.lenG
  rw [Int.natAbs_natCast] at hl2
  have := pow_ok (c := c) (e := k) (by omega) hk (by omega) (by omega)
  rw [this, Int.natCast_pow]
theorem qpow_neg {n k : Nat} {q : Rat} (h : BQ n q) (hq : 0 < q.num) (hn : n ≤ 10000) (hk : k ≤ 64) (h1 : 0 < k) : rational_Pow (mkQ q) (-(k : Int)) = some (mkQ ((q ^ k)⁻¹), true, ()) := by
  have hp := den_pos q
  have hb : n * k + 1 ≤ 1000000 := by
    have := Nat.mul_le_mul hn hk
    omega
  have hm : mx2 (-(k : Int)) (IntKind.wrap .i64 (0 - -(k : Int))) = (k : Int) := by
    rw [wi64 (by omega) (by omega)]; unfold mx2; split <;> omega
  unfold rational_Pow
  simp only [rational_Pow.j1, rational_Pow.j2, cite, decide_eq_true_eq, etaI, etaQ, mkQ_1, mkQ_2]
  rw [if_neg (by omega), if_neg (by omega), mkQ_3, of_ok h (by omega), Option.bind_some, hm, mkQ_1, mkQ_2, powB h.1 hq hn hk, Option.bind_some, powB h.den hp hn hk, Option.bind_some, if_pos (by omega), qnew (h.den.pow k) (h.1.pow k) (by omega) (by have := Int.pow_pos hq (m := k); omega), Option.bind_some, pow_divInt, Rat.inv_divInt]
theorem rmul_inner {m n : List Int} (hm : Lim m) (hn : Lim n) {i : Nat} (hi : i < m.length) (hb : m.length + n.length < 17592186044416) (b2 b3 b4 : IV) : ∀ (t j : Nat) (a : List Int) (c A0 : Nat), n.length - j = t → j ≤ n.length → a.length = m.length + n.length → Lim a → c < 4294967296 →
    dg a (i + n.length) = 0 → lv a + 4294967296 ^ (i + j) * c = A0 + 4294967296 ^ i * (dg m i * lv (n.take j)) →
    ∃ (a' : List Int) (c' : Nat), iterL (fun x : Int × Int × Int × List Int × Int × Int × List Int × Int × Int × List Int × (Bool × List Int × Unit) × (Bool × List Int × Unit) × (Bool × List Int × Unit) × Unit => r01_Mul.s0 x.1 x.2.1 x.2.2.1 x.2.2.2.1 x.2.2.2.2.1 x.2.2.2.2.2.1 x.2.2.2.2.2.2.1 x.2.2.2.2.2.2.2.1 x.2.2.2.2.2.2.2.2.1 x.2.2.2.2.2.2.2.2.2.1 x.2.2.2.2.2.2.2.2.2.2.1 x.2.2.2.2.2.2.2.2.2.2.2.1 x.2.2.2.2.2.2.2.2.2.2.2.2.1) ((i : Int), ((dg m i : Nat) : Int), (c : Int), m, (m.length : Int), (i : Int), n, (n.length : Int), (j : Int), a, b2, b3, b4, ()) = some ((i : Int), (c' : Int), m, (m.length : Int), (i : Int), a', b2, b3, b4, ()) ∧
      a'.length = m.length + n.length ∧ Lim a' ∧ c' < 4294967296 ∧ dg a' (i + n.length) = 0 ∧ lv a' + 4294967296 ^ (i + n.length) * c' = A0 + 4294967296 ^ i * (dg m i * lv n) := by
  intro t
  induction t with
  | zero =>
    intro j a c A0 ht hj hl ha hc hd he
    obtain rfl : j = n.length := by omega
    refine ⟨a, c, iterL_done ?_, hl, ha, hc, hd, by rw [he, List.take_length]⟩
    simp only [r01_Mul.s0, cite, decide_eq_true_eq]
    rw [if_neg (by omega)]
  | succ t ih =>
    intro j a c A0 ht hj hl ha hc hd he
    have h1 := dg_lt hm i
    have h2 := dg_lt hn j
    have h3 := dg_lt ha (i + j)
    have hp := mul_le h1 h2
    have hv := lv_put a (i := i + j) (by omega) ((c + (dg m i * dg n j + dg a (i + j))) % 4294967296)
    obtain ⟨a', c', g1, g2⟩ := ih (j + 1) (a.set (i + j) (((c + (dg m i * dg n j + dg a (i + j))) % 4294967296 : Nat) : Int)) ((c + (dg m i * dg n j + dg a (i + j))) / 4294967296) A0 (by omega) (by omega) (by simpa using hl) (ha.set _ (by omega)) (by omega)
      (by rw [dg_put_ne _ (by omega)]; exact hd) (by
        rw [lv_take_succ, show i + (j + 1) = (i + j) + 1 from rfl, Nat.pow_succ]
        have e1 : 4294967296 ^ (i + j) * (c + (dg m i * dg n j + dg a (i + j))) = 4294967296 ^ (i + j) * ((c + (dg m i * dg n j + dg a (i + j))) % 4294967296) + 4294967296 ^ (i + j) * 4294967296 * ((c + (dg m i * dg n j + dg a (i + j))) / 4294967296) := by
          rw [Nat.mul_assoc, ← Nat.mul_add, Nat.mod_add_div]
        have e2 : 4294967296 ^ i * (dg m i * (lv (n.take j) + 4294967296 ^ j * dg n j)) = 4294967296 ^ i * (dg m i * lv (n.take j)) + 4294967296 ^ (i + j) * (dg m i * dg n j) := by
          rw [Nat.mul_add, Nat.mul_add, Nat.pow_add, Nat.mul_left_comm (dg m i), ← Nat.mul_assoc (4294967296 ^ i) (4294967296 ^ j)]
        rw [e2]
        rw [Nat.mul_add, Nat.mul_add] at e1
        omega)
    refine ⟨a', c', (iterL_next ?_).trans g1, g2⟩
    simp only [r01_Mul.s0, r01_Mul.j2, cite, decide_eq_true_eq, inB_t, etaI]
    have w1 : IntKind.wrap .i64 ((i : Int) + (j : Int)) = ((i + j : Nat) : Int) := by rw [wi64 (by omega) (by omega)]; rfl
    have w2 : IntKind.wrap .u64 (IntKind.wrap .u64 ((dg m i : Int) * (dg n j : Int)) + IntKind.wrap .u64 (dg a (i + j) : Int)) = ((dg m i * dg n j + dg a (i + j) : Nat) : Int) := by
      rw [← Int.natCast_mul, wu64' (x := ((dg m i * dg n j : Nat) : Int)) (by omega) (by omega), wu64' (x := (dg a (i + j) : Int)) (by omega) (by omega), wu64' (by omega) (by omega)]
      rfl
    have w3 : IntKind.wrap .u64 ((c : Int) + ((dg m i * dg n j + dg a (i + j) : Nat) : Int)) = ((c + (dg m i * dg n j + dg a (i + j)) : Nat) : Int) := by
      rw [wu64' (by omega) (by omega)]; rfl
    rw [if_pos (by omega), if_pos (by omega), w1, if_pos (by omega), if_pos (by omega)]
    simp only [Int.toNat_natCast, Nat.zero_add]
    rw [gd hn, gd ha, wu64' (x := (dg m i : Int)) (by omega) (by omega), wu64' (x := (dg n j : Int)) (by omega) (by omega), w2, w3, hi_word, up (by omega), wu32, Int.natCast_emod]
    rfl
theorem rmul_outer {m n : List Int} (hm : Lim m) (hn : Lim n) (hb : m.length + n.length < 17592186044416) (b2 b4 : IV) (s : Bool) : ∀ (t i : Nat) (a : List Int), m.length - i = t → i ≤ m.length → a.length = m.length + n.length → Lim a → lv a = lv (m.take i) * lv n →
    ∃ a' : List Int, iterL (fun x : List Int × Int × Int × List Int × (Bool × List Int × Unit) × (Bool × List Int × Unit) × (Bool × List Int × Unit) × Unit => r01_Mul.s1 x.1 x.2.1 x.2.2.1 x.2.2.2.1 x.2.2.2.2.1 x.2.2.2.2.2.1 x.2.2.2.2.2.2.1) (m, (m.length : Int), (i : Int), a, b2, (s, n, ()), b4, ()) = some (a', b2, (s, n, ()), b4, ()) ∧ a'.length = m.length + n.length ∧ Lim a' ∧ lv a' = lv m * lv n := by
  intro t
  induction t with
  | zero =>
    intro i a ht hi hl ha he
    obtain rfl : i = m.length := by omega
    refine ⟨a, iterL_done ?_, hl, ha, by rw [he, List.take_length]⟩
    simp only [r01_Mul.s1, cite, decide_eq_true_eq]
    rw [if_neg (by omega)]
  | succ t ih =>
    intro i a ht hi hl ha he
    have hd : dg a (i + n.length) = 0 := by
      have b1 := lv_lt (hm.take i)
      have b2 := lv_lt hn
      rw [List.length_take, Nat.min_eq_left hi] at b1
      have : lv a < 4294967296 ^ (i + n.length) := by
        rw [he, Nat.pow_add]
        exact Nat.lt_of_le_of_lt (Nat.mul_le_mul_right _ (Nat.le_of_lt b1)) (Nat.mul_lt_mul_of_pos_left b2 (Nat.pow_pos (by omega)))
      rw [dg_lv ha, Nat.div_eq_of_lt this]
    obtain ⟨a1, c1, g1, g2, g3, g4, g5, g6⟩ := rmul_inner hm hn (i := i) (by omega) hb b2 (s, n, ()) b4 _ 0 a 0 (lv a) rfl (by omega) hl ha (by omega) hd (by simp [lv])
    have hv := lv_put a1 (i := i + n.length) (by omega) c1
    rw [g5, Nat.mul_zero, Nat.add_zero, g6, he] at hv
    obtain ⟨a', q1, q2⟩ := ih (i + 1) (a1.set (i + n.length) (c1 : Int)) (by omega) (by omega) (by simpa using g2) (g3.set _ (by omega)) (by
      rw [hv, lv_take_succ, Nat.add_mul, Nat.mul_assoc])
    refine ⟨a', (iterL_next ?_).trans q1, q2⟩
    simp only [r01_Mul.s1, r01_Mul.j1, cite, decide_eq_true_eq, inB_t, etaI]
    rw [show ((0 : Nat) : Int) = 0 from rfl] at g1
    rw [if_pos (by omega), if_pos (by omega), Int.toNat_natCast, gd hm, g1, Option.bind_some]
    simp only [r01_Mul.k0, cite, inB_t, etaI]
    have w1 : IntKind.wrap .i64 ((i : Int) + ((n.length : Nat) : Int)) = ((i + n.length : Nat) : Int) := by rw [wi64 (by omega) (by omega)]; rfl
    rw [w1, if_pos (by omega), Int.toNat_natCast, Nat.zero_add, up (by omega), wu32' (by omega) (by omega)]
theorem rmulI {a b : Int} {n : Nat} (ha : Bd n a) (hb : Bd n b) (hn : n ≤ 1000000000) : r01_Mul (mkI a) (mkI b) = some (mkI (a * b)) := by
  have h1 := ha.len hn
  have h2 := hb.len hn
  have l1 := len_mkI a
  have l2 := len_mkI b
  obtain ⟨a', g1, g2, g3, g4⟩ := rmul_outer (lim_mkI a) (lim_mkI b) (by omega) (mkI a) (false, ([], ())) (mkI b).1 _ 0 (List.replicate ((mkI a).2.1.length + (mkI b).2.1.length) 0) rfl (by omega) (by simp) (Lim.replicate _) (by rw [lv_zeros]; simp [lv])
  have w1 : IntKind.wrap .i64 (((mkI a).2.1.length : Int) + ((mkI b).2.1.length : Int)) = (((mkI a).2.1.length + (mkI b).2.1.length : Nat) : Int) := by rw [wi64 (by omega) (by omega)]; rfl
  unfold r01_Mul
  simp only [w1, cite, inC_t, maxL_eq, etaI]
  rw [show ((0 : Nat) : Int) = 0 from rfl, etaI] at g1
  rw [if_pos (by omega), Int.toNat_natCast, g1, Option.bind_some]
  simp only [r01_Mul.k1]
  rw [make_ok _ g3 (by omega), Option.bind_some]
  have : iv (!((mkI a).1 == (mkI b).1)) a' = a * b := by
    have e1 : (mkI a).1 = decide (a < 0) := rfl
    have e2 : (mkI b).1 = decide (b < 0) := rfl
    rw [lv_mkI, lv_mkI] at g4
    unfold iv
    rw [g4, e1, e2, Int.natCast_mul]
    by_cases c1 : a < 0 <;> by_cases c2 : b < 0 <;> simp only [decide_eq_true, decide_eq_false, c1, c2, not_false_eq_true, beq_self_eq_true, Bool.not_true, Bool.false_eq_true, if_false, if_true, Bool.not_false, show (true == false) = false from rfl, show (false == true) = false from rfl]
    · rw [show ((a.natAbs : Nat) : Int) = -a by omega, show ((b.natAbs : Nat) : Int) = -b by omega, Int.neg_mul_neg]
    · rw [show ((a.natAbs : Nat) : Int) = -a by omega, show ((b.natAbs : Nat) : Int) = b by omega, Int.neg_mul, Int.neg_neg]
    · rw [show ((a.natAbs : Nat) : Int) = a by omega, show ((b.natAbs : Nat) : Int) = -b by omega, Int.mul_neg, Int.neg_neg]
    · rw [show ((a.natAbs : Nat) : Int) = a by omega, show ((b.natAbs : Nat) : Int) = b by omega]
  rw [this]
theorem rpow_loop {n : Nat} {a : Int} (h : Bd n a) (hn : n ≤ 10000) {k : Nat} (hk : k ≤ 64) (b4 : IV) : ∀ (t i : Nat), k - i = t → i ≤ k →
    iterL (fun x : Int × Int × (Bool × List Int × Unit) × (Bool × List Int × Unit) × (Bool × List Int × Unit) × Unit => r01_Pow.s0 x.1 x.2.1 x.2.2.1 x.2.2.2.1 x.2.2.2.2.1) ((k : Int), (i : Int), mkI a, b4, mkI (a ^ i), ()) = some (b4, mkI (a ^ k), ()) := by
  intro t
  induction t with
  | zero =>
    intro i ht hi
    obtain rfl : i = k := by omega
    refine iterL_done ?_
    simp only [r01_Pow.s0, cite, decide_eq_true_eq]
    rw [if_neg (by omega)]
  | succ t ih =>
    intro i ht hi
    refine (iterL_next ?_).trans (ih (i + 1) (by omega) (by omega))
    have hb : n * i + 1 + n ≤ 1000000 := by
      have := Nat.mul_le_mul hn (show i ≤ 64 by omega)
      omega
    simp only [r01_Pow.s0, r01_Pow.j2, cite, decide_eq_true_eq, etaI]
    rw [if_pos (by omega), rmulI (n := n * i + 1 + n) ((h.pow i).mono (by omega)) (h.mono (by omega)) (by omega), Option.bind_some, up (by omega), Int.pow_succ]
theorem rpowI {n k : Nat} {a : Int} (h : Bd n a) (hn : n ≤ 10000) (hk : k ≤ 64) : r01_Pow (mkI a) (k : Int) = some (mkI (a ^ k), true, ()) := by
  unfold r01_Pow
  simp only [r01_Pow.j1, cite, decide_eq_true_eq, etaI]
  have key := rpow_loop h hn hk (false, ([], ())) _ 0 rfl (by omega)
  rw [Int.pow_zero, show ((0 : Nat) : Int) = 0 from rfl] at key
  rw [if_neg (by omega), if_neg (by omega), rsmall_ok (by decide) (by decide), Option.bind_some, key, Option.bind_some]
  rfl
end Go.Proofs.YtgbndganadelpaaGreatDoor.V
/- Laws: the prime test, residues, powers modulo a prime number, the symbol of a unit. -/
namespace Go.Proofs.YtgbndganadelpaaGreatDoor.V
open Go Go.Proofs.YtgbndganadelpaaGreatDoor.E Go.Proofs.YtgbndganadelpaaGreatDoor.LI Go.Proofs.YtgbndganadelpaaGreatDoor.Num
set_option linter.unusedVariables false
set_option linter.unusedSimpArgs false
theorem is_step (n d : Nat) (hd2 : 2 ≤ d) (hd : d ≤ 46341) : prime_Is.s0 (n : Int) (d : Int) = if d * d ≤ n then if n % d = 0 then some (.inr (.inr (false, ()))) else some (.inl ((n : Int), ((d + 1 : Nat) : Int), ())) else some (.inr (.inl ())) := by
  simp only [prime_Is.s0, prime_Is.j2, prime_Is.j3, cite, decide_eq_true_eq, beq_iff_eq]
  rw [sq_wrap (by omega), if_neg (show ¬ (d : Int) = 0 by omega), tmod_nat, up (by omega)]
  by_cases h1 : d * d ≤ n
  · rw [if_pos h1, if_pos (by omega)]
    by_cases h2 : n % d = 0
    · rw [if_pos h2, if_pos (by omega)]
    · rw [if_neg h2, if_neg (by omega)]
  · rw [if_neg h1, if_neg (by omega)]
theorem is_loop (n : Nat) (h2 : 2 ≤ n) (hn : n ≤ 2147483647) : ∀ (t d : Nat), 46342 - d = t → 2 ≤ d → d ≤ 46341 → (∀ q, 2 ≤ q → q ∣ n → q < n → d ≤ q) →
    ∃ z, iterL (fun x : Int × Int × Unit => prime_Is.s0 x.1 x.2.1) ((n : Int), (d : Int), ()) = some z ∧ ((z = .inl () ∧ Pr n) ∨ (z = .inr (false, ()) ∧ ¬ Pr n)) := by
  intro t
  induction t with
  | zero => intro d h1 h2 h3; omega
  | succ t ih =>
    intro d ht hd2 hd hlo
    have hst := is_step n d hd2 hd
    by_cases hle : d * d ≤ n
    · have hb := sq_le hle hn
      rw [if_pos hle] at hst
      by_cases hdv : n % d = 0
      · rw [if_pos hdv] at hst
        refine ⟨_, iterL_done hst, .inr ⟨rfl, fun hp => ?_⟩⟩
        rcases hp.2 d (Nat.dvd_of_mod_eq_zero hdv) with h | h
        · omega
        · subst h
          have := Nat.mul_le_mul_right d hd2
          omega
      · rw [if_neg hdv] at hst
        obtain ⟨z, hb1, hb2⟩ := ih (d + 1) (by omega) (by omega) (by omega) (fun q h1 h3 h4 => by
          have := hlo q h1 h3 h4
          have : q ≠ d := by rintro rfl; exact hdv (Nat.mod_eq_zero_of_dvd h3)
          omega)
        exact ⟨z, (iterL_next hst).trans hb1, hb2⟩
    · rw [if_neg hle] at hst
      exact ⟨_, iterL_done hst, .inl ⟨rfl, pr_of_noDiv h2 hlo (by omega)⟩⟩
theorem is_any (a : Int) : ∃ b : Bool, (b = true ↔ 2 ≤ a ∧ a ≤ 2147483647 ∧ Pr a.toNat) ∧ prime_Is a = some b := by
  unfold prime_Is
  simp only [cite, decide_eq_true_eq]
  by_cases h : a < 2
  · rw [if_pos h]
    exact ⟨false, ⟨fun h => by simp at h, fun h => by omega⟩, rfl⟩
  · rw [if_neg h]
    by_cases h3 : a > 2147483647
    · rw [if_pos h3]
      exact ⟨false, ⟨fun h => by simp at h, fun h => by omega⟩, rfl⟩
    · rw [if_neg h3]
      obtain ⟨n, rfl⟩ : ∃ n : Nat, a = n := ⟨a.toNat, by omega⟩
      obtain ⟨z, h1, h2⟩ := is_loop n (by omega) (by omega) 46340 2 rfl (by omega) (by omega) (fun q h _ _ => h)
      unfold prime_Is.j1
      rw [show ((2 : Nat) : Int) = 2 from rfl] at h1
      rw [h1, Option.bind_some]
      rcases h2 with ⟨rfl, hp⟩ | ⟨rfl, hp⟩
      · exact ⟨true, ⟨fun _ => ⟨by omega, by omega, by simpa using hp⟩, fun _ => rfl⟩, rfl⟩
      · exact ⟨false, ⟨fun h => by simp at h, fun h => absurd (by simpa using h.2.2) hp⟩, rfl⟩
end Go.Proofs.YtgbndganadelpaaGreatDoor.V
/- Laws of localmass: half, the diagonal factor. -/
namespace Go.Proofs.YtgbndganadelpaaGreatDoor.V
open Go Go.Proofs.YtgbndganadelpaaGreatDoor.E Go.Proofs.YtgbndganadelpaaGreatDoor.LI Go.Proofs.YtgbndganadelpaaGreatDoor.Num
set_option linter.unusedVariables false
set_option linter.unusedSimpArgs false
theorem bqn {n : Nat} (h : n < 1000000) : BQ 64 (((n : Int)) : Rat) := BQ.int (Bd.i64 (by omega) (by omega)) (by omega)
theorem bqz {z : Int} (h : -1000000 ≤ z) (h' : z ≤ 1000000) : BQ 64 ((z : Rat)) := BQ.int (Bd.i64 (by omega) (by omega)) (by omega)
theorem BQ.inv {n : Nat} {q : Rat} (h : BQ n q) : BQ (1 + n) q⁻¹ := by
  rw [show q⁻¹ = 1 / q by rw [Rat.div_def, Rat.one_mul]]
  exact (BQ.int (n := 1) (z := 1) (by unfold Bd; decide) (by decide)).div h
theorem BQ.sub {n m : Nat} {a b : Rat} (h : BQ n a) (h' : BQ m b) : BQ (n + m + 1) (a - b) := by rw [Rat.sub_eq_add_neg]; exact h.add h'.neg
theorem lwhole {z : Int} (h : -9223372036854775808 ≤ z) (h' : z ≤ 9223372036854775807) : localmass_whole z = some (mkQ (z : Rat)) := by
  unfold localmass_whole
  rw [small_ok h h', Option.bind_some]
  simp only [etaI, etaQ, etaP]
  rw [qwhole (Bd.i64 h h') (by decide), Option.bind_some]
/-- 1 - c p^(-k). -/
def ls (p : Nat) (c : Int) (k : Nat) : Rat := 1 - (c : Rat) * (((p : Int) : Rat) ^ k)⁻¹
theorem ls_bd {p k : Nat} {c : Int} (hp : p ≤ 9973) (hc : -1 ≤ c ∧ c ≤ 1) (hk : k ≤ 64) : BQ 5000 (ls p c k) := by
  have h1 := ((bqn (n := p) (by omega)).pow k).inv
  have h2 := (bqz (z := c) (by omega) (by omega)).mul h1
  exact ((BQ.int (n := 1) (z := 1) (by unfold Bd; decide) (by decide)).sub h2).mono (by omega)
theorem less_ok {n p k : Nat} {a : Rat} {c : Int} (ha : BQ n a) (hn : n ≤ 100000000) (hp0 : 0 < p) (hp : p ≤ 9973) (hc : -1 ≤ c ∧ c ≤ 1) (hk0 : 0 < k) (hk : k ≤ 64) : localmass_less (mkQ a) c (p : Int) (k : Int) = some (mkQ (a * ls p c k)) := by
  have h1 := ((bqn (n := p) (by omega)).pow k).inv
  have hcz := bqz (z := c) (by omega) (by omega)
  have h3 : BQ 1 (1 : Rat) := BQ.int (z := 1) (by unfold Bd; decide) (by decide)
  unfold localmass_less
  simp only [etaI, etaQ, etaP]
  rw [lwhole (by omega) (by omega), Option.bind_some, show IntKind.wrap .i64 (0 - (k : Int)) = -(k : Int) by rw [wi64 (by omega) (by omega)]; omega, qpow_neg (bqn (n := p) (by omega)) (by show (0 : Int) < (p : Int); omega) (by decide) hk hk0, Option.bind_some, lwhole (by decide) (by decide), Option.bind_some, lwhole (by omega) (by omega), Option.bind_some]
  simp only []
  rw [qmul hcz h1 (by omega), Option.bind_some, show ((1 : Int) : Rat) = 1 from rfl, qsub h3 (hcz.mul h1) (by omega), Option.bind_some, qmul ha (h3.sub (hcz.mul h1)) (by omega), Option.bind_some]
  rfl
/-- 2 times the product of 1 - p^(-2 j) over j = 1 .. i. -/
def hd2 (p : Nat) : Nat → Rat
  | 0 => 2
  | i + 1 => hd2 p i * ls p 1 (2 * (i + 1))
def hf (p s : Nat) (c : Int) : Rat := 1 / (hd2 p (s - 1) * ls p c s)
theorem hd2_bd {p : Nat} (hp : p ≤ 9973) : ∀ i, i ≤ 30 → BQ (i * 5000 + 2) (hd2 p i)
  | 0, _ => BQ.int (z := 2) (by unfold Bd; decide) (by decide)
  | i + 1, h => ((hd2_bd hp i (by omega)).mul (ls_bd hp (by decide) (by omega))).mono (by omega)
theorem hf_bd {p s : Nat} {c : Int} (hp : p ≤ 9973) (hs : s ≤ 30) (hc : -1 ≤ c ∧ c ≤ 1) : BQ 200000 (hf p s c) :=
  ((BQ.int (n := 1) (z := 1) (by unfold Bd; decide) (by decide)).div ((hd2_bd hp (s - 1) (by omega)).mul (ls_bd hp hc (by omega)))).mono (by omega)
theorem pow_ge2 {p k : Nat} (hp : 2 ≤ p) (hk : 0 < k) : 2 ≤ p ^ k := by
  obtain ⟨m, rfl⟩ : ∃ m, k = m + 1 := ⟨k - 1, by omega⟩
  rw [Nat.pow_succ]
  have := Nat.mul_le_mul (Nat.pow_pos (n := m) (show 0 < p by omega)) hp
  omega
theorem ls_ne {p k : Nat} {c : Int} (hp : 2 ≤ p) (hk : 0 < k) (hc : -1 ≤ c ∧ c ≤ 1) : ls p c k ≠ 0 := by
  have h2 := pow_ge2 hp hk
  have e : (((p : Int) : Rat) ^ k) = (((p ^ k : Nat) : Int) : Rat) := by rw [Int.natCast_pow, Rat.intCast_pow]
  unfold ls
  rw [e]
  generalize p ^ k = q at h2
  have hq : ((q : Int) : Rat) ≠ 0 := fun h => by have := Rat.intCast_eq_zero_iff.1 h; omega
  have hi := Rat.mul_inv_cancel _ hq
  intro h
  have h3 : (c : Rat) = ((q : Int) : Rat) := by
    generalize ((q : Int) : Rat)⁻¹ = x at hi h
    generalize ((q : Int) : Rat) = y at hi ⊢
    grind
  have := Rat.intCast_inj.1 h3
  omega
theorem hd2_ne {p : Nat} (hp : 2 ≤ p) : ∀ i, hd2 p i ≠ 0
  | 0 => by show (2 : Rat) ≠ 0; decide
  | i + 1 => fun h => (Rat.mul_eq_zero.1 h).elim (hd2_ne hp i) (ls_ne hp (by omega) (by decide))
theorem half_loop {p s : Nat} (hp0 : 0 < p) (hp : p ≤ 9973) (hs : s ≤ 30) (c : Int) (b6 : QV) : ∀ (t i : Nat), s - (i + 1) = t → i + 1 ≤ s →
    iterL (fun x : Int × Int × Int × Int × ((Bool × List Int × Unit) × (Bool × List Int × Unit) × Unit) × ((Bool × List Int × Unit) × (Bool × List Int × Unit) × Unit) × Unit => localmass_half.s0 x.1 x.2.1 x.2.2.1 x.2.2.2.1 x.2.2.2.2.1 x.2.2.2.2.2.1) ((p : Int), (s : Int), c, ((i + 1 : Nat) : Int), b6, mkQ (hd2 p i), ()) = some ((p : Int), (s : Int), c, b6, mkQ (hd2 p (s - 1)), ()) := by
  intro t
  induction t with
  | zero =>
    intro i ht hi
    obtain rfl : s = i + 1 := by omega
    refine iterL_done ?_
    simp only [localmass_half.s0, cite, decide_eq_true_eq, etaI, etaQ, etaP]
    rw [if_neg (by omega)]
    rfl
  | succ t ih =>
    intro i ht hi
    refine (iterL_next ?_).trans (ih (i + 1) (by omega) (by omega))
    have w1 : IntKind.wrap .i64 (2 * ((i + 1 : Nat) : Int)) = ((2 * (i + 1) : Nat) : Int) := by rw [wi64 (by omega) (by omega)]; omega
    simp only [localmass_half.s0, localmass_half.j1, cite, decide_eq_true_eq, etaI, etaQ, etaP]
    rw [if_pos (by omega), w1, less_ok (hd2_bd hp i (by omega)) (by omega) hp0 hp (by decide) (by omega) (by omega), Option.bind_some, up (by omega)]
    rfl
theorem half_ok {p s : Nat} {c : Int} (hp0 : 2 ≤ p) (hp : p ≤ 9973) (hs0 : 1 ≤ s) (hs : s ≤ 30) (hc : -1 ≤ c ∧ c ≤ 1) : localmass_half (p : Int) (s : Int) c = some (mkQ (hf p s c)) := by
  have hl := half_loop (p := p) (s := s) (by omega) hp hs c zQ _ 0 rfl (by omega)
  have hl' : iterL (fun x : Int × Int × Int × Int × ((Bool × List Int × Unit) × (Bool × List Int × Unit) × Unit) × ((Bool × List Int × Unit) × (Bool × List Int × Unit) × Unit) × Unit => localmass_half.s0 x.1 x.2.1 x.2.2.1 x.2.2.2.1 x.2.2.2.2.1 x.2.2.2.2.2.1) ((p : Int), (s : Int), c, 1, ((false, ([], ())), ((false, ([], ())), ())), mkQ ((2 : Int) : Rat), ()) = _ := hl
  have hb := hd2_bd (p := p) hp (s - 1) (by omega)
  have h1 : BQ 1 (1 : Rat) := BQ.int (z := 1) (by unfold Bd; decide) (by decide)
  unfold localmass_half
  simp only [etaI, etaQ, etaP]
  rw [lwhole (by decide) (by decide), Option.bind_some, hl', Option.bind_some]
  simp only [localmass_half.k0, etaI, etaQ, etaP]
  rw [lwhole (by decide) (by decide), Option.bind_some, less_ok hb (by omega) (by omega) hp hc (by omega) (by omega), Option.bind_some, show ((1 : Int) : Rat) = 1 from rfl, qquo h1 (hb.mul (ls_bd hp hc (by omega))) (by omega) (fun h => (Rat.mul_eq_zero.1 h).elim (hd2_ne hp0 _) (ls_ne hp0 (by omega) hc)), Option.bind_some]
  rfl
/-- The diagonal factor of a species that there is. -/
theorem diag_ok {p n : Nat} {c : Int} (hk : localmass_known (p : Int) = some true) (hp0 : 2 ≤ p) (hp : p ≤ 9973) (h1 : 1 ≤ n) (h9 : n ≤ 9) (hc : n % 2 = 1 ∧ c = 0 ∨ n % 2 = 0 ∧ (c = 1 ∨ c = -1)) :
    localmass_Diagonal (p : Int) ((n : Int), c, ()) = some (mkQ (hf p ((n + 1) / 2) c), 0, ()) := by
  have e2 : Int.tmod (n : Int) 2 = ((n % 2 : Nat) : Int) := (Int.ofNat_tmod n 2).symm
  have e3 : IntKind.wrap .i64 (Int.tdiv (IntKind.wrap .i64 ((n : Int) + 1)) 2) = (((n + 1) / 2 : Nat) : Int) := by
    rw [up (by omega), show Int.tdiv ((n + 1 : Nat) : Int) 2 = (((n + 1) / 2 : Nat) : Int) from (Int.ofNat_tdiv _ 2).symm, wi64 (by omega) (by omega)]
  have hh := half_ok (p := p) (s := (n + 1) / 2) (c := c) hp0 hp (by omega) (by omega) (by omega)
  unfold localmass_Diagonal
  rw [hk, Option.bind_some]
  simp only [localmass_Diagonal.j1, localmass_Diagonal.j2, localmass_Diagonal.j3, localmass_Diagonal.j4, Bool.not_true, cite, decide_eq_true_eq, beq_iff_eq, bne_iff_ne, e2, e3, etaI, etaQ, etaP]
  rw [if_neg (by decide), if_neg (by omega), if_neg (by omega), if_neg (show ¬ (n : Int) = 0 by omega), hh, Option.bind_some]
  rcases hc with ⟨ho, rfl⟩ | ⟨ho, hc⟩
  · rw [if_pos (by omega), if_neg (by decide), if_neg (by omega), if_neg (by omega)]
  · rw [if_neg (by omega), if_pos (by omega)]
    rcases hc with rfl | rfl
    · rw [if_neg (by decide), if_neg (by omega)]
    · rw [if_pos (by decide), if_neg (by decide), if_neg (by omega)]
end Go.Proofs.YtgbndganadelpaaGreatDoor.V
/- Laws of the reference's rational numbers, on `mkQ q`. -/
namespace Go.Proofs.YtgbndganadelpaaGreatDoor.V
open Go Go.Proofs.YtgbndganadelpaaGreatDoor.E Go.Proofs.YtgbndganadelpaaGreatDoor.LI
set_option linter.unusedVariables false
set_option linter.unusedSimpArgs false
section
variable {n : Nat}
theorem rnew_pos {a b : Int} (ha : Bd n a) (hb : Bd n b) (hn : n ≤ 1000000000) (h0 : 0 < b) (u v : List Int) : r02_New.j2 (mkI a).1 (mkI a).2.1 (mkI b).1 (mkI b).2.1 u v = some (mkQ (Rat.divInt a b), true, ()) := by
  have hg : Bd n ((Int.gcd a b : Nat) : Int) := by
    have := Int.gcd_le_natAbs_right a (show b ≠ 0 by omega)
    unfold Bd at *
    rw [Int.natAbs_natCast]
    omega
  have hg0 : ((Int.gcd a b : Nat) : Int) ≠ 0 := by
    have := Int.gcd_pos_of_ne_zero_right a (show b ≠ 0 by omega)
    omega
  unfold r02_New.j2
  simp only [etaI]
  rw [rgcdI ha hb hn, Option.bind_some, rquoI ha hg hn hg0, Option.bind_some, rquoI hb hg hn hg0, Option.bind_some]
  have e1 : (Rat.divInt a b).num = a / ((Int.gcd a b : Nat) : Int) := by rw [Rat.num_divInt, Int.sign_eq_one_of_pos h0, Int.one_mul, Int.gcd_comm]
  have e2 : (((Rat.divInt a b).den : Nat) : Int) = b / ((Int.gcd a b : Nat) : Int) := by
    rw [Rat.den_divInt, if_neg (by omega), Int.gcd_comm, Int.natCast_ediv]
    congr 1
    omega
  unfold mkQ
  rw [e1, e2]
theorem rnew {a b : Int} (ha : Bd n a) (hb : Bd n b) (hn : n ≤ 1000000000) (h0 : b ≠ 0) : r02_New (mkI a) (mkI b) = some (mkQ (Rat.divInt a b), true, ()) := by
  unfold r02_New
  simp only [etaI]
  rw [rsignI hb hn, Option.bind_some]
  simp only [r02_New.j1, cite, beq_iff_eq, decide_eq_true_eq, etaI]
  rw [if_neg (by rw [if_neg h0]; split <;> decide), rsignI hb hn, Option.bind_some]
  by_cases hneg : b < 0
  · rw [if_pos (by rw [if_neg h0, if_pos hneg]; decide), rnegI ha hn, Option.bind_some, rnegI hb hn, Option.bind_some, rnew_pos ha.neg hb.neg hn (by omega), Rat.neg_divInt_neg]
  · rw [if_neg (by rw [if_neg h0, if_neg hneg]; decide), rnew_pos ha hb hn (by omega)]
theorem rwhole {a : Int} (ha : Bd n a) (hn : n ≤ 1000000000) : r02_Whole (mkI a) = some (mkQ (a : Rat)) := by
  unfold r02_Whole
  simp only [etaI]
  rw [rnormI ha hn, Option.bind_some, rsmall_ok (by decide) (by decide), Option.bind_some]
  rfl
theorem rsmallQ {a : Int} (h : -9223372036854775808 ≤ a) (h' : a ≤ 9223372036854775807) : r02_Small a = some (mkQ (a : Rat)) := by
  unfold r02_Small
  rw [rsmall_ok h h', Option.bind_some]
  simp only [etaI, etaQ]
  rw [rwhole (Bd.i64 h h') (by decide), Option.bind_some]
theorem rnormalize {q : Rat} (h : BQ n q) (hn : n ≤ 1000000000) : r02_Normalize (mkQ q) = some (mkQ q) := by
  have hp := den_pos q
  unfold r02_Normalize
  simp only [etaI, etaQ, mkQ_1, mkQ_2]
  rw [rnew h.1 h.den hn (by omega), Option.bind_some, Rat.num_divInt_den]
  rfl
theorem rnegQ {q : Rat} (h : BQ n q) (hn : n ≤ 1000000000) : r02_Neg (mkQ q) = some (mkQ (-q)) := by
  unfold r02_Neg
  simp only [etaI, etaQ]
  rw [rnormalize h hn, Option.bind_some]
  simp only [mkQ_1, mkQ_2]
  rw [rnegI h.1 hn, Option.bind_some]
  rfl
theorem raddQ {m : Nat} {a b : Rat} (h : BQ n a) (h' : BQ m b) (hn : n + m + 1 ≤ 1000000000) : r02_Add (mkQ a) (mkQ b) = some (mkQ (a + b)) := by
  have hp := den_pos a
  have hp' := den_pos b
  unfold r02_Add
  simp only [etaI, etaQ]
  rw [rnormalize h (by omega), Option.bind_some, rnormalize h' (by omega), Option.bind_some]
  simp only [mkQ_1, mkQ_2]
  rw [rmulI (n := n + m) (h.1.mono (by omega)) (h'.den.mono (by omega)) (by omega), Option.bind_some, rmulI (n := n + m) (h'.1.mono (by omega)) (h.den.mono (by omega)) (by omega), Option.bind_some, raddI (n := n + m) (h.1.mul h'.den) ((h'.1.mul h.den).mono (by omega)) (by omega), Option.bind_some, rmulI (n := n + m) (h.den.mono (by omega)) (h'.den.mono (by omega)) (by omega), Option.bind_some, rnew (n := n + m + 1) (Bd.add (h.1.mul h'.den) ((h'.1.mul h.den).mono (by omega))) ((h.den.mul h'.den).mono (by omega)) (by omega) (Int.mul_ne_zero (by omega) (by omega)), Option.bind_some, ← add_divInt]
theorem rsubQ {m : Nat} {a b : Rat} (h : BQ n a) (h' : BQ m b) (hn : n + m + 1 ≤ 1000000000) : r02_Sub (mkQ a) (mkQ b) = some (mkQ (a - b)) := by
  unfold r02_Sub
  simp only [etaI, etaQ]
  rw [rnegQ h' (by omega), Option.bind_some, raddQ h h'.neg hn, Option.bind_some, Rat.sub_eq_add_neg]
theorem rmulQ {m : Nat} {a b : Rat} (h : BQ n a) (h' : BQ m b) (hn : n + m ≤ 1000000000) : r02_Mul (mkQ a) (mkQ b) = some (mkQ (a * b)) := by
  have hp := den_pos a
  have hp' := den_pos b
  unfold r02_Mul
  simp only [etaI, etaQ]
  rw [rnormalize h (by omega), Option.bind_some, rnormalize h' (by omega), Option.bind_some]
  simp only [mkQ_1, mkQ_2]
  rw [rmulI (n := n + m) (h.1.mono (by omega)) (h'.1.mono (by omega)) (by omega), Option.bind_some, rmulI (n := n + m) (h.den.mono (by omega)) (h'.den.mono (by omega)) (by omega), Option.bind_some, rnew (n := n + m) (h.1.mul h'.1) (h.den.mul h'.den) (by omega) (Int.mul_ne_zero (by omega) (by omega)), Option.bind_some, ← mul_divInt]
theorem rquoQ {m : Nat} {a b : Rat} (h : BQ n a) (h' : BQ m b) (hn : n + m ≤ 1000000000) (h0 : b ≠ 0) : r02_Quo (mkQ a) (mkQ b) = some (mkQ (a / b), true, ()) := by
  have hp := den_pos a
  have hp' := den_pos b
  unfold r02_Quo
  simp only [etaI, etaQ]
  rw [rnormalize h (by omega), Option.bind_some, rnormalize h' (by omega), Option.bind_some]
  simp only [mkQ_1, mkQ_2]
  rw [rmulI (n := n + m) (h.1.mono (by omega)) (h'.den.mono (by omega)) (by omega), Option.bind_some, rmulI (n := n + m) (h.den.mono (by omega)) (h'.1.mono (by omega)) (by omega), Option.bind_some, rnew (n := n + m) (h.1.mul h'.den) (h.den.mul h'.1) (by omega) (Int.mul_ne_zero (by omega) (num_ne h0)), Option.bind_some, ← div_divInt]
theorem rsameQ {a b : Rat} (h : BQ n a) (hn : n ≤ 1000000000) : r02_Same (mkQ a) (mkQ b) = some (decide (a = b)) := by
  unfold r02_Same
  simp only [etaI, mkQ_1, mkQ_2]
  rw [rsameI h.1 hn, Option.bind_some]
  simp only [cite, decide_eq_true_eq]
  by_cases h1 : a.num = b.num
  · rw [if_pos h1, rsameI h.den hn, Option.bind_some]
    congr 1
    rw [decide_eq_decide]
    exact ⟨fun h2 => Rat.ext h1 (by omega), fun h2 => by rw [h2]⟩
  · rw [if_neg h1]
    congr 1
    symm
    exact decide_eq_false (fun h => h1 (by rw [h]))
theorem zsame : r02_Same zQ zQ = some true := by
  have h := rsameI (n := 1) (a := 0) (b := 0) (by unfold Bd; decide) (by decide)
  have h' : r01_Same (false, ([], ())) (false, ([], ())) = some true := h
  unfold r02_Same zQ
  simp only [etaI]
  rw [h', Option.bind_some, cond_true, Option.bind_some]
theorem rpowQ_neg {k : Nat} {q : Rat} (h : BQ n q) (h0 : q ≠ 0) (hn : n ≤ 5000) (hk : k ≤ 64) (hk0 : 0 < k) : r02_Pow (mkQ q) (-(k : Int)) = some (mkQ ((1 / q) ^ k), true, ()) := by
  have hb1 : BQ 1 (1 : Rat) := BQ.int (z := 1) (by unfold Bd; decide) (by decide)
  have hd : BQ (1 + n) (1 / q) := hb1.div h
  have hw : IntKind.wrap .i64 (0 - -(k : Int)) = (k : Int) := by rw [wi64 (by omega) (by omega)]; omega
  unfold r02_Pow
  simp only [r02_Pow.j1, r02_Pow.j2, r02_Pow.j3, cite, decide_eq_true_eq, etaI, etaQ]
  rw [if_neg (by omega), if_neg (by omega), rnormalize h (by omega), Option.bind_some, if_pos (by omega), rsmallQ (by decide) (by decide), Option.bind_some, show ((1 : Int) : Rat) = 1 from rfl, rquoQ hb1 h (by omega) h0, Option.bind_some]
  simp only [Bool.not_true, Bool.false_eq_true, if_false, mkQ_1, mkQ_2]
  rw [hw, rpowI hd.1 (by omega) hk, Option.bind_some, rpowI hd.den (by omega) hk, Option.bind_some]
  have e1 : ((1 / q) ^ k).num = (1 / q).num ^ k := Rat.num_pow _ k
  have e2 : ((((1 / q) ^ k).den : Nat) : Int) = ((1 / q).den : Int) ^ k := by rw [Rat.den_pow, Int.natCast_pow]
  unfold mkQ
  rw [e1, e2]
end
end Go.Proofs.YtgbndganadelpaaGreatDoor.V
/- Laws of the reference's diagonal factors (quadformref32). -/
namespace Go.Proofs.YtgbndganadelpaaGreatDoor.V
open Go Go.Proofs.YtgbndganadelpaaGreatDoor.E Go.Proofs.YtgbndganadelpaaGreatDoor.LI Go.Proofs.YtgbndganadelpaaGreatDoor.Num
set_option linter.unusedVariables false
set_option linter.unusedSimpArgs false
theorem one_div_mul (x y : Rat) : 1 / (x * y) = 1 / x / y := by
  rw [Rat.div_def, Rat.div_def, Rat.div_def, Rat.inv_mul_rev, Rat.one_mul, Rat.one_mul, Rat.mul_comm]
theorem inv_pow (q : Rat) : ∀ k : Nat, (1 / q) ^ k = (q ^ k)⁻¹
  | 0 => by rw [Rat.pow_zero, Rat.pow_zero]; decide +kernel
  | k + 1 => by
    rw [Rat.pow_succ, Rat.pow_succ, inv_pow q k, Rat.inv_mul_rev, Rat.div_def, Rat.one_mul, Rat.mul_comm]
theorem q1 : BQ 1 (1 : Rat) := BQ.int (z := 1) (by unfold Bd; decide) (by decide)
theorem p_ne {p : Nat} (hp : 0 < p) : ((p : Int) : Rat) ≠ 0 := fun h => by have := Rat.intCast_eq_zero_iff.1 h; omega
theorem rpower_neg {p k : Nat} (hp0 : 0 < p) (hp : p ≤ 9973) (hk0 : 0 < k) (hk : k ≤ 64) : r32_power (p : Int) (-(k : Int)) = some (mkQ (((p : Int) : Rat) ^ k)⁻¹) := by
  unfold r32_power
  simp only [etaI, etaQ, etaP]
  rw [rsmallQ (by omega) (by omega), Option.bind_some, rpowQ_neg (bqn (n := p) (by omega)) (p_ne hp0) (by decide) hk hk0, Option.bind_some, inv_pow]
theorem rdiv_ok {n m : Nat} {a b : Rat} (h : BQ n a) (h' : BQ m b) (hn : n + m ≤ 1000000000) (h0 : b ≠ 0) : r31_Div (mkQ a) (mkQ b) = some (mkQ (a / b)) := by
  unfold r31_Div
  simp only [etaI, etaQ, etaP]
  rw [rquoQ h h' hn h0, Option.bind_some]
theorem rratio_ok {a b : Int} (h1 : -1000000 ≤ a) (h2 : a ≤ 1000000) (h3 : 0 < b) (h4 : b ≤ 1000000) : r31_Ratio a b = some (mkQ (Rat.divInt a b)) ∧ BQ 64 (Rat.divInt a b) := by
  have b1 := Bd.i64 (z := a) (by omega) (by omega)
  have b2 := Bd.i64 (z := b) (by omega) (by omega)
  refine ⟨?_, BQ.divInt b1 b2 (by decide)⟩
  unfold r31_Ratio
  rw [rsmall_ok (by omega) (by omega), Option.bind_some, rsmall_ok (by omega) (by omega), Option.bind_some, rnew b1 b2 (by decide) (by omega), Option.bind_some]
theorem gr_bd {p : Nat} (hp : p ≤ 9973) {i : Nat} (hi : i ≤ 30) : BQ (i * 5000 + 3) (1 / hd2 p i) := (q1.div (hd2_bd hp i hi)).mono (by omega)
theorem lsone {p k : Nat} : ls p 1 k = 1 - (((p : Int) : Rat) ^ k)⁻¹ := by
  unfold ls
  rw [show ((1 : Int) : Rat) = 1 from rfl, Rat.one_mul]
theorem group_loop {p s : Nat} (hp0 : 2 ≤ p) (hp : p ≤ 9973) (hs : s ≤ 30) (b4 : QV) : ∀ (t i : Nat), s - (i + 1) = t → i + 1 ≤ s →
    iterL (fun x : Int × Int × Int × ((Bool × List Int × Unit) × (Bool × List Int × Unit) × Unit) × ((Bool × List Int × Unit) × (Bool × List Int × Unit) × Unit) × Unit => r32_group.s0 x.1 x.2.1 x.2.2.1 x.2.2.2.1 x.2.2.2.2.1) ((p : Int), (s : Int), ((i + 1 : Nat) : Int), b4, mkQ (1 / hd2 p i), ()) = some (b4, mkQ (1 / hd2 p (s - 1)), ()) := by
  intro t
  induction t with
  | zero =>
    intro i ht hi
    obtain rfl : s = i + 1 := by omega
    refine iterL_done ?_
    simp only [r32_group.s0, cite, decide_eq_true_eq, etaI, etaQ, etaP]
    rw [if_neg (by omega)]
    rfl
  | succ t ih =>
    intro i ht hi
    refine (iterL_next ?_).trans (ih (i + 1) (by omega) (by omega))
    have w1 : IntKind.wrap .i64 (-2 * ((i + 1 : Nat) : Int)) = -((2 * (i + 1) : Nat) : Int) := by rw [wi64 (by omega) (by omega)]; omega
    have hb := (bqn (n := p) (by omega)).pow (2 * (i + 1))
    have hne := ls_ne (p := p) (k := 2 * (i + 1)) (c := 1) hp0 (by omega) (by decide)
    rw [lsone] at hne
    simp only [r32_group.s0, r32_group.j1, cite, decide_eq_true_eq, etaI, etaQ, etaP]
    rw [if_pos (by omega), rsmallQ (by decide) (by decide), Option.bind_some, w1, rpower_neg (by omega) hp (by omega) (by omega), Option.bind_some, show ((1 : Int) : Rat) = 1 from rfl, rsubQ q1 hb.inv (by omega), Option.bind_some, rdiv_ok (gr_bd hp (i := i) (by omega)) (q1.sub hb.inv) (by omega) hne, Option.bind_some, up (by omega), ← lsone, ← one_div_mul]
    rfl
theorem group_ok {p s : Nat} (hp0 : 2 ≤ p) (hp : p ≤ 9973) (hs0 : 1 ≤ s) (hs : s ≤ 30) : r32_group (p : Int) (s : Int) = some (mkQ (1 / hd2 p (s - 1))) := by
  have hl := group_loop (p := p) (s := s) hp0 hp hs zQ _ 0 rfl (by omega)
  have h12 : Rat.divInt 1 2 = 1 / hd2 p 0 := by show Rat.divInt 1 2 = 1 / 2; decide +kernel
  unfold r32_group
  rw [(rratio_ok (by decide) (by decide) (by decide) (by decide)).1, Option.bind_some, h12]
  simp only [etaI, etaQ, etaP]
  have hl' : iterL (fun x : Int × Int × Int × ((Bool × List Int × Unit) × (Bool × List Int × Unit) × Unit) × ((Bool × List Int × Unit) × (Bool × List Int × Unit) × Unit) × Unit => r32_group.s0 x.1 x.2.1 x.2.2.1 x.2.2.2.1 x.2.2.2.2.1) ((p : Int), (s : Int), 1, ((false, ([], ())), ((false, ([], ())), ())), mkQ (1 / hd2 p 0), ()) = _ := hl
  rw [hl', Option.bind_some]
  rfl
theorem signed_okR {n p s : Nat} {a : Rat} {c : Int} (ha : BQ n a) (hn : n ≤ 100000000) (hp0 : 2 ≤ p) (hp : p ≤ 9973) (hc : -1 ≤ c ∧ c ≤ 1) (hs0 : 1 ≤ s) (hs : s ≤ 30) : r32_signed (mkQ a) (p : Int) c (s : Int) = some (mkQ (a / ls p c s)) := by
  have h1 := ((bqn (n := p) (by omega)).pow s).inv
  have hcz := bqz (z := c) (by omega) (by omega)
  have hne := ls_ne (p := p) (k := s) (c := c) hp0 hs0 hc
  unfold r32_signed
  simp only [etaI, etaQ, etaP]
  rw [rsmallQ (by decide) (by decide), Option.bind_some, rsmallQ (by omega) (by omega), Option.bind_some, show IntKind.wrap .i64 (0 - (s : Int)) = -(s : Int) by rw [wi64 (by omega) (by omega)]; omega, rpower_neg (by omega) hp hs0 (by omega), Option.bind_some, rmulQ hcz h1 (by omega), Option.bind_some, show ((1 : Int) : Rat) = 1 from rfl, rsubQ q1 (hcz.mul h1) (by omega), Option.bind_some, rdiv_ok ha (q1.sub (hcz.mul h1)) (by omega) hne, Option.bind_some]
  rfl
theorem hf_signed (p s : Nat) (c : Int) : 1 / hd2 p (s - 1) / ls p c s = hf p s c := by
  unfold hf
  rw [one_div_mul]
theorem hf_zero (p s : Nat) : 1 / hd2 p (s - 1) = hf p s 0 := by
  have : ls p 0 s = 1 := by unfold ls; rw [show ((0 : Int) : Rat) = 0 from rfl, Rat.zero_mul]; decide +kernel
  unfold hf
  rw [this, Rat.mul_one]
end Go.Proofs.YtgbndganadelpaaGreatDoor.V
/- What a run with fuel gives, the function without fuel gives. -/
namespace Go.Proofs.YtgbndganadelpaaGreatDoor.E
open Go
set_option linter.unusedVariables false
def Le {α : Type} (a b : Option α) : Prop := ∀ y, a = some y → b = some y
theorem Le.refl {α : Type} (a : Option α) : Le a a := fun _ h => h
theorem Le.cond {α : Type} {c : Bool} {a a' b b' : Option α} (h : Le a a') (h' : Le b b') : Le (cond c a b) (cond c a' b') := by
  cases c
  · exact h'
  · exact h
theorem Le.bind {α β : Type} {a a' : Option α} {f f' : α → Option β} (h : Le a a') (h' : ∀ y, Le (f y) (f' y)) : Le (a.bind f) (a'.bind f') := by
  intro y hy
  obtain ⟨x, h1, h2⟩ := Option.bind_eq_some_iff.1 hy
  rw [h x h1, Option.bind_some]
  exact h' x y h2
theorem Le.iter {α β : Type} {f f' : α → Option (α ⊕ β)} (h : ∀ x, Le (f x) (f' x)) : ∀ (n : Nat) (x : α), Le (iterN f n x) (iterL f' x)
  | 0, x => fun y hy => by cases hy
  | n + 1, x => fun y hy => by
    simp only [iterN] at hy
    split at hy
    · cases hy
    · rename_i x' hx
      rw [iterL_next (h x _ hx)]
      exact Le.iter h n x' y hy
    · rename_i b hx
      cases hy
      exact iterL_done (h x _ hx)
theorem Le.sum {α β γ : Type} {f f' : α → Option γ} {g g' : β → Option γ} (h : ∀ y, Le (f y) (f' y)) (h' : ∀ z, Le (g z) (g' z)) (s : α ⊕ β) : Le (Sum.casesOn s f g) (Sum.casesOn (motive := fun _ => Option γ) s f' g') := by
  cases s with
  | inl y => exact h y
  | inr z => exact h' z
/-- A run with fuel, in the order of the function without. -/
abbrev iterC (n : Nat) {α β : Type} (f : α → Option (α ⊕ β)) (x : α) : Option β := iterN f n x
end Go.Proofs.YtgbndganadelpaaGreatDoor.E
