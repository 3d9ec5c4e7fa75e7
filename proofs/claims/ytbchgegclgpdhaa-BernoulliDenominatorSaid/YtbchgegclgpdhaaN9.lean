/- Laws: products. -/
import Derived.Test.YtbchgegclgpdhaaN6
namespace Go.Proofs.Ytbchgegclgpdhaa.V
open Go Go.Proofs.Ytbchgegclgpdhaa.E Go.Proofs.Ytbchgegclgpdhaa.LI
set_option linter.unusedVariables false
set_option linter.unusedSimpArgs false

theorem lv_put (l : List Int) {i : Nat} (hi : i < l.length) (x : Nat) : lv (l.set i (x : Int)) + 4294967296 ^ i * dg l i = lv l + 4294967296 ^ i * x := by
  rw [lv_split (l.set i (x : Int)) i (by simp; omega), lv_split l i (by omega), drop_set l i _ hi, lv_cons, drop_dg hi, List.take_set_of_le (by omega)]
  rw [Nat.mul_add, Nat.mul_add]
  omega
theorem dg_put_ne (l : List Int) {i k : Nat} (h : i ≠ k) (x : Int) : dg (l.set i x) k = dg l k := by
  unfold dg
  rw [List.getD_eq_getElem?_getD, List.getD_eq_getElem?_getD, List.getElem?_set_ne h]
theorem mul_le {a b : Nat} (ha : a < 4294967296) (hb : b < 4294967296) : a * b ≤ 18446744065119617025 := by
  have := Nat.mul_le_mul (show a ≤ 4294967295 by omega) (show b ≤ 4294967295 by omega)
  omega
theorem times_inner {m n : List Int} (hm : Lim m) (hn : Lim n) {i : Nat} (hi : i < m.length) (hb : m.length + n.length < 17592186044416) : ∀ (t j : Nat) (a : List Int) (c A0 : Nat), n.length - j = t → j ≤ n.length → a.length = m.length + n.length → Lim a → c < 4294967296 →
    dg a (i + n.length) = 0 → lv a + 4294967296 ^ (i + j) * c = A0 + 4294967296 ^ i * (dg m i * lv (n.take j)) →
    ∃ (a' : List Int) (c' : Nat), iterL (fun x : List Int × List Int × Int × Int × Int × Int × Int × Int × List Int × Unit => integer_times.s0 x.1 x.2.1 x.2.2.1 x.2.2.2.1 x.2.2.2.2.1 x.2.2.2.2.2.1 x.2.2.2.2.2.2.1 x.2.2.2.2.2.2.2.1 x.2.2.2.2.2.2.2.2.1) (m, n, (i : Int), (c : Int), (m.length : Int), (i : Int), (n.length : Int), (j : Int), a, ()) = some (m, n, (i : Int), (c' : Int), (m.length : Int), (i : Int), a', ()) ∧
      a'.length = m.length + n.length ∧ Lim a' ∧ c' < 4294967296 ∧ dg a' (i + n.length) = 0 ∧ lv a' + 4294967296 ^ (i + n.length) * c' = A0 + 4294967296 ^ i * (dg m i * lv n) := by
  intro t
  induction t with
  | zero =>
    intro j a c A0 ht hj hl ha hc hd he
    obtain rfl : j = n.length := by omega
    refine ⟨a, c, iterL_done ?_, hl, ha, hc, hd, by rw [he, List.take_length]⟩
    simp only [integer_times.s0, cite, decide_eq_true_eq]
    rw [if_neg (by omega)]
  | succ t ih =>
    intro j a c A0 ht hj hl ha hc hd he
    have h1 := dg_lt hm i
    have h2 := dg_lt hn j
    have h3 := dg_lt ha (i + j)
    have hp := mul_le h1 h2
    have hv := lv_put a (i := i + j) (by omega) ((c + (dg m i * dg n j + dg a (i + j))) % 4294967296)
    obtain ⟨a', c', g1, g2⟩ := ih (j + 1) (a.set (i + j) (((c + (dg m i * dg n j + dg a (i + j))) % 4294967296 : Nat) : Int)) ((c + (dg m i * dg n j + dg a (i + j))) / 4294967296) A0 (by omega) (by omega) (by simpa using hl) (ha.set _ (by omega)) (by omega)
      (by rw [dg_put_ne _ (by omega)]; exact hd) (by
        rw [lv_take_succ, show i + (j + 1) = (i + j) + 1 from rfl, Nat.pow_succ]
        have e1 : 4294967296 ^ (i + j) * (c + (dg m i * dg n j + dg a (i + j))) = 4294967296 ^ (i + j) * ((c + (dg m i * dg n j + dg a (i + j))) % 4294967296) + 4294967296 ^ (i + j) * 4294967296 * ((c + (dg m i * dg n j + dg a (i + j))) / 4294967296) := by
          rw [Nat.mul_assoc, ← Nat.mul_add, Nat.mod_add_div]
        have e2 : 4294967296 ^ i * (dg m i * (lv (n.take j) + 4294967296 ^ j * dg n j)) = 4294967296 ^ i * (dg m i * lv (n.take j)) + 4294967296 ^ (i + j) * (dg m i * dg n j) := by
          rw [Nat.mul_add, Nat.mul_add, Nat.pow_add, Nat.mul_left_comm (dg m i), ← Nat.mul_assoc (4294967296 ^ i) (4294967296 ^ j)]
        rw [e2]
        rw [Nat.mul_add, Nat.mul_add] at e1
        omega)
    refine ⟨a', c', (iterL_next ?_).trans g1, g2⟩
    simp only [integer_times.s0, integer_times.j2, cite, decide_eq_true_eq, inB_t]
    have w1 : IntKind.wrap .i64 ((i : Int) + (j : Int)) = ((i + j : Nat) : Int) := by rw [wi64 (by omega) (by omega)]; rfl
    have w2 : IntKind.wrap .u64 (IntKind.wrap .u64 ((dg m i : Int) * (dg n j : Int)) + IntKind.wrap .u64 (dg a (i + j) : Int)) = ((dg m i * dg n j + dg a (i + j) : Nat) : Int) := by
      rw [← Int.natCast_mul, wu64' (x := ((dg m i * dg n j : Nat) : Int)) (by omega) (by omega), wu64' (x := (dg a (i + j) : Int)) (by omega) (by omega), wu64' (by omega) (by omega)]
      rfl
    have w3 : IntKind.wrap .u64 ((c : Int) + ((dg m i * dg n j + dg a (i + j) : Nat) : Int)) = ((c + (dg m i * dg n j + dg a (i + j)) : Nat) : Int) := by
      rw [wu64' (by omega) (by omega)]; rfl
    rw [if_pos (by omega), if_pos (by omega), if_pos (by omega), w1, if_pos (by omega), if_pos (by omega)]
    simp only [Int.toNat_natCast, Nat.zero_add]
    rw [gd hm, gd hn, gd ha, wu64' (x := (dg m i : Int)) (by omega) (by omega), wu64' (x := (dg n j : Int)) (by omega) (by omega), w2, w3, hi_word, up (by omega), wu32, Int.natCast_emod]
    rfl
theorem times_outer {m n : List Int} (hm : Lim m) (hn : Lim n) (hb : m.length + n.length < 17592186044416) : ∀ (t i : Nat) (a : List Int), m.length - i = t → i ≤ m.length → a.length = m.length + n.length → Lim a → lv a = lv (m.take i) * lv n →
    ∃ a' : List Int, iterL (fun x : List Int × List Int × Int × Int × List Int × Unit => integer_times.s1 x.1 x.2.1 x.2.2.1 x.2.2.2.1 x.2.2.2.2.1) (m, n, (m.length : Int), (i : Int), a, ()) = some (a', ()) ∧ a'.length = m.length + n.length ∧ Lim a' ∧ lv a' = lv m * lv n := by
  intro t
  induction t with
  | zero =>
    intro i a ht hi hl ha he
    obtain rfl : i = m.length := by omega
    refine ⟨a, iterL_done ?_, hl, ha, by rw [he, List.take_length]⟩
    simp only [integer_times.s1, cite, decide_eq_true_eq]
    rw [if_neg (by omega)]
  | succ t ih =>
    intro i a ht hi hl ha he
    have hd : dg a (i + n.length) = 0 := by
      have b1 := lv_lt (hm.take i)
      have b2 := lv_lt hn
      rw [List.length_take, Nat.min_eq_left hi] at b1
      have : lv a < 4294967296 ^ (i + n.length) := by
        rw [he, Nat.pow_add]
        exact Nat.lt_of_le_of_lt (Nat.mul_le_mul_right _ (Nat.le_of_lt b1)) (Nat.mul_lt_mul_of_pos_left b2 (Nat.pow_pos (by omega)))
      rw [dg_lv ha, Nat.div_eq_of_lt this]
    obtain ⟨a1, c1, g1, g2, g3, g4, g5, g6⟩ := times_inner hm hn (i := i) (by omega) hb _ 0 a 0 (lv a) rfl (by omega) hl ha (by omega) hd (by simp [lv])
    have hv := lv_put a1 (i := i + n.length) (by omega) c1
    rw [g5, Nat.mul_zero, Nat.add_zero, g6, he] at hv
    obtain ⟨a', q1, q2⟩ := ih (i + 1) (a1.set (i + n.length) (c1 : Int)) (by omega) (by omega) (by simpa using g2) (g3.set _ (by omega)) (by
      rw [hv, lv_take_succ, Nat.add_mul, Nat.mul_assoc])
    refine ⟨a', (iterL_next ?_).trans q1, q2⟩
    simp only [integer_times.s1, integer_times.j1, cite, decide_eq_true_eq]
    rw [show ((0 : Nat) : Int) = 0 from rfl] at g1
    rw [if_pos (by omega), g1, Option.bind_some]
    simp only [integer_times.k0, cite, inB_t]
    have w1 : IntKind.wrap .i64 ((i : Int) + ((n.length : Nat) : Int)) = ((i + n.length : Nat) : Int) := by rw [wi64 (by omega) (by omega)]; rfl
    rw [w1, if_pos (by omega), Int.toNat_natCast, Nat.zero_add, up (by omega), wu32' (by omega) (by omega)]
theorem times_ok {m n : List Int} (hm : Lim m) (hn : Lim n) (hb : m.length + n.length ≤ 1073741824) : integer_times m n = some (limbs (lv m * lv n)) := by
  obtain ⟨a', g1, g2, g3, g4⟩ := times_outer hm hn (by omega) _ 0 (List.replicate (m.length + n.length) 0) rfl (by omega) (by simp) (Lim.replicate _) (by rw [lv_zeros]; simp [lv])
  have w1 : IntKind.wrap .i64 ((m.length : Int) + (n.length : Int)) = ((m.length + n.length : Nat) : Int) := by rw [wi64 (by omega) (by omega)]; rfl
  unfold integer_times
  simp only [w1, cite, inC_t, maxL_eq]
  rw [show ((0 : Nat) : Int) = 0 from rfl] at g1
  rw [if_pos (by omega), Int.toNat_natCast, g1, Option.bind_some]
  simp only [integer_times.k1]
  rw [trim_ok g3 (by omega), Option.bind_some, g4]
theorem mul_ok {l l' : List Int} (s s' : Bool) (u u' : Unit) (h : Lim l) (h' : Lim l') (hb : l.length + l'.length ≤ 1073741824) : integer_Mul (s, l, u) (s', l', u') = some (mkI (iv s l * iv s' l')) := by
  have hx := len_lv h
  have hy := len_lv h'
  unfold integer_Mul
  rw [magnitude_ok s () h (by omega), Option.bind_some, magnitude_ok s' () h' (by omega), Option.bind_some, times_ok (lim_limbs _) (lim_limbs _) (by omega), Option.bind_some, lv_limbs, lv_limbs]
  have hlen : (limbs (lv l * lv l')).length ≤ l.length + l'.length := limbs_len.2 (by
    rw [Nat.pow_add]
    have b1 := lv_lt h
    have b2 := lv_lt h'
    exact Nat.lt_of_le_of_lt (Nat.mul_le_mul_right _ (Nat.le_of_lt b1)) (Nat.mul_lt_mul_of_pos_left b2 (Nat.pow_pos (by omega))))
  rw [signed_ok _ (lim_limbs _) (by omega), Option.bind_some]
  have : iv (!(s == s')) (limbs (lv l * lv l')) = iv s l * iv s' l' := by
    cases s <;> cases s' <;> simp [iv, lv_limbs, Int.natCast_mul, Int.mul_neg, Int.neg_mul]
  rw [this]
theorem mulI (a b : Int) (h : (limbs a.natAbs).length + (limbs b.natAbs).length ≤ 1073741824) : integer_Mul (mkI a) (mkI b) = some (mkI (a * b)) := by
  have := mul_ok (mkI a).1 (mkI b).1 () () (lim_mkI a) (lim_mkI b) h
  rwa [iv_mkI, iv_mkI] at this
end Go.Proofs.Ytbchgegclgpdhaa.V
