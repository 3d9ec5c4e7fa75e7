/- Laws of powers, and of the reference's rational numbers. -/
import Derived.Test.YtbchgegclgpdhaaYBernoulliParity13
namespace Go.Proofs.Ytbchgegclgpdhaa.V
open Go Go.Proofs.Ytbchgegclgpdhaa.E Go.Proofs.Ytbchgegclgpdhaa.LI
set_option linter.unusedVariables false
set_option linter.unusedSimpArgs false
theorem pow_loop (B : Nat) (hB : (limbs B).length ≤ 100000) (b4 : Bool × List Int × Unit) : ∀ (N e r c : Nat), e < N → e ≤ 64 → r * c ^ e = B → 0 < r → 0 < c →
    iterL (fun x : Int × (Bool × List Int × Unit) × (Bool × List Int × Unit) × (Bool × List Int × Unit) × Unit => integer_Pow.s0 x.1 x.2.1 x.2.2.1 x.2.2.2.1) ((e : Int), b4, mkI (r : Int), mkI (c : Int), ()) = some (b4, mkI (B : Int), ())
  | 0, e, r, c, h, _, _, _, _ => by omega
  | N + 1, e, r, c, h, he, hB', hr, hc => by
    by_cases h0 : e = 0
    · subst h0
      rw [Nat.pow_zero, Nat.mul_one] at hB'
      subst hB'
      refine iterL_done ?_
      simp only [integer_Pow.s0, cite, decide_eq_true_eq]
      rw [if_neg (by omega)]
    · have hm : Int.tmod (e : Int) 2 = ((e % 2 : Nat) : Int) := tmod_nat e 2
      have hh := half_wrap e (by omega)
      have ce : c * c ^ (e - 1) = c ^ e := by rw [← Nat.pow_succ', show (e - 1).succ = e by omega]
      have cpos : 0 < c ^ (e - 1) := Nat.pow_pos hc
      have hce : c ≤ c ^ e := by rw [← ce]; exact Nat.le_mul_of_pos_right _ cpos
      have hrB : r ≤ B := by rw [← hB']; exact Nat.le_mul_of_pos_right _ (Nat.pow_pos hc)
      have hcB : c ≤ B := by rw [← hB']; exact Nat.le_trans hce (Nat.le_mul_of_pos_left _ hr)
      have lr := len_le hrB
      have lc := len_le hcB
      have m1 := mulI (r : Int) (c : Int) (by rw [Int.natAbs_natCast, Int.natAbs_natCast]; omega)
      have m2 := mulI (c : Int) (c : Int) (by rw [Int.natAbs_natCast]; omega)
      rw [← Int.natCast_mul] at m1 m2
      have m1' : integer_Mul ((mkI (r : Int)).1, ((mkI (r : Int)).2.1, ())) ((mkI (c : Int)).1, ((mkI (c : Int)).2.1, ())) = _ := m1
      have m2' : integer_Mul ((mkI (c : Int)).1, ((mkI (c : Int)).2.1, ())) ((mkI (c : Int)).1, ((mkI (c : Int)).2.1, ())) = _ := m2
      have step : ∀ r' : Nat, integer_Pow.j3 (e : Int) b4.1 b4.2.1 (mkI (r' : Int)).1 (mkI (r' : Int)).2.1 (mkI (c : Int)).1 (mkI (c : Int)).2.1 = some (.inl (((e / 2 : Nat) : Int), b4, mkI (r' : Int), mkI ((if e > 1 then c * c else c : Nat) : Int), ())) := fun r' => by
        simp only [integer_Pow.j3, integer_Pow.j4, cite, decide_eq_true_eq]
        by_cases h1 : e > 1
        · rw [if_pos (by omega), m2', Option.bind_some, hh, if_pos h1]
        · rw [if_neg (by omega), hh, if_neg h1]
      have half : ∀ r' : Nat, r' * c ^ (2 * (e / 2)) = B → r' * (if e > 1 then c * c else c : Nat) ^ (e / 2) = B := fun r' h9 => by
        by_cases h1 : e > 1
        · rw [if_pos h1, ← Nat.pow_two, ← Nat.pow_mul]; exact h9
        · rw [if_neg h1, show e / 2 = 0 by omega, Nat.pow_zero]
          rw [show e / 2 = 0 by omega, Nat.mul_zero, Nat.pow_zero] at h9
          exact h9
      have c2 : 0 < (if e > 1 then c * c else c : Nat) := by split <;> first | exact Nat.mul_pos hc hc | exact hc
      by_cases hodd : e % 2 = 1
      · have key := pow_loop B hB b4 N (e / 2) (r * c) (if e > 1 then c * c else c : Nat) (by omega) (by omega) (half _ (by
          rw [Nat.mul_assoc, ← Nat.pow_succ', show (2 * (e / 2)).succ = e by omega]; exact hB')) (Nat.mul_pos hr hc) c2
        refine (iterL_next ?_).trans key
        simp only [integer_Pow.s0, integer_Pow.j2, cite, decide_eq_true_eq, beq_iff_eq]
        rw [if_pos (by omega), hm, if_pos (by rw [hodd]; rfl), m1', Option.bind_some, step (r * c)]
      · have key := pow_loop B hB b4 N (e / 2) r (if e > 1 then c * c else c : Nat) (by omega) (by omega) (half _ (by
          rw [show 2 * (e / 2) = e by omega]; exact hB')) hr c2
        refine (iterL_next ?_).trans key
        simp only [integer_Pow.s0, integer_Pow.j2, cite, decide_eq_true_eq, beq_iff_eq]
        rw [if_pos (by omega), hm, if_neg (by omega), step r]
theorem pow_ok {c e : Nat} (hc : 0 < c) (he : e ≤ 64) (hl : (limbs (c ^ e)).length ≤ 100000) (hl2 : (limbs c).length ≤ 100000) : integer_Pow (mkI (c : Int)) (e : Int) = some (mkI ((c ^ e : Nat) : Int), true, ()) := by
  have key := pow_loop (c ^ e) hl (false, ([], ())) _ e 1 c (Nat.lt_succ_self _) he (by rw [Nat.one_mul]) (by omega) hc
  unfold integer_Pow
  simp only [integer_Pow.j1, cite, decide_eq_true_eq]
  have nm : integer_Normalize ((mkI (c : Int)).1, ((mkI (c : Int)).2.1, ())) = some (mkI (c : Int)) := normI (by rw [Int.natAbs_natCast]; omega)
  have key' : iterL (fun x : Int × (Bool × List Int × Unit) × (Bool × List Int × Unit) × (Bool × List Int × Unit) × Unit => integer_Pow.s0 x.1 x.2.1 x.2.2.1 x.2.2.2.1) ((e : Int), (false, (([] : List Int), ())), ((mkI 1).1, ((mkI 1).2.1, ())), ((mkI (c : Int)).1, ((mkI (c : Int)).2.1, ())), ()) = _ := key
  rw [if_neg (by omega), if_neg (by omega), small_ok (by decide) (by decide), Option.bind_some, nm, Option.bind_some, key', Option.bind_some]
  rfl
theorem Bd.pow {n : Nat} {a : Int} (h : Bd n a) : ∀ k : Nat, Bd (n * k + 1) (a ^ k)
  | 0 => by rw [Int.pow_zero]; exact Bd.mono (n := 1) (by unfold Bd; decide) (by omega)
  | k + 1 => by
    rw [Int.pow_succ]
    exact ((Bd.pow h k).mul h).mono (by rw [Nat.mul_add]; omega)
theorem Bd.lenG {n : Nat} {z : Int} (h : Bd n z) : (limbs z.natAbs).length ≤ n / 32 + 1 := limbs_len.2 (Nat.lt_of_lt_of_le h (by
  rw [show (4294967296 : Nat) = 2 ^ 32 from rfl, ← Nat.pow_mul]
  exact Nat.pow_le_pow_right (by omega) (by omega)))
theorem powB {n k : Nat} {a : Int} (h : Bd n a) (ha : 0 < a) (hn : n ≤ 10000) (hk : k ≤ 64) : integer_Pow (mkI a) (k : Int) = some (mkI (a ^ k), true, ()) := by
  obtain ⟨c, rfl⟩ : ∃ c : Nat, a = c := ⟨a.toNat, by omega⟩
  have hb : n * k + 1 ≤ 1000000 := by
    have := Nat.mul_le_mul hn hk
    omega
  have hp := (h.pow k).lenG
  rw [← Int.natCast_pow, Int.natAbs_natCast] at hp
  have hl2 := h.lenG
  rw [Int.natAbs_natCast] at hl2
  have := pow_ok (c := c) (e := k) (by omega) hk (by omega) (by omega)
  rw [this, Int.natCast_pow]
theorem qpow {n k : Nat} {q : Rat} (h : BQ n q) (hq : 0 < q.num) (hn : n ≤ 10000) (hk : k ≤ 64) : rational_Pow (mkQ q) (k : Int) = some (mkQ (q ^ k), true, ()) := by
  have hp := den_pos q
  have hb : n * k + 1 ≤ 1000000 := by
    have := Nat.mul_le_mul hn hk
    omega
  have hm : mx2 (k : Int) (IntKind.wrap .i64 (0 - (k : Int))) = (k : Int) := by
    rw [wi64 (by omega) (by omega)]; unfold mx2; split <;> omega
  unfold rational_Pow
  simp only [rational_Pow.j1, rational_Pow.j2, cite, decide_eq_true_eq, etaI, etaQ, mkQ_1, mkQ_2]
  rw [if_neg (by omega), if_neg (by omega), mkQ_3, of_ok h (by omega), Option.bind_some, hm, mkQ_1, mkQ_2, powB h.1 hq hn hk, Option.bind_some, powB h.den hp hn hk, Option.bind_some, if_neg (by omega), qnew (h.1.pow k) (h.den.pow k) (by omega) (by have := Int.pow_pos hp (m := k); omega), Option.bind_some, ← pow_divInt]
theorem qpow_neg {n k : Nat} {q : Rat} (h : BQ n q) (hq : 0 < q.num) (hn : n ≤ 10000) (hk : k ≤ 64) (h1 : 0 < k) : rational_Pow (mkQ q) (-(k : Int)) = some (mkQ ((q ^ k)⁻¹), true, ()) := by
  have hp := den_pos q
  have hb : n * k + 1 ≤ 1000000 := by
    have := Nat.mul_le_mul hn hk
    omega
  have hm : mx2 (-(k : Int)) (IntKind.wrap .i64 (0 - -(k : Int))) = (k : Int) := by
    rw [wi64 (by omega) (by omega)]; unfold mx2; split <;> omega
  unfold rational_Pow
  simp only [rational_Pow.j1, rational_Pow.j2, cite, decide_eq_true_eq, etaI, etaQ, mkQ_1, mkQ_2]
  rw [if_neg (by omega), if_neg (by omega), mkQ_3, of_ok h (by omega), Option.bind_some, hm, mkQ_1, mkQ_2, powB h.1 hq hn hk, Option.bind_some, powB h.den hp hn hk, Option.bind_some, if_pos (by omega), qnew (h.den.pow k) (h.1.pow k) (by omega) (by have := Int.pow_pos hq (m := k); omega), Option.bind_some, pow_divInt, Rat.inv_divInt]
end Go.Proofs.Ytbchgegclgpdhaa.V
/- Laws of the reference's rational numbers, on `mkQ q`. -/
namespace Go.Proofs.Ytbchgegclgpdhaa.V
open Go Go.Proofs.Ytbchgegclgpdhaa.E Go.Proofs.Ytbchgegclgpdhaa.LI
set_option linter.unusedVariables false
set_option linter.unusedSimpArgs false
section
variable {n : Nat}
end
end Go.Proofs.Ytbchgegclgpdhaa.V
/- Bernoulli numbers: what both compute. -/
namespace Go.Proofs.Ytbchgegclgpdhaa.V
open Go Go.Proofs.Ytbchgegclgpdhaa.E Go.Proofs.Ytbchgegclgpdhaa.LI
set_option linter.unusedVariables false
set_option linter.unusedSimpArgs false
def rowN : Nat → List Nat
  | 0 => [1]
  | n + 1 => List.zipWith (· + ·) (0 :: rowN n) (rowN n ++ [0])
def bin (n k : Nat) : Nat := (rowN n).getD k 0
/-- The sum of c(j) l(j) over j below i. -/
def bsum (c : Nat → Nat) (l : List Rat) : Nat → Rat
  | 0 => 0
  | i + 1 => bsum c l i + ((c i : Int) : Rat) * l.getD i 0
def bnext (n : Nat) (l : List Rat) : Rat := -(bsum (bin (n + 1)) l n) / (((n + 1 : Nat) : Int) : Rat)
/-- B_0 .. B_k. -/
def bern : Nat → List Rat
  | 0 => [1]
  | k + 1 => bern k ++ [bnext (k + 1) (bern k)]
theorem bern_len : ∀ k, (bern k).length = k + 1
  | 0 => rfl
  | k + 1 => by rw [bern, List.length_append, bern_len k]; rfl
theorem rowN_len : ∀ n, (rowN n).length = n + 1
  | 0 => rfl
  | n + 1 => by rw [rowN, List.length_zipWith, List.length_cons, List.length_append, rowN_len n]; simp
def bqb (n : Nat) (q : Rat) : Bool := decide (q.num.natAbs < 2 ^ n) && decide (q.den < 2 ^ n)
theorem bq_of {n : Nat} {q : Rat} (h : bqb n q = true) : BQ n q := by
  unfold bqb at h
  rw [Bool.and_eq_true, decide_eq_true_eq, decide_eq_true_eq] at h
  exact h
theorem row_tab : ∀ n : Fin 22, iterN (fun x : Int × Int × List Int × Unit => bernoulli_row.s0 x.1 x.2.1 x.2.2.1) 30 ((n.val : Int), (1 : Int), [(1 : Int)], ()) = some ((rowN n.val).map (fun c : Nat => (c : Int)), ()) := by decide +kernel
theorem row_ok {n : Nat} (h : n ≤ 21) : bernoulli_row (n : Int) = some ((rowN n).map fun c : Nat => (c : Int)) := by
  unfold bernoulli_row
  rw [iterL_of (row_tab ⟨n, by omega⟩)]
  rfl
theorem bin_le : ∀ n : Fin 22, ∀ k : Fin 23, bin n.val k.val < 1000000 := by decide +kernel
theorem bern_b : ((List.range 21).all fun k => (List.range (k + 1)).all fun i => bqb 100 ((bern k).getD i 0) && bqb 100 (bsum (bin (k + 1)) (bern (k - 1)) i)) = true := by decide +kernel
theorem bern_bd {k i : Nat} (hk : k ≤ 20) (hi : i ≤ k) : BQ 100 ((bern k).getD i 0) ∧ BQ 100 (bsum (bin (k + 1)) (bern (k - 1)) i) := by
  have h := List.all_eq_true.1 bern_b k (List.mem_range.2 (by omega))
  have h2 := List.all_eq_true.1 h i (List.mem_range.2 (by omega))
  rw [Bool.and_eq_true] at h2
  exact ⟨bq_of h2.1, bq_of h2.2⟩
theorem whole_ok {z : Int} (h : -9223372036854775808 ≤ z) (h' : z ≤ 9223372036854775807) : bernoulli_whole z = some (mkQ (z : Rat)) := by
  unfold bernoulli_whole
  rw [small_ok h h', Option.bind_some]
  simp only [etaI, etaQ, etaP]
  rw [qwhole (Bd.i64 h h') (by decide), Option.bind_some]
theorem getD_map {α β : Type} (f : α → β) (l : List α) (i : Nat) (d : β) (e : α) (h : i < l.length) : (l.map f).getD i d = f (l.getD i e) := by
  simp [List.getD_eq_getElem?_getD, List.getElem?_eq_getElem h]
theorem bq_nat {n : Nat} (h : n < 1000000) : BQ 64 (((n : Int)) : Rat) := BQ.int (Bd.i64 (by omega) (by omega)) (by omega)
abbrev zero : QV := ((false, (([] : List Int), ())), ((false, (([] : List Int), ())), ()))
theorem num_inner {n : Nat} (h1 : 1 ≤ n) (h2 : n ≤ 20) (t0 : Int) : ∀ (t i : Nat), n - i = t → i ≤ n →
    iterL (fun x : Int × Int × List Int × Int × Int × (List ((Bool × List Int × Unit) × (Bool × List Int × Unit) × Unit)) × ((Bool × List Int × Unit) × (Bool × List Int × Unit) × Unit) × Unit => bernoulli_numbers.s0 x.1 x.2.1 x.2.2.1 x.2.2.2.1 x.2.2.2.2.1 x.2.2.2.2.2.1 x.2.2.2.2.2.2.1) (t0, (n : Int), ((rowN (n + 1)).map fun c : Nat => (c : Int)).take n, (n : Int), (i : Int), (bern (n - 1)).map mkQ, mkQ (bsum (bin (n + 1)) (bern (n - 1)) i), ()) =
      some (t0, (n : Int), (bern (n - 1)).map mkQ, mkQ (bsum (bin (n + 1)) (bern (n - 1)) n), ()) := by
  intro t
  induction t with
  | zero =>
    intro i ht hi
    obtain rfl : i = n := by omega
    refine iterL_done ?_
    simp only [bernoulli_numbers.s0, cite, decide_eq_true_eq, etaQ, etaP]
    rw [if_neg (by omega)]
  | succ t ih =>
    intro i ht hi
    refine (iterL_next ?_).trans (ih (i + 1) (by omega) (by omega))
    have hl := bern_len (n - 1)
    have hr := rowN_len (n + 1)
    have hb : bin (n + 1) i < 1000000 := bin_le ⟨n + 1, by omega⟩ ⟨i, by omega⟩
    have hbd := bern_bd (k := n - 1) (i := i) (by omega) (by omega)
    have hbs := bern_bd (k := n) (i := i) (by omega) (by omega)
    simp only [bernoulli_numbers.s0, bernoulli_numbers.j2, cite, decide_eq_true_eq, inB_t, etaI, etaQ, etaP]
    have e1 : (((rowN (n + 1)).map fun c : Nat => (c : Int)).take n).getD i 0 = (bin (n + 1) i : Int) := by
      unfold bin
      rw [← List.map_take, getD_map _ _ _ _ 0 (by rw [List.length_take]; omega)]
      simp [List.getD_eq_getElem?_getD, List.getElem?_take, show i < n by omega]
    rw [if_pos (by omega), if_pos (by rw [List.length_take, List.length_map]; omega), Int.toNat_natCast, e1, whole_ok (by omega) (by omega), Option.bind_some, if_pos (by rw [List.length_map]; omega), Nat.zero_add, getD_map mkQ _ _ _ 0 (by omega), qmul (bq_nat hb) hbd.1 (by omega), Option.bind_some, qadd hbs.2 ((bq_nat hb).mul hbd.1) (by omega), Option.bind_some, up (by omega)]
    rfl
theorem bsum_ne (n : Nat) : (((n + 1 : Nat) : Int) : Rat) ≠ 0 := fun h => by
  have := Rat.intCast_eq_zero_iff.1 h
  omega
theorem num_outer {k : Nat} (hk : k ≤ 20) : ∀ (t n : Nat), k + 1 - n = t → 1 ≤ n → n ≤ k + 1 →
    iterL (fun x : Int × Int × (List ((Bool × List Int × Unit) × (Bool × List Int × Unit) × Unit)) × Unit => bernoulli_numbers.s1 x.1 x.2.1 x.2.2.1) ((k : Int), (n : Int), (bern (n - 1)).map mkQ, ()) = some ((bern k).map mkQ, ()) := by
  intro t
  induction t with
  | zero =>
    intro n ht h1 hn
    obtain rfl : n = k + 1 := by omega
    refine iterL_done ?_
    simp only [bernoulli_numbers.s1, cite, decide_eq_true_eq]
    rw [if_neg (by omega)]
    rfl
  | succ t ih =>
    intro n ht h1 hn
    refine (iterL_next ?_).trans (ih (n + 1) (by omega) (by omega) (by omega))
    have hl := bern_len (n - 1)
    have hr := rowN_len (n + 1)
    have hbs := bern_bd (k := n) (i := n) (by omega) (by omega)
    have hin := num_inner h1 (by omega) (k : Int) _ 0 rfl (by omega)
    rw [show ((0 : Nat) : Int) = 0 from rfl, show bsum (bin (n + 1)) (bern (n - 1)) 0 = 0 from rfl] at hin
    have hm : List.length (List.take n ((rowN (n + 1)).map fun c : Nat => (c : Int))) = n := by rw [List.length_take, List.length_map]; omega
    have hrow := row_ok (n := n + 1) (by omega)
    simp only [bernoulli_numbers.s1, bernoulli_numbers.j1, cite, decide_eq_true_eq, inC_t, etaI, etaQ, etaP]
    rw [if_pos (by omega), whole_ok (by omega) (by omega), Option.bind_some, up (by omega), hrow, Option.bind_some, if_pos (by rw [List.length_map]; omega), Int.toNat_natCast, hm, show (((0 : Int) : Int) : Rat) = 0 from rfl, hin, Option.bind_some]
    simp only [bernoulli_numbers.k0, cite, decide_eq_true_eq, maxL_eq, etaI, etaQ, etaP]
    rw [qneg hbs.2 (by omega), Option.bind_some, up (by omega), whole_ok (by omega) (by omega), Option.bind_some, qquo (m := 64) hbs.2.neg (bq_nat (n := n + 1) (by omega)) (by omega) (bsum_ne n), Option.bind_some, if_pos (by rw [List.length_map, List.length_singleton]; exact decide_eq_true (by omega))]
    obtain ⟨m, rfl⟩ : ∃ m, n = m + 1 := ⟨n - 1, by omega⟩
    rw [show m + 1 + 1 - 1 = m + 1 from rfl, bern, List.map_append]
    rfl
theorem numbers_ok {k : Nat} (hk : k ≤ 20) : bernoulli_numbers (k : Int) = some ((bern k).map mkQ) := by
  unfold bernoulli_numbers
  rw [whole_ok (by decide) (by decide), Option.bind_some]
  have h := num_outer hk _ 1 rfl (by omega) (by omega)
  have h' : iterL (fun x : Int × Int × (List ((Bool × List Int × Unit) × (Bool × List Int × Unit) × Unit)) × Unit => bernoulli_numbers.s1 x.1 x.2.1 x.2.2.1) ((k : Int), (1 : Int), [mkQ ((1 : Int) : Rat)], ()) = _ := h
  rw [h', Option.bind_some]
  rfl
end Go.Proofs.Ytbchgegclgpdhaa.V
/- The symbol (a/p), Gauss' lemma, the law of reciprocity. -/
namespace Go.Proofs.Ytbchgegclgpdhaa.Num
def lst (f : Nat → Nat) : Nat → List Nat
  | 0 => []
  | n + 1 => f (n + 1) :: lst f n
theorem lst_length (f : Nat → Nat) : ∀ n, (lst f n).length = n
  | 0 => rfl
  | n + 1 => by simp [lst, lst_length f n]
theorem mem_lst {f : Nat → Nat} {x : Nat} : ∀ {n : Nat}, x ∈ lst f n → ∃ k, 1 ≤ k ∧ k ≤ n ∧ x = f k
  | 0, h => by simp [lst] at h
  | n + 1, h => by
    rcases List.mem_cons.1 h with rfl | h
    · exact ⟨n + 1, by omega, by omega, rfl⟩
    · obtain ⟨k, h1, h2, h3⟩ := mem_lst h
      exact ⟨k, h1, by omega, h3⟩
theorem lst_nodup {f : Nat → Nat} : ∀ {n : Nat}, (∀ i j, 1 ≤ i → i ≤ n → 1 ≤ j → j ≤ n → f i = f j → i = j) → (lst f n).Nodup
  | 0, _ => by simp [lst]
  | n + 1, h => by
    refine List.nodup_cons.2 ⟨fun hm => ?_, lst_nodup fun i j a b c d e => h i j a (by omega) c (by omega) e⟩
    obtain ⟨k, h1, h2, h3⟩ := mem_lst hm
    have := h (n + 1) k (by omega) (by omega) h1 (by omega) h3
    omega
theorem pigeon : ∀ (n : Nat) (l : List Nat), l.Nodup → (∀ x ∈ l, 1 ≤ x ∧ x ≤ n) → l.length ≤ n
  | 0, l, _, h => by
    cases l with
    | nil => simp
    | cons a l => have := h a (List.mem_cons_self ..); omega
  | n + 1, l, hn, h => by
    have h1 := pigeon n (l.erase (n + 1)) (hn.erase _) (fun x hx => by
      have hx' := (hn.mem_erase_iff).1 hx
      have := h x hx'.2
      have := hx'.1
      omega)
    rw [List.length_erase] at h1
    split at h1 <;> omega
theorem full : ∀ (n : Nat) (l : List Nat), l.Nodup → (∀ x ∈ l, 1 ≤ x ∧ x ≤ n) → l.length = n → l.Perm (lst (fun k => k) n)
  | 0, l, _, _, h => by
    have : l = [] := List.eq_nil_of_length_eq_zero h
    subst this
    exact List.Perm.refl _
  | n + 1, l, hn, h, hl => by
    have hm : n + 1 ∈ l := by
      apply Classical.byContradiction
      intro hno
      have := pigeon n l hn (fun x hx => by
        have := h x hx
        have : x ≠ n + 1 := by rintro rfl; exact hno hx
        omega)
      omega
    refine (List.perm_cons_erase hm).trans (List.Perm.cons _ ?_)
    refine full n _ (hn.erase _) (fun x hx => ?_) ?_
    · have hx' := (hn.mem_erase_iff).1 hx
      have := h x hx'.2
      have := hx'.1
      omega
    · rw [List.length_erase, if_pos hm]; omega
def sumL : List Nat → Nat
  | [] => 0
  | a :: l => a + sumL l
theorem sumL_perm {l l' : List Nat} (h : l.Perm l') : sumL l = sumL l' := by
  induction h with
  | nil => rfl
  | cons x _ ih => simp [sumL, ih]
  | swap x y l => simp only [sumL]; omega
  | trans _ _ a b => exact a.trans b
def sumN (f : Nat → Nat) : Nat → Nat
  | 0 => 0
  | n + 1 => f (n + 1) + sumN f n
theorem sumN_lst (f : Nat → Nat) : ∀ n, sumN f n = sumL (lst f n)
  | 0 => rfl
  | n + 1 => by simp [sumN, sumL, lst, sumN_lst f n]
/-- A map of 1 .. n into itself that takes no value twice. -/
structure Sends (f : Nat → Nat) (n : Nat) : Prop where
  into : ∀ i, 1 ≤ i → i ≤ n → 1 ≤ f i ∧ f i ≤ n
  inj : ∀ i j, 1 ≤ i → i ≤ n → 1 ≤ j → j ≤ n → f i = f j → i = j
theorem Sends.perm {f : Nat → Nat} {n : Nat} (h : Sends f n) : (lst f n).Perm (lst (fun k => k) n) :=
  full n _ (lst_nodup h.inj) (fun x hx => by
    obtain ⟨k, h1, h2, rfl⟩ := mem_lst hx
    exact h.into k h1 h2) (lst_length _ _)
theorem Sends.sum {f : Nat → Nat} {n : Nat} (h : Sends f n) : sumN f n = sumN (fun k => k) n := by
  rw [sumN_lst, sumN_lst, sumL_perm h.perm]
def hi (p h a k : Nat) : Nat := if (a * k) % p ≤ h then 0 else 1
def sg (p h a k : Nat) : Int := if (a * k) % p ≤ h then 1 else -1
section
variable {p h a : Nat} (hp : Pr p) (hh : p = 2 * h + 1) (ha : ¬ p ∣ a)
include hp hh ha
end
def sy (a : Int) (p : Nat) : Int :=
  if p = 2 then (if a % 8 = 1 ∨ a % 8 = 7 then 1 else if a % 8 = 3 ∨ a % 8 = 5 then -1 else 0)
  else if a % p = 0 then 0 else if ((a % p).toNat ^ ((p - 1) / 2)) % p = 1 then 1 else -1
theorem sy_range (a : Int) (p : Nat) : sy a p = 1 ∨ sy a p = 0 ∨ sy a p = -1 := by
  unfold sy
  repeat' split
  all_goals simp
end Go.Proofs.Ytbchgegclgpdhaa.Num
/- The squarefree part of a number and the root of the rest: they are unique. -/
namespace Go.Proofs.Ytbchgegclgpdhaa.Num
def Sqf (s : Nat) : Prop := ∀ d, 2 ≤ d → ¬ d * d ∣ s
theorem sqf_unique {s t r u : Nat} (hs : Sqf s) (ht : Sqf t) (hr : 1 ≤ r) (hu : 1 ≤ u) (h : s * (r * r) = t * (u * u)) : s = t ∧ r = u := by
  have hg : 0 < Nat.gcd r u := Nat.gcd_pos_of_pos_left _ hr
  obtain ⟨r', hr'⟩ := Nat.gcd_dvd_left r u
  obtain ⟨u', hu'⟩ := Nat.gcd_dvd_right r u
  have hc : Nat.Coprime r' u' := by
    have := Nat.gcd_mul_left (Nat.gcd r u) r' u'
    rw [← hr', ← hu'] at this
    have h2 : Nat.gcd r u * Nat.gcd r' u' = Nat.gcd r u * 1 := by omega
    exact Nat.eq_of_mul_eq_mul_left hg h2
  generalize Nat.gcd r u = g at *
  subst hr' hu'
  have hr1 : r' ≠ 0 := by rintro rfl; simp at hr
  have hu1 : u' ≠ 0 := by rintro rfl; simp at hu
  have e : s * (r' * r') = t * (u' * u') := by
    have a : (g * g) * (s * (r' * r')) = (g * g) * (t * (u' * u')) := by
      have x : s * (g * r' * (g * r')) = (g * g) * (s * (r' * r')) := by grind
      have y : t * (g * u' * (g * u')) = (g * g) * (t * (u' * u')) := by grind
      omega
    exact Nat.eq_of_mul_eq_mul_left (Nat.mul_pos hg hg) a
  have hcu : Nat.Coprime (u' * u') (r' * r') := Nat.Coprime.mul_left (Nat.Coprime.mul_right hc.symm hc.symm) (Nat.Coprime.mul_right hc.symm hc.symm)
  have du : u' * u' ∣ s := hcu.dvd_of_dvd_mul_right ⟨t, by rw [e, Nat.mul_comm]⟩
  have dr : r' * r' ∣ t := hcu.symm.dvd_of_dvd_mul_right ⟨s, by rw [← e, Nat.mul_comm]⟩
  have hu2 : u' = 1 := by
    apply Classical.byContradiction
    intro hne
    exact hs u' (by omega) du
  have hr2 : r' = 1 := by
    apply Classical.byContradiction
    intro hne
    exact ht r' (by omega) dr
  subst hu2 hr2
  refine ⟨by simpa using e, rfl⟩
def sf : List (Nat × Nat) → Nat
  | [] => 1
  | (p, e) :: L => p ^ (e % 2) * sf L
def sr : List (Nat × Nat) → Nat
  | [] => 1
  | (p, e) :: L => p ^ (e / 2) * sr L
theorem Fac.sf_sr : ∀ {L : List (Nat × Nat)} {lo n : Nat}, Fac lo n L → n = sf L * (sr L * sr L)
  | [], _, _, h => by simp only [Fac] at h; subst h; rfl
  | (p, e) :: L, _, _, h => by
    obtain ⟨_, hp, _, m, rfl, hm⟩ := h
    have e1 := hm.sf_sr
    have e2 : p ^ e = p ^ (e % 2) * (p ^ (e / 2) * p ^ (e / 2)) := by
      rw [← Nat.pow_add, ← Nat.pow_add]; congr 1; omega
    simp only [sf, sr]
    rw [e2, e1]
    grind
theorem Fac.sf_dvd {L : List (Nat × Nat)} {lo n : Nat} (h : Fac lo n L) : sf L ∣ n := ⟨_, h.sf_sr⟩
theorem Fac.sf_pos {L : List (Nat × Nat)} {lo n : Nat} (h : Fac lo n L) : 1 ≤ sf L ∧ 1 ≤ sr L := by
  have h1 := h.pos
  have h2 := h.sf_sr
  constructor
  · rcases Nat.eq_zero_or_pos (sf L) with e | e
    · rw [e] at h2; simp at h2; omega
    · exact e
  · rcases Nat.eq_zero_or_pos (sr L) with e | e
    · rw [e] at h2; simp at h2; omega
    · exact e
theorem Fac.sf_sqf : ∀ {L : List (Nat × Nat)} {lo n : Nat}, Fac lo n L → Sqf (sf L) := by
  have key : ∀ {L : List (Nat × Nat)} {lo n q : Nat}, Fac lo n L → Pr q → ¬ q * q ∣ sf L := by
    intro L
    induction L with
    | nil => intro lo n q _ hq hd; exact hq.not_dvd_one (Nat.dvd_trans ⟨q, rfl⟩ hd)
    | cons x L ih =>
      obtain ⟨p, e⟩ := x
      intro lo n q h hq hd
      obtain ⟨_, hp, _, m, rfl, hm⟩ := h
      simp only [sf] at hd
      have hn : ∀ q', Pr q' → q' ∣ sf L → p < q' := fun q' hq' hd' => hm.gt hq' (Nat.dvd_trans hd' hm.sf_dvd)
      by_cases hqp : q = p
      · subst hqp
        have hq0 : 0 < q := by have := hq.1; omega
        rcases Nat.mod_two_eq_zero_or_one e with he | he
        · rw [he, Nat.pow_zero, Nat.one_mul] at hd
          have := hn q hq (Nat.dvd_trans ⟨q, rfl⟩ hd)
          omega
        · rw [he, Nat.pow_one] at hd
          have := hn q hq (Nat.dvd_of_mul_dvd_mul_left hq0 hd)
          omega
      · have hc : Nat.Coprime q p := hq.coprime (fun hd => hqp (hq.eq_of_dvd hp hd))
        have hc2 : Nat.Coprime (q * q) (p ^ (e % 2)) := Nat.Coprime.pow_right _ (Nat.Coprime.mul_left hc hc)
        exact ih hm hq (hc2.dvd_of_dvd_mul_left hd)
  intro L lo n h d hd hdd
  obtain ⟨q, hq, hqd⟩ := exists_prime d hd
  exact key h hq (Nat.dvd_trans (Nat.mul_dvd_mul hqd hqd) hdd)
end Go.Proofs.Ytbchgegclgpdhaa.Num
/- Laws: the factorization. -/
namespace Go.Proofs.Ytbchgegclgpdhaa.V
open Go Go.Proofs.Ytbchgegclgpdhaa.E Go.Proofs.Ytbchgegclgpdhaa.LI Go.Proofs.Ytbchgegclgpdhaa.Num
set_option linter.unusedVariables false
set_option linter.unusedSimpArgs false
abbrev PW := Int × Int × Unit
def encP (L : List (Nat × Nat)) : List PW := L.map fun x => ((x.1 : Int), (x.2 : Int), ())
theorem encP_length (L : List (Nat × Nat)) : (encP L).length = L.length := by simp [encP]
theorem div_step {d f m : Nat} (hd : 2 ≤ d) : d ^ (f + 1) * m % d = 0 ∧ d ^ (f + 1) * m / d = d ^ f * m := by
  have e : d ^ (f + 1) * m = d * (d ^ f * m) := by rw [Nat.pow_succ', Nat.mul_assoc]
  rw [e]
  exact ⟨Nat.mul_mod_right _ _, Nat.mul_div_cancel_left _ (by omega)⟩
theorem pow_bound {d f m : Nat} (hd : 2 ≤ d) (hm : 1 ≤ m) (h : d ^ f * m ≤ 2147483647) : f ≤ 30 := by
  apply Classical.byContradiction
  intro hc
  have h1 : 2 ^ 31 ≤ 2 ^ f := Nat.pow_le_pow_right (by omega) (by omega)
  have h2 : 2 ^ f ≤ d ^ f := Nat.pow_le_pow_left hd f
  have h3 : d ^ f * 1 ≤ d ^ f * m := Nat.mul_le_mul_left _ hm
  omega
theorem strip_loop {d m : Nat} (hd : 2 ≤ d) (hd2 : d ≤ 2147483647) (hm : 1 ≤ m) (hnd : ¬ d ∣ m) (acc : List PW) : ∀ (f e : Nat), e + f ≤ 100 → d ^ f * m ≤ 2147483647 →
    iterL (fun x : Int × Int × Int × (List PW) × Unit => prime_Factor.s1 x.1 x.2.1 x.2.2.1 x.2.2.2.1) (((d ^ f * m : Nat) : Int), (d : Int), (e : Int), acc, ()) = some ((m : Int), (d : Int), ((e + f : Nat) : Int), acc, ())
  | 0, e, he, hb => by
    refine iterL_done ?_
    simp only [prime_Factor.s1, prime_Factor.j5, cite, decide_eq_true_eq, beq_iff_eq]
    rw [if_neg (by omega), tmod_nat, if_neg]
    · simp
    · intro h
      exact hnd (Nat.dvd_of_mod_eq_zero (by simpa using Int.ofNat_inj.1 h))
  | f + 1, e, he, hb => by
    obtain ⟨h1, h2⟩ := div_step (d := d) (f := f) (m := m) hd
    have h3 : d ^ f * m ≤ 2147483647 := by
      rw [← h2]; exact Nat.le_trans (Nat.div_le_self _ _) hb
    refine (iterL_next ?_).trans ((strip_loop hd hd2 hm hnd acc f (e + 1) (by omega) h3).trans (by rw [show e + 1 + f = e + (f + 1) by omega]))
    simp only [prime_Factor.s1, prime_Factor.j5, cite, decide_eq_true_eq, beq_iff_eq]
    rw [if_neg (by omega), tmod_nat, h1, if_pos (by rfl), if_neg (by omega), tdiv_nat, h2, wi64 (by omega) (by omega), up (by omega)]
theorem find_loop {n : Nat} (hn2 : 2 ≤ n) (hn : n ≤ 2147483647) {acc : List PW} (hacc : acc.length ≤ 1000) : ∀ (t d : Nat), 46342 - d = t → 2 ≤ d → d ≤ 46341 → (∀ q, 2 ≤ q → q ∣ n → d ≤ q) →
    ∃ z, iterL (fun x : Int × Int × (List PW) × Unit => prime_Factor.s0 x.1 x.2.1 x.2.2.1) ((n : Int), (d : Int), acc, ()) = some z ∧
      ((z = .inl (acc ++ [((n : Int), (1 : Int), ())], ()) ∧ Pr n) ∨ ∃ d' : Nat, z = .inr ((n : Int), (d' : Int), acc, ()) ∧ 2 ≤ d' ∧ d' ≤ 46340 ∧ d' ∣ n ∧ ∀ q, 2 ≤ q → q ∣ n → d' ≤ q) := by
  intro t
  induction t with
  | zero => intro d a b c; omega
  | succ t ih =>
    intro d ht hd2 hd hlo
    have hst : prime_Factor.s0 (n : Int) (d : Int) acc = if d * d ≤ n then if n % d = 0 then some (.inr (.inr ((n : Int), (d : Int), acc, ()))) else some (.inl ((n : Int), ((d + 1 : Nat) : Int), acc, ())) else some (.inr (.inl (acc ++ [((n : Int), (1 : Int), ())], ()))) := by
      simp only [prime_Factor.s0, prime_Factor.j3, prime_Factor.j4, cite, decide_eq_true_eq, beq_iff_eq, maxL_eq]
      rw [sq_wrap (by omega), if_neg (show ¬ (d : Int) = 0 by omega), tmod_nat, up (by omega)]
      by_cases h1 : d * d ≤ n
      · rw [if_pos h1, if_neg (by omega)]
        by_cases h2 : n % d = 0
        · rw [if_pos h2, if_pos (by omega)]
        · rw [if_neg h2, if_neg (by omega)]
      · rw [if_neg h1, if_pos (by omega), if_pos (by simp; omega)]
    by_cases hle : d * d ≤ n
    · have hb := sq_le hle hn
      rw [if_pos hle] at hst
      by_cases hdv : n % d = 0
      · rw [if_pos hdv] at hst
        exact ⟨_, iterL_done hst, .inr ⟨d, rfl, hd2, hb, Nat.dvd_of_mod_eq_zero hdv, hlo⟩⟩
      · rw [if_neg hdv] at hst
        obtain ⟨z, h2, h3⟩ := ih (d + 1) (by omega) (by omega) (by omega) (fun q h1 h3 => by
          have := hlo q h1 h3
          have : q ≠ d := by rintro rfl; exact hdv (Nat.mod_eq_zero_of_dvd h3)
          omega)
        exact ⟨z, (iterL_next hst).trans h2, h3⟩
    · rw [if_neg hle] at hst
      exact ⟨_, iterL_done hst, .inl ⟨rfl, pr_of_noDiv (by omega) (fun q a b _ => hlo q a b) (by omega)⟩⟩
theorem fac_loop : ∀ (N n d : Nat) (acc : List PW), n < N → 1 ≤ n → n ≤ 2147483647 → 2 ≤ d → d ≤ 46341 → (∀ q, 2 ≤ q → q ∣ n → d ≤ q) → 2 ^ acc.length * n ≤ 1099511627776 →
    ∃ L, Fac 1 n L ∧ iterL (fun x : Int × Int × (List PW) × Unit => prime_Factor.s2 x.1 x.2.1 x.2.2.1) ((n : Int), (d : Int), acc, ()) = some (acc ++ encP L, ())
  | 0, n, d, acc, h, _, _, _, _, _, _ => by omega
  | N + 1, n, d, acc, hN, h1, hn, hd2, hd, hlo, hacc => by
    have haccl : acc.length ≤ 100 := by
      apply Classical.byContradiction
      intro hc
      have a : 2 ^ 41 ≤ 2 ^ acc.length := Nat.pow_le_pow_right (by omega) (by omega)
      have b : 2 ^ acc.length * 1 ≤ 2 ^ acc.length * n := Nat.mul_le_mul_left _ h1
      omega
    by_cases hn1 : n = 1
    · subst hn1
      refine ⟨[], rfl, iterL_done ?_⟩
      simp only [prime_Factor.s2, cite, decide_eq_true_eq]
      rw [if_neg (by simp)]
      simp [encP]
    · obtain ⟨z, hz, hz2⟩ := find_loop (n := n) (by omega) hn (acc := acc) (by omega) _ d rfl hd2 hd hlo
      rcases hz2 with ⟨rfl, hp⟩ | ⟨d', rfl, e1, e2, e3, e4⟩
      · refine ⟨[(n, 1)], ⟨by omega, hp, Nat.le_refl _, 1, by simp, rfl⟩, iterL_done ?_⟩
        simp only [prime_Factor.s2, prime_Factor.j2, cite, decide_eq_true_eq]
        rw [if_pos (by omega), hz, Option.bind_some]
        simp [prime_Factor.k0_0, encP]
      · obtain ⟨f, m, hfm, hnd, hm1, hf⟩ := exists_strip e1 n n (Nat.le_refl _) h1
        have hf := hf e3
        have hp := pr_of_least e1 e3 e4
        have hmn : 2 * m ≤ n := by
          have a : d' ^ 1 ≤ d' ^ f := Nat.pow_le_pow_right (by omega) hf
          rw [Nat.pow_one] at a
          have b : d' * m ≤ d' ^ f * m := Nat.mul_le_mul_right _ a
          have c : 2 * m ≤ d' * m := Nat.mul_le_mul_right _ e1
          omega
        have hdm : m ∣ n := ⟨d' ^ f, by rw [hfm, Nat.mul_comm]⟩
        have hlo' : ∀ q, 2 ≤ q → q ∣ m → d' ≤ q := fun q h2 h3 => e4 q h2 (Nat.dvd_trans h3 hdm)
        have hfb := pow_bound e1 hm1 (by omega : d' ^ f * m ≤ 2147483647)
        obtain ⟨L, hL, hE⟩ := fac_loop N m d' (acc ++ [((d' : Int), (f : Int), ())]) (by omega) hm1 (by omega) e1 (by omega) hlo' (by
          rw [List.length_append, List.length_singleton, Nat.pow_succ, Nat.mul_assoc]
          exact Nat.le_trans (Nat.mul_le_mul_left _ hmn) hacc)
        refine ⟨(d', f) :: L, ⟨by omega, hp, hf, m, hfm, hL.raise fun q hq hqd => ?_⟩, (iterL_next ?_).trans (hE.trans (by simp [encP]))⟩
        · have := hlo' q hq.1 hqd
          have : q ≠ d' := by rintro rfl; exact hnd hqd
          omega
        · have hs := strip_loop e1 (by omega) hm1 hnd acc f 0 (by omega) (by omega)
          rw [← hfm, show ((0 : Nat) : Int) = 0 from rfl, Nat.zero_add] at hs
          simp only [prime_Factor.s2, prime_Factor.j2, cite, decide_eq_true_eq]
          rw [if_pos (by omega), hz, Option.bind_some]
          simp only [prime_Factor.k0_1]
          rw [hs, Option.bind_some]
          simp only [prime_Factor.k1, cite, decide_eq_true_eq, maxL_eq]
          rw [if_pos (by simp; omega)]
theorem factor_nat (n : Nat) (h1 : 1 ≤ n) (hn : n ≤ 2147483647) : ∃ L, Fac 1 n L ∧ prime_Factor (n : Int) = some (encP L, 0, ()) := by
  obtain ⟨L, h2, h3⟩ := fac_loop (n + 1) n 2 [] (by omega) h1 hn (by omega) (by omega) (fun q h _ => h) (by simp; omega)
  refine ⟨L, h2, ?_⟩
  unfold prime_Factor
  simp only [cite, decide_eq_true_eq]
  rw [if_neg (by omega), if_neg (by omega)]
  unfold prime_Factor.j1
  rw [show ((2 : Nat) : Int) = 2 from rfl] at h3
  rw [h3, Option.bind_some]
  rfl
end Go.Proofs.Ytbchgegclgpdhaa.V
/- Laws: squarefree parts and discriminants. -/
namespace Go.Proofs.Ytbchgegclgpdhaa.V
open Go Go.Proofs.Ytbchgegclgpdhaa.E Go.Proofs.Ytbchgegclgpdhaa.LI Go.Proofs.Ytbchgegclgpdhaa.Num
set_option linter.unusedVariables false
set_option linter.unusedSimpArgs false
/-- s and r are what n asks for -/
def SqOf (n s r : Int) : Prop := ∃ (S R : Nat) (g : Int), (g = 1 ∨ g = -1) ∧ n = g * (S * (R * R) : Nat) ∧ s = g * (S : Nat) ∧ r = (R : Nat) ∧ Sqf S ∧ 1 ≤ S ∧ 1 ≤ R
theorem sqOf_unique {n s r s' r' : Int} (h : SqOf n s r) (h' : SqOf n s' r') : s = s' ∧ r = r' := by
  obtain ⟨S, R, g, hg, hn, rfl, rfl, hS, hS1, hR1⟩ := h
  obtain ⟨S', R', g', hg', hn', rfl, rfl, hS', hS1', hR1'⟩ := h'
  have p1 : 1 ≤ S * (R * R) := Nat.mul_pos hS1 (Nat.mul_pos hR1 hR1)
  have p2 : 1 ≤ S' * (R' * R') := Nat.mul_pos hS1' (Nat.mul_pos hR1' hR1')
  have e : g = g' ∧ S * (R * R) = S' * (R' * R') := by
    generalize S * (R * R) = A at *
    generalize S' * (R' * R') = B at *
    rcases hg with rfl | rfl <;> rcases hg' with rfl | rfl <;> omega
  obtain ⟨rfl, e⟩ := e
  obtain ⟨rfl, rfl⟩ := sqf_unique hS hS' hR1 hR1' e
  exact ⟨rfl, rfl⟩
theorem fac_bounds {n : Nat} {L : List (Nat × Nat)} (h : Fac 1 n L) (hn : n ≤ 2147483647) : (∀ x ∈ L, Pr x.1 ∧ 1 ≤ x.2 ∧ x.1 ≤ 2147483647 ∧ x.2 ≤ 100) ∧ L.length ≤ 100 := by
  have h1 := h.pos
  constructor
  · intro x hx
    obtain ⟨hp, he, hd, _⟩ := h.mem x hx
    have hle := Nat.le_of_dvd (by omega) hd
    have h2 := hp.1
    have hxx : x.1 ^ 1 ≤ x.1 ^ x.2 := Nat.pow_le_pow_right (by omega) he
    rw [Nat.pow_one] at hxx
    have := pow_bound (d := x.1) (f := x.2) (m := 1) h2 (by omega) (by omega)
    exact ⟨hp, he, by omega, by omega⟩
  · apply Classical.byContradiction
    intro hc
    have a := h.two_pow_le
    have b : 2 ^ 31 ≤ 2 ^ L.length := Nat.pow_le_pow_right (by omega) (by omega)
    omega
theorem rdP_at (L1 : List (Nat × Nat)) (x : Nat × Nat) (L2 : List (Nat × Nat)) : List.getD (encP (L1 ++ x :: L2)) L1.length ((0 : Int), (0 : Int), ()) = ((x.1 : Int), (x.2 : Int), ()) := by
  simp [encP, List.getD, List.getElem?_append_right]
theorem beyond_ok (a : Int) : prime_beyond a = some (decide (2147483647 < a ∨ a < -2147483647)) := by
  unfold prime_beyond
  simp only [cite, decide_eq_true_eq]
  by_cases h : a > 2147483647
  · rw [if_pos h, decide_eq_true (by omega)]
  · rw [if_neg h]
    congr 1
    simp only [decide_eq_decide]
    omega
theorem sqf_inner {LS : List PW} {len i : Int} {p e : Nat} (hp1 : 1 ≤ p) (he : e ≤ 100) (s : Int) : ∀ (t j r : Nat), e / 2 - j = t → j ≤ e / 2 → r * p ^ t ≤ 2147483647 →
    iterL (fun x : Int × Int × Int × (List PW) × Int × Int × PW × Unit => prime_Squarefree.s0 x.1 x.2.1 x.2.2.1 x.2.2.2.1 x.2.2.2.2.1 x.2.2.2.2.2.1 x.2.2.2.2.2.2.1) (s, (r : Int), (j : Int), LS, len, i, ((p : Int), (e : Int), ()), ()) = some (s, ((r * p ^ t : Nat) : Int), LS, len, i, ())
  | 0, j, r, ht, hj, hb => by
    refine iterL_done ?_
    simp only [prime_Squarefree.s0, cite, decide_eq_true_eq]
    rw [half_wrap e (by omega), if_neg (by omega), Nat.pow_zero, Nat.mul_one]
  | t + 1, j, r, ht, hj, hb => by
    have hb2 : r * p * p ^ t ≤ 2147483647 := by rw [Nat.mul_assoc, ← Nat.pow_succ']; exact hb
    have hpt : 1 ≤ p ^ t := Nat.pow_pos hp1
    have hb3 : r * p * 1 ≤ r * p * p ^ t := Nat.mul_le_mul_left _ hpt
    refine (iterL_next ?_).trans ((sqf_inner hp1 he s t (j + 1) (r * p) (by omega) (by omega) hb2).trans (by rw [Nat.mul_assoc, ← Nat.pow_succ']))
    simp only [prime_Squarefree.s0, prime_Squarefree.j5, cite, decide_eq_true_eq]
    rw [half_wrap e (by omega), if_pos (by omega), up (by omega), ← Int.natCast_mul, wi64 (x := ((r * p : Nat) : Int)) (by omega) (by omega)]
theorem sqf_loop {g : Int} (hg : g = 1 ∨ g = -1) : ∀ (L2 L1 : List (Nat × Nat)) (s r : Nat), (∀ x ∈ L2, Pr x.1 ∧ 1 ≤ x.2 ∧ x.1 ≤ 2147483647 ∧ x.2 ≤ 100) → (L1 ++ L2).length ≤ 100 → s * sf L2 ≤ 2147483647 → r * sr L2 ≤ 2147483647 → 1 ≤ sf L2 → 1 ≤ sr L2 →
    iterL (fun x : Int × Int × (List PW) × Int × Int × Unit => prime_Squarefree.s1 x.1 x.2.1 x.2.2.1 x.2.2.2.1 x.2.2.2.2.1) (g * (s : Nat), (r : Int), encP (L1 ++ L2), (((encP (L1 ++ L2)).length : Nat) : Int), ((L1.length : Nat) : Int), ()) = some (g * (s * sf L2 : Nat), ((r * sr L2 : Nat) : Int), ())
  | [], L1, s, r, _, hl, _, _, _, _ => by
    refine iterL_done ?_
    simp only [prime_Squarefree.s1, cite, decide_eq_true_eq]
    rw [encP_length, if_neg (by simp)]
    simp [sf, sr]
  | (p, e) :: L2, L1, s, r, hx, hl, hsb, hrb, h1, h2 => by
    obtain ⟨hp, he, hpM, heM⟩ := hx (p, e) (List.mem_cons_self ..)
    simp only at hp he hpM heM
    simp only [sf, sr] at hsb hrb h1 h2 ⊢
    have hp1 : 1 ≤ p := by have := hp.1; omega
    have s1 : 1 ≤ sf L2 := by
      rcases Nat.eq_zero_or_pos (sf L2) with h | h
      · rw [h] at h1; simp at h1
      · exact h
    have r1 : 1 ≤ sr L2 := by
      rcases Nat.eq_zero_or_pos (sr L2) with h | h
      · rw [h] at h2; simp at h2
      · exact h
    have hlen : (L1.length : Int) < ((encP (L1 ++ (p, e) :: L2)).length : Nat) := by
      rw [encP_length, List.length_append, List.length_cons]; omega
    have hl1 : L1.length ≤ 100 := by rw [List.length_append] at hl; omega
    have hsplit : L1 ++ (p, e) :: L2 = (L1 ++ [(p, e)]) ++ L2 := by simp
    have hl' : ((L1 ++ [(p, e)]) ++ L2).length ≤ 100 := by rw [← hsplit]; exact hl
    have hL1 : (L1 ++ [(p, e)]).length = L1.length + 1 := by simp
    rw [← Nat.mul_assoc] at hsb hrb
    have hsb2 : s * p ^ (e % 2) * 1 ≤ s * p ^ (e % 2) * sf L2 := Nat.mul_le_mul_left _ s1
    have hrb2 : r * p ^ (e / 2) * 1 ≤ r * p ^ (e / 2) * sr L2 := Nat.mul_le_mul_left _ r1
    have ih := sqf_loop hg L2 (L1 ++ [(p, e)]) (s * p ^ (e % 2)) (r * p ^ (e / 2)) (fun x h => hx x (List.mem_cons_of_mem _ h)) hl' hsb hrb s1 r1
    rw [hL1, ← hsplit, Nat.mul_assoc s, Nat.mul_assoc r] at ih
    have hin := sqf_inner (LS := encP (L1 ++ (p, e) :: L2)) (len := (((encP (L1 ++ (p, e) :: L2)).length : Nat) : Int)) (i := ((L1.length : Nat) : Int)) hp1 heM (g * (s * p ^ (e % 2) : Nat)) (e / 2) 0 r (by omega) (by omega) (by omega)
    refine (iterL_next ?_).trans ih
    simp only [prime_Squarefree.s1, prime_Squarefree.j3, prime_Squarefree.j4, prime_Squarefree.k0, cite, decide_eq_true_eq, beq_iff_eq, inB_t]
    rw [if_pos hlen, if_pos (by omega), Int.toNat_natCast, rdP_at]
    simp only []
    rw [show ((0 : Nat) : Int) = 0 from rfl] at hin
    rw [show Int.tmod (e : Int) 2 = ((e % 2 : Nat) : Int) from tmod_nat e 2]
    have hfin : ∀ S : Int, S = g * (s * p ^ (e % 2) : Nat) → ((iterL (fun x : Int × Int × Int × (List PW) × Int × Int × PW × Unit => prime_Squarefree.s0 x.1 x.2.1 x.2.2.1 x.2.2.2.1 x.2.2.2.2.1 x.2.2.2.2.2.1 x.2.2.2.2.2.2.1) (S, (r : Int), (0 : Int), encP (L1 ++ (p, e) :: L2), (((encP (L1 ++ (p, e) :: L2)).length : Nat) : Int), ((L1.length : Nat) : Int), ((p : Int), (e : Int), ()), ())).bind fun y => (some (.inl (y.1, y.2.1, y.2.2.1, y.2.2.2.1, (IntKind.wrap .i64 (y.2.2.2.2.1 + 1)), ())) : Option ((Int × Int × (List PW) × Int × Int × Unit) ⊕ (Int × Int × Unit)))) = some (.inl (g * (s * p ^ (e % 2) : Nat), ((r * p ^ (e / 2) : Nat) : Int), encP (L1 ++ (p, e) :: L2), (((encP (L1 ++ (p, e) :: L2)).length : Nat) : Int), ((L1.length + 1 : Nat) : Int), ())) := by
      rintro S rfl
      rw [hin, Option.bind_some]
      simp only []
      rw [up (by omega)]
    rcases Nat.mod_two_eq_zero_or_one e with h | h
    · rw [h] at hfin ⊢
      rw [if_neg (by omega)]
      exact hfin _ (by rw [Nat.pow_zero, Nat.mul_one])
    · rw [h] at hfin ⊢
      rw [if_pos (show ((1 : Nat) : Int) = 1 from rfl)]
      have hw : g * (s : Nat) * (p : Int) = g * ((s * p : Nat) : Int) := by rw [Int.mul_assoc, Int.natCast_mul]
      rw [h, Nat.pow_one] at hsb2 hsb
      have hb' : s * p ≤ 2147483647 := by omega
      refine hfin _ ?_
      rw [Nat.pow_one, hw]
      generalize s * p = z at hb' ⊢
      rw [wi64 (by rcases hg with rfl | rfl <;> omega) (by rcases hg with rfl | rfl <;> omega)]
theorem sqf_bad {n : Int} (h : n = 0 ∨ 2147483647 < n ∨ n < -2147483647) : prime_Squarefree n = some (0, 0, 1, ()) := by
  unfold prime_Squarefree
  simp only [cite, beq_iff_eq]
  by_cases h0 : n = 0
  · rw [if_pos h0]
  · rw [if_neg h0, beyond_ok, decide_eq_true (by omega), Option.bind_some, if_pos rfl]
theorem sqf_ok {n : Int} (h0 : n ≠ 0) (hn : -2147483647 ≤ n ∧ n ≤ 2147483647) : ∃ s r, SqOf n s r ∧ prime_Squarefree n = some (s, r, 0, ()) := by
  obtain ⟨m, hm⟩ : ∃ m : Nat, n.natAbs = m := ⟨_, rfl⟩
  obtain ⟨L, hL, hF⟩ := factor_nat m (by omega) (by omega)
  obtain ⟨hb, hlen⟩ := fac_bounds hL (by omega)
  obtain ⟨s1, r1⟩ := hL.sf_pos
  have he := hL.sf_sr
  have hsb : sf L ≤ m := by
    have : sf L * 1 ≤ sf L * (sr L * sr L) := Nat.mul_le_mul_left _ (Nat.mul_pos r1 r1)
    omega
  have hrb : sr L ≤ m := by
    have a : sr L * 1 ≤ sr L * sr L := Nat.mul_le_mul_left _ r1
    have b : 1 * (sr L * sr L) ≤ sf L * (sr L * sr L) := Nat.mul_le_mul_right _ s1
    omega
  have hg : (if n < 0 then (-1 : Int) else 1) = 1 ∨ (if n < 0 then (-1 : Int) else 1) = -1 := by split <;> simp
  have hloop := sqf_loop hg L [] 1 1 hb (by simpa using hlen) (by omega) (by omega) s1 r1
  simp only [List.nil_append, Nat.one_mul] at hloop
  refine ⟨_, _, ⟨sf L, sr L, _, hg, ?_, rfl, rfl, hL.sf_sqf, s1, r1⟩, ?_⟩
  · rw [← he]; split <;> omega
  · unfold prime_Squarefree
    simp only [cite, beq_iff_eq, decide_eq_true_eq]
    rw [if_neg h0, beyond_ok, decide_eq_false (by omega), Option.bind_some, if_neg (by decide)]
    simp only [prime_Squarefree.j1, prime_Squarefree.j2, prime_Squarefree.j6, cite, decide_eq_true_eq]
    by_cases hneg : n < 0
    · rw [if_pos hneg] at hloop ⊢
      rw [show IntKind.wrap .i64 (0 - n) = (m : Int) by rw [wi64 (by omega) (by omega)]; omega, hF, Option.bind_some]
      simp only []
      have hl2 : iterL (fun x : Int × Int × (List PW) × Int × Int × Unit => prime_Squarefree.s1 x.1 x.2.1 x.2.2.1 x.2.2.2.1 x.2.2.2.2.1) ((-1 : Int), (1 : Int), encP L, (((encP L).length : Nat) : Int), (0 : Int), ()) = _ := hloop
      rw [hl2, Option.bind_some, if_pos hneg]
      rfl
    · rw [if_neg hneg] at hloop ⊢
      rw [show n = (m : Int) by omega, hF, Option.bind_some]
      simp only []
      have hl2 : iterL (fun x : Int × Int × (List PW) × Int × Int × Unit => prime_Squarefree.s1 x.1 x.2.1 x.2.2.1 x.2.2.2.1 x.2.2.2.2.1) ((1 : Int), (1 : Int), encP L, (((encP L).length : Nat) : Int), (0 : Int), ()) = _ := hloop
      rw [hl2, Option.bind_some, if_neg (by omega)]
      rfl
end Go.Proofs.Ytbchgegclgpdhaa.V
/- Laws: the symbol modulo any prime number, of the program and of the reference. -/
namespace Go.Proofs.Ytbchgegclgpdhaa.V
open Go Go.Proofs.Ytbchgegclgpdhaa.E Go.Proofs.Ytbchgegclgpdhaa.LI Go.Proofs.Ytbchgegclgpdhaa.Num
set_option linter.unusedVariables false
set_option linter.unusedSimpArgs false
theorem emod_res {a : Int} {p : Nat} (hp : 2 ≤ p) : ∃ r : Nat, a % (p : Int) = r ∧ r < p := by
  have h0 := Int.emod_nonneg a (show (p : Int) ≠ 0 by omega)
  have h1 := Int.emod_lt_of_pos a (show (0 : Int) < p by omega)
  exact ⟨(a % (p : Int)).toNat, by omega, by omega⟩
theorem symbol_ok {p : Nat} (hp : Pr p) (hpM : p ≤ 2147483647) (a : Int) : prime_symbol a (p : Int) = some (sy a p) := by
  have hp2 := hp.1
  obtain ⟨r, hr, hrp⟩ := emod_res (a := a) hp2
  by_cases h2 : p = 2
  · subst h2
    unfold prime_symbol sy
    simp only [cite, beq_iff_eq]
    have h8 := residue_ok a 8 (by omega) (by omega)
    have h8' : prime_residue a 8 = some (a % 8) := h8
    rw [if_pos (by rfl), h8', Option.bind_some, if_pos trivial]
    simp only [prime_symbol.j1, prime_symbol.j2, prime_symbol.j3, prime_symbol.j4, cite, beq_iff_eq]
    have h9 : a % 8 = 0 ∨ a % 8 = 1 ∨ a % 8 = 2 ∨ a % 8 = 3 ∨ a % 8 = 4 ∨ a % 8 = 5 ∨ a % 8 = 6 ∨ a % 8 = 7 := by omega
    rcases h9 with h | h | h | h | h | h | h | h <;> simp [h]
  · unfold sy
    rw [if_neg h2]
    by_cases hz : a % (p : Int) = 0
    · unfold prime_symbol
      simp only [prime_symbol.j5, cite, beq_iff_eq]
      rw [if_neg (by omega), residue_ok a p (by omega) hpM, Option.bind_some, if_pos hz, if_pos hz]
    · rw [if_neg hz]
      have h := symbol_unit hp h2 hpM (r := r) (by omega) hrp
      unfold prime_symbol at h ⊢
      simp only [prime_symbol.j5, cite, beq_iff_eq] at h ⊢
      rw [if_neg (by omega)] at h ⊢
      rw [residue_ok (r : Int) p (by omega) hpM, Option.bind_some, Int.emod_eq_of_lt (by omega) (by omega)] at h
      rw [residue_ok a p (by omega) hpM, Option.bind_some, hr, h, Int.toNat_natCast]
      rfl
end Go.Proofs.Ytbchgegclgpdhaa.V
/- Laws: the Kronecker symbol of the program. -/
namespace Go.Proofs.Ytbchgegclgpdhaa.V
open Go Go.Proofs.Ytbchgegclgpdhaa.E Go.Proofs.Ytbchgegclgpdhaa.LI Go.Proofs.Ytbchgegclgpdhaa.Num
set_option linter.unusedVariables false
set_option linter.unusedSimpArgs false
theorem pm_mul {a b : Int} (ha : a = 1 ∨ a = -1) (hb : b = 1 ∨ b = -1) : a * b = 1 ∨ a * b = -1 := by
  rcases ha with rfl | rfl <;> rcases hb with rfl | rfl <;> simp
theorem pm_pow {a : Int} (ha : a = 1 ∨ a = -1) : ∀ e : Nat, a ^ e = if e % 2 = 1 then a else 1
  | 0 => by simp
  | e + 1 => by
    rw [Int.pow_succ, pm_pow ha e]
    rcases ha with rfl | rfl <;> split <;> split <;> first | omega | rfl
theorem kron_loop {a : Int} : ∀ (L2 L1 : List (Nat × Nat)) (s : Int), (∀ x ∈ L2, Pr x.1 ∧ 1 ≤ x.2 ∧ x.1 ≤ 2147483647 ∧ x.2 ≤ 100) → (L1 ++ L2).length ≤ 100 → (s = 1 ∨ s = -1) →
    ∃ z, iterL (fun x : Int × Int × (List PW) × Int × Int × Unit => prime_Kronecker.s0 x.1 x.2.1 x.2.2.1 x.2.2.2.1 x.2.2.2.2.1) (a, s, encP (L1 ++ L2), (((encP (L1 ++ L2)).length : Nat) : Int), ((L1.length : Nat) : Int), ()) = some z ∧
      (z = .inl (s * val (sy a) L2, ()) ∨ (z = .inr (0, 0, ()) ∧ s * val (sy a) L2 = 0))
  | [], L1, s, _, hl, _ => by
    refine ⟨_, iterL_done ?_, .inl rfl⟩
    simp only [prime_Kronecker.s0, cite, decide_eq_true_eq]
    rw [encP_length, if_neg (by simp)]
    simp [val]
  | (p, e) :: L2, L1, s, hx, hl, hs => by
    obtain ⟨hp, he, hpM, heM⟩ := hx (p, e) (List.mem_cons_self ..)
    simp only at hp he hpM heM
    have hsym := symbol_ok hp hpM a
    have hlen : (L1.length : Int) < ((encP (L1 ++ (p, e) :: L2)).length : Nat) := by
      rw [encP_length, List.length_append, List.length_cons]; omega
    have hl1 : L1.length ≤ 100 := by rw [List.length_append] at hl; omega
    have hmod : Int.tmod (e : Int) 2 = ((e % 2 : Nat) : Int) := tmod_nat e 2
    have hstep : prime_Kronecker.s0 a s (encP (L1 ++ (p, e) :: L2)) (((encP (L1 ++ (p, e) :: L2)).length : Nat) : Int) ((L1.length : Nat) : Int) =
        if sy a p = 0 then some (.inr (.inr (0, 0, ()))) else if e % 2 = 1 then some (.inl (a, IntKind.wrap .i64 (s * sy a p), encP (L1 ++ (p, e) :: L2), (((encP (L1 ++ (p, e) :: L2)).length : Nat) : Int), ((L1.length + 1 : Nat) : Int), ())) else some (.inl (a, s, encP (L1 ++ (p, e) :: L2), (((encP (L1 ++ (p, e) :: L2)).length : Nat) : Int), ((L1.length + 1 : Nat) : Int), ())) := by
      simp only [prime_Kronecker.s0, prime_Kronecker.j6, prime_Kronecker.j7, prime_Kronecker.j8, cite, decide_eq_true_eq, beq_iff_eq, inB_t]
      rw [if_pos hlen, if_pos (by omega), Int.toNat_natCast, rdP_at]
      simp only []
      rw [hsym, Option.bind_some, hmod, up (by omega)]
      by_cases hs0 : sy a p = 0
      · rw [if_pos hs0, if_pos hs0]
      · rw [if_neg hs0, if_neg hs0]
        by_cases h1 : e % 2 = 1
        · rw [if_pos h1, if_pos (by omega)]
        · rw [if_neg h1, if_neg (by omega)]
    have hsplit : L1 ++ (p, e) :: L2 = (L1 ++ [(p, e)]) ++ L2 := by simp
    have hl' : ((L1 ++ [(p, e)]) ++ L2).length ≤ 100 := by rw [← hsplit]; exact hl
    have hL1 : (L1 ++ [(p, e)]).length = L1.length + 1 := by simp
    rcases sy_range a p with hv | hv | hv
    all_goals rw [hv] at hstep
    · have hval : val (sy a) ((p, e) :: L2) = val (sy a) L2 := by
        simp only [val]; rw [hv, Int.one_pow, Int.one_mul]
      have ih := kron_loop (a := a) L2 (L1 ++ [(p, e)]) s (fun x h => hx x (List.mem_cons_of_mem _ h)) hl' hs
      rw [hL1, ← hsplit] at ih
      rw [hval]
      obtain ⟨z, q1, q2⟩ := ih
      refine ⟨z, (iterL_next ?_).trans q1, q2⟩
      simp only []
      rw [hstep, if_neg (by omega), Int.mul_one, wi64 (by omega) (by omega), ite_self]
    · have hval : val (sy a) ((p, e) :: L2) = 0 := by
        simp only [val]; rw [hv, Int.zero_pow (by omega), Int.zero_mul]
      rw [hval, Int.mul_zero]
      exact ⟨_, iterL_done (by simp only []; rw [hstep, if_pos rfl]), .inr ⟨rfl, rfl⟩⟩
    · by_cases ho : e % 2 = 1
      · have hval : s * val (sy a) ((p, e) :: L2) = (s * -1) * val (sy a) L2 := by
          simp only [val]; rw [hv, pm_pow (.inr rfl), if_pos ho, Int.mul_assoc]
        have ih := kron_loop (a := a) L2 (L1 ++ [(p, e)]) (s * -1) (fun x h => hx x (List.mem_cons_of_mem _ h)) hl' (pm_mul hs (.inr rfl))
        rw [hL1, ← hsplit] at ih
        rw [hval]
        obtain ⟨z, q1, q2⟩ := ih
        refine ⟨z, (iterL_next ?_).trans q1, q2⟩
        simp only []
        rw [hstep, if_neg (by omega), if_pos ho, wi64 (by omega) (by omega)]
      · have hval : s * val (sy a) ((p, e) :: L2) = s * val (sy a) L2 := by
          simp only [val]; rw [hv, pm_pow (.inr rfl), if_neg ho, Int.one_mul]
        have ih := kron_loop (a := a) L2 (L1 ++ [(p, e)]) s (fun x h => hx x (List.mem_cons_of_mem _ h)) hl' hs
        rw [hL1, ← hsplit] at ih
        rw [hval]
        obtain ⟨z, q1, q2⟩ := ih
        refine ⟨z, (iterL_next ?_).trans q1, q2⟩
        simp only []
        rw [hstep, if_neg (by omega), if_neg ho]
end Go.Proofs.Ytbchgegclgpdhaa.V
/- Laws: the Kronecker symbol of the program, whole. -/
namespace Go.Proofs.Ytbchgegclgpdhaa.V
open Go Go.Proofs.Ytbchgegclgpdhaa.E Go.Proofs.Ytbchgegclgpdhaa.LI Go.Proofs.Ytbchgegclgpdhaa.Num
set_option linter.unusedVariables false
set_option linter.unusedSimpArgs false
/-- The symbol (a/n) -/
def kr (a n : Int) (v : Int) : Prop :=
  (n = 0 ∧ v = if a = 1 ∨ a = -1 then 1 else 0) ∨ (n ≠ 0 ∧ ∃ L, Fac 1 n.natAbs L ∧ v = (if n < 0 ∧ a < 0 then -1 else 1) * val (sy a) L)
theorem kron_ok {a n : Int} (ha : -2147483647 ≤ a ∧ a ≤ 2147483647) (hn : -2147483647 ≤ n ∧ n ≤ 2147483647) : ∃ v, kr a n v ∧ prime_Kronecker a n = some (v, 0, ()) := by
  unfold prime_Kronecker
  rw [beyond_ok, Option.bind_some, decide_eq_false (by omega), cond_false, beyond_ok, Option.bind_some, decide_eq_false (by omega), cond_false]
  simp only [prime_Kronecker.j1, prime_Kronecker.j2, cite, beq_iff_eq]
  by_cases h0 : n = 0
  · rw [if_pos h0]
    refine ⟨_, .inl ⟨h0, rfl⟩, ?_⟩
    by_cases h1 : a = 1
    · rw [if_pos h1, if_pos (.inl h1)]
    · rw [if_neg h1]
      by_cases h2 : a = -1
      · rw [if_pos h2, if_pos (.inr h2)]
      · rw [if_neg h2, if_neg (by omega)]
  · rw [if_neg h0]
    obtain ⟨m, hm⟩ : ∃ m : Nat, n.natAbs = m := ⟨_, rfl⟩
    obtain ⟨L, hL, hF⟩ := factor_nat m (by omega) (by omega)
    obtain ⟨hb, hlen⟩ := fac_bounds hL (by omega)
    refine ⟨_, .inr ⟨h0, L, by rw [hm]; exact hL, rfl⟩, ?_⟩
    have run : ∀ s : Int, (s = 1 ∨ s = -1) → ((prime_Factor (m : Int)).bind fun y7 => (iterL (fun x : Int × Int × (List PW) × Int × Int × Unit => prime_Kronecker.s0 x.1 x.2.1 x.2.2.1 x.2.2.2.1 x.2.2.2.2.1) (a, s, y7.1, ((List.length y7.1 : Nat) : Int), (0 : Int), ())).bind fun z => Sum.casesOn (motive := fun _ => Option (Int × Int × Unit)) z (fun y => prime_Kronecker.k0_0 y.1) (fun z => prime_Kronecker.k0_1 z.1 z.2.1)) = some (s * val (sy a) L, 0, ()) := fun s hs => by
      obtain ⟨z, q1, q2⟩ := kron_loop (a := a) L [] s hb (by simpa using hlen) hs
      simp only [List.nil_append] at q1
      have q1' : iterL (fun x : Int × Int × (List PW) × Int × Int × Unit => prime_Kronecker.s0 x.1 x.2.1 x.2.2.1 x.2.2.2.1 x.2.2.2.2.1) (a, s, encP L, ((List.length (encP L) : Nat) : Int), (0 : Int), ()) = some z := q1
      rw [hF, Option.bind_some]
      simp only []
      rw [q1', Option.bind_some]
      rcases q2 with rfl | ⟨rfl, q3⟩
      · rfl
      · rw [q3]; rfl
    have hw : n < 0 → IntKind.wrap .i64 (0 - n) = (m : Int) := fun h => by rw [wi64 (by omega) (by omega)]; omega
    simp only [prime_Kronecker.j3, prime_Kronecker.j4, prime_Kronecker.j5, prime_Kronecker.j9, prime_Kronecker.j10, cite, decide_eq_true_eq]
    by_cases h1 : n < 0
    · rw [if_pos h1, hw h1]
      by_cases h2 : a < 0
      · rw [if_pos h2, if_pos ⟨h1, h2⟩]
        exact run (-1) (.inr rfl)
      · rw [if_neg h2, if_neg (by omega)]
        exact run 1 (.inl rfl)
    · rw [if_neg h1, if_neg (by omega), show n = (m : Int) by omega]
      exact run 1 (.inl rfl)
end Go.Proofs.Ytbchgegclgpdhaa.V
