/- Bernoulli numbers: what both compute. -/
import Derived.Test.YtbchgegclgpdhaaD8
namespace Go.Proofs.Ytbchgegclgpdhaa.V
open Go Go.Proofs.Ytbchgegclgpdhaa.E Go.Proofs.Ytbchgegclgpdhaa.LI
set_option linter.unusedVariables false
set_option linter.unusedSimpArgs false

def rowN : Nat → List Nat
  | 0 => [1]
  | n + 1 => List.zipWith (· + ·) (0 :: rowN n) (rowN n ++ [0])
def bin (n k : Nat) : Nat := (rowN n).getD k 0
/-- The sum of c(j) l(j) over j below i. -/
def bsum (c : Nat → Nat) (l : List Rat) : Nat → Rat
  | 0 => 0
  | i + 1 => bsum c l i + ((c i : Int) : Rat) * l.getD i 0
def bnext (n : Nat) (l : List Rat) : Rat := -(bsum (bin (n + 1)) l n) / (((n + 1 : Nat) : Int) : Rat)
/-- B_0 .. B_k. -/
def bern : Nat → List Rat
  | 0 => [1]
  | k + 1 => bern k ++ [bnext (k + 1) (bern k)]
theorem bern_len : ∀ k, (bern k).length = k + 1
  | 0 => rfl
  | k + 1 => by rw [bern, List.length_append, bern_len k]; rfl
theorem rowN_len : ∀ n, (rowN n).length = n + 1
  | 0 => rfl
  | n + 1 => by rw [rowN, List.length_zipWith, List.length_cons, List.length_append, rowN_len n]; simp
def bqb (n : Nat) (q : Rat) : Bool := decide (q.num.natAbs < 2 ^ n) && decide (q.den < 2 ^ n)
theorem bq_of {n : Nat} {q : Rat} (h : bqb n q = true) : BQ n q := by
  unfold bqb at h
  rw [Bool.and_eq_true, decide_eq_true_eq, decide_eq_true_eq] at h
  exact h
theorem row_tab : ∀ n : Fin 22, iterN (fun x : Int × Int × List Int × Unit => bernoulli_row.s0 x.1 x.2.1 x.2.2.1) 30 ((n.val : Int), (1 : Int), [(1 : Int)], ()) = some ((rowN n.val).map (fun c : Nat => (c : Int)), ()) := by decide +kernel
theorem row_ok {n : Nat} (h : n ≤ 21) : bernoulli_row (n : Int) = some ((rowN n).map fun c : Nat => (c : Int)) := by
  unfold bernoulli_row
  rw [iterL_of (row_tab ⟨n, by omega⟩)]
  rfl
theorem bin_tab : ∀ n : Fin 22, ∀ k : Fin 22, k.val ≤ n.val → iterN (fun x : Int × Int × Int × Int × Unit => quadformref31_Binomial.s0 x.1 x.2.1 x.2.2.1 x.2.2.2.1) 30 ((n.val : Int), (k.val : Int), (1 : Int), (0 : Int), ()) = some ((bin n.val k.val : Int), ()) := by decide +kernel
theorem binomial_ok {n k : Nat} (h : n ≤ 21) (hk : k ≤ n) : quadformref31_Binomial (n : Int) (k : Int) = some (bin n k : Int) := by
  unfold quadformref31_Binomial
  rw [iterL_of (bin_tab ⟨n, by omega⟩ ⟨k, by omega⟩ hk)]
  rfl
theorem bin_le : ∀ n : Fin 22, ∀ k : Fin 23, bin n.val k.val < 1000000 := by decide +kernel
theorem bern_b : ((List.range 21).all fun k => (List.range (k + 1)).all fun i => bqb 100 ((bern k).getD i 0) && bqb 100 (bsum (bin (k + 1)) (bern (k - 1)) i)) = true := by decide +kernel
theorem bern_bd {k i : Nat} (hk : k ≤ 20) (hi : i ≤ k) : BQ 100 ((bern k).getD i 0) ∧ BQ 100 (bsum (bin (k + 1)) (bern (k - 1)) i) := by
  have h := List.all_eq_true.1 bern_b k (List.mem_range.2 (by omega))
  have h2 := List.all_eq_true.1 h i (List.mem_range.2 (by omega))
  rw [Bool.and_eq_true] at h2
  exact ⟨bq_of h2.1, bq_of h2.2⟩
theorem whole_ok {z : Int} (h : -9223372036854775808 ≤ z) (h' : z ≤ 9223372036854775807) : bernoulli_whole z = some (mkQ (z : Rat)) := by
  unfold bernoulli_whole
  rw [small_ok h h', Option.bind_some]
  simp only [etaI, etaQ, etaP]
  rw [qwhole (Bd.i64 h h') (by decide), Option.bind_some]
theorem getD_map {α β : Type} (f : α → β) (l : List α) (i : Nat) (d : β) (e : α) (h : i < l.length) : (l.map f).getD i d = f (l.getD i e) := by
  simp [List.getD_eq_getElem?_getD, List.getElem?_eq_getElem h]
theorem bq_nat {n : Nat} (h : n < 1000000) : BQ 64 (((n : Int)) : Rat) := BQ.int (Bd.i64 (by omega) (by omega)) (by omega)
abbrev zero : QV := ((false, (([] : List Int), ())), ((false, (([] : List Int), ())), ()))
theorem num_inner {n : Nat} (h1 : 1 ≤ n) (h2 : n ≤ 20) (t0 : Int) : ∀ (t i : Nat), n - i = t → i ≤ n →
    iterL (fun x : Int × Int × List Int × Int × Int × (List ((Bool × List Int × Unit) × (Bool × List Int × Unit) × Unit)) × ((Bool × List Int × Unit) × (Bool × List Int × Unit) × Unit) × Unit => bernoulli_numbers.s0 x.1 x.2.1 x.2.2.1 x.2.2.2.1 x.2.2.2.2.1 x.2.2.2.2.2.1 x.2.2.2.2.2.2.1) (t0, (n : Int), ((rowN (n + 1)).map fun c : Nat => (c : Int)).take n, (n : Int), (i : Int), (bern (n - 1)).map mkQ, mkQ (bsum (bin (n + 1)) (bern (n - 1)) i), ()) =
      some (t0, (n : Int), (bern (n - 1)).map mkQ, mkQ (bsum (bin (n + 1)) (bern (n - 1)) n), ()) := by
  intro t
  induction t with
  | zero =>
    intro i ht hi
    obtain rfl : i = n := by omega
    refine iterL_done ?_
    simp only [bernoulli_numbers.s0, cite, decide_eq_true_eq, etaQ, etaP]
    rw [if_neg (by omega)]
  | succ t ih =>
    intro i ht hi
    refine (iterL_next ?_).trans (ih (i + 1) (by omega) (by omega))
    have hl := bern_len (n - 1)
    have hr := rowN_len (n + 1)
    have hb : bin (n + 1) i < 1000000 := bin_le ⟨n + 1, by omega⟩ ⟨i, by omega⟩
    have hbd := bern_bd (k := n - 1) (i := i) (by omega) (by omega)
    have hbs := bern_bd (k := n) (i := i) (by omega) (by omega)
    simp only [bernoulli_numbers.s0, bernoulli_numbers.j2, cite, decide_eq_true_eq, inB_t, etaI, etaQ, etaP]
    have e1 : (((rowN (n + 1)).map fun c : Nat => (c : Int)).take n).getD i 0 = (bin (n + 1) i : Int) := by
      unfold bin
      rw [← List.map_take, getD_map _ _ _ _ 0 (by rw [List.length_take]; omega)]
      simp [List.getD_eq_getElem?_getD, List.getElem?_take, show i < n by omega]
    rw [if_pos (by omega), if_pos (by rw [List.length_take, List.length_map]; omega), Int.toNat_natCast, e1, whole_ok (by omega) (by omega), Option.bind_some, if_pos (by rw [List.length_map]; omega), Nat.zero_add, getD_map mkQ _ _ _ 0 (by omega), qmul (bq_nat hb) hbd.1 (by omega), Option.bind_some, qadd hbs.2 ((bq_nat hb).mul hbd.1) (by omega), Option.bind_some, up (by omega)]
    rfl
theorem bsum_ne (n : Nat) : (((n + 1 : Nat) : Int) : Rat) ≠ 0 := fun h => by
  have := Rat.intCast_eq_zero_iff.1 h
  omega
theorem num_outer {k : Nat} (hk : k ≤ 20) : ∀ (t n : Nat), k + 1 - n = t → 1 ≤ n → n ≤ k + 1 →
    iterL (fun x : Int × Int × (List ((Bool × List Int × Unit) × (Bool × List Int × Unit) × Unit)) × Unit => bernoulli_numbers.s1 x.1 x.2.1 x.2.2.1) ((k : Int), (n : Int), (bern (n - 1)).map mkQ, ()) = some ((bern k).map mkQ, ()) := by
  intro t
  induction t with
  | zero =>
    intro n ht h1 hn
    obtain rfl : n = k + 1 := by omega
    refine iterL_done ?_
    simp only [bernoulli_numbers.s1, cite, decide_eq_true_eq]
    rw [if_neg (by omega)]
    rfl
  | succ t ih =>
    intro n ht h1 hn
    refine (iterL_next ?_).trans (ih (n + 1) (by omega) (by omega) (by omega))
    have hl := bern_len (n - 1)
    have hr := rowN_len (n + 1)
    have hbs := bern_bd (k := n) (i := n) (by omega) (by omega)
    have hin := num_inner h1 (by omega) (k : Int) _ 0 rfl (by omega)
    rw [show ((0 : Nat) : Int) = 0 from rfl, show bsum (bin (n + 1)) (bern (n - 1)) 0 = 0 from rfl] at hin
    have hm : List.length (List.take n ((rowN (n + 1)).map fun c : Nat => (c : Int))) = n := by rw [List.length_take, List.length_map]; omega
    have hrow := row_ok (n := n + 1) (by omega)
    simp only [bernoulli_numbers.s1, bernoulli_numbers.j1, cite, decide_eq_true_eq, inC_t, etaI, etaQ, etaP]
    rw [if_pos (by omega), whole_ok (by omega) (by omega), Option.bind_some, up (by omega), hrow, Option.bind_some, if_pos (by rw [List.length_map]; omega), Int.toNat_natCast, hm, show (((0 : Int) : Int) : Rat) = 0 from rfl, hin, Option.bind_some]
    simp only [bernoulli_numbers.k0, cite, decide_eq_true_eq, maxL_eq, etaI, etaQ, etaP]
    rw [qneg hbs.2 (by omega), Option.bind_some, up (by omega), whole_ok (by omega) (by omega), Option.bind_some, qquo (m := 64) hbs.2.neg (bq_nat (n := n + 1) (by omega)) (by omega) (bsum_ne n), Option.bind_some, if_pos (by rw [List.length_map, List.length_singleton]; exact decide_eq_true (by omega))]
    obtain ⟨m, rfl⟩ : ∃ m, n = m + 1 := ⟨n - 1, by omega⟩
    rw [show m + 1 + 1 - 1 = m + 1 from rfl, bern, List.map_append]
    rfl
theorem numbers_ok {k : Nat} (hk : k ≤ 20) : bernoulli_numbers (k : Int) = some ((bern k).map mkQ) := by
  unfold bernoulli_numbers
  rw [whole_ok (by decide) (by decide), Option.bind_some]
  have h := num_outer hk _ 1 rfl (by omega) (by omega)
  have h' : iterL (fun x : Int × Int × (List ((Bool × List Int × Unit) × (Bool × List Int × Unit) × Unit)) × Unit => bernoulli_numbers.s1 x.1 x.2.1 x.2.2.1) ((k : Int), (1 : Int), [mkQ ((1 : Int) : Rat)], ()) = _ := h
  rw [h', Option.bind_some]
  rfl
theorem number_ok {k : Nat} (hk : k ≤ 20) : bernoulli_Number (k : Int) = some (mkQ ((bern k).getD k 0), 0, ()) := by
  have hl := bern_len k
  unfold bernoulli_Number
  simp only [bernoulli_Number.j1, cite, decide_eq_true_eq, inB_t, etaI, etaQ, etaP]
  rw [if_neg (by omega), if_neg (by omega), numbers_ok hk, Option.bind_some, if_pos (by rw [List.length_map]; omega), Int.toNat_natCast, getD_map mkQ _ _ _ 0 (by omega)]
theorem number_bad {k : Int} (h : k < 0 ∨ 20 < k) : bernoulli_Number k = some (zQ, 1, ()) := by
  unfold bernoulli_Number
  simp only [cite, decide_eq_true_eq]
  by_cases h0 : k < 0
  · rw [if_pos h0]; rfl
  · rw [if_neg h0, if_pos (by omega)]; rfl

/-! ## the reference -/
theorem rnum_inner {n : Nat} (h1 : 1 ≤ n) (h2 : n ≤ 20) (t0 : Int) : ∀ (t i : Nat), n - i = t → i ≤ n →
    iterL (fun x : Int × Int × Int × (List ((Bool × List Int × Unit) × (Bool × List Int × Unit) × Unit)) × ((Bool × List Int × Unit) × (Bool × List Int × Unit) × Unit) × Unit => quadformref31_numbers.s0 x.1 x.2.1 x.2.2.1 x.2.2.2.1 x.2.2.2.2.1) (t0, (n : Int), (i : Int), (bern (n - 1)).map mkQ, mkQ (bsum (bin (n + 1)) (bern (n - 1)) i), ()) =
      some (t0, (n : Int), (bern (n - 1)).map mkQ, mkQ (bsum (bin (n + 1)) (bern (n - 1)) n), ()) := by
  intro t
  induction t with
  | zero =>
    intro i ht hi
    obtain rfl : i = n := by omega
    refine iterL_done ?_
    simp only [quadformref31_numbers.s0, cite, decide_eq_true_eq, etaQ, etaP]
    rw [if_neg (by omega)]
  | succ t ih =>
    intro i ht hi
    refine (iterL_next ?_).trans (ih (i + 1) (by omega) (by omega))
    have hl := bern_len (n - 1)
    have hb : bin (n + 1) i < 1000000 := bin_le ⟨n + 1, by omega⟩ ⟨i, by omega⟩
    have hbd := bern_bd (k := n - 1) (i := i) (by omega) (by omega)
    have hbs := bern_bd (k := n) (i := i) (by omega) (by omega)
    simp only [quadformref31_numbers.s0, quadformref31_numbers.j2, cite, decide_eq_true_eq, inB_t, etaI, etaQ, etaP]
    rw [if_pos (by omega), up (by omega), binomial_ok (by omega) (by omega), Option.bind_some, rsmallQ (by omega) (by omega), Option.bind_some, if_pos (by rw [List.length_map]; omega), Int.toNat_natCast, Nat.zero_add, getD_map mkQ _ _ _ 0 (by omega), rmulQ (bq_nat hb) hbd.1 (by omega), Option.bind_some, raddQ hbs.2 ((bq_nat hb).mul hbd.1) (by omega), Option.bind_some, up (by omega)]
    rfl
theorem div_ok {n m : Nat} {a b : Rat} (h : BQ n a) (h' : BQ m b) (hn : n + m ≤ 1000000000) (h0 : b ≠ 0) : quadformref31_Div (mkQ a) (mkQ b) = some (mkQ (a / b)) := by
  unfold quadformref31_Div
  simp only [etaI, etaQ, etaP]
  rw [rquoQ h h' hn h0, Option.bind_some]
theorem rnum_outer {k : Nat} (hk : k ≤ 20) : ∀ (t n : Nat), k + 1 - n = t → 1 ≤ n → n ≤ k + 1 →
    iterL (fun x : Int × Int × (List ((Bool × List Int × Unit) × (Bool × List Int × Unit) × Unit)) × Unit => quadformref31_numbers.s1 x.1 x.2.1 x.2.2.1) ((k : Int), (n : Int), (bern (n - 1)).map mkQ, ()) = some ((bern k).map mkQ, ()) := by
  intro t
  induction t with
  | zero =>
    intro n ht h1 hn
    obtain rfl : n = k + 1 := by omega
    refine iterL_done ?_
    simp only [quadformref31_numbers.s1, cite, decide_eq_true_eq]
    rw [if_neg (by omega)]
    rfl
  | succ t ih =>
    intro n ht h1 hn
    refine (iterL_next ?_).trans (ih (n + 1) (by omega) (by omega) (by omega))
    have hl := bern_len (n - 1)
    have hbs := bern_bd (k := n) (i := n) (by omega) (by omega)
    have hin := rnum_inner h1 (by omega) (k : Int) _ 0 rfl (by omega)
    rw [show ((0 : Nat) : Int) = 0 from rfl, show bsum (bin (n + 1)) (bern (n - 1)) 0 = 0 from rfl] at hin
    simp only [quadformref31_numbers.s1, quadformref31_numbers.j1, cite, decide_eq_true_eq, inC_t, etaI, etaQ, etaP]
    rw [if_pos (by omega), rsmallQ (by decide) (by decide), Option.bind_some, show (((0 : Int) : Int) : Rat) = 0 from rfl, hin, Option.bind_some]
    simp only [quadformref31_numbers.k0, cite, decide_eq_true_eq, maxL_eq, etaI, etaQ, etaP]
    rw [rnegQ hbs.2 (by omega), Option.bind_some, up (by omega), rsmallQ (by omega) (by omega), Option.bind_some, div_ok (m := 64) hbs.2.neg (bq_nat (n := n + 1) (by omega)) (by omega) (bsum_ne n), Option.bind_some, if_pos (by rw [List.length_map, List.length_singleton]; exact decide_eq_true (by omega))]
    obtain ⟨m, rfl⟩ : ∃ m, n = m + 1 := ⟨n - 1, by omega⟩
    rw [show m + 1 + 1 - 1 = m + 1 from rfl, bern, List.map_append]
    rfl
theorem rnumbers_ok {k : Nat} (hk : k ≤ 20) : quadformref31_numbers (k : Int) = some ((bern k).map mkQ) := by
  unfold quadformref31_numbers
  rw [rsmallQ (by decide) (by decide), Option.bind_some]
  have h := rnum_outer hk _ 1 rfl (by omega) (by omega)
  have h' : iterL (fun x : Int × Int × (List ((Bool × List Int × Unit) × (Bool × List Int × Unit) × Unit)) × Unit => quadformref31_numbers.s1 x.1 x.2.1 x.2.2.1) ((k : Int), (1 : Int), [mkQ ((1 : Int) : Rat)], ()) = _ := h
  rw [h', Option.bind_some]
  rfl
theorem rnumber_ok {k : Nat} (hk : k ≤ 20) : quadformref31_Number (k : Int) = some (mkQ ((bern k).getD k 0), 0, ()) := by
  have hl := bern_len k
  unfold quadformref31_Number
  simp only [quadformref31_Number.j1, cite, decide_eq_true_eq, inB_t, etaI, etaQ, etaP]
  rw [if_neg (by omega), if_neg (by omega), rnumbers_ok hk, Option.bind_some, if_pos (by rw [List.length_map]; omega), Int.toNat_natCast, getD_map mkQ _ _ _ 0 (by omega)]
theorem rnumber_bad {k : Int} (h : k < 0 ∨ 20 < k) : quadformref31_Number k = some (zQ, 1, ()) := by
  unfold quadformref31_Number
  simp only [cite, decide_eq_true_eq]
  by_cases h0 : k < 0
  · rw [if_pos h0]; rfl
  · rw [if_neg h0, if_pos (by omega)]; rfl
end Go.Proofs.Ytbchgegclgpdhaa.V
