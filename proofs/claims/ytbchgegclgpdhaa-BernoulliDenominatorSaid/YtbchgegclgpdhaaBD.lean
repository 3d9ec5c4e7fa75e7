/- BernoulliDenominator: the law. -/
import Derived.Test.YtbchgegclgpdhaaB1
import Derived.Test.YtbchgegclgpdhaaA31
namespace Go.Proofs.Ytbchgegclgpdhaa.V
open Go Go.Proofs.Ytbchgegclgpdhaa.E Go.Proofs.Ytbchgegclgpdhaa.LI
set_option linter.unusedVariables false
set_option linter.unusedSimpArgs false
def pr22 (p : Nat) : Bool := (List.range p).all fun d => decide (d < 2) || decide (p % d ≠ 0)
theorem is_tab : ∀ p : Fin 22, 2 ≤ p.val → iterN (fun x : Int × Int × Unit => quadformref22_Is.s0 x.1 x.2.1) 30 ((p.val : Int), (2 : Int), ()) = some (if pr22 p.val then .inl () else .inr (false, ())) := by decide +kernel
theorem is22 {p : Nat} (h : 2 ≤ p) (h2 : p < 22) : quadformref22_Is (p : Int) = some (pr22 p) := by
  unfold quadformref22_Is
  simp only [quadformref22_Is.j1, cite, decide_eq_true_eq]
  rw [if_neg (by omega), if_neg (by omega), iterL_of (is_tab ⟨p, h2⟩ h), Option.bind_some]
  have e : pr22 (⟨p, h2⟩ : Fin 22).val = pr22 p := rfl
  rw [e]
  cases pr22 p <;> rfl
def dprod (n : Nat) : Nat → Nat
  | 0 => 1
  | j + 1 => if pr22 (j + 2) && decide (n % (j + 1) = 0) then dprod n j * (j + 2) else dprod n j
theorem dprod_tab : ((List.range 21).all fun n => (List.range (n + 1)).all fun j => decide (dprod n j < 1000000)) = true := by decide +kernel
theorem den_tab : ((List.range 10).all fun m => decide (((bern (2 + 2 * m)).getD (2 + 2 * m) 0).den = dprod (2 + 2 * m) (2 + 2 * m))) = true := by decide +kernel
theorem den_loop {n : Nat} (hn : n ≤ 20) (t5 : Int) (b4 : QV) : ∀ (t j : Nat), n - j = t → j ≤ n →
    iterL (fun x : Int × Int × Int × Int × ((Bool × List Int × Unit) × (Bool × List Int × Unit) × Unit) × Unit => quadformlaw31_BernoulliDenominator.s0 x.1 x.2.1 x.2.2.1 x.2.2.2.1 x.2.2.2.2.1) ((n : Int), t5, (dprod n j : Int), ((j + 2 : Nat) : Int), b4, ()) = some (t5, (dprod n n : Int), b4, ()) := by
  intro t
  induction t with
  | zero =>
    intro j ht hj
    obtain rfl : j = n := by omega
    refine iterL_done ?_
    simp only [quadformlaw31_BernoulliDenominator.s0, cite, decide_eq_true_eq, etaI, etaQ, etaP]
    rw [wi64 (by omega) (by omega), if_neg (by omega)]
  | succ t ih =>
    intro j ht hj
    refine (iterL_next ?_).trans (ih (j + 1) (by omega) (by omega))
    have hd := List.all_eq_true.1 (List.all_eq_true.1 dprod_tab n (List.mem_range.2 (by omega))) j (List.mem_range.2 (by omega))
    rw [decide_eq_true_eq] at hd
    have e1 : IntKind.wrap .i64 (((j + 2 : Nat) : Int) - 1) = ((j + 1 : Nat) : Int) := by rw [wi64 (by omega) (by omega)]; omega
    have e2 : Int.tmod (n : Int) ((j + 1 : Nat) : Int) = ((n % (j + 1) : Nat) : Int) := (Int.ofNat_tmod _ _).symm
    have e4 : dprod n j * (j + 2) < 30000000 := by
      have := Nat.mul_le_mul (Nat.le_of_lt hd) (show j + 2 ≤ 22 by omega)
      omega
    have e3 : IntKind.wrap .i64 ((dprod n j : Int) * ((j + 2 : Nat) : Int)) = ((dprod n j * (j + 2) : Nat) : Int) := by
      rw [← Int.natCast_mul, wi64 (by omega) (by omega)]
    simp only [quadformlaw31_BernoulliDenominator.s0, quadformlaw31_BernoulliDenominator.j1, quadformlaw31_BernoulliDenominator.j2, cite, decide_eq_true_eq, beq_iff_eq, etaI, etaQ, etaP]
    rw [wi64 (x := (n : Int) + 1) (by omega) (by omega), if_pos (by omega), is22 (by omega) (by omega), Option.bind_some, e1, e2, e3, up (by omega), if_neg (show ¬ ((j + 1 : Nat) : Int) = 0 by omega)]
    have ed : dprod n (j + 1) = if pr22 (j + 2) && decide (n % (j + 1) = 0) then dprod n j * (j + 2) else dprod n j := rfl
    rw [ed]
    generalize n % (j + 1) = r
    cases hp : pr22 (j + 2) with
    | false => rfl
    | true =>
      rw [if_pos rfl, Bool.true_and]
      by_cases hr : r = 0
      · rw [if_pos (by omega), if_pos (decide_eq_true hr)]
      · rw [if_neg (by omega), if_neg (by simpa using hr)]
theorem BernoulliDenominator (k : Int) (hk : 0 ≤ k ∧ k < 256) : quadformlaw31_BernoulliDenominator k = some true := by
  obtain ⟨n, rfl⟩ : ∃ n : Nat, k = n := ⟨k.toNat, by omega⟩
  have e1 : IntKind.wrap .i64 (n : Int) = (n : Int) := wi64 (by omega) (by omega)
  have e2 : Int.tmod (n : Int) 10 = ((n % 10 : Nat) : Int) := (Int.ofNat_tmod n 10).symm
  have hm : n % 10 < 10 := Nat.mod_lt _ (by decide)
  generalize n % 10 = m at e2 hm
  have e3 : IntKind.wrap .i64 ((2 : Int) + IntKind.wrap .i64 (2 * (m : Int))) = ((2 + 2 * m : Nat) : Int) := by
    rw [wi64 (x := 2 * (m : Int)) (by omega) (by omega), wi64 (by omega) (by omega)]; omega
  have hd := List.all_eq_true.1 den_tab m (List.mem_range.2 hm)
  rw [decide_eq_true_eq] at hd
  have hb := (bern_bd (k := 2 + 2 * m) (i := 2 + 2 * m) (by omega) (by omega)).1
  have hl := den_loop (n := 2 + 2 * m) (by omega) 0 (mkQ ((bern (2 + 2 * m)).getD (2 + 2 * m) 0)) _ 0 rfl (by omega)
  have hdd := List.all_eq_true.1 (List.all_eq_true.1 dprod_tab (2 + 2 * m) (List.mem_range.2 (by omega))) (2 + 2 * m) (List.mem_range.2 (by omega))
  rw [decide_eq_true_eq] at hdd
  have hl' : iterL (fun x : Int × Int × Int × Int × ((Bool × List Int × Unit) × (Bool × List Int × Unit) × Unit) × Unit => quadformlaw31_BernoulliDenominator.s0 x.1 x.2.1 x.2.2.1 x.2.2.2.1 x.2.2.2.2.1) (((2 + 2 * m : Nat) : Int), 0, 1, 2, mkQ ((bern (2 + 2 * m)).getD (2 + 2 * m) 0), ()) = _ := hl
  unfold quadformlaw31_BernoulliDenominator
  simp only [etaI, etaQ, etaP]
  rw [e1, e2, e3, number_ok (by omega), Option.bind_some, hl', Option.bind_some]
  simp only [quadformlaw31_BernoulliDenominator.k0, cite, beq_self_eq_true, if_true, beq_iff_eq, etaI, etaQ, etaP, mkQ_2]
  rw [rsmall_ok (by omega) (by omega), Option.bind_some, hd, rcmpI (Bd.i64 (by omega) (by omega)) (Bd.i64 (by omega) (by omega)) (by decide), Option.bind_some, cm_eq rfl, if_pos rfl, awake_ok, Option.bind_some]
end Go.Proofs.Ytbchgegclgpdhaa.V
