/- BernoulliSteps, BernoulliSymmetry, BernoulliSums: the laws. -/
import Derived.Test.YtbchgegclgpdhaaB2
import Derived.Test.YtbchgegclgpdhaaA31
namespace Go.Proofs.Ytbchgegclgpdhaa.V
open Go Go.Proofs.Ytbchgegclgpdhaa.E Go.Proofs.Ytbchgegclgpdhaa.LI
set_option linter.unusedVariables false
set_option linter.unusedSimpArgs false
theorem tmod_nn (n : Nat) (m : Nat) : Int.tmod (n : Int) (m : Int) = ((n % m : Nat) : Int) := (Int.ofNat_tmod n m).symm
theorem one_bd : BQ 1 (1 : Rat) := BQ.int (z := 1) (by unfold Bd; decide) (by decide)
theorem BernoulliSteps (k a b : Int) (hk : 0 ≤ k ∧ k < 256) (ha : -32768 ≤ a ∧ a ≤ 32767) (hb : 0 ≤ b ∧ b < 256) : quadformlaw31_BernoulliSteps k a b = some true := by
  obtain ⟨n, rfl⟩ : ∃ n : Nat, k = n := ⟨k.toNat, by omega⟩
  have e1 : IntKind.wrap .i64 (n : Int) = (n : Int) := wi64 (by omega) (by omega)
  have e2 : IntKind.wrap .i64 ((1 : Int) + Int.tmod (n : Int) 20) = ((n % 20 + 1 : Nat) : Int) := by
    have := tmod_nn n 20
    rw [show ((20 : Nat) : Int) = 20 from rfl] at this
    rw [this, wi64 (by omega) (by omega)]; omega
  have hm : n % 20 < 20 := Nat.mod_lt _ (by decide)
  generalize n % 20 = m at e2 hm
  have e3 : IntKind.wrap .i64 (((m + 1 : Nat) : Int) - 1) = (m : Int) := by rw [wi64 (by omega) (by omega)]; omega
  have e4 : IntKind.wrap .i64 a = a := wi64 (by omega) (by omega)
  have e5 : IntKind.wrap .i64 ((1 : Int) + IntKind.wrap .i64 b) = 1 + b := by rw [wi64 (x := b) (by omega) (by omega), wi64 (by omega) (by omega)]
  obtain ⟨r1, r2⟩ := ratio_ok (a := a) (b := 1 + b) (by omega) (by omega) (by omega) (by omega)
  generalize Rat.divInt a (1 + b) = x at r1 r2
  have hx1 : BQ (64 + 1 + 1) (x + 1) := r2.add one_bd
  have hp1 := poly_ok hx1 (by decide) (k := m + 1) (by omega)
  have hp0 := poly_ok r2 (by decide) (k := m + 1) (by omega)
  have b1 := pol_bd hx1 (by decide) (k := m + 1) (by omega)
  have b0 := pol_bd r2 (by decide) (k := m + 1) (by omega)
  have hw := rpowQ r2 (by decide) (k := m) (by omega)
  have bw := r2.pow m
  have hs := pol_step hm x
  unfold quadformlaw31_BernoulliSteps
  simp only [etaI, etaQ, etaP]
  rw [e1, e2, e3, e4, e5, r1, Option.bind_some, rsmallQ (by decide) (by decide), Option.bind_some, show ((1 : Int) : Rat) = 1 from rfl, raddQ r2 one_bd (by decide), Option.bind_some, hp1, Option.bind_some, hp0, Option.bind_some, hw, Option.bind_some]
  simp only [cite, beq_self_eq_true, if_true, beq_iff_eq]
  have bs : BQ (6300001 + 6300001 + 1) (pol (m + 1) (x + 1) - pol (m + 1) x) := by rw [Rat.sub_eq_add_neg]; exact b1.add b0.neg
  rw [qsub b1 b0 (by decide), Option.bind_some, rsmallQ (by omega) (by omega), Option.bind_some, rmulQ (bq_nat (n := m + 1) (by omega)) bw (by omega), Option.bind_some, rcmpQ0 bs ((bq_nat (n := m + 1) (by omega)).mul bw) (by omega) hs, Option.bind_some, if_pos rfl, awake_ok, Option.bind_some]
theorem BernoulliSymmetry (k a b : Int) (hk : 0 ≤ k ∧ k < 256) (ha : -32768 ≤ a ∧ a ≤ 32767) (hb : 0 ≤ b ∧ b < 256) : quadformlaw31_BernoulliSymmetry k a b = some true := by
  obtain ⟨n, rfl⟩ : ∃ n : Nat, k = n := ⟨k.toNat, by omega⟩
  have e1 : IntKind.wrap .i64 (n : Int) = (n : Int) := wi64 (by omega) (by omega)
  have e2 : Int.tmod (n : Int) 21 = ((n % 21 : Nat) : Int) := tmod_nn n 21
  have hm : n % 21 < 21 := Nat.mod_lt _ (by decide)
  generalize n % 21 = m at e2 hm
  have e3 : Int.tmod (m : Int) 2 = ((m % 2 : Nat) : Int) := tmod_nn m 2
  have e4 : IntKind.wrap .i64 a = a := wi64 (by omega) (by omega)
  have e5 : IntKind.wrap .i64 ((1 : Int) + IntKind.wrap .i64 b) = 1 + b := by rw [wi64 (x := b) (by omega) (by omega), wi64 (by omega) (by omega)]
  obtain ⟨r1, r2⟩ := ratio_ok (a := a) (b := 1 + b) (by omega) (by omega) (by omega) (by omega)
  generalize Rat.divInt a (1 + b) = x at r1 r2
  have hx1 : BQ (1 + 64 + 1) (1 - x) := by rw [Rat.sub_eq_add_neg]; exact one_bd.add r2.neg
  have hp1 := poly_ok hx1 (by decide) (k := m) (by omega)
  have hp0 := poly_ok r2 (by decide) (k := m) (by omega)
  have b1 := pol_bd hx1 (by decide) (k := m) (by omega)
  have b0 := pol_bd r2 (by decide) (k := m) (by omega)
  have hs := pol_sym hm x
  unfold quadformlaw31_BernoulliSymmetry
  simp only [etaI, etaQ, etaP]
  rw [e1, e2, e3, e4, e5, r1, Option.bind_some, rsmallQ (by decide) (by decide), Option.bind_some, show ((1 : Int) : Rat) = 1 from rfl, rsubQ one_bd r2 (by decide), Option.bind_some, hp1, Option.bind_some, hp0, Option.bind_some]
  simp only [quadformlaw31_BernoulliSymmetry.j1, cite, beq_self_eq_true, if_true, beq_iff_eq, etaI, etaQ, etaP]
  by_cases hodd : m % 2 = 1
  · rw [if_pos hodd] at hs
    rw [if_pos (by omega), qneg b0 (by decide), Option.bind_some, qcmp b1 b0.neg (by decide), if_pos hs, Option.bind_some, if_pos rfl, awake_ok, Option.bind_some]
  · rw [if_neg hodd] at hs
    rw [if_neg (by omega), qcmp b1 b0 (by decide), if_pos hs, Option.bind_some, if_pos rfl, awake_ok, Option.bind_some]

/-! ## sums of powers -/
def pows (e : Nat) : Nat → Rat
  | 0 => 0
  | i + 1 => pows e i + ((i : Int) : Rat) ^ e
theorem pows_eq {e : Nat} (he : e < 20) : ∀ i : Nat, pol (e + 1) ((i : Int) : Rat) - pol (e + 1) 0 = pows e i * (((e + 1 : Nat) : Int) : Rat)
  | 0 => by
    show pol (e + 1) 0 - pol (e + 1) 0 = 0 * _
    rw [Rat.zero_mul, Rat.sub_self]
  | i + 1 => by
    have ih := pows_eq he i
    have hs := pol_step he ((i : Int) : Rat)
    have e1 : (((i + 1 : Nat) : Int) : Rat) = ((i : Int) : Rat) + 1 := by rw [Int.natCast_add, Rat.intCast_add]; rfl
    have e2 : ((e + 1 : Nat) : Rat) = (((e + 1 : Nat) : Int) : Rat) := (Rat.intCast_natCast _).symm
    rw [e2] at hs
    rw [e1, pows]
    generalize pol (e + 1) (((i : Int) : Rat) + 1) = u at hs ⊢
    generalize pol (e + 1) ((i : Int) : Rat) = v at hs ih ⊢
    generalize pol (e + 1) 0 = w at ih ⊢
    generalize (((e + 1 : Nat) : Int) : Rat) = c at hs ih ⊢
    generalize ((i : Int) : Rat) ^ e = p at hs ⊢
    grind
theorem pows_bd {e : Nat} (he : e < 20) : ∀ i : Nat, i ≤ 256 → BQ (i * 3000 + 1) (pows e i)
  | 0, _ => BQ.int (z := 0) (Bd.mono (n := 1) (by unfold Bd; decide) (by omega)) (by omega)
  | i + 1, h => ((pows_bd he i (by omega)).add ((bq_nat (n := i) (by omega)).pow e)).mono (by omega)
theorem sums_loop {e : Nat} (he : e < 20) {N : Nat} (hN : N < 256) (t7 t9 : Int) (b6 b8 : QV) : ∀ (t i : Nat), N - i = t → i ≤ N →
    iterL (fun x : Int × Int × Int × Int × Int × ((Bool × List Int × Unit) × (Bool × List Int × Unit) × Unit) × ((Bool × List Int × Unit) × (Bool × List Int × Unit) × Unit) × ((Bool × List Int × Unit) × (Bool × List Int × Unit) × Unit) × Unit => quadformlaw31_BernoulliSums.s0 x.1 x.2.1 x.2.2.1 x.2.2.2.1 x.2.2.2.2.1 x.2.2.2.2.2.1 x.2.2.2.2.2.2.1 x.2.2.2.2.2.2.2.1) ((N : Int), (e : Int), t7, t9, (i : Int), b6, b8, mkQ (pows e i), ()) = some ((e : Int), t7, t9, b6, b8, mkQ (pows e N), ()) := by
  intro t
  induction t with
  | zero =>
    intro i ht hi
    obtain rfl : i = N := by omega
    refine iterL_done ?_
    simp only [quadformlaw31_BernoulliSums.s0, cite, decide_eq_true_eq, etaI, etaQ, etaP]
    rw [wi64 (by omega) (by omega), if_neg (by omega)]
  | succ t ih =>
    intro i ht hi
    refine (iterL_next ?_).trans (ih (i + 1) (by omega) (by omega))
    simp only [quadformlaw31_BernoulliSums.s0, quadformlaw31_BernoulliSums.j1, cite, decide_eq_true_eq, etaI, etaQ, etaP]
    rw [wi64 (x := (N : Int)) (by omega) (by omega), if_pos (by omega), rsmallQ (by omega) (by omega), Option.bind_some, rpowQ (bq_nat (n := i) (by omega)) (by decide) (by omega), Option.bind_some]
    simp only []
    rw [raddQ (pows_bd he i (by omega)) ((bq_nat (n := i) (by omega)).pow e) (by omega), Option.bind_some, up (by omega)]
    rfl
theorem BernoulliSums (k c : Int) (hk : 0 ≤ k ∧ k < 256) (hc : 0 ≤ c ∧ c < 256) : quadformlaw31_BernoulliSums k c = some true := by
  obtain ⟨n, rfl⟩ : ∃ n : Nat, k = n := ⟨k.toNat, by omega⟩
  obtain ⟨N, rfl⟩ : ∃ n : Nat, c = n := ⟨c.toNat, by omega⟩
  have e1 : IntKind.wrap .i64 (n : Int) = (n : Int) := wi64 (by omega) (by omega)
  have e0 : IntKind.wrap .i64 (N : Int) = (N : Int) := wi64 (by omega) (by omega)
  have e2 : Int.tmod (n : Int) 12 = ((n % 12 : Nat) : Int) := tmod_nn n 12
  have hm : n % 12 < 12 := Nat.mod_lt _ (by decide)
  generalize n % 12 = e at e2 hm
  have hN := bq_nat (n := N) (by omega)
  have hp := poly_ok hN (by decide) (k := e + 1) (by omega)
  have bp := pol_bd hN (by decide) (k := e + 1) (by omega)
  have hb := number_ok (k := e + 1) (by omega)
  have bb := (bern_bd (k := e + 1) (i := e + 1) (by omega) (by omega)).1
  have hl := sums_loop (e := e) (by omega) (N := N) (by omega) 0 0 (mkQ (pol (e + 1) ((N : Int) : Rat))) (mkQ ((bern (e + 1)).getD (e + 1) 0)) _ 0 rfl (by omega)
  rw [show ((0 : Nat) : Int) = 0 from rfl, show pows e 0 = 0 from rfl] at hl
  have hs := pows_eq (e := e) (by omega) N
  rw [pol_zero (by omega)] at hs
  have bs := pows_bd (e := e) (by omega) N (by omega)
  unfold quadformlaw31_BernoulliSums
  simp only [etaI, etaQ, etaP]
  rw [e1, e2, e0, rsmallQ (by omega) (by omega), Option.bind_some, up (by omega), hp, Option.bind_some, hb, Option.bind_some, rsmallQ (by decide) (by decide), Option.bind_some, show ((0 : Int) : Rat) = 0 from rfl, hl, Option.bind_some]
  simp only [quadformlaw31_BernoulliSums.k0, cite, beq_self_eq_true, if_true, beq_iff_eq, etaI, etaQ, etaP]
  have bd : BQ (6300001 + 100 + 1) (pol (e + 1) ((N : Int) : Rat) - (bern (e + 1)).getD (e + 1) 0) := by rw [Rat.sub_eq_add_neg]; exact bp.add bb.neg
  rw [qsub bp bb (by decide), Option.bind_some, up (by omega), rsmallQ (by omega) (by omega), Option.bind_some, rmulQ bs (bq_nat (n := e + 1) (by omega)) (by omega), Option.bind_some, rcmpQ0 bd (bs.mul (bq_nat (n := e + 1) (by omega))) (by omega) hs, Option.bind_some, if_pos rfl, awake_ok, Option.bind_some]
end Go.Proofs.Ytbchgegclgpdhaa.V
