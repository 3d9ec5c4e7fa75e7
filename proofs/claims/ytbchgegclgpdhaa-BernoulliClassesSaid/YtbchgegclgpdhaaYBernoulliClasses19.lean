/- BernoulliClasses: the law. -/
import Derived.Test.YtbchgegclgpdhaaYBernoulliClasses18
import Derived.Test.YtbchgegclgpdhaaYBernoulliClasses11
import Derived.Lib.SmallJoins
import Derived.Deep.Slices
import Derived.Carry
import Derived.WalkKit
import Derived.Below
namespace Go.Proofs.Ytbchgegclgpdhaa.V
open Go Go.Proofs.Ytbchgegclgpdhaa.E Go.Proofs.Ytbchgegclgpdhaa.LI Go.Proofs.Ytbchgegclgpdhaa.Num
set_option linter.unusedVariables false
set_option linter.unusedSimpArgs false
/-- Whether (a, b, c) is a reduced form of the discriminant d. -/
def ind (d a b : Int) : Int :=
  if Int.tmod (b * b - d) (4 * a) ≠ 0 then 0 else if Int.tdiv (b * b - d) (4 * a) > a then 1 else if Int.tdiv (b * b - d) (4 * a) = a then (if b ≥ 0 then 1 else 0) else 0
theorem ind_01 (d a b : Int) : ind d a b = 0 ∨ ind d a b = 1 := by
  unfold ind
  repeat' split
  all_goals simp
/-- The count over b = a + 1 - t .. a. -/
def gb (d : Int) (a : Nat) : Nat → Int
  | 0 => 0
  | t + 1 => ind d a ((a : Int) - t) + gb d a t
theorem gb_le (d : Int) (a : Nat) : ∀ t, 0 ≤ gb d a t ∧ gb d a t ≤ t
  | 0 => by simp [gb]
  | t + 1 => by
    have h1 := gb_le d a t
    have h2 := ind_01 d a ((a : Int) - t)
    rw [gb]
    omega
/-- The count over all a from the given one on. -/
def ga (d : Int) : Nat → Nat → Int
  | 0, _ => 0
  | u + 1, a => if 3 * (a : Int) * a ≤ -d then gb d a (2 * a) + ga d u (a + 1) else 0
theorem sq_bd {b : Int} (h : -30 ≤ b) (h2 : b ≤ 30) : 0 ≤ b * b ∧ b * b ≤ 900 := by
  have h1 := Nat.mul_le_mul (show b.natAbs ≤ 30 by omega) (show b.natAbs ≤ 30 by omega)
  have h2 : ((b.natAbs * b.natAbs : Nat) : Int) = b * b := Int.natAbs_mul_self
  omega
theorem tdiv_bd {x y : Int} (h : 0 ≤ x) (h2 : x ≤ 10000) (hy : 0 < y) : 0 ≤ Int.tdiv x y ∧ Int.tdiv x y ≤ 10000 := by
  obtain ⟨n, rfl⟩ : ∃ n : Nat, x = n := ⟨x.toNat, by omega⟩
  obtain ⟨k, rfl⟩ : ∃ n : Nat, y = n := ⟨y.toNat, by omega⟩
  rw [← Int.ofNat_tdiv]
  have := Nat.div_le_self n k
  exact ⟨Int.natCast_nonneg _, by omega⟩
theorem cls_step {m a : Nat} (hm : m ≤ 800) (ha : 1 ≤ a) (ha2 : a ≤ 30) {b n : Int} (hb : -30 ≤ b) (hb2 : b ≤ a) (h0 : 0 ≤ n) (h1 : n ≤ 100000) :
    quadformlaw31_BernoulliClasses.s0 (-(m : Int)) n (a : Int) b = some (.inl (-(m : Int), n + ind (-(m : Int)) a b, (a : Int), b + 1, ())) := by
  obtain ⟨q1, q2⟩ := sq_bd hb (by omega)
  obtain ⟨d1, d2⟩ := tdiv_bd (x := b * b - -(m : Int)) (y := 4 * (a : Int)) (by omega) (by omega) (by omega)
  have w1 : IntKind.wrap .i64 (4 * (a : Int)) = 4 * (a : Int) := wi64 (by omega) (by omega)
  have w2 : IntKind.wrap .i64 (b * b) = b * b := wi64 (by omega) (by omega)
  have w3 : IntKind.wrap .i64 (b * b - -(m : Int)) = b * b - -(m : Int) := wi64 (by omega) (by omega)
  have w4 : IntKind.wrap .i64 (Int.tdiv (b * b - -(m : Int)) (4 * (a : Int))) = Int.tdiv (b * b - -(m : Int)) (4 * (a : Int)) := wi64 (by omega) (by omega)
  have w5 : IntKind.wrap .i64 (b + 1) = b + 1 := wi64 (by omega) (by omega)
  have w6 : IntKind.wrap .i64 (n + 1) = n + 1 := wi64 (by omega) (by omega)
  simp only [quadformlaw31_BernoulliClasses.s0, quadformlaw31_BernoulliClasses.j3, quadformlaw31_BernoulliClasses.j4, quadformlaw31_BernoulliClasses.j5, cite, decide_eq_true_eq, bne_iff_ne, beq_iff_eq]
  rw [w1, w2, w3, w4, w5, w6, if_pos hb2, if_neg (show ¬ 4 * (a : Int) = 0 by omega)]
  unfold ind
  generalize Int.tdiv (b * b - -(m : Int)) (4 * (a : Int)) = c at *
  by_cases c1 : Int.tmod (b * b - -(m : Int)) (4 * (a : Int)) ≠ 0
  · rw [if_pos c1, if_pos c1, Int.add_zero]
  · rw [if_neg c1, if_neg c1, if_neg (show ¬ 4 * (a : Int) = 0 by omega)]
    by_cases c2 : c > a
    · rw [if_pos c2, if_pos c2]
    · rw [if_neg c2, if_neg c2]
      by_cases c3 : c = a
      · rw [if_pos c3, if_pos c3]
        by_cases c4 : b ≥ 0
        · rw [if_pos c4, if_pos c4]
        · rw [if_neg c4, if_neg c4, Int.add_zero]
      · rw [if_neg c3, if_neg c3, Int.add_zero]
theorem cls_inner {m a : Nat} (hm : m ≤ 800) (ha : 1 ≤ a) (ha2 : a ≤ 30) : ∀ (t : Nat) (n : Int), 0 ≤ n → n + t ≤ 100000 → t ≤ 2 * a →
    iterL (fun x : Int × Int × Int × Int × Unit => quadformlaw31_BernoulliClasses.s0 x.1 x.2.1 x.2.2.1 x.2.2.2.1) (-(m : Int), n, (a : Int), (a : Int) + 1 - t, ()) = some (-(m : Int), n + gb (-(m : Int)) a t, (a : Int), ()) := by
  intro t
  induction t with
  | zero =>
    intro n _ _ _
    refine iterL_done ?_
    simp only [quadformlaw31_BernoulliClasses.s0, cite, decide_eq_true_eq]
    rw [if_neg (by omega)]
    simp [gb]
  | succ t ih =>
    intro n h0 h1 ht
    have hi := ind_01 (-(m : Int)) a ((a : Int) - t)
    have hst := cls_step hm ha ha2 (b := (a : Int) - t) (n := n) (by omega) (by omega) h0 (by omega)
    have key := ih (n + ind (-(m : Int)) a ((a : Int) - t)) (by omega) (by omega) (by omega)
    rw [show (a : Int) - t + 1 = (a : Int) + 1 - t by omega] at hst
    rw [Int.add_assoc] at key
    refine (iterL_next ?_).trans key
    rw [show (a : Int) + 1 - ((t + 1 : Nat) : Int) = (a : Int) - t by omega]
    exact hst
theorem cls_outer {m : Nat} (hm : m ≤ 800) : ∀ (u a : Nat) (n : Int), 1 ≤ a → a ≤ 20 → 20 ≤ a + u → 0 ≤ n → n ≤ 40 * a →
    iterL (fun x : Int × Int × Int × Unit => quadformlaw31_BernoulliClasses.s1 x.1 x.2.1 x.2.2.1) (-(m : Int), n, (a : Int), ()) = some (-(m : Int), n + ga (-(m : Int)) u a, ()) := by
  intro u
  induction u with
  | zero =>
    intro a n h1 h2 h3 h4 h5
    obtain rfl : a = 20 := by omega
    refine iterL_done ?_
    simp only [quadformlaw31_BernoulliClasses.s1, cite, decide_eq_true_eq]
    rw [wi64 (x := 0 - -(m : Int)) (by omega) (by omega), show IntKind.wrap .i64 (IntKind.wrap .i64 (3 * ((20 : Nat) : Int)) * ((20 : Nat) : Int)) = 1200 by decide, if_neg (by omega)]
    simp [ga]
  | succ u ih =>
    intro a n h1 h2 h3 h4 h5
    have hq := sq_bd (b := (a : Int)) (by omega) (by omega)
    have e3 : 3 * (a : Int) * a = 3 * ((a : Int) * a) := Int.mul_assoc _ _ _
    have w1 : IntKind.wrap .i64 (IntKind.wrap .i64 (3 * (a : Int)) * a) = 3 * (a : Int) * a := by rw [wi64 (x := 3 * (a : Int)) (by omega) (by omega), wi64 (by omega) (by omega)]
    have hst : quadformlaw31_BernoulliClasses.s1 (-(m : Int)) n (a : Int) = if 3 * (a : Int) * a ≤ - -(m : Int) then quadformlaw31_BernoulliClasses.j2 (-(m : Int)) n (a : Int) else some (.inr (-(m : Int), n, ())) := by
      simp only [quadformlaw31_BernoulliClasses.s1, cite, decide_eq_true_eq]
      rw [wi64 (x := 0 - -(m : Int)) (by omega) (by omega), w1, show (0 : Int) - -(m : Int) = - -(m : Int) by omega]
    by_cases hc : 3 * (a : Int) * a ≤ - -(m : Int)
    · rw [if_pos hc] at hst
      have ha19 : a ≤ 19 := by
        apply Classical.byContradiction
        intro h
        obtain rfl : a = 20 := by omega
        omega
      have hg := gb_le (-(m : Int)) a (2 * a)
      have hin := cls_inner hm h1 (by omega) (2 * a) n h4 (by omega) (Nat.le_refl _)
      rw [show (a : Int) + 1 - ((2 * a : Nat) : Int) = 1 - a by omega] at hin
      have key := ih (a + 1) (n + gb (-(m : Int)) a (2 * a)) (by omega) (by omega) (by omega) (by omega) (by omega)
      have eg : ga (-(m : Int)) (u + 1) a = gb (-(m : Int)) a (2 * a) + ga (-(m : Int)) u (a + 1) := by rw [ga, if_pos hc]
      rw [eg, ← Int.add_assoc]
      refine (iterL_next ?_).trans key
      simp only []
      rw [hst]
      unfold quadformlaw31_BernoulliClasses.j2
      rw [wi64 (x := 1 - (a : Int)) (by omega) (by omega), hin, Option.bind_some]
      simp only [quadformlaw31_BernoulliClasses.k0]
      rw [up (by omega)]
    · rw [if_neg hc] at hst
      have eg : ga (-(m : Int)) (u + 1) a = 0 := by rw [ga, if_neg hc]
      rw [eg, Int.add_zero]
      exact iterL_done hst
theorem cls_tab : (dtab.all fun x => !x.1 || Nat.ble x.2 4 || (decide ((gz x 1).num = -(ga (-(x.2 : Int)) 19 1)) && decide ((gz x 1).den = 1) && decide (0 ≤ ga (-(x.2 : Int)) 19 1) && decide (ga (-(x.2 : Int)) 19 1 ≤ 1000))) = true := by decide +kernel
theorem BernoulliClasses (n : Int) (hn : -32768 ≤ n ∧ n ≤ 32767) : quadformlaw31_BernoulliClasses n = some true := by
  obtain ⟨x, hx, hd⟩ := discriminant_ok hn
  obtain ⟨f1, f2, f3⟩ := fund_ok hx
  unfold quadformlaw31_BernoulliClasses
  rw [hd, Option.bind_some, awake_ok]
  simp only [cite, decide_eq_true_eq]
  by_cases hs : dI x.1 x.2 ≥ -4
  · rw [if_pos hs, Option.bind_some]
  · rw [if_neg hs]
    have hx1 : x.1 = true := by
      cases h : x.1 with
      | true => rfl
      | false =>
        exfalso
        apply hs
        unfold dI
        rw [h, cond_false]
        omega
    have hdi : dI x.1 x.2 = -(x.2 : Int) := by unfold dI; rw [hx1, cond_true]
    have ht := List.all_eq_true.1 cls_tab x hx
    have hb4 : Nat.ble x.2 4 = false := by
      cases h : Nat.ble x.2 4 with
      | false => rfl
      | true => have := Nat.le_of_ble_eq_true h; exact absurd (by rw [hdi]; omega) hs
    rw [hx1, hb4] at ht
    simp only [Bool.not_true, Bool.false_or, Bool.and_eq_true, decide_eq_true_eq] at ht
    obtain ⟨⟨⟨t1, t2⟩, t3⟩, t4⟩ := ht
    obtain ⟨g1, g2⟩ := gz_ok hx (k := 1) (by omega) (by omega)
    have ho := cls_outer (m := x.2) f3 19 1 0 (by omega) (by omega) (by omega) (by omega) (by omega)
    rw [Int.zero_add] at ho
    rw [hdi] at g1 ⊢
    unfold quadformlaw31_BernoulliClasses.j1
    have ho' : iterL (fun x : Int × Int × Int × Unit => quadformlaw31_BernoulliClasses.s1 x.1 x.2.1 x.2.2.1) (-(x.2 : Int), 0, 1, ()) = _ := ho
    rw [ho', Option.bind_some]
    simp only [quadformlaw31_BernoulliClasses.k1, etaI, etaQ, etaP]
    have g1' : bernoulli_Generalized 1 (-(x.2 : Int)) = _ := g1
    generalize ga (-(x.2 : Int)) 19 1 = c at *
    have he : gz x 1 = ((-c : Int) : Rat) := Rat.ext t1 t2
    have hbc : Bd 64 (-c) := Bd.i64 (by omega) (by omega)
    rw [g1', Option.bind_some]
    simp only [cite, beq_self_eq_true, if_true, beq_iff_eq]
    rw [wi64 (x := 0 - c) (by omega) (by omega), show 0 - c = -c by omega, rsmallQ (by omega) (by omega), Option.bind_some, rcmpQ0 g2 (BQ.int hbc (by decide)) (by decide) he, Option.bind_some, if_pos rfl, awake_ok, Option.bind_some]
end Go.Proofs.Ytbchgegclgpdhaa.V
/- Arguments: an integer (sign, limbs) as_ it comes in; what a contract says at the row's call. -/
namespace Go.Proofs.Ytbchgegclgpdhaa.V
open Go Go.Proofs.Ytbchgegclgpdhaa.E Go.Proofs.Ytbchgegclgpdhaa.LI
open Go.Joins Go.ChangeShapes Go.WideShapes Go.RowKit Go.Deep
set_option linter.unusedVariables false
set_option linter.unusedSimpArgs false
@[reducible] def tyI : Ty := .pair .bool (.pair (.sl (.int .u32)) .unit)
section
variable {H : Type} {enc : TypeId × Value → H} {P : Program} {W : World}
end
/-- The result of a law, and the memory behind it. -/
theorem res_true {n : Nat} {w : World} {F : Nat → Prop} {u : Value} (h : ResN n w F (.v .bool true) u) : u = .bool true := by
  rcases h with (⟨t, x, e, h⟩ | ⟨_, _, _, e, _⟩) | ⟨_, _, _, _, e, _⟩
  · cases e
    exact RepV.bool h
  · cases e
  · cases e
theorem below_of {w w' : World} (h : Same w w') : Below w.heap.size w w' := ⟨h.os, h.tape, h.output, h.size, h.block⟩
theorem wf_i16 {n : Int} (h : (Lit.int .i16 n).wf = true) : -32768 ≤ n ∧ n ≤ 32767 := by
  simp [Lit.wf, IntKind.min, IntKind.max, IntKind.signed, IntKind.bits] at h
  omega
end Go.Proofs.Ytbchgegclgpdhaa.V
