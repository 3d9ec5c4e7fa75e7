/- BernoulliPeriod: the law. -/
import Derived.Test.YtbchgegclgpdhaaX1
namespace Go.Proofs.Ytbchgegclgpdhaa.V
open Go Go.Proofs.Ytbchgegclgpdhaa.E Go.Proofs.Ytbchgegclgpdhaa.LI Go.Proofs.Ytbchgegclgpdhaa.Num
set_option linter.unusedVariables false
set_option linter.unusedSimpArgs false
def perB (neg : Bool) (m : Nat) : Nat → List (List Nat) → List (List Nat) → Bool
  | 0, _, _ => true
  | n + 1, l :: r, l' :: r' => Nat.beq (chiN neg m l) (chiN neg m l') && perB neg m n r r'
  | _ + 1, _, _ => false
theorem perB_at (neg : Bool) (m : Nat) : ∀ (n : Nat) (T T' : List (List Nat)) (i : Nat), perB neg m n T T' = true → i < n → chiN neg m (T.getD i []) = chiN neg m (T'.getD i [])
  | 0, _, _, i, _, hi => by omega
  | n + 1, [], _, i, h, hi => by simp [perB] at h
  | n + 1, _ :: _, [], i, h, hi => by simp [perB] at h
  | n + 1, l :: r, l' :: r', i, h, hi => by
    rw [perB, Bool.and_eq_true] at h
    cases i with
    | zero => exact Nat.eq_of_beq_eq_true h.1
    | succ i => exact perB_at neg m n r r' i h.2 (by omega)
theorem per_tab : (dtab.all fun x => perB x.1 x.2 256 ftab (ftab.drop x.2)) = true := by decide +kernel
theorem chi_per {x : Bool × Nat} (h : x ∈ dtab) {a : Nat} (h1 : 1 ≤ a) (h2 : a ≤ 256) : chi x.1 x.2 a = chi x.1 x.2 (a + x.2) := by
  have hp := perB_at x.1 x.2 256 ftab (ftab.drop x.2) (a - 1) (List.all_eq_true.1 per_tab x h) (by omega)
  unfold chi fc
  rw [hp, List.getD_eq_getElem?_getD, List.getD_eq_getElem?_getD, List.getElem?_drop, show x.2 + (a - 1) = a + x.2 - 1 by omega]
theorem kr_neg {d v : Int} (h : kr d (-1) v) : v = if d < 0 then -1 else 1 := by
  rcases h with ⟨h0, _⟩ | ⟨_, L, hL, rfl⟩
  · omega
  · have h1 : L = [] := hL.unique (show Fac 1 1 [] from rfl)
    subst h1
    have e : val (sy d) [] = 1 := rfl
    rw [e, Int.mul_one]
    by_cases hd : d < 0
    · rw [if_pos ⟨by decide, hd⟩, if_pos hd]
    · rw [if_neg (fun h => hd h.2), if_neg hd]
theorem BernoulliPeriod (n a b : Int) (hn : -32768 ≤ n ∧ n ≤ 32767) (ha : 0 ≤ a ∧ a < 256) (hb : 0 ≤ b ∧ b < 256) : quadformlaw31_BernoulliPeriod n a b = some true := by
  obtain ⟨x, hx, hd⟩ := discriminant_ok hn
  obtain ⟨f1, f2, f3⟩ := fund_ok hx
  have hdb := dI_bd f3
  obtain ⟨A, hA⟩ : ∃ A : Nat, 1 + a = A := ⟨(1 + a).toNat, by omega⟩
  obtain ⟨B, hB⟩ : ∃ B : Nat, 1 + b = B := ⟨(1 + b).toNat, by omega⟩
  have e1 : IntKind.wrap .i64 ((1 : Int) + IntKind.wrap .i64 a) = (A : Int) := by rw [wi64 (x := a) (by omega) (by omega), wi64 (by omega) (by omega), hA]
  have e2 : IntKind.wrap .i64 ((1 : Int) + IntKind.wrap .i64 b) = (B : Int) := by rw [wi64 (x := b) (by omega) (by omega), wi64 (by omega) (by omega), hB]
  have e3 : IntKind.wrap .i64 ((A : Int) + mx2 (dI x.1 x.2) (IntKind.wrap .i64 (0 - dI x.1 x.2))) = ((A + x.2 : Nat) : Int) := by
    rw [wi64 (x := 0 - dI x.1 x.2) (by omega) (by omega)]
    have : mx2 (dI x.1 x.2) (0 - dI x.1 x.2) = (x.2 : Int) := by
      unfold mx2 dI
      cases x.1
      · rw [cond_false, if_neg (by omega)]
      · rw [cond_true, if_pos (by omega)]; omega
    rw [this, wi64 (by omega) (by omega)]; omega
  have hAB : A * B ≤ 256 * 256 := Nat.mul_le_mul (by omega) (by omega)
  have e4 : IntKind.wrap .i64 ((A : Int) * (B : Int)) = ((A * B : Nat) : Int) := by rw [← Int.natCast_mul, wi64 (by omega) (by omega)]
  obtain ⟨c1, k1, p1⟩ := char_ok hx (a := (A : Int)) (by omega)
  obtain ⟨c2, k2, p2⟩ := char_ok hx (a := ((A + x.2 : Nat) : Int)) (by omega)
  obtain ⟨c3, k3, p3⟩ := char_ok hx (a := (B : Int)) (by omega)
  obtain ⟨c4, k4, p4⟩ := char_ok hx (a := ((A * B : Nat) : Int)) (by omega)
  obtain ⟨c5, k5, p5⟩ := char_ok hx (a := -1) (by omega)
  have v1 := kr_chi x.1 x.2 (a := A) (by omega) (by omega) k1
  have v2 := kr_chi x.1 x.2 (a := A + x.2) (by omega) (by omega) k2
  have v3 := kr_chi x.1 x.2 (a := B) (by omega) (by omega) k3
  have h12 : c1 = c2 := by rw [v1, v2]; exact chi_per hx (by omega) (by omega)
  have h4 : c4 = c1 * c3 := JR.fn (kr_jr (Nat.mul_pos (by omega) (by omega)) k4) (JR.times (kr_jr (by omega) k1) (kr_jr (by omega) k3))
  have h5 := kr_neg k5
  have r1 : -1 ≤ c1 ∧ c1 ≤ 1 := by rw [v1]; unfold chi sgn; cases Nat.beq (chiN x.1 x.2 (fc A)) 0 <;> cases Nat.beq (chiN x.1 x.2 (fc A)) 1 <;> decide
  have r3 : -1 ≤ c3 ∧ c3 ≤ 1 := by rw [v3]; unfold chi sgn; cases Nat.beq (chiN x.1 x.2 (fc B)) 0 <;> cases Nat.beq (chiN x.1 x.2 (fc B)) 1 <;> decide
  have hw : IntKind.wrap .i64 (c1 * c3) = c1 * c3 := by
    have q1 : c1 = -1 ∨ c1 = 0 ∨ c1 = 1 := by omega
    have q3 : c3 = -1 ∨ c3 = 0 ∨ c3 = 1 := by omega
    rcases q1 with q | q | q <;> rcases q3 with q' | q' | q' <;> rw [q, q'] <;> decide
  unfold quadformlaw31_BernoulliPeriod
  rw [hd, Option.bind_some, e1, e2, e3, e4, p1, Option.bind_some, p2, Option.bind_some, p3, Option.bind_some, p4, Option.bind_some, p5, Option.bind_some]
  simp only [cite, decide_eq_true_eq]
  by_cases hneg : dI x.1 x.2 < 0
  · rw [if_pos hneg] at h5 ⊢
    simp only [quadformlaw31_BernoulliPeriod.j1, hw, h12, h4, h5, beq_self_eq_true, cond_true, awake_ok, Option.bind_some]
    rw [← h12, hw, beq_self_eq_true, cond_true]
  · rw [if_neg hneg] at h5 ⊢
    simp only [quadformlaw31_BernoulliPeriod.j2, hw, h12, h4, h5, beq_self_eq_true, cond_true, awake_ok, Option.bind_some]
    rw [← h12, hw, beq_self_eq_true, cond_true]
end Go.Proofs.Ytbchgegclgpdhaa.V
