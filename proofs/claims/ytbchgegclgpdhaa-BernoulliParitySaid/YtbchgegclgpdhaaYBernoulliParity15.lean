/- Laws: squarefree parts of the reference; discriminants of both. -/
import Derived.Test.YtbchgegclgpdhaaYBernoulliParity14
import Derived.Test.YtbchgegclgpdhaaYBernoulliParity7
namespace Go.Proofs.Ytbchgegclgpdhaa.V
open Go Go.Proofs.Ytbchgegclgpdhaa.E Go.Proofs.Ytbchgegclgpdhaa.LI Go.Proofs.Ytbchgegclgpdhaa.Num
set_option linter.unusedVariables false
set_option linter.unusedSimpArgs false
theorem tmod_sign {g : Int} (hg : g = 1 ∨ g = -1) (m n : Nat) : Int.tmod (g * (m : Nat)) (n : Nat) = g * ((m % n : Nat) : Int) := by
  rcases hg with rfl | rfl
  · rw [Int.one_mul, Int.one_mul, tmod_nat]
  · rw [Int.neg_one_mul, Int.neg_one_mul, Int.neg_tmod, tmod_nat]
theorem tdiv_sign {g : Int} (hg : g = 1 ∨ g = -1) (m n : Nat) : Int.tdiv (g * (m : Nat)) (n : Nat) = g * ((m / n : Nat) : Int) := by
  rcases hg with rfl | rfl
  · rw [Int.one_mul, Int.one_mul, tdiv_nat]
  · rw [Int.neg_one_mul, Int.neg_one_mul, Int.neg_tdiv, tdiv_nat]
theorem rsq_le {r m N : Nat} (hm : 1 ≤ m) (h : N = m * (r * r)) (hN : N ≤ 2147483647) : r ≤ 46340 := by
  have : 1 * (r * r) ≤ m * (r * r) := Nat.mul_le_mul_right _ hm
  exact sq_le (by omega) hN
theorem rsqf_inner {g : Int} (hg : g = 1 ∨ g = -1) {N d : Nat} (hN : N ≤ 2147483647) (hd2 : 2 ≤ d) (hd : d ≤ 46340) : ∀ (t m r : Nat), m < t → 1 ≤ m → 1 ≤ r → N = m * (r * r) → (∀ c, 2 ≤ c → c < d → ¬ c * c ∣ m) →
    ∃ m' r' : Nat, iterL (fun x : Int × Int × Int × Unit => quadformref22_Squarefree.s0 x.1 x.2.1 x.2.2.1) (g * (m : Nat), (r : Int), (d : Int), ()) = some (g * (m' : Nat), (r' : Int), (d : Int), ()) ∧ 1 ≤ m' ∧ 1 ≤ r' ∧ N = m' * (r' * r') ∧ ∀ c, 2 ≤ c → c < d + 1 → ¬ c * c ∣ m'
  | 0, m, r, ht, _, _, _, _ => by omega
  | t + 1, m, r, ht, hm, hr, he, hc => by
    have hdd : IntKind.wrap .i64 ((d : Int) * d) = ((d * d : Nat) : Int) := sq_wrap (by omega)
    have hdd0 : 0 < d * d := Nat.mul_pos (by omega) (by omega)
    have hr2 := rsq_le hm he hN
    by_cases hdv : d * d ∣ m
    · obtain ⟨m', hm'⟩ := hdv
      have hm1 : 1 ≤ m' := by
        rcases Nat.eq_zero_or_pos m' with h | h
        · rw [h] at hm'; simp at hm'; omega
        · exact h
      have hlt : m' < m := by
        have a : 4 ≤ d * d := Nat.mul_le_mul hd2 hd2
        have b : 4 * m' ≤ d * d * m' := Nat.mul_le_mul_right _ a
        omega
      have he' : N = m' * ((r * d) * (r * d)) := by rw [he, hm']; grind
      have hrd := rsq_le hm1 he' hN
      have hrd1 : 1 ≤ r * d := Nat.mul_pos hr (by omega)
      have hmM : m' ≤ 2147483647 := by
        have := Nat.le_mul_of_pos_right m' (Nat.mul_pos hrd1 hrd1)
        omega
      obtain ⟨m2, r2, q1, q2⟩ := rsqf_inner hg hN hd2 hd t m' (r * d) (by omega) hm1 (Nat.mul_pos hr (by omega)) he' (fun c h1 h2 h3 => hc c h1 h2 (Nat.dvd_trans h3 ⟨d * d, by rw [hm', Nat.mul_comm]⟩))
      refine ⟨m2, r2, (iterL_next ?_).trans q1, q2⟩
      simp only [quadformref22_Squarefree.s0, quadformref22_Squarefree.j2, cite, decide_eq_true_eq, beq_iff_eq]
      rw [hdd, if_neg (by omega), tmod_sign hg, tdiv_sign hg, hm', Nat.mul_mod_right, Nat.mul_div_cancel_left _ hdd0, if_pos (by simp), if_neg (by omega), wi64 (x := g * (m' : Nat)) (by rcases hg with rfl | rfl <;> omega) (by rcases hg with rfl | rfl <;> omega), ← Int.natCast_mul, wi64 (x := ((r * d : Nat) : Int)) (by omega) (by omega)]
    · refine ⟨m, r, iterL_done ?_, hm, hr, he, fun c h1 h2 h3 => by
        by_cases e : c = d
        · subst e; exact hdv h3
        · exact hc c h1 (by omega) h3⟩
      simp only [quadformref22_Squarefree.s0, quadformref22_Squarefree.j2, cite, decide_eq_true_eq, beq_iff_eq]
      rw [hdd, if_neg (by omega), tmod_sign hg, if_neg]
      intro h0
      apply hdv
      apply Nat.dvd_of_mod_eq_zero
      rcases hg with rfl | rfl <;> omega
theorem rsqf_loop {g : Int} (hg : g = 1 ∨ g = -1) {N : Nat} (hN : N ≤ 2147483647) : ∀ (t d m r : Nat), 46342 - d = t → 2 ≤ d → d ≤ 46341 → 1 ≤ m → 1 ≤ r → N = m * (r * r) → (∀ c, 2 ≤ c → c < d → ¬ c * c ∣ m) →
    ∃ S R : Nat, Sqf S ∧ 1 ≤ S ∧ 1 ≤ R ∧ N = S * (R * R) ∧ iterL (fun x : Int × Int × Int × Unit => quadformref22_Squarefree.s1 x.1 x.2.1 x.2.2.1) (g * (m : Nat), (r : Int), (d : Int), ()) = some (g * (S : Nat), (R : Int), ())
  | 0, d, m, r, ht, _, hd, _, _, _, _ => by omega
  | t + 1, d, m, r, ht, hd2, hd, hm, hr, he, hc => by
    have hdd : IntKind.wrap .i64 ((d : Int) * d) = ((d * d : Nat) : Int) := sq_wrap (by omega)
    have hmN : m ≤ N := by
      rw [he]
      exact Nat.le_mul_of_pos_right _ (Nat.mul_pos hr hr)
    have hneg : IntKind.wrap .i64 (0 - (g * (m : Nat))) = -(g * (m : Nat)) := by rw [wi64 (by rcases hg with rfl | rfl <;> omega) (by rcases hg with rfl | rfl <;> omega)]; omega
    have hst : quadformref22_Squarefree.s1 (g * (m : Nat)) (r : Int) (d : Int) = if d * d ≤ m then ((iterL (fun x : Int × Int × Int × Unit => quadformref22_Squarefree.s0 x.1 x.2.1 x.2.2.1) (g * (m : Nat), (r : Int), (d : Int), ())).bind fun y => quadformref22_Squarefree.k0 y.1 y.2.1 y.2.2.1) else some (.inr (g * (m : Nat), (r : Int), ())) := by
      simp only [quadformref22_Squarefree.s1, quadformref22_Squarefree.j3, cite, decide_eq_true_eq]
      rw [hdd, hneg]
      by_cases h1 : ((d * d : Nat) : Int) ≤ g * (m : Nat)
      · rw [if_pos h1, if_pos (by rcases hg with rfl | rfl <;> omega)]
      · rw [if_neg h1]
        by_cases h2 : d * d ≤ m
        · rw [if_pos h2, if_pos (by rcases hg with rfl | rfl <;> omega)]
        · rw [if_neg h2, if_neg (by rcases hg with rfl | rfl <;> omega)]
    by_cases hle : d * d ≤ m
    · have hb := sq_le hle (by omega : m ≤ 2147483647)
      obtain ⟨m', r', q1, q2, q3, q4, q5⟩ := rsqf_inner hg hN hd2 hb (m + 1) m r (by omega) hm hr he hc
      obtain ⟨S, R, hS, hS1, hR1, hSR, hE⟩ := rsqf_loop hg hN t (d + 1) m' r' (by omega) (by omega) (by omega) q2 q3 q4 q5
      refine ⟨S, R, hS, hS1, hR1, hSR, (iterL_next ?_).trans hE⟩
      simp only []
      rw [hst, if_pos hle, q1, Option.bind_some]
      simp only [quadformref22_Squarefree.k0]
      rw [up (by omega)]
    · refine ⟨m, r, fun c h1 h2 => ?_, hm, hr, he, iterL_done ?_⟩
      · by_cases h3 : c < d
        · exact hc c h1 h3 h2
        · have := Nat.le_of_dvd (by omega) h2
          have := Nat.mul_le_mul (show d ≤ c by omega) (show d ≤ c by omega)
          omega
      · simp only []
        rw [hst, if_neg hle]
theorem rsqf_bad {n : Int} (h : n = 0 ∨ 2147483647 < n ∨ n < -2147483647) : quadformref22_Squarefree n = some (0, 0, 1, ()) := by
  unfold quadformref22_Squarefree
  simp only [cite, beq_iff_eq, decide_eq_true_eq]
  by_cases h0 : n = 0
  · rw [if_pos h0]
  · rw [if_neg h0]
    by_cases h1 : n < -2147483647
    · rw [if_pos h1]
    · rw [if_neg h1, if_pos (by omega)]
theorem rsqf_ok {n : Int} (h0 : n ≠ 0) (hn : -2147483647 ≤ n ∧ n ≤ 2147483647) : ∃ s r, SqOf n s r ∧ quadformref22_Squarefree n = some (s, r, 0, ()) := by
  obtain ⟨m, hm⟩ : ∃ m : Nat, n.natAbs = m := ⟨_, rfl⟩
  have hg : (if n < 0 then (-1 : Int) else 1) = 1 ∨ (if n < 0 then (-1 : Int) else 1) = -1 := by split <;> simp
  have hnm : n = (if n < 0 then (-1 : Int) else 1) * (m : Nat) := by split <;> omega
  obtain ⟨S, R, hS, hS1, hR1, hSR, hE⟩ := rsqf_loop hg (N := m) (by omega) _ 2 m 1 rfl (by omega) (by omega) (by omega) (by omega) (by simp) (fun c h1 h2 => by omega)
  refine ⟨_, _, ⟨S, R, _, hg, by rw [← hSR]; exact hnm, rfl, rfl, hS, hS1, hR1⟩, ?_⟩
  unfold quadformref22_Squarefree
  simp only [cite, beq_iff_eq, decide_eq_true_eq]
  rw [if_neg h0, if_neg (by omega), if_neg (by omega)]
  simp only [quadformref22_Squarefree.j1]
  rw [← hnm] at hE
  have hE' : iterL (fun x : Int × Int × Int × Unit => quadformref22_Squarefree.s1 x.1 x.2.1 x.2.2.1) (n, (1 : Int), (2 : Int), ()) = _ := hE
  rw [hE', Option.bind_some]
  rfl
theorem both_sqf (n : Int) : ∃ s r e : Int, prime_Squarefree n = some (s, r, e, ()) ∧ quadformref22_Squarefree n = some (s, r, e, ()) ∧ (e = 1 ∨ (e = 0 ∧ -2147483647 ≤ s ∧ s ≤ 2147483647)) := by
  by_cases h : n = 0 ∨ 2147483647 < n ∨ n < -2147483647
  · exact ⟨0, 0, 1, sqf_bad h, rsqf_bad h, .inl rfl⟩
  · obtain ⟨s, r, h1, h2⟩ := sqf_ok (n := n) (by omega) (by omega)
    obtain ⟨s', r', h1', h2'⟩ := rsqf_ok (n := n) (by omega) (by omega)
    obtain ⟨rfl, rfl⟩ := sqOf_unique h1 h1'
    refine ⟨s, r, 0, h2, h2', .inr ⟨rfl, ?_⟩⟩
    obtain ⟨S, R, g, hg, hn, rfl, rfl, hS, hS1, hR1⟩ := h1
    have : S * 1 ≤ S * (R * R) := Nat.mul_le_mul_left _ (Nat.mul_pos hR1 hR1)
    rcases hg with rfl | rfl <;> omega
theorem both_disc (n : Int) : ∃ d e : Int, prime_Discriminant n = some (d, e, ()) ∧ quadformref22_Discriminant n = some (d, e, ()) := by
  obtain ⟨s, r, e, h1, h2, h3⟩ := both_sqf n
  have hr := residue_ok s 4 (by omega) (by omega)
  have hr' : quadformref22_Mod s 4 = some (s % (4 : Nat)) := hr
  unfold prime_Discriminant quadformref22_Discriminant
  rw [h1, h2, Option.bind_some, Option.bind_some]
  simp only [prime_Discriminant.j1, prime_Discriminant.j2, quadformref22_Discriminant.j1, quadformref22_Discriminant.j2]
  rw [show prime_residue s 4 = some (s % (4 : Nat)) from hr, hr', Option.bind_some]
  simp only [cite]
  split
  · exact ⟨_, _, rfl, rfl⟩
  · split <;> exact ⟨_, _, rfl, rfl⟩
end Go.Proofs.Ytbchgegclgpdhaa.V
/- What a run with fuel gives, the function without fuel gives. -/
namespace Go.Proofs.Ytbchgegclgpdhaa.E
open Go
set_option linter.unusedVariables false
def Le {α : Type} (a b : Option α) : Prop := ∀ y, a = some y → b = some y
theorem Le.refl {α : Type} (a : Option α) : Le a a := fun _ h => h
theorem Le.cond {α : Type} {c : Bool} {a a' b b' : Option α} (h : Le a a') (h' : Le b b') : Le (cond c a b) (cond c a' b') := by
  cases c
  · exact h'
  · exact h
theorem Le.bind {α β : Type} {a a' : Option α} {f f' : α → Option β} (h : Le a a') (h' : ∀ y, Le (f y) (f' y)) : Le (a.bind f) (a'.bind f') := by
  intro y hy
  obtain ⟨x, h1, h2⟩ := Option.bind_eq_some_iff.1 hy
  rw [h x h1, Option.bind_some]
  exact h' x y h2
theorem Le.iter {α β : Type} {f f' : α → Option (α ⊕ β)} (h : ∀ x, Le (f x) (f' x)) : ∀ (n : Nat) (x : α), Le (iterN f n x) (iterL f' x)
  | 0, x => fun y hy => by cases hy
  | n + 1, x => fun y hy => by
    simp only [iterN] at hy
    split at hy
    · cases hy
    · rename_i x' hx
      rw [iterL_next (h x _ hx)]
      exact Le.iter h n x' y hy
    · rename_i b hx
      cases hy
      exact iterL_done (h x _ hx)
theorem Le.sum {α β γ : Type} {f f' : α → Option γ} {g g' : β → Option γ} (h : ∀ y, Le (f y) (f' y)) (h' : ∀ z, Le (g z) (g' z)) (s : α ⊕ β) : Le (Sum.casesOn s f g) (Sum.casesOn (motive := fun _ => Option γ) s f' g') := by
  cases s with
  | inl y => exact h y
  | inr z => exact h' z
/-- A run with fuel, in the order of the function without. -/
abbrev iterC (n : Nat) {α β : Type} (f : α → Option (α ⊕ β)) (x : α) : Option β := iterN f n x
end Go.Proofs.Ytbchgegclgpdhaa.E
