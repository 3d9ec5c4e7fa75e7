/- Laws: the prime test, residues, powers modulo a prime number, the symbol of a unit. -/
import Derived.Test.YtcjhbjfkcmncpabN6
import Derived.Test.YtcjhbjfkcmncpabNum
namespace Go.Proofs.Ytcjhbjfkcmncpab.V
open Go Go.Proofs.Ytcjhbjfkcmncpab.E Go.Proofs.Ytcjhbjfkcmncpab.LI Go.Proofs.Ytcjhbjfkcmncpab.Num
set_option linter.unusedVariables false
set_option linter.unusedSimpArgs false

theorem sq_le {d n : Nat} (h : d * d ≤ n) (hn : n ≤ 2147483647) : d ≤ 46340 := by
  apply Classical.byContradiction
  intro hc
  have := Nat.mul_le_mul (show 46341 ≤ d by omega) (show 46341 ≤ d by omega)
  omega
theorem sq_wrap {d : Nat} (h : d ≤ 46342) : IntKind.wrap .i64 ((d : Int) * d) = ((d * d : Nat) : Int) := by
  have := Nat.mul_le_mul h h
  rw [← Int.natCast_mul]
  apply wi64 <;> omega
theorem tmod_nat (m n : Nat) : Int.tmod (m : Int) (n : Int) = ((m % n : Nat) : Int) := (Int.ofNat_tmod m n).symm
theorem tdiv_nat (m n : Nat) : Int.tdiv (m : Int) (n : Int) = ((m / n : Nat) : Int) := (Int.ofNat_tdiv m n).symm

/-! ## the prime test -/
theorem is_step (n d : Nat) (hd2 : 2 ≤ d) (hd : d ≤ 46341) : prime_Is.s0 (n : Int) (d : Int) = if d * d ≤ n then if n % d = 0 then some (.inr (.inr (false, ()))) else some (.inl ((n : Int), ((d + 1 : Nat) : Int), ())) else some (.inr (.inl ())) := by
  simp only [prime_Is.s0, prime_Is.j2, prime_Is.j3, cite, decide_eq_true_eq, beq_iff_eq]
  rw [sq_wrap (by omega), if_neg (show ¬ (d : Int) = 0 by omega), tmod_nat, up (by omega)]
  by_cases h1 : d * d ≤ n
  · rw [if_pos h1, if_pos (by omega)]
    by_cases h2 : n % d = 0
    · rw [if_pos h2, if_pos (by omega)]
    · rw [if_neg h2, if_neg (by omega)]
  · rw [if_neg h1, if_neg (by omega)]
theorem is_loop (n : Nat) (h2 : 2 ≤ n) (hn : n ≤ 2147483647) : ∀ (t d : Nat), 46342 - d = t → 2 ≤ d → d ≤ 46341 → (∀ q, 2 ≤ q → q ∣ n → q < n → d ≤ q) →
    ∃ z, iterL (fun x : Int × Int × Unit => prime_Is.s0 x.1 x.2.1) ((n : Int), (d : Int), ()) = some z ∧ ((z = .inl () ∧ Pr n) ∨ (z = .inr (false, ()) ∧ ¬ Pr n)) := by
  intro t
  induction t with
  | zero => intro d h1 h2 h3; omega
  | succ t ih =>
    intro d ht hd2 hd hlo
    have hst := is_step n d hd2 hd
    by_cases hle : d * d ≤ n
    · have hb := sq_le hle hn
      rw [if_pos hle] at hst
      by_cases hdv : n % d = 0
      · rw [if_pos hdv] at hst
        refine ⟨_, iterL_done hst, .inr ⟨rfl, fun hp => ?_⟩⟩
        rcases hp.2 d (Nat.dvd_of_mod_eq_zero hdv) with h | h
        · omega
        · subst h
          have := Nat.mul_le_mul_right d hd2
          omega
      · rw [if_neg hdv] at hst
        obtain ⟨z, hb1, hb2⟩ := ih (d + 1) (by omega) (by omega) (by omega) (fun q h1 h3 h4 => by
          have := hlo q h1 h3 h4
          have : q ≠ d := by rintro rfl; exact hdv (Nat.mod_eq_zero_of_dvd h3)
          omega)
        exact ⟨z, (iterL_next hst).trans hb1, hb2⟩
    · rw [if_neg hle] at hst
      exact ⟨_, iterL_done hst, .inl ⟨rfl, pr_of_noDiv h2 hlo (by omega)⟩⟩
theorem is_any (a : Int) : ∃ b : Bool, (b = true ↔ 2 ≤ a ∧ a ≤ 2147483647 ∧ Pr a.toNat) ∧ prime_Is a = some b := by
  unfold prime_Is
  simp only [cite, decide_eq_true_eq]
  by_cases h : a < 2
  · rw [if_pos h]
    exact ⟨false, ⟨fun h => by simp at h, fun h => by omega⟩, rfl⟩
  · rw [if_neg h]
    by_cases h3 : a > 2147483647
    · rw [if_pos h3]
      exact ⟨false, ⟨fun h => by simp at h, fun h => by omega⟩, rfl⟩
    · rw [if_neg h3]
      obtain ⟨n, rfl⟩ : ∃ n : Nat, a = n := ⟨a.toNat, by omega⟩
      obtain ⟨z, h1, h2⟩ := is_loop n (by omega) (by omega) 46340 2 rfl (by omega) (by omega) (fun q h _ _ => h)
      unfold prime_Is.j1
      rw [show ((2 : Nat) : Int) = 2 from rfl] at h1
      rw [h1, Option.bind_some]
      rcases h2 with ⟨rfl, hp⟩ | ⟨rfl, hp⟩
      · exact ⟨true, ⟨fun _ => ⟨by omega, by omega, by simpa using hp⟩, fun _ => rfl⟩, rfl⟩
      · exact ⟨false, ⟨fun h => by simp at h, fun h => absurd (by simpa using h.2.2) hp⟩, rfl⟩
theorem ref_is (a : Int) : quadformref22_Is a = prime_Is a := rfl
end Go.Proofs.Ytcjhbjfkcmncpab.V
