/- The next prime number, of the program and of the reference; 2147483647 is a prime number. -/
import Derived.Test.YtcjhbjfkcmncpaaPF
import Derived.Test.YtcjhbjfkcmncpaaQx0
import Derived.Test.YtcjhbjfkcmncpaaQx2
import Derived.Test.YtcjhbjfkcmncpaaQx51
import Derived.Test.YtcjhbjfkcmncpaaQx52
namespace Go.Proofs.Ytcjhbjfkcmncpaa.Q
open Go.RowKit Go.Proofs.YtcjhbjfkcmncpaaW.PrintWords Go.Proofs.YtcjhbjfkcmncpaaW.PrintLast Go.Proofs.YtcjhbjfkcmncpaaW.PrintMore
open Go.Proofs.Ytcjhbjfkcmncpaa.Num

/-- none of the 2^d numbers from q on divides n -/
def noDiv (n : Nat) : Nat → Nat → Bool
  | 0, q => n % q != 0
  | d + 1, q => noDiv n d q && noDiv n d (q + 2 ^ d)

theorem noDiv_at {n : Nat} : ∀ (d lo q : Nat), noDiv n d lo = true → lo ≤ q → q < lo + 2 ^ d → n % q ≠ 0
  | 0, lo, q, h, h1, h2 => by
    have : q = lo := by rw [Nat.pow_zero] at h2; omega
    subst this
    simpa [noDiv] using h
  | d + 1, lo, q, h, h1, h2 => by
    simp only [noDiv, Bool.and_eq_true] at h
    rw [Nat.pow_succ] at h2
    by_cases hq : q < lo + 2 ^ d
    · exact noDiv_at d lo q h.1 h1 hq
    · exact noDiv_at d (lo + 2 ^ d) q h.2 (by omega) (by omega)

theorem prime_max : Pr 2147483647 := by
  have h : noDiv 2147483647 16 2 = true := by decide +kernel
  refine pr_of_noDiv (c := 46341) (by omega) (fun q h2 hd _ => ?_) (by omega)
  apply Classical.byContradiction
  intro hc
  exact noDiv_at 16 2 q h h2 (by omega) (Nat.mod_eq_zero_of_dvd hd)

/-- q is the least prime number from x on -/
def Least (x q : Nat) : Prop := x ≤ q ∧ q ≤ 2147483647 ∧ Pr q ∧ ∀ y, x ≤ y → y < q → ¬ Pr y

theorem next_loop : ∀ (t x : Nat), 2147483648 - x = t → 2 ≤ x → x ≤ 2147483647 →
    ∃ q, Least x q ∧ Ev (fun k => prime_Next.l0 k x) ((q : Int), true) ∧ Ev (fun k => quadformref22_Next.l0 k x) ((q : Int), true)
  | 0, x, h, _, _ => by omega
  | t + 1, x, ht, h2, hM => by
    obtain ⟨b, hb, hE⟩ := is_nat x h2 hM
    have s1 : ∀ k, prime_Next.l0 (k + 1) x = (prime_Is.f k x).bind fun u => if u = true then some ((x : Int), true) else prime_Next.l0 k ((x + 1 : Nat) : Int) := by
      intro k
      simp only [prime_Next.l0]
      rw [w64 (x := (x : Int) + 1) (by omega) (by omega)]
      rfl
    have s2 : ∀ k, quadformref22_Next.l0 (k + 1) x = (prime_Is.f k x).bind fun u => if u = true then some ((x : Int), true) else quadformref22_Next.l0 k ((x + 1 : Nat) : Int) := by
      intro k
      simp only [quadformref22_Next.l0]
      rw [if_pos (by omega), w64 (x := (x : Int) + 1) (by omega) (by omega), ref_is]
      rfl
    cases b with
    | true =>
      refine ⟨x, ⟨Nat.le_refl _, hM, hb.1 rfl, fun y a b => by omega⟩, Ev.step s1 (Ev.bind hE ?_), Ev.step s2 (Ev.bind hE ?_)⟩
      · simp only [if_true]; exact Ev.now _
      · simp only [if_true]; exact Ev.now _
    | false =>
      have hnp : ¬ Pr x := fun h => by have := hb.2 h; simp at this
      have hx : x ≠ 2147483647 := by rintro rfl; exact hnp prime_max
      obtain ⟨q, ⟨q1, q2, q3, q4⟩, e1, e2⟩ := next_loop t (x + 1) (by omega) (by omega) (by omega)
      refine ⟨q, ⟨by omega, q2, q3, fun y a b => ?_⟩, Ev.step s1 (Ev.bind hE ?_), Ev.step s2 (Ev.bind hE ?_)⟩
      · by_cases hy : y = x
        · subst hy; exact hnp
        · exact q4 y (by omega) b
      · refine Ev.congr (fun k => ?_) e1
        rw [if_neg (by simp)]
      · refine Ev.congr (fun k => ?_) e2
        rw [if_neg (by simp)]

theorem next_big {n : Int} (h : 2147483647 ≤ n) : Ev (fun k => prime_Next.f k n) (0, false) ∧ Ev (fun k => quadformref22_Next.f k n) (0, false) := by
  constructor
  · refine Ev.congr (fun k => ?_) (Ev.now _)
    unfold prime_Next.f
    rw [if_neg (by omega), if_pos (by omega)]
  · refine Ev.congr (fun k => ?_) (Ev.now _)
    unfold quadformref22_Next.f
    rw [if_pos (by omega)]

theorem next_ok {n : Int} (h : n < 2147483647) : ∃ q : Nat, Least (if n < 2 then 2 else n.toNat + 1) q ∧ Ev (fun k => prime_Next.f k n) ((q : Int), true) ∧ Ev (fun k => quadformref22_Next.f k n) ((q : Int), true) := by
  by_cases h2 : n < 2
  · obtain ⟨q, hq, e1, e2⟩ := next_loop _ 2 rfl (by omega) (by omega)
    have hp2 : Pr 2 := by
      obtain ⟨p, hp, hd⟩ := exists_prime 2 (by omega)
      have := Nat.le_of_dvd (by omega) hd
      have := hp.1
      have : p = 2 := by omega
      subst this
      exact hp
    have hq2 : q = 2 := by
      obtain ⟨q1, _, _, q4⟩ := hq
      apply Classical.byContradiction
      intro hne
      exact q4 2 (by omega) (by omega) hp2
    subst hq2
    rw [if_pos h2]
    refine ⟨2, hq, ?_, ?_⟩
    · refine Ev.congr (fun k => ?_) (Ev.now _)
      unfold prime_Next.f
      rw [if_pos h2]
      rfl
    · refine Ev.congr (fun k => ?_) e2
      unfold quadformref22_Next.f
      rw [if_neg (by omega)]
      have : wrap64 (mx n 1 + 1) = 2 := by
        unfold mx
        split
        · exact w64 (by omega) (by omega)
        · have : n = 1 := by omega
          subst this
          exact w64 (by omega) (by omega)
      rw [this]
      rfl
  · obtain ⟨x, rfl⟩ : ∃ x : Nat, n = x := ⟨n.toNat, by omega⟩
    obtain ⟨q, hq, e1, e2⟩ := next_loop _ (x + 1) rfl (by omega) (by omega)
    rw [if_neg h2, Int.toNat_natCast]
    refine ⟨q, hq, ?_, ?_⟩
    · refine Ev.congr (fun k => ?_) e1
      unfold prime_Next.f
      rw [if_neg h2, if_neg (by omega), w64 (by omega) (by omega)]
      rfl
    · refine Ev.congr (fun k => ?_) e2
      unfold quadformref22_Next.f
      rw [if_neg (by omega)]
      have : wrap64 (mx (x : Int) 1 + 1) = ((x + 1 : Nat) : Int) := by
        unfold mx
        rw [if_neg (by omega), w64 (by omega) (by omega)]
        rfl
      rw [this]

end Go.Proofs.Ytcjhbjfkcmncpaa.Q
