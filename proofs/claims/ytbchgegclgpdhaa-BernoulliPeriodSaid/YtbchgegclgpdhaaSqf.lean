/- The squarefree part of a number and the root of the rest: they are unique. -/
import Derived.Test.YtbchgegclgpdhaaNum
namespace Go.Proofs.Ytbchgegclgpdhaa.Num

def Sqf (s : Nat) : Prop := ∀ d, 2 ≤ d → ¬ d * d ∣ s

theorem sqf_unique {s t r u : Nat} (hs : Sqf s) (ht : Sqf t) (hr : 1 ≤ r) (hu : 1 ≤ u) (h : s * (r * r) = t * (u * u)) : s = t ∧ r = u := by
  have hg : 0 < Nat.gcd r u := Nat.gcd_pos_of_pos_left _ hr
  obtain ⟨r', hr'⟩ := Nat.gcd_dvd_left r u
  obtain ⟨u', hu'⟩ := Nat.gcd_dvd_right r u
  have hc : Nat.Coprime r' u' := by
    have := Nat.gcd_mul_left (Nat.gcd r u) r' u'
    rw [← hr', ← hu'] at this
    have h2 : Nat.gcd r u * Nat.gcd r' u' = Nat.gcd r u * 1 := by omega
    exact Nat.eq_of_mul_eq_mul_left hg h2
  generalize Nat.gcd r u = g at *
  subst hr' hu'
  have hr1 : r' ≠ 0 := by rintro rfl; simp at hr
  have hu1 : u' ≠ 0 := by rintro rfl; simp at hu
  have e : s * (r' * r') = t * (u' * u') := by
    have a : (g * g) * (s * (r' * r')) = (g * g) * (t * (u' * u')) := by
      have x : s * (g * r' * (g * r')) = (g * g) * (s * (r' * r')) := by grind
      have y : t * (g * u' * (g * u')) = (g * g) * (t * (u' * u')) := by grind
      omega
    exact Nat.eq_of_mul_eq_mul_left (Nat.mul_pos hg hg) a
  have hcu : Nat.Coprime (u' * u') (r' * r') := Nat.Coprime.mul_left (Nat.Coprime.mul_right hc.symm hc.symm) (Nat.Coprime.mul_right hc.symm hc.symm)
  have du : u' * u' ∣ s := hcu.dvd_of_dvd_mul_right ⟨t, by rw [e, Nat.mul_comm]⟩
  have dr : r' * r' ∣ t := hcu.symm.dvd_of_dvd_mul_right ⟨s, by rw [← e, Nat.mul_comm]⟩
  have hu2 : u' = 1 := by
    apply Classical.byContradiction
    intro hne
    exact hs u' (by omega) du
  have hr2 : r' = 1 := by
    apply Classical.byContradiction
    intro hne
    exact ht r' (by omega) dr
  subst hu2 hr2
  refine ⟨by simpa using e, rfl⟩

def sf : List (Nat × Nat) → Nat
  | [] => 1
  | (p, e) :: L => p ^ (e % 2) * sf L
def sr : List (Nat × Nat) → Nat
  | [] => 1
  | (p, e) :: L => p ^ (e / 2) * sr L

theorem Fac.sf_sr : ∀ {L : List (Nat × Nat)} {lo n : Nat}, Fac lo n L → n = sf L * (sr L * sr L)
  | [], _, _, h => by simp only [Fac] at h; subst h; rfl
  | (p, e) :: L, _, _, h => by
    obtain ⟨_, hp, _, m, rfl, hm⟩ := h
    have e1 := hm.sf_sr
    have e2 : p ^ e = p ^ (e % 2) * (p ^ (e / 2) * p ^ (e / 2)) := by
      rw [← Nat.pow_add, ← Nat.pow_add]; congr 1; omega
    simp only [sf, sr]
    rw [e2, e1]
    grind

theorem Fac.sf_dvd {L : List (Nat × Nat)} {lo n : Nat} (h : Fac lo n L) : sf L ∣ n := ⟨_, h.sf_sr⟩

theorem Fac.sf_pos {L : List (Nat × Nat)} {lo n : Nat} (h : Fac lo n L) : 1 ≤ sf L ∧ 1 ≤ sr L := by
  have h1 := h.pos
  have h2 := h.sf_sr
  constructor
  · rcases Nat.eq_zero_or_pos (sf L) with e | e
    · rw [e] at h2; simp at h2; omega
    · exact e
  · rcases Nat.eq_zero_or_pos (sr L) with e | e
    · rw [e] at h2; simp at h2; omega
    · exact e

theorem Fac.sf_sqf : ∀ {L : List (Nat × Nat)} {lo n : Nat}, Fac lo n L → Sqf (sf L) := by
  have key : ∀ {L : List (Nat × Nat)} {lo n q : Nat}, Fac lo n L → Pr q → ¬ q * q ∣ sf L := by
    intro L
    induction L with
    | nil => intro lo n q _ hq hd; exact hq.not_dvd_one (Nat.dvd_trans ⟨q, rfl⟩ hd)
    | cons x L ih =>
      obtain ⟨p, e⟩ := x
      intro lo n q h hq hd
      obtain ⟨_, hp, _, m, rfl, hm⟩ := h
      simp only [sf] at hd
      have hn : ∀ q', Pr q' → q' ∣ sf L → p < q' := fun q' hq' hd' => hm.gt hq' (Nat.dvd_trans hd' hm.sf_dvd)
      by_cases hqp : q = p
      · subst hqp
        have hq0 : 0 < q := by have := hq.1; omega
        rcases Nat.mod_two_eq_zero_or_one e with he | he
        · rw [he, Nat.pow_zero, Nat.one_mul] at hd
          have := hn q hq (Nat.dvd_trans ⟨q, rfl⟩ hd)
          omega
        · rw [he, Nat.pow_one] at hd
          have := hn q hq (Nat.dvd_of_mul_dvd_mul_left hq0 hd)
          omega
      · have hc : Nat.Coprime q p := hq.coprime (fun hd => hqp (hq.eq_of_dvd hp hd))
        have hc2 : Nat.Coprime (q * q) (p ^ (e % 2)) := Nat.Coprime.pow_right _ (Nat.Coprime.mul_left hc hc)
        exact ih hm hq (hc2.dvd_of_dvd_mul_left hd)
  intro L lo n h d hd hdd
  obtain ⟨q, hq, hqd⟩ := exists_prime d hd
  exact key h hq (Nat.dvd_trans (Nat.mul_dvd_mul hqd hqd) hdd)

end Go.Proofs.Ytbchgegclgpdhaa.Num
