/- The squarefree part and the fundamental discriminant, of the program and of the reference. -/
import Derived.Test.YtcjhbjfkcmncpaaSqf
import Derived.Test.YtcjhbjfkcmncpaaPK
import Derived.Test.YtcjhbjfkcmncpaaQx0
import Derived.Test.YtcjhbjfkcmncpaaQx4
import Derived.Test.YtcjhbjfkcmncpaaQx6
import Derived.Test.YtcjhbjfkcmncpaaQx9
import Derived.Test.YtcjhbjfkcmncpaaQx10
import Derived.Test.YtcjhbjfkcmncpaaQx47
import Derived.Test.YtcjhbjfkcmncpaaQx49
namespace Go.Proofs.Ytcjhbjfkcmncpaa.Q
open Go.RowKit Go.Proofs.YtcjhbjfkcmncpaaW.PrintWords Go.Proofs.YtcjhbjfkcmncpaaW.PrintLast Go.Proofs.YtcjhbjfkcmncpaaW.PrintMore
open Go.Proofs.Ytcjhbjfkcmncpaa.Num

/-- s and r are what n asks for -/
def SqOf (n s r : Int) : Prop := ∃ (S R : Nat) (g : Int), (g = 1 ∨ g = -1) ∧ n = g * (S * (R * R) : Nat) ∧ s = g * (S : Nat) ∧ r = (R : Nat) ∧ Sqf S ∧ 1 ≤ S ∧ 1 ≤ R

theorem sqOf_unique {n s r s' r' : Int} (h : SqOf n s r) (h' : SqOf n s' r') : s = s' ∧ r = r' := by
  obtain ⟨S, R, g, hg, hn, rfl, rfl, hS, hS1, hR1⟩ := h
  obtain ⟨S', R', g', hg', hn', rfl, rfl, hS', hS1', hR1'⟩ := h'
  have p1 : 1 ≤ S * (R * R) := Nat.mul_pos hS1 (Nat.mul_pos hR1 hR1)
  have p2 : 1 ≤ S' * (R' * R') := Nat.mul_pos hS1' (Nat.mul_pos hR1' hR1')
  have e : g = g' ∧ S * (R * R) = S' * (R' * R') := by
    generalize S * (R * R) = A at *
    generalize S' * (R' * R') = B at *
    rcases hg with rfl | rfl <;> rcases hg' with rfl | rfl <;> omega
  obtain ⟨rfl, e⟩ := e
  obtain ⟨rfl, rfl⟩ := sqf_unique hS hS' hR1 hR1' e
  exact ⟨rfl, rfl⟩

theorem sqOf_times {n s r : Int} (h : SqOf n s r) (u : Nat) (hu : 1 ≤ u) : SqOf (n * u * u) s (r * u) := by
  obtain ⟨S, R, g, hg, hn, rfl, rfl, hS, hS1, hR1⟩ := h
  refine ⟨S, R * u, g, hg, ?_, rfl, by simp, hS, hS1, Nat.mul_pos hR1 hu⟩
  rw [hn]
  simp only [Int.natCast_mul]
  grind

theorem sqf_inner {LS : List S30} {len : Int} {i p e : Nat} (hp1 : 1 ≤ p) (he : e ≤ 100) (hi : i ≤ 100) (s : Int) (R : Int × Int × Int) :
    ∀ (t j r : Nat), e / 2 - j = t → j ≤ e / 2 → r * p ^ t ≤ 2147483647 → Ev (fun k => prime_Squarefree.l0 k s ((r * p ^ t : Nat) : Int) LS len ((i + 1 : Nat) : Int)) R →
      Ev (fun k => prime_Squarefree.l1 k s r j LS len i p e) R
  | 0, j, r, ht, hj, hb, h => by
    rw [Nat.pow_zero, Nat.mul_one] at h
    refine Ev.step (fun k => ?_) h
    simp only [prime_Squarefree.l1]
    rw [show Int.tdiv (e : Int) 2 = ((e / 2 : Nat) : Int) from tdiv_nat e 2, w64 (x := ((e / 2 : Nat) : Int)) (by omega) (by omega), if_neg (by omega), w64 (x := (i : Int) + 1) (by omega) (by omega)]
    rfl
  | t + 1, j, r, ht, hj, hb, h => by
    have hb2 : r * p * p ^ t ≤ 2147483647 := by rw [Nat.mul_assoc, ← Nat.pow_succ']; exact hb
    have hpt : 1 ≤ p ^ t := Nat.pow_pos hp1
    have hb3 : r * p * 1 ≤ r * p * p ^ t := Nat.mul_le_mul_left _ hpt
    refine Ev.step (f := fun k => prime_Squarefree.l1 k s ((r * p : Nat) : Int) ((j + 1 : Nat) : Int) LS len i p e) (fun k => ?_) (sqf_inner hp1 he hi s R t (j + 1) (r * p) (by omega) (by omega) hb2 (by rw [Nat.mul_assoc, ← Nat.pow_succ']; exact h))
    simp only [prime_Squarefree.l1]
    rw [show Int.tdiv (e : Int) 2 = ((e / 2 : Nat) : Int) from tdiv_nat e 2, w64 (x := ((e / 2 : Nat) : Int)) (by omega) (by omega), if_pos (by omega), w64 (x := (j : Int) + 1) (by omega) (by omega), ← Int.natCast_mul, w64 (x := ((r * p : Nat) : Int)) (by omega) (by omega)]
    rfl

theorem sqf_loop {g : Int} (hg : g = 1 ∨ g = -1) : ∀ (L2 L1 : List (Nat × Nat)) (s r : Nat), (∀ x ∈ L2, Pr x.1 ∧ 1 ≤ x.2 ∧ x.1 ≤ 2147483647 ∧ x.2 ≤ 100) → (L1 ++ L2).length ≤ 100 → s * sf L2 ≤ 2147483647 → r * sr L2 ≤ 2147483647 → 1 ≤ sf L2 → 1 ≤ sr L2 →
    Ev (fun k => prime_Squarefree.l0 k (g * (s : Nat)) r (encP (L1 ++ L2)) (((encP (L1 ++ L2)).length : Nat) : Int) (L1.length : Nat)) (g * (s * sf L2 : Nat), ((r * sr L2 : Nat) : Int), 0)
  | [], L1, s, r, _, hl, _, _, _, _ => by
    refine Ev.step (f := fun _ => some (g * (s : Nat), (r : Int), 0)) (fun k => ?_) (by simpa [sf, sr] using Ev.now (g * (s : Nat), (r : Int), (0 : Int)))
    simp only [prime_Squarefree.l0]
    rw [encP_length, if_neg (by simp)]
  | (p, e) :: L2, L1, s, r, hx, hl, hsb, hrb, h1, h2 => by
    obtain ⟨hp, he, hpM, heM⟩ := hx (p, e) (List.mem_cons_self ..)
    simp only at hp he hpM heM
    simp only [sf, sr] at hsb hrb h1 h2 ⊢
    have hp1 : 1 ≤ p := by have := hp.1; omega
    have s1 : 1 ≤ sf L2 := by
      rcases Nat.eq_zero_or_pos (sf L2) with h | h
      · rw [h] at h1; simp at h1
      · exact h
    have r1 : 1 ≤ sr L2 := by
      rcases Nat.eq_zero_or_pos (sr L2) with h | h
      · rw [h] at h2; simp at h2
      · exact h
    have hlen : (L1.length : Int) < ((encP (L1 ++ (p, e) :: L2)).length : Nat) := by
      rw [encP_length, List.length_append, List.length_cons]; omega
    have hl1 : L1.length ≤ 100 := by rw [List.length_append] at hl; omega
    have hsplit : L1 ++ (p, e) :: L2 = (L1 ++ [(p, e)]) ++ L2 := by simp
    have hl' : ((L1 ++ [(p, e)]) ++ L2).length ≤ 100 := by rw [← hsplit]; exact hl
    have hL1 : (L1 ++ [(p, e)]).length = L1.length + 1 := by simp
    rw [← Nat.mul_assoc] at hsb hrb
    have hsb2 : s * p ^ (e % 2) * 1 ≤ s * p ^ (e % 2) * sf L2 := Nat.mul_le_mul_left _ s1
    have hrb2 : r * p ^ (e / 2) * 1 ≤ r * p ^ (e / 2) * sr L2 := Nat.mul_le_mul_left _ r1
    have ih := sqf_loop hg L2 (L1 ++ [(p, e)]) (s * p ^ (e % 2)) (r * p ^ (e / 2)) (fun x h => hx x (List.mem_cons_of_mem _ h)) hl' hsb hrb s1 r1
    rw [hL1, ← hsplit, Nat.mul_assoc s, Nat.mul_assoc r] at ih
    have hin := sqf_inner (LS := encP (L1 ++ (p, e) :: L2)) (len := (((encP (L1 ++ (p, e) :: L2)).length : Nat) : Int)) (i := L1.length) hp1 heM hl1 (g * (s * p ^ (e % 2) : Nat)) _ (e / 2) 0 r (by omega) (by omega) (by omega) ih
    refine Ev.step (f := fun k => prime_Squarefree.j3 k (g * (s * p ^ (e % 2) : Nat)) r (encP (L1 ++ (p, e) :: L2)) (((encP (L1 ++ (p, e) :: L2)).length : Nat) : Int) L1.length p e) (fun k => ?_) (Ev.step (f := fun k => prime_Squarefree.l1 k (g * (s * p ^ (e % 2) : Nat)) r ((0 : Nat) : Int) (encP (L1 ++ (p, e) :: L2)) (((encP (L1 ++ (p, e) :: L2)).length : Nat) : Int) L1.length p e) (fun k => by simp only [prime_Squarefree.j3]; rfl) hin)
    simp only [prime_Squarefree.l0]
    rw [if_pos hlen, if_pos (by omega), if_pos hlen, rdP_at]
    simp only
    rw [show Int.tmod (e : Int) 2 = ((e % 2 : Nat) : Int) from tmod_nat e 2]
    rcases Nat.mod_two_eq_zero_or_one e with h | h
    · rw [h, if_neg (by omega), Nat.pow_zero, Nat.mul_one]
    · rw [h, if_pos (show ((1 : Nat) : Int) = 1 from rfl), Nat.pow_one]
      have hw : g * (s : Nat) * (p : Int) = g * ((s * p : Nat) : Int) := by rw [Int.mul_assoc, Int.natCast_mul]
      rw [h, Nat.pow_one] at hsb2 hsb
      have hb' : s * p ≤ 2147483647 := by omega
      rw [hw]
      generalize s * p = z at hb' ⊢
      rw [w64 (by rcases hg with rfl | rfl <;> omega) (by rcases hg with rfl | rfl <;> omega)]

theorem sqf_bad {n : Int} (h : n = 0 ∨ 2147483647 < n ∨ n < -2147483647) : Ev (fun k => prime_Squarefree.f k n) (0, 0, 1) := by
  refine Ev.congr (f := fun k => prime_Squarefree.j0 k n true) (fun k => ?_) ?_
  · unfold prime_Squarefree.f
    split
    · rfl
    · rw [beyond_ok, decide_eq_true (by omega)]
      rfl
  · refine Ev.step (f := fun _ => some (0, 0, 1)) (fun k => ?_) (Ev.now _)
    simp only [prime_Squarefree.j0, if_true]

theorem sqf_ok {n : Int} (h0 : n ≠ 0) (hn : -2147483647 ≤ n ∧ n ≤ 2147483647) : ∃ s r, SqOf n s r ∧ Ev (fun k => prime_Squarefree.f k n) (s, r, 0) := by
  obtain ⟨m, hm⟩ : ∃ m : Nat, n.natAbs = m := ⟨_, rfl⟩
  obtain ⟨L, hL, hF⟩ := factor_nat m (by omega) (by omega)
  obtain ⟨hb, hlen⟩ := fac_bounds hL (by omega)
  obtain ⟨s1, r1⟩ := hL.sf_pos
  have he := hL.sf_sr
  have hsb : sf L ≤ m := by
    have : sf L * 1 ≤ sf L * (sr L * sr L) := Nat.mul_le_mul_left _ (Nat.mul_pos r1 r1)
    omega
  have hrb : sr L ≤ m := by
    have a : sr L * 1 ≤ sr L * sr L := Nat.mul_le_mul_left _ r1
    have b : 1 * (sr L * sr L) ≤ sf L * (sr L * sr L) := Nat.mul_le_mul_right _ s1
    omega
  have hg : (if n < 0 then (-1 : Int) else 1) = 1 ∨ (if n < 0 then (-1 : Int) else 1) = -1 := by split <;> simp
  have hloop := sqf_loop hg L [] 1 1 hb (by simpa using hlen) (by omega) (by omega) s1 r1
  refine ⟨_, _, ⟨sf L, sr L, _, hg, ?_, rfl, rfl, hL.sf_sqf, s1, r1⟩, ?_⟩
  · rw [← he]; split <;> omega
  · refine Ev.congr (f := fun k => prime_Squarefree.j0 k n false) (fun k => ?_) ?_
    · unfold prime_Squarefree.f
      rw [if_neg h0, beyond_ok, decide_eq_false (by omega)]
      rfl
    · refine Ev.step (f := fun k => prime_Squarefree.j1 k m (if n < 0 then -1 else 1) 1) (fun k => ?_) ?_
      · simp only [prime_Squarefree.j0]
        rw [if_neg (by simp)]
        split
        · rw [show wrap64 (-n) = (m : Int) by rw [w64 (by omega) (by omega)]; omega]
        · rw [show n = (m : Int) by omega]
      · refine Ev.step (f := fun k => (prime_Factor.f k m).bind fun bt => prime_Squarefree.l0 k (if n < 0 then -1 else 1) 1 bt.1 (bt.1.length : Int) 0) (fun k => by simp only [prime_Squarefree.j1]) ?_
        refine Ev.bind hF ?_
        simpa using hloop

/-! ## the reference's -/
theorem tmod_sign {g : Int} (hg : g = 1 ∨ g = -1) (m n : Nat) : Int.tmod (g * (m : Nat)) (n : Nat) = g * ((m % n : Nat) : Int) := by
  rcases hg with rfl | rfl
  · rw [Int.one_mul, Int.one_mul, tmod_nat]
  · rw [Int.neg_one_mul, Int.neg_one_mul, Int.neg_tmod, tmod_nat]
theorem tdiv_sign {g : Int} (hg : g = 1 ∨ g = -1) (m n : Nat) : Int.tdiv (g * (m : Nat)) (n : Nat) = g * ((m / n : Nat) : Int) := by
  rcases hg with rfl | rfl
  · rw [Int.one_mul, Int.one_mul, tdiv_nat]
  · rw [Int.neg_one_mul, Int.neg_one_mul, Int.neg_tdiv, tdiv_nat]

theorem rsq_le {r m N : Nat} (hm : 1 ≤ m) (h : N = m * (r * r)) (hN : N ≤ 2147483647) : r ≤ 46340 := by
  have : 1 * (r * r) ≤ m * (r * r) := Nat.mul_le_mul_right _ hm
  exact sq_le (by omega) hN

theorem rsqf_inner {g : Int} (hg : g = 1 ∨ g = -1) {N d : Nat} (hN : N ≤ 2147483647) (hd2 : 2 ≤ d) (hd : d ≤ 46340) (R : Int × Int × Int)
    (h : ∀ m r : Nat, 1 ≤ m → 1 ≤ r → N = m * (r * r) → (∀ c, 2 ≤ c → c < d + 1 → ¬ c * c ∣ m) → Ev (fun k => quadformref22_Squarefree.l0 k (g * (m : Nat)) r ((d + 1 : Nat) : Int)) R) :
    ∀ (t m r : Nat), m < t → 1 ≤ m → 1 ≤ r → N = m * (r * r) → (∀ c, 2 ≤ c → c < d → ¬ c * c ∣ m) → Ev (fun k => quadformref22_Squarefree.l1 k (g * (m : Nat)) r d) R
  | 0, m, r, ht, _, _, _, _ => by omega
  | t + 1, m, r, ht, hm, hr, he, hc => by
    have hdd : wrap64 ((d : Int) * d) = ((d * d : Nat) : Int) := sq_wrap (by omega)
    have hdd0 : 0 < d * d := Nat.mul_pos (by omega) (by omega)
    have hr2 := rsq_le hm he hN
    by_cases hdv : d * d ∣ m
    · obtain ⟨m', hm'⟩ := hdv
      have hm1 : 1 ≤ m' := by
        rcases Nat.eq_zero_or_pos m' with h | h
        · rw [h] at hm'; simp at hm'; omega
        · exact h
      have hlt : m' < m := by
        have a : 4 ≤ d * d := Nat.mul_le_mul hd2 hd2
        have b : 4 * m' ≤ d * d * m' := Nat.mul_le_mul_right _ a
        omega
      have he' : N = m' * ((r * d) * (r * d)) := by rw [he, hm']; grind
      have hrd := rsq_le hm1 he' hN
      have hrd1 : 1 ≤ r * d := Nat.mul_pos hr (by omega)
      have hmM : m' ≤ 2147483647 := by
        have := Nat.le_mul_of_pos_right m' (Nat.mul_pos hrd1 hrd1)
        omega
      refine Ev.step (f := fun k => quadformref22_Squarefree.l1 k (g * (m' : Nat)) ((r * d : Nat) : Int) d) (fun k => ?_) (rsqf_inner hg hN hd2 hd R h t m' (r * d) (by omega) hm1 (Nat.mul_pos hr (by omega)) he' (fun c h1 h2 h3 => hc c h1 h2 (Nat.dvd_trans h3 ⟨d * d, by rw [hm', Nat.mul_comm]⟩)))
      simp only [quadformref22_Squarefree.l1]
      rw [hdd, if_neg (by omega), tmod_sign hg, tdiv_sign hg, hm', Nat.mul_mod_right, Nat.mul_div_cancel_left _ hdd0, if_pos (by simp), w64 (x := g * (m' : Nat)) (by rcases hg with rfl | rfl <;> omega) (by rcases hg with rfl | rfl <;> omega), ← Int.natCast_mul, w64 (x := ((r * d : Nat) : Int)) (by omega) (by omega)]
    · refine Ev.step (fun k => ?_) (h m r hm hr he (fun c h1 h2 h3 => by
        by_cases e : c = d
        · subst e; exact hdv h3
        · exact hc c h1 (by omega) h3))
      simp only [quadformref22_Squarefree.l1]
      rw [hdd, if_neg (by omega), tmod_sign hg, if_neg, w64 (x := (d : Int) + 1) (by omega) (by omega)]
      · rfl
      · intro h0
        apply hdv
        apply Nat.dvd_of_mod_eq_zero
        rcases hg with rfl | rfl <;> omega

theorem rsqf_loop {g : Int} (hg : g = 1 ∨ g = -1) {N : Nat} (hN : N ≤ 2147483647) : ∀ (t d m r : Nat), 46342 - d = t → 2 ≤ d → d ≤ 46341 → 1 ≤ m → 1 ≤ r → N = m * (r * r) → (∀ c, 2 ≤ c → c < d → ¬ c * c ∣ m) →
    ∃ S R : Nat, Sqf S ∧ 1 ≤ S ∧ 1 ≤ R ∧ N = S * (R * R) ∧ Ev (fun k => quadformref22_Squarefree.l0 k (g * (m : Nat)) r d) (g * (S : Nat), (R : Int), 0)
  | 0, d, m, r, ht, _, hd, _, _, _, _ => by omega
  | t + 1, d, m, r, ht, hd2, hd, hm, hr, he, hc => by
    have hdd : wrap64 ((d : Int) * d) = ((d * d : Nat) : Int) := sq_wrap (by omega)
    have hmN : m ≤ N := by
      rw [he]
      exact Nat.le_mul_of_pos_right _ (Nat.mul_pos hr hr)
    have hneg : wrap64 (-(g * (m : Nat))) = -(g * (m : Nat)) := w64 (by rcases hg with rfl | rfl <;> omega) (by rcases hg with rfl | rfl <;> omega)
    have hsplit : ∀ k, quadformref22_Squarefree.l0 (k + 1) (g * (m : Nat)) r d = quadformref22_Squarefree.j2 k (g * (m : Nat)) r d (decide (d * d ≤ m)) := by
      intro k
      simp only [quadformref22_Squarefree.l0]
      rw [hdd, hneg]
      by_cases h1 : ((d * d : Nat) : Int) ≤ g * (m : Nat)
      · rw [if_pos h1, decide_eq_true (by rcases hg with rfl | rfl <;> omega)]
      · rw [if_neg h1]
        congr 1
        simp only [decide_eq_decide]
        rcases hg with rfl | rfl <;> omega
    by_cases hle : d * d ≤ m
    · have hb := sq_le hle (by omega : m ≤ 2147483647)
      -- the answer is that of the state behind this d
      obtain ⟨f, m', r', hm', hr', he', hc'⟩ : ∃ f m' r' : Nat, 1 ≤ m' ∧ 1 ≤ r' ∧ N = m' * (r' * r') ∧ (∀ c, 2 ≤ c → c < d + 1 → ¬ c * c ∣ m') ∧ m = m' * (f * f) ∧ r' = r * f := by
        have hdd0 : 2 ≤ d * d := by have := Nat.mul_le_mul hd2 hd2; omega
        obtain ⟨f, m', h1, h2, h3, _⟩ := exists_strip hdd0 m m (Nat.le_refl _) hm
        have e1 : m = m' * (d ^ f * d ^ f) := by rw [h1, Nat.mul_pow, Nat.mul_comm]
        refine ⟨d ^ f, m', r * d ^ f, h3, Nat.mul_pos hr (Nat.pow_pos (by omega)), by rw [he, e1]; grind, ?_, e1, rfl⟩
        intro c hc1 hc2 hcd
        by_cases e : c = d
        · subst e; exact h2 hcd
        · exact hc c hc1 (by omega) (Nat.dvd_trans hcd ⟨_, e1⟩)
      obtain ⟨S, R, hS, hS1, hR1, hSR, hE⟩ := rsqf_loop hg hN t (d + 1) m' r' (by omega) (by omega) (by omega) hm' hr' he' hc'.1
      refine ⟨S, R, hS, hS1, hR1, hSR, ?_⟩
      refine Ev.step hsplit (Ev.step (f := fun k => quadformref22_Squarefree.l1 k (g * (m : Nat)) r d) (fun k => ?_) ?_)
      · simp only [quadformref22_Squarefree.j2]
        rw [if_pos (by simpa using hle)]
      · refine rsqf_inner hg hN hd2 hb _ (fun m2 r2 a b c e => ?_) (m + 1) m r (by omega) hm hr he hc
        obtain ⟨S2, R2, hS2, hS21, hR21, hSR2, hE2⟩ := rsqf_loop hg hN t (d + 1) m2 r2 (by omega) (by omega) (by omega) a b c e
        obtain ⟨rfl, rfl⟩ := sqf_unique hS hS2 hR1 hR21 (by rw [← hSR, ← hSR2])
        exact hE2
    · refine ⟨m, r, fun c h1 h2 => ?_, hm, hr, he, Ev.step hsplit (Ev.step (f := fun _ => some (g * (m : Nat), (r : Int), 0)) (fun k => ?_) (Ev.now _))⟩
      · by_cases h3 : c < d
        · exact hc c h1 h3 h2
        · have := Nat.le_of_dvd (by omega) h2
          have := Nat.mul_le_mul (show d ≤ c by omega) (show d ≤ c by omega)
          omega
      · simp only [quadformref22_Squarefree.j2]
        rw [if_neg (by simpa using hle)]

theorem rsqf_bad {n : Int} (h : n = 0 ∨ 2147483647 < n ∨ n < -2147483647) : Ev (fun k => quadformref22_Squarefree.f k n) (0, 0, 1) := by
  refine Ev.congr (f := fun k => quadformref22_Squarefree.j0 k n true) (fun k => ?_) ?_
  · unfold quadformref22_Squarefree.f
    split
    · rfl
    · split
      · rfl
      · rw [decide_eq_true (by omega)]
  · refine Ev.step (f := fun _ => some (0, 0, 1)) (fun k => ?_) (Ev.now _)
    simp only [quadformref22_Squarefree.j0, if_true]

theorem rsqf_ok {n : Int} (h0 : n ≠ 0) (hn : -2147483647 ≤ n ∧ n ≤ 2147483647) : ∃ s r, SqOf n s r ∧ Ev (fun k => quadformref22_Squarefree.f k n) (s, r, 0) := by
  obtain ⟨m, hm⟩ : ∃ m : Nat, n.natAbs = m := ⟨_, rfl⟩
  have hg : (if n < 0 then (-1 : Int) else 1) = 1 ∨ (if n < 0 then (-1 : Int) else 1) = -1 := by split <;> simp
  have hnm : n = (if n < 0 then (-1 : Int) else 1) * (m : Nat) := by split <;> omega
  obtain ⟨S, R, hS, hS1, hR1, hSR, hE⟩ := rsqf_loop hg (N := m) (by omega) _ 2 m 1 rfl (by omega) (by omega) (by omega) (by omega) (by simp) (fun c h1 h2 => by omega)
  refine ⟨_, _, ⟨S, R, _, hg, by rw [← hSR]; exact hnm, rfl, rfl, hS, hS1, hR1⟩, ?_⟩
  refine Ev.congr (f := fun k => quadformref22_Squarefree.j0 k n false) (fun k => ?_) ?_
  · unfold quadformref22_Squarefree.f
    rw [if_neg h0, if_neg (by omega), decide_eq_false (by omega)]
  · refine Ev.step (f := fun k => quadformref22_Squarefree.l0 k n 1 2) (fun k => ?_) ?_
    · simp only [quadformref22_Squarefree.j0]; rw [if_neg (by simp)]
    · rw [← hnm] at hE
      exact hE

theorem both_sqf (n : Int) : ∃ s r e : Int, ((e = 1 ∧ (n = 0 ∨ 2147483647 < n ∨ n < -2147483647)) ∨ e = 0 ∧ SqOf n s r ∧ -2147483647 ≤ s ∧ s ≤ 2147483647) ∧ Ev (fun k => prime_Squarefree.f k n) (s, r, e) ∧ Ev (fun k => quadformref22_Squarefree.f k n) (s, r, e) := by
  by_cases h : n = 0 ∨ 2147483647 < n ∨ n < -2147483647
  · exact ⟨0, 0, 1, .inl ⟨rfl, h⟩, sqf_bad h, rsqf_bad h⟩
  · obtain ⟨s, r, h1, h2⟩ := sqf_ok (n := n) (by omega) (by omega)
    obtain ⟨s', r', h1', h2'⟩ := rsqf_ok (n := n) (by omega) (by omega)
    obtain ⟨rfl, rfl⟩ := sqOf_unique h1 h1'
    refine ⟨s, r, 0, .inr ⟨rfl, h1, ?_⟩, h2, h2'⟩
    obtain ⟨S, R, g, hg, hn, rfl, rfl, hS, hS1, hR1⟩ := h1
    have : S * 1 ≤ S * (R * R) := Nat.mul_le_mul_left _ (Nat.mul_pos hR1 hR1)
    rcases hg with rfl | rfl <;> omega

/-- the discriminant of a squarefree part -/
def disc (s : Int) : Int := if s % 4 = 1 then s else 4 * s

theorem both_disc (n : Int) : ∃ d e : Int, ((e = 1 ∧ d = 0 ∧ (n = 0 ∨ 2147483647 < n ∨ n < -2147483647)) ∨ e = 0 ∧ ∃ s r, SqOf n s r ∧ d = disc s) ∧ Ev (fun k => prime_Discriminant.f k n) (d, e) ∧ Ev (fun k => quadformref22_Discriminant.f k n) (d, e) := by
  obtain ⟨s, r, e, he, h1, h2⟩ := both_sqf n
  rcases he with ⟨rfl, hn⟩ | ⟨rfl, hs, hb⟩
  · refine ⟨0, 1, .inl ⟨rfl, rfl, hn⟩, ?_, ?_⟩
    · refine Ev.congr (fun k => by unfold prime_Discriminant.f; rfl) (Ev.bind h1 ?_)
      exact Ev.congr (fun k => by rw [if_neg (by simp)]) (Ev.now _)
    · refine Ev.congr (fun k => by unfold quadformref22_Discriminant.f; rfl) (Ev.bind h2 ?_)
      exact Ev.congr (fun k => by rw [if_neg (by simp)]) (Ev.now _)
  · have hr := residue_ok s 4 (by omega) (by omega)
    have hv : (if s % 4 = 1 then some (s, (0 : Int)) else some (wrap64 (4 * s), 0)) = some (disc s, 0) := by
      unfold disc
      split
      · rfl
      · rw [w64 (by omega) (by omega)]
    refine ⟨disc s, 0, .inr ⟨rfl, s, r, hs, rfl⟩, ?_, ?_⟩
    · refine Ev.congr (fun k => by unfold prime_Discriminant.f; rfl) (Ev.bind h1 ?_)
      refine Ev.congr (fun k => ?_) (Ev.now _)
      simp only [if_true]
      rw [show prime_residue.f s 4 = some (s % 4) from hr]
      exact hv
    · refine Ev.congr (fun k => by unfold quadformref22_Discriminant.f; rfl) (Ev.bind h2 ?_)
      refine Ev.congr (fun k => ?_) (Ev.now _)
      simp only [if_true]
      rw [ref_mod, show prime_residue.f s 4 = some (s % 4) from hr]
      exact hv

end Go.Proofs.Ytcjhbjfkcmncpaa.Q
