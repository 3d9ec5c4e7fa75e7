/- What the two factorizations and the two prime tests come to. -/
import Derived.Test.YtcjhbjfkcmncpaaNum
import Derived.Test.YtcjhbjfkcmncpaaQx0
import Derived.Test.YtcjhbjfkcmncpaaQx2
import Derived.Test.YtcjhbjfkcmncpaaQx3
import Derived.Test.YtcjhbjfkcmncpaaQx4
namespace Go.Proofs.Ytcjhbjfkcmncpaa.Q
open Go.RowKit Go.Proofs.YtcjhbjfkcmncpaaW.PrintWords Go.Proofs.YtcjhbjfkcmncpaaW.PrintLast Go.Proofs.YtcjhbjfkcmncpaaW.PrintMore
open Go.Proofs.Ytcjhbjfkcmncpaa.Num

theorem w64 {x : Int} (h : -9223372036854775808 ≤ x) (h' : x ≤ 9223372036854775807) : wrap64 x = x := by
  unfold wrap64; omega

theorem sq_le {d n : Nat} (h : d * d ≤ n) (hn : n ≤ 2147483647) : d ≤ 46340 := by
  apply Classical.byContradiction
  intro hc
  have := Nat.mul_le_mul (show 46341 ≤ d by omega) (show 46341 ≤ d by omega)
  omega

theorem sq_wrap {d : Nat} (h : d ≤ 46342) : wrap64 ((d : Int) * d) = ((d * d : Nat) : Int) := by
  have := Nat.mul_le_mul h h
  rw [← Int.natCast_mul]
  apply w64 <;> omega

theorem tmod_nat (m n : Nat) : Int.tmod (m : Int) (n : Int) = ((m % n : Nat) : Int) := (Int.ofNat_tmod m n).symm
theorem tdiv_nat (m n : Nat) : Int.tdiv (m : Int) (n : Int) = ((m / n : Nat) : Int) := (Int.ofNat_tdiv m n).symm

/-! ## the prime test -/
theorem is_loop (n : Nat) (h2 : 2 ≤ n) (hn : n ≤ 2147483647) : ∀ (t d : Nat), 46342 - d = t → 2 ≤ d → d ≤ 46341 → (∀ q, 2 ≤ q → q ∣ n → q < n → d ≤ q) →
    ∃ b : Bool, (b = true ↔ Pr n) ∧ Ev (fun k => prime_Is.l0 k n d) b := by
  intro t
  induction t with
  | zero => intro d h1 h2 h3; omega
  | succ t ih =>
    intro d ht hd2 hd hlo
    by_cases hle : d * d ≤ n
    · have hb := sq_le hle hn
      by_cases hdv : d ∣ n
      · refine ⟨false, ⟨fun h => by simp at h, fun hp => ?_⟩, ?_⟩
        · exfalso
          rcases hp.2 d hdv with h | h
          · omega
          · subst h
            have := Nat.mul_le_mul_right d hd2
            omega
        · refine Ev.step (f := fun _ => some false) (fun k => ?_) (Ev.now _)
          simp only [prime_Is.l0]
          rw [if_pos (by rw [sq_wrap (by omega)]; omega), if_neg (by omega), tmod_nat, if_pos (by rw [Nat.mod_eq_zero_of_dvd hdv]; rfl)]
      · obtain ⟨b, hb1, hb2⟩ := ih (d + 1) (by omega) (by omega) (by omega) (fun q h1 h3 h4 => by
          have := hlo q h1 h3 h4
          have : q ≠ d := by rintro rfl; exact hdv h3
          omega)
        refine ⟨b, hb1, Ev.step (f := fun k => prime_Is.l0 k n (d + 1 : Nat)) (fun k => ?_) hb2⟩
        simp only [prime_Is.l0]
        rw [if_pos (by rw [sq_wrap (by omega)]; omega), if_neg (by omega), tmod_nat, if_neg (fun h => hdv (Nat.dvd_of_mod_eq_zero (by omega))), w64 (by omega) (by omega)]
        rfl
    · refine ⟨true, ⟨fun _ => pr_of_noDiv h2 hlo (by omega), fun _ => rfl⟩, ?_⟩
      refine Ev.step (f := fun _ => some true) (fun k => ?_) (Ev.now _)
      simp only [prime_Is.l0]
      rw [if_neg (by rw [sq_wrap (by omega)]; omega)]

theorem is_bad {a : Int} (h : a < 2 ∨ 2147483647 < a) : Ev (fun k => prime_Is.f k a) false := by
  by_cases h2 : a < 2
  · refine Ev.congr (f := fun k => prime_Is.j0 k a true) (fun k => by unfold prime_Is.f; rw [if_pos h2]) ?_
    refine Ev.step (f := fun _ => some false) (fun k => ?_) (Ev.now _)
    simp only [prime_Is.j0, if_true]
  · refine Ev.congr (f := fun k => prime_Is.j0 k a true) (fun k => by unfold prime_Is.f; rw [if_neg h2, decide_eq_true (by omega)]) ?_
    refine Ev.step (f := fun _ => some false) (fun k => ?_) (Ev.now _)
    simp only [prime_Is.j0, if_true]

theorem is_nat (n : Nat) (h2 : 2 ≤ n) (hn : n ≤ 2147483647) : ∃ b : Bool, (b = true ↔ Pr n) ∧ Ev (fun k => prime_Is.f k n) b := by
  obtain ⟨b, h1, hb⟩ := is_loop n h2 hn 46340 2 rfl (by omega) (by omega) (fun q h _ _ => h)
  refine ⟨b, h1, ?_⟩
  refine Ev.congr (f := fun k => prime_Is.j0 k n false) (fun k => by unfold prime_Is.f; rw [if_neg (by omega), decide_eq_false (by omega)]) ?_
  refine Ev.step (f := fun k => prime_Is.l0 k n 2) (fun k => ?_) hb
  simp only [prime_Is.j0]; rw [if_neg (by simp)]

theorem is_any (a : Int) : ∃ b : Bool, (b = true ↔ 2 ≤ a ∧ a ≤ 2147483647 ∧ Pr a.toNat) ∧ Ev (fun k => prime_Is.f k a) b := by
  by_cases h : a < 2 ∨ 2147483647 < a
  · exact ⟨false, ⟨fun h => by simp at h, fun h => by omega⟩, is_bad h⟩
  · obtain ⟨n, rfl⟩ : ∃ n : Nat, a = n := ⟨a.toNat, by omega⟩
    obtain ⟨b, h1, h2⟩ := is_nat n (by omega) (by omega)
    exact ⟨b, h1.trans ⟨fun hp => ⟨by omega, by omega, by simpa using hp⟩, fun hp => by simpa using hp.2.2⟩, h2⟩

theorem is_prime {p : Nat} (hp : Pr p) (hn : p ≤ 2147483647) : Ev (fun k => prime_Is.f k p) true := by
  obtain ⟨b, h1, h2⟩ := is_nat p hp.1 hn
  rw [h1.2 hp] at h2
  exact h2

theorem ref_is_l0 : ∀ k x y, quadformref22_Is.l0 k x y = prime_Is.l0 k x y
  | 0, _, _ => rfl
  | k + 1, x, y => by simp only [quadformref22_Is.l0, prime_Is.l0, ref_is_l0 k]
theorem ref_is (k : Nat) (a : Int) : quadformref22_Is.f k a = prime_Is.f k a := by
  unfold quadformref22_Is.f prime_Is.f
  cases k with
  | zero => rfl
  | succ k => simp only [quadformref22_Is.j0, prime_Is.j0, ref_is_l0]

/-! ## factor lists -/
def encP (L : List (Nat × Nat)) : List S30 := L.map fun x => ⟨(x.1 : Int), (x.2 : Int)⟩

theorem encP_length (L : List (Nat × Nat)) : (encP L).length = L.length := by simp [encP]

theorem div_step {d f m : Nat} (hd : 2 ≤ d) : d ^ (f + 1) * m % d = 0 ∧ d ^ (f + 1) * m / d = d ^ f * m := by
  have e : d ^ (f + 1) * m = d * (d ^ f * m) := by rw [Nat.pow_succ', Nat.mul_assoc]
  rw [e]
  exact ⟨Nat.mul_mod_right _ _, Nat.mul_div_cancel_left _ (by omega)⟩

theorem pow_bound {d f m : Nat} (hd : 2 ≤ d) (hm : 1 ≤ m) (h : d ^ f * m ≤ 2147483647) : f ≤ 30 := by
  apply Classical.byContradiction
  intro hc
  have h1 : 2 ^ 31 ≤ 2 ^ f := Nat.pow_le_pow_right (by omega) (by omega)
  have h2 : 2 ^ f ≤ d ^ f := Nat.pow_le_pow_left hd f
  have h3 : d ^ f * 1 ≤ d ^ f * m := Nat.mul_le_mul_left _ hm
  omega

theorem strip_loop {d m : Nat} (hd : 2 ≤ d) (hd2 : d ≤ 2147483647) (hm : 1 ≤ m) (hnd : ¬ d ∣ m) (acc : List S30) (hacc : acc.length < 8796093022208) (R : List S30 × Int) :
    ∀ (f e : Nat), e + f ≤ 100 → d ^ f * m ≤ 2147483647 → Ev (fun k => prime_Factor.l0 k m (acc ++ [⟨d, ((e + f : Nat) : Int)⟩]) d) R → Ev (fun k => prime_Factor.l2 k ((d ^ f * m : Nat) : Int) acc d e) R
  | 0, e, he, hb, h => by
    refine Ev.step (fun k => ?_) h
    simp only [prime_Factor.l2]
    rw [if_neg (by omega), tmod_nat, if_neg, if_pos hacc]
    · simp
    · intro h
      exact hnd (Nat.dvd_of_mod_eq_zero (by simpa using Int.ofNat_inj.1 h))
  | f + 1, e, he, hb, h => by
    obtain ⟨h1, h2⟩ := div_step (d := d) (f := f) (m := m) hd
    have h3 : d ^ f * m ≤ 2147483647 := by
      rw [← h2]; exact Nat.le_trans (Nat.div_le_self _ _) hb
    refine Ev.step (f := fun k => prime_Factor.l2 k ((d ^ f * m : Nat) : Int) acc d ((e + 1 : Nat) : Int)) (fun k => ?_) (strip_loop hd hd2 hm hnd acc hacc R f (e + 1) (by omega) h3 (by rw [show e + 1 + f = e + (f + 1) by omega]; exact h))
    simp only [prime_Factor.l2]
    rw [if_neg (by omega), tmod_nat, h1, if_pos (by rfl), tdiv_nat, h2, w64 (by omega) (by omega), w64 (by omega) (by omega)]
    rfl

theorem fac_loop : ∀ (N n d : Nat) (acc : List S30), n < N → 1 ≤ n → n ≤ 2147483647 → 2 ≤ d → d ≤ 46341 → (∀ q, 2 ≤ q → q ∣ n → d ≤ q) → 2 ^ acc.length * n ≤ 1099511627776 →
    ∃ L, Fac 1 n L ∧ Ev (fun k => prime_Factor.l0 k n acc d) (acc ++ encP L, 0)
  | 0, n, d, acc, h, _, _, _, _, _, _ => by omega
  | N + 1, n, d, acc, hN, h1, hn, hd2, hd, hlo, hacc => by
    have haccl : acc.length < 8796093022208 := by
      apply Classical.byContradiction
      intro hc
      have a : 2 ^ 41 ≤ 2 ^ acc.length := Nat.pow_le_pow_right (by omega) (by omega)
      have b : 2 ^ acc.length * 1 ≤ 2 ^ acc.length * n := Nat.mul_le_mul_left _ h1
      omega
    by_cases hn1 : n = 1
    · subst hn1
      refine ⟨[], rfl, Ev.step (f := fun _ => some (acc, 0)) (fun k => ?_) ?_⟩
      · simp only [prime_Factor.l0]
        rw [if_neg (by simp)]
      · simpa [encP] using Ev.now (acc, (0 : Int))
    · suffices H : ∀ (t d : Nat), 46342 - d = t → 2 ≤ d → d ≤ 46341 → (∀ q, 2 ≤ q → q ∣ n → d ≤ q) → ∃ L, Fac 1 n L ∧ Ev (fun k => prime_Factor.l1 k n acc d) (acc ++ encP L, 0) by
        obtain ⟨L, h2, h3⟩ := H _ d rfl hd2 hd hlo
        refine ⟨L, h2, Ev.step (fun k => ?_) h3⟩
        simp only [prime_Factor.l0]
        rw [if_pos (by omega)]
      clear hd2 hd hlo d
      intro t
      induction t with
      | zero => intro d a b c; omega
      | succ t ih =>
        intro d ht hd2 hd hlo
        by_cases hle : d * d ≤ n
        · have hb := sq_le hle hn
          by_cases hdv : d ∣ n
          · obtain ⟨f, m, hfm, hnd, hm1, hf⟩ := exists_strip hd2 n n (Nat.le_refl _) h1
            have hf := hf hdv
            have hp := pr_of_least hd2 hdv hlo
            have hmn : 2 * m ≤ n := by
              have a : d ^ 1 ≤ d ^ f := Nat.pow_le_pow_right (by omega) hf
              rw [Nat.pow_one] at a
              have b : d * m ≤ d ^ f * m := Nat.mul_le_mul_right _ a
              have c : 2 * m ≤ d * m := Nat.mul_le_mul_right _ hd2
              omega
            have hdm : m ∣ n := ⟨d ^ f, by rw [hfm, Nat.mul_comm]⟩
            have hlo' : ∀ q, 2 ≤ q → q ∣ m → d ≤ q := fun q h2 h3 => hlo q h2 (Nat.dvd_trans h3 hdm)
            obtain ⟨L, hL, hE⟩ := fac_loop N m d (acc ++ [⟨d, (f : Int)⟩]) (by omega) hm1 (by omega) hd2 hd hlo' (by
              rw [List.length_append, List.length_singleton, Nat.pow_succ, Nat.mul_assoc]
              exact Nat.le_trans (Nat.mul_le_mul_left _ hmn) hacc)
            refine ⟨(d, f) :: L, ⟨by omega, hp, hf, m, hfm, hL.raise fun q hq hqd => ?_⟩, ?_⟩
            · have := hlo' q hq.1 hqd
              have : q ≠ d := by rintro rfl; exact hnd hqd
              omega
            · have hfb := pow_bound hd2 hm1 (by omega : d ^ f * m ≤ 2147483647)
              refine Ev.step (f := fun k => prime_Factor.l2 k ((d ^ f * m : Nat) : Int) acc d ((0 : Nat) : Int)) (fun k => ?_) (strip_loop hd2 (by omega) hm1 hnd acc haccl _ f 0 (by omega) (by omega) ?_)
              · simp only [prime_Factor.l1]
                rw [if_neg (by rw [sq_wrap (by omega)]; omega), if_neg (by omega), tmod_nat, if_pos (by rw [Nat.mod_eq_zero_of_dvd hdv]; rfl), ← hfm]
                rfl
              · rw [Nat.zero_add]
                simpa [encP] using hE
          · obtain ⟨L, h2, h3⟩ := ih (d + 1) (by omega) (by omega) (by omega) (fun q h1 h3 => by
              have := hlo q h1 h3
              have : q ≠ d := by rintro rfl; exact hdv h3
              omega)
            refine ⟨L, h2, Ev.step (f := fun k => prime_Factor.l1 k n acc (d + 1 : Nat)) (fun k => ?_) h3⟩
            simp only [prime_Factor.l1]
            rw [if_neg (by rw [sq_wrap (by omega)]; omega), if_neg (by omega), tmod_nat, if_neg (fun h => hdv (Nat.dvd_of_mod_eq_zero (by omega))), w64 (by omega) (by omega)]
            rfl
        · have hp : Pr n := pr_of_noDiv (by omega) (fun q a b _ => hlo q a b) (by omega)
          refine ⟨[(n, 1)], ⟨by omega, hp, Nat.le_refl _, 1, by simp, rfl⟩, Ev.step (f := fun _ => some (acc ++ [⟨(n : Int), 1⟩], 0)) (fun k => ?_) ?_⟩
          · simp only [prime_Factor.l1]
            rw [if_pos (by rw [sq_wrap (by omega)]; omega), if_pos haccl]
          · simpa [encP] using Ev.now (acc ++ [(⟨(n : Int), 1⟩ : S30)], (0 : Int))

theorem factor_bad {a : Int} (h : a < 1 ∨ 2147483647 < a) : Ev (fun k => prime_Factor.f k a) ([], 1) := by
  by_cases h2 : a < 1
  · refine Ev.congr (f := fun k => prime_Factor.j0 k a true) (fun k => by unfold prime_Factor.f; rw [if_pos h2]) ?_
    refine Ev.step (f := fun _ => some ([], 1)) (fun k => ?_) (Ev.now _)
    simp only [prime_Factor.j0, if_true]
  · refine Ev.congr (f := fun k => prime_Factor.j0 k a true) (fun k => by unfold prime_Factor.f; rw [if_neg h2, decide_eq_true (by omega)]) ?_
    refine Ev.step (f := fun _ => some ([], 1)) (fun k => ?_) (Ev.now _)
    simp only [prime_Factor.j0, if_true]

theorem factor_nat (n : Nat) (h1 : 1 ≤ n) (hn : n ≤ 2147483647) : ∃ L, Fac 1 n L ∧ Ev (fun k => prime_Factor.f k n) (encP L, 0) := by
  obtain ⟨L, h2, h3⟩ := fac_loop (n + 1) n 2 [] (by omega) h1 hn (by omega) (by omega) (fun q h _ => h) (by simp; omega)
  refine ⟨L, h2, ?_⟩
  refine Ev.congr (f := fun k => prime_Factor.j0 k n false) (fun k => by unfold prime_Factor.f; rw [if_neg (by omega), decide_eq_false (by omega)]) ?_
  refine Ev.step (f := fun k => prime_Factor.l0 k n [] 2) (fun k => ?_) (by simpa using h3)
  simp only [prime_Factor.j0]; rw [if_neg (by simp)]

end Go.Proofs.Ytcjhbjfkcmncpaa.Q
