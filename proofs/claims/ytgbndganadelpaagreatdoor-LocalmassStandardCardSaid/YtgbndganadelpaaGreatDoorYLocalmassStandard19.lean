/- Chapter 32: the closed values. -/
import Derived.Test.YtgbndganadelpaaGreatDoorYLocalmassStandard18
import Derived.Test.YtgbndganadelpaaGreatDoorYLocalmassStandard16
import Derived.Test.YtgbndganadelpaaGreatDoorYLocalmassStandard15
namespace Go.Proofs.YtgbndganadelpaaGreatDoor.V
open Go Go.Proofs.YtgbndganadelpaaGreatDoor.E
theorem awake_ok : quadformlaw32_awake = some true := c_quadformlaw32_awake.le 300 true (by kernel_rfl)
end Go.Proofs.YtgbndganadelpaaGreatDoor.V
/- LocalmassDiagonal: the law. -/
namespace Go.Proofs.YtgbndganadelpaaGreatDoor.V
open Go Go.Proofs.YtgbndganadelpaaGreatDoor.E Go.Proofs.YtgbndganadelpaaGreatDoor.LI Go.Proofs.YtgbndganadelpaaGreatDoor.Num
set_option linter.unusedVariables false
set_option linter.unusedSimpArgs false
theorem is_same : r22_Is = prime_Is := rfl
theorem known_any (p : Int) : ∃ b, localmass_known p = some b ∧ r24_Small p = some b ∧ (b = true → 2 ≤ p ∧ p ≤ 9973) := by
  obtain ⟨b, h1, h2⟩ := is_any p
  unfold localmass_known r24_Small
  simp only [cite, decide_eq_true_eq]
  by_cases h : p ≤ 9973
  · rw [if_pos h, if_pos h, is_same, h2, Option.bind_some]
    exact ⟨b, rfl, rfl, fun hb => ⟨(h1.1 hb).1, h⟩⟩
  · rw [if_neg h, if_neg h]
    exact ⟨false, rfl, rfl, fun h => by cases h⟩
/-- What is refused. -/
def refuse (n c : Int) : Prop := n < 0 ∨ 9 < n ∨ (n = 0 ∧ c ≠ 1) ∨ (n % 2 = 1 ∧ c ≠ 0) ∨ (n % 2 = 0 ∧ c ≠ 1 ∧ c ≠ -1)
theorem diag_bad {p n c : Int} (hk : localmass_known p = some true) (h : refuse n c) : localmass_Diagonal p (n, c, ()) = some (zQ, 1, ()) := by
  unfold localmass_Diagonal
  rw [hk, Option.bind_some]
  simp only [localmass_Diagonal.j1, localmass_Diagonal.j2, localmass_Diagonal.j3, localmass_Diagonal.j4, Bool.not_true, cite, decide_eq_true_eq, beq_iff_eq, bne_iff_ne]
  rw [if_neg (by decide)]
  by_cases h0 : n < 0
  · rw [if_pos h0]; rfl
  · rw [if_neg h0]
    by_cases h9 : n > 9
    · rw [if_pos h9]; rfl
    · rw [if_neg h9]
      have e2 : Int.tmod n 2 = n % 2 := Int.tmod_eq_emod_of_nonneg (by omega)
      rw [e2]
      unfold refuse at h
      repeat' split
      all_goals first | rfl | (exfalso; omega)
theorem rdiag_bad {p n c : Int} (hk : r24_Small p = some true) (h : refuse n c) : r32_Diagonal p (n, c, ()) = some (zQ, 1, ()) := by
  unfold r32_Diagonal
  rw [hk, Option.bind_some]
  simp only [r32_Diagonal.j1, r32_Diagonal.j2, Bool.not_true, cite, decide_eq_true_eq, beq_iff_eq, bne_iff_ne]
  rw [if_neg (by decide)]
  by_cases h0 : n < 0
  · rw [if_pos h0]; rfl
  · rw [if_neg h0]
    by_cases h9 : n > 9
    · rw [if_pos h9]; rfl
    · rw [if_neg h9]
      have e2 : Int.tmod n 2 = n % 2 := Int.tmod_eq_emod_of_nonneg (by omega)
      rw [e2]
      unfold refuse at h
      repeat' split
      all_goals first | rfl | (exfalso; omega)
theorem diag_zero {p : Int} (hk : localmass_known p = some true) : localmass_Diagonal p (0, 1, ()) = some (mkQ 1, 0, ()) := by
  unfold localmass_Diagonal
  rw [hk, Option.bind_some]
  have h := lwhole (z := 1) (by decide) (by decide)
  simp only [localmass_Diagonal.j1, localmass_Diagonal.j2, localmass_Diagonal.j3, localmass_Diagonal.j4, Bool.not_true, cite, decide_eq_true_eq, beq_iff_eq, bne_iff_ne, etaI, etaQ, etaP]
  rw [h]
  rfl
theorem rfactor_ok {p n : Nat} {c : Int} (hp0 : 2 ≤ p) (hp : p ≤ 9973) (h1 : 1 ≤ n) (h9 : n ≤ 9) (hc : n % 2 = 1 ∧ c = 0 ∨ n % 2 = 0 ∧ (c = 1 ∨ c = -1)) :
    r32_factor (p : Int) ((n : Int), c, ()) = some (mkQ (hf p ((n + 1) / 2) c)) := by
  have e2 : Int.tmod (n : Int) 2 = ((n % 2 : Nat) : Int) := (Int.ofNat_tmod n 2).symm
  have e3 : IntKind.wrap .i64 (Int.tdiv (IntKind.wrap .i64 ((n : Int) + 1)) 2) = (((n + 1) / 2 : Nat) : Int) := by
    rw [up (by omega), show Int.tdiv ((n + 1 : Nat) : Int) 2 = (((n + 1) / 2 : Nat) : Int) from (Int.ofNat_tdiv _ 2).symm, wi64 (by omega) (by omega)]
  have e4 : IntKind.wrap .i64 (Int.tdiv (n : Int) 2) = ((n / 2 : Nat) : Int) := by
    rw [show Int.tdiv (n : Int) 2 = ((n / 2 : Nat) : Int) from (Int.ofNat_tdiv _ 2).symm, wi64 (by omega) (by omega)]
  unfold r32_factor
  simp only [r32_factor.j1, r32_factor.j2, cite, decide_eq_true_eq, beq_iff_eq, e2, e3, e4, etaI, etaQ, etaP]
  rw [if_neg (show ¬ (n : Int) = 0 by omega)]
  rcases hc with ⟨ho, rfl⟩ | ⟨ho, hc⟩
  · rw [if_pos (by omega), group_ok hp0 hp (by omega) (by omega), Option.bind_some, hf_zero]
  · rw [if_neg (by omega), group_ok hp0 hp (by omega) (by omega), Option.bind_some, signed_okR (gr_bd hp (by omega)) (by omega) hp0 hp (by omega) (by omega) (by omega), Option.bind_some, hf_signed, show (n + 1) / 2 = n / 2 by omega]
theorem rdiag_ok {p n : Nat} {c : Int} (hk : r24_Small (p : Int) = some true) (hp0 : 2 ≤ p) (hp : p ≤ 9973) (h1 : 1 ≤ n) (h9 : n ≤ 9) (hc : n % 2 = 1 ∧ c = 0 ∨ n % 2 = 0 ∧ (c = 1 ∨ c = -1)) :
    r32_Diagonal (p : Int) ((n : Int), c, ()) = some (mkQ (hf p ((n + 1) / 2) c), 0, ()) := by
  have hf1 := rfactor_ok hp0 hp h1 h9 hc
  have e2 : Int.tmod (n : Int) 2 = ((n % 2 : Nat) : Int) := (Int.ofNat_tmod n 2).symm
  unfold r32_Diagonal
  rw [hk, Option.bind_some]
  simp only [r32_Diagonal.j1, r32_Diagonal.j2, Bool.not_true, cite, decide_eq_true_eq, beq_iff_eq, bne_iff_ne, e2, hf1, Option.bind_some, etaI, etaQ, etaP]
  rw [if_neg (by decide), if_neg (by omega), if_neg (by omega)]
  repeat' split
  all_goals first | rfl | (exfalso; omega)
theorem rdiag_zero {p : Int} (hk : r24_Small p = some true) : r32_Diagonal p (0, 1, ()) = some (mkQ 1, 0, ()) := by
  have h := rsmallQ (a := 1) (by decide) (by decide)
  have hf1 : r32_factor p (0, 1, ()) = some (mkQ 1) := by
    unfold r32_factor
    simp only [cite, beq_iff_eq, if_true, etaI, etaQ, etaP]
    rw [h]
    rfl
  unfold r32_Diagonal
  rw [hk, Option.bind_some]
  simp only [r32_Diagonal.j1, r32_Diagonal.j2, Bool.not_true, cite, decide_eq_true_eq, beq_iff_eq, bne_iff_ne, etaI, etaQ, etaP]
  rw [hf1]
  rfl
/-- Both say the same. -/
theorem diag_same (p n c : Int) : ∃ (q : QV) (e : Int), localmass_Diagonal p (n, c, ()) = some (q, e, ()) ∧ r32_Diagonal p (n, c, ()) = some (q, e, ()) ∧ r02_Same q q = some true := by
  obtain ⟨b, k1, k2, k3⟩ := known_any p
  cases b with
  | false =>
    refine ⟨zQ, 20, ?_, ?_, zsame⟩
    · unfold localmass_Diagonal; rw [k1]; rfl
    · unfold r32_Diagonal; rw [k2]; rfl
  | true =>
    obtain ⟨h2, h3⟩ := k3 rfl
    by_cases hr : refuse n c
    · exact ⟨zQ, 1, diag_bad k1 hr, rdiag_bad k2 hr, zsame⟩
    · obtain ⟨P, rfl⟩ : ∃ P : Nat, p = P := ⟨p.toNat, by omega⟩
      unfold refuse at hr
      obtain ⟨N, rfl⟩ : ∃ N : Nat, n = N := ⟨n.toNat, by omega⟩
      by_cases h0 : N = 0
      · subst h0
        obtain rfl : c = 1 := by omega
        exact ⟨mkQ 1, 0, diag_zero k1, rdiag_zero k2, by rw [rsameQ q1 (by decide), decide_eq_true rfl]⟩
      · have hc : N % 2 = 1 ∧ c = 0 ∨ N % 2 = 0 ∧ (c = 1 ∨ c = -1) := by omega
        have hb := hf_bd (p := P) (s := (N + 1) / 2) (c := c) (by omega) (by omega) (by omega)
        exact ⟨_, 0, diag_ok k1 (by omega) (by omega) (by omega) (by omega) hc, rdiag_ok k2 (by omega) (by omega) (by omega) (by omega) hc, by rw [rsameQ hb (by decide), decide_eq_true rfl]⟩
theorem scene_some (k : Int) (hk : 0 ≤ k ∧ k < 256) : ∃ p, quadformscene_Prime k = some p := by
  obtain ⟨n, rfl⟩ : ∃ n : Nat, k = n := ⟨k.toNat, by omega⟩
  have e1 : IntKind.wrap .i64 (n : Int) = (n : Int) := wi64 (by omega) (by omega)
  have e2 : Int.tmod (n : Int) 20 = ((n % 20 : Nat) : Int) := (Int.ofNat_tmod n 20).symm
  have hm : n % 20 < 20 := Nat.mod_lt _ (by decide)
  unfold quadformscene_Prime
  simp only [List.length_cons, List.length_nil, cite, inB_t, decide_eq_true_eq]
  rw [e1, show (((0 + 1 + 1 + 1 + 1 + 1 + 1 + 1 + 1 + 1 + 1 + 1 + 1 + 1 + 1 + 1 + 1 + 1 + 1 + 1 + 1 : Nat)) : Int) = 20 from rfl, e2, if_neg (by decide), if_pos (by omega)]
  exact ⟨_, rfl⟩
theorem diag_law (p n c : Int) : quadformlaw32_LocalmassDiagonal.j2 p n c = some true := by
  obtain ⟨q, e, h1, h2, h3⟩ := diag_same p n c
  simp only [quadformlaw32_LocalmassDiagonal.j2, etaI, etaQ, etaP]
  rw [h1, h2, Option.bind_some, Option.bind_some]
  simp only [cite, beq_self_eq_true, if_true]
  rw [h3, Option.bind_some, if_pos rfl, awake_ok, Option.bind_some]
theorem LocalmassDiagonal (k r : Int) (s : Int × Int × Unit) (d g : Int) (w m : Bool) (hk : 0 ≤ k ∧ k < 256) (hd : 0 ≤ d ∧ d < 256) (hg : 0 ≤ g ∧ g < 256) : quadformlaw32_LocalmassDiagonal k r s d g w m = some true := by
  obtain ⟨p, hp⟩ := scene_some k hk
  unfold quadformlaw32_LocalmassDiagonal
  rw [hp, Option.bind_some]
  simp only [quadformlaw32_LocalmassDiagonal.j1, diag_law]
  cases w <;> cases m <;> rfl
end Go.Proofs.YtgbndganadelpaaGreatDoor.V
/- The squarefree part of a number and the root of the rest: they are unique. -/
namespace Go.Proofs.YtgbndganadelpaaGreatDoor.Num
def Sqf (s : Nat) : Prop := ∀ d, 2 ≤ d → ¬ d * d ∣ s
theorem sqf_unique {s t r u : Nat} (hs : Sqf s) (ht : Sqf t) (hr : 1 ≤ r) (hu : 1 ≤ u) (h : s * (r * r) = t * (u * u)) : s = t ∧ r = u := by
  have hg : 0 < Nat.gcd r u := Nat.gcd_pos_of_pos_left _ hr
  obtain ⟨r', hr'⟩ := Nat.gcd_dvd_left r u
  obtain ⟨u', hu'⟩ := Nat.gcd_dvd_right r u
  have hc : Nat.Coprime r' u' := by
    have := Nat.gcd_mul_left (Nat.gcd r u) r' u'
    rw [← hr', ← hu'] at this
    have h2 : Nat.gcd r u * Nat.gcd r' u' = Nat.gcd r u * 1 := by omega
    exact Nat.eq_of_mul_eq_mul_left hg h2
  generalize Nat.gcd r u = g at *
  subst hr' hu'
  have hr1 : r' ≠ 0 := by rintro rfl; simp at hr
  have hu1 : u' ≠ 0 := by rintro rfl; simp at hu
  have e : s * (r' * r') = t * (u' * u') := by
    have a : (g * g) * (s * (r' * r')) = (g * g) * (t * (u' * u')) := by
      have x : s * (g * r' * (g * r')) = (g * g) * (s * (r' * r')) := by grind
      have y : t * (g * u' * (g * u')) = (g * g) * (t * (u' * u')) := by grind
      omega
    exact Nat.eq_of_mul_eq_mul_left (Nat.mul_pos hg hg) a
  have hcu : Nat.Coprime (u' * u') (r' * r') := Nat.Coprime.mul_left (Nat.Coprime.mul_right hc.symm hc.symm) (Nat.Coprime.mul_right hc.symm hc.symm)
  have du : u' * u' ∣ s := hcu.dvd_of_dvd_mul_right ⟨t, by rw [e, Nat.mul_comm]⟩
  have dr : r' * r' ∣ t := hcu.symm.dvd_of_dvd_mul_right ⟨s, by rw [← e, Nat.mul_comm]⟩
  have hu2 : u' = 1 := by
    apply Classical.byContradiction
    intro hne
    exact hs u' (by omega) du
  have hr2 : r' = 1 := by
    apply Classical.byContradiction
    intro hne
    exact ht r' (by omega) dr
  subst hu2 hr2
  refine ⟨by simpa using e, rfl⟩
def sf : List (Nat × Nat) → Nat
  | [] => 1
  | (p, e) :: L => p ^ (e % 2) * sf L
def sr : List (Nat × Nat) → Nat
  | [] => 1
  | (p, e) :: L => p ^ (e / 2) * sr L
theorem Fac.sf_sr : ∀ {L : List (Nat × Nat)} {lo n : Nat}, Fac lo n L → n = sf L * (sr L * sr L)
  | [], _, _, h => by simp only [Fac] at h; subst h; rfl
  | (p, e) :: L, _, _, h => by
    obtain ⟨_, hp, _, m, rfl, hm⟩ := h
    have e1 := hm.sf_sr
    have e2 : p ^ e = p ^ (e % 2) * (p ^ (e / 2) * p ^ (e / 2)) := by
      rw [← Nat.pow_add, ← Nat.pow_add]; congr 1; omega
    simp only [sf, sr]
    rw [e2, e1]
    grind
theorem Fac.sf_dvd {L : List (Nat × Nat)} {lo n : Nat} (h : Fac lo n L) : sf L ∣ n := ⟨_, h.sf_sr⟩
theorem Fac.sf_pos {L : List (Nat × Nat)} {lo n : Nat} (h : Fac lo n L) : 1 ≤ sf L ∧ 1 ≤ sr L := by
  have h1 := h.pos
  have h2 := h.sf_sr
  constructor
  · rcases Nat.eq_zero_or_pos (sf L) with e | e
    · rw [e] at h2; simp at h2; omega
    · exact e
  · rcases Nat.eq_zero_or_pos (sr L) with e | e
    · rw [e] at h2; simp at h2; omega
    · exact e
theorem Fac.sf_sqf : ∀ {L : List (Nat × Nat)} {lo n : Nat}, Fac lo n L → Sqf (sf L) := by
  have key : ∀ {L : List (Nat × Nat)} {lo n q : Nat}, Fac lo n L → Pr q → ¬ q * q ∣ sf L := by
    intro L
    induction L with
    | nil => intro lo n q _ hq hd; exact hq.not_dvd_one (Nat.dvd_trans ⟨q, rfl⟩ hd)
    | cons x L ih =>
      obtain ⟨p, e⟩ := x
      intro lo n q h hq hd
      obtain ⟨_, hp, _, m, rfl, hm⟩ := h
      simp only [sf] at hd
      have hn : ∀ q', Pr q' → q' ∣ sf L → p < q' := fun q' hq' hd' => hm.gt hq' (Nat.dvd_trans hd' hm.sf_dvd)
      by_cases hqp : q = p
      · subst hqp
        have hq0 : 0 < q := by have := hq.1; omega
        rcases Nat.mod_two_eq_zero_or_one e with he | he
        · rw [he, Nat.pow_zero, Nat.one_mul] at hd
          have := hn q hq (Nat.dvd_trans ⟨q, rfl⟩ hd)
          omega
        · rw [he, Nat.pow_one] at hd
          have := hn q hq (Nat.dvd_of_mul_dvd_mul_left hq0 hd)
          omega
      · have hc : Nat.Coprime q p := hq.coprime (fun hd => hqp (hq.eq_of_dvd hp hd))
        have hc2 : Nat.Coprime (q * q) (p ^ (e % 2)) := Nat.Coprime.pow_right _ (Nat.Coprime.mul_left hc hc)
        exact ih hm hq (hc2.dvd_of_dvd_mul_left hd)
  intro L lo n h d hd hdd
  obtain ⟨q, hq, hqd⟩ := exists_prime d hd
  exact key h hq (Nat.dvd_trans (Nat.mul_dvd_mul hqd hqd) hdd)
end Go.Proofs.YtgbndganadelpaaGreatDoor.Num
/- Laws: the factorization. -/
namespace Go.Proofs.YtgbndganadelpaaGreatDoor.V
open Go Go.Proofs.YtgbndganadelpaaGreatDoor.E Go.Proofs.YtgbndganadelpaaGreatDoor.LI Go.Proofs.YtgbndganadelpaaGreatDoor.Num
set_option linter.unusedVariables false
set_option linter.unusedSimpArgs false
abbrev PW := Int × Int × Unit
def encP (L : List (Nat × Nat)) : List PW := L.map fun x => ((x.1 : Int), (x.2 : Int), ())
theorem encP_length (L : List (Nat × Nat)) : (encP L).length = L.length := by simp [encP]
theorem div_step {d f m : Nat} (hd : 2 ≤ d) : d ^ (f + 1) * m % d = 0 ∧ d ^ (f + 1) * m / d = d ^ f * m := by
  have e : d ^ (f + 1) * m = d * (d ^ f * m) := by rw [Nat.pow_succ', Nat.mul_assoc]
  rw [e]
  exact ⟨Nat.mul_mod_right _ _, Nat.mul_div_cancel_left _ (by omega)⟩
theorem pow_bound {d f m : Nat} (hd : 2 ≤ d) (hm : 1 ≤ m) (h : d ^ f * m ≤ 2147483647) : f ≤ 30 := by
  apply Classical.byContradiction
  intro hc
  have h1 : 2 ^ 31 ≤ 2 ^ f := Nat.pow_le_pow_right (by omega) (by omega)
  have h2 : 2 ^ f ≤ d ^ f := Nat.pow_le_pow_left hd f
  have h3 : d ^ f * 1 ≤ d ^ f * m := Nat.mul_le_mul_left _ hm
  omega
theorem strip_loop {d m : Nat} (hd : 2 ≤ d) (hd2 : d ≤ 2147483647) (hm : 1 ≤ m) (hnd : ¬ d ∣ m) (acc : List PW) : ∀ (f e : Nat), e + f ≤ 100 → d ^ f * m ≤ 2147483647 →
    iterL (fun x : Int × Int × Int × (List PW) × Unit => prime_Factor.s1 x.1 x.2.1 x.2.2.1 x.2.2.2.1) (((d ^ f * m : Nat) : Int), (d : Int), (e : Int), acc, ()) = some ((m : Int), (d : Int), ((e + f : Nat) : Int), acc, ())
  | 0, e, he, hb => by
    refine iterL_done ?_
    simp only [prime_Factor.s1, prime_Factor.j5, cite, decide_eq_true_eq, beq_iff_eq]
    rw [if_neg (by omega), tmod_nat, if_neg]
    · simp
    · intro h
      exact hnd (Nat.dvd_of_mod_eq_zero (by simpa using Int.ofNat_inj.1 h))
  | f + 1, e, he, hb => by
    obtain ⟨h1, h2⟩ := div_step (d := d) (f := f) (m := m) hd
    have h3 : d ^ f * m ≤ 2147483647 := by
      rw [← h2]; exact Nat.le_trans (Nat.div_le_self _ _) hb
    refine (iterL_next ?_).trans ((strip_loop hd hd2 hm hnd acc f (e + 1) (by omega) h3).trans (by rw [show e + 1 + f = e + (f + 1) by omega]))
    simp only [prime_Factor.s1, prime_Factor.j5, cite, decide_eq_true_eq, beq_iff_eq]
    rw [if_neg (by omega), tmod_nat, h1, if_pos (by rfl), if_neg (by omega), tdiv_nat, h2, wi64 (by omega) (by omega), up (by omega)]
theorem find_loop {n : Nat} (hn2 : 2 ≤ n) (hn : n ≤ 2147483647) {acc : List PW} (hacc : acc.length ≤ 1000) : ∀ (t d : Nat), 46342 - d = t → 2 ≤ d → d ≤ 46341 → (∀ q, 2 ≤ q → q ∣ n → d ≤ q) →
    ∃ z, iterL (fun x : Int × Int × (List PW) × Unit => prime_Factor.s0 x.1 x.2.1 x.2.2.1) ((n : Int), (d : Int), acc, ()) = some z ∧
      ((z = .inl (acc ++ [((n : Int), (1 : Int), ())], ()) ∧ Pr n) ∨ ∃ d' : Nat, z = .inr ((n : Int), (d' : Int), acc, ()) ∧ 2 ≤ d' ∧ d' ≤ 46340 ∧ d' ∣ n ∧ ∀ q, 2 ≤ q → q ∣ n → d' ≤ q) := by
  intro t
  induction t with
  | zero => intro d a b c; omega
  | succ t ih =>
    intro d ht hd2 hd hlo
    have hst : prime_Factor.s0 (n : Int) (d : Int) acc = if d * d ≤ n then if n % d = 0 then some (.inr (.inr ((n : Int), (d : Int), acc, ()))) else some (.inl ((n : Int), ((d + 1 : Nat) : Int), acc, ())) else some (.inr (.inl (acc ++ [((n : Int), (1 : Int), ())], ()))) := by
      simp only [prime_Factor.s0, prime_Factor.j3, prime_Factor.j4, cite, decide_eq_true_eq, beq_iff_eq, maxL_eq]
      rw [sq_wrap (by omega), if_neg (show ¬ (d : Int) = 0 by omega), tmod_nat, up (by omega)]
      by_cases h1 : d * d ≤ n
      · rw [if_pos h1, if_neg (by omega)]
        by_cases h2 : n % d = 0
        · rw [if_pos h2, if_pos (by omega)]
        · rw [if_neg h2, if_neg (by omega)]
      · rw [if_neg h1, if_pos (by omega), if_pos (by simp; omega)]
    by_cases hle : d * d ≤ n
    · have hb := sq_le hle hn
      rw [if_pos hle] at hst
      by_cases hdv : n % d = 0
      · rw [if_pos hdv] at hst
        exact ⟨_, iterL_done hst, .inr ⟨d, rfl, hd2, hb, Nat.dvd_of_mod_eq_zero hdv, hlo⟩⟩
      · rw [if_neg hdv] at hst
        obtain ⟨z, h2, h3⟩ := ih (d + 1) (by omega) (by omega) (by omega) (fun q h1 h3 => by
          have := hlo q h1 h3
          have : q ≠ d := by rintro rfl; exact hdv (Nat.mod_eq_zero_of_dvd h3)
          omega)
        exact ⟨z, (iterL_next hst).trans h2, h3⟩
    · rw [if_neg hle] at hst
      exact ⟨_, iterL_done hst, .inl ⟨rfl, pr_of_noDiv (by omega) (fun q a b _ => hlo q a b) (by omega)⟩⟩
theorem fac_loop : ∀ (N n d : Nat) (acc : List PW), n < N → 1 ≤ n → n ≤ 2147483647 → 2 ≤ d → d ≤ 46341 → (∀ q, 2 ≤ q → q ∣ n → d ≤ q) → 2 ^ acc.length * n ≤ 1099511627776 →
    ∃ L, Fac 1 n L ∧ iterL (fun x : Int × Int × (List PW) × Unit => prime_Factor.s2 x.1 x.2.1 x.2.2.1) ((n : Int), (d : Int), acc, ()) = some (acc ++ encP L, ())
  | 0, n, d, acc, h, _, _, _, _, _, _ => by omega
  | N + 1, n, d, acc, hN, h1, hn, hd2, hd, hlo, hacc => by
    have haccl : acc.length ≤ 100 := by
      apply Classical.byContradiction
      intro hc
      have a : 2 ^ 41 ≤ 2 ^ acc.length := Nat.pow_le_pow_right (by omega) (by omega)
      have b : 2 ^ acc.length * 1 ≤ 2 ^ acc.length * n := Nat.mul_le_mul_left _ h1
      omega
    by_cases hn1 : n = 1
    · subst hn1
      refine ⟨[], rfl, iterL_done ?_⟩
      simp only [prime_Factor.s2, cite, decide_eq_true_eq]
      rw [if_neg (by simp)]
      simp [encP]
    · obtain ⟨z, hz, hz2⟩ := find_loop (n := n) (by omega) hn (acc := acc) (by omega) _ d rfl hd2 hd hlo
      rcases hz2 with ⟨rfl, hp⟩ | ⟨d', rfl, e1, e2, e3, e4⟩
      · refine ⟨[(n, 1)], ⟨by omega, hp, Nat.le_refl _, 1, by simp, rfl⟩, iterL_done ?_⟩
        simp only [prime_Factor.s2, prime_Factor.j2, cite, decide_eq_true_eq]
        rw [if_pos (by omega), hz, Option.bind_some]
        simp [prime_Factor.k0_0, encP]
      · obtain ⟨f, m, hfm, hnd, hm1, hf⟩ := exists_strip e1 n n (Nat.le_refl _) h1
        have hf := hf e3
        have hp := pr_of_least e1 e3 e4
        have hmn : 2 * m ≤ n := by
          have a : d' ^ 1 ≤ d' ^ f := Nat.pow_le_pow_right (by omega) hf
          rw [Nat.pow_one] at a
          have b : d' * m ≤ d' ^ f * m := Nat.mul_le_mul_right _ a
          have c : 2 * m ≤ d' * m := Nat.mul_le_mul_right _ e1
          omega
        have hdm : m ∣ n := ⟨d' ^ f, by rw [hfm, Nat.mul_comm]⟩
        have hlo' : ∀ q, 2 ≤ q → q ∣ m → d' ≤ q := fun q h2 h3 => e4 q h2 (Nat.dvd_trans h3 hdm)
        have hfb := pow_bound e1 hm1 (by omega : d' ^ f * m ≤ 2147483647)
        obtain ⟨L, hL, hE⟩ := fac_loop N m d' (acc ++ [((d' : Int), (f : Int), ())]) (by omega) hm1 (by omega) e1 (by omega) hlo' (by
          rw [List.length_append, List.length_singleton, Nat.pow_succ, Nat.mul_assoc]
          exact Nat.le_trans (Nat.mul_le_mul_left _ hmn) hacc)
        refine ⟨(d', f) :: L, ⟨by omega, hp, hf, m, hfm, hL.raise fun q hq hqd => ?_⟩, (iterL_next ?_).trans (hE.trans (by simp [encP]))⟩
        · have := hlo' q hq.1 hqd
          have : q ≠ d' := by rintro rfl; exact hnd hqd
          omega
        · have hs := strip_loop e1 (by omega) hm1 hnd acc f 0 (by omega) (by omega)
          rw [← hfm, show ((0 : Nat) : Int) = 0 from rfl, Nat.zero_add] at hs
          simp only [prime_Factor.s2, prime_Factor.j2, cite, decide_eq_true_eq]
          rw [if_pos (by omega), hz, Option.bind_some]
          simp only [prime_Factor.k0_1]
          rw [hs, Option.bind_some]
          simp only [prime_Factor.k1, cite, decide_eq_true_eq, maxL_eq]
          rw [if_pos (by simp; omega)]
theorem factor_nat (n : Nat) (h1 : 1 ≤ n) (hn : n ≤ 2147483647) : ∃ L, Fac 1 n L ∧ prime_Factor (n : Int) = some (encP L, 0, ()) := by
  obtain ⟨L, h2, h3⟩ := fac_loop (n + 1) n 2 [] (by omega) h1 hn (by omega) (by omega) (fun q h _ => h) (by simp; omega)
  refine ⟨L, h2, ?_⟩
  unfold prime_Factor
  simp only [cite, decide_eq_true_eq]
  rw [if_neg (by omega), if_neg (by omega)]
  unfold prime_Factor.j1
  rw [show ((2 : Nat) : Int) = 2 from rfl] at h3
  rw [h3, Option.bind_some]
  rfl
end Go.Proofs.YtgbndganadelpaaGreatDoor.V
/- Laws: squarefree parts and discriminants. -/
namespace Go.Proofs.YtgbndganadelpaaGreatDoor.V
open Go Go.Proofs.YtgbndganadelpaaGreatDoor.E Go.Proofs.YtgbndganadelpaaGreatDoor.LI Go.Proofs.YtgbndganadelpaaGreatDoor.Num
set_option linter.unusedVariables false
set_option linter.unusedSimpArgs false
/-- s and r are what n asks for -/
def SqOf (n s r : Int) : Prop := ∃ (S R : Nat) (g : Int), (g = 1 ∨ g = -1) ∧ n = g * (S * (R * R) : Nat) ∧ s = g * (S : Nat) ∧ r = (R : Nat) ∧ Sqf S ∧ 1 ≤ S ∧ 1 ≤ R
theorem sqOf_unique {n s r s' r' : Int} (h : SqOf n s r) (h' : SqOf n s' r') : s = s' ∧ r = r' := by
  obtain ⟨S, R, g, hg, hn, rfl, rfl, hS, hS1, hR1⟩ := h
  obtain ⟨S', R', g', hg', hn', rfl, rfl, hS', hS1', hR1'⟩ := h'
  have p1 : 1 ≤ S * (R * R) := Nat.mul_pos hS1 (Nat.mul_pos hR1 hR1)
  have p2 : 1 ≤ S' * (R' * R') := Nat.mul_pos hS1' (Nat.mul_pos hR1' hR1')
  have e : g = g' ∧ S * (R * R) = S' * (R' * R') := by
    generalize S * (R * R) = A at *
    generalize S' * (R' * R') = B at *
    rcases hg with rfl | rfl <;> rcases hg' with rfl | rfl <;> omega
  obtain ⟨rfl, e⟩ := e
  obtain ⟨rfl, rfl⟩ := sqf_unique hS hS' hR1 hR1' e
  exact ⟨rfl, rfl⟩
theorem fac_bounds {n : Nat} {L : List (Nat × Nat)} (h : Fac 1 n L) (hn : n ≤ 2147483647) : (∀ x ∈ L, Pr x.1 ∧ 1 ≤ x.2 ∧ x.1 ≤ 2147483647 ∧ x.2 ≤ 100) ∧ L.length ≤ 100 := by
  have h1 := h.pos
  constructor
  · intro x hx
    obtain ⟨hp, he, hd, _⟩ := h.mem x hx
    have hle := Nat.le_of_dvd (by omega) hd
    have h2 := hp.1
    have hxx : x.1 ^ 1 ≤ x.1 ^ x.2 := Nat.pow_le_pow_right (by omega) he
    rw [Nat.pow_one] at hxx
    have := pow_bound (d := x.1) (f := x.2) (m := 1) h2 (by omega) (by omega)
    exact ⟨hp, he, by omega, by omega⟩
  · apply Classical.byContradiction
    intro hc
    have a := h.two_pow_le
    have b : 2 ^ 31 ≤ 2 ^ L.length := Nat.pow_le_pow_right (by omega) (by omega)
    omega
theorem rdP_at (L1 : List (Nat × Nat)) (x : Nat × Nat) (L2 : List (Nat × Nat)) : List.getD (encP (L1 ++ x :: L2)) L1.length ((0 : Int), (0 : Int), ()) = ((x.1 : Int), (x.2 : Int), ()) := by
  simp [encP, List.getD, List.getElem?_append_right]
theorem beyond_ok (a : Int) : prime_beyond a = some (decide (2147483647 < a ∨ a < -2147483647)) := by
  unfold prime_beyond
  simp only [cite, decide_eq_true_eq]
  by_cases h : a > 2147483647
  · rw [if_pos h, decide_eq_true (by omega)]
  · rw [if_neg h]
    congr 1
    simp only [decide_eq_decide]
    omega
theorem sqf_inner {LS : List PW} {len i : Int} {p e : Nat} (hp1 : 1 ≤ p) (he : e ≤ 100) (s : Int) : ∀ (t j r : Nat), e / 2 - j = t → j ≤ e / 2 → r * p ^ t ≤ 2147483647 →
    iterL (fun x : Int × Int × Int × (List PW) × Int × Int × PW × Unit => prime_Squarefree.s0 x.1 x.2.1 x.2.2.1 x.2.2.2.1 x.2.2.2.2.1 x.2.2.2.2.2.1 x.2.2.2.2.2.2.1) (s, (r : Int), (j : Int), LS, len, i, ((p : Int), (e : Int), ()), ()) = some (s, ((r * p ^ t : Nat) : Int), LS, len, i, ())
  | 0, j, r, ht, hj, hb => by
    refine iterL_done ?_
    simp only [prime_Squarefree.s0, cite, decide_eq_true_eq]
    rw [half_wrap e (by omega), if_neg (by omega), Nat.pow_zero, Nat.mul_one]
  | t + 1, j, r, ht, hj, hb => by
    have hb2 : r * p * p ^ t ≤ 2147483647 := by rw [Nat.mul_assoc, ← Nat.pow_succ']; exact hb
    have hpt : 1 ≤ p ^ t := Nat.pow_pos hp1
    have hb3 : r * p * 1 ≤ r * p * p ^ t := Nat.mul_le_mul_left _ hpt
    refine (iterL_next ?_).trans ((sqf_inner hp1 he s t (j + 1) (r * p) (by omega) (by omega) hb2).trans (by rw [Nat.mul_assoc, ← Nat.pow_succ']))
    simp only [prime_Squarefree.s0, prime_Squarefree.j5, cite, decide_eq_true_eq]
    rw [half_wrap e (by omega), if_pos (by omega), up (by omega), ← Int.natCast_mul, wi64 (x := ((r * p : Nat) : Int)) (by omega) (by omega)]
theorem sqf_loop {g : Int} (hg : g = 1 ∨ g = -1) : ∀ (L2 L1 : List (Nat × Nat)) (s r : Nat), (∀ x ∈ L2, Pr x.1 ∧ 1 ≤ x.2 ∧ x.1 ≤ 2147483647 ∧ x.2 ≤ 100) → (L1 ++ L2).length ≤ 100 → s * sf L2 ≤ 2147483647 → r * sr L2 ≤ 2147483647 → 1 ≤ sf L2 → 1 ≤ sr L2 →
    iterL (fun x : Int × Int × (List PW) × Int × Int × Unit => prime_Squarefree.s1 x.1 x.2.1 x.2.2.1 x.2.2.2.1 x.2.2.2.2.1) (g * (s : Nat), (r : Int), encP (L1 ++ L2), (((encP (L1 ++ L2)).length : Nat) : Int), ((L1.length : Nat) : Int), ()) = some (g * (s * sf L2 : Nat), ((r * sr L2 : Nat) : Int), ())
  | [], L1, s, r, _, hl, _, _, _, _ => by
    refine iterL_done ?_
    simp only [prime_Squarefree.s1, cite, decide_eq_true_eq]
    rw [encP_length, if_neg (by simp)]
    simp [sf, sr]
  | (p, e) :: L2, L1, s, r, hx, hl, hsb, hrb, h1, h2 => by
    obtain ⟨hp, he, hpM, heM⟩ := hx (p, e) (List.mem_cons_self ..)
    simp only at hp he hpM heM
    simp only [sf, sr] at hsb hrb h1 h2 ⊢
    have hp1 : 1 ≤ p := by have := hp.1; omega
    have s1 : 1 ≤ sf L2 := by
      rcases Nat.eq_zero_or_pos (sf L2) with h | h
      · rw [h] at h1; simp at h1
      · exact h
    have r1 : 1 ≤ sr L2 := by
      rcases Nat.eq_zero_or_pos (sr L2) with h | h
      · rw [h] at h2; simp at h2
      · exact h
    have hlen : (L1.length : Int) < ((encP (L1 ++ (p, e) :: L2)).length : Nat) := by
      rw [encP_length, List.length_append, List.length_cons]; omega
    have hl1 : L1.length ≤ 100 := by rw [List.length_append] at hl; omega
    have hsplit : L1 ++ (p, e) :: L2 = (L1 ++ [(p, e)]) ++ L2 := by simp
    have hl' : ((L1 ++ [(p, e)]) ++ L2).length ≤ 100 := by rw [← hsplit]; exact hl
    have hL1 : (L1 ++ [(p, e)]).length = L1.length + 1 := by simp
    rw [← Nat.mul_assoc] at hsb hrb
    have hsb2 : s * p ^ (e % 2) * 1 ≤ s * p ^ (e % 2) * sf L2 := Nat.mul_le_mul_left _ s1
    have hrb2 : r * p ^ (e / 2) * 1 ≤ r * p ^ (e / 2) * sr L2 := Nat.mul_le_mul_left _ r1
    have ih := sqf_loop hg L2 (L1 ++ [(p, e)]) (s * p ^ (e % 2)) (r * p ^ (e / 2)) (fun x h => hx x (List.mem_cons_of_mem _ h)) hl' hsb hrb s1 r1
    rw [hL1, ← hsplit, Nat.mul_assoc s, Nat.mul_assoc r] at ih
    have hin := sqf_inner (LS := encP (L1 ++ (p, e) :: L2)) (len := (((encP (L1 ++ (p, e) :: L2)).length : Nat) : Int)) (i := ((L1.length : Nat) : Int)) hp1 heM (g * (s * p ^ (e % 2) : Nat)) (e / 2) 0 r (by omega) (by omega) (by omega)
    refine (iterL_next ?_).trans ih
    simp only [prime_Squarefree.s1, prime_Squarefree.j3, prime_Squarefree.j4, prime_Squarefree.k0, cite, decide_eq_true_eq, beq_iff_eq, inB_t]
    rw [if_pos hlen, if_pos (by omega), Int.toNat_natCast, rdP_at]
    simp only []
    rw [show ((0 : Nat) : Int) = 0 from rfl] at hin
    rw [show Int.tmod (e : Int) 2 = ((e % 2 : Nat) : Int) from tmod_nat e 2]
    have hfin : ∀ S : Int, S = g * (s * p ^ (e % 2) : Nat) → ((iterL (fun x : Int × Int × Int × (List PW) × Int × Int × PW × Unit => prime_Squarefree.s0 x.1 x.2.1 x.2.2.1 x.2.2.2.1 x.2.2.2.2.1 x.2.2.2.2.2.1 x.2.2.2.2.2.2.1) (S, (r : Int), (0 : Int), encP (L1 ++ (p, e) :: L2), (((encP (L1 ++ (p, e) :: L2)).length : Nat) : Int), ((L1.length : Nat) : Int), ((p : Int), (e : Int), ()), ())).bind fun y => (some (.inl (y.1, y.2.1, y.2.2.1, y.2.2.2.1, (IntKind.wrap .i64 (y.2.2.2.2.1 + 1)), ())) : Option ((Int × Int × (List PW) × Int × Int × Unit) ⊕ (Int × Int × Unit)))) = some (.inl (g * (s * p ^ (e % 2) : Nat), ((r * p ^ (e / 2) : Nat) : Int), encP (L1 ++ (p, e) :: L2), (((encP (L1 ++ (p, e) :: L2)).length : Nat) : Int), ((L1.length + 1 : Nat) : Int), ())) := by
      rintro S rfl
      rw [hin, Option.bind_some]
      simp only []
      rw [up (by omega)]
    rcases Nat.mod_two_eq_zero_or_one e with h | h
    · rw [h] at hfin ⊢
      rw [if_neg (by omega)]
      exact hfin _ (by rw [Nat.pow_zero, Nat.mul_one])
    · rw [h] at hfin ⊢
      rw [if_pos (show ((1 : Nat) : Int) = 1 from rfl)]
      have hw : g * (s : Nat) * (p : Int) = g * ((s * p : Nat) : Int) := by rw [Int.mul_assoc, Int.natCast_mul]
      rw [h, Nat.pow_one] at hsb2 hsb
      have hb' : s * p ≤ 2147483647 := by omega
      refine hfin _ ?_
      rw [Nat.pow_one, hw]
      generalize s * p = z at hb' ⊢
      rw [wi64 (by rcases hg with rfl | rfl <;> omega) (by rcases hg with rfl | rfl <;> omega)]
theorem sqf_bad {n : Int} (h : n = 0 ∨ 2147483647 < n ∨ n < -2147483647) : prime_Squarefree n = some (0, 0, 1, ()) := by
  unfold prime_Squarefree
  simp only [cite, beq_iff_eq]
  by_cases h0 : n = 0
  · rw [if_pos h0]
  · rw [if_neg h0, beyond_ok, decide_eq_true (by omega), Option.bind_some, if_pos rfl]
theorem sqf_ok {n : Int} (h0 : n ≠ 0) (hn : -2147483647 ≤ n ∧ n ≤ 2147483647) : ∃ s r, SqOf n s r ∧ prime_Squarefree n = some (s, r, 0, ()) := by
  obtain ⟨m, hm⟩ : ∃ m : Nat, n.natAbs = m := ⟨_, rfl⟩
  obtain ⟨L, hL, hF⟩ := factor_nat m (by omega) (by omega)
  obtain ⟨hb, hlen⟩ := fac_bounds hL (by omega)
  obtain ⟨s1, r1⟩ := hL.sf_pos
  have he := hL.sf_sr
  have hsb : sf L ≤ m := by
    have : sf L * 1 ≤ sf L * (sr L * sr L) := Nat.mul_le_mul_left _ (Nat.mul_pos r1 r1)
    omega
  have hrb : sr L ≤ m := by
    have a : sr L * 1 ≤ sr L * sr L := Nat.mul_le_mul_left _ r1
    have b : 1 * (sr L * sr L) ≤ sf L * (sr L * sr L) := Nat.mul_le_mul_right _ s1
    omega
  have hg : (if n < 0 then (-1 : Int) else 1) = 1 ∨ (if n < 0 then (-1 : Int) else 1) = -1 := by split <;> simp
  have hloop := sqf_loop hg L [] 1 1 hb (by simpa using hlen) (by omega) (by omega) s1 r1
  simp only [List.nil_append, Nat.one_mul] at hloop
  refine ⟨_, _, ⟨sf L, sr L, _, hg, ?_, rfl, rfl, hL.sf_sqf, s1, r1⟩, ?_⟩
  · rw [← he]; split <;> omega
  · unfold prime_Squarefree
    simp only [cite, beq_iff_eq, decide_eq_true_eq]
    rw [if_neg h0, beyond_ok, decide_eq_false (by omega), Option.bind_some, if_neg (by decide)]
    simp only [prime_Squarefree.j1, prime_Squarefree.j2, prime_Squarefree.j6, cite, decide_eq_true_eq]
    by_cases hneg : n < 0
    · rw [if_pos hneg] at hloop ⊢
      rw [show IntKind.wrap .i64 (0 - n) = (m : Int) by rw [wi64 (by omega) (by omega)]; omega, hF, Option.bind_some]
      simp only []
      have hl2 : iterL (fun x : Int × Int × (List PW) × Int × Int × Unit => prime_Squarefree.s1 x.1 x.2.1 x.2.2.1 x.2.2.2.1 x.2.2.2.2.1) ((-1 : Int), (1 : Int), encP L, (((encP L).length : Nat) : Int), (0 : Int), ()) = _ := hloop
      rw [hl2, Option.bind_some, if_pos hneg]
      rfl
    · rw [if_neg hneg] at hloop ⊢
      rw [show n = (m : Int) by omega, hF, Option.bind_some]
      simp only []
      have hl2 : iterL (fun x : Int × Int × (List PW) × Int × Int × Unit => prime_Squarefree.s1 x.1 x.2.1 x.2.2.1 x.2.2.2.1 x.2.2.2.2.1) ((1 : Int), (1 : Int), encP L, (((encP L).length : Nat) : Int), (0 : Int), ()) = _ := hloop
      rw [hl2, Option.bind_some, if_neg (by omega)]
      rfl
end Go.Proofs.YtgbndganadelpaaGreatDoor.V
/- Laws: squarefree parts of the reference; discriminants of both. -/
namespace Go.Proofs.YtgbndganadelpaaGreatDoor.V
open Go Go.Proofs.YtgbndganadelpaaGreatDoor.E Go.Proofs.YtgbndganadelpaaGreatDoor.LI Go.Proofs.YtgbndganadelpaaGreatDoor.Num
set_option linter.unusedVariables false
set_option linter.unusedSimpArgs false
theorem tmod_sign {g : Int} (hg : g = 1 ∨ g = -1) (m n : Nat) : Int.tmod (g * (m : Nat)) (n : Nat) = g * ((m % n : Nat) : Int) := by
  rcases hg with rfl | rfl
  · rw [Int.one_mul, Int.one_mul, tmod_nat]
  · rw [Int.neg_one_mul, Int.neg_one_mul, Int.neg_tmod, tmod_nat]
theorem tdiv_sign {g : Int} (hg : g = 1 ∨ g = -1) (m n : Nat) : Int.tdiv (g * (m : Nat)) (n : Nat) = g * ((m / n : Nat) : Int) := by
  rcases hg with rfl | rfl
  · rw [Int.one_mul, Int.one_mul, tdiv_nat]
  · rw [Int.neg_one_mul, Int.neg_one_mul, Int.neg_tdiv, tdiv_nat]
theorem rsq_le {r m N : Nat} (hm : 1 ≤ m) (h : N = m * (r * r)) (hN : N ≤ 2147483647) : r ≤ 46340 := by
  have : 1 * (r * r) ≤ m * (r * r) := Nat.mul_le_mul_right _ hm
  exact sq_le (by omega) hN
theorem rsqf_inner {g : Int} (hg : g = 1 ∨ g = -1) {N d : Nat} (hN : N ≤ 2147483647) (hd2 : 2 ≤ d) (hd : d ≤ 46340) : ∀ (t m r : Nat), m < t → 1 ≤ m → 1 ≤ r → N = m * (r * r) → (∀ c, 2 ≤ c → c < d → ¬ c * c ∣ m) →
    ∃ m' r' : Nat, iterL (fun x : Int × Int × Int × Unit => r22_Squarefree.s0 x.1 x.2.1 x.2.2.1) (g * (m : Nat), (r : Int), (d : Int), ()) = some (g * (m' : Nat), (r' : Int), (d : Int), ()) ∧ 1 ≤ m' ∧ 1 ≤ r' ∧ N = m' * (r' * r') ∧ ∀ c, 2 ≤ c → c < d + 1 → ¬ c * c ∣ m'
  | 0, m, r, ht, _, _, _, _ => by omega
  | t + 1, m, r, ht, hm, hr, he, hc => by
    have hdd : IntKind.wrap .i64 ((d : Int) * d) = ((d * d : Nat) : Int) := sq_wrap (by omega)
    have hdd0 : 0 < d * d := Nat.mul_pos (by omega) (by omega)
    have hr2 := rsq_le hm he hN
    by_cases hdv : d * d ∣ m
    · obtain ⟨m', hm'⟩ := hdv
      have hm1 : 1 ≤ m' := by
        rcases Nat.eq_zero_or_pos m' with h | h
        · rw [h] at hm'; simp at hm'; omega
        · exact h
      have hlt : m' < m := by
        have a : 4 ≤ d * d := Nat.mul_le_mul hd2 hd2
        have b : 4 * m' ≤ d * d * m' := Nat.mul_le_mul_right _ a
        omega
      have he' : N = m' * ((r * d) * (r * d)) := by rw [he, hm']; grind
      have hrd := rsq_le hm1 he' hN
      have hrd1 : 1 ≤ r * d := Nat.mul_pos hr (by omega)
      have hmM : m' ≤ 2147483647 := by
        have := Nat.le_mul_of_pos_right m' (Nat.mul_pos hrd1 hrd1)
        omega
      obtain ⟨m2, r2, q1, q2⟩ := rsqf_inner hg hN hd2 hd t m' (r * d) (by omega) hm1 (Nat.mul_pos hr (by omega)) he' (fun c h1 h2 h3 => hc c h1 h2 (Nat.dvd_trans h3 ⟨d * d, by rw [hm', Nat.mul_comm]⟩))
      refine ⟨m2, r2, (iterL_next ?_).trans q1, q2⟩
      simp only [r22_Squarefree.s0, r22_Squarefree.j2, cite, decide_eq_true_eq, beq_iff_eq]
      rw [hdd, if_neg (by omega), tmod_sign hg, tdiv_sign hg, hm', Nat.mul_mod_right, Nat.mul_div_cancel_left _ hdd0, if_pos (by simp), if_neg (by omega), wi64 (x := g * (m' : Nat)) (by rcases hg with rfl | rfl <;> omega) (by rcases hg with rfl | rfl <;> omega), ← Int.natCast_mul, wi64 (x := ((r * d : Nat) : Int)) (by omega) (by omega)]
    · refine ⟨m, r, iterL_done ?_, hm, hr, he, fun c h1 h2 h3 => by
        by_cases e : c = d
        · subst e; exact hdv h3
        · exact hc c h1 (by omega) h3⟩
      simp only [r22_Squarefree.s0, r22_Squarefree.j2, cite, decide_eq_true_eq, beq_iff_eq]
      rw [hdd, if_neg (by omega), tmod_sign hg, if_neg]
      intro h0
      apply hdv
      apply Nat.dvd_of_mod_eq_zero
      rcases hg with rfl | rfl <;> omega
theorem rsqf_loop {g : Int} (hg : g = 1 ∨ g = -1) {N : Nat} (hN : N ≤ 2147483647) : ∀ (t d m r : Nat), 46342 - d = t → 2 ≤ d → d ≤ 46341 → 1 ≤ m → 1 ≤ r → N = m * (r * r) → (∀ c, 2 ≤ c → c < d → ¬ c * c ∣ m) →
    ∃ S R : Nat, Sqf S ∧ 1 ≤ S ∧ 1 ≤ R ∧ N = S * (R * R) ∧ iterL (fun x : Int × Int × Int × Unit => r22_Squarefree.s1 x.1 x.2.1 x.2.2.1) (g * (m : Nat), (r : Int), (d : Int), ()) = some (g * (S : Nat), (R : Int), ())
  | 0, d, m, r, ht, _, hd, _, _, _, _ => by omega
  | t + 1, d, m, r, ht, hd2, hd, hm, hr, he, hc => by
    have hdd : IntKind.wrap .i64 ((d : Int) * d) = ((d * d : Nat) : Int) := sq_wrap (by omega)
    have hmN : m ≤ N := by
      rw [he]
      exact Nat.le_mul_of_pos_right _ (Nat.mul_pos hr hr)
    have hneg : IntKind.wrap .i64 (0 - (g * (m : Nat))) = -(g * (m : Nat)) := by rw [wi64 (by rcases hg with rfl | rfl <;> omega) (by rcases hg with rfl | rfl <;> omega)]; omega
    have hst : r22_Squarefree.s1 (g * (m : Nat)) (r : Int) (d : Int) = if d * d ≤ m then ((iterL (fun x : Int × Int × Int × Unit => r22_Squarefree.s0 x.1 x.2.1 x.2.2.1) (g * (m : Nat), (r : Int), (d : Int), ())).bind fun y => r22_Squarefree.k0 y.1 y.2.1 y.2.2.1) else some (.inr (g * (m : Nat), (r : Int), ())) := by
      simp only [r22_Squarefree.s1, r22_Squarefree.j3, cite, decide_eq_true_eq]
      rw [hdd, hneg]
      by_cases h1 : ((d * d : Nat) : Int) ≤ g * (m : Nat)
      · rw [if_pos h1, if_pos (by rcases hg with rfl | rfl <;> omega)]
      · rw [if_neg h1]
        by_cases h2 : d * d ≤ m
        · rw [if_pos h2, if_pos (by rcases hg with rfl | rfl <;> omega)]
        · rw [if_neg h2, if_neg (by rcases hg with rfl | rfl <;> omega)]
    by_cases hle : d * d ≤ m
    · have hb := sq_le hle (by omega : m ≤ 2147483647)
      obtain ⟨m', r', q1, q2, q3, q4, q5⟩ := rsqf_inner hg hN hd2 hb (m + 1) m r (by omega) hm hr he hc
      obtain ⟨S, R, hS, hS1, hR1, hSR, hE⟩ := rsqf_loop hg hN t (d + 1) m' r' (by omega) (by omega) (by omega) q2 q3 q4 q5
      refine ⟨S, R, hS, hS1, hR1, hSR, (iterL_next ?_).trans hE⟩
      simp only []
      rw [hst, if_pos hle, q1, Option.bind_some]
      simp only [r22_Squarefree.k0]
      rw [up (by omega)]
    · refine ⟨m, r, fun c h1 h2 => ?_, hm, hr, he, iterL_done ?_⟩
      · by_cases h3 : c < d
        · exact hc c h1 h3 h2
        · have := Nat.le_of_dvd (by omega) h2
          have := Nat.mul_le_mul (show d ≤ c by omega) (show d ≤ c by omega)
          omega
      · simp only []
        rw [hst, if_neg hle]
theorem rsqf_bad {n : Int} (h : n = 0 ∨ 2147483647 < n ∨ n < -2147483647) : r22_Squarefree n = some (0, 0, 1, ()) := by
  unfold r22_Squarefree
  simp only [cite, beq_iff_eq, decide_eq_true_eq]
  by_cases h0 : n = 0
  · rw [if_pos h0]
  · rw [if_neg h0]
    by_cases h1 : n < -2147483647
    · rw [if_pos h1]
    · rw [if_neg h1, if_pos (by omega)]
theorem rsqf_ok {n : Int} (h0 : n ≠ 0) (hn : -2147483647 ≤ n ∧ n ≤ 2147483647) : ∃ s r, SqOf n s r ∧ r22_Squarefree n = some (s, r, 0, ()) := by
  obtain ⟨m, hm⟩ : ∃ m : Nat, n.natAbs = m := ⟨_, rfl⟩
  have hg : (if n < 0 then (-1 : Int) else 1) = 1 ∨ (if n < 0 then (-1 : Int) else 1) = -1 := by split <;> simp
  have hnm : n = (if n < 0 then (-1 : Int) else 1) * (m : Nat) := by split <;> omega
  obtain ⟨S, R, hS, hS1, hR1, hSR, hE⟩ := rsqf_loop hg (N := m) (by omega) _ 2 m 1 rfl (by omega) (by omega) (by omega) (by omega) (by simp) (fun c h1 h2 => by omega)
  refine ⟨_, _, ⟨S, R, _, hg, by rw [← hSR]; exact hnm, rfl, rfl, hS, hS1, hR1⟩, ?_⟩
  unfold r22_Squarefree
  simp only [cite, beq_iff_eq, decide_eq_true_eq]
  rw [if_neg h0, if_neg (by omega), if_neg (by omega)]
  simp only [r22_Squarefree.j1]
  rw [← hnm] at hE
  have hE' : iterL (fun x : Int × Int × Int × Unit => r22_Squarefree.s1 x.1 x.2.1 x.2.2.1) (n, (1 : Int), (2 : Int), ()) = _ := hE
  rw [hE', Option.bind_some]
  rfl
theorem both_sqf (n : Int) : ∃ s r e : Int, prime_Squarefree n = some (s, r, e, ()) ∧ r22_Squarefree n = some (s, r, e, ()) ∧ (e = 1 ∨ (e = 0 ∧ -2147483647 ≤ s ∧ s ≤ 2147483647)) := by
  by_cases h : n = 0 ∨ 2147483647 < n ∨ n < -2147483647
  · exact ⟨0, 0, 1, sqf_bad h, rsqf_bad h, .inl rfl⟩
  · obtain ⟨s, r, h1, h2⟩ := sqf_ok (n := n) (by omega) (by omega)
    obtain ⟨s', r', h1', h2'⟩ := rsqf_ok (n := n) (by omega) (by omega)
    obtain ⟨rfl, rfl⟩ := sqOf_unique h1 h1'
    refine ⟨s, r, 0, h2, h2', .inr ⟨rfl, ?_⟩⟩
    obtain ⟨S, R, g, hg, hn, rfl, rfl, hS, hS1, hR1⟩ := h1
    have : S * 1 ≤ S * (R * R) := Nat.mul_le_mul_left _ (Nat.mul_pos hR1 hR1)
    rcases hg with rfl | rfl <;> omega
theorem both_disc (n : Int) : ∃ d e : Int, prime_Discriminant n = some (d, e, ()) ∧ r22_Discriminant n = some (d, e, ()) := by
  obtain ⟨s, r, e, h1, h2, h3⟩ := both_sqf n
  have hr := residue_ok s 4 (by omega) (by omega)
  have hr' : r22_Mod s 4 = some (s % (4 : Nat)) := hr
  unfold prime_Discriminant r22_Discriminant
  rw [h1, h2, Option.bind_some, Option.bind_some]
  simp only [prime_Discriminant.j1, prime_Discriminant.j2, r22_Discriminant.j1, r22_Discriminant.j2]
  rw [show prime_residue s 4 = some (s % (4 : Nat)) from hr, hr', Option.bind_some]
  simp only [cite]
  split
  · exact ⟨_, _, rfl, rfl⟩
  · split <;> exact ⟨_, _, rfl, rfl⟩
end Go.Proofs.YtgbndganadelpaaGreatDoor.V
/- The symbol (a/p), Gauss' lemma, the law of reciprocity. -/
namespace Go.Proofs.YtgbndganadelpaaGreatDoor.Num
def lst (f : Nat → Nat) : Nat → List Nat
  | 0 => []
  | n + 1 => f (n + 1) :: lst f n
theorem lst_length (f : Nat → Nat) : ∀ n, (lst f n).length = n
  | 0 => rfl
  | n + 1 => by simp [lst, lst_length f n]
theorem mem_lst {f : Nat → Nat} {x : Nat} : ∀ {n : Nat}, x ∈ lst f n → ∃ k, 1 ≤ k ∧ k ≤ n ∧ x = f k
  | 0, h => by simp [lst] at h
  | n + 1, h => by
    rcases List.mem_cons.1 h with rfl | h
    · exact ⟨n + 1, by omega, by omega, rfl⟩
    · obtain ⟨k, h1, h2, h3⟩ := mem_lst h
      exact ⟨k, h1, by omega, h3⟩
theorem lst_nodup {f : Nat → Nat} : ∀ {n : Nat}, (∀ i j, 1 ≤ i → i ≤ n → 1 ≤ j → j ≤ n → f i = f j → i = j) → (lst f n).Nodup
  | 0, _ => by simp [lst]
  | n + 1, h => by
    refine List.nodup_cons.2 ⟨fun hm => ?_, lst_nodup fun i j a b c d e => h i j a (by omega) c (by omega) e⟩
    obtain ⟨k, h1, h2, h3⟩ := mem_lst hm
    have := h (n + 1) k (by omega) (by omega) h1 (by omega) h3
    omega
theorem pigeon : ∀ (n : Nat) (l : List Nat), l.Nodup → (∀ x ∈ l, 1 ≤ x ∧ x ≤ n) → l.length ≤ n
  | 0, l, _, h => by
    cases l with
    | nil => simp
    | cons a l => have := h a (List.mem_cons_self ..); omega
  | n + 1, l, hn, h => by
    have h1 := pigeon n (l.erase (n + 1)) (hn.erase _) (fun x hx => by
      have hx' := (hn.mem_erase_iff).1 hx
      have := h x hx'.2
      have := hx'.1
      omega)
    rw [List.length_erase] at h1
    split at h1 <;> omega
theorem full : ∀ (n : Nat) (l : List Nat), l.Nodup → (∀ x ∈ l, 1 ≤ x ∧ x ≤ n) → l.length = n → l.Perm (lst (fun k => k) n)
  | 0, l, _, _, h => by
    have : l = [] := List.eq_nil_of_length_eq_zero h
    subst this
    exact List.Perm.refl _
  | n + 1, l, hn, h, hl => by
    have hm : n + 1 ∈ l := by
      apply Classical.byContradiction
      intro hno
      have := pigeon n l hn (fun x hx => by
        have := h x hx
        have : x ≠ n + 1 := by rintro rfl; exact hno hx
        omega)
      omega
    refine (List.perm_cons_erase hm).trans (List.Perm.cons _ ?_)
    refine full n _ (hn.erase _) (fun x hx => ?_) ?_
    · have hx' := (hn.mem_erase_iff).1 hx
      have := h x hx'.2
      have := hx'.1
      omega
    · rw [List.length_erase, if_pos hm]; omega
def sumL : List Nat → Nat
  | [] => 0
  | a :: l => a + sumL l
theorem sumL_perm {l l' : List Nat} (h : l.Perm l') : sumL l = sumL l' := by
  induction h with
  | nil => rfl
  | cons x _ ih => simp [sumL, ih]
  | swap x y l => simp only [sumL]; omega
  | trans _ _ a b => exact a.trans b
def sumN (f : Nat → Nat) : Nat → Nat
  | 0 => 0
  | n + 1 => f (n + 1) + sumN f n
theorem sumN_lst (f : Nat → Nat) : ∀ n, sumN f n = sumL (lst f n)
  | 0 => rfl
  | n + 1 => by simp [sumN, sumL, lst, sumN_lst f n]
/-- A map of 1 .. n into itself that takes no value twice. -/
structure Sends (f : Nat → Nat) (n : Nat) : Prop where
  into : ∀ i, 1 ≤ i → i ≤ n → 1 ≤ f i ∧ f i ≤ n
  inj : ∀ i j, 1 ≤ i → i ≤ n → 1 ≤ j → j ≤ n → f i = f j → i = j
theorem Sends.perm {f : Nat → Nat} {n : Nat} (h : Sends f n) : (lst f n).Perm (lst (fun k => k) n) :=
  full n _ (lst_nodup h.inj) (fun x hx => by
    obtain ⟨k, h1, h2, rfl⟩ := mem_lst hx
    exact h.into k h1 h2) (lst_length _ _)
theorem Sends.sum {f : Nat → Nat} {n : Nat} (h : Sends f n) : sumN f n = sumN (fun k => k) n := by
  rw [sumN_lst, sumN_lst, sumL_perm h.perm]
def hi (p h a k : Nat) : Nat := if (a * k) % p ≤ h then 0 else 1
def sg (p h a k : Nat) : Int := if (a * k) % p ≤ h then 1 else -1
section
variable {p h a : Nat} (hp : Pr p) (hh : p = 2 * h + 1) (ha : ¬ p ∣ a)
include hp hh ha
end
def sy (a : Int) (p : Nat) : Int :=
  if p = 2 then (if a % 8 = 1 ∨ a % 8 = 7 then 1 else if a % 8 = 3 ∨ a % 8 = 5 then -1 else 0)
  else if a % p = 0 then 0 else if ((a % p).toNat ^ ((p - 1) / 2)) % p = 1 then 1 else -1
theorem sy_range (a : Int) (p : Nat) : sy a p = 1 ∨ sy a p = 0 ∨ sy a p = -1 := by
  unfold sy
  repeat' split
  all_goals simp
end Go.Proofs.YtgbndganadelpaaGreatDoor.Num
/- Laws: the symbol modulo any prime number, of the program and of the reference. -/
namespace Go.Proofs.YtgbndganadelpaaGreatDoor.V
open Go Go.Proofs.YtgbndganadelpaaGreatDoor.E Go.Proofs.YtgbndganadelpaaGreatDoor.LI Go.Proofs.YtgbndganadelpaaGreatDoor.Num
set_option linter.unusedVariables false
set_option linter.unusedSimpArgs false
theorem emod_res {a : Int} {p : Nat} (hp : 2 ≤ p) : ∃ r : Nat, a % (p : Int) = r ∧ r < p := by
  have h0 := Int.emod_nonneg a (show (p : Int) ≠ 0 by omega)
  have h1 := Int.emod_lt_of_pos a (show (0 : Int) < p by omega)
  exact ⟨(a % (p : Int)).toNat, by omega, by omega⟩
theorem symbol_ok {p : Nat} (hp : Pr p) (hpM : p ≤ 2147483647) (a : Int) : prime_symbol a (p : Int) = some (sy a p) := by
  have hp2 := hp.1
  obtain ⟨r, hr, hrp⟩ := emod_res (a := a) hp2
  by_cases h2 : p = 2
  · subst h2
    unfold prime_symbol sy
    simp only [cite, beq_iff_eq]
    have h8 := residue_ok a 8 (by omega) (by omega)
    have h8' : prime_residue a 8 = some (a % 8) := h8
    rw [if_pos (by rfl), h8', Option.bind_some, if_pos trivial]
    simp only [prime_symbol.j1, prime_symbol.j2, prime_symbol.j3, prime_symbol.j4, cite, beq_iff_eq]
    have h9 : a % 8 = 0 ∨ a % 8 = 1 ∨ a % 8 = 2 ∨ a % 8 = 3 ∨ a % 8 = 4 ∨ a % 8 = 5 ∨ a % 8 = 6 ∨ a % 8 = 7 := by omega
    rcases h9 with h | h | h | h | h | h | h | h <;> simp [h]
  · unfold sy
    rw [if_neg h2]
    by_cases hz : a % (p : Int) = 0
    · unfold prime_symbol
      simp only [prime_symbol.j5, cite, beq_iff_eq]
      rw [if_neg (by omega), residue_ok a p (by omega) hpM, Option.bind_some, if_pos hz, if_pos hz]
    · rw [if_neg hz]
      have h := symbol_unit hp h2 hpM (r := r) (by omega) hrp
      unfold prime_symbol at h ⊢
      simp only [prime_symbol.j5, cite, beq_iff_eq] at h ⊢
      rw [if_neg (by omega)] at h ⊢
      rw [residue_ok (r : Int) p (by omega) hpM, Option.bind_some, Int.emod_eq_of_lt (by omega) (by omega)] at h
      rw [residue_ok a p (by omega) hpM, Option.bind_some, hr, h, Int.toNat_natCast]
      rfl
end Go.Proofs.YtgbndganadelpaaGreatDoor.V
/- Laws: the Kronecker symbol of the program. -/
namespace Go.Proofs.YtgbndganadelpaaGreatDoor.V
open Go Go.Proofs.YtgbndganadelpaaGreatDoor.E Go.Proofs.YtgbndganadelpaaGreatDoor.LI Go.Proofs.YtgbndganadelpaaGreatDoor.Num
set_option linter.unusedVariables false
set_option linter.unusedSimpArgs false
theorem pm_mul {a b : Int} (ha : a = 1 ∨ a = -1) (hb : b = 1 ∨ b = -1) : a * b = 1 ∨ a * b = -1 := by
  rcases ha with rfl | rfl <;> rcases hb with rfl | rfl <;> simp
theorem pm_pow {a : Int} (ha : a = 1 ∨ a = -1) : ∀ e : Nat, a ^ e = if e % 2 = 1 then a else 1
  | 0 => by simp
  | e + 1 => by
    rw [Int.pow_succ, pm_pow ha e]
    rcases ha with rfl | rfl <;> split <;> split <;> first | omega | rfl
theorem kron_loop {a : Int} : ∀ (L2 L1 : List (Nat × Nat)) (s : Int), (∀ x ∈ L2, Pr x.1 ∧ 1 ≤ x.2 ∧ x.1 ≤ 2147483647 ∧ x.2 ≤ 100) → (L1 ++ L2).length ≤ 100 → (s = 1 ∨ s = -1) →
    ∃ z, iterL (fun x : Int × Int × (List PW) × Int × Int × Unit => prime_Kronecker.s0 x.1 x.2.1 x.2.2.1 x.2.2.2.1 x.2.2.2.2.1) (a, s, encP (L1 ++ L2), (((encP (L1 ++ L2)).length : Nat) : Int), ((L1.length : Nat) : Int), ()) = some z ∧
      (z = .inl (s * val (sy a) L2, ()) ∨ (z = .inr (0, 0, ()) ∧ s * val (sy a) L2 = 0))
  | [], L1, s, _, hl, _ => by
    refine ⟨_, iterL_done ?_, .inl rfl⟩
    simp only [prime_Kronecker.s0, cite, decide_eq_true_eq]
    rw [encP_length, if_neg (by simp)]
    simp [val]
  | (p, e) :: L2, L1, s, hx, hl, hs => by
    obtain ⟨hp, he, hpM, heM⟩ := hx (p, e) (List.mem_cons_self ..)
    simp only at hp he hpM heM
    have hsym := symbol_ok hp hpM a
    have hlen : (L1.length : Int) < ((encP (L1 ++ (p, e) :: L2)).length : Nat) := by
      rw [encP_length, List.length_append, List.length_cons]; omega
    have hl1 : L1.length ≤ 100 := by rw [List.length_append] at hl; omega
    have hmod : Int.tmod (e : Int) 2 = ((e % 2 : Nat) : Int) := tmod_nat e 2
    have hstep : prime_Kronecker.s0 a s (encP (L1 ++ (p, e) :: L2)) (((encP (L1 ++ (p, e) :: L2)).length : Nat) : Int) ((L1.length : Nat) : Int) =
        if sy a p = 0 then some (.inr (.inr (0, 0, ()))) else if e % 2 = 1 then some (.inl (a, IntKind.wrap .i64 (s * sy a p), encP (L1 ++ (p, e) :: L2), (((encP (L1 ++ (p, e) :: L2)).length : Nat) : Int), ((L1.length + 1 : Nat) : Int), ())) else some (.inl (a, s, encP (L1 ++ (p, e) :: L2), (((encP (L1 ++ (p, e) :: L2)).length : Nat) : Int), ((L1.length + 1 : Nat) : Int), ())) := by
      simp only [prime_Kronecker.s0, prime_Kronecker.j6, prime_Kronecker.j7, prime_Kronecker.j8, cite, decide_eq_true_eq, beq_iff_eq, inB_t]
      rw [if_pos hlen, if_pos (by omega), Int.toNat_natCast, rdP_at]
      simp only []
      rw [hsym, Option.bind_some, hmod, up (by omega)]
      by_cases hs0 : sy a p = 0
      · rw [if_pos hs0, if_pos hs0]
      · rw [if_neg hs0, if_neg hs0]
        by_cases h1 : e % 2 = 1
        · rw [if_pos h1, if_pos (by omega)]
        · rw [if_neg h1, if_neg (by omega)]
    have hsplit : L1 ++ (p, e) :: L2 = (L1 ++ [(p, e)]) ++ L2 := by simp
    have hl' : ((L1 ++ [(p, e)]) ++ L2).length ≤ 100 := by rw [← hsplit]; exact hl
    have hL1 : (L1 ++ [(p, e)]).length = L1.length + 1 := by simp
    rcases sy_range a p with hv | hv | hv
    all_goals rw [hv] at hstep
    · have hval : val (sy a) ((p, e) :: L2) = val (sy a) L2 := by
        simp only [val]; rw [hv, Int.one_pow, Int.one_mul]
      have ih := kron_loop (a := a) L2 (L1 ++ [(p, e)]) s (fun x h => hx x (List.mem_cons_of_mem _ h)) hl' hs
      rw [hL1, ← hsplit] at ih
      rw [hval]
      obtain ⟨z, q1, q2⟩ := ih
      refine ⟨z, (iterL_next ?_).trans q1, q2⟩
      simp only []
      rw [hstep, if_neg (by omega), Int.mul_one, wi64 (by omega) (by omega), ite_self]
    · have hval : val (sy a) ((p, e) :: L2) = 0 := by
        simp only [val]; rw [hv, Int.zero_pow (by omega), Int.zero_mul]
      rw [hval, Int.mul_zero]
      exact ⟨_, iterL_done (by simp only []; rw [hstep, if_pos rfl]), .inr ⟨rfl, rfl⟩⟩
    · by_cases ho : e % 2 = 1
      · have hval : s * val (sy a) ((p, e) :: L2) = (s * -1) * val (sy a) L2 := by
          simp only [val]; rw [hv, pm_pow (.inr rfl), if_pos ho, Int.mul_assoc]
        have ih := kron_loop (a := a) L2 (L1 ++ [(p, e)]) (s * -1) (fun x h => hx x (List.mem_cons_of_mem _ h)) hl' (pm_mul hs (.inr rfl))
        rw [hL1, ← hsplit] at ih
        rw [hval]
        obtain ⟨z, q1, q2⟩ := ih
        refine ⟨z, (iterL_next ?_).trans q1, q2⟩
        simp only []
        rw [hstep, if_neg (by omega), if_pos ho, wi64 (by omega) (by omega)]
      · have hval : s * val (sy a) ((p, e) :: L2) = s * val (sy a) L2 := by
          simp only [val]; rw [hv, pm_pow (.inr rfl), if_neg ho, Int.one_mul]
        have ih := kron_loop (a := a) L2 (L1 ++ [(p, e)]) s (fun x h => hx x (List.mem_cons_of_mem _ h)) hl' hs
        rw [hL1, ← hsplit] at ih
        rw [hval]
        obtain ⟨z, q1, q2⟩ := ih
        refine ⟨z, (iterL_next ?_).trans q1, q2⟩
        simp only []
        rw [hstep, if_neg (by omega), if_neg ho]
end Go.Proofs.YtgbndganadelpaaGreatDoor.V
/- Laws: the Kronecker symbol of the program, whole. -/
namespace Go.Proofs.YtgbndganadelpaaGreatDoor.V
open Go Go.Proofs.YtgbndganadelpaaGreatDoor.E Go.Proofs.YtgbndganadelpaaGreatDoor.LI Go.Proofs.YtgbndganadelpaaGreatDoor.Num
set_option linter.unusedVariables false
set_option linter.unusedSimpArgs false
/-- The symbol (a/n) -/
def kr (a n : Int) (v : Int) : Prop :=
  (n = 0 ∧ v = if a = 1 ∨ a = -1 then 1 else 0) ∨ (n ≠ 0 ∧ ∃ L, Fac 1 n.natAbs L ∧ v = (if n < 0 ∧ a < 0 then -1 else 1) * val (sy a) L)
theorem kr_unique {a n v v' : Int} (h : kr a n v) (h' : kr a n v') : v = v' := by
  rcases h with ⟨h0, rfl⟩ | ⟨h0, L, hL, rfl⟩
  · rcases h' with ⟨_, rfl⟩ | ⟨h1, _⟩
    · rfl
    · exact absurd h0 h1
  · rcases h' with ⟨h1, _⟩ | ⟨h1, L', hL', rfl⟩
    · exact absurd h1 h0
    · rw [hL.unique hL']
theorem kron_ok {a n : Int} (ha : -2147483647 ≤ a ∧ a ≤ 2147483647) (hn : -2147483647 ≤ n ∧ n ≤ 2147483647) : ∃ v, kr a n v ∧ prime_Kronecker a n = some (v, 0, ()) := by
  unfold prime_Kronecker
  rw [beyond_ok, Option.bind_some, decide_eq_false (by omega), cond_false, beyond_ok, Option.bind_some, decide_eq_false (by omega), cond_false]
  simp only [prime_Kronecker.j1, prime_Kronecker.j2, cite, beq_iff_eq]
  by_cases h0 : n = 0
  · rw [if_pos h0]
    refine ⟨_, .inl ⟨h0, rfl⟩, ?_⟩
    by_cases h1 : a = 1
    · rw [if_pos h1, if_pos (.inl h1)]
    · rw [if_neg h1]
      by_cases h2 : a = -1
      · rw [if_pos h2, if_pos (.inr h2)]
      · rw [if_neg h2, if_neg (by omega)]
  · rw [if_neg h0]
    obtain ⟨m, hm⟩ : ∃ m : Nat, n.natAbs = m := ⟨_, rfl⟩
    obtain ⟨L, hL, hF⟩ := factor_nat m (by omega) (by omega)
    obtain ⟨hb, hlen⟩ := fac_bounds hL (by omega)
    refine ⟨_, .inr ⟨h0, L, by rw [hm]; exact hL, rfl⟩, ?_⟩
    have run : ∀ s : Int, (s = 1 ∨ s = -1) → ((prime_Factor (m : Int)).bind fun y7 => (iterL (fun x : Int × Int × (List PW) × Int × Int × Unit => prime_Kronecker.s0 x.1 x.2.1 x.2.2.1 x.2.2.2.1 x.2.2.2.2.1) (a, s, y7.1, ((List.length y7.1 : Nat) : Int), (0 : Int), ())).bind fun z => Sum.casesOn (motive := fun _ => Option (Int × Int × Unit)) z (fun y => prime_Kronecker.k0_0 y.1) (fun z => prime_Kronecker.k0_1 z.1 z.2.1)) = some (s * val (sy a) L, 0, ()) := fun s hs => by
      obtain ⟨z, q1, q2⟩ := kron_loop (a := a) L [] s hb (by simpa using hlen) hs
      simp only [List.nil_append] at q1
      have q1' : iterL (fun x : Int × Int × (List PW) × Int × Int × Unit => prime_Kronecker.s0 x.1 x.2.1 x.2.2.1 x.2.2.2.1 x.2.2.2.2.1) (a, s, encP L, ((List.length (encP L) : Nat) : Int), (0 : Int), ()) = some z := q1
      rw [hF, Option.bind_some]
      simp only []
      rw [q1', Option.bind_some]
      rcases q2 with rfl | ⟨rfl, q3⟩
      · rfl
      · rw [q3]; rfl
    have hw : n < 0 → IntKind.wrap .i64 (0 - n) = (m : Int) := fun h => by rw [wi64 (by omega) (by omega)]; omega
    simp only [prime_Kronecker.j3, prime_Kronecker.j4, prime_Kronecker.j5, prime_Kronecker.j9, prime_Kronecker.j10, cite, decide_eq_true_eq]
    by_cases h1 : n < 0
    · rw [if_pos h1, hw h1]
      by_cases h2 : a < 0
      · rw [if_pos h2, if_pos ⟨h1, h2⟩]
        exact run (-1) (.inr rfl)
      · rw [if_neg h2, if_neg (by omega)]
        exact run 1 (.inl rfl)
    · rw [if_neg h1, if_neg (by omega), show n = (m : Int) by omega]
      exact run 1 (.inl rfl)
end Go.Proofs.YtgbndganadelpaaGreatDoor.V
