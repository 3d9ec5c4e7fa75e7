/- Laws: the reference's symbols and factor lists. -/
import Derived.Test.YtgbndganadelpaaGreatDoorYLocalmassStandard19
import Derived.Test.YtgbndganadelpaaGreatDoorYLocalmassStandard7
import Derived.LaidLaws
import Derived.LaidMore
import Derived.MakeChecks
import Derived.OpenShut
import Derived.ChangeSame
import Derived.KernelRfl
import Derived.Test.YtgbndganadelpaaGreatDoorYLocalmassStandard12
import Derived.Lib.SmallJoins
import Derived.Deep.Slices
import Derived.Carry
import Derived.WalkKit
import Derived.Below
namespace Go.Proofs.YtgbndganadelpaaGreatDoor.V
open Go Go.Proofs.YtgbndganadelpaaGreatDoor.E Go.Proofs.YtgbndganadelpaaGreatDoor.LI Go.Proofs.YtgbndganadelpaaGreatDoor.Num
set_option linter.unusedVariables false
set_option linter.unusedSimpArgs false
theorem ref_strip_same : r22_Factor.s0 = prime_Factor.s1 := rfl
theorem rfac_loop : ∀ (t d n : Nat) (acc : List PW), 46342 - d = t → 2 ≤ d → d ≤ 46341 → 1 ≤ n → n ≤ 2147483647 → (∀ q, 2 ≤ q → q ∣ n → d ≤ q) → acc.length + t ≤ 100000 →
    ∃ (n' : Int) (acc' : List PW) (L : List (Nat × Nat)), iterL (fun x : Int × Int × (List PW) × Unit => r22_Factor.s1 x.1 x.2.1 x.2.2.1) ((n : Int), (d : Int), acc, ()) = some (n', acc', ()) ∧ Fac 1 n L ∧ r22_Factor.k1 n' acc' = some (acc ++ encP L, 0, ())
  | 0, d, n, acc, ht, hd2, hd, h1, hn, hlo, hacc => by omega
  | t + 1, d, n, acc, ht, hd2, hd, h1, hn, hlo, hacc => by
    by_cases hle : d * d ≤ n
    · have hb := sq_le hle hn
      obtain ⟨f, m, hfm, hnd, hm1, hf⟩ := exists_strip hd2 n n (Nat.le_refl _) h1
      have hdm : m ∣ n := ⟨d ^ f, by rw [hfm, Nat.mul_comm]⟩
      have hmn := Nat.le_of_dvd (by omega) hdm
      have hlo' : ∀ q, 2 ≤ q → q ∣ m → d + 1 ≤ q := fun q h2 h3 => by
        have := hlo q h2 (Nat.dvd_trans h3 hdm)
        have : q ≠ d := by rintro rfl; exact hnd h3
        omega
      have hfb := pow_bound hd2 hm1 (by omega : d ^ f * m ≤ 2147483647)
      have hs := strip_loop hd2 (by omega) hm1 hnd acc f 0 (by omega) (by omega)
      rw [← hfm, show ((0 : Nat) : Int) = 0 from rfl, Nat.zero_add] at hs
      have hst : r22_Factor.s1 (n : Int) (d : Int) acc = some (.inl ((m : Int), ((d + 1 : Nat) : Int), (if f > 0 then acc ++ [((d : Int), (f : Int), ())] else acc), ())) := by
        simp only [r22_Factor.s1, r22_Factor.j2, cite, decide_eq_true_eq]
        rw [sq_wrap (by omega), if_pos (by omega), ref_strip_same, hs, Option.bind_some]
        simp only [r22_Factor.k0, r22_Factor.j4, cite, decide_eq_true_eq, maxL_eq]
        rw [up (by omega)]
        by_cases h0 : f > 0
        · rw [if_pos (by omega), if_pos (by simp; omega), if_pos h0]
        · rw [if_neg (by omega), if_neg h0]
      by_cases h0 : f > 0
      · rw [if_pos h0] at hst
        obtain ⟨n', acc', L, q1, q2, q3⟩ := rfac_loop t (d + 1) m (acc ++ [((d : Int), (f : Int), ())]) (by omega) (by omega) (by omega) hm1 (by omega) hlo' (by simp; omega)
        have hdn : d ∣ n := ⟨d ^ (f - 1) * m, by rw [hfm, ← Nat.mul_assoc, ← Nat.pow_succ', show (f - 1).succ = f by omega]⟩
        refine ⟨n', acc', (d, f) :: L, (iterL_next hst).trans q1, ⟨by omega, pr_of_least hd2 hdn hlo, h0, m, hfm, q2.raise fun q hq hqd => ?_⟩, by rw [q3]; simp [encP]⟩
        have := hlo' q hq.1 hqd
        omega
      · rw [if_neg h0] at hst
        have hf0 : f = 0 := by omega
        subst hf0
        rw [Nat.pow_zero, Nat.one_mul] at hfm
        subst hfm
        obtain ⟨n', acc', L, q1, q2, q3⟩ := rfac_loop t (d + 1) n acc (by omega) (by omega) (by omega) hm1 (by omega) hlo' (by omega)
        exact ⟨n', acc', L, (iterL_next hst).trans q1, q2, q3⟩
    · have hst : r22_Factor.s1 (n : Int) (d : Int) acc = some (.inr ((n : Int), acc, ())) := by
        simp only [r22_Factor.s1, cite, decide_eq_true_eq]
        rw [sq_wrap (by omega), if_neg (by omega)]
      by_cases h2 : n = 1
      · subst h2
        refine ⟨_, _, [], iterL_done hst, rfl, ?_⟩
        simp only [r22_Factor.k1, r22_Factor.j5, cite, decide_eq_true_eq]
        rw [if_neg (by omega)]
        simp [encP]
      · have hp : Pr n := pr_of_noDiv (by omega) (fun q a b _ => hlo q a b) (by omega)
        refine ⟨_, _, [(n, 1)], iterL_done hst, ⟨by omega, hp, Nat.le_refl _, 1, by simp, rfl⟩, ?_⟩
        simp only [r22_Factor.k1, r22_Factor.j5, cite, decide_eq_true_eq, maxL_eq]
        rw [if_pos (by omega), if_pos (by simp; omega)]
        simp [encP]
theorem rfactor_nat (n : Nat) (h1 : 1 ≤ n) (hn : n ≤ 2147483647) : ∃ L, Fac 1 n L ∧ r22_Factor (n : Int) = some (encP L, 0, ()) := by
  obtain ⟨n', acc', L, q1, q2, q3⟩ := rfac_loop _ 2 n [] rfl (by omega) (by omega) h1 hn (fun q h _ => h) (by simp)
  refine ⟨L, q2, ?_⟩
  unfold r22_Factor
  simp only [cite, decide_eq_true_eq]
  rw [if_neg (by omega), if_neg (by omega)]
  unfold r22_Factor.j1
  rw [show ((2 : Nat) : Int) = 2 from rfl] at q1
  rw [q1, Option.bind_some]
  simpa using q3
theorem two_ok (a : Int) : r22_two a = some (sy a 2) := by
  have h8 := residue_ok a 8 (by omega) (by omega)
  have h8' : r22_Mod a 8 = some (a % 8) := h8
  unfold r22_two sy
  rw [h8', Option.bind_some]
  simp only [r22_two.j1, r22_two.j2, r22_two.j3, r22_two.j4, cite, beq_iff_eq]
  have h9 : a % 8 = 0 ∨ a % 8 = 1 ∨ a % 8 = 2 ∨ a % 8 = 3 ∨ a % 8 = 4 ∨ a % 8 = 5 ∨ a % 8 = 6 ∨ a % 8 = 7 := by omega
  rcases h9 with h | h | h | h | h | h | h | h <;> simp [h]
end Go.Proofs.YtgbndganadelpaaGreatDoor.V
/- Laws: the reference's Kronecker symbol. -/
namespace Go.Proofs.YtgbndganadelpaaGreatDoor.V
open Go Go.Proofs.YtgbndganadelpaaGreatDoor.E Go.Proofs.YtgbndganadelpaaGreatDoor.LI Go.Proofs.YtgbndganadelpaaGreatDoor.Num
set_option linter.unusedVariables false
set_option linter.unusedSimpArgs false
theorem odd_of_pr {p : Nat} (hp : Pr p) (h2 : p ≠ 2) : 1 ≤ (p - 1) / 2 := by have := hp.1; omega
theorem legendre_ok {p : Nat} (hp : Pr p) (h2 : p ≠ 2) (hpM : p ≤ 2147483647) (a : Int) : r22_Legendre a (p : Int) = some (sy a p) := by
  have hp2 := hp.1
  obtain ⟨r, hr, hrp⟩ := emod_res (a := a) hp2
  have hres : r22_Legendre a (p : Int) = r22_Legendre (r : Int) (p : Int) := by
    unfold r22_Legendre r22_ModPow
    rw [ref_mod, ref_mod, residue_ok a p (by omega) hpM, residue_ok (r : Int) p (by omega) hpM, hr, Int.emod_eq_of_lt (by omega) (by omega)]
  rw [hres]
  unfold sy
  rw [if_neg h2]
  by_cases hz : r = 0
  · subst hz
    rw [if_pos (by omega)]
    unfold r22_Legendre r22_ModPow
    simp only [r22_Legendre.j1, r22_Legendre.j2, cite, beq_iff_eq, decide_eq_true_eq]
    rw [if_neg (by omega), ref_mod, residue_ok _ p (by omega) hpM, Option.bind_some, Int.emod_eq_of_lt (by omega) (by omega), halfp hp2 hpM]
    have key := modpow_loop hp2 hpM _ ((p - 1) / 2) 0 1 (Nat.lt_succ_self _) (by omega) (by omega) (by omega)
    rw [show ((1 : Nat) : Int) = 1 from rfl, Nat.one_mul, Nat.zero_pow (odd_of_pr hp h2), Nat.zero_mod] at key
    have h1 : Int.tmod 1 (p : Int) = 1 := by rw [show (1 : Int) = ((1 : Nat) : Int) from rfl, tmod_nat, Nat.mod_eq_of_lt (by omega)]
    rw [h1, key, Option.bind_some]
    simp only [r22_ModPow.k0, Option.bind_some]
    rw [if_pos (by rfl)]
  · rw [if_neg (by omega), legendre_unit hp h2 hpM (by omega) hrp, hr, Int.toNat_natCast]
    rfl
def sgn3 (s : Int) : Prop := s = 1 ∨ s = 0 ∨ s = -1
theorem sgn3_mul {a b : Int} (ha : sgn3 a) (hb : sgn3 b) : sgn3 (a * b) := by
  rcases ha with rfl | rfl | rfl <;> rcases hb with rfl | rfl | rfl <;> simp [sgn3]
theorem sgn3_wrap {s : Int} (h : sgn3 s) : IntKind.wrap .i64 s = s := wi64 (by rcases h with rfl | rfl | rfl <;> decide) (by rcases h with rfl | rfl | rfl <;> decide)
theorem sgn3_pow {a : Int} (h : sgn3 a) : ∀ e : Nat, sgn3 (a ^ e)
  | 0 => .inl (by simp)
  | e + 1 => by rw [Int.pow_succ]; exact sgn3_mul (sgn3_pow h e) h
theorem sym_inner {a : Int} {LS : List PW} {len i : Int} {p e : Nat} (hp : Pr p) (hpM : p ≤ 2147483647) (he : e ≤ 100) : ∀ (t j : Nat) (s : Int), e - j = t → j ≤ e → sgn3 s →
    iterL (fun x : Int × Int × Int × (List PW) × Int × Int × PW × Unit => r22_Symbol.s0 x.1 x.2.1 x.2.2.1 x.2.2.2.1 x.2.2.2.2.1 x.2.2.2.2.2.1 x.2.2.2.2.2.2.1) (a, s, (j : Int), LS, len, i, ((p : Int), (e : Int), ()), ()) = some (a, s * sy a p ^ t, LS, len, i, ())
  | 0, j, s, ht, hj, hs => by
    refine iterL_done ?_
    simp only [r22_Symbol.s0, cite, decide_eq_true_eq]
    rw [if_neg (by omega)]
    simp
  | t + 1, j, s, ht, hj, hs => by
    have h3 : sgn3 (s * sy a p) := sgn3_mul hs (sy_range a p)
    refine (iterL_next ?_).trans ((sym_inner hp hpM he t (j + 1) (s * sy a p) (by omega) (by omega) h3).trans (by rw [Int.pow_succ, Int.mul_assoc, Int.mul_comm (sy a p)]))
    simp only [r22_Symbol.s0, r22_Symbol.j6, r22_Symbol.j7, cite, decide_eq_true_eq, beq_iff_eq]
    rw [if_pos (by omega), up (by omega)]
    by_cases h2 : p = 2
    · subst h2
      rw [if_pos (by rfl), two_ok, Option.bind_some, sgn3_wrap h3]
    · rw [if_neg (by omega), legendre_ok hp h2 hpM, Option.bind_some, sgn3_wrap h3]
theorem sym_loop {a : Int} : ∀ (L2 L1 : List (Nat × Nat)) (s : Int), (∀ x ∈ L2, Pr x.1 ∧ 1 ≤ x.2 ∧ x.1 ≤ 2147483647 ∧ x.2 ≤ 100) → (L1 ++ L2).length ≤ 100 → sgn3 s →
    iterL (fun x : Int × Int × (List PW) × Int × Int × Unit => r22_Symbol.s1 x.1 x.2.1 x.2.2.1 x.2.2.2.1 x.2.2.2.2.1) (a, s, encP (L1 ++ L2), (((encP (L1 ++ L2)).length : Nat) : Int), ((L1.length : Nat) : Int), ()) = some (s * val (sy a) L2, ())
  | [], L1, s, _, hl, _ => by
    refine iterL_done ?_
    simp only [r22_Symbol.s1, cite, decide_eq_true_eq]
    rw [encP_length, if_neg (by simp)]
    simp [val]
  | (p, e) :: L2, L1, s, hx, hl, hs => by
    obtain ⟨hp, he, hpM, heM⟩ := hx (p, e) (List.mem_cons_self ..)
    simp only at hp he hpM heM
    have hlen : (L1.length : Int) < ((encP (L1 ++ (p, e) :: L2)).length : Nat) := by
      rw [encP_length, List.length_append, List.length_cons]; omega
    have hl1 : L1.length ≤ 100 := by rw [List.length_append] at hl; omega
    have hsplit : L1 ++ (p, e) :: L2 = (L1 ++ [(p, e)]) ++ L2 := by simp
    have hl' : ((L1 ++ [(p, e)]) ++ L2).length ≤ 100 := by rw [← hsplit]; exact hl
    have hL1 : (L1 ++ [(p, e)]).length = L1.length + 1 := by simp
    have ih := sym_loop (a := a) L2 (L1 ++ [(p, e)]) (s * sy a p ^ e) (fun x h => hx x (List.mem_cons_of_mem _ h)) hl' (sgn3_mul hs (sgn3_pow (sy_range a p) e))
    rw [hL1, ← hsplit] at ih
    refine (iterL_next ?_).trans (ih.trans (by simp only [val]; rw [Int.mul_assoc]))
    simp only [r22_Symbol.s1, r22_Symbol.j5, cite, decide_eq_true_eq, inB_t]
    rw [if_pos hlen, if_pos (by omega), Int.toNat_natCast, rdP_at]
    have hin := sym_inner (a := a) (LS := encP (L1 ++ (p, e) :: L2)) (len := (((encP (L1 ++ (p, e) :: L2)).length : Nat) : Int)) (i := ((L1.length : Nat) : Int)) hp hpM heM e 0 s (by omega) (by omega) hs
    rw [show ((0 : Nat) : Int) = 0 from rfl] at hin
    simp only []
    rw [hin, Option.bind_some]
    simp only [r22_Symbol.k0]
    rw [up (by omega)]
end Go.Proofs.YtgbndganadelpaaGreatDoor.V
/- Laws: the reference's symbol, whole. -/
namespace Go.Proofs.YtgbndganadelpaaGreatDoor.V
open Go Go.Proofs.YtgbndganadelpaaGreatDoor.E Go.Proofs.YtgbndganadelpaaGreatDoor.LI Go.Proofs.YtgbndganadelpaaGreatDoor.Num
set_option linter.unusedVariables false
set_option linter.unusedSimpArgs false
theorem sym_ok {a n : Int} (hn : -2147483647 ≤ n ∧ n ≤ 2147483647) : ∃ v, kr a n v ∧ r22_Symbol a n = some v := by
  unfold r22_Symbol
  simp only [r22_Symbol.j1, cite, beq_iff_eq]
  by_cases h0 : n = 0
  · rw [if_pos h0]
    refine ⟨_, .inl ⟨h0, rfl⟩, ?_⟩
    by_cases h1 : a = 1
    · rw [if_pos h1, if_pos (.inl h1)]
    · rw [if_neg h1]
      by_cases h2 : a = -1
      · rw [if_pos h2, if_pos (.inr h2)]
      · rw [if_neg h2, if_neg (by omega)]
  · rw [if_neg h0]
    obtain ⟨m, hm⟩ : ∃ m : Nat, n.natAbs = m := ⟨_, rfl⟩
    obtain ⟨L, hL, hF⟩ := rfactor_nat m (by omega) (by omega)
    obtain ⟨hb, hlen⟩ := fac_bounds hL (by omega)
    refine ⟨_, .inr ⟨h0, L, by rw [hm]; exact hL, rfl⟩, ?_⟩
    have run : ∀ s : Int, sgn3 s → ((r22_Factor (m : Int)).bind fun y7 => (iterL (fun x : Int × Int × (List PW) × Int × Int × Unit => r22_Symbol.s1 x.1 x.2.1 x.2.2.1 x.2.2.2.1 x.2.2.2.2.1) (a, s, y7.1, ((List.length y7.1 : Nat) : Int), (0 : Int), ())).bind fun y => r22_Symbol.k1 y.1) = some (s * val (sy a) L) := fun s hs => by
      have q1 := sym_loop (a := a) L [] s hb (by simpa using hlen) hs
      simp only [List.nil_append] at q1
      have q1' : iterL (fun x : Int × Int × (List PW) × Int × Int × Unit => r22_Symbol.s1 x.1 x.2.1 x.2.2.1 x.2.2.2.1 x.2.2.2.2.1) (a, s, encP L, ((List.length (encP L) : Nat) : Int), (0 : Int), ()) = _ := q1
      rw [hF, Option.bind_some]
      simp only []
      rw [q1', Option.bind_some]
      rfl
    have hw : n < 0 → IntKind.wrap .i64 (0 - n) = (m : Int) := fun h => by rw [wi64 (by omega) (by omega)]; omega
    simp only [r22_Symbol.j2, r22_Symbol.j3, r22_Symbol.j4, r22_Symbol.j8, r22_Symbol.j9, cite, decide_eq_true_eq]
    by_cases h1 : n < 0
    · rw [if_pos h1, hw h1]
      by_cases h2 : a < 0
      · rw [if_pos h2, if_pos ⟨h1, h2⟩]
        exact run (-1) (.inr (.inr rfl))
      · rw [if_neg h2, if_neg (by omega)]
        exact run 1 (.inl rfl)
    · rw [if_neg h1, if_neg (by omega), show n = (m : Int) by omega]
      exact run 1 (.inl rfl)
end Go.Proofs.YtgbndganadelpaaGreatDoor.V
/- LocalmassStandard: the law. -/
namespace Go.Proofs.YtgbndganadelpaaGreatDoor.V
open Go Go.Proofs.YtgbndganadelpaaGreatDoor.E Go.Proofs.YtgbndganadelpaaGreatDoor.LI Go.Proofs.YtgbndganadelpaaGreatDoor.Num
set_option linter.unusedVariables false
set_option linter.unusedSimpArgs false
theorem val_sgn (a : Int) : ∀ L, sgn3 (val (sy a) L)
  | [] => .inl rfl
  | x :: L => sgn3_mul (sgn3_pow (sy_range a x.1) x.2) (val_sgn a L)
theorem kr_range {a n v : Int} (h : kr a n v) : -1 ≤ v ∧ v ≤ 1 := by
  rcases h with ⟨_, rfl⟩ | ⟨_, L, _, rfl⟩
  · split <;> decide
  · have hv : sgn3 (val (sy a) L) := val_sgn a L
    rcases hv with h | h | h <;> rw [h] <;> split <;> decide
theorem disc_bd {n : Int} (h0 : n ≠ 0) (h1 : -10000 ≤ n ∧ n ≤ 10000) : ∃ d, prime_Discriminant n = some (d, 0, ()) ∧ r22_Discriminant n = some (d, 0, ()) ∧ -40000 ≤ d ∧ d ≤ 40000 := by
  obtain ⟨s, r, h2, h3⟩ := sqf_ok h0 (by omega)
  obtain ⟨S, R, g, hg, e1, rfl, rfl, _, hS, hR⟩ := h2
  have hle : S ≤ n.natAbs := by
    rw [e1, Int.natAbs_mul, Int.natAbs_natCast]
    have : S ≤ S * (R * R) := Nat.le_mul_of_pos_right _ (Nat.mul_pos hR hR)
    rcases hg with rfl | rfl <;> simpa using this
  have hs : -10000 ≤ g * (S : Int) ∧ g * (S : Int) ≤ 10000 := by rcases hg with rfl | rfl <;> omega
  have hr : prime_residue (g * (S : Int)) 4 = some (g * (S : Int) % (4 : Nat)) := residue_ok (g * (S : Int)) 4 (by omega) (by omega)
  obtain ⟨d, e, h4, h5⟩ := both_disc n
  have h6 := h4
  unfold prime_Discriminant at h6
  rw [h3, Option.bind_some] at h6
  simp only [prime_Discriminant.j1, prime_Discriminant.j2, hr, Option.bind_some, cite, bne_self_eq_false, Bool.false_eq_true, if_false] at h6
  have h7 : e = 0 ∧ -40000 ≤ d ∧ d ≤ 40000 := by
    split at h6
    · cases h6
      exact ⟨rfl, by omega, by omega⟩
    · rw [wi64 (x := 4 * (g * (S : Int))) (by omega) (by omega)] at h6
      cases h6
      exact ⟨rfl, by omega, by omega⟩
  obtain ⟨rfl, h8⟩ := h7
  exact ⟨d, h4, h5, h8⟩
theorem std_same (n d p : Int) : ∃ (q : QV) (e : Int), localmass_Standard n d p = some (q, e, ()) ∧ r32_Standard n d p = some (q, e, ()) ∧ r02_Same q q = some true := by
  obtain ⟨b, k1, k2, k3⟩ := known_any p
  unfold localmass_Standard r32_Standard
  simp only [cite, decide_eq_true_eq]
  by_cases c1 : n < 2
  · rw [if_pos c1, if_pos c1]; exact ⟨zQ, 1, rfl, rfl, zsame⟩
  · rw [if_neg c1, if_neg c1]
    by_cases c2 : n > 8
    · rw [if_pos c2, if_pos c2]; exact ⟨zQ, 1, rfl, rfl, zsame⟩
    · rw [if_neg c2, if_neg c2]
      by_cases c3 : d < 1
      · rw [if_pos c3, if_pos c3]; exact ⟨zQ, 1, rfl, rfl, zsame⟩
      · rw [if_neg c3, if_neg c3]
        by_cases c4 : d > 10000
        · rw [if_pos c4, if_pos c4]; exact ⟨zQ, 1, rfl, rfl, zsame⟩
        · rw [if_neg c4, if_neg c4]
          simp only [localmass_Standard.j1, r32_Standard.j1, r32_Standard.j2]
          rw [k1, k2, Option.bind_some, Option.bind_some]
          cases b with
          | false => exact ⟨zQ, 20, rfl, rfl, zsame⟩
          | true =>
            obtain ⟨hp2, hp9⟩ := k3 rfl
            obtain ⟨P, rfl⟩ : ∃ P : Nat, p = P := ⟨p.toNat, by omega⟩
            obtain ⟨N, rfl⟩ : ∃ N : Nat, n = N := ⟨n.toNat, by omega⟩
            have e2 : Int.tmod (N : Int) 2 = ((N % 2 : Nat) : Int) := (Int.ofNat_tmod N 2).symm
            have e3 : IntKind.wrap .i64 (Int.tdiv (IntKind.wrap .i64 ((N : Int) + 1)) 2) = (((N + 1) / 2 : Nat) : Int) := by
              rw [up (by omega), show Int.tdiv ((N + 1 : Nat) : Int) 2 = (((N + 1) / 2 : Nat) : Int) from (Int.ofNat_tdiv _ 2).symm, wi64 (by omega) (by omega)]
            have e4 : IntKind.wrap .i64 (Int.tdiv (N : Int) 2) = ((N / 2 : Nat) : Int) := by
              rw [show Int.tdiv (N : Int) 2 = ((N / 2 : Nat) : Int) from (Int.ofNat_tdiv _ 2).symm, wi64 (by omega) (by omega)]
            have e5 : Int.tmod (((N + 1) / 2 : Nat) : Int) 2 = (((N + 1) / 2 % 2 : Nat) : Int) := (Int.ofNat_tmod _ 2).symm
            have e6 : Int.tmod ((N / 2 : Nat) : Int) 2 = ((N / 2 % 2 : Nat) : Int) := (Int.ofNat_tmod _ 2).symm
            simp only [localmass_Standard.j2, localmass_Standard.j4, localmass_Standard.j5, r32_standard, Bool.not_true, Bool.false_eq_true, if_false, cite, beq_iff_eq, e2, e3, e5, etaI, etaQ, etaP]
            by_cases ho : N % 2 = 1
            · have hb := hf_bd (p := P) (s := (N + 1) / 2) (c := 0) (by omega) (by omega) (by decide)
              rw [if_neg (by omega), if_pos (by omega), half_ok (by omega) (by omega) (by omega) (by omega) (by decide), Option.bind_some, group_ok (by omega) (by omega) (by omega) (by omega), Option.bind_some, hf_zero]
              exact ⟨_, 0, rfl, rfl, by rw [rsameQ hb (by decide), decide_eq_true rfl]⟩
            · rw [if_pos (show ((N % 2 : Nat) : Int) = 0 by omega), if_neg (show ¬ ((N % 2 : Nat) : Int) = 1 by omega)]
              have key : ∀ t : Int, t ≠ 0 → -10000 ≤ t → t ≤ 10000 → ∃ (q : QV), localmass_Standard.j3 t (P : Int) (((N + 1) / 2 : Nat) : Int) [] [] = some (q, 0, ()) ∧ r02_Same q q = some true ∧
                  ((r32_group (P : Int) (((N + 1) / 2 : Nat) : Int)).bind fun y3 => (r32_field.j1 t).bind fun y4 => (r22_Symbol y4 (P : Int)).bind fun y5 => (r32_signed y3 (P : Int) y5 (((N + 1) / 2 : Nat) : Int)).bind fun y6 => some y6) = some q := by
                intro t h0 h1 h2
                obtain ⟨f, d1, d2, d3, d4⟩ := disc_bd h0 ⟨h1, h2⟩
                obtain ⟨v, v1, v2⟩ := kron_ok (a := f) (n := (P : Int)) (by omega) (by omega)
                obtain ⟨v', v3, v4⟩ := sym_ok (a := f) (n := (P : Int)) (by omega)
                obtain rfl := kr_unique v1 v3
                have hv := kr_range v1
                have hb := hf_bd (p := P) (s := (N + 1) / 2) (c := v) (by omega) (by omega) hv
                refine ⟨mkQ (hf P ((N + 1) / 2) v), ?_, by rw [rsameQ hb (by decide), decide_eq_true rfl], ?_⟩
                · simp only [localmass_Standard.j3, localmass_Standard.j4, etaI, etaQ, etaP]
                  rw [d1, Option.bind_some]
                  simp only []
                  rw [v2, Option.bind_some, half_ok (by omega) (by omega) (by omega) (by omega) hv, Option.bind_some]
                · rw [group_ok (by omega) (by omega) (by omega) (by omega), Option.bind_some]
                  unfold r32_field.j1
                  rw [d2, Option.bind_some, Option.bind_some, v4, Option.bind_some, signed_okR (gr_bd (by omega) (by omega)) (by omega) (by omega) (by omega) hv (by omega) (by omega), Option.bind_some, hf_signed]
              simp only [r32_standard.j1, r32_field, cite, beq_iff_eq, e4, e6, etaI, etaQ, etaP]
              have hw : IntKind.wrap .i64 (0 - d) = -d := by rw [wi64 (by omega) (by omega)]; omega
              rw [hw]
              by_cases hs : (N + 1) / 2 % 2 = 1
              · obtain ⟨q, g1, g2, g3⟩ := key (-d) (by omega) (by omega) (by omega)
                rw [if_pos (show (((N + 1) / 2 % 2 : Nat) : Int) = 1 by omega), g1, if_pos (show ((N / 2 % 2 : Nat) : Int) = 1 by omega), g3, Option.bind_some]
                exact ⟨q, 0, rfl, rfl, g2⟩
              · obtain ⟨q, g1, g2, g3⟩ := key d (by omega) (by omega) (by omega)
                rw [if_neg (show ¬ (((N + 1) / 2 % 2 : Nat) : Int) = 1 by omega), g1, if_neg (show ¬ ((N / 2 % 2 : Nat) : Int) = 1 by omega), g3, Option.bind_some]
                exact ⟨q, 0, rfl, rfl, g2⟩
theorem std_law (n d p : Int) : quadformlaw32_LocalmassStandard.j2 n d p = some true := by
  obtain ⟨q, e, h1, h2, h3⟩ := std_same n d p
  simp only [quadformlaw32_LocalmassStandard.j2, etaI, etaQ, etaP]
  rw [h1, h2, Option.bind_some, Option.bind_some]
  simp only [cite, beq_self_eq_true, if_true]
  rw [h3, Option.bind_some, if_pos rfl, awake_ok, Option.bind_some]
theorem LocalmassStandard (n d k r : Int) (w m : Bool) (hk : 0 ≤ k ∧ k < 256) : quadformlaw32_LocalmassStandard n d k r w m = some true := by
  obtain ⟨p, hp⟩ := scene_some k hk
  unfold quadformlaw32_LocalmassStandard
  rw [hp, Option.bind_some]
  simp only [quadformlaw32_LocalmassStandard.j1, std_law]
  cases w <;> cases m <;> rfl
end Go.Proofs.YtgbndganadelpaaGreatDoor.V
/- The package variable 'localmass.free': what the row's condition says of its cells. -/
namespace Go.Proofs.YtgbndganadelpaaGreatDoor.V
open Go Go.Proofs.YtgbndganadelpaaGreatDoor.E Go.ChangeShapes Go.WideShapes
set_option linter.unusedVariables false
set_option maxRecDepth 100000
def freeL : List (Int × Int × Unit) := [(2, 1, ()), (1, 1, ()), (1, 0, ()), (1, -1, ()), (2, -1, ()), (1, -1, ()), (1, 0, ()), (1, 1, ())]
def freeDs : List (DataW Unit) := freeL.map fun z => .agg [.lit (.int .i64 z.1), .lit (.int .i64 z.2.1)]
def freeLaid : List (String × DataW Unit) := [("quadform/localmass.free", .agg freeDs)]
theorem cell_size {W : World} {b o : Nat} {v : Value} (h : W.cell? ⟨b, o, none⟩ = some v) : b < W.heap.size := by
  unfold World.cell? at h
  split at h
  · rename_i c e z hb
    exact (Array.getElem?_eq_some_iff.1 hb).1
  · cases h
theorem free_cells {W : World} (h : laidMetH prog freeLaid W) : GlOk W (fun _ => False) := by
  rw [MakeChecks.laidMetH_plain _ _ _ (by kernel_rfl)] at h
  obtain ⟨ps, ⟨g0, t0, cs0, f0, p0, q0, hg0, ht0, hv0, hd0, _⟩, _⟩ := h
  obtain rfl : g0 = 0 := Option.some.inj (hg0.symm.trans (show prog.globalNamed "quadform/localmass.free" = some 0 by kernel_rfl))
  obtain rfl : t0 = 149 := Option.some.inj (ht0.symm.trans (show (prog.globals[0]?).map (·.type) = some 149 by kernel_rfl))
  have uA : prog.underlying 149 = some (.array 8 148) := by kernel_rfl
  have uE : (match prog.underlying 148 with
    | some (.struct fs) => fs.toList.map fun f => (f.offset, f.type)
    | _ => []) = [(0, 3), (1, 3)] := by kernel_rfl
  have uI : prog.underlying 3 = some (.int .i64) := by kernel_rfl
  have cI : prog.cellsOf 3 = 1 := by kernel_rfl
  have cE : prog.cellsOf 148 = 2 := by kernel_rfl
  obtain ⟨fs, uS, hfs⟩ : ∃ fs : Array Field, prog.underlying 148 = some (.struct fs) ∧ fs.toList.map (fun f => (f.offset, f.type)) = [(0, 3), (1, 3)] := by
    split at uE
    · rename_i fs hfs
      exact ⟨fs, hfs, uE⟩
    · cases uE
  obtain ⟨f1, f2, rfl, o1, t1, o2, t2⟩ : ∃ f1 f2 : Field, fs = #[f1, f2] ∧ f1.offset = 0 ∧ f1.type = 3 ∧ f2.offset = 1 ∧ f2.type = 3 := by
    obtain ⟨l⟩ := fs
    match l, hfs with
    | [a, b], hfs =>
      simp only [List.map_cons, List.map_nil, List.cons.injEq, Prod.mk.injEq] at hfs
      exact ⟨a, b, rfl, hfs.1.1, hfs.1.2, hfs.2.1.1, hfs.2.1.2⟩
  obtain ⟨xs, m1, rfl, hx1, hlen, hn8, hel⟩ := DataW.trod_array uA hd0
  have hxs : xs.map (·.1) = freeDs := by
    have := congrArg Prod.fst hx1
    simpa [freeLaid] using this.symm
  have key : ∀ (i : Nat) (z : Int × Int × Unit), freeL[i]? = some z → W.cell? ⟨0, i * 2, none⟩ = some (.int .i64 z.1) ∧ W.cell? ⟨0, i * 2 + 1, none⟩ = some (.int .i64 z.2.1) := by
    intro i z hz
    have hi : i < 8 := by
      have := (List.getElem?_eq_some_iff.1 hz).1
      exact this
    obtain ⟨p, hp⟩ : ∃ p, xs[i]? = some (.agg [.lit (.int .i64 z.1), .lit (.int .i64 z.2.1)], p) := by
      have h1 : (xs.map (·.1))[i]? = some (.agg [.lit (.int .i64 z.1), .lit (.int .i64 z.2.1)]) := by
        rw [hxs]
        unfold freeDs
        rw [List.getElem?_map, hz]
        rfl
      rw [List.getElem?_map, Option.map_eq_some_iff] at h1
      obtain ⟨y, hy, hy2⟩ := h1
      exact ⟨y.2, by rw [hy, ← hy2]⟩
    have h2 := hel i hi
    rw [hp] at h2
    obtain ⟨y0, y1, n, e, hl, r0, r1⟩ := trod_struct2 uS h2
    rw [t1, cI, o1] at r0
    rw [t2, cI, o2] at r1
    obtain ⟨k0, q1, q2, _⟩ := DataW.trod_int uI r0
    obtain ⟨k1, q3, q4, _⟩ := DataW.trod_int uI r1
    rw [q2, q4] at e
    simp only [Prod.mk.injEq, DataW.agg.injEq, List.cons.injEq, DataW.lit.injEq, Lit.int.injEq, true_and, and_true] at e
    obtain ⟨⟨e0, e1⟩, _⟩ := e
    rw [cE] at q1 q3
    have c0 := World.var?_cell hg0 hv0 (i * 2)
    have c1 := World.var?_cell hg0 hv0 (i * 2 + 1)
    have a0 : cs0[i * 2]? = some (.int .i64 k0) := by
      have := congrArg (fun l => l[0]?) q1
      simp only [List.drop_zero, List.getElem?_take, List.getElem?_drop, List.getElem?_cons_zero] at this
      simpa using this
    have a1 : cs0[i * 2 + 1]? = some (.int .i64 k1) := by
      have := congrArg (fun l => l[0]?) q3
      simp only [List.getElem?_take, List.getElem?_drop, List.getElem?_cons_zero] at this
      simpa using this
    exact ⟨by rw [c0, a0, e0], by rw [c1, a1, e1]⟩
  intro g G hG
  have hgl : gl = [(0, ⟨149, 148, .pair (.int .i64) (.pair (.int .i64) .unit), freeL⟩)] := rfl
  rw [hgl] at hG
  simp only [find] at hG
  have hg : g = 0 := by
    cases h0 : Nat.beq 0 g with
    | true => exact (Nat.eq_of_beq_eq_true h0).symm
    | false => rw [h0] at hG; cases hG
  subst hg
  have hG : G = ⟨149, 148, .pair (.int .i64) (.pair (.int .i64) .unit), freeL⟩ := by cases hG; rfl
  subst hG
  refine ⟨id, cell_size (key 0 _ rfl).1, fun i x hx => ?_⟩
  obtain ⟨k1, k2⟩ := key i x hx
  refine ⟨[.int .i64 x.1, .int .i64 x.2.1], rfl, ?_, [.int .i64 x.1], [.int .i64 x.2.1], rfl, rfl, [.int .i64 x.2.1], [], rfl, rfl, rfl⟩
  intro j u hu
  have hj : j = 0 ∨ j = 1 := by
    have := (List.getElem?_eq_some_iff.1 hu).1
    simp only [List.length_cons, List.length_nil] at this
    omega
  rcases hj with rfl | rfl
  · cases hu; exact k1
  · cases hu; exact k2
end Go.Proofs.YtgbndganadelpaaGreatDoor.V
/- Arguments: an integer (sign, limbs) as_ it comes in; what a contract says at the row's call. -/
namespace Go.Proofs.YtgbndganadelpaaGreatDoor.V
open Go Go.Proofs.YtgbndganadelpaaGreatDoor.E Go.Proofs.YtgbndganadelpaaGreatDoor.LI
open Go.Joins Go.ChangeShapes Go.WideShapes Go.RowKit Go.Deep
set_option linter.unusedVariables false
set_option linter.unusedSimpArgs false
@[reducible] def tyI : Ty := .pair .bool (.pair (.sl (.int .u32)) .unit)
section
variable {H : Type} {enc : TypeId × Value → H} {P : Program} {W : World}
end
/-- The result of a law, and the memory behind it. -/
theorem res_true {n : Nat} {w : World} {F : Nat → Prop} {u : Value} (h : ResN n w F (.v .bool true) u) : u = .bool true := by
  rcases h with (⟨t, x, e, h⟩ | ⟨_, _, _, e, _⟩) | ⟨_, _, _, _, e, _⟩
  · cases e
    exact RepV.bool h
  · cases e
  · cases e
theorem below_of {w w' : World} (h : Same w w') : Below w.heap.size w w' := ⟨h.os, h.tape, h.output, h.size, h.block⟩
theorem wf_u8 {n : Int} (h : (Lit.int .u8 n).wf = true) : 0 ≤ n ∧ n < 256 := by
  simp [Lit.wf, IntKind.min, IntKind.max, IntKind.signed, IntKind.bits] at h
  omega
end Go.Proofs.YtgbndganadelpaaGreatDoor.V
/- Arguments: a struct of two numbers as_ it comes in. -/
namespace Go.Proofs.YtgbndganadelpaaGreatDoor.V
open Go Go.Proofs.YtgbndganadelpaaGreatDoor.E Go.Proofs.YtgbndganadelpaaGreatDoor.LI
open Go.Joins Go.ChangeShapes Go.WideShapes Go.RowKit Go.Deep
set_option linter.unusedVariables false
section
variable {H : Type} {enc : TypeId × Value → H} {P : Program} {W : World}
end
end Go.Proofs.YtgbndganadelpaaGreatDoor.V
