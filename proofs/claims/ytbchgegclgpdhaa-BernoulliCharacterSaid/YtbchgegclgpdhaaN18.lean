/- Laws: the reference's Kronecker symbol. -/
import Derived.Test.YtbchgegclgpdhaaN17
namespace Go.Proofs.Ytbchgegclgpdhaa.V
open Go Go.Proofs.Ytbchgegclgpdhaa.E Go.Proofs.Ytbchgegclgpdhaa.LI Go.Proofs.Ytbchgegclgpdhaa.Num
set_option linter.unusedVariables false
set_option linter.unusedSimpArgs false

theorem odd_of_pr {p : Nat} (hp : Pr p) (h2 : p ≠ 2) : 1 ≤ (p - 1) / 2 := by have := hp.1; omega
theorem legendre_ok {p : Nat} (hp : Pr p) (h2 : p ≠ 2) (hpM : p ≤ 2147483647) (a : Int) : quadformref22_Legendre a (p : Int) = some (sy a p) := by
  have hp2 := hp.1
  obtain ⟨r, hr, hrp⟩ := emod_res (a := a) hp2
  have hres : quadformref22_Legendre a (p : Int) = quadformref22_Legendre (r : Int) (p : Int) := by
    unfold quadformref22_Legendre quadformref22_ModPow
    rw [ref_mod, ref_mod, residue_ok a p (by omega) hpM, residue_ok (r : Int) p (by omega) hpM, hr, Int.emod_eq_of_lt (by omega) (by omega)]
  rw [hres]
  unfold sy
  rw [if_neg h2]
  by_cases hz : r = 0
  · subst hz
    rw [if_pos (by omega)]
    unfold quadformref22_Legendre quadformref22_ModPow
    simp only [quadformref22_Legendre.j1, quadformref22_Legendre.j2, cite, beq_iff_eq, decide_eq_true_eq]
    rw [if_neg (by omega), ref_mod, residue_ok _ p (by omega) hpM, Option.bind_some, Int.emod_eq_of_lt (by omega) (by omega), halfp hp2 hpM]
    have key := modpow_loop hp2 hpM _ ((p - 1) / 2) 0 1 (Nat.lt_succ_self _) (by omega) (by omega) (by omega)
    rw [show ((1 : Nat) : Int) = 1 from rfl, Nat.one_mul, Nat.zero_pow (odd_of_pr hp h2), Nat.zero_mod] at key
    have h1 : Int.tmod 1 (p : Int) = 1 := by rw [show (1 : Int) = ((1 : Nat) : Int) from rfl, tmod_nat, Nat.mod_eq_of_lt (by omega)]
    rw [h1, key, Option.bind_some]
    simp only [quadformref22_ModPow.k0, Option.bind_some]
    rw [if_pos (by rfl)]
  · rw [if_neg (by omega), legendre_unit hp h2 hpM (by omega) hrp, hr, Int.toNat_natCast]
    rfl
def sgn3 (s : Int) : Prop := s = 1 ∨ s = 0 ∨ s = -1
theorem sgn3_mul {a b : Int} (ha : sgn3 a) (hb : sgn3 b) : sgn3 (a * b) := by
  rcases ha with rfl | rfl | rfl <;> rcases hb with rfl | rfl | rfl <;> simp [sgn3]
theorem sgn3_wrap {s : Int} (h : sgn3 s) : IntKind.wrap .i64 s = s := wi64 (by rcases h with rfl | rfl | rfl <;> decide) (by rcases h with rfl | rfl | rfl <;> decide)
theorem sgn3_pow {a : Int} (h : sgn3 a) : ∀ e : Nat, sgn3 (a ^ e)
  | 0 => .inl (by simp)
  | e + 1 => by rw [Int.pow_succ]; exact sgn3_mul (sgn3_pow h e) h
theorem sym_inner {a : Int} {LS : List PW} {len i : Int} {p e : Nat} (hp : Pr p) (hpM : p ≤ 2147483647) (he : e ≤ 100) : ∀ (t j : Nat) (s : Int), e - j = t → j ≤ e → sgn3 s →
    iterL (fun x : Int × Int × Int × (List PW) × Int × Int × PW × Unit => quadformref22_Symbol.s0 x.1 x.2.1 x.2.2.1 x.2.2.2.1 x.2.2.2.2.1 x.2.2.2.2.2.1 x.2.2.2.2.2.2.1) (a, s, (j : Int), LS, len, i, ((p : Int), (e : Int), ()), ()) = some (a, s * sy a p ^ t, LS, len, i, ())
  | 0, j, s, ht, hj, hs => by
    refine iterL_done ?_
    simp only [quadformref22_Symbol.s0, cite, decide_eq_true_eq]
    rw [if_neg (by omega)]
    simp
  | t + 1, j, s, ht, hj, hs => by
    have h3 : sgn3 (s * sy a p) := sgn3_mul hs (sy_range a p)
    refine (iterL_next ?_).trans ((sym_inner hp hpM he t (j + 1) (s * sy a p) (by omega) (by omega) h3).trans (by rw [Int.pow_succ, Int.mul_assoc, Int.mul_comm (sy a p)]))
    simp only [quadformref22_Symbol.s0, quadformref22_Symbol.j6, quadformref22_Symbol.j7, cite, decide_eq_true_eq, beq_iff_eq]
    rw [if_pos (by omega), up (by omega)]
    by_cases h2 : p = 2
    · subst h2
      rw [if_pos (by rfl), two_ok, Option.bind_some, sgn3_wrap h3]
    · rw [if_neg (by omega), legendre_ok hp h2 hpM, Option.bind_some, sgn3_wrap h3]
theorem sym_loop {a : Int} : ∀ (L2 L1 : List (Nat × Nat)) (s : Int), (∀ x ∈ L2, Pr x.1 ∧ 1 ≤ x.2 ∧ x.1 ≤ 2147483647 ∧ x.2 ≤ 100) → (L1 ++ L2).length ≤ 100 → sgn3 s →
    iterL (fun x : Int × Int × (List PW) × Int × Int × Unit => quadformref22_Symbol.s1 x.1 x.2.1 x.2.2.1 x.2.2.2.1 x.2.2.2.2.1) (a, s, encP (L1 ++ L2), (((encP (L1 ++ L2)).length : Nat) : Int), ((L1.length : Nat) : Int), ()) = some (s * val (sy a) L2, ())
  | [], L1, s, _, hl, _ => by
    refine iterL_done ?_
    simp only [quadformref22_Symbol.s1, cite, decide_eq_true_eq]
    rw [encP_length, if_neg (by simp)]
    simp [val]
  | (p, e) :: L2, L1, s, hx, hl, hs => by
    obtain ⟨hp, he, hpM, heM⟩ := hx (p, e) (List.mem_cons_self ..)
    simp only at hp he hpM heM
    have hlen : (L1.length : Int) < ((encP (L1 ++ (p, e) :: L2)).length : Nat) := by
      rw [encP_length, List.length_append, List.length_cons]; omega
    have hl1 : L1.length ≤ 100 := by rw [List.length_append] at hl; omega
    have hsplit : L1 ++ (p, e) :: L2 = (L1 ++ [(p, e)]) ++ L2 := by simp
    have hl' : ((L1 ++ [(p, e)]) ++ L2).length ≤ 100 := by rw [← hsplit]; exact hl
    have hL1 : (L1 ++ [(p, e)]).length = L1.length + 1 := by simp
    have ih := sym_loop (a := a) L2 (L1 ++ [(p, e)]) (s * sy a p ^ e) (fun x h => hx x (List.mem_cons_of_mem _ h)) hl' (sgn3_mul hs (sgn3_pow (sy_range a p) e))
    rw [hL1, ← hsplit] at ih
    refine (iterL_next ?_).trans (ih.trans (by simp only [val]; rw [Int.mul_assoc]))
    simp only [quadformref22_Symbol.s1, quadformref22_Symbol.j5, cite, decide_eq_true_eq, inB_t]
    rw [if_pos hlen, if_pos (by omega), Int.toNat_natCast, rdP_at]
    have hin := sym_inner (a := a) (LS := encP (L1 ++ (p, e) :: L2)) (len := (((encP (L1 ++ (p, e) :: L2)).length : Nat) : Int)) (i := ((L1.length : Nat) : Int)) hp hpM heM e 0 s (by omega) (by omega) hs
    rw [show ((0 : Nat) : Int) = 0 from rfl] at hin
    simp only []
    rw [hin, Option.bind_some]
    simp only [quadformref22_Symbol.k0]
    rw [up (by omega)]
end Go.Proofs.Ytbchgegclgpdhaa.V
