/- Laws: the Kronecker symbol of the program. -/
import Derived.Test.YtbchgegclgpdhaaN14
namespace Go.Proofs.Ytbchgegclgpdhaa.V
open Go Go.Proofs.Ytbchgegclgpdhaa.E Go.Proofs.Ytbchgegclgpdhaa.LI Go.Proofs.Ytbchgegclgpdhaa.Num
set_option linter.unusedVariables false
set_option linter.unusedSimpArgs false

theorem pm_mul {a b : Int} (ha : a = 1 ∨ a = -1) (hb : b = 1 ∨ b = -1) : a * b = 1 ∨ a * b = -1 := by
  rcases ha with rfl | rfl <;> rcases hb with rfl | rfl <;> simp
theorem pm_pow {a : Int} (ha : a = 1 ∨ a = -1) : ∀ e : Nat, a ^ e = if e % 2 = 1 then a else 1
  | 0 => by simp
  | e + 1 => by
    rw [Int.pow_succ, pm_pow ha e]
    rcases ha with rfl | rfl <;> split <;> split <;> first | omega | rfl

theorem kron_loop {a : Int} : ∀ (L2 L1 : List (Nat × Nat)) (s : Int), (∀ x ∈ L2, Pr x.1 ∧ 1 ≤ x.2 ∧ x.1 ≤ 2147483647 ∧ x.2 ≤ 100) → (L1 ++ L2).length ≤ 100 → (s = 1 ∨ s = -1) →
    ∃ z, iterL (fun x : Int × Int × (List PW) × Int × Int × Unit => prime_Kronecker.s0 x.1 x.2.1 x.2.2.1 x.2.2.2.1 x.2.2.2.2.1) (a, s, encP (L1 ++ L2), (((encP (L1 ++ L2)).length : Nat) : Int), ((L1.length : Nat) : Int), ()) = some z ∧
      (z = .inl (s * val (sy a) L2, ()) ∨ (z = .inr (0, 0, ()) ∧ s * val (sy a) L2 = 0))
  | [], L1, s, _, hl, _ => by
    refine ⟨_, iterL_done ?_, .inl rfl⟩
    simp only [prime_Kronecker.s0, cite, decide_eq_true_eq]
    rw [encP_length, if_neg (by simp)]
    simp [val]
  | (p, e) :: L2, L1, s, hx, hl, hs => by
    obtain ⟨hp, he, hpM, heM⟩ := hx (p, e) (List.mem_cons_self ..)
    simp only at hp he hpM heM
    have hsym := symbol_ok hp hpM a
    have hlen : (L1.length : Int) < ((encP (L1 ++ (p, e) :: L2)).length : Nat) := by
      rw [encP_length, List.length_append, List.length_cons]; omega
    have hl1 : L1.length ≤ 100 := by rw [List.length_append] at hl; omega
    have hmod : Int.tmod (e : Int) 2 = ((e % 2 : Nat) : Int) := tmod_nat e 2
    have hstep : prime_Kronecker.s0 a s (encP (L1 ++ (p, e) :: L2)) (((encP (L1 ++ (p, e) :: L2)).length : Nat) : Int) ((L1.length : Nat) : Int) =
        if sy a p = 0 then some (.inr (.inr (0, 0, ()))) else if e % 2 = 1 then some (.inl (a, IntKind.wrap .i64 (s * sy a p), encP (L1 ++ (p, e) :: L2), (((encP (L1 ++ (p, e) :: L2)).length : Nat) : Int), ((L1.length + 1 : Nat) : Int), ())) else some (.inl (a, s, encP (L1 ++ (p, e) :: L2), (((encP (L1 ++ (p, e) :: L2)).length : Nat) : Int), ((L1.length + 1 : Nat) : Int), ())) := by
      simp only [prime_Kronecker.s0, prime_Kronecker.j6, prime_Kronecker.j7, prime_Kronecker.j8, cite, decide_eq_true_eq, beq_iff_eq, inB_t]
      rw [if_pos hlen, if_pos (by omega), Int.toNat_natCast, rdP_at]
      simp only []
      rw [hsym, Option.bind_some, hmod, up (by omega)]
      by_cases hs0 : sy a p = 0
      · rw [if_pos hs0, if_pos hs0]
      · rw [if_neg hs0, if_neg hs0]
        by_cases h1 : e % 2 = 1
        · rw [if_pos h1, if_pos (by omega)]
        · rw [if_neg h1, if_neg (by omega)]
    have hsplit : L1 ++ (p, e) :: L2 = (L1 ++ [(p, e)]) ++ L2 := by simp
    have hl' : ((L1 ++ [(p, e)]) ++ L2).length ≤ 100 := by rw [← hsplit]; exact hl
    have hL1 : (L1 ++ [(p, e)]).length = L1.length + 1 := by simp
    rcases sy_range a p with hv | hv | hv
    all_goals rw [hv] at hstep
    · have hval : val (sy a) ((p, e) :: L2) = val (sy a) L2 := by
        simp only [val]; rw [hv, Int.one_pow, Int.one_mul]
      have ih := kron_loop (a := a) L2 (L1 ++ [(p, e)]) s (fun x h => hx x (List.mem_cons_of_mem _ h)) hl' hs
      rw [hL1, ← hsplit] at ih
      rw [hval]
      obtain ⟨z, q1, q2⟩ := ih
      refine ⟨z, (iterL_next ?_).trans q1, q2⟩
      simp only []
      rw [hstep, if_neg (by omega), Int.mul_one, wi64 (by omega) (by omega), ite_self]
    · have hval : val (sy a) ((p, e) :: L2) = 0 := by
        simp only [val]; rw [hv, Int.zero_pow (by omega), Int.zero_mul]
      rw [hval, Int.mul_zero]
      exact ⟨_, iterL_done (by simp only []; rw [hstep, if_pos rfl]), .inr ⟨rfl, rfl⟩⟩
    · by_cases ho : e % 2 = 1
      · have hval : s * val (sy a) ((p, e) :: L2) = (s * -1) * val (sy a) L2 := by
          simp only [val]; rw [hv, pm_pow (.inr rfl), if_pos ho, Int.mul_assoc]
        have ih := kron_loop (a := a) L2 (L1 ++ [(p, e)]) (s * -1) (fun x h => hx x (List.mem_cons_of_mem _ h)) hl' (pm_mul hs (.inr rfl))
        rw [hL1, ← hsplit] at ih
        rw [hval]
        obtain ⟨z, q1, q2⟩ := ih
        refine ⟨z, (iterL_next ?_).trans q1, q2⟩
        simp only []
        rw [hstep, if_neg (by omega), if_pos ho, wi64 (by omega) (by omega)]
      · have hval : s * val (sy a) ((p, e) :: L2) = s * val (sy a) L2 := by
          simp only [val]; rw [hv, pm_pow (.inr rfl), if_neg ho, Int.one_mul]
        have ih := kron_loop (a := a) L2 (L1 ++ [(p, e)]) s (fun x h => hx x (List.mem_cons_of_mem _ h)) hl' hs
        rw [hL1, ← hsplit] at ih
        rw [hval]
        obtain ⟨z, q1, q2⟩ := ih
        refine ⟨z, (iterL_next ?_).trans q1, q2⟩
        simp only []
        rw [hstep, if_neg (by omega), if_neg ho]
end Go.Proofs.Ytbchgegclgpdhaa.V
