/- Laws: squarefree parts and discriminants. -/
import Derived.Test.YtbchgegclgpdhaaSqf
import Derived.Test.YtbchgegclgpdhaaN11
namespace Go.Proofs.Ytbchgegclgpdhaa.V
open Go Go.Proofs.Ytbchgegclgpdhaa.E Go.Proofs.Ytbchgegclgpdhaa.LI Go.Proofs.Ytbchgegclgpdhaa.Num
set_option linter.unusedVariables false
set_option linter.unusedSimpArgs false

/-- s and r are what n asks for -/
def SqOf (n s r : Int) : Prop := ∃ (S R : Nat) (g : Int), (g = 1 ∨ g = -1) ∧ n = g * (S * (R * R) : Nat) ∧ s = g * (S : Nat) ∧ r = (R : Nat) ∧ Sqf S ∧ 1 ≤ S ∧ 1 ≤ R

theorem sqOf_unique {n s r s' r' : Int} (h : SqOf n s r) (h' : SqOf n s' r') : s = s' ∧ r = r' := by
  obtain ⟨S, R, g, hg, hn, rfl, rfl, hS, hS1, hR1⟩ := h
  obtain ⟨S', R', g', hg', hn', rfl, rfl, hS', hS1', hR1'⟩ := h'
  have p1 : 1 ≤ S * (R * R) := Nat.mul_pos hS1 (Nat.mul_pos hR1 hR1)
  have p2 : 1 ≤ S' * (R' * R') := Nat.mul_pos hS1' (Nat.mul_pos hR1' hR1')
  have e : g = g' ∧ S * (R * R) = S' * (R' * R') := by
    generalize S * (R * R) = A at *
    generalize S' * (R' * R') = B at *
    rcases hg with rfl | rfl <;> rcases hg' with rfl | rfl <;> omega
  obtain ⟨rfl, e⟩ := e
  obtain ⟨rfl, rfl⟩ := sqf_unique hS hS' hR1 hR1' e
  exact ⟨rfl, rfl⟩

theorem sqOf_times {n s r : Int} (h : SqOf n s r) (u : Nat) (hu : 1 ≤ u) : SqOf (n * u * u) s (r * u) := by
  obtain ⟨S, R, g, hg, hn, rfl, rfl, hS, hS1, hR1⟩ := h
  refine ⟨S, R * u, g, hg, ?_, rfl, by simp, hS, hS1, Nat.mul_pos hR1 hu⟩
  rw [hn]
  simp only [Int.natCast_mul]
  grind

theorem fac_bounds {n : Nat} {L : List (Nat × Nat)} (h : Fac 1 n L) (hn : n ≤ 2147483647) : (∀ x ∈ L, Pr x.1 ∧ 1 ≤ x.2 ∧ x.1 ≤ 2147483647 ∧ x.2 ≤ 100) ∧ L.length ≤ 100 := by
  have h1 := h.pos
  constructor
  · intro x hx
    obtain ⟨hp, he, hd, _⟩ := h.mem x hx
    have hle := Nat.le_of_dvd (by omega) hd
    have h2 := hp.1
    have hxx : x.1 ^ 1 ≤ x.1 ^ x.2 := Nat.pow_le_pow_right (by omega) he
    rw [Nat.pow_one] at hxx
    have := pow_bound (d := x.1) (f := x.2) (m := 1) h2 (by omega) (by omega)
    exact ⟨hp, he, by omega, by omega⟩
  · apply Classical.byContradiction
    intro hc
    have a := h.two_pow_le
    have b : 2 ^ 31 ≤ 2 ^ L.length := Nat.pow_le_pow_right (by omega) (by omega)
    omega
theorem rdP_at (L1 : List (Nat × Nat)) (x : Nat × Nat) (L2 : List (Nat × Nat)) : List.getD (encP (L1 ++ x :: L2)) L1.length ((0 : Int), (0 : Int), ()) = ((x.1 : Int), (x.2 : Int), ()) := by
  simp [encP, List.getD, List.getElem?_append_right]
theorem beyond_ok (a : Int) : prime_beyond a = some (decide (2147483647 < a ∨ a < -2147483647)) := by
  unfold prime_beyond
  simp only [cite, decide_eq_true_eq]
  by_cases h : a > 2147483647
  · rw [if_pos h, decide_eq_true (by omega)]
  · rw [if_neg h]
    congr 1
    simp only [decide_eq_decide]
    omega
theorem sqf_inner {LS : List PW} {len i : Int} {p e : Nat} (hp1 : 1 ≤ p) (he : e ≤ 100) (s : Int) : ∀ (t j r : Nat), e / 2 - j = t → j ≤ e / 2 → r * p ^ t ≤ 2147483647 →
    iterL (fun x : Int × Int × Int × (List PW) × Int × Int × PW × Unit => prime_Squarefree.s0 x.1 x.2.1 x.2.2.1 x.2.2.2.1 x.2.2.2.2.1 x.2.2.2.2.2.1 x.2.2.2.2.2.2.1) (s, (r : Int), (j : Int), LS, len, i, ((p : Int), (e : Int), ()), ()) = some (s, ((r * p ^ t : Nat) : Int), LS, len, i, ())
  | 0, j, r, ht, hj, hb => by
    refine iterL_done ?_
    simp only [prime_Squarefree.s0, cite, decide_eq_true_eq]
    rw [half_wrap e (by omega), if_neg (by omega), Nat.pow_zero, Nat.mul_one]
  | t + 1, j, r, ht, hj, hb => by
    have hb2 : r * p * p ^ t ≤ 2147483647 := by rw [Nat.mul_assoc, ← Nat.pow_succ']; exact hb
    have hpt : 1 ≤ p ^ t := Nat.pow_pos hp1
    have hb3 : r * p * 1 ≤ r * p * p ^ t := Nat.mul_le_mul_left _ hpt
    refine (iterL_next ?_).trans ((sqf_inner hp1 he s t (j + 1) (r * p) (by omega) (by omega) hb2).trans (by rw [Nat.mul_assoc, ← Nat.pow_succ']))
    simp only [prime_Squarefree.s0, prime_Squarefree.j5, cite, decide_eq_true_eq]
    rw [half_wrap e (by omega), if_pos (by omega), up (by omega), ← Int.natCast_mul, wi64 (x := ((r * p : Nat) : Int)) (by omega) (by omega)]
theorem sqf_loop {g : Int} (hg : g = 1 ∨ g = -1) : ∀ (L2 L1 : List (Nat × Nat)) (s r : Nat), (∀ x ∈ L2, Pr x.1 ∧ 1 ≤ x.2 ∧ x.1 ≤ 2147483647 ∧ x.2 ≤ 100) → (L1 ++ L2).length ≤ 100 → s * sf L2 ≤ 2147483647 → r * sr L2 ≤ 2147483647 → 1 ≤ sf L2 → 1 ≤ sr L2 →
    iterL (fun x : Int × Int × (List PW) × Int × Int × Unit => prime_Squarefree.s1 x.1 x.2.1 x.2.2.1 x.2.2.2.1 x.2.2.2.2.1) (g * (s : Nat), (r : Int), encP (L1 ++ L2), (((encP (L1 ++ L2)).length : Nat) : Int), ((L1.length : Nat) : Int), ()) = some (g * (s * sf L2 : Nat), ((r * sr L2 : Nat) : Int), ())
  | [], L1, s, r, _, hl, _, _, _, _ => by
    refine iterL_done ?_
    simp only [prime_Squarefree.s1, cite, decide_eq_true_eq]
    rw [encP_length, if_neg (by simp)]
    simp [sf, sr]
  | (p, e) :: L2, L1, s, r, hx, hl, hsb, hrb, h1, h2 => by
    obtain ⟨hp, he, hpM, heM⟩ := hx (p, e) (List.mem_cons_self ..)
    simp only at hp he hpM heM
    simp only [sf, sr] at hsb hrb h1 h2 ⊢
    have hp1 : 1 ≤ p := by have := hp.1; omega
    have s1 : 1 ≤ sf L2 := by
      rcases Nat.eq_zero_or_pos (sf L2) with h | h
      · rw [h] at h1; simp at h1
      · exact h
    have r1 : 1 ≤ sr L2 := by
      rcases Nat.eq_zero_or_pos (sr L2) with h | h
      · rw [h] at h2; simp at h2
      · exact h
    have hlen : (L1.length : Int) < ((encP (L1 ++ (p, e) :: L2)).length : Nat) := by
      rw [encP_length, List.length_append, List.length_cons]; omega
    have hl1 : L1.length ≤ 100 := by rw [List.length_append] at hl; omega
    have hsplit : L1 ++ (p, e) :: L2 = (L1 ++ [(p, e)]) ++ L2 := by simp
    have hl' : ((L1 ++ [(p, e)]) ++ L2).length ≤ 100 := by rw [← hsplit]; exact hl
    have hL1 : (L1 ++ [(p, e)]).length = L1.length + 1 := by simp
    rw [← Nat.mul_assoc] at hsb hrb
    have hsb2 : s * p ^ (e % 2) * 1 ≤ s * p ^ (e % 2) * sf L2 := Nat.mul_le_mul_left _ s1
    have hrb2 : r * p ^ (e / 2) * 1 ≤ r * p ^ (e / 2) * sr L2 := Nat.mul_le_mul_left _ r1
    have ih := sqf_loop hg L2 (L1 ++ [(p, e)]) (s * p ^ (e % 2)) (r * p ^ (e / 2)) (fun x h => hx x (List.mem_cons_of_mem _ h)) hl' hsb hrb s1 r1
    rw [hL1, ← hsplit, Nat.mul_assoc s, Nat.mul_assoc r] at ih
    have hin := sqf_inner (LS := encP (L1 ++ (p, e) :: L2)) (len := (((encP (L1 ++ (p, e) :: L2)).length : Nat) : Int)) (i := ((L1.length : Nat) : Int)) hp1 heM (g * (s * p ^ (e % 2) : Nat)) (e / 2) 0 r (by omega) (by omega) (by omega)
    refine (iterL_next ?_).trans ih
    simp only [prime_Squarefree.s1, prime_Squarefree.j3, prime_Squarefree.j4, prime_Squarefree.k0, cite, decide_eq_true_eq, beq_iff_eq, inB_t]
    rw [if_pos hlen, if_pos (by omega), Int.toNat_natCast, rdP_at]
    simp only []
    rw [show ((0 : Nat) : Int) = 0 from rfl] at hin
    rw [show Int.tmod (e : Int) 2 = ((e % 2 : Nat) : Int) from tmod_nat e 2]
    have hfin : ∀ S : Int, S = g * (s * p ^ (e % 2) : Nat) → ((iterL (fun x : Int × Int × Int × (List PW) × Int × Int × PW × Unit => prime_Squarefree.s0 x.1 x.2.1 x.2.2.1 x.2.2.2.1 x.2.2.2.2.1 x.2.2.2.2.2.1 x.2.2.2.2.2.2.1) (S, (r : Int), (0 : Int), encP (L1 ++ (p, e) :: L2), (((encP (L1 ++ (p, e) :: L2)).length : Nat) : Int), ((L1.length : Nat) : Int), ((p : Int), (e : Int), ()), ())).bind fun y => (some (.inl (y.1, y.2.1, y.2.2.1, y.2.2.2.1, (IntKind.wrap .i64 (y.2.2.2.2.1 + 1)), ())) : Option ((Int × Int × (List PW) × Int × Int × Unit) ⊕ (Int × Int × Unit)))) = some (.inl (g * (s * p ^ (e % 2) : Nat), ((r * p ^ (e / 2) : Nat) : Int), encP (L1 ++ (p, e) :: L2), (((encP (L1 ++ (p, e) :: L2)).length : Nat) : Int), ((L1.length + 1 : Nat) : Int), ())) := by
      rintro S rfl
      rw [hin, Option.bind_some]
      simp only []
      rw [up (by omega)]
    rcases Nat.mod_two_eq_zero_or_one e with h | h
    · rw [h] at hfin ⊢
      rw [if_neg (by omega)]
      exact hfin _ (by rw [Nat.pow_zero, Nat.mul_one])
    · rw [h] at hfin ⊢
      rw [if_pos (show ((1 : Nat) : Int) = 1 from rfl)]
      have hw : g * (s : Nat) * (p : Int) = g * ((s * p : Nat) : Int) := by rw [Int.mul_assoc, Int.natCast_mul]
      rw [h, Nat.pow_one] at hsb2 hsb
      have hb' : s * p ≤ 2147483647 := by omega
      refine hfin _ ?_
      rw [Nat.pow_one, hw]
      generalize s * p = z at hb' ⊢
      rw [wi64 (by rcases hg with rfl | rfl <;> omega) (by rcases hg with rfl | rfl <;> omega)]
theorem sqf_bad {n : Int} (h : n = 0 ∨ 2147483647 < n ∨ n < -2147483647) : prime_Squarefree n = some (0, 0, 1, ()) := by
  unfold prime_Squarefree
  simp only [cite, beq_iff_eq]
  by_cases h0 : n = 0
  · rw [if_pos h0]
  · rw [if_neg h0, beyond_ok, decide_eq_true (by omega), Option.bind_some, if_pos rfl]
theorem sqf_ok {n : Int} (h0 : n ≠ 0) (hn : -2147483647 ≤ n ∧ n ≤ 2147483647) : ∃ s r, SqOf n s r ∧ prime_Squarefree n = some (s, r, 0, ()) := by
  obtain ⟨m, hm⟩ : ∃ m : Nat, n.natAbs = m := ⟨_, rfl⟩
  obtain ⟨L, hL, hF⟩ := factor_nat m (by omega) (by omega)
  obtain ⟨hb, hlen⟩ := fac_bounds hL (by omega)
  obtain ⟨s1, r1⟩ := hL.sf_pos
  have he := hL.sf_sr
  have hsb : sf L ≤ m := by
    have : sf L * 1 ≤ sf L * (sr L * sr L) := Nat.mul_le_mul_left _ (Nat.mul_pos r1 r1)
    omega
  have hrb : sr L ≤ m := by
    have a : sr L * 1 ≤ sr L * sr L := Nat.mul_le_mul_left _ r1
    have b : 1 * (sr L * sr L) ≤ sf L * (sr L * sr L) := Nat.mul_le_mul_right _ s1
    omega
  have hg : (if n < 0 then (-1 : Int) else 1) = 1 ∨ (if n < 0 then (-1 : Int) else 1) = -1 := by split <;> simp
  have hloop := sqf_loop hg L [] 1 1 hb (by simpa using hlen) (by omega) (by omega) s1 r1
  simp only [List.nil_append, Nat.one_mul] at hloop
  refine ⟨_, _, ⟨sf L, sr L, _, hg, ?_, rfl, rfl, hL.sf_sqf, s1, r1⟩, ?_⟩
  · rw [← he]; split <;> omega
  · unfold prime_Squarefree
    simp only [cite, beq_iff_eq, decide_eq_true_eq]
    rw [if_neg h0, beyond_ok, decide_eq_false (by omega), Option.bind_some, if_neg (by decide)]
    simp only [prime_Squarefree.j1, prime_Squarefree.j2, prime_Squarefree.j6, cite, decide_eq_true_eq]
    by_cases hneg : n < 0
    · rw [if_pos hneg] at hloop ⊢
      rw [show IntKind.wrap .i64 (0 - n) = (m : Int) by rw [wi64 (by omega) (by omega)]; omega, hF, Option.bind_some]
      simp only []
      have hl2 : iterL (fun x : Int × Int × (List PW) × Int × Int × Unit => prime_Squarefree.s1 x.1 x.2.1 x.2.2.1 x.2.2.2.1 x.2.2.2.2.1) ((-1 : Int), (1 : Int), encP L, (((encP L).length : Nat) : Int), (0 : Int), ()) = _ := hloop
      rw [hl2, Option.bind_some, if_pos hneg]
      rfl
    · rw [if_neg hneg] at hloop ⊢
      rw [show n = (m : Int) by omega, hF, Option.bind_some]
      simp only []
      have hl2 : iterL (fun x : Int × Int × (List PW) × Int × Int × Unit => prime_Squarefree.s1 x.1 x.2.1 x.2.2.1 x.2.2.2.1 x.2.2.2.2.1) ((1 : Int), (1 : Int), encP L, (((encP L).length : Nat) : Int), (0 : Int), ()) = _ := hloop
      rw [hl2, Option.bind_some, if_neg (by omega)]
      rfl
end Go.Proofs.Ytbchgegclgpdhaa.V
