/- The reference's factorization, and its Kronecker symbol. -/
import Derived.Test.YtcjhbjfkcmncpaaPK
import Derived.Test.YtcjhbjfkcmncpaaQx0
import Derived.Test.YtcjhbjfkcmncpaaQx11
import Derived.Test.YtcjhbjfkcmncpaaQx13
import Derived.Test.YtcjhbjfkcmncpaaQx14
import Derived.Test.YtcjhbjfkcmncpaaQx18
import Derived.Test.YtcjhbjfkcmncpaaQx20
import Derived.Test.YtcjhbjfkcmncpaaQx21
import Derived.Test.YtcjhbjfkcmncpaaQx22
namespace Go.Proofs.Ytcjhbjfkcmncpaa.Q
open Go.RowKit Go.Proofs.YtcjhbjfkcmncpaaW.PrintWords Go.Proofs.YtcjhbjfkcmncpaaW.PrintLast Go.Proofs.YtcjhbjfkcmncpaaW.PrintMore
open Go.Proofs.Ytcjhbjfkcmncpaa.Num

theorem rstrip_loop {d m : Nat} (hd : 2 ≤ d) (hd2 : d ≤ 46341) (hm : 1 ≤ m) (hnd : ¬ d ∣ m) (acc : List S30) (hacc : acc.length < 8796093022208) (R : List S30 × Int) :
    ∀ (f e : Nat), e + f ≤ 100 → d ^ f * m ≤ 2147483647 → Ev (fun k => quadformref22_Factor.l0 k m (if 0 < e + f then acc ++ [⟨d, ((e + f : Nat) : Int)⟩] else acc) ((d + 1 : Nat) : Int)) R → Ev (fun k => quadformref22_Factor.l1 k ((d ^ f * m : Nat) : Int) acc d e) R
  | 0, e, he, hb, h => by
    refine Ev.step (fun k => ?_) h
    simp only [quadformref22_Factor.l1]
    rw [if_neg (by omega), tmod_nat, if_neg (fun h => hnd (Nat.dvd_of_mod_eq_zero (by simpa using Int.ofNat_inj.1 h))), w64 (x := (d : Int) + 1) (by omega) (by omega)]
    by_cases h0 : 0 < e
    · rw [if_pos (by omega), if_pos hacc, if_pos (by omega)]; simp
    · rw [if_neg (by omega), if_neg (by omega)]; simp
  | f + 1, e, he, hb, h => by
    obtain ⟨h1, h2⟩ := div_step (d := d) (f := f) (m := m) hd
    have h3 : d ^ f * m ≤ 2147483647 := by
      rw [← h2]; exact Nat.le_trans (Nat.div_le_self _ _) hb
    refine Ev.step (f := fun k => quadformref22_Factor.l1 k ((d ^ f * m : Nat) : Int) acc d ((e + 1 : Nat) : Int)) (fun k => ?_) (rstrip_loop hd hd2 hm hnd acc hacc R f (e + 1) (by omega) h3 (by rw [show e + 1 + f = e + (f + 1) by omega]; exact h))
    simp only [quadformref22_Factor.l1]
    rw [if_neg (by omega), tmod_nat, h1, if_pos (by rfl), tdiv_nat, h2, w64 (by omega) (by omega), w64 (by omega) (by omega)]
    rfl

theorem rfac_loop : ∀ (t n d : Nat) (acc : List S30), 46342 - d = t → 1 ≤ n → n ≤ 2147483647 → 2 ≤ d → d ≤ 46341 → (∀ q, 2 ≤ q → q ∣ n → d ≤ q) → 2 ^ acc.length * n ≤ 1099511627776 →
    ∃ L, Fac 1 n L ∧ Ev (fun k => quadformref22_Factor.l0 k n acc d) (acc ++ encP L, 0)
  | 0, n, d, acc, h, _, _, _, _, _, _ => by omega
  | t + 1, n, d, acc, ht, h1, hn, hd2, hd, hlo, hacc => by
    have haccl : acc.length < 8796093022208 := by
      apply Classical.byContradiction
      intro hc
      have a : 2 ^ 41 ≤ 2 ^ acc.length := Nat.pow_le_pow_right (by omega) (by omega)
      have b : 2 ^ acc.length * 1 ≤ 2 ^ acc.length * n := Nat.mul_le_mul_left _ h1
      omega
    by_cases hle : d * d ≤ n
    · have hb := sq_le hle hn
      have hstart : ∀ R, Ev (fun k => quadformref22_Factor.l1 k n acc d ((0 : Nat) : Int)) R → Ev (fun k => quadformref22_Factor.l0 k n acc d) R := fun R h => by
        refine Ev.step (fun k => ?_) h
        simp only [quadformref22_Factor.l0]
        rw [if_pos (by rw [sq_wrap (by omega)]; omega)]
        rfl
      obtain ⟨f, m, hfm, hnd, hm1, hf⟩ := exists_strip hd2 n n (Nat.le_refl _) h1
      have hdm : m ∣ n := ⟨d ^ f, by rw [hfm, Nat.mul_comm]⟩
      have hmn : m ≤ n := Nat.le_of_dvd (by omega) hdm
      have hlo' : ∀ q, 2 ≤ q → q ∣ m → d + 1 ≤ q := fun q h2 h3 => by
        have := hlo q h2 (Nat.dvd_trans h3 hdm)
        have : q ≠ d := by rintro rfl; exact hnd h3
        omega
      have hfb := pow_bound hd2 hm1 (by omega : d ^ f * m ≤ 2147483647)
      by_cases hdv : d ∣ n
      · have hf := hf hdv
        have hp := pr_of_least hd2 hdv hlo
        have hmn2 : 2 * m ≤ n := by
          have a : d ^ 1 ≤ d ^ f := Nat.pow_le_pow_right (by omega) hf
          rw [Nat.pow_one] at a
          have b : d * m ≤ d ^ f * m := Nat.mul_le_mul_right _ a
          have c : 2 * m ≤ d * m := Nat.mul_le_mul_right _ hd2
          omega
        obtain ⟨L, hL, hE⟩ := rfac_loop t m (d + 1) (acc ++ [⟨d, (f : Int)⟩]) (by omega) hm1 (by omega) (by omega) (by omega) hlo' (by
          rw [List.length_append, List.length_singleton, Nat.pow_succ, Nat.mul_assoc]
          exact Nat.le_trans (Nat.mul_le_mul_left _ hmn2) hacc)
        refine ⟨(d, f) :: L, ⟨by omega, hp, hf, m, hfm, hL.raise fun q hq hqd => ?_⟩, hstart _ ?_⟩
        · have := hlo' q hq.1 hqd
          omega
        · have key := rstrip_loop hd2 hd hm1 hnd acc haccl (acc ++ encP ((d, f) :: L), 0) f 0 (by omega) (by omega) (by
            rw [Nat.zero_add, if_pos (by omega)]
            simpa [encP] using hE)
          rw [← hfm] at key
          exact key
      · have hf0 : f = 0 := by
          apply Classical.byContradiction
          intro hne
          refine hdv ⟨d ^ (f - 1) * m, ?_⟩
          rw [← Nat.mul_assoc, ← Nat.pow_succ', hfm]
          congr 2; omega
        subst hf0
        have hnm : n = m := by simpa using hfm
        subst hnm
        obtain ⟨L, hL, hE⟩ := rfac_loop t n (d + 1) acc (by omega) hm1 (by omega) (by omega) (by omega) hlo' hacc
        refine ⟨L, hL, hstart _ ?_⟩
        have key := rstrip_loop hd2 hd hm1 hnd acc haccl (acc ++ encP L, 0) 0 0 (by omega) (by omega) (by
          rw [if_neg (by omega)]
          exact hE)
        rw [← hfm] at key
        exact key
    · by_cases hn1 : n = 1
      · subst hn1
        refine ⟨[], rfl, Ev.step (f := fun _ => some (acc, 0)) (fun k => ?_) ?_⟩
        · simp only [quadformref22_Factor.l0]
          rw [if_neg (by rw [sq_wrap (by omega)]; omega), if_neg (by simp)]
        · simpa [encP] using Ev.now (acc, (0 : Int))
      · have hp : Pr n := pr_of_noDiv (by omega) (fun q a b _ => hlo q a b) (by omega)
        refine ⟨[(n, 1)], ⟨by omega, hp, Nat.le_refl _, 1, by simp, rfl⟩, Ev.step (f := fun _ => some (acc ++ [⟨(n : Int), 1⟩], 0)) (fun k => ?_) ?_⟩
        · simp only [quadformref22_Factor.l0]
          rw [if_neg (by rw [sq_wrap (by omega)]; omega), if_pos (by omega), if_pos haccl]
        · simpa [encP] using Ev.now (acc ++ [(⟨(n : Int), 1⟩ : S30)], (0 : Int))

theorem rfactor_bad {a : Int} (h : a < 1 ∨ 2147483647 < a) : Ev (fun k => quadformref22_Factor.f k a) ([], 1) := by
  by_cases h2 : a < 1
  · refine Ev.congr (f := fun k => quadformref22_Factor.j0 k a true) (fun k => by unfold quadformref22_Factor.f; rw [if_pos h2]) ?_
    refine Ev.step (f := fun _ => some ([], 1)) (fun k => ?_) (Ev.now _)
    simp only [quadformref22_Factor.j0, if_true]
  · refine Ev.congr (f := fun k => quadformref22_Factor.j0 k a true) (fun k => by unfold quadformref22_Factor.f; rw [if_neg h2, decide_eq_true (by omega)]) ?_
    refine Ev.step (f := fun _ => some ([], 1)) (fun k => ?_) (Ev.now _)
    simp only [quadformref22_Factor.j0, if_true]

theorem rfactor_nat (n : Nat) (h1 : 1 ≤ n) (hn : n ≤ 2147483647) : ∃ L, Fac 1 n L ∧ Ev (fun k => quadformref22_Factor.f k n) (encP L, 0) := by
  obtain ⟨L, h2, h3⟩ := rfac_loop _ n 2 [] rfl h1 hn (by omega) (by omega) (fun q h _ => h) (by simp; omega)
  refine ⟨L, h2, ?_⟩
  refine Ev.congr (f := fun k => quadformref22_Factor.j0 k n false) (fun k => by unfold quadformref22_Factor.f; rw [if_neg (by omega), decide_eq_false (by omega)]) ?_
  refine Ev.step (f := fun k => quadformref22_Factor.l0 k n [] 2) (fun k => ?_) (by simpa using h3)
  simp only [quadformref22_Factor.j0]; rw [if_neg (by simp)]

/-! ## the Kronecker symbol -/
theorem tri_mul {a b : Int} (ha : a = 1 ∨ a = 0 ∨ a = -1) (hb : b = 1 ∨ b = 0 ∨ b = -1) : a * b = 1 ∨ a * b = 0 ∨ a * b = -1 := by
  rcases ha with rfl | rfl | rfl <;> rcases hb with rfl | rfl | rfl <;> simp

theorem rsym_inner {a : Int} {LS : List S30} {len : Int} {i p e : Nat} (hp : Pr p) (hpM : p ≤ 2147483647) (he : e ≤ 100) (hi : i ≤ 100) (R : Int) :
    ∀ (t j : Nat) (out : Int), e - j = t → j ≤ e → (out = 1 ∨ out = 0 ∨ out = -1) → Ev (fun k => quadformref22_Symbol.l0 k a (out * sy a p ^ t) LS len ((i + 1 : Nat) : Int)) R →
      Ev (fun k => quadformref22_Symbol.l1 k a out j LS len i p e) R
  | 0, j, out, ht, hj, ho, h => by
    rw [Int.pow_zero, Int.mul_one] at h
    refine Ev.step (fun k => ?_) h
    simp only [quadformref22_Symbol.l1]
    rw [if_neg (by omega), w64 (x := (i : Int) + 1) (by omega) (by omega)]
    rfl
  | t + 1, j, out, ht, hj, ho, h => by
    have hr := sy_range a p
    have hv := tri_mul ho hr
    have ih := rsym_inner (a := a) (LS := LS) (len := len) hp hpM he hi R t (j + 1) (out * sy a p) (by omega) (by omega) hv (by
      rw [Int.mul_assoc, ← Int.pow_succ']; exact h)
    by_cases h2 : p = 2
    · subst h2
      refine Ev.step (f := fun k => (quadformref22_two.f k a).bind fun t179 => quadformref22_Symbol.l1 k a (wrap64 (out * t179)) ((j + 1 : Nat) : Int) LS len i ((2 : Nat) : Int) e) (fun k => ?_) ?_
      · simp only [quadformref22_Symbol.l1]
        rw [if_pos (by omega), if_pos (show ((2 : Nat) : Int) = 2 from rfl), w64 (x := (j : Int) + 1) (by omega) (by omega)]
        rfl
      · refine Ev.bind (two_ok a) ?_
        rw [show wrap64 (out * sy a 2) = out * sy a 2 from w64 (by omega) (by omega)]
        exact ih
    · refine Ev.step (f := fun k => (quadformref22_Legendre.f k a p).bind fun t179 => quadformref22_Symbol.l1 k a (wrap64 (out * t179)) ((j + 1 : Nat) : Int) LS len i p e) (fun k => ?_) ?_
      · simp only [quadformref22_Symbol.l1]
        rw [if_pos (by omega), if_neg (by omega), w64 (x := (j : Int) + 1) (by omega) (by omega)]
        rfl
      · refine Ev.bind (legendre_ok hp h2 hpM a) ?_
        rw [show wrap64 (out * sy a p) = out * sy a p from w64 (by omega) (by omega)]
        exact ih

theorem rsym_loop {a : Int} : ∀ (L2 L1 : List (Nat × Nat)) (s : Int), (∀ x ∈ L2, Pr x.1 ∧ 1 ≤ x.2 ∧ x.1 ≤ 2147483647 ∧ x.2 ≤ 100) → (L1 ++ L2).length ≤ 100 → (s = 1 ∨ s = 0 ∨ s = -1) →
    Ev (fun k => quadformref22_Symbol.l0 k a s (encP (L1 ++ L2)) (((encP (L1 ++ L2)).length : Nat) : Int) (L1.length : Nat)) (s * val (sy a) L2)
  | [], L1, s, _, hl, _ => by
    refine Ev.step (f := fun _ => some s) (fun k => ?_) (by simpa [val] using Ev.now s)
    simp only [quadformref22_Symbol.l0]
    rw [encP_length, if_neg (by simp)]
  | (p, e) :: L2, L1, s, hx, hl, hs => by
    obtain ⟨hp, he, hpM, heM⟩ := hx (p, e) (List.mem_cons_self ..)
    simp only at hp he hpM heM
    have hlen : (L1.length : Int) < ((encP (L1 ++ (p, e) :: L2)).length : Nat) := by
      rw [encP_length, List.length_append, List.length_cons]; omega
    have hl1 : L1.length ≤ 100 := by rw [List.length_append] at hl; omega
    have hsplit : L1 ++ (p, e) :: L2 = (L1 ++ [(p, e)]) ++ L2 := by simp
    have hl' : ((L1 ++ [(p, e)]) ++ L2).length ≤ 100 := by rw [← hsplit]; exact hl
    have hL1 : (L1 ++ [(p, e)]).length = L1.length + 1 := by simp
    have hpow : sy a p ^ e = 1 ∨ sy a p ^ e = 0 ∨ sy a p ^ e = -1 := by
      rcases sy_range a p with h | h | h <;> rw [h]
      · exact .inl Int.one_pow
      · rw [Int.zero_pow (by omega)]; simp
      · rw [pm_pow (.inr rfl)]; split <;> simp
    have ih := rsym_loop (a := a) L2 (L1 ++ [(p, e)]) (s * sy a p ^ e) (fun x h => hx x (List.mem_cons_of_mem _ h)) hl' (tri_mul hs hpow)
    rw [hL1, ← hsplit, Int.mul_assoc] at ih
    refine Ev.step (f := fun k => quadformref22_Symbol.l1 k a s ((0 : Nat) : Int) (encP (L1 ++ (p, e) :: L2)) (((encP (L1 ++ (p, e) :: L2)).length : Nat) : Int) L1.length p e) (fun k => ?_) (rsym_inner hp hpM heM hl1 _ e 0 s (by omega) (by omega) hs ih)
    simp only [quadformref22_Symbol.l0]
    rw [if_pos hlen, if_pos (by omega), if_pos hlen, rdP_at]
    rfl

theorem val_range (a : Int) : ∀ L : List (Nat × Nat), val (sy a) L = 1 ∨ val (sy a) L = 0 ∨ val (sy a) L = -1
  | [] => .inl rfl
  | (p, e) :: L => by
    simp only [val]
    refine tri_mul ?_ (val_range a L)
    rcases sy_range a p with h | h | h <;> rw [h]
    · exact .inl Int.one_pow
    · cases e with
      | zero => exact .inl rfl
      | succ e => rw [Int.zero_pow (by omega)]; simp
    · rw [pm_pow (.inr rfl)]; split <;> simp

theorem rsymbol_ok {a n : Int} (hn : -2147483647 ≤ n ∧ n ≤ 2147483647) : ∃ v, kr a n v ∧ (v = 1 ∨ v = 0 ∨ v = -1) ∧ Ev (fun k => quadformref22_Symbol.f k a n) v := by
  by_cases h0 : n = 0
  · subst h0
    refine ⟨if a = 1 ∨ a = -1 then 1 else 0, .inl ⟨rfl, rfl⟩, by split <;> simp, ?_⟩
    refine Ev.congr (f := fun k => some (if a = 1 ∨ a = -1 then 1 else 0)) (fun k => ?_) (Ev.now _)
    unfold quadformref22_Symbol.f
    rw [if_pos rfl]
    split
    · rw [if_pos (.inl ‹_›)]
    · split
      · rw [if_pos (.inr ‹_›)]
      · rw [if_neg (by omega)]
  · obtain ⟨m, hm⟩ : ∃ m : Nat, n.natAbs = m := ⟨_, rfl⟩
    obtain ⟨L, hL, hF⟩ := rfactor_nat m (by omega) (by omega)
    obtain ⟨hb, hlen⟩ := fac_bounds hL (by omega)
    have hs : (if n < 0 ∧ a < 0 then (-1 : Int) else 1) = 1 ∨ (if n < 0 ∧ a < 0 then (-1 : Int) else 1) = 0 ∨ (if n < 0 ∧ a < 0 then (-1 : Int) else 1) = -1 := by split <;> simp
    have hloop := rsym_loop (a := a) L [] (if n < 0 ∧ a < 0 then -1 else 1) hb (by simpa using hlen) hs
    refine ⟨_, .inr ⟨h0, L, by rw [hm]; exact hL, rfl⟩, tri_mul hs (val_range a L), ?_⟩
    have h1 : ∀ k, quadformref22_Symbol.f k a n = quadformref22_Symbol.j0 k a m (if n < 0 ∧ a < 0 then -1 else 1) := by
      intro k
      unfold quadformref22_Symbol.f
      rw [if_neg h0]
      split
      · rename_i hn0
        rw [show wrap64 (-n) = (m : Int) by rw [w64 (by omega) (by omega)]; omega]
        split
        · rw [if_pos ⟨hn0, ‹_›⟩]
        · rw [if_neg (by omega)]
      · rw [if_neg (by omega), show n = (m : Int) by omega]
    refine Ev.congr h1 (Ev.step (f := fun k => (quadformref22_Factor.f k m).bind fun bt => quadformref22_Symbol.l0 k a (if n < 0 ∧ a < 0 then -1 else 1) bt.1 (bt.1.length : Int) 0) (fun k => by simp only [quadformref22_Symbol.j0]) ?_)
    refine Ev.bind hF ?_
    simpa using hloop

theorem rkron_bad {a n : Int} (h : 2147483647 < a ∨ a < -2147483647 ∨ 2147483647 < n ∨ n < -2147483647) : Ev (fun k => quadformref22_Kronecker.f k a n) (0, 1) := by
  refine Ev.congr (f := fun _ => some (0, 1)) (fun k => ?_) (Ev.now _)
  unfold quadformref22_Kronecker.f
  repeat' split
  all_goals first | rfl | omega

theorem rkron_ok {a n : Int} (ha : -2147483647 ≤ a ∧ a ≤ 2147483647) (hn : -2147483647 ≤ n ∧ n ≤ 2147483647) : ∃ v, kr a n v ∧ (v = 1 ∨ v = 0 ∨ v = -1) ∧ Ev (fun k => quadformref22_Kronecker.f k a n) (v, 0) := by
  obtain ⟨v, h1, h2, h3⟩ := rsymbol_ok (a := a) hn
  refine ⟨v, h1, h2, ?_⟩
  refine Ev.congr (f := fun k => (quadformref22_Symbol.f k a n).bind fun t => some (t, 0)) (fun k => ?_) (Ev.bind h3 (Ev.now _))
  unfold quadformref22_Kronecker.f
  rw [if_neg (by omega), if_neg (by omega), if_neg (by omega), if_neg (by omega)]

theorem same_powers (L : List S30) (hl : L.length ≤ 100) : Ev (fun k => quadformref22_SamePowers.f k L L) true := by
  have key : ∀ (t i : Nat), L.length - i = t → i ≤ L.length → Ev (fun k => quadformref22_SamePowers.l0 k L L (L.length : Int) i) true := by
    intro t
    induction t with
    | zero =>
      intro i h1 h2
      refine Ev.step (f := fun _ => some true) (fun k => ?_) (Ev.now _)
      simp only [quadformref22_SamePowers.l0]
      rw [if_neg (by omega)]
    | succ t ih =>
      intro i h1 h2
      refine Ev.step (f := fun k => quadformref22_SamePowers.l0 k L L (L.length : Int) ((i + 1 : Nat) : Int)) (fun k => ?_) (ih (i + 1) (by omega) (by omega))
      simp only [quadformref22_SamePowers.l0]
      rw [if_pos (by omega), if_pos (by omega), if_pos (by omega), if_pos (by omega), if_neg (by simp), w64 (by omega) (by omega)]
      rfl
  refine Ev.congr (f := fun k => quadformref22_SamePowers.l0 k L L (L.length : Int) ((0 : Nat) : Int)) (fun k => ?_) (key _ 0 rfl (by omega))
  unfold quadformref22_SamePowers.f
  rw [if_pos rfl]
  rfl

theorem awake_ok : Ev (fun k => quadformlaw22_awake.f k) true := Ev.of (g := fun k => quadformlaw22_awake.f k) (fun k => quadformlaw22_awake.mono k) (k := 60) (by kernel_rfl)

end Go.Proofs.Ytcjhbjfkcmncpaa.Q
