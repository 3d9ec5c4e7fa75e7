/- Laws: quotient and remainder of integer (a divisor of one word), words of 64 bits, residues. -/
import Derived.Test.YtcjhbjfkcmncpabN5
namespace Go.Proofs.Ytcjhbjfkcmncpab.V
open Go Go.Proofs.Ytcjhbjfkcmncpab.E Go.Proofs.Ytcjhbjfkcmncpab.LI
set_option linter.unusedVariables false
set_option linter.unusedSimpArgs false

theorem limbs_one {N : Nat} (h : 0 < N) (h2 : N < 4294967296) : limbs N = [(N : Int)] := by
  rw [limbs_pos (by omega), Nat.mod_eq_of_lt h2, Nat.div_eq_of_lt h2, limbs_zero]
theorem divide_small {M N : Nat} (hM : (limbs M).length ≤ 1073741824) (h : M < N) : integer_divide (limbs M) (limbs N) = some (limbs (M / N), limbs (M % N), ()) := by
  unfold integer_divide
  rw [compare_ok (by omega), Option.bind_some]
  simp only [cite, decide_eq_true_eq]
  rw [cm_lt (by omega), if_pos (by decide), if_pos (show (limbs M).length ≤ maxL from hM), Nat.div_eq_of_lt h, Nat.mod_eq_of_lt h, limbs_zero]
theorem divide_one {M N : Nat} (hM : (limbs M).length ≤ 1073741824) (hN : 0 < N) (hN2 : N < 4294967296) : integer_divide (limbs M) (limbs N) = some (limbs (M / N), limbs (M % N), ()) := by
  by_cases h : M < N
  · exact divide_small hM h
  · unfold integer_divide
    rw [compare_ok (by omega), Option.bind_some]
    simp only [integer_divide.j1, cite, decide_eq_true_eq, inB_t, beq_iff_eq]
    have hr : M % N < N := Nat.mod_lt _ hN
    have hc : ¬ cm (M : Int) (N : Int) < 0 := by unfold cm; split <;> (try split) <;> omega
    have ht : integer_trim [((M % N : Nat) : Int)] = some (limbs (M % N)) := by
      have h1 : Lim [((M % N : Nat) : Int)] := Lim.one (by omega)
      rw [trim_ok h1 (by simp), lv_one, Int.toNat_natCast]
    have hs := shortDivide_ok (lim_limbs M) hM hN hN2
    rw [lv_limbs] at hs
    rw [if_neg hc, limbs_one hN hN2]
    simp only [List.length_singleton, List.getD_cons_zero]
    rw [if_pos (by decide), if_pos (by decide), hs, Option.bind_some, ht, Option.bind_some]
theorem divmod_of {l l' : List Int} (s s' : Bool) (u u' : Unit) (h : Lim l) (h' : Lim l') (hb : l.length < 33554432) (hb' : l'.length < 33554432) (h0 : iv s' l' ≠ 0)
    (hdv : integer_divide (limbs (lv l)) (limbs (lv l')) = some (limbs (lv l / lv l'), limbs (lv l % lv l'), ())) :
    integer_DivMod (s, l, u) (s', l', u') = some (mkI (iv s l / iv s' l'), mkI (iv s l % iv s' l'), true, ()) := by
  have hx := len_lv h
  have hy := len_lv h'
  have hN : 0 < lv l' := by unfold iv at h0; split at h0 <;> omega
  unfold integer_DivMod
  rw [magnitude_ok s' () h' (by omega), Option.bind_some]
  simp only [cite, beq_iff_eq, limbs_len0]
  rw [if_neg (by omega)]
  simp only [integer_DivMod.j1, integer_DivMod.j2, cite, decide_eq_true_eq]
  rw [magnitude_ok s () h (by omega), Option.bind_some, hdv, Option.bind_some]
  generalize hM' : lv l = M at *
  generalize hN' : lv l' = N at *
  have hqM : M / N ≤ M := Nat.div_le_self _ _
  have hrM : M % N < N := Nat.mod_lt _ hN
  have hdm := Nat.div_add_mod M N
  have hlq := len_le hqM
  have hlr := len_le (Nat.le_of_lt hrM)
  generalize M / N = q at *
  generalize M % N = r at *
  have hiv : iv s' l' = if s' = true then -(N : Int) else N := by unfold iv; rw [hN']
  have hia : iv s l = if s = true then -(M : Int) else M := by unfold iv; rw [hM']
  have hab : (iv s' l').natAbs = N := by rw [iv_natAbs, hN']
  have hdz : (N : Int) * (q : Int) + (r : Int) = M := by exact_mod_cast hdm
  have fin : ∀ (Q R : Nat), (limbs Q).length < 17592186044416 → (limbs R).length < 17592186044416 → iv (!(s == s')) (limbs Q) = iv s l / iv s' l' → (R : Int) = iv s l % iv s' l' →
      ((integer_signed (!(s == s')) (limbs Q)).bind fun y8 => (integer_signed false (limbs R)).bind fun y9 => some ((y8.1, (y8.2.1, ())), ((y9.1, (y9.2.1, ())), (true, ())))) = some (mkI (iv s l / iv s' l'), mkI (iv s l % iv s' l'), true, ()) := by
    intro Q R h1 h2 h3 h4
    rw [signed_ok _ (lim_limbs Q) h1, Option.bind_some, signed_ok _ (lim_limbs R) h2, Option.bind_some, h3, iv_f, lv_limbs, h4]
  cases hs : s with
  | true =>
    rw [if_pos rfl]
    rw [hs] at hia fin
    rw [if_pos rfl] at hia
    have hlen0 := limbs_len0 r
    by_cases hr0 : r = 0
    · rw [if_neg (by show ¬ (((limbs r).length : Nat) : Int) > 0; rw [hr0]; decide)]
      have := ediv_of (a := iv true l) (b := iv s' l') (Q := iv (!(true == s')) (limbs q)) (R := (r : Int)) (by
        rw [hia, hiv]; cases s'
        · rw [show (!(true == false)) = true from rfl, iv_t, lv_limbs]; simp only [Bool.false_eq_true, if_false, Int.mul_neg]; omega
        · rw [show (!(true == true)) = false from rfl, iv_f, lv_limbs]; simp only [if_true, Int.neg_mul]; omega) (by omega) (by rw [hab]; omega) h0
      exact fin q r (by omega) (by omega) this.1.symm this.2.symm
    · have hpl := limbs_len_pos.2 hr0
      have hp := plus_ok (lim_limbs q) (n := [1]) (Lim.one (by omega)) (by omega) (by simp)
      rw [lv_limbs, lv_one] at hp
      have hmn := minus_ok (lim_limbs N) (lim_limbs r) (by omega) hlr (by rw [lv_limbs, lv_limbs]; omega)
      rw [lv_limbs, lv_limbs] at hmn
      rw [if_pos (show (((limbs r).length : Nat) : Int) > 0 by omega), hp, Option.bind_some, hmn, Option.bind_some]
      have := ediv_of (a := iv true l) (b := iv s' l') (Q := iv (!(true == s')) (limbs (q + 1))) (R := ((N - r : Nat) : Int)) (by
        rw [hia, hiv]; cases s'
        · rw [show (!(true == false)) = true from rfl, iv_t, lv_limbs]; simp only [Bool.false_eq_true, if_false, Int.mul_neg, Int.natCast_add, Int.natCast_one, Int.mul_add, Int.mul_one]; omega
        · rw [show (!(true == true)) = false from rfl, iv_f, lv_limbs]; simp only [if_true, Int.neg_mul, Int.natCast_add, Int.natCast_one, Int.mul_add, Int.mul_one]; omega) (by omega) (by rw [hab]; omega) h0
      have hq1 : (limbs (q + 1)).length ≤ (limbs q).length + 1 := limbs_len.2 (by
        have := limbs_len.1 (Nat.le_refl (limbs q).length)
        rw [Nat.pow_succ]; omega)
      have hnr := len_le (show N - r ≤ N by omega)
      exact fin (q + 1) (N - r) (by omega) (by omega) this.1.symm this.2.symm
  | false =>
    rw [if_neg (by decide)]
    rw [hs] at hia fin
    rw [if_neg (by decide)] at hia
    have := ediv_of (a := iv false l) (b := iv s' l') (Q := iv (!(false == s')) (limbs q)) (R := (r : Int)) (by
        rw [hia, hiv]; cases s'
        · rw [show (!(false == false)) = false from rfl, iv_f, lv_limbs]; simp only [Bool.false_eq_true, if_false]; omega
        · rw [show (!(false == true)) = true from rfl, iv_t, lv_limbs]; simp only [if_true, Int.neg_mul, Int.mul_neg, Int.neg_neg]; omega) (by omega) (by rw [hab]; omega) h0
    exact fin q r (by omega) (by omega) this.1.symm this.2.symm

/-! ## words of 64 bits -/
theorem low_or {l : List Int} (hl : Lim l) {u i : Nat} (h2 : i < 2) (hu : u < 4294967296 ^ i) : orI .u64 (u : Int) (shlI .u64 ((dg l i : Nat) : Int) (32 * (i : Int))) = ((u + 4294967296 ^ i * dg l i : Nat) : Int) := by
  have hd := dg_lt hl i
  have h3 : i = 0 ∨ i = 1 := by omega
  rcases h3 with rfl | rfl
  · have hu0 : u = 0 := by simpa using hu
    subst hu0
    have := @shl_nat (dg l 0) 0 (by omega) (by omega)
    rw [show ((0 : Nat) : Int) = 0 from rfl] at this
    rw [show (32 : Int) * ((0 : Nat) : Int) = 0 from rfl, this, orI_nat _ _ (by omega) (by omega)]
    simp
  · have hu1 : u < 4294967296 := by simpa using hu
    have := @shl_nat (dg l 1) 32 (by omega) (by omega)
    rw [show ((32 : Nat) : Int) = 32 from rfl] at this
    rw [show (32 : Int) * ((1 : Nat) : Int) = 32 from rfl, this, orI_nat _ _ (by omega) (by omega), Nat.or_comm, ← Nat.two_pow_add_eq_or_of_lt (by omega) (dg l 1)]
    omega
theorem i64_loop {l : List Int} (hl : Lim l) (h2 : l.length ≤ 2) (b : Bool × List Int × Unit) : ∀ (t i : Nat), l.length - i = t → i ≤ l.length →
    iterL (fun x : List Int × Int × Int × Int × (Bool × List Int × Unit) × Unit => integer_Int64.s0 x.1 x.2.1 x.2.2.1 x.2.2.2.1 x.2.2.2.2.1) (l, ((lv (l.take i) : Nat) : Int), (l.length : Int), (i : Int), b, ()) = some (((lv l : Nat) : Int), b, ()) := by
  intro t
  induction t with
  | zero =>
    intro i ht hi
    obtain rfl : i = l.length := by omega
    refine iterL_done ?_
    simp only [integer_Int64.s0, cite, decide_eq_true_eq]
    rw [if_neg (by omega), List.take_length]
  | succ t ih =>
    intro i ht hi
    have hd := dg_lt hl i
    have hu := lv_lt (hl.take i)
    rw [List.length_take, Nat.min_eq_left hi] at hu
    refine (iterL_next ?_).trans (ih (i + 1) (by omega) (by omega))
    simp only [integer_Int64.s0, integer_Int64.j2, cite, decide_eq_true_eq, inB_t]
    rw [if_pos (by omega), if_pos (by omega), Int.toNat_natCast, gd hl, wi64 (x := 32 * (i : Int)) (by omega) (by omega), if_neg (by omega), wu64' (by omega) (by omega), low_or hl (by omega) hu, up (by omega), lv_take_succ]
theorem int64_ok {z : Int} (h0 : 0 ≤ z) (h1 : z ≤ 9223372036854775807) : integer_Int64 ((mkI z).1, (mkI z).2.1, ()) = some (z, true, ()) := by
  have hl : (limbs z.natAbs).length ≤ 2 := limbs_len.2 (by omega)
  unfold integer_Int64
  rw [magnitude_ok _ () (lim_mkI z) (by rw [len_mkI]; omega), Option.bind_some, lv_mkI]
  simp only [integer_Int64.j1, integer_Int64.k0, cite, decide_eq_true_eq]
  have hp := i64_loop (lim_limbs z.natAbs) hl (mkI z) _ 0 rfl (Nat.zero_le _)
  rw [show ((lv ((limbs z.natAbs).take 0) : Nat) : Int) = 0 from rfl, lv_limbs, show ((0 : Nat) : Int) = 0 from rfl] at hp
  have hp' : iterL (fun x : List Int × Int × Int × Int × (Bool × List Int × Unit) × Unit => integer_Int64.s0 x.1 x.2.1 x.2.2.1 x.2.2.2.1 x.2.2.2.2.1) (limbs z.natAbs, 0, ((limbs z.natAbs).length : Int), 0, ((mkI z).1, (mkI z).2.1, ()), ()) = some (((z.natAbs : Nat) : Int), mkI z, ()) := hp
  rw [if_neg (by omega), hp', Option.bind_some]
  have hneg : (mkI z).1 = false := decide_eq_false (by omega)
  simp only [hneg]
  rw [if_neg (by decide), if_pos (by decide), if_pos (by omega), wi64 (by omega) (by omega), show ((z.natAbs : Nat) : Int) = z by omega]
theorem rint64_ok {z : Int} (h0 : 0 ≤ z) (h1 : z ≤ 9223372036854775807) : quadformref01_Int64 (mkI z) = some (z, true, ()) := by
  have hl : (limbs z.natAbs).length ≤ 2 := limbs_len.2 (by omega)
  unfold quadformref01_Int64
  rw [rtrim_ok (lim_mkI z) (by rw [len_mkI]; omega), Option.bind_some, lv_mkI, low_ok (lim_limbs _), Option.bind_some, List.take_of_length_le hl, lv_limbs]
  simp only [quadformref01_Int64.j1, quadformref01_Int64.j2, quadformref01_Int64.j3, cite, decide_eq_true_eq]
  have hneg : (mkI z).1 = false := decide_eq_false (by omega)
  simp only [hneg]
  rw [if_neg (by omega), if_neg (by decide), if_pos (by decide), if_pos (by omega), wi64 (by omega) (by omega), show ((z.natAbs : Nat) : Int) = z by omega]

/-! ## residues -/
theorem small_res {l : List Int} (s : Bool) (u : Unit) (h : Lim l) (hb : l.length < 33554432) {p : Int} (hp : 0 < p) (hp2 : p ≤ 2147483647) : prime_small (s, l, u) p = some (iv s l % p) := by
  have h1 := Int.emod_nonneg (iv s l) (show p ≠ 0 by omega)
  have h2 := Int.emod_lt_of_pos (iv s l) hp
  have hl1 : (limbs p.natAbs).length ≤ 1 := limbs_len.2 (by omega)
  unfold prime_small
  rw [small_ok (by omega) (by omega), Option.bind_some]
  have hd := divmod_of s (mkI p).1 () () h (lim_mkI p) hb (by rw [len_mkI]; omega) (by rw [iv_mkI]; omega) (by rw [lv_mkI]; exact divide_one (by have := len_lv h; omega) (by omega) (by omega))
  rw [iv_mkI] at hd
  have hd' : integer_DivMod (s, l, ()) (mkI p) = some (mkI (iv s l / p), mkI (iv s l % p), true, ()) := hd
  rw [hd', Option.bind_some]
  simp only []
  rw [int64_ok h1 (by omega), Option.bind_some]
theorem ref_res {l : List Int} (s : Bool) (u : Unit) (h : Lim l) (hb : l.length < 33554432) {p : Int} (hp : 0 < p) (hp2 : p ≤ 2147483647) : quadformref22_Residue (s, l, u) p = some (iv s l % p) := by
  have h1 := Int.emod_nonneg (iv s l) (show p ≠ 0 by omega)
  have h2 := Int.emod_lt_of_pos (iv s l) hp
  have hl1 : (limbs p.natAbs).length ≤ 1 := limbs_len.2 (by omega)
  unfold quadformref22_Residue
  rw [rsmall_ok (by omega) (by omega), Option.bind_some]
  have hd := rrem_ok s (mkI p).1 () () h (lim_mkI p) hb (by rw [len_mkI]; omega) (by rw [iv_mkI]; omega)
  rw [iv_mkI] at hd
  have hd' : quadformref01_Rem (s, l, ()) (mkI p) = some (mkI (iv s l % p)) := hd
  rw [hd', Option.bind_some, rint64_ok h1 (by omega), Option.bind_some]
end Go.Proofs.Ytcjhbjfkcmncpab.V
