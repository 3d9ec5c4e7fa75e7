/- Laws: words of 64 bits, residues. -/
import Derived.Test.YtcjhbjfkcmncpabN6
namespace Go.Proofs.Ytcjhbjfkcmncpab.V
open Go Go.Proofs.Ytcjhbjfkcmncpab.E Go.Proofs.Ytcjhbjfkcmncpab.LI
set_option linter.unusedVariables false
set_option linter.unusedSimpArgs false

/-! ## words of 64 bits -/
theorem low_or {l : List Int} (hl : Lim l) {u i : Nat} (h2 : i < 2) (hu : u < 4294967296 ^ i) : orI .u64 (u : Int) (shlI .u64 ((dg l i : Nat) : Int) (32 * (i : Int))) = ((u + 4294967296 ^ i * dg l i : Nat) : Int) := by
  have hd := dg_lt hl i
  have h3 : i = 0 ∨ i = 1 := by omega
  rcases h3 with rfl | rfl
  · have hu0 : u = 0 := by simpa using hu
    subst hu0
    have := @shl_nat (dg l 0) 0 (by omega) (by omega)
    rw [show ((0 : Nat) : Int) = 0 from rfl] at this
    rw [show (32 : Int) * ((0 : Nat) : Int) = 0 from rfl, this, orI_nat _ _ (by omega) (by omega)]
    simp
  · have hu1 : u < 4294967296 := by simpa using hu
    have := @shl_nat (dg l 1) 32 (by omega) (by omega)
    rw [show ((32 : Nat) : Int) = 32 from rfl] at this
    rw [show (32 : Int) * ((1 : Nat) : Int) = 32 from rfl, this, orI_nat _ _ (by omega) (by omega), Nat.or_comm, ← Nat.two_pow_add_eq_or_of_lt (by omega) (dg l 1)]
    omega
theorem i64_loop {l : List Int} (hl : Lim l) (h2 : l.length ≤ 2) (b : Bool × List Int × Unit) : ∀ (t i : Nat), l.length - i = t → i ≤ l.length →
    iterL (fun x : List Int × Int × Int × Int × (Bool × List Int × Unit) × Unit => integer_Int64.s0 x.1 x.2.1 x.2.2.1 x.2.2.2.1 x.2.2.2.2.1) (l, ((lv (l.take i) : Nat) : Int), (l.length : Int), (i : Int), b, ()) = some (((lv l : Nat) : Int), b, ()) := by
  intro t
  induction t with
  | zero =>
    intro i ht hi
    obtain rfl : i = l.length := by omega
    refine iterL_done ?_
    simp only [integer_Int64.s0, cite, decide_eq_true_eq]
    rw [if_neg (by omega), List.take_length]
  | succ t ih =>
    intro i ht hi
    have hd := dg_lt hl i
    have hu := lv_lt (hl.take i)
    rw [List.length_take, Nat.min_eq_left hi] at hu
    refine (iterL_next ?_).trans (ih (i + 1) (by omega) (by omega))
    simp only [integer_Int64.s0, integer_Int64.j2, cite, decide_eq_true_eq, inB_t]
    rw [if_pos (by omega), if_pos (by omega), Int.toNat_natCast, gd hl, wi64 (x := 32 * (i : Int)) (by omega) (by omega), if_neg (by omega), wu64' (by omega) (by omega), low_or hl (by omega) hu, up (by omega), lv_take_succ]
theorem int64_ok {z : Int} (h0 : 0 ≤ z) (h1 : z ≤ 9223372036854775807) : integer_Int64 ((mkI z).1, (mkI z).2.1, ()) = some (z, true, ()) := by
  have hl : (limbs z.natAbs).length ≤ 2 := limbs_len.2 (by omega)
  unfold integer_Int64
  rw [magnitude_ok _ () (lim_mkI z) (by rw [len_mkI]; omega), Option.bind_some, lv_mkI]
  simp only [integer_Int64.j1, integer_Int64.k0, cite, decide_eq_true_eq]
  have hp := i64_loop (lim_limbs z.natAbs) hl (mkI z) _ 0 rfl (Nat.zero_le _)
  rw [show ((lv ((limbs z.natAbs).take 0) : Nat) : Int) = 0 from rfl, lv_limbs, show ((0 : Nat) : Int) = 0 from rfl] at hp
  have hp' : iterL (fun x : List Int × Int × Int × Int × (Bool × List Int × Unit) × Unit => integer_Int64.s0 x.1 x.2.1 x.2.2.1 x.2.2.2.1 x.2.2.2.2.1) (limbs z.natAbs, 0, ((limbs z.natAbs).length : Int), 0, ((mkI z).1, (mkI z).2.1, ()), ()) = some (((z.natAbs : Nat) : Int), mkI z, ()) := hp
  rw [if_neg (by omega), hp', Option.bind_some]
  have hneg : (mkI z).1 = false := decide_eq_false (by omega)
  simp only [hneg]
  rw [if_neg (by decide), if_pos (by decide), if_pos (by omega), wi64 (by omega) (by omega), show ((z.natAbs : Nat) : Int) = z by omega]
theorem rint64_ok {z : Int} (h0 : 0 ≤ z) (h1 : z ≤ 9223372036854775807) : quadformref01_Int64 (mkI z) = some (z, true, ()) := by
  have hl : (limbs z.natAbs).length ≤ 2 := limbs_len.2 (by omega)
  unfold quadformref01_Int64
  rw [rtrim_ok (lim_mkI z) (by rw [len_mkI]; omega), Option.bind_some, lv_mkI, low_ok (lim_limbs _), Option.bind_some, List.take_of_length_le hl, lv_limbs]
  simp only [quadformref01_Int64.j1, quadformref01_Int64.j2, quadformref01_Int64.j3, cite, decide_eq_true_eq]
  have hneg : (mkI z).1 = false := decide_eq_false (by omega)
  simp only [hneg]
  rw [if_neg (by omega), if_neg (by decide), if_pos (by decide), if_pos (by omega), wi64 (by omega) (by omega), show ((z.natAbs : Nat) : Int) = z by omega]

/-! ## residues -/
theorem small_res {l : List Int} (s : Bool) (u : Unit) (h : Lim l) (hb : l.length < 33554432) {p : Int} (hp : 0 < p) (hp2 : p ≤ 2147483647) : prime_small (s, l, u) p = some (iv s l % p) := by
  have h1 := Int.emod_nonneg (iv s l) (show p ≠ 0 by omega)
  have h2 := Int.emod_lt_of_pos (iv s l) hp
  have hl1 : (limbs p.natAbs).length ≤ 1 := limbs_len.2 (by omega)
  unfold prime_small
  rw [small_ok (by omega) (by omega), Option.bind_some]
  have hd := divmod_of s (mkI p).1 () () h (lim_mkI p) hb (by rw [len_mkI]; omega) (by rw [iv_mkI]; omega) (by rw [lv_mkI]; exact divide_one (by have := len_lv h; omega) (by omega) (by omega))
  rw [iv_mkI] at hd
  have hd' : integer_DivMod (s, l, ()) (mkI p) = some (mkI (iv s l / p), mkI (iv s l % p), true, ()) := hd
  rw [hd', Option.bind_some]
  simp only []
  rw [int64_ok h1 (by omega), Option.bind_some]
theorem ref_res {l : List Int} (s : Bool) (u : Unit) (h : Lim l) (hb : l.length < 33554432) {p : Int} (hp : 0 < p) (hp2 : p ≤ 2147483647) : quadformref22_Residue (s, l, u) p = some (iv s l % p) := by
  have h1 := Int.emod_nonneg (iv s l) (show p ≠ 0 by omega)
  have h2 := Int.emod_lt_of_pos (iv s l) hp
  have hl1 : (limbs p.natAbs).length ≤ 1 := limbs_len.2 (by omega)
  unfold quadformref22_Residue
  rw [rsmall_ok (by omega) (by omega), Option.bind_some]
  have hd := rrem_ok s (mkI p).1 () () h (lim_mkI p) hb (by rw [len_mkI]; omega) (by rw [iv_mkI]; omega)
  rw [iv_mkI] at hd
  have hd' : quadformref01_Rem (s, l, ()) (mkI p) = some (mkI (iv s l % p)) := hd
  rw [hd', Option.bind_some, rint64_ok h1 (by omega), Option.bind_some]
end Go.Proofs.Ytcjhbjfkcmncpab.V
