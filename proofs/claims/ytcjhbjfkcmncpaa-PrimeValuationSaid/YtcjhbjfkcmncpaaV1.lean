/- PrimeValuation. -/
import Derived.Test.YtcjhbjfkcmncpaaN6
import Derived.Test.YtcjhbjfkcmncpaaN7
import Derived.Test.YtcjhbjfkcmncpaaC0
namespace Go.Proofs.Ytcjhbjfkcmncpaa.V
open Go Go.Proofs.Ytcjhbjfkcmncpaa.E Go.Proofs.Ytcjhbjfkcmncpaa.LI Go.Proofs.Ytcjhbjfkcmncpaa.Num
set_option linter.unusedVariables false
set_option linter.unusedSimpArgs false

theorem normalize_ok {l : List Int} (s : Bool) (u : Unit) (h : Lim l) (hb : l.length ≤ 1073741824) : integer_Normalize (s, l, u) = some (mkI (iv s l)) := by
  have hx := len_lv h
  unfold integer_Normalize
  rw [magnitude_ok s () h (by omega), Option.bind_some]
  simp only [cite, inC_t, maxL_eq, Int.toNat_natCast, List.length_replicate]
  rw [if_pos (by omega), List.take_length, List.drop_eq_nil_of_le (by simp), List.append_nil, signed_ok s (lim_limbs _) (by omega), Option.bind_some]
  have : iv s (limbs (lv l)) = iv s l := by unfold iv; rw [lv_limbs]
  rw [this]
theorem rnormalize_ok {l : List Int} (s : Bool) (u : Unit) (h : Lim l) (hb : l.length ≤ 1073741824) : quadformref01_Normalize (s, l, u) = some (mkI (iv s l)) := by
  unfold quadformref01_Normalize
  rw [make_ok s h hb, Option.bind_some]
theorem same_self (z : Int) (hz : (limbs z.natAbs).length < 17592186044416) : quadformref01_Same (mkI z) (mkI z) = some true := by
  unfold quadformref01_Same
  simp only [cite, beq_self_eq_true]
  rw [if_pos trivial, if_pos trivial, show (mkI z).2.1 = limbs z.natAbs from rfl, rcmp_ok hz, Option.bind_some, cm_eq rfl]
  rfl
theorem divmodI {z : Int} (hz : (limbs z.natAbs).length < 33554432) {p : Nat} (h0 : 0 < p) (hp : p < 4294967296) : integer_DivMod (mkI z) (mkI (p : Int)) = some (mkI (z / p), mkI (z % p), true, ()) := by
  have hl : (limbs ((p : Int)).natAbs).length ≤ 1 := limbs_len.2 (by omega)
  have hd := divmod_of (mkI z).1 (mkI (p : Int)).1 () () (lim_mkI z) (lim_mkI (p : Int)) hz (by rw [len_mkI]; omega) (by rw [iv_mkI]; omega) (by rw [lv_mkI, lv_mkI, Int.natAbs_natCast]; exact divide_one (by omega) h0 hp)
  rwa [iv_mkI, iv_mkI] at hd
theorem signI {z : Int} (hz : (limbs z.natAbs).length < 17592186044416) : integer_Sign (mkI z) = some (if z = 0 then 0 else if z < 0 then -1 else 1) := by
  have := sign_ok (mkI z).1 () (lim_mkI z) hz
  rwa [iv_mkI] at this
theorem rsignI {z : Int} (hz : (limbs z.natAbs).length ≤ 1073741824) : quadformref01_Sign (mkI z) = some (if z = 0 then 0 else if z < 0 then -1 else 1) := by
  have := rsign_ok (mkI z).1 () (lim_mkI z) hz
  rwa [iv_mkI] at this
theorem rdivmodI {z : Int} (hz : (limbs z.natAbs).length < 33554432) {p : Nat} (h0 : 0 < p) (hp : p < 4294967296) : quadformref01_DivMod (mkI z) (mkI (p : Int)) = some (mkI (z / p), mkI (z % p), true, ()) := by
  have hl : (limbs ((p : Int)).natAbs).length ≤ 1 := limbs_len.2 (by omega)
  have hd := rdivmod_ok (mkI z).1 (mkI (p : Int)).1 () () (lim_mkI z) (lim_mkI (p : Int)) hz (by rw [len_mkI]; omega) (by rw [iv_mkI]; omega)
  rwa [iv_mkI, iv_mkI] at hd
/-- One division: both see the same. -/
theorem val_step {z : Int} (hz : (limbs z.natAbs).length < 33554432) {p : Nat} (h0 : 2 ≤ p) (hp : p ≤ 2147483647) (v : Int) (b b' : Bool × List Int × Unit) :
    prime_Valuation.s0 v (mkI z) b (mkI (p : Int)) = (if z % (p : Int) = 0 then some (.inl (IntKind.wrap .i64 (v + 1), mkI (z / p), b, mkI (p : Int), ())) else some (.inr (v, 0, mkI z, ()))) ∧
    quadformref22_Valuation.s0 (p : Int) v b' (mkI z) = (if z % (p : Int) = 0 then some (.inl ((p : Int), IntKind.wrap .i64 (v + 1), b', mkI (z / p), ())) else some (.inr (v, b', mkI z, ()))) := by
  have e1 := Int.emod_nonneg z (show (p : Int) ≠ 0 by omega)
  have e2 := Int.emod_lt_of_pos z (show (0 : Int) < p by omega)
  have hlr : (limbs (z % (p : Int)).natAbs).length ≤ 1 := limbs_len.2 (by omega)
  have hlp : (limbs ((p : Int)).natAbs).length ≤ 1 := limbs_len.2 (by omega)
  have d1 : integer_DivMod ((mkI z).1, ((mkI z).2.1, ())) ((mkI (p : Int)).1, ((mkI (p : Int)).2.1, ())) = _ := divmodI hz (p := p) (by omega) (by omega)
  have d2 : quadformref01_DivMod ((mkI z).1, ((mkI z).2.1, ())) ((mkI (p : Int)).1, ((mkI (p : Int)).2.1, ())) = _ := rdivmodI hz (p := p) (by omega) (by omega)
  have s1 : integer_Sign ((mkI (z % (p : Int))).1, ((mkI (z % (p : Int))).2.1, ())) = _ := signI (z := z % (p : Int)) (by omega)
  have s2 : quadformref01_Sign (mkI (z % (p : Int))) = _ := rsignI (z := z % (p : Int)) (by omega)
  have s3 : quadformref01_Sign ((mkI (p : Int)).1, ((mkI (p : Int)).2.1, ())) = _ := rsignI (z := (p : Int)) (by omega)
  constructor
  · unfold prime_Valuation.s0
    rw [d1, Option.bind_some]
    simp only []
    rw [s1, Option.bind_some]
    simp only [prime_Valuation.j3, cite, bne_iff_ne]
    by_cases h : z % (p : Int) = 0
    · rw [if_pos h, if_pos h, if_neg (by simp)]
    · rw [if_neg h, if_neg h, if_pos (by split <;> simp)]
  · unfold quadformref22_Valuation.s0 quadformref01_Divides
    rw [rsmall_ok (by omega) (by omega), Option.bind_some]
    simp only [quadformref01_Divides.j1, quadformref01_Rem]
    rw [s3, Option.bind_some, d2, Option.bind_some]
    simp only [cite, beq_iff_eq]
    rw [if_neg (by rw [if_neg (by omega)]; split <;> simp), Option.bind_some]
    have s2' : quadformref01_Sign ((mkI (z % (p : Int))).1, ((mkI (z % (p : Int))).2.1, ())) = _ := s2
    rw [s2', Option.bind_some, Option.bind_some]
    by_cases h : z % (p : Int) = 0
    · rw [if_pos h, if_pos h, if_pos (by rfl)]
      simp only [quadformref22_Valuation.j3, quadformref01_Quo]
      rw [rsmall_ok (by omega) (by omega), Option.bind_some, d2, Option.bind_some, Option.bind_some]
    · rw [if_neg h, if_neg h, if_neg (by split <;> simp)]
theorem val_loop {p : Nat} (h0 : 2 ≤ p) (hp : p ≤ 2147483647) (b b' : Bool × List Int × Unit) : ∀ (m : Nat) (z : Int) (v : Nat), z ≠ 0 → z.natAbs < 2 ^ m → v + m ≤ 1000000 → (limbs z.natAbs).length < 33554432 →
    ∃ (w : Nat) (z' : Int), iterL (fun x : Int × (Bool × List Int × Unit) × (Bool × List Int × Unit) × (Bool × List Int × Unit) × Unit => prime_Valuation.s0 x.1 x.2.1 x.2.2.1 x.2.2.2.1) ((v : Int), mkI z, b, mkI (p : Int), ()) = some ((w : Int), 0, mkI z', ()) ∧
      iterL (fun x : Int × Int × (Bool × List Int × Unit) × (Bool × List Int × Unit) × Unit => quadformref22_Valuation.s0 x.1 x.2.1 x.2.2.1 x.2.2.2.1) ((p : Int), (v : Int), b', mkI z, ()) = some ((w : Int), b', mkI z', ()) ∧ (limbs z'.natAbs).length < 33554432 := by
  intro m
  induction m with
  | zero => intro z v hz hm; omega
  | succ m ih =>
    intro z v hz hm hv hl
    obtain ⟨t1, t2⟩ := val_step hl h0 hp (v : Int) b b'
    by_cases h : z % (p : Int) = 0
    · rw [if_pos h] at t1 t2
      have hzz : z = (p : Int) * (z / p) := by have := Int.mul_ediv_add_emod z p; omega
      have hq0 : z / (p : Int) ≠ 0 := by
        intro h9
        rw [h9, Int.mul_zero] at hzz
        exact hz hzz
      have hna : z.natAbs = p * (z / (p : Int)).natAbs := by
        have h9 := congrArg Int.natAbs hzz
        rwa [Int.natAbs_mul, Int.natAbs_natCast] at h9
      have h2 : 2 * (z / (p : Int)).natAbs ≤ z.natAbs := by rw [hna]; exact Nat.mul_le_mul_right _ h0
      rw [Nat.pow_succ] at hm
      rw [up (by omega)] at t1 t2
      obtain ⟨w, z', q1, q2, q3⟩ := ih (z / p) (v + 1) hq0 (by omega) (by omega) (Nat.lt_of_le_of_lt (len_le (by omega)) hl)
      exact ⟨w, z', (iterL_next t1).trans q1, (iterL_next t2).trans q2, q3⟩
    · rw [if_neg h] at t1 t2
      exact ⟨v, z, iterL_done t1, iterL_done t2, hl⟩
theorem val_same {l : List Int} (s : Bool) (h : Lim l) (hb : l.length ≤ 20) (p : Int) : ∃ (v : Int) (z : Int) (c : Int), (limbs z.natAbs).length < 33554432 ∧ prime_Valuation (s, l, ()) p = some (v, mkI z, c, ()) ∧ quadformref22_Valuation (s, l, ()) p = some (v, mkI z, c, ()) := by
  obtain ⟨b, hb1, hb2⟩ := is_any p
  unfold prime_Valuation quadformref22_Valuation
  rw [ref_is, hb2, Option.bind_some, Option.bind_some]
  cases b with
  | false => exact ⟨0, 0, 20, by decide, rfl, rfl⟩
  | true =>
    obtain ⟨h1, h2, h3⟩ := hb1.1 rfl
    obtain ⟨q, rfl⟩ : ∃ q : Nat, p = q := ⟨p.toNat, by omega⟩
    simp only [prime_Valuation.j1, quadformref22_Valuation.j1, cite, beq_iff_eq, Bool.not_true]
    rw [if_neg (by decide), if_neg (by decide), sign_ok s () h (by omega), rsign_ok s () h (by omega), Option.bind_some, Option.bind_some]
    by_cases hz : iv s l = 0
    · rw [if_pos hz, if_pos rfl, if_pos rfl]
      exact ⟨0, 0, 1, by decide, rfl, rfl⟩
    · have hn : ¬ (if iv s l = 0 then (0 : Int) else if iv s l < 0 then -1 else 1) = 0 := by rw [if_neg hz]; split <;> simp
      rw [if_neg hn, if_neg hn]
      simp only [prime_Valuation.j2, quadformref22_Valuation.j2]
      rw [normalize_ok s () h (by omega), rnormalize_ok s () h (by omega), Option.bind_some, Option.bind_some, small_ok (by omega) (by omega), Option.bind_some]
      have hlv := lv_lt h
      have hle := len_lv h
      obtain ⟨k, hk, h640⟩ : ∃ k, k ≤ 1000 ∧ lv l < 2 ^ k := by
        rw [show (4294967296 : Nat) = 2 ^ 32 from rfl, ← Nat.pow_mul] at hlv
        exact ⟨32 * l.length, by omega, hlv⟩
      obtain ⟨w, z', q1, q2, q3⟩ := val_loop (p := q) (by omega) (by omega) (false, ([], ())) (false, ([], ())) k (iv s l) 0 hz (by rw [iv_natAbs]; exact h640) (by omega) (by rw [iv_natAbs]; omega)
      have q1' : iterL (fun x : Int × (Bool × List Int × Unit) × (Bool × List Int × Unit) × (Bool × List Int × Unit) × Unit => prime_Valuation.s0 x.1 x.2.1 x.2.2.1 x.2.2.2.1) ((0 : Int), ((mkI (iv s l)).1, ((mkI (iv s l)).2.1, ())), (false, (([] : List Int), ())), ((mkI (q : Int)).1, ((mkI (q : Int)).2.1, ())), ()) = _ := q1
      have q2' : iterL (fun x : Int × Int × (Bool × List Int × Unit) × (Bool × List Int × Unit) × Unit => quadformref22_Valuation.s0 x.1 x.2.1 x.2.2.1 x.2.2.2.1) ((q : Int), (0 : Int), (false, (([] : List Int), ())), ((mkI (iv s l)).1, ((mkI (iv s l)).2.1, ())), ()) = _ := q2
      rw [q1', q2', Option.bind_some, Option.bind_some]
      exact ⟨w, z', 0, q3, rfl, rfl⟩
theorem awake_ok : quadformlaw22_awake = some true := c_quadformlaw22_awake.le 100 true (by kernel_rfl)
theorem scene_ok {t : Int} (h0 : 0 ≤ t) (h1 : t < 256) : ∃ p, quadformscene_Prime t = some p := by
  have e : Int.tmod (IntKind.wrap .i64 t) 20 = t % 20 := by
    rw [wi64 (by omega) (by omega), Int.tmod_eq_emod_of_nonneg h0]
  unfold quadformscene_Prime
  simp only [List.length_cons, List.length_nil, cite, decide_eq_true_eq, inB_t]
  rw [if_neg (by decide), if_pos (by
    show 0 ≤ Int.tmod (IntKind.wrap .i64 t) 20 ∧ Int.tmod (IntKind.wrap .i64 t) 20 < 20
    rw [e]; omega)]
  exact ⟨_, rfl⟩
theorem PrimeValuation {s b : Bool} {l : List Int} {t p : Int} (h : Lim l) (h0 : 0 ≤ t) (h1 : t < 256) : quadformlaw22_PrimeValuation (s, l, ()) t p b = some true := by
  unfold quadformlaw22_PrimeValuation
  simp only [quadformlaw22_long, Option.bind_some, awake_ok, cite, decide_eq_true_eq]
  by_cases hl : ((List.length l : Nat) : Int) > 20
  · rw [if_pos hl]
  · rw [if_neg hl]
    obtain ⟨q, hq⟩ := scene_ok h0 h1
    simp only [quadformlaw22_PrimeValuation.j1, hq, Option.bind_some, cite]
    have key : ∀ r : Int, quadformlaw22_PrimeValuation.j2 r s l = some true := fun r => by
      obtain ⟨v, z, c, h2, h3, h4⟩ := val_same s h (by omega) r
      have hs := same_self z (by omega)
      have hs' : quadformref01_Same ((mkI z).1, ((mkI z).2.1, ())) ((mkI z).1, ((mkI z).2.1, ())) = some true := hs
      simp only [quadformlaw22_PrimeValuation.j2]
      rw [h3, h4, Option.bind_some, Option.bind_some]
      simp only [beq_self_eq_true, cond_true]
      rw [hs', Option.bind_some, awake_ok]
      rfl
    rw [key, key]
    split <;> rfl
end Go.Proofs.Ytcjhbjfkcmncpaa.V
