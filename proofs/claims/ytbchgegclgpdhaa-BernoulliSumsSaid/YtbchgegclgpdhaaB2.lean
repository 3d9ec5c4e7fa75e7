/- Bernoulli polynomials: what the program computes, and their laws. -/
import Derived.Test.YtbchgegclgpdhaaB1
namespace Go.Proofs.Ytbchgegclgpdhaa.V
open Go Go.Proofs.Ytbchgegclgpdhaa.E Go.Proofs.Ytbchgegclgpdhaa.LI
set_option linter.unusedVariables false
set_option linter.unusedSimpArgs false

/-! ## polynomials as lists of coefficients, the constant one first -/
def ev : List Rat → Rat → Rat
  | [], _ => 0
  | c :: r, x => c + x * ev r x
def padd : List Rat → List Rat → List Rat
  | [], m => m
  | l, [] => l
  | a :: l, b :: m => (a + b) :: padd l m
def pscale (a : Rat) (l : List Rat) : List Rat := l.map (a * ·)
def pcomp (b a : Rat) : List Rat → List Rat
  | [] => []
  | c :: r => padd [c] (padd (pscale b (pcomp b a r)) (0 :: pscale a (pcomp b a r)))
def pzero (l : List Rat) : Bool := l.all fun c => decide (c.num = 0)
theorem ev_padd : ∀ (l m : List Rat) (x : Rat), ev (padd l m) x = ev l x + ev m x
  | [], m, x => by simp [padd, ev, Rat.zero_add]
  | a :: l, [], x => by simp [padd, ev, Rat.add_zero]
  | a :: l, b :: m, x => by
    rw [padd, ev, ev, ev, ev_padd l m x]
    grind
theorem ev_pscale (a : Rat) : ∀ (l : List Rat) (x : Rat), ev (pscale a l) x = a * ev l x
  | [], x => by simp [pscale, ev, Rat.mul_zero]
  | c :: l, x => by
    have h := ev_pscale a l x
    unfold pscale at h ⊢
    rw [List.map_cons, ev, ev, h]
    grind
theorem ev_pcomp (b a : Rat) : ∀ (l : List Rat) (x : Rat), ev (pcomp b a l) x = ev l (b + a * x)
  | [], x => rfl
  | c :: l, x => by
    rw [pcomp, ev_padd, ev_padd, ev_pscale, ev, ev, ev, ev_pscale, ev_pcomp b a l x, ev]
    grind
theorem ev_zero : ∀ {l : List Rat}, pzero l = true → ∀ x, ev l x = 0
  | [], _, x => rfl
  | c :: l, h, x => by
    unfold pzero at h
    rw [List.all_cons, Bool.and_eq_true, decide_eq_true_eq] at h
    rw [ev, ev_zero (l := l) h.2 x, Rat.num_eq_zero.1 h.1]
    grind
/-- x to the n. -/
def pmono (n : Nat) : List Rat := List.replicate n 0 ++ [1]
theorem ev_pmono : ∀ (n : Nat) (x : Rat), ev (pmono n) x = x ^ n
  | 0, x => by
    rw [Rat.pow_zero]
    show 1 + x * 0 = 1
    grind
  | n + 1, x => by
    rw [Rat.pow_succ, ← ev_pmono n x]
    show 0 + x * ev (pmono n) x = _
    grind

/-! ## the polynomials -/
/-- The coefficients, that of x^k first. -/
def pc (k i : Nat) : Rat := ((bin k i : Int) : Rat) * (bern k).getD i 0
def psum (k : Nat) (x : Rat) : Nat → Rat
  | 0 => 0
  | i + 1 => psum k x i + ((bin k i : Int) : Rat) * ((bern k).getD i 0 * x ^ (k - i))
def pol (k : Nat) (x : Rat) : Rat := psum k x (k + 1)
/-- The list of the first m, the last of them first. -/
def coefs (k : Nat) : Nat → List Rat
  | 0 => []
  | m + 1 => pc k m :: coefs k m
theorem psum_ev (k : Nat) (x : Rat) : ∀ m, m ≤ k + 1 → psum k x m = ev (coefs k m) x * x ^ (k + 1 - m)
  | 0, _ => by
    show (0 : Rat) = 0 * x ^ (k + 1 - 0)
    rw [Rat.zero_mul]
  | m + 1, h => by
    have ih := psum_ev k x m (by omega)
    have e : x ^ (k + 1 - m) = x ^ (k - m) * x := by rw [← Rat.pow_succ, show k - m + 1 = k + 1 - m by omega]
    rw [e] at ih
    rw [psum, coefs, ev, show k + 1 - (m + 1) = k - m by omega, ih]
    unfold pc
    generalize x ^ (k - m) = y
    generalize ev (coefs k m) x = z
    generalize ((bin k m : Int) : Rat) = a
    generalize (bern k).getD m 0 = b
    grind
theorem pol_ev (k : Nat) (x : Rat) : pol k x = ev (coefs k (k + 1)) x := by
  unfold pol
  rw [psum_ev k x (k + 1) (Nat.le_refl _), Nat.sub_self, Rat.pow_zero, Rat.mul_one]
theorem steps_tab : ((List.range 20).all fun m => pzero (padd (pcomp 1 1 (coefs (m + 1) (m + 2))) (padd (pscale (-1) (coefs (m + 1) (m + 2))) (pscale (-((m + 1 : Nat) : Rat)) (pmono m))))) = true := by decide +kernel
theorem sym_tab : ((List.range 21).all fun m => pzero (padd (pcomp 1 (-1) (coefs m (m + 1))) (pscale (if m % 2 = 1 then 1 else -1) (coefs m (m + 1))))) = true := by decide +kernel
theorem pol_step {m : Nat} (hm : m < 20) (x : Rat) : pol (m + 1) (x + 1) - pol (m + 1) x = ((m + 1 : Nat) : Rat) * x ^ m := by
  have h := ev_zero (List.all_eq_true.1 steps_tab m (List.mem_range.2 hm)) x
  rw [ev_padd, ev_padd, ev_pcomp, ev_pscale, ev_pscale, ev_pmono] at h
  rw [pol_ev, pol_ev, show x + 1 = 1 + 1 * x by grind]
  generalize ev (coefs (m + 1) (m + 1 + 1)) (1 + 1 * x) = a at h ⊢
  generalize ev (coefs (m + 1) (m + 1 + 1)) x = b at h ⊢
  generalize x ^ m = c at h ⊢
  generalize ((m + 1 : Nat) : Rat) = d at h ⊢
  grind
theorem pol_sym {m : Nat} (hm : m < 21) (x : Rat) : pol m (1 - x) = if m % 2 = 1 then -pol m x else pol m x := by
  have h := ev_zero (List.all_eq_true.1 sym_tab m (List.mem_range.2 hm)) x
  rw [ev_padd, ev_pcomp, ev_pscale] at h
  rw [pol_ev, pol_ev, show 1 - x = 1 + -1 * x by grind]
  generalize ev (coefs m (m + 1)) (1 + -1 * x) = a at h ⊢
  generalize ev (coefs m (m + 1)) x = b at h ⊢
  split <;> rename_i hc
  · rw [if_pos hc] at h; grind
  · rw [if_neg hc] at h; grind
theorem pol_at0 : ((List.range 21).all fun k => decide (((coefs k (k + 1)).headD 0 - (bern k).getD k 0).num = 0)) = true := by decide +kernel
theorem pol_zero {k : Nat} (hk : k ≤ 20) : pol k 0 = (bern k).getD k 0 := by
  have h := List.all_eq_true.1 pol_at0 k (List.mem_range.2 (by omega))
  rw [decide_eq_true_eq] at h
  have h2 := Rat.num_eq_zero.1 h
  rw [pol_ev]
  rw [coefs, List.headD_cons] at h2
  rw [coefs, ev, Rat.zero_mul, Rat.add_zero]
  grind

/-! ## the program's polynomials -/
section
variable {n : Nat} {x : Rat}
theorem poly_pows (h : BQ n x) (hn : n ≤ 10000) {k : Nat} (hk : k ≤ 20) (b4 : QV) : ∀ (t i : Nat), k - i = t → i ≤ k →
    iterL (fun x : Int × Int × Int × (List ((Bool × List Int × Unit) × (Bool × List Int × Unit) × Unit)) × ((Bool × List Int × Unit) × (Bool × List Int × Unit) × Unit) × ((Bool × List Int × Unit) × (Bool × List Int × Unit) × Unit) × Unit => bernoulli_Poly.s0 x.1 x.2.1 x.2.2.1 x.2.2.2.1 x.2.2.2.2.1 x.2.2.2.2.2.1) ((k : Int), (k : Int), (i : Int), (List.range (i + 1)).map (fun j => mkQ (x ^ j)), mkQ x, b4, ()) = some ((k : Int), (List.range (k + 1)).map (fun j => mkQ (x ^ j)), b4, ()) := by
  intro t
  induction t with
  | zero =>
    intro i ht hi
    obtain rfl : i = k := by omega
    refine iterL_done ?_
    simp only [bernoulli_Poly.s0, cite, decide_eq_true_eq, etaI, etaQ, etaP]
    rw [if_neg (by omega)]
  | succ t ih =>
    intro i ht hi
    refine (iterL_next ?_).trans (ih (i + 1) (by omega) (by omega))
    have hb : n * i + 1 ≤ 1000000 := by
      have := Nat.mul_le_mul hn (show i ≤ 20 by omega)
      omega
    have hg : ((List.range (i + 1)).map (fun j => mkQ (x ^ j))).getD i zero = mkQ (x ^ i) := by
      rw [getD_map _ _ _ _ 0 (by rw [List.length_range]; omega)]
      simp [List.getD_eq_getElem?_getD]
    have hg' : ((List.range (i + 1)).map (fun j => mkQ (x ^ j))).getD i ((false, (([] : List Int), ())), ((false, (([] : List Int), ())), ())) = mkQ (x ^ i) := hg
    simp only [bernoulli_Poly.s0, bernoulli_Poly.j2, cite, decide_eq_true_eq, inB_t, etaI, etaQ, etaP]
    rw [if_pos (by omega), if_pos (by rw [List.length_map, List.length_range]; omega), Int.toNat_natCast, Nat.zero_add, hg', qmul (h.pow i) h (by omega), Option.bind_some, if_pos (by rw [maxL_eq, List.length_map, List.length_range, List.length_singleton]; omega), up (by omega), ← Rat.pow_succ, @List.range_succ (i + 1), List.map_append]
    rfl
theorem psum_bd (h : BQ n x) (hn : n ≤ 10000) {k : Nat} (hk : k ≤ 20) : ∀ i, i ≤ k + 1 → BQ (i * 300000 + 1) (psum k x i) ∧ (i ≤ k → BQ 100 ((bern k).getD i 0) ∧ BQ 200001 (x ^ (k - i)) ∧ BQ 64 ((bin k i : Int) : Rat))
  | 0, _ => by
    have hb : bin k 0 < 1000000 := bin_le ⟨k, by omega⟩ ⟨0, by omega⟩
    exact ⟨BQ.int (z := 0) (Bd.mono (n := 1) (by unfold Bd; decide) (by omega)) (by omega), fun _ => ⟨(bern_bd hk (by omega)).1, (h.pow (k - 0)).mono (by have := Nat.mul_le_mul hn (show k - 0 ≤ 20 by omega); omega), bq_nat hb⟩⟩
  | i + 1, hi => by
    have ih := psum_bd h hn hk i (by omega)
    obtain ⟨h1, h2, h3⟩ := ih.2 (by omega)
    refine ⟨?_, fun hk' => ⟨(bern_bd hk hk').1, (h.pow (k - (i + 1))).mono (by have := Nat.mul_le_mul hn (show k - (i + 1) ≤ 20 by omega); omega), ?_⟩⟩
    · rw [psum]
      exact (ih.1.add (h3.mul (h1.mul h2))).mono (by omega)
    · have hb : bin k (i + 1) < 1000000 := bin_le ⟨k, by omega⟩ ⟨i + 1, by omega⟩
      exact bq_nat hb
theorem poly_sum (h : BQ n x) (hn : n ≤ 10000) {k : Nat} (hk : k ≤ 20) (b4 : QV) : ∀ (t i : Nat), k + 1 - i = t → i ≤ k + 1 →
    iterL (fun x : Int × (List ((Bool × List Int × Unit) × (Bool × List Int × Unit) × Unit)) × List Int × Int × Int × (List ((Bool × List Int × Unit) × (Bool × List Int × Unit) × Unit)) × ((Bool × List Int × Unit) × (Bool × List Int × Unit) × Unit) × ((Bool × List Int × Unit) × (Bool × List Int × Unit) × Unit) × Unit => bernoulli_Poly.s1 x.1 x.2.1 x.2.2.1 x.2.2.2.1 x.2.2.2.2.1 x.2.2.2.2.2.1 x.2.2.2.2.2.2.1 x.2.2.2.2.2.2.2.1) ((k : Int), (bern k).map mkQ, (rowN k).map (fun c : Nat => (c : Int)), ((k + 1 : Nat) : Int), (i : Int), (List.range (k + 1)).map (fun j => mkQ (x ^ j)), b4, mkQ (psum k x i), ()) = some (b4, mkQ (pol k x), ()) := by
  intro t
  induction t with
  | zero =>
    intro i ht hi
    obtain rfl : i = k + 1 := by omega
    refine iterL_done ?_
    simp only [bernoulli_Poly.s1, cite, decide_eq_true_eq, etaI, etaQ, etaP]
    rw [if_neg (by omega)]
    rfl
  | succ t ih =>
    intro i ht hi
    refine (iterL_next ?_).trans (ih (i + 1) (by omega) (by omega))
    obtain ⟨h1, h2⟩ := psum_bd h hn hk i hi
    obtain ⟨h2, h3, h4⟩ := h2 (by omega)
    have hl := bern_len k
    have hr := rowN_len k
    have hg : ((List.range (k + 1)).map (fun j => mkQ (x ^ j))).getD (k - i) ((false, (([] : List Int), ())), ((false, (([] : List Int), ())), ())) = mkQ (x ^ (k - i)) := by
      rw [getD_map _ _ _ _ 0 (by rw [List.length_range]; omega)]
      simp [List.getD_eq_getElem?_getD, show k - i < k + 1 by omega]
    have hrow : ((rowN k).map (fun c : Nat => (c : Int))).getD i 0 = (bin k i : Int) := getD_map _ _ _ _ 0 (by omega)
    have hb : bin k i < 1000000 := bin_le ⟨k, by omega⟩ ⟨i, by omega⟩
    have w1 : IntKind.wrap .i64 ((k : Int) - (i : Int)) = ((k - i : Nat) : Int) := by rw [wi64 (by omega) (by omega)]; omega
    simp only [bernoulli_Poly.s1, bernoulli_Poly.j3, cite, decide_eq_true_eq, inB_t, etaI, etaQ, etaP]
    rw [if_pos (by omega), if_pos (by rw [List.length_map]; omega), Int.toNat_natCast, hrow, whole_ok (by omega) (by omega), Option.bind_some, if_pos (by rw [List.length_map]; omega), w1, if_pos (by rw [List.length_map, List.length_range]; omega), Int.toNat_natCast, Nat.zero_add, hg, getD_map mkQ _ _ _ 0 (by omega), qmul h2 h3 (by omega), Option.bind_some, qmul h4 (h2.mul h3) (by omega), Option.bind_some, qadd h1 (h4.mul (h2.mul h3)) (by omega), Option.bind_some, up (by omega)]
    rfl
theorem poly_ok (h : BQ n x) (hn : n ≤ 10000) {k : Nat} (hk : k ≤ 20) : bernoulli_Poly (k : Int) (mkQ x) = some (mkQ (pol k x), 0, ()) := by
  have p1 := poly_pows h hn hk zQ _ 0 rfl (by omega)
  have p2 := poly_sum h hn hk zQ _ 0 rfl (by omega)
  have hr := rowN_len k
  have e1 : (List.range (0 + 1)).map (fun j => mkQ (x ^ j)) = [mkQ 1] := by
    show [mkQ (x ^ 0)] = _
    rw [Rat.pow_zero]
  rw [e1, show ((0 : Nat) : Int) = 0 from rfl] at p1
  rw [show ((0 : Nat) : Int) = 0 from rfl, show psum k x 0 = 0 from rfl] at p2
  have hlen : ((((rowN k).map fun c : Nat => (c : Int)).length : Nat) : Int) = ((k + 1 : Nat) : Int) := by rw [List.length_map, hr]
  unfold bernoulli_Poly
  simp only [bernoulli_Poly.j1, cite, decide_eq_true_eq, etaI, etaQ, etaP]
  rw [if_neg (by omega), if_neg (by omega), whole_ok (by decide) (by decide), Option.bind_some, show ((1 : Int) : Rat) = 1 from rfl]
  have p1' : iterL (fun x : Int × Int × Int × (List ((Bool × List Int × Unit) × (Bool × List Int × Unit) × Unit)) × ((Bool × List Int × Unit) × (Bool × List Int × Unit) × Unit) × ((Bool × List Int × Unit) × (Bool × List Int × Unit) × Unit) × Unit => bernoulli_Poly.s0 x.1 x.2.1 x.2.2.1 x.2.2.2.1 x.2.2.2.2.1 x.2.2.2.2.2.1) ((k : Int), (k : Int), 0, [mkQ 1], mkQ x, ((false, ([], ())), (false, ([], ())), ()), ()) = _ := p1
  rw [p1', Option.bind_some]
  simp only [bernoulli_Poly.k0, etaI, etaQ, etaP]
  rw [numbers_ok hk, Option.bind_some, whole_ok (by decide) (by decide), Option.bind_some, row_ok (by omega), Option.bind_some, hlen, show ((0 : Int) : Rat) = 0 from rfl, p2, Option.bind_some]
  rfl
theorem pol_bd (h : BQ n x) (hn : n ≤ 10000) {k : Nat} (hk : k ≤ 20) : BQ 6300001 (pol k x) := (psum_bd h hn hk (k + 1) (Nat.le_refl _)).1.mono (by omega)
theorem ratio_ok {a b : Int} (h1 : -1000000 ≤ a) (h2 : a ≤ 1000000) (h3 : 0 < b) (h4 : b ≤ 1000000) : quadformref31_Ratio a b = some (mkQ (Rat.divInt a b)) ∧ BQ 64 (Rat.divInt a b) := by
  have b1 := Bd.i64 (z := a) (by omega) (by omega)
  have b2 := Bd.i64 (z := b) (by omega) (by omega)
  refine ⟨?_, BQ.divInt b1 b2 (by decide)⟩
  unfold quadformref31_Ratio
  rw [rsmall_ok (by omega) (by omega), Option.bind_some, rsmall_ok (by omega) (by omega), Option.bind_some, rnew b1 b2 (by decide) (by omega), Option.bind_some]
end
end Go.Proofs.Ytbchgegclgpdhaa.V
