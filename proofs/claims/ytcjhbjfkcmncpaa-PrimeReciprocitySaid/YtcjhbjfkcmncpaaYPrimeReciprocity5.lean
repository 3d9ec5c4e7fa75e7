/- The law of quadratic reciprocity of the Kronecker symbol holds for the odd positive numbers of the statement, and the examples of the chapter hold. Conditions: none. -/
import Derived.Test.YtcjhbjfkcmncpaaYPrimeReciprocity4
import Derived.Test.YtcjhbjfkcmncpaaRows
import Derived.WalkKit
import Derived.ProofKit
import Derived.OpenShut
import Derived.ShutString
import Derived.ChangeOld
import Derived.Below
import Derived.SizedLaws
namespace Go.Proofs.Ytcjhbjfkcmncpaa.Num
def lst (f : Nat → Nat) : Nat → List Nat
  | 0 => []
  | n + 1 => f (n + 1) :: lst f n
theorem lst_length (f : Nat → Nat) : ∀ n, (lst f n).length = n
  | 0 => rfl
  | n + 1 => by simp [lst, lst_length f n]
theorem mem_lst {f : Nat → Nat} {x : Nat} : ∀ {n : Nat}, x ∈ lst f n → ∃ k, 1 ≤ k ∧ k ≤ n ∧ x = f k
  | 0, h => by simp [lst] at h
  | n + 1, h => by
    rcases List.mem_cons.1 h with rfl | h
    · exact ⟨n + 1, by omega, by omega, rfl⟩
    · obtain ⟨k, h1, h2, h3⟩ := mem_lst h
      exact ⟨k, h1, by omega, h3⟩
theorem lst_nodup {f : Nat → Nat} : ∀ {n : Nat}, (∀ i j, 1 ≤ i → i ≤ n → 1 ≤ j → j ≤ n → f i = f j → i = j) → (lst f n).Nodup
  | 0, _ => by simp [lst]
  | n + 1, h => by
    refine List.nodup_cons.2 ⟨fun hm => ?_, lst_nodup fun i j a b c d e => h i j a (by omega) c (by omega) e⟩
    obtain ⟨k, h1, h2, h3⟩ := mem_lst hm
    have := h (n + 1) k (by omega) (by omega) h1 (by omega) h3
    omega
theorem pigeon : ∀ (n : Nat) (l : List Nat), l.Nodup → (∀ x ∈ l, 1 ≤ x ∧ x ≤ n) → l.length ≤ n
  | 0, l, _, h => by
    cases l with
    | nil => simp
    | cons a l => have := h a (List.mem_cons_self ..); omega
  | n + 1, l, hn, h => by
    have h1 := pigeon n (l.erase (n + 1)) (hn.erase _) (fun x hx => by
      have hx' := (hn.mem_erase_iff).1 hx
      have := h x hx'.2
      have := hx'.1
      omega)
    rw [List.length_erase] at h1
    split at h1 <;> omega
theorem full : ∀ (n : Nat) (l : List Nat), l.Nodup → (∀ x ∈ l, 1 ≤ x ∧ x ≤ n) → l.length = n → l.Perm (lst (fun k => k) n)
  | 0, l, _, _, h => by
    have : l = [] := List.eq_nil_of_length_eq_zero h
    subst this
    exact List.Perm.refl _
  | n + 1, l, hn, h, hl => by
    have hm : n + 1 ∈ l := by
      apply Classical.byContradiction
      intro hno
      have := pigeon n l hn (fun x hx => by
        have := h x hx
        have : x ≠ n + 1 := by rintro rfl; exact hno hx
        omega)
      omega
    refine (List.perm_cons_erase hm).trans (List.Perm.cons _ ?_)
    refine full n _ (hn.erase _) (fun x hx => ?_) ?_
    · have hx' := (hn.mem_erase_iff).1 hx
      have := h x hx'.2
      have := hx'.1
      omega
    · rw [List.length_erase, if_pos hm]; omega
def prodL : List Nat → Nat
  | [] => 1
  | a :: l => a * prodL l
def sumL : List Nat → Nat
  | [] => 0
  | a :: l => a + sumL l
theorem prodL_perm {l l' : List Nat} (h : l.Perm l') : prodL l = prodL l' := by
  induction h with
  | nil => rfl
  | cons x _ ih => simp [prodL, ih]
  | swap x y l => simp only [prodL]; rw [← Nat.mul_assoc, ← Nat.mul_assoc, Nat.mul_comm x y]
  | trans _ _ a b => exact a.trans b
theorem sumL_perm {l l' : List Nat} (h : l.Perm l') : sumL l = sumL l' := by
  induction h with
  | nil => rfl
  | cons x _ ih => simp [sumL, ih]
  | swap x y l => simp only [sumL]; omega
  | trans _ _ a b => exact a.trans b
def prodI (f : Nat → Int) : Nat → Int
  | 0 => 1
  | n + 1 => f (n + 1) * prodI f n
def sumN (f : Nat → Nat) : Nat → Nat
  | 0 => 0
  | n + 1 => f (n + 1) + sumN f n
theorem prodI_lst (f : Nat → Nat) : ∀ n, prodI (fun k => (f k : Int)) n = (prodL (lst f n) : Nat)
  | 0 => rfl
  | n + 1 => by simp [prodI, prodL, lst, prodI_lst f n]
theorem sumN_lst (f : Nat → Nat) : ∀ n, sumN f n = sumL (lst f n)
  | 0 => rfl
  | n + 1 => by simp [sumN, sumL, lst, sumN_lst f n]
/-- A map of 1 .. n into itself that takes no value twice. -/
structure Sends (f : Nat → Nat) (n : Nat) : Prop where
  into : ∀ i, 1 ≤ i → i ≤ n → 1 ≤ f i ∧ f i ≤ n
  inj : ∀ i j, 1 ≤ i → i ≤ n → 1 ≤ j → j ≤ n → f i = f j → i = j
theorem Sends.perm {f : Nat → Nat} {n : Nat} (h : Sends f n) : (lst f n).Perm (lst (fun k => k) n) :=
  full n _ (lst_nodup h.inj) (fun x hx => by
    obtain ⟨k, h1, h2, rfl⟩ := mem_lst hx
    exact h.into k h1 h2) (lst_length _ _)
theorem Sends.prod {f : Nat → Nat} {n : Nat} (h : Sends f n) : prodI (fun k => (f k : Int)) n = prodI (fun k => (k : Int)) n := by
  rw [prodI_lst, prodI_lst (fun k => k), prodL_perm h.perm]
theorem Sends.sum {f : Nat → Nat} {n : Nat} (h : Sends f n) : sumN f n = sumN (fun k => k) n := by
  rw [sumN_lst, sumN_lst, sumL_perm h.perm]
theorem prodI_mul (f g : Nat → Int) : ∀ n, prodI (fun k => f k * g k) n = prodI f n * prodI g n
  | 0 => rfl
  | n + 1 => by simp only [prodI, prodI_mul f g n]; grind
theorem prodI_const (a : Int) : ∀ n, prodI (fun _ => a) n = a ^ n
  | 0 => by simp [prodI]
  | n + 1 => by simp only [prodI, prodI_const a n, Int.pow_succ]; grind
theorem dvd_mul_sub {m a b c d : Int} (h : m ∣ a - b) (h' : m ∣ c - d) : m ∣ a * c - b * d := by
  obtain ⟨x, hx⟩ := h
  obtain ⟨y, hy⟩ := h'
  exact ⟨x * c + b * y, by
    have : a = b + m * x := by omega
    have : c = d + m * y := by omega
    subst a c
    grind⟩
theorem dvd_pow_sub {m a b : Int} (h : m ∣ a - b) : ∀ n, m ∣ a ^ n - b ^ n
  | 0 => by simp
  | n + 1 => by rw [Int.pow_succ, Int.pow_succ]; exact dvd_mul_sub (dvd_pow_sub h n) h
theorem prodI_congr {m : Int} {f g : Nat → Int} : ∀ {n : Nat}, (∀ k, 1 ≤ k → k ≤ n → m ∣ f k - g k) → m ∣ prodI f n - prodI g n
  | 0, _ => by simp [prodI]
  | n + 1, h => dvd_mul_sub (h (n + 1) (by omega) (by omega)) (prodI_congr fun k a b => h k a (by omega))
theorem Pr.dvd_mulI {p : Nat} (hp : Pr p) {a b : Int} (h : (p : Int) ∣ a * b) : (p : Int) ∣ a ∨ (p : Int) ∣ b := by
  have h1 : p ∣ a.natAbs * b.natAbs := by
    have := Int.natAbs_dvd_natAbs.2 h
    simpa [Int.natAbs_mul] using this
  rcases hp.dvd_mul h1 with h | h
  · exact .inl (Int.ofNat_dvd_left.2 h)
  · exact .inr (Int.ofNat_dvd_left.2 h)
theorem not_dvd_small {p : Nat} {k : Nat} (h1 : 1 ≤ k) (h2 : k < p) : ¬ (p : Int) ∣ (k : Int) := by
  intro h
  have := Nat.le_of_dvd (by omega) (Int.natCast_dvd_natCast.1 h)
  omega
theorem not_dvd_fact {p : Nat} (hp : Pr p) : ∀ n, n < p → ¬ (p : Int) ∣ prodI (fun k => (k : Int)) n
  | 0, _, h => by
    simp only [prodI] at h
    have := Int.natCast_dvd_natCast.1 (show (p : Int) ∣ ((1 : Nat) : Int) from h)
    exact hp.not_dvd_one this
  | n + 1, hn, h => by
    simp only [prodI] at h
    rcases hp.dvd_mulI h with h | h
    · exact not_dvd_small (by omega) hn h
    · exact not_dvd_fact hp n (by omega) h
def low (p h a k : Nat) : Nat := if (a * k) % p ≤ h then (a * k) % p else p - (a * k) % p
def hi (p h a k : Nat) : Nat := if (a * k) % p ≤ h then 0 else 1
def sg (p h a k : Nat) : Int := if (a * k) % p ≤ h then 1 else -1
section
variable {p h a : Nat} (hp : Pr p) (hh : p = 2 * h + 1) (ha : ¬ p ∣ a)
include hp hh ha
theorem rem_ne {k : Nat} (h1 : 1 ≤ k) (h2 : k ≤ h) : (a * k) % p ≠ 0 := by
  intro e
  rcases hp.dvd_mul (Nat.dvd_of_mod_eq_zero e) with hd | hd
  · exact ha hd
  · have := Nat.le_of_dvd (by omega) hd
    omega
theorem low_into {k : Nat} (h1 : 1 ≤ k) (h2 : k ≤ h) : 1 ≤ low p h a k ∧ low p h a k ≤ h := by
  have := rem_ne hp hh ha h1 h2
  have : (a * k) % p < p := Nat.mod_lt _ (by omega)
  unfold low
  split <;> omega
omit hp ha in
theorem low_congr (k : Nat) : (p : Int) ∣ ((a : Int) * k) - sg p h a k * low p h a k := by
  have e : (a * k) = p * (a * k / p) + (a * k) % p := (Nat.div_add_mod _ _).symm
  have hl : (a * k) % p < p := Nat.mod_lt _ (by omega)
  have e' : ((a : Int) * k) = p * ((a * k / p : Nat) : Int) + ((a * k % p : Nat) : Int) := by
    have := congrArg (fun z : Nat => (z : Int)) e
    simpa using this
  unfold sg low
  rw [e']
  split
  · exact ⟨((a * k / p : Nat) : Int), by grind⟩
  · refine ⟨((a * k / p : Nat) : Int) + 1, ?_⟩
    rw [Int.ofNat_sub (by omega)]
    grind
theorem low_sends : Sends (low p h a) h where
  into _ h1 h2 := low_into hp hh ha h1 h2
  inj i j hi1 hi2 hj1 hj2 e := by
    have c1 := low_congr (a := a) hh i
    have c2 := low_congr (a := a) hh j
    rw [← e] at c2
    have key : (p : Int) ∣ (a : Int) * (i - j) ∨ (p : Int) ∣ (a : Int) * (i + j) := by
      have hs : sg p h a i = sg p h a j ∨ sg p h a i = - sg p h a j := by
        unfold sg; split <;> split <;> simp
      rcases hs with hs | hs
      · left
        rw [hs] at c1
        have := Int.dvd_sub c1 c2
        have e2 : (a : Int) * i - sg p h a j * ↑(low p h a i) - (↑a * ↑j - sg p h a j * ↑(low p h a i)) = (a : Int) * (i - j) := by grind
        rwa [e2] at this
      · right
        rw [hs] at c1
        have := Int.dvd_add c1 c2
        have e2 : (a : Int) * i - -sg p h a j * ↑(low p h a i) + (↑a * ↑j - sg p h a j * ↑(low p h a i)) = (a : Int) * (i + j) := by grind
        rwa [e2] at this
    have na : ¬ (p : Int) ∣ (a : Int) := fun hd => ha (Int.natCast_dvd_natCast.1 hd)
    rcases key with hd | hd
    · rcases hp.dvd_mulI hd with hd | hd
      · exact absurd hd na
      · obtain ⟨c, hc⟩ := hd
        have hc0 : c = 0 := by
          rcases Int.lt_trichotomy c 0 with h0 | h0 | h0
          · have : (p : Int) * c ≤ p * (-1) := Int.mul_le_mul_of_nonneg_left (by omega) (by omega)
            omega
          · exact h0
          · have : (p : Int) * 1 ≤ p * c := Int.mul_le_mul_of_nonneg_left (by omega) (by omega)
            omega
        subst hc0
        omega
    · rcases hp.dvd_mulI hd with hd | hd
      · exact absurd hd na
      · exfalso
        have hd' : p ∣ i + j := Int.natCast_dvd_natCast.1 (by simpa using hd)
        have := Nat.le_of_dvd (by omega) hd'
        omega
theorem gauss : (p : Int) ∣ (a : Int) ^ h - prodI (sg p h a) h := by
  have h1 : (p : Int) ∣ prodI (fun k => (a : Int) * k) h - prodI (fun k => sg p h a k * low p h a k) h :=
    prodI_congr fun k _ _ => low_congr (a := a) hh k
  rw [prodI_mul (fun _ => (a : Int)) (fun k => (k : Int)), prodI_const, prodI_mul (sg p h a) (fun k => (low p h a k : Int)), (low_sends hp hh ha).prod] at h1
  have e : (a : Int) ^ h * prodI (fun k => (k : Int)) h - prodI (sg p h a) h * prodI (fun k => (k : Int)) h = ((a : Int) ^ h - prodI (sg p h a) h) * prodI (fun k => (k : Int)) h := by grind
  rw [e] at h1
  rcases hp.dvd_mulI h1 with h1 | h1
  · exact h1
  · exact absurd h1 (not_dvd_fact hp h (by omega))
omit hp hh ha in
theorem sg_hi : ∀ n, prodI (sg p h a) n = if sumN (hi p h a) n % 2 = 0 then 1 else -1
  | 0 => rfl
  | n + 1 => by
    simp only [prodI, sumN, sg_hi n]
    unfold sg hi
    split <;> split <;> split <;> first | rfl | omega
omit hp ha in
theorem hi_par (hodd : a % 2 = 1) (k : Nat) : k % 2 = ((a * k) / p + low p h a k + hi p h a k) % 2 := by
  have e : (a * k) = p * (a * k / p) + (a * k) % p := (Nat.div_add_mod _ _).symm
  have hl : (a * k) % p < p := Nat.mod_lt _ (by omega)
  have e1 : (a * k) % 2 = k % 2 := by
    rw [Nat.mul_mod, hodd]; omega
  have e2 : (p * (a * k / p)) % 2 = (a * k / p) % 2 := by
    rw [Nat.mul_mod]
    have : p % 2 = 1 := by omega
    rw [this]; omega
  generalize p * (a * k / p) = z at *
  unfold low hi
  split <;> omega
theorem hi_sum (hodd : a % 2 = 1) : sumN (hi p h a) h % 2 = sumN (fun k => (a * k) / p) h % 2 := by
  have hs := (low_sends hp hh ha).sum
  have key : ∀ n, sumN (fun k => k) n % 2 = (sumN (fun k => (a * k) / p) n + sumN (low p h a) n + sumN (hi p h a) n) % 2 := by
    intro n
    induction n with
    | zero => rfl
    | succ n ih =>
      have := hi_par hh hodd (n + 1)
      simp only [sumN]
      omega
  have := key h
  omega
end
theorem sumN_add (f g : Nat → Nat) : ∀ n, sumN (fun k => f k + g k) n = sumN f n + sumN g n
  | 0 => rfl
  | n + 1 => by simp only [sumN, sumN_add f g n]; omega
theorem sumN_congr {f g : Nat → Nat} : ∀ {n : Nat}, (∀ k, 1 ≤ k → k ≤ n → f k = g k) → sumN f n = sumN g n
  | 0, _ => rfl
  | n + 1, h => by simp only [sumN]; rw [h (n + 1) (by omega) (by omega), sumN_congr fun k a b => h k a (by omega)]
theorem sumN_const (c : Nat) : ∀ n, sumN (fun _ => c) n = n * c
  | 0 => by simp [sumN]
  | n + 1 => by simp only [sumN, sumN_const c n]; rw [Nat.succ_mul]; omega
theorem sumN_swap (F : Nat → Nat → Nat) (m : Nat) : ∀ n, sumN (fun k => sumN (fun j => F k j) m) n = sumN (fun j => sumN (fun k => F k j) n) m
  | 0 => by simp only [sumN]; rw [sumN_const]; simp
  | n + 1 => by simp only [sumN, sumN_swap F m n]; rw [sumN_add]
theorem sumN_upto (t : Nat) : ∀ n, t ≤ n → sumN (fun j => if j ≤ t then 1 else 0) n = t
  | 0, h => by simp [sumN]; omega
  | n + 1, h => by
    simp only [sumN]
    by_cases e : t = n + 1
    · subst e
      rw [if_pos (Nat.le_refl _), sumN_congr (g := fun _ => 1) (fun k _ _ => by rw [if_pos (by omega)]), sumN_const]
      omega
    · rw [if_neg (by omega), sumN_upto t n (by omega)]; omega
theorem floor_count {p q h g k : Nat} (hp : Pr p) (hh : p = 2 * h + 1) (hg : q = 2 * g + 1) (hq : ¬ p ∣ q) (h1 : 1 ≤ k) (h2 : k ≤ h) :
    (q * k) / p = sumN (fun j => if p * j < q * k then 1 else 0) g := by
  have hle : (q * k) / p ≤ g := by
    apply Nat.le_of_lt_succ
    apply (Nat.div_lt_iff_lt_mul (by omega)).2
    have a : q * k ≤ q * h := Nat.mul_le_mul_left _ h2
    have b : q * h < (g + 1) * p := by
      subst hh hg
      have : (2 * g + 1) * h = 2 * (g * h) + h := by grind
      have : (g + 1) * (2 * h + 1) = 2 * (g * h) + g + 2 * h + 1 := by grind
      omega
    exact Nat.lt_of_le_of_lt a b
  rw [← sumN_upto ((q * k) / p) g hle]
  refine sumN_congr fun j _ _ => ?_
  have hne : p * j ≠ q * k := by
    intro e
    rcases hp.dvd_mul (a := q) (b := k) ⟨j, e.symm⟩ with hd | hd
    · exact hq hd
    · have := Nat.le_of_dvd (by omega) hd
      omega
  have : j ≤ q * k / p ↔ p * j ≤ q * k := by
    rw [Nat.le_div_iff_mul_le (by omega), Nat.mul_comm]
  by_cases c : j ≤ q * k / p
  · rw [if_pos c, if_pos (by have := this.1 c; omega)]
  · rw [if_neg c, if_neg (fun h => c (this.2 (by omega)))]
theorem lattice {p q h g : Nat} (hp : Pr p) (hq : Pr q) (hne : p ≠ q) (hh : p = 2 * h + 1) (hg : q = 2 * g + 1) :
    sumN (fun k => (q * k) / p) h + sumN (fun j => (p * j) / q) g = h * g := by
  have npq : ¬ p ∣ q := fun hd => hne (hp.eq_of_dvd hq hd)
  have nqp : ¬ q ∣ p := fun hd => hne (hq.eq_of_dvd hp hd).symm
  rw [sumN_congr (fun k a b => floor_count hp hh hg npq a b), sumN_congr (n := g) (fun k a b => floor_count hq hg hh nqp a b)]
  rw [sumN_swap (fun j k => if q * k < p * j then 1 else 0) h g, ← sumN_add]
  rw [sumN_congr (g := fun _ => g), sumN_const]
  intro k h1 h2
  rw [← sumN_add, sumN_congr (g := fun _ => 1), sumN_const, Nat.mul_one]
  intro j h3 h4
  have : p * j ≠ q * k := by
    intro e
    rcases hp.dvd_mul (a := q) (b := k) ⟨j, e.symm⟩ with hd | hd
    · exact npq hd
    · have := Nat.le_of_dvd (by omega) hd
      omega
  split <;> split <;> omega
def sy (a : Int) (p : Nat) : Int :=
  if p = 2 then (if a % 8 = 1 ∨ a % 8 = 7 then 1 else if a % 8 = 3 ∨ a % 8 = 5 then -1 else 0)
  else if a % p = 0 then 0 else if ((a % p).toNat ^ ((p - 1) / 2)) % p = 1 then 1 else -1
theorem sy_range (a : Int) (p : Nat) : sy a p = 1 ∨ sy a p = 0 ∨ sy a p = -1 := by
  unfold sy
  repeat' split
  all_goals simp
theorem odd_of_prime {p : Nat} (hp : Pr p) (h2 : p ≠ 2) : p = 2 * ((p - 1) / 2) + 1 := by
  have := hp.1
  by_cases h : p % 2 = 0
  · rcases hp.2 2 (Nat.dvd_of_mod_eq_zero h) with h | h <;> omega
  · omega
theorem sign_unique {p : Nat} (hp : 3 ≤ p) {x e f : Int} (he : e = 1 ∨ e = -1) (hf : f = 1 ∨ f = -1) (h : (p : Int) ∣ x - e) (h' : (p : Int) ∣ x - f) : e = f := by
  have hd := Int.dvd_sub h' h
  have e2 : x - f - (x - e) = e - f := by omega
  rw [e2] at hd
  have key : ∀ z : Int, (p : Int) ∣ z → z = 2 ∨ z = -2 → False := by
    intro z hz h2
    have h3 : p ∣ z.natAbs := Int.ofNat_dvd_left.1 hz
    have : z.natAbs = 2 := by rcases h2 with rfl | rfl <;> rfl
    rw [this] at h3
    have := Nat.le_of_dvd (by omega) h3
    omega
  rcases he with rfl | rfl <;> rcases hf with rfl | rfl
  · rfl
  · exact (key _ hd (by omega)).elim
  · exact (key _ hd (by omega)).elim
  · rfl
theorem sy_zero {a : Int} {p : Nat} (hp : p ≠ 2) (h : (p : Int) ∣ a) : sy a p = 0 := by
  unfold sy
  rw [if_neg hp, if_pos (Int.emod_eq_zero_of_dvd h)]
theorem sy_euler {a : Int} {p : Nat} (hp : Pr p) (h2 : p ≠ 2) (ha : ¬ (p : Int) ∣ a) :
    (sy a p = 1 ∨ sy a p = -1) ∧ (p : Int) ∣ a ^ ((p - 1) / 2) - sy a p := by
  have hh := odd_of_prime hp h2
  have hp3 : 3 ≤ p := by have := hp.1; omega
  have hr0 : 0 ≤ a % p := Int.emod_nonneg _ (by omega)
  have hrp : a % p < p := Int.emod_lt_of_pos _ (by omega)
  have hrn : a % p ≠ 0 := fun h => ha (Int.dvd_of_emod_eq_zero h)
  obtain ⟨r, hr⟩ : ∃ r : Nat, a % p = r := ⟨(a % p).toNat, by omega⟩
  have hpr : ¬ p ∣ r := fun hd => by have := Nat.le_of_dvd (by omega) hd; omega
  have hg := gauss hp hh hpr
  have hE : prodI (sg p ((p - 1) / 2) r) ((p - 1) / 2) = 1 ∨ prodI (sg p ((p - 1) / 2) r) ((p - 1) / 2) = -1 := by
    rw [sg_hi]; split <;> simp
  have har : (p : Int) ∣ a ^ ((p - 1) / 2) - (r : Int) ^ ((p - 1) / 2) := by
    apply dvd_pow_sub
    rw [← hr]
    exact Int.dvd_self_sub_emod
  have hs : sy a p = prodI (sg p ((p - 1) / 2) r) ((p - 1) / 2) := by
    unfold sy
    rw [if_neg h2, if_neg hrn, hr, Int.toNat_natCast]
    have hiff : r ^ ((p - 1) / 2) % p = 1 → (p : Int) ∣ (r : Int) ^ ((p - 1) / 2) - 1 := by
      intro h
      have e := Nat.div_add_mod (r ^ ((p - 1) / 2)) p
      rw [h] at e
      refine ⟨((r ^ ((p - 1) / 2) / p : Nat) : Int), ?_⟩
      have := congrArg (fun z : Nat => (z : Int)) e
      simp only [Int.natCast_add, Int.natCast_mul, Int.natCast_pow] at this
      omega
    rcases hE with hE | hE
    · rw [hE] at hg ⊢
      rw [if_pos]
      obtain ⟨c, hc⟩ := hg
      have : ((r ^ ((p - 1) / 2) : Nat) : Int) % (p : Nat) = 1 := by
        rw [Int.natCast_pow]
        have : (r : Int) ^ ((p - 1) / 2) = 1 + p * c := by omega
        rw [this, Int.add_mul_emod_self_left]
        exact Int.emod_eq_of_lt (by omega) (by omega)
      rw [← Int.natCast_emod] at this
      omega
    · rw [hE] at hg ⊢
      rw [if_neg]
      intro h
      have := sign_unique hp3 (.inl rfl) (.inr rfl) (hiff h) hg
      omega
  rw [hs]
  refine ⟨hE, ?_⟩
  have := Int.dvd_add har hg
  have e : a ^ ((p - 1) / 2) - (r : Int) ^ ((p - 1) / 2) + ((r : Int) ^ ((p - 1) / 2) - prodI (sg p ((p - 1) / 2) r) ((p - 1) / 2)) = a ^ ((p - 1) / 2) - prodI (sg p ((p - 1) / 2) r) ((p - 1) / 2) := by omega
  rwa [e] at this
theorem sy_mul {p : Nat} (hp : Pr p) (a b : Int) : sy (a * b) p = sy a p * sy b p := by
  by_cases h2 : p = 2
  · subst h2
    have key : ∀ x : Fin 8, ∀ y : Fin 8, (if (x.val * y.val) % 8 = 1 ∨ (x.val * y.val) % 8 = 7 then (1 : Int) else if (x.val * y.val) % 8 = 3 ∨ (x.val * y.val) % 8 = 5 then -1 else 0) =
        (if x.val = 1 ∨ x.val = 7 then (1 : Int) else if x.val = 3 ∨ x.val = 5 then -1 else 0) * (if y.val = 1 ∨ y.val = 7 then (1 : Int) else if y.val = 3 ∨ y.val = 5 then -1 else 0) := by decide
    unfold sy
    rw [if_pos rfl, if_pos rfl, if_pos rfl]
    have hx0 : 0 ≤ a % 8 := Int.emod_nonneg _ (by omega)
    have hx1 : a % 8 < 8 := Int.emod_lt_of_pos _ (by omega)
    have hy0 : 0 ≤ b % 8 := Int.emod_nonneg _ (by omega)
    have hy1 : b % 8 < 8 := Int.emod_lt_of_pos _ (by omega)
    have := key ⟨(a % 8).toNat, by omega⟩ ⟨(b % 8).toNat, by omega⟩
    obtain ⟨x, hx⟩ : ∃ x : Nat, a % 8 = x := ⟨(a % 8).toNat, by omega⟩
    obtain ⟨y, hy⟩ : ∃ y : Nat, b % 8 = y := ⟨(b % 8).toNat, by omega⟩
    have hxy : (a * b) % 8 = ((x * y % 8 : Nat) : Int) := by
      rw [Int.mul_emod, hx, hy]; simp
    simp only [hx, hy, Int.toNat_natCast] at this
    rw [hxy, hx, hy]
    have c : ∀ (z : Nat) (n : Nat), ((z : Int) = (n : Int)) ↔ z = n := fun z n => Int.ofNat_inj
    have c1 : ∀ z : Nat, ((z : Int) = 1) ↔ z = 1 := fun z => c z 1
    have c3 : ∀ z : Nat, ((z : Int) = 3) ↔ z = 3 := fun z => c z 3
    have c5 : ∀ z : Nat, ((z : Int) = 5) ↔ z = 5 := fun z => c z 5
    have c7 : ∀ z : Nat, ((z : Int) = 7) ↔ z = 7 := fun z => c z 7
    simp only [c1, c3, c5, c7]
    exact this
  · by_cases ha : (p : Int) ∣ a
    · rw [sy_zero h2 ha, sy_zero h2 (Int.dvd_mul_of_dvd_left ha), Int.zero_mul]
    · by_cases hb : (p : Int) ∣ b
      · rw [sy_zero h2 hb, sy_zero h2 (Int.dvd_mul_of_dvd_right hb), Int.mul_zero]
      · have hab : ¬ (p : Int) ∣ a * b := fun h => by
          rcases hp.dvd_mulI h with h | h
          · exact ha h
          · exact hb h
        obtain ⟨ra, da⟩ := sy_euler hp h2 ha
        obtain ⟨rb, db⟩ := sy_euler hp h2 hb
        obtain ⟨rab, dab⟩ := sy_euler hp h2 hab
        have hp3 : 3 ≤ p := by have := hp.1; omega
        refine sign_unique hp3 rab ?_ dab ?_
        · rcases ra with h | h <;> rcases rb with h' | h' <;> rw [h, h'] <;> simp
        · rw [Int.mul_pow]
          exact dvd_mul_sub da db
theorem sy_one {p : Nat} (hp : Pr p) : sy 1 p = 1 := by
  by_cases h2 : p = 2
  · subst h2; rfl
  · have hp3 : 3 ≤ p := by have := hp.1; omega
    have : ¬ (p : Int) ∣ 1 := fun h => by
      have := Int.natCast_dvd_natCast.1 (show (p : Int) ∣ ((1 : Nat) : Int) from h)
      exact hp.not_dvd_one this
    obtain ⟨r, d⟩ := sy_euler hp h2 this
    rw [Int.one_pow] at d
    exact (sign_unique hp3 (.inl rfl) r (by simp) d).symm
theorem sy_nat_eq {p a h : Nat} (hp : Pr p) (hh : p = 2 * h + 1) (ha : ¬ p ∣ a) : sy a p = prodI (sg p h a) h := by
  have h2 : p ≠ 2 := by omega
  have hp3 : 3 ≤ p := by have := hp.1; omega
  obtain ⟨r, d⟩ := sy_euler hp h2 (fun hd => ha (Int.natCast_dvd_natCast.1 hd))
  have e : (p - 1) / 2 = h := by omega
  rw [e] at d
  refine sign_unique hp3 r ?_ d (gauss hp hh ha)
  rw [sg_hi]; split <;> simp
/-- 1, or -1 if both are 3 modulo 4 -/
def eps (m n : Nat) : Int := if m % 4 = 3 ∧ n % 4 = 3 then -1 else 1
theorem qr {p q : Nat} (hp : Pr p) (hq : Pr q) (hne : p ≠ q) (hp2 : p ≠ 2) (hq2 : q ≠ 2) : sy q p * sy p q = eps p q := by
  have hh := odd_of_prime hp hp2
  have hg := odd_of_prime hq hq2
  generalize (p - 1) / 2 = h at *
  generalize (q - 1) / 2 = g at *
  have npq : ¬ p ∣ q := fun hd => hne (hp.eq_of_dvd hq hd)
  have nqp : ¬ q ∣ p := fun hd => hne (hq.eq_of_dvd hp hd).symm
  rw [sy_nat_eq hp hh npq, sy_nat_eq hq hg nqp, sg_hi, sg_hi, hi_sum hp hh npq (by omega), hi_sum hq hg nqp (by omega)]
  have hl := lattice hp hq hne hh hg
  generalize sumN (fun k => q * k / p) h = A at *
  generalize sumN (fun k => p * k / q) g = B at *
  have hpar : (h * g) % 2 = (h % 2) * (g % 2) := by
    rw [Nat.mul_mod]
    rcases Nat.mod_two_eq_zero_or_one h with e | e <;> rcases Nat.mod_two_eq_zero_or_one g with f | f <;> rw [e, f]
  have hsum : (A + B) % 2 = (h % 2) * (g % 2) := by rw [hl, hpar]
  unfold eps
  rcases Nat.mod_two_eq_zero_or_one h with e | e <;> rcases Nat.mod_two_eq_zero_or_one g with f | f <;> rw [e, f] at hsum <;> simp only [Nat.mul_zero, Nat.mul_one] at hsum
  · rw [if_neg (c := p % 4 = 3 ∧ q % 4 = 3) (by omega)]; split <;> split <;> first | rfl | omega
  · rw [if_neg (c := p % 4 = 3 ∧ q % 4 = 3) (by omega)]; split <;> split <;> first | rfl | omega
  · rw [if_neg (c := p % 4 = 3 ∧ q % 4 = 3) (by omega)]; split <;> split <;> first | rfl | omega
  · rw [if_pos (c := p % 4 = 3 ∧ q % 4 = 3) (by omega)]; split <;> split <;> first | rfl | omega
theorem eps_mul {m a b : Nat} (ha : a % 2 = 1) (hb : b % 2 = 1) : eps m (a * b) = eps m a * eps m b := by
  have e : (a * b) % 4 = ((a % 4) * (b % 4)) % 4 := Nat.mul_mod _ _ _
  have ha : a % 4 = 1 ∨ a % 4 = 3 := by omega
  have hb : b % 4 = 1 ∨ b % 4 = 3 := by omega
  unfold eps
  rcases ha with ha | ha <;> rcases hb with hb | hb <;> rw [ha, hb] at e <;> rw [ha, hb, e] <;> by_cases hm : m % 4 = 3 <;> simp [hm]
theorem eps_comm (m n : Nat) : eps m n = eps n m := by
  unfold eps; simp only [and_comm]
theorem odd_mul {a b : Nat} (h : (a * b) % 2 = 1) : a % 2 = 1 ∧ b % 2 = 1 := by
  rw [Nat.mul_mod] at h
  rcases Nat.mod_two_eq_zero_or_one a with e | e <;> rcases Nat.mod_two_eq_zero_or_one b with f | f <;> rw [e, f] at h <;> simp_all
theorem jr_top_one {n : Nat} {v : Int} (h : JR (sy 1) n v) : v = 1 := by
  induction h with
  | one => rfl
  | mul hp _ ih => rw [sy_one hp, ih]; rfl
/-- One of the two is a prime number. -/
theorem recip_prime {p : Nat} (hp : Pr p) (hp2 : p ≠ 2) {n : Nat} {v : Int} (h : JR (sy p) n v) : n % 2 = 1 → ¬ p ∣ n → v * sy n p = eps p n := by
  induction h with
  | one => intro _ _; rw [show ((1 : Nat) : Int) = 1 from rfl, sy_one hp]; unfold eps; simp
  | @mul q n v hq hn ih =>
    intro ho hd
    obtain ⟨oq, on⟩ := odd_mul ho
    have nq : p ≠ q := by rintro rfl; exact hd ⟨n, rfl⟩
    have nn : ¬ p ∣ n := fun h => hd (Nat.dvd_trans h ⟨q, Nat.mul_comm _ _⟩)
    rw [eps_mul oq on, ← ih on nn, Int.natCast_mul, sy_mul hp, ← qr hp hq nq hp2 (by omega)]
    grind
theorem recip {n : Nat} {m : Nat} {w : Int} (h : JR (sy n) m w) : ∀ {v : Int}, JR (sy m) n v → m % 2 = 1 → n % 2 = 1 → Nat.Coprime m n → v * w = eps m n := by
  induction h with
  | one =>
    intro v hv _ _ _
    rw [show ((1 : Nat) : Int) = 1 from rfl] at hv
    rw [jr_top_one hv]; unfold eps; simp
  | @mul p m w hp hm ih =>
    intro v hv om on hc
    obtain ⟨op, om⟩ := odd_mul om
    have hp2 : p ≠ 2 := by omega
    have cp : ¬ p ∣ n := fun hd => by
      have h1 := Nat.dvd_gcd (Nat.dvd_mul_right p m) hd
      rw [hc] at h1
      exact hp.not_dvd_one h1
    have cm : Nat.Coprime m n := Nat.Coprime.coprime_dvd_left ⟨p, Nat.mul_comm _ _⟩ hc
    obtain ⟨v1, h1⟩ := JR.exists (s := sy p) n n (Nat.le_refl _) (by omega)
    obtain ⟨v2, h2⟩ := JR.exists (s := sy m) n n (Nat.le_refl _) (by omega)
    have e : v = v1 * v2 := by
      refine hv.fn ((h1.mulFn h2).congr fun q hq _ => ?_)
      rw [Int.natCast_mul, sy_mul hq]
    have r1 := recip_prime hp hp2 h1 on cp
    have r2 := ih h2 om on cm
    rw [e, eps_comm, eps_mul op om, eps_comm n p, eps_comm n m, ← r1, ← r2]
    grind
end Go.Proofs.Ytcjhbjfkcmncpaa.Num
namespace Go.Proofs.Ytcjhbjfkcmncpaa.Q
open Go.RowKit Go.Proofs.YtcjhbjfkcmncpaaW.PrintWords Go.Proofs.YtcjhbjfkcmncpaaW.PrintLast Go.Proofs.YtcjhbjfkcmncpaaW.PrintMore
attribute [local go_sem] max2_int min2_int max_two min_two max_three min_three max_four min_four   -- for this text's walks alone
set_option linter.unusedVariables false
set_option linter.unusedSimpArgs false
mutual
def quadformref22_Is.j0 : Nat → Int → Bool → Option (Bool)
  | 0, _, _ => none
  | k + 1, x0, x9 => if x9 = true then (some false) else (quadformref22_Is.l0 k x0 2)
def quadformref22_Is.l0 : Nat → Int → Int → Option (Bool)
  | 0, _, _ => none
  | k + 1, x0, x3 => if (wrap64 (x3 * x3)) ≤ x0 then (if x3 = 0 then (none) else (if (Int.tmod x0 x3) = 0 then (some false) else (quadformref22_Is.l0 k x0 (wrap64 (x3 + 1))))) else (some true)
end
def quadformref22_Is.f (k : Nat) (a0 : Int) : Option (Bool) := if a0 < 2 then (quadformref22_Is.j0 k a0 true) else (quadformref22_Is.j0 k a0 (decide (a0 > 2147483647)))
theorem quadformref22_Is.mono_l : ∀ k, (∀ y0 y1, LeO (quadformref22_Is.j0 k y0 y1) (quadformref22_Is.j0 (k + 1) y0 y1)) ∧ (∀ y0 y1, LeO (quadformref22_Is.l0 k y0 y1) (quadformref22_Is.l0 (k + 1) y0 y1))
  | 0 => ⟨fun _ _ r h => by simp [quadformref22_Is.j0] at h, fun _ _ r h => by simp [quadformref22_Is.l0] at h⟩
  | k + 1 => by
    obtain ⟨ih0, ih1⟩ := quadformref22_Is.mono_l k
    refine ⟨?_, ?_⟩
    · intro y0 y1
      unfold quadformref22_Is.j0
      repeat' first
      | (with_reducible exact ih0 _ _)
      | (with_reducible exact ih1 _ _)
      | (with_reducible exact LeO.refl _)
      | (with_reducible exact LeO.none _)
      | (with_reducible refine LeO.ite ?_ ?_)
      | (with_reducible refine LeO.bind ?_ (fun _ => ?_))
      | exact ih0 _ _
      | exact ih1 _ _
      | exact LeO.none _
      | refine LeO.ite ?_ ?_
      | refine LeO.bind ?_ (fun _ => ?_)
    · intro y0 y1
      unfold quadformref22_Is.l0
      repeat' first
      | (with_reducible exact ih0 _ _)
      | (with_reducible exact ih1 _ _)
      | (with_reducible exact LeO.refl _)
      | (with_reducible exact LeO.none _)
      | (with_reducible refine LeO.ite ?_ ?_)
      | (with_reducible refine LeO.bind ?_ (fun _ => ?_))
      | exact ih0 _ _
      | exact ih1 _ _
      | exact LeO.none _
      | refine LeO.ite ?_ ?_
      | refine LeO.bind ?_ (fun _ => ?_)
theorem quadformref22_Is.mono : ∀ a0 k, LeO (quadformref22_Is.f k a0) (quadformref22_Is.f (k + 1) a0) := by
  intro a0 k
  obtain ⟨ih0, ih1⟩ := quadformref22_Is.mono_l k
  unfold quadformref22_Is.f
  repeat' first
      | (with_reducible exact ih0 _ _)
      | (with_reducible exact ih1 _ _)
      | (with_reducible exact LeO.refl _)
      | (with_reducible exact LeO.none _)
      | (with_reducible refine LeO.ite ?_ ?_)
      | (with_reducible refine LeO.bind ?_ (fun _ => ?_))
      | exact ih0 _ _
      | exact ih1 _ _
      | exact LeO.none _
      | refine LeO.ite ?_ ?_
      | refine LeO.bind ?_ (fun _ => ?_)
set_option maxHeartbeats 8000000 in
set_option maxRecDepth 100000 in
theorem quadformref22_Is.calls (k : Nat) (a0 : Int) (r : Bool) (w : World) (h : quadformref22_Is.f k a0 = some r) :
    Calls Try.prog 16 #[.int .i64 a0] w fun e w' => e = .returned (.bool r) ∧ Drawn0 w w' := by
  have H : (if a0 < 2 then (quadformref22_Is.j0 k a0 true) else (quadformref22_Is.j0 k a0 (decide (a0 > 2147483647)))) = some r := h
  clear h
  have HC2 := Aside0.mk H
  clear H
  go_enter Try.func16, Try.ntmps16
  go_upto_region 1 with (fail)
  go_cut [9] (fun v9 wc => ∃ (kq : Nat) (x9_1 : Bool), v9 = .bool x9_1 ∧ Aside0 (quadformref22_Is.j0 kq a0 x9_1 = some r) ∧ Aside0 (kq ≤ k) ∧ Drawn0 w wc)
  case first =>
    have H := HC2.out
    clear HC2
    by_cases c3 : a0 < 2
    · rw [if_pos c3] at H
      have c3b0 : decide (a0 < 2) = true := decide_eq_true c3
      clear c3
      (first | rw [c3b0] | (simp only [i64_w, i32_w]; rw [c3b0]) | skip)
      have H' := Aside0.mk H
      clear H
      go_wp2
      go_meet
      case rel => exact ⟨_, (true), sd, H', ⟨by first | omega | exact Nat.le_refl _⟩, by repeat (first | exact Drawn0.refl _ | apply Drawn0.step)⟩
    · rw [if_neg c3] at H
      have c3b0 : decide (a0 < 2) = false := decide_eq_false c3
      clear c3
      (first | rw [c3b0] | (simp only [i64_w, i32_w]; rw [c3b0]) | skip)
      have H' := Aside0.mk H
      clear H
      go_wp2
      go_meet
      case rel => exact ⟨_, (decide (a0 > 2147483647)), sd, H', ⟨by first | omega | exact Nat.le_refl _⟩, by repeat (first | exact Drawn0.refl _ | apply Drawn0.step)⟩
  case rest =>
    clear HC2
    try clear c1
    try clear p2
    try clear c3
    try clear c3b0
    obtain ⟨kq, x9_1, rfl, HA, HJ1, ⟨mc1, rfl⟩⟩ := hcut
    cases kq with
    | zero => exact absurd HA.out (by simp [quadformref22_Is.j0])
    | succ kj1 =>
      have H := HA.out
      clear HA
      simp only [quadformref22_Is.j0] at H
      by_cases c4 : x9_1 = true
      · subst c4
        have H1 : (some false) = some r := by rw [if_pos rfl] at H; exact H
        clear H
        have H := H1
        clear H1
        obtain rfl := Option.some.inj H
        go_wp2
        go_ret
        exact ⟨by first | rfl | (simp; done) | (simp [*]; done), by repeat (first | exact Drawn0.refl _ | apply Drawn0.step)⟩
      · replace c4 := Bool.eq_false_iff.mpr c4
        subst c4
        have H1 : (quadformref22_Is.l0 kj1 a0 2) = some r := by rw [if_neg (show ¬ (false = true) by decide)] at H; exact H
        clear H
        have H := H1
        clear H1
        have H' := Aside0.mk H
        clear H
        go_wp2
        go_loopg [3] kj1 (fun kq v3 w' => ∃ (x3_2 : Int), v3 = .int .i64 x3_2 ∧ Aside0 (quadformref22_Is.l0 kq a0 x3_2 = some r) ∧ Aside0 (kq ≤ kj1) ∧ Drawn0 w w')
        case atStart => exact ⟨(2), sd, H', ⟨Nat.le_refl _⟩, by repeat (first | exact Drawn0.refl _ | apply Drawn0.step)⟩
        case round =>
          clear H'
          try clear c1
          try clear p2
          try clear c3
          try clear c3b0
          try clear c4
          try clear p2
          obtain ⟨x3_2, rfl, HA, HK2, ⟨m2, rfl⟩⟩ := hrel
          cases gk with
          | zero => exact absurd HA.out (by simp [quadformref22_Is.l0])
          | succ k2 =>
            have H := HA.out
            clear HA
            simp only [quadformref22_Is.l0] at H
            by_cases c5 : (wrap64 (x3_2 * x3_2)) ≤ a0
            · rw [if_pos c5] at H
              have c5b0 : decide ((wrap64 (x3_2 * x3_2)) ≤ a0) = true := decide_eq_true c5
              clear c5
              by_cases c6 : x3_2 = 0
              · rw [if_pos c6] at H
                exact absurd H (by simp)
              · rw [if_neg c6] at H
                have c6b0 : (x3_2 == 0) = false := beq_eq_false_iff_ne.mpr c6
                have c6b1 : (x3_2 != 0) = true := bne_iff_ne.mpr c6
                by_cases c7 : (Int.tmod a0 x3_2) = 0
                · rw [if_pos c7] at H
                  have c7b0 : ((Int.tmod a0 x3_2) == 0) = true := beq_iff_eq.mpr c7
                  have c7b1 : ((Int.tmod a0 x3_2) != 0) = false := bne_eq_false_iff_eq.mpr c7
                  clear c7
                  obtain rfl := Option.some.inj H
                  go_wp2
                  go_ret
                  exact ⟨by first | rfl | (simp; done) | (simp [*]; done), by repeat (first | exact Drawn0.refl _ | apply Drawn0.step)⟩
                · rw [if_neg c7] at H
                  have c7b0 : ((Int.tmod a0 x3_2) == 0) = false := beq_eq_false_iff_ne.mpr c7
                  have c7b1 : ((Int.tmod a0 x3_2) != 0) = true := bne_iff_ne.mpr c7
                  have H' := Aside0.mk H
                  clear H
                  go_wp2
                  go_roundg k2
                  case measure => have := HJ1.out; have := HK2.out; omega
                  case rel => exact ⟨(wrap64 (x3_2 + 1)), sd, H', ⟨by have := HJ1.out; have := HK2.out; omega⟩, by repeat (first | exact Drawn0.refl _ | apply Drawn0.step)⟩
            · rw [if_neg c5] at H
              have c5b0 : decide ((wrap64 (x3_2 * x3_2)) ≤ a0) = false := decide_eq_false c5
              clear c5
              obtain rfl := Option.some.inj H
              go_wp2
              go_ret
              exact ⟨by first | rfl | (simp; done) | (simp [*]; done), by repeat (first | exact Drawn0.refl _ | apply Drawn0.step)⟩
end Go.Proofs.Ytcjhbjfkcmncpaa.Q
namespace Go.Proofs.Ytcjhbjfkcmncpaa.Q
open Go.RowKit Go.Proofs.YtcjhbjfkcmncpaaW.PrintWords Go.Proofs.YtcjhbjfkcmncpaaW.PrintLast Go.Proofs.YtcjhbjfkcmncpaaW.PrintMore
open Go.Proofs.Ytcjhbjfkcmncpaa.Num
theorem w64 {x : Int} (h : -9223372036854775808 ≤ x) (h' : x ≤ 9223372036854775807) : wrap64 x = x := by
  unfold wrap64; omega
theorem sq_le {d n : Nat} (h : d * d ≤ n) (hn : n ≤ 2147483647) : d ≤ 46340 := by
  apply Classical.byContradiction
  intro hc
  have := Nat.mul_le_mul (show 46341 ≤ d by omega) (show 46341 ≤ d by omega)
  omega
theorem sq_wrap {d : Nat} (h : d ≤ 46342) : wrap64 ((d : Int) * d) = ((d * d : Nat) : Int) := by
  have := Nat.mul_le_mul h h
  rw [← Int.natCast_mul]
  apply w64 <;> omega
theorem tmod_nat (m n : Nat) : Int.tmod (m : Int) (n : Int) = ((m % n : Nat) : Int) := (Int.ofNat_tmod m n).symm
theorem tdiv_nat (m n : Nat) : Int.tdiv (m : Int) (n : Int) = ((m / n : Nat) : Int) := (Int.ofNat_tdiv m n).symm
def encP (L : List (Nat × Nat)) : List S30 := L.map fun x => ⟨(x.1 : Int), (x.2 : Int)⟩
theorem encP_length (L : List (Nat × Nat)) : (encP L).length = L.length := by simp [encP]
theorem div_step {d f m : Nat} (hd : 2 ≤ d) : d ^ (f + 1) * m % d = 0 ∧ d ^ (f + 1) * m / d = d ^ f * m := by
  have e : d ^ (f + 1) * m = d * (d ^ f * m) := by rw [Nat.pow_succ', Nat.mul_assoc]
  rw [e]
  exact ⟨Nat.mul_mod_right _ _, Nat.mul_div_cancel_left _ (by omega)⟩
theorem pow_bound {d f m : Nat} (hd : 2 ≤ d) (hm : 1 ≤ m) (h : d ^ f * m ≤ 2147483647) : f ≤ 30 := by
  apply Classical.byContradiction
  intro hc
  have h1 : 2 ^ 31 ≤ 2 ^ f := Nat.pow_le_pow_right (by omega) (by omega)
  have h2 : 2 ^ f ≤ d ^ f := Nat.pow_le_pow_left hd f
  have h3 : d ^ f * 1 ≤ d ^ f * m := Nat.mul_le_mul_left _ hm
  omega
theorem strip_loop {d m : Nat} (hd : 2 ≤ d) (hd2 : d ≤ 2147483647) (hm : 1 ≤ m) (hnd : ¬ d ∣ m) (acc : List S30) (hacc : acc.length < 8796093022208) (R : List S30 × Int) :
    ∀ (f e : Nat), e + f ≤ 100 → d ^ f * m ≤ 2147483647 → Ev (fun k => prime_Factor.l0 k m (acc ++ [⟨d, ((e + f : Nat) : Int)⟩]) d) R → Ev (fun k => prime_Factor.l2 k ((d ^ f * m : Nat) : Int) acc d e) R
  | 0, e, he, hb, h => by
    refine Ev.step (fun k => ?_) h
    simp only [prime_Factor.l2]
    rw [if_neg (by omega), tmod_nat, if_neg, if_pos hacc]
    · simp
    · intro h
      exact hnd (Nat.dvd_of_mod_eq_zero (by simpa using Int.ofNat_inj.1 h))
  | f + 1, e, he, hb, h => by
    obtain ⟨h1, h2⟩ := div_step (d := d) (f := f) (m := m) hd
    have h3 : d ^ f * m ≤ 2147483647 := by
      rw [← h2]; exact Nat.le_trans (Nat.div_le_self _ _) hb
    refine Ev.step (f := fun k => prime_Factor.l2 k ((d ^ f * m : Nat) : Int) acc d ((e + 1 : Nat) : Int)) (fun k => ?_) (strip_loop hd hd2 hm hnd acc hacc R f (e + 1) (by omega) h3 (by rw [show e + 1 + f = e + (f + 1) by omega]; exact h))
    simp only [prime_Factor.l2]
    rw [if_neg (by omega), tmod_nat, h1, if_pos (by rfl), tdiv_nat, h2, w64 (by omega) (by omega), w64 (by omega) (by omega)]
    rfl
theorem fac_loop : ∀ (N n d : Nat) (acc : List S30), n < N → 1 ≤ n → n ≤ 2147483647 → 2 ≤ d → d ≤ 46341 → (∀ q, 2 ≤ q → q ∣ n → d ≤ q) → 2 ^ acc.length * n ≤ 1099511627776 →
    ∃ L, Fac 1 n L ∧ Ev (fun k => prime_Factor.l0 k n acc d) (acc ++ encP L, 0)
  | 0, n, d, acc, h, _, _, _, _, _, _ => by omega
  | N + 1, n, d, acc, hN, h1, hn, hd2, hd, hlo, hacc => by
    have haccl : acc.length < 8796093022208 := by
      apply Classical.byContradiction
      intro hc
      have a : 2 ^ 41 ≤ 2 ^ acc.length := Nat.pow_le_pow_right (by omega) (by omega)
      have b : 2 ^ acc.length * 1 ≤ 2 ^ acc.length * n := Nat.mul_le_mul_left _ h1
      omega
    by_cases hn1 : n = 1
    · subst hn1
      refine ⟨[], rfl, Ev.step (f := fun _ => some (acc, 0)) (fun k => ?_) ?_⟩
      · simp only [prime_Factor.l0]
        rw [if_neg (by simp)]
      · simpa [encP] using Ev.now (acc, (0 : Int))
    · suffices H : ∀ (t d : Nat), 46342 - d = t → 2 ≤ d → d ≤ 46341 → (∀ q, 2 ≤ q → q ∣ n → d ≤ q) → ∃ L, Fac 1 n L ∧ Ev (fun k => prime_Factor.l1 k n acc d) (acc ++ encP L, 0) by
        obtain ⟨L, h2, h3⟩ := H _ d rfl hd2 hd hlo
        refine ⟨L, h2, Ev.step (fun k => ?_) h3⟩
        simp only [prime_Factor.l0]
        rw [if_pos (by omega)]
      clear hd2 hd hlo d
      intro t
      induction t with
      | zero => intro d a b c; omega
      | succ t ih =>
        intro d ht hd2 hd hlo
        by_cases hle : d * d ≤ n
        · have hb := sq_le hle hn
          by_cases hdv : d ∣ n
          · obtain ⟨f, m, hfm, hnd, hm1, hf⟩ := exists_strip hd2 n n (Nat.le_refl _) h1
            have hf := hf hdv
            have hp := pr_of_least hd2 hdv hlo
            have hmn : 2 * m ≤ n := by
              have a : d ^ 1 ≤ d ^ f := Nat.pow_le_pow_right (by omega) hf
              rw [Nat.pow_one] at a
              have b : d * m ≤ d ^ f * m := Nat.mul_le_mul_right _ a
              have c : 2 * m ≤ d * m := Nat.mul_le_mul_right _ hd2
              omega
            have hdm : m ∣ n := ⟨d ^ f, by rw [hfm, Nat.mul_comm]⟩
            have hlo' : ∀ q, 2 ≤ q → q ∣ m → d ≤ q := fun q h2 h3 => hlo q h2 (Nat.dvd_trans h3 hdm)
            obtain ⟨L, hL, hE⟩ := fac_loop N m d (acc ++ [⟨d, (f : Int)⟩]) (by omega) hm1 (by omega) hd2 hd hlo' (by
              rw [List.length_append, List.length_singleton, Nat.pow_succ, Nat.mul_assoc]
              exact Nat.le_trans (Nat.mul_le_mul_left _ hmn) hacc)
            refine ⟨(d, f) :: L, ⟨by omega, hp, hf, m, hfm, hL.raise fun q hq hqd => ?_⟩, ?_⟩
            · have := hlo' q hq.1 hqd
              have : q ≠ d := by rintro rfl; exact hnd hqd
              omega
            · have hfb := pow_bound hd2 hm1 (by omega : d ^ f * m ≤ 2147483647)
              refine Ev.step (f := fun k => prime_Factor.l2 k ((d ^ f * m : Nat) : Int) acc d ((0 : Nat) : Int)) (fun k => ?_) (strip_loop hd2 (by omega) hm1 hnd acc haccl _ f 0 (by omega) (by omega) ?_)
              · simp only [prime_Factor.l1]
                rw [if_neg (by rw [sq_wrap (by omega)]; omega), if_neg (by omega), tmod_nat, if_pos (by rw [Nat.mod_eq_zero_of_dvd hdv]; rfl), ← hfm]
                rfl
              · rw [Nat.zero_add]
                simpa [encP] using hE
          · obtain ⟨L, h2, h3⟩ := ih (d + 1) (by omega) (by omega) (by omega) (fun q h1 h3 => by
              have := hlo q h1 h3
              have : q ≠ d := by rintro rfl; exact hdv h3
              omega)
            refine ⟨L, h2, Ev.step (f := fun k => prime_Factor.l1 k n acc (d + 1 : Nat)) (fun k => ?_) h3⟩
            simp only [prime_Factor.l1]
            rw [if_neg (by rw [sq_wrap (by omega)]; omega), if_neg (by omega), tmod_nat, if_neg (fun h => hdv (Nat.dvd_of_mod_eq_zero (by omega))), w64 (by omega) (by omega)]
            rfl
        · have hp : Pr n := pr_of_noDiv (by omega) (fun q a b _ => hlo q a b) (by omega)
          refine ⟨[(n, 1)], ⟨by omega, hp, Nat.le_refl _, 1, by simp, rfl⟩, Ev.step (f := fun _ => some (acc ++ [⟨(n : Int), 1⟩], 0)) (fun k => ?_) ?_⟩
          · simp only [prime_Factor.l1]
            rw [if_pos (by rw [sq_wrap (by omega)]; omega), if_pos haccl]
          · simpa [encP] using Ev.now (acc ++ [(⟨(n : Int), 1⟩ : S30)], (0 : Int))
theorem factor_nat (n : Nat) (h1 : 1 ≤ n) (hn : n ≤ 2147483647) : ∃ L, Fac 1 n L ∧ Ev (fun k => prime_Factor.f k n) (encP L, 0) := by
  obtain ⟨L, h2, h3⟩ := fac_loop (n + 1) n 2 [] (by omega) h1 hn (by omega) (by omega) (fun q h _ => h) (by simp; omega)
  refine ⟨L, h2, ?_⟩
  refine Ev.congr (f := fun k => prime_Factor.j0 k n false) (fun k => by unfold prime_Factor.f; rw [if_neg (by omega), decide_eq_false (by omega)]) ?_
  refine Ev.step (f := fun k => prime_Factor.l0 k n [] 2) (fun k => ?_) (by simpa using h3)
  simp only [prime_Factor.j0]; rw [if_neg (by simp)]
end Go.Proofs.Ytcjhbjfkcmncpaa.Q
namespace Go.Proofs.Ytcjhbjfkcmncpaa.Q
open Go.RowKit Go.Proofs.YtcjhbjfkcmncpaaW.PrintWords Go.Proofs.YtcjhbjfkcmncpaaW.PrintLast Go.Proofs.YtcjhbjfkcmncpaaW.PrintMore
attribute [local go_sem] max2_int min2_int max_two min_two max_three min_three max_four min_four   -- for this text's walks alone
set_option linter.unusedVariables false
set_option linter.unusedSimpArgs false
def quadformref22_Mod.f (a0 : Int) (a1 : Int) : Option (Int) := if a1 = 0 then (none) else (if (Int.tmod a0 a1) < 0 then (some (wrap64 ((Int.tmod a0 a1) + a1))) else (some (Int.tmod a0 a1)))
set_option maxHeartbeats 8000000 in
set_option maxRecDepth 100000 in
theorem quadformref22_Mod.calls (a0 : Int) (a1 : Int) (r : Int) (w : World) (h : quadformref22_Mod.f a0 a1 = some r) :
    Calls Try.prog 46 #[.int .i64 a0, .int .i64 a1] w fun e w' => e = .returned (.int .i64 r) ∧ Drawn0 w w' := by
  have H : (if a1 = 0 then (none) else (if (Int.tmod a0 a1) < 0 then (some (wrap64 ((Int.tmod a0 a1) + a1))) else (some (Int.tmod a0 a1)))) = some r := h
  clear h
  by_cases c3 : a1 = 0
  · rw [if_pos c3] at H
    exact absurd H (by simp)
  · rw [if_neg c3] at H
    have c3b0 : (a1 == 0) = false := beq_eq_false_iff_ne.mpr c3
    have c3b1 : (a1 != 0) = true := bne_iff_ne.mpr c3
    by_cases c4 : (Int.tmod a0 a1) < 0
    · rw [if_pos c4] at H
      have c4b0 : decide ((Int.tmod a0 a1) < 0) = true := decide_eq_true c4
      clear c4
      obtain rfl := Option.some.inj H
      go_enter Try.func46, Try.ntmps46
      go_wp2
      go_ret
      exact ⟨by first | rfl | (simp; done) | (simp [*]; done), by repeat (first | exact Drawn0.refl _ | apply Drawn0.step)⟩
    · rw [if_neg c4] at H
      have c4b0 : decide ((Int.tmod a0 a1) < 0) = false := decide_eq_false c4
      clear c4
      obtain rfl := Option.some.inj H
      go_enter Try.func46, Try.ntmps46
      go_wp2
      go_ret
      exact ⟨by first | rfl | (simp; done) | (simp [*]; done), by repeat (first | exact Drawn0.refl _ | apply Drawn0.step)⟩
end Go.Proofs.Ytcjhbjfkcmncpaa.Q
namespace Go.Proofs.Ytcjhbjfkcmncpaa.Q
open Go.RowKit Go.Proofs.YtcjhbjfkcmncpaaW.PrintWords Go.Proofs.YtcjhbjfkcmncpaaW.PrintLast Go.Proofs.YtcjhbjfkcmncpaaW.PrintMore
attribute [local go_sem] max2_int min2_int max_two min_two max_three min_three max_four min_four   -- for this text's walks alone
set_option linter.unusedVariables false
set_option linter.unusedSimpArgs false
def quadformref22_two.j0 : Nat → Int → Bool → Option (Int)
  | 0, _, _ => none
  | k + 1, x4, x5 => if x5 = true then (some 1) else (if x4 = 3 then (some (-1)) else (if x4 = 5 then (some (-1)) else (some 0)))
def quadformref22_two.f (k : Nat) (a0 : Int) : Option (Int) := (quadformref22_Mod.f a0 8).bind fun t101 => (if t101 = 1 then (quadformref22_two.j0 k t101 (t101 == 1)) else (quadformref22_two.j0 k t101 (t101 == 7)))
theorem quadformref22_two.mono_l : ∀ k, (∀ y0 y1, LeO (quadformref22_two.j0 k y0 y1) (quadformref22_two.j0 (k + 1) y0 y1))
  | 0 => fun _ _ r h => by simp [quadformref22_two.j0] at h
  | k + 1 => by
    have ih0 := quadformref22_two.mono_l k
    · intro y0 y1
      unfold quadformref22_two.j0
      repeat' first
      | (with_reducible exact ih0 _ _)
      | (with_reducible exact LeO.refl _)
      | (with_reducible exact LeO.none _)
      | (with_reducible refine LeO.ite ?_ ?_)
      | (with_reducible refine LeO.bind ?_ (fun _ => ?_))
      | exact ih0 _ _
      | exact LeO.none _
      | refine LeO.ite ?_ ?_
      | refine LeO.bind ?_ (fun _ => ?_)
theorem quadformref22_two.mono : ∀ a0 k, LeO (quadformref22_two.f k a0) (quadformref22_two.f (k + 1) a0) := by
  intro a0 k
  have ih0 := quadformref22_two.mono_l k
  unfold quadformref22_two.f
  repeat' first
      | (with_reducible exact ih0 _ _)
      | (with_reducible exact LeO.refl _)
      | (with_reducible exact LeO.none _)
      | (with_reducible refine LeO.ite ?_ ?_)
      | (with_reducible refine LeO.bind ?_ (fun _ => ?_))
      | exact ih0 _ _
      | exact LeO.none _
      | refine LeO.ite ?_ ?_
      | refine LeO.bind ?_ (fun _ => ?_)
set_option maxHeartbeats 8000000 in
set_option maxRecDepth 100000 in
theorem quadformref22_two.calls (k : Nat) (a0 : Int) (r : Int) (w : World) (h : quadformref22_two.f k a0 = some r) :
    Calls Try.prog 54 #[.int .i64 a0] w fun e w' => e = .returned (.int .i64 r) ∧ Drawn0 w w' := by
  have H : ((quadformref22_Mod.f a0 8).bind fun t101 => (if t101 = 1 then (quadformref22_two.j0 k t101 (t101 == 1)) else (quadformref22_two.j0 k t101 (t101 == 7)))) = some r := h
  clear h
  replace H := Option.bind_eq_some_iff.mp H
  obtain ⟨t101, A20, H⟩ := H
  replace H : (if t101 = 1 then (quadformref22_two.j0 k t101 (t101 == 1)) else (quadformref22_two.j0 k t101 (t101 == 7))) = some r := H
  have A2 := Aside0.mk A20
  clear A20
  have HC3 := Aside0.mk H
  clear H
  go_enter Try.func54, Try.ntmps54
  go_upto_if 5 with (first | ((with_reducible refine gate_callee (f := 46) rfl ?_); refine goesL_ (some 4) rfl rfl Try.func46 (by kernel_rfl) rfl #[.int .i64 a0, .int .i64 8] rfl (by (try simp only [List.map_toArray, List.map_cons, List.map_nil]); first | done | rfl | (simp only [List.length_drop, List.length_take]; rfl)) ?_; (with_reducible refine (quadformref22_Mod.calls a0 8 t101 _ A2.out).mono ?_); rintro e w' ⟨rfl, ⟨nd, rfl⟩⟩; refine ⟨_, rfl, ?_⟩))
  (try simp only [Act.put, List.setIfInBounds_toArray, List.set_cons_zero, List.set_cons_succ])
  go_cut [5] (fun v5 wc => ∃ (kq : Nat) (x5_2 : Bool), v5 = .bool x5_2 ∧ Aside0 (quadformref22_two.j0 kq t101 x5_2 = some r) ∧ Aside0 (kq ≤ k) ∧ Drawn0 w wc)
  case first =>
    have H := HC3.out
    clear HC3
    by_cases c4 : t101 = 1
    · rw [if_pos c4] at H
      have c4b0 : (t101 == 1) = true := beq_iff_eq.mpr c4
      have c4b1 : (t101 != 1) = false := bne_eq_false_iff_eq.mpr c4
      clear c4
      (first | rw [c4b0] | (simp only [i64_w, i32_w]; rw [c4b0]) | skip)
      have H' := Aside0.mk H
      clear H
      go_wp2
      go_meet
      case rel => exact ⟨_, ((t101 == 1)), sd, H', ⟨by first | omega | exact Nat.le_refl _⟩, by repeat (first | exact Drawn0.refl _ | apply Drawn0.step)⟩
    · rw [if_neg c4] at H
      have c4b0 : (t101 == 1) = false := beq_eq_false_iff_ne.mpr c4
      have c4b1 : (t101 != 1) = true := bne_iff_ne.mpr c4
      (first | rw [c4b0] | (simp only [i64_w, i32_w]; rw [c4b0]) | skip)
      have H' := Aside0.mk H
      clear H
      go_wp2
      go_meet
      case rel => exact ⟨_, ((t101 == 7)), sd, H', ⟨by first | omega | exact Nat.le_refl _⟩, by repeat (first | exact Drawn0.refl _ | apply Drawn0.step)⟩
  case rest =>
    clear HC3
    try clear p2
    try clear c4
    try clear c4b0
    try clear c4b1
    obtain ⟨kq, x5_2, rfl, HA, HJ2, ⟨mc2, rfl⟩⟩ := hcut
    cases kq with
    | zero => exact absurd HA.out (by simp [quadformref22_two.j0])
    | succ kj2 =>
      have H := HA.out
      clear HA
      simp only [quadformref22_two.j0] at H
      by_cases c5 : x5_2 = true
      · subst c5
        have H1 : (some 1) = some r := by rw [if_pos rfl] at H; exact H
        clear H
        have H := H1
        clear H1
        obtain rfl := Option.some.inj H
        go_wp2
        go_ret
        exact ⟨by first | rfl | (simp; done) | (simp [*]; done), by repeat (first | exact Drawn0.refl _ | apply Drawn0.step)⟩
      · replace c5 := Bool.eq_false_iff.mpr c5
        subst c5
        have H1 : (if t101 = 3 then (some (-1)) else (if t101 = 5 then (some (-1)) else (some 0))) = some r := by rw [if_neg (show ¬ (false = true) by decide)] at H; exact H
        clear H
        have H := H1
        clear H1
        by_cases c6 : t101 = 3
        · rw [if_pos c6] at H
          have c6b0 : (t101 == 3) = true := beq_iff_eq.mpr c6
          have c6b1 : (t101 != 3) = false := bne_eq_false_iff_eq.mpr c6
          clear c6
          obtain rfl := Option.some.inj H
          go_wp2
          go_ret
          exact ⟨by first | rfl | (simp; done) | (simp [*]; done), by repeat (first | exact Drawn0.refl _ | apply Drawn0.step)⟩
        · rw [if_neg c6] at H
          have c6b0 : (t101 == 3) = false := beq_eq_false_iff_ne.mpr c6
          have c6b1 : (t101 != 3) = true := bne_iff_ne.mpr c6
          by_cases c7 : t101 = 5
          · rw [if_pos c7] at H
            have c7b0 : (t101 == 5) = true := beq_iff_eq.mpr c7
            have c7b1 : (t101 != 5) = false := bne_eq_false_iff_eq.mpr c7
            clear c7
            obtain rfl := Option.some.inj H
            go_wp2
            go_ret
            exact ⟨by first | rfl | (simp; done) | (simp [*]; done), by repeat (first | exact Drawn0.refl _ | apply Drawn0.step)⟩
          · rw [if_neg c7] at H
            have c7b0 : (t101 == 5) = false := beq_eq_false_iff_ne.mpr c7
            have c7b1 : (t101 != 5) = true := bne_iff_ne.mpr c7
            obtain rfl := Option.some.inj H
            go_wp2
            go_ret
            exact ⟨by first | rfl | (simp; done) | (simp [*]; done), by repeat (first | exact Drawn0.refl _ | apply Drawn0.step)⟩
end Go.Proofs.Ytcjhbjfkcmncpaa.Q
namespace Go.Proofs.Ytcjhbjfkcmncpaa.Q
open Go.RowKit Go.Proofs.YtcjhbjfkcmncpaaW.PrintWords Go.Proofs.YtcjhbjfkcmncpaaW.PrintLast Go.Proofs.YtcjhbjfkcmncpaaW.PrintMore
attribute [local go_sem] max2_int min2_int max_two min_two max_three min_three max_four min_four   -- for this text's walks alone
set_option linter.unusedVariables false
set_option linter.unusedSimpArgs false
def quadformref22_ModPow.l0 : Nat → Int → Int → Int → Int → Option (Int)
  | 0, _, _, _, _ => none
  | k + 1, x0, x1, x2, x7 => if x1 > 0 then (if (Int.tmod x1 2) = 1 then (if x2 = 0 then (none) else (quadformref22_ModPow.l0 k (Int.tmod (wrap64 (x0 * x0)) x2) (wrap64 (Int.tdiv x1 2)) x2 (Int.tmod (wrap64 (x7 * x0)) x2))) else (if x2 = 0 then (none) else (quadformref22_ModPow.l0 k (Int.tmod (wrap64 (x0 * x0)) x2) (wrap64 (Int.tdiv x1 2)) x2 x7))) else (some x7)
def quadformref22_ModPow.f (k : Nat) (a0 : Int) (a1 : Int) (a2 : Int) : Option (Int) := if a2 = 0 then (none) else ((quadformref22_Mod.f a0 a2).bind fun t101 => (quadformref22_ModPow.l0 k t101 a1 a2 ((1 : Int) % a2)))
theorem quadformref22_ModPow.mono_l : ∀ k, (∀ y0 y1 y2 y3, LeO (quadformref22_ModPow.l0 k y0 y1 y2 y3) (quadformref22_ModPow.l0 (k + 1) y0 y1 y2 y3))
  | 0 => fun _ _ _ _ r h => by simp [quadformref22_ModPow.l0] at h
  | k + 1 => by
    have ih0 := quadformref22_ModPow.mono_l k
    · intro y0 y1 y2 y3
      unfold quadformref22_ModPow.l0
      repeat' first
      | (with_reducible exact ih0 _ _ _ _)
      | (with_reducible exact LeO.refl _)
      | (with_reducible exact LeO.none _)
      | (with_reducible refine LeO.ite ?_ ?_)
      | (with_reducible refine LeO.bind ?_ (fun _ => ?_))
      | exact ih0 _ _ _ _
      | exact LeO.none _
      | refine LeO.ite ?_ ?_
      | refine LeO.bind ?_ (fun _ => ?_)
theorem quadformref22_ModPow.mono : ∀ a0 a1 a2 k, LeO (quadformref22_ModPow.f k a0 a1 a2) (quadformref22_ModPow.f (k + 1) a0 a1 a2) := by
  intro a0 a1 a2 k
  have ih0 := quadformref22_ModPow.mono_l k
  unfold quadformref22_ModPow.f
  repeat' first
      | (with_reducible exact ih0 _ _ _ _)
      | (with_reducible exact LeO.refl _)
      | (with_reducible exact LeO.none _)
      | (with_reducible refine LeO.ite ?_ ?_)
      | (with_reducible refine LeO.bind ?_ (fun _ => ?_))
      | exact ih0 _ _ _ _
      | exact LeO.none _
      | refine LeO.ite ?_ ?_
      | refine LeO.bind ?_ (fun _ => ?_)
set_option maxHeartbeats 8000000 in
set_option maxRecDepth 100000 in
theorem quadformref22_ModPow.calls (k : Nat) (a0 : Int) (a1 : Int) (a2 : Int) (r : Int) (w : World) (h : quadformref22_ModPow.f k a0 a1 a2 = some r) :
    Calls Try.prog 64 #[.int .i64 a0, .int .i64 a1, .int .i64 a2] w fun e w' => e = .returned (.int .i64 r) ∧ Drawn0 w w' := by
  have H : (if a2 = 0 then (none) else ((quadformref22_Mod.f a0 a2).bind fun t101 => (quadformref22_ModPow.l0 k t101 a1 a2 ((1 : Int) % a2)))) = some r := h
  clear h
  by_cases c4 : a2 = 0
  · rw [if_pos c4] at H
    exact absurd H (by simp)
  · rw [if_neg c4] at H
    have c4b0 : (a2 == 0) = false := beq_eq_false_iff_ne.mpr c4
    have c4b1 : (a2 != 0) = true := bne_iff_ne.mpr c4
    replace H := Option.bind_eq_some_iff.mp H
    obtain ⟨t101, A50, H⟩ := H
    replace H : (quadformref22_ModPow.l0 k t101 a1 a2 ((1 : Int) % a2)) = some r := H
    have A5 := Aside0.mk A50
    clear A50
    have H' := Aside0.mk H
    clear H
    go_enter Try.func64, Try.ntmps64
    go_wp2_with (first | ((with_reducible refine gate_callee (f := 46) rfl ?_); refine goesL_ (some 12) rfl rfl Try.func46 (by kernel_rfl) rfl #[.int .i64 a0, .int .i64 a2] rfl (by (try simp only [List.map_toArray, List.map_cons, List.map_nil]); first | done | rfl | (simp only [List.length_drop, List.length_take]; rfl)) ?_; (with_reducible refine (quadformref22_Mod.calls a0 a2 t101 _ A5.out).mono ?_); rintro e w' ⟨rfl, ⟨nd, rfl⟩⟩; refine ⟨_, rfl, ?_⟩))
    go_loopg [0, 1, 7] k (fun kq v0 v1 v7 w' => ∃ (x0_1 : Int) (x1_1 : Int) (x7_1 : Int), v0 = .int .i64 x0_1 ∧ v1 = .int .i64 x1_1 ∧ v7 = .int .i64 x7_1 ∧ Aside0 (quadformref22_ModPow.l0 kq x0_1 x1_1 a2 x7_1 = some r) ∧ Aside0 (kq ≤ k) ∧ Drawn0 w w')
    case atStart => exact ⟨(t101), (a1), ((1 : Int) % a2), sd, sd, sd, H', ⟨Nat.le_refl _⟩, by repeat (first | exact Drawn0.refl _ | apply Drawn0.step)⟩
    case round =>
      clear H'
      try clear p2
      try clear c4
      try clear c4b0
      try clear c4b1
      obtain ⟨x0_1, x1_1, x7_1, rfl, rfl, rfl, HA, HK1, ⟨m1, rfl⟩⟩ := hrel
      cases gk with
      | zero => exact absurd HA.out (by simp [quadformref22_ModPow.l0])
      | succ k1 =>
        have H := HA.out
        clear HA
        simp only [quadformref22_ModPow.l0] at H
        by_cases c6 : x1_1 > 0
        · rw [if_pos c6] at H
          have c6b0 : decide (0 < x1_1) = true := decide_eq_true c6
          clear c6
          by_cases c7 : (Int.tmod x1_1 2) = 1
          · rw [if_pos c7] at H
            have c7b0 : ((Int.tmod x1_1 2) == 1) = true := beq_iff_eq.mpr c7
            have c7b1 : ((Int.tmod x1_1 2) != 1) = false := bne_eq_false_iff_eq.mpr c7
            clear c7
            by_cases c8 : a2 = 0
            · rw [if_pos c8] at H
              exact absurd H (by simp)
            · rw [if_neg c8] at H
              have c8b0 : (a2 == 0) = false := beq_eq_false_iff_ne.mpr c8
              have c8b1 : (a2 != 0) = true := bne_iff_ne.mpr c8
              have H' := Aside0.mk H
              clear H
              go_wp2
              go_roundg k1
              case measure => have := HK1.out; omega
              case rel => exact ⟨(Int.tmod (wrap64 (x0_1 * x0_1)) a2), (wrap64 (Int.tdiv x1_1 2)), (Int.tmod (wrap64 (x7_1 * x0_1)) a2), sd, sd, sd, H', ⟨by have := HK1.out; omega⟩, by repeat (first | exact Drawn0.refl _ | apply Drawn0.step)⟩
          · rw [if_neg c7] at H
            have c7b0 : ((Int.tmod x1_1 2) == 1) = false := beq_eq_false_iff_ne.mpr c7
            have c7b1 : ((Int.tmod x1_1 2) != 1) = true := bne_iff_ne.mpr c7
            by_cases c9 : a2 = 0
            · rw [if_pos c9] at H
              exact absurd H (by simp)
            · rw [if_neg c9] at H
              have c9b0 : (a2 == 0) = false := beq_eq_false_iff_ne.mpr c9
              have c9b1 : (a2 != 0) = true := bne_iff_ne.mpr c9
              have H' := Aside0.mk H
              clear H
              go_wp2
              go_roundg k1
              case measure => have := HK1.out; omega
              case rel => exact ⟨(Int.tmod (wrap64 (x0_1 * x0_1)) a2), (wrap64 (Int.tdiv x1_1 2)), (x7_1), sd, sd, sd, H', ⟨by have := HK1.out; omega⟩, by repeat (first | exact Drawn0.refl _ | apply Drawn0.step)⟩
        · rw [if_neg c6] at H
          have c6b0 : decide (0 < x1_1) = false := decide_eq_false c6
          clear c6
          obtain rfl := Option.some.inj H
          go_wp2
          go_ret
          exact ⟨by first | rfl | (simp; done) | (simp [*]; done), by repeat (first | exact Drawn0.refl _ | apply Drawn0.step)⟩
end Go.Proofs.Ytcjhbjfkcmncpaa.Q
namespace Go.Proofs.Ytcjhbjfkcmncpaa.Q
open Go.RowKit Go.Proofs.YtcjhbjfkcmncpaaW.PrintWords Go.Proofs.YtcjhbjfkcmncpaaW.PrintLast Go.Proofs.YtcjhbjfkcmncpaaW.PrintMore
attribute [local go_sem] max2_int min2_int max_two min_two max_three min_three max_four min_four   -- for this text's walks alone
set_option linter.unusedVariables false
set_option linter.unusedSimpArgs false
def quadformref22_Legendre.f (k : Nat) (a0 : Int) (a1 : Int) : Option (Int) := (quadformref22_ModPow.f k a0 (wrap64 (Int.tdiv (wrap64 (a1 - 1)) 2)) a1).bind fun t101 => (if t101 = 0 then (some 0) else (if t101 = 1 then (some 1) else (some (-1))))
theorem quadformref22_Legendre.mono : ∀ a0 a1 k, LeO (quadformref22_Legendre.f k a0 a1) (quadformref22_Legendre.f (k + 1) a0 a1) := by
  intro a0 a1 k
  unfold quadformref22_Legendre.f
  repeat' first
      | (with_reducible exact quadformref22_ModPow.mono _ _ _ _)
      | (with_reducible exact LeO.refl _)
      | (with_reducible exact LeO.none _)
      | (with_reducible refine LeO.ite ?_ ?_)
      | (with_reducible refine LeO.bind ?_ (fun _ => ?_))
      | exact quadformref22_ModPow.mono _ _ _ _
      | exact LeO.none _
      | refine LeO.ite ?_ ?_
      | refine LeO.bind ?_ (fun _ => ?_)
set_option maxHeartbeats 8000000 in
set_option maxRecDepth 100000 in
theorem quadformref22_Legendre.calls (k : Nat) (a0 : Int) (a1 : Int) (r : Int) (w : World) (h : quadformref22_Legendre.f k a0 a1 = some r) :
    Calls Try.prog 55 #[.int .i64 a0, .int .i64 a1] w fun e w' => e = .returned (.int .i64 r) ∧ Drawn0 w w' := by
  have H : ((quadformref22_ModPow.f k a0 (wrap64 (Int.tdiv (wrap64 (a1 - 1)) 2)) a1).bind fun t101 => (if t101 = 0 then (some 0) else (if t101 = 1 then (some 1) else (some (-1))))) = some r := h
  clear h
  replace H := Option.bind_eq_some_iff.mp H
  obtain ⟨t101, A30, H⟩ := H
  replace H : (if t101 = 0 then (some 0) else (if t101 = 1 then (some 1) else (some (-1)))) = some r := H
  have A3 := Aside0.mk A30
  clear A30
  by_cases c4 : t101 = 0
  · rw [if_pos c4] at H
    have c4b0 : (t101 == 0) = true := beq_iff_eq.mpr c4
    have c4b1 : (t101 != 0) = false := bne_eq_false_iff_eq.mpr c4
    clear c4
    obtain rfl := Option.some.inj H
    go_enter Try.func55, Try.ntmps55
    go_wp2_with (first | ((with_reducible refine gate_callee (f := 64) rfl ?_); refine goesL_ (some 10) rfl rfl Try.func64 (by kernel_rfl) rfl #[.int .i64 a0, .int .i64 (wrap64 (Int.tdiv (wrap64 (a1 - 1)) 2)), .int .i64 a1] rfl (by (try simp only [List.map_toArray, List.map_cons, List.map_nil]); first | done | rfl | (simp only [List.length_drop, List.length_take]; rfl)) ?_; (with_reducible refine (quadformref22_ModPow.calls k a0 (wrap64 (Int.tdiv (wrap64 (a1 - 1)) 2)) a1 t101 _ A3.out).mono ?_); rintro e w' ⟨rfl, ⟨nd, rfl⟩⟩; refine ⟨_, rfl, ?_⟩))
    go_ret
    exact ⟨by first | rfl | (simp; done) | (simp [*]; done), by repeat (first | exact Drawn0.refl _ | apply Drawn0.step)⟩
  · rw [if_neg c4] at H
    have c4b0 : (t101 == 0) = false := beq_eq_false_iff_ne.mpr c4
    have c4b1 : (t101 != 0) = true := bne_iff_ne.mpr c4
    by_cases c5 : t101 = 1
    · rw [if_pos c5] at H
      have c5b0 : (t101 == 1) = true := beq_iff_eq.mpr c5
      have c5b1 : (t101 != 1) = false := bne_eq_false_iff_eq.mpr c5
      clear c5
      obtain rfl := Option.some.inj H
      go_enter Try.func55, Try.ntmps55
      go_wp2_with (first | ((with_reducible refine gate_callee (f := 64) rfl ?_); refine goesL_ (some 10) rfl rfl Try.func64 (by kernel_rfl) rfl #[.int .i64 a0, .int .i64 (wrap64 (Int.tdiv (wrap64 (a1 - 1)) 2)), .int .i64 a1] rfl (by (try simp only [List.map_toArray, List.map_cons, List.map_nil]); first | done | rfl | (simp only [List.length_drop, List.length_take]; rfl)) ?_; (with_reducible refine (quadformref22_ModPow.calls k a0 (wrap64 (Int.tdiv (wrap64 (a1 - 1)) 2)) a1 t101 _ A3.out).mono ?_); rintro e w' ⟨rfl, ⟨nd, rfl⟩⟩; refine ⟨_, rfl, ?_⟩))
      go_ret
      exact ⟨by first | rfl | (simp; done) | (simp [*]; done), by repeat (first | exact Drawn0.refl _ | apply Drawn0.step)⟩
    · rw [if_neg c5] at H
      have c5b0 : (t101 == 1) = false := beq_eq_false_iff_ne.mpr c5
      have c5b1 : (t101 != 1) = true := bne_iff_ne.mpr c5
      obtain rfl := Option.some.inj H
      go_enter Try.func55, Try.ntmps55
      go_wp2_with (first | ((with_reducible refine gate_callee (f := 64) rfl ?_); refine goesL_ (some 10) rfl rfl Try.func64 (by kernel_rfl) rfl #[.int .i64 a0, .int .i64 (wrap64 (Int.tdiv (wrap64 (a1 - 1)) 2)), .int .i64 a1] rfl (by (try simp only [List.map_toArray, List.map_cons, List.map_nil]); first | done | rfl | (simp only [List.length_drop, List.length_take]; rfl)) ?_; (with_reducible refine (quadformref22_ModPow.calls k a0 (wrap64 (Int.tdiv (wrap64 (a1 - 1)) 2)) a1 t101 _ A3.out).mono ?_); rintro e w' ⟨rfl, ⟨nd, rfl⟩⟩; refine ⟨_, rfl, ?_⟩))
      go_ret
      exact ⟨by first | rfl | (simp; done) | (simp [*]; done), by repeat (first | exact Drawn0.refl _ | apply Drawn0.step)⟩
end Go.Proofs.Ytcjhbjfkcmncpaa.Q
namespace Go.Proofs.Ytcjhbjfkcmncpaa.Q
open Go.RowKit Go.Proofs.YtcjhbjfkcmncpaaW.PrintWords Go.Proofs.YtcjhbjfkcmncpaaW.PrintLast Go.Proofs.YtcjhbjfkcmncpaaW.PrintMore
open Go.Proofs.Ytcjhbjfkcmncpaa.Num
theorem tmod_emod (a : Int) (m : Nat) (hm : 0 < m) : (if Int.tmod a m < 0 then Int.tmod a m + m else Int.tmod a m) = a % m := by
  have e := Int.tmod_add_mul_tdiv a m
  have hlt : Int.tmod a m < m := Int.tmod_lt_of_pos _ (by omega)
  have hgt : -(m : Int) < Int.tmod a m := by
    have := Int.tmod_lt_of_pos (-a) (show (0 : Int) < m by omega)
    rw [Int.neg_tmod] at this
    omega
  have h1 : a % m = (Int.tmod a m) % m := by
    conv => lhs; rw [← e]
    rw [Int.add_mul_emod_self_left]
  rw [h1]
  split
  · rw [← Int.add_emod_right, Int.emod_eq_of_lt (by omega) (by omega)]
  · rw [Int.emod_eq_of_lt (by omega) (by omega)]
theorem residue_ok (a : Int) (m : Nat) (hm : 0 < m) (hm2 : m ≤ 2147483647) : prime_residue.f a m = some (a % m) := by
  have e := tmod_emod a m hm
  have h0 := Int.emod_nonneg a (show (m : Int) ≠ 0 by omega)
  have h1 := Int.emod_lt_of_pos a (show (0 : Int) < m by omega)
  unfold prime_residue.f
  rw [if_neg (by omega)]
  split <;> rename_i h
  · rw [if_pos h] at e
    rw [e, w64 (by omega) (by omega)]
  · rw [if_neg h] at e
    rw [e]
theorem pow_odd {a c f p : Nat} : (c * a % p) * (a * a % p) ^ f % p = c * a ^ (2 * f + 1) % p := by
  rw [Nat.mul_mod, Nat.mod_mod, ← Nat.pow_mod, ← Nat.mul_mod]
  congr 1
  rw [← Nat.pow_two, ← Nat.pow_mul, Nat.mul_assoc, ← Nat.pow_succ']
theorem pow_even {a c f p : Nat} : c * (a * a % p) ^ f % p = c * a ^ (2 * f) % p := by
  rw [Nat.mul_mod, ← Nat.pow_mod, ← Nat.mul_mod]
  congr 1
  rw [← Nat.pow_two, ← Nat.pow_mul]
theorem mul_wrap {a b p : Nat} (ha : a < p) (hb : b < p) (hp : p ≤ 2147483647) : wrap64 ((a : Int) * b) = ((a * b : Nat) : Int) := by
  have := Nat.mul_le_mul (show a ≤ 2147483647 by omega) (show b ≤ 2147483647 by omega)
  rw [← Int.natCast_mul]
  apply w64 <;> omega
theorem symbol_loop {p : Nat} (hp0 : 2 ≤ p) (hp : p ≤ 2147483647) : ∀ (N e a c : Nat), e < N → e ≤ 2147483647 → a < p → c < p →
    Ev (fun k => prime_symbol.l0 k a p c e) (if (c * a ^ e) % p = 1 then 1 else -1)
  | 0, e, a, c, h, _, _, _ => by omega
  | N + 1, e, a, c, h, he, ha, hc => by
    by_cases h0 : e = 0
    · subst h0
      rw [Nat.pow_zero, Nat.mul_one, Nat.mod_eq_of_lt hc]
      refine Ev.step (f := fun _ => some (if c = 1 then 1 else -1)) (fun k => ?_) (Ev.now _)
      simp only [prime_symbol.l0]
      rw [if_neg (by omega)]
      by_cases h1 : c = 1
      · subst h1; rfl
      · rw [if_neg h1, if_neg (by omega)]
    · have ha2 : a * a % p < p := Nat.mod_lt _ (by omega)
      have hc2 : c * a % p < p := Nat.mod_lt _ (by omega)
      have ht : wrap64 (Int.tdiv (e : Int) 2) = ((e / 2 : Nat) : Int) := by
        rw [show Int.tdiv (e : Int) 2 = ((e / 2 : Nat) : Int) from tdiv_nat e 2]
        exact w64 (by omega) (by omega)
      have hm : Int.tmod (e : Int) 2 = ((e % 2 : Nat) : Int) := tmod_nat e 2
      by_cases hodd : e % 2 = 1
      · have key := symbol_loop hp0 hp N (e / 2) (a * a % p) (c * a % p) (by omega) (by omega) ha2 hc2
        rw [pow_odd, show 2 * (e / 2) + 1 = e by omega] at key
        refine Ev.step (f := fun k => prime_symbol.l0 k ((a * a % p : Nat) : Int) p ((c * a % p : Nat) : Int) ((e / 2 : Nat) : Int)) (fun k => ?_) key
        simp only [prime_symbol.l0]
        rw [if_pos (by omega), hm, if_pos (by rw [hodd]; rfl), if_neg (by omega), mul_wrap ha ha hp, mul_wrap hc ha hp, tmod_nat, tmod_nat, ht]
      · have key := symbol_loop hp0 hp N (e / 2) (a * a % p) c (by omega) (by omega) ha2 hc
        rw [pow_even, show 2 * (e / 2) = e by omega] at key
        refine Ev.step (f := fun k => prime_symbol.l0 k ((a * a % p : Nat) : Int) p c ((e / 2 : Nat) : Int)) (fun k => ?_) key
        simp only [prime_symbol.l0]
        rw [if_pos (by omega), hm, if_neg (by omega), if_neg (by omega), mul_wrap ha ha hp, tmod_nat, ht]
theorem symbol_ok {p : Nat} (hp : Pr p) (hpM : p ≤ 2147483647) (a : Int) : Ev (fun k => prime_symbol.f k a p) (sy a p) := by
  have hp2 := hp.1
  by_cases h2 : p = 2
  · subst h2
    have hr := residue_ok a 8 (by omega) (by omega)
    have h0 := Int.emod_nonneg a (show ((8 : Nat) : Int) ≠ 0 by omega)
    have h1 := Int.emod_lt_of_pos a (show (0 : Int) < (8 : Nat) by omega)
    unfold sy
    rw [if_pos rfl]
    refine Ev.congr (f := fun k => if a % 8 = 1 then prime_symbol.j0 k (a % 8) (a % 8 == 1) else prime_symbol.j0 k (a % 8) (a % 8 == 7)) (fun k => ?_) ?_
    · unfold prime_symbol.f
      rw [if_pos (show ((2 : Nat) : Int) = 2 from rfl), show prime_residue.f a 8 = some (a % 8) from hr]
      rfl
    · have hc : a % 8 = 0 ∨ a % 8 = 1 ∨ a % 8 = 2 ∨ a % 8 = 3 ∨ a % 8 = 4 ∨ a % 8 = 5 ∨ a % 8 = 6 ∨ a % 8 = 7 := by omega
      rcases hc with h | h | h | h | h | h | h | h <;> rw [h] <;> exact ⟨1, fun k hk => by obtain ⟨m, rfl⟩ : ∃ m, k = m + 1 := ⟨k - 1, by omega⟩; rfl⟩
  · have hr := residue_ok a p (by omega) hpM
    have h0 := Int.emod_nonneg a (show (p : Int) ≠ 0 by omega)
    have h1 := Int.emod_lt_of_pos a (show (0 : Int) < p by omega)
    unfold sy
    rw [if_neg h2]
    by_cases hz : a % p = 0
    · rw [if_pos hz]
      refine Ev.congr (f := fun k => some 0) (fun k => ?_) (Ev.now _)
      unfold prime_symbol.f
      rw [if_neg (by omega), hr, Option.bind_some, if_pos hz]
    · rw [if_neg hz]
      obtain ⟨r, hrr⟩ : ∃ r : Nat, a % p = r := ⟨(a % p).toNat, by omega⟩
      have key := symbol_loop hp2 hpM _ ((p - 1) / 2) r 1 (Nat.lt_succ_self _) (by omega) (by omega) (by omega)
      rw [Nat.one_mul] at key
      rw [hrr, Int.toNat_natCast]
      refine Ev.congr (fun k => ?_) key
      unfold prime_symbol.f
      rw [if_neg (by omega), hr, Option.bind_some, if_neg hz, hrr]
      have e : wrap64 (Int.tdiv (wrap64 ((p : Int) - 1)) 2) = (((p - 1) / 2 : Nat) : Int) := by
        rw [show (p : Int) - 1 = ((p - 1 : Nat) : Int) by omega, w64 (x := ((p - 1 : Nat) : Int)) (by omega) (by omega), show Int.tdiv ((p - 1 : Nat) : Int) 2 = (((p - 1) / 2 : Nat) : Int) from tdiv_nat (p - 1) 2]
        exact w64 (by omega) (by omega)
      rw [e]
      rfl
theorem rdP_at (L1 : List (Nat × Nat)) (x : Nat × Nat) (L2 : List (Nat × Nat)) : rd_T30 (encP (L1 ++ x :: L2)) (L1.length : Nat) = ⟨(x.1 : Int), (x.2 : Int)⟩ := by
  unfold rd_T30 encP
  rw [Int.toNat_natCast, List.getD_eq_getElem?_getD, List.getElem?_map, List.getElem?_append_right (Nat.le_refl _)]
  simp
theorem pm_mul {a b : Int} (ha : a = 1 ∨ a = -1) (hb : b = 1 ∨ b = -1) : a * b = 1 ∨ a * b = -1 := by
  rcases ha with rfl | rfl <;> rcases hb with rfl | rfl <;> simp
theorem pm_pow {a : Int} (ha : a = 1 ∨ a = -1) : ∀ e : Nat, a ^ e = if e % 2 = 1 then a else 1
  | 0 => by simp
  | e + 1 => by
    rw [Int.pow_succ, pm_pow ha e]
    rcases ha with rfl | rfl <;> split <;> split <;> first | omega | rfl
theorem kron_loop {a : Int} : ∀ (L2 L1 : List (Nat × Nat)) (s : Int), (∀ x ∈ L2, Pr x.1 ∧ 1 ≤ x.2 ∧ x.1 ≤ 2147483647 ∧ x.2 ≤ 100) → (L1 ++ L2).length ≤ 100 → (s = 1 ∨ s = -1) →
    Ev (fun k => prime_Kronecker.l0 k a s (encP (L1 ++ L2)) (((encP (L1 ++ L2)).length : Nat) : Int) (L1.length : Nat)) (s * val (sy a) L2, 0)
  | [], L1, s, _, hl, _ => by
    refine Ev.step (f := fun _ => some (s, 0)) (fun k => ?_) (by simpa [val] using Ev.now (s, (0 : Int)))
    simp only [prime_Kronecker.l0]
    rw [encP_length, if_neg (by simp)]
  | (p, e) :: L2, L1, s, hx, hl, hs => by
    obtain ⟨hp, he, hpM, heM⟩ := hx (p, e) (List.mem_cons_self ..)
    simp only at hp he hpM heM
    have hsym := symbol_ok hp hpM a
    have hlen : (L1.length : Int) < ((encP (L1 ++ (p, e) :: L2)).length : Nat) := by
      rw [encP_length, List.length_append, List.length_cons]; omega
    have hl1 : L1.length ≤ 100 := by rw [List.length_append] at hl; omega
    have hstep : ∀ k, prime_Kronecker.l0 (k + 1) a s (encP (L1 ++ (p, e) :: L2)) (((encP (L1 ++ (p, e) :: L2)).length : Nat) : Int) (L1.length : Nat) =
        (prime_symbol.f k a p).bind fun t => if t = 0 then some (0, 0) else if Int.tmod (e : Int) 2 = 1 then prime_Kronecker.l0 k a (wrap64 (s * t)) (encP (L1 ++ (p, e) :: L2)) (((encP (L1 ++ (p, e) :: L2)).length : Nat) : Int) ((L1.length + 1 : Nat) : Int) else prime_Kronecker.l0 k a s (encP (L1 ++ (p, e) :: L2)) (((encP (L1 ++ (p, e) :: L2)).length : Nat) : Int) ((L1.length + 1 : Nat) : Int) := by
      intro k
      simp only [prime_Kronecker.l0]
      rw [if_pos hlen, if_pos (by omega), if_pos hlen, rdP_at, w64 (x := (L1.length : Int) + 1) (by omega) (by omega)]
      rfl
    refine Ev.step hstep ?_
    refine Ev.bind (f := fun k t => if t = 0 then some (0, 0) else if Int.tmod (e : Int) 2 = 1 then prime_Kronecker.l0 k a (wrap64 (s * t)) (encP (L1 ++ (p, e) :: L2)) (((encP (L1 ++ (p, e) :: L2)).length : Nat) : Int) ((L1.length + 1 : Nat) : Int) else prime_Kronecker.l0 k a s (encP (L1 ++ (p, e) :: L2)) (((encP (L1 ++ (p, e) :: L2)).length : Nat) : Int) ((L1.length + 1 : Nat) : Int)) hsym ?_
    have hsplit : L1 ++ (p, e) :: L2 = (L1 ++ [(p, e)]) ++ L2 := by simp
    have hl' : ((L1 ++ [(p, e)]) ++ L2).length ≤ 100 := by rw [← hsplit]; exact hl
    have hL1 : (L1 ++ [(p, e)]).length = L1.length + 1 := by simp
    have hmod : Int.tmod (e : Int) 2 = ((e % 2 : Nat) : Int) := tmod_nat e 2
    rcases sy_range a p with hv | hv | hv
    all_goals rw [hv]
    · have hval : val (sy a) ((p, e) :: L2) = val (sy a) L2 := by
        simp only [val]; rw [hv, Int.one_pow, Int.one_mul]
      have ih := kron_loop (a := a) L2 (L1 ++ [(p, e)]) s (fun x h => hx x (List.mem_cons_of_mem _ h)) hl' hs
      rw [hL1, ← hsplit] at ih
      rw [hval]
      refine Ev.congr (fun k => ?_) ih
      rw [if_neg (by omega), Int.mul_one, w64 (by omega) (by omega), ite_self]
    · have hval : val (sy a) ((p, e) :: L2) = 0 := by
        simp only [val]; rw [hv, Int.zero_pow (by omega), Int.zero_mul]
      rw [hval, Int.mul_zero]
      exact Ev.congr (fun k => by rw [if_pos rfl]) (Ev.now _)
    · by_cases ho : e % 2 = 1
      · have hval : s * val (sy a) ((p, e) :: L2) = (s * -1) * val (sy a) L2 := by
          simp only [val]; rw [hv, pm_pow (.inr rfl), if_pos ho, Int.mul_assoc]
        have ih := kron_loop (a := a) L2 (L1 ++ [(p, e)]) (s * -1) (fun x h => hx x (List.mem_cons_of_mem _ h)) hl' (pm_mul hs (.inr rfl))
        rw [hL1, ← hsplit] at ih
        rw [hval]
        refine Ev.congr (fun k => ?_) ih
        rw [if_neg (by omega), hmod, ho, if_pos (show ((1 : Nat) : Int) = 1 from rfl), w64 (by omega) (by omega)]
      · have hval : s * val (sy a) ((p, e) :: L2) = s * val (sy a) L2 := by
          simp only [val]; rw [hv, pm_pow (.inr rfl), if_neg ho, Int.one_mul]
        have ih := kron_loop (a := a) L2 (L1 ++ [(p, e)]) s (fun x h => hx x (List.mem_cons_of_mem _ h)) hl' hs
        rw [hL1, ← hsplit] at ih
        rw [hval]
        refine Ev.congr (fun k => ?_) ih
        rw [if_neg (by omega), hmod, if_neg (by omega)]
theorem fac_bounds {n : Nat} {L : List (Nat × Nat)} (h : Fac 1 n L) (hn : n ≤ 2147483647) : (∀ x ∈ L, Pr x.1 ∧ 1 ≤ x.2 ∧ x.1 ≤ 2147483647 ∧ x.2 ≤ 100) ∧ L.length ≤ 100 := by
  have h1 := h.pos
  constructor
  · intro x hx
    obtain ⟨hp, he, hd, _⟩ := h.mem x hx
    have hle := Nat.le_of_dvd (by omega) hd
    have h2 := hp.1
    have hxx : x.1 ^ 1 ≤ x.1 ^ x.2 := Nat.pow_le_pow_right (by omega) he
    rw [Nat.pow_one] at hxx
    have := pow_bound (d := x.1) (f := x.2) (m := 1) h2 (by omega) (by omega)
    exact ⟨hp, he, by omega, by omega⟩
  · apply Classical.byContradiction
    intro hc
    have a := h.two_pow_le
    have b : 2 ^ 31 ≤ 2 ^ L.length := Nat.pow_le_pow_right (by omega) (by omega)
    omega
/-- The symbol (a/n) -/
def kr (a n : Int) (v : Int) : Prop :=
  (n = 0 ∧ v = if a = 1 ∨ a = -1 then 1 else 0) ∨ (n ≠ 0 ∧ ∃ L, Fac 1 n.natAbs L ∧ v = (if n < 0 ∧ a < 0 then -1 else 1) * val (sy a) L)
theorem beyond_ok (a : Int) : prime_beyond.f a = some (decide (2147483647 < a ∨ a < -2147483647)) := by
  unfold prime_beyond.f
  split
  · rw [decide_eq_true (by omega)]
  · congr 1
    simp only [decide_eq_decide]
    omega
theorem kron_ok {a n : Int} (ha : -2147483647 ≤ a ∧ a ≤ 2147483647) (hn : -2147483647 ≤ n ∧ n ≤ 2147483647) : ∃ v, kr a n v ∧ (v = 1 ∨ v = 0 ∨ v = -1) ∧ Ev (fun k => prime_Kronecker.f k a n) (v, 0) := by
  have hf : ∀ k, prime_Kronecker.f k a n = prime_Kronecker.j0 k a n false := by
    intro k
    unfold prime_Kronecker.f
    rw [beyond_ok, beyond_ok, decide_eq_false (by omega), decide_eq_false (by omega)]
    rfl
  by_cases h0 : n = 0
  · subst h0
    refine ⟨if a = 1 ∨ a = -1 then 1 else 0, .inl ⟨rfl, rfl⟩, by split <;> simp, Ev.congr hf ?_⟩
    refine Ev.step (f := fun _ => some (if a = 1 ∨ a = -1 then 1 else 0, 0)) (fun k => ?_) (Ev.now _)
    simp only [prime_Kronecker.j0, if_true]
    rw [if_neg (by simp)]
    split
    · rw [if_pos (.inl ‹_›)]
    · split
      · rw [if_pos (.inr ‹_›)]
      · rw [if_neg (by omega)]
  · obtain ⟨m, hm⟩ : ∃ m : Nat, n.natAbs = m := ⟨_, rfl⟩
    obtain ⟨L, hL, hF⟩ := factor_nat m (by omega) (by omega)
    obtain ⟨hb, hlen⟩ := fac_bounds hL (by omega)
    have hs : (if n < 0 ∧ a < 0 then (-1 : Int) else 1) = 1 ∨ (if n < 0 ∧ a < 0 then (-1 : Int) else 1) = -1 := by split <;> simp
    have hloop := kron_loop (a := a) L [] (if n < 0 ∧ a < 0 then -1 else 1) hb (by simpa using hlen) hs
    refine ⟨_, .inr ⟨h0, L, by rw [hm]; exact hL, rfl⟩, ?_, Ev.congr hf ?_⟩
    · have hv : ∀ L : List (Nat × Nat), val (sy a) L = 1 ∨ val (sy a) L = 0 ∨ val (sy a) L = -1 := by
        intro L
        induction L with
        | nil => simp [val]
        | cons x L ih =>
          obtain ⟨p, e⟩ := x
          simp only [val]
          have hz : sy a p ^ e = 1 ∨ sy a p ^ e = 0 ∨ sy a p ^ e = -1 := by
            rcases sy_range a p with h | h | h <;> rw [h]
            · exact .inl Int.one_pow
            · cases e with
              | zero => simp
              | succ e => rw [Int.zero_pow (by omega)]; simp
            · rw [pm_pow (.inr rfl)]; split <;> simp
          rcases hz with h | h | h <;> rcases ih with h' | h' | h' <;> rw [h, h'] <;> simp
      rcases hs with h | h <;> rw [h] <;> rcases hv L with h' | h' | h' <;> rw [h'] <;> simp
    · have h1 : ∀ k, prime_Kronecker.j0 (k + 1) a n false = prime_Kronecker.j1 k a m (if n < 0 ∧ a < 0 then -1 else 1) := by
        intro k
        simp only [prime_Kronecker.j0]
        rw [if_neg (by simp), if_neg h0]
        split
        · rename_i hn0
          rw [show wrap64 (-n) = (m : Int) by rw [w64 (by omega) (by omega)]; omega]
          split
          · rw [if_pos ⟨hn0, ‹_›⟩]
          · rw [if_neg (by omega)]
        · rw [if_neg (by omega), show n = (m : Int) by omega]
      refine Ev.step h1 (Ev.step (f := fun k => (prime_Factor.f k m).bind fun bt => prime_Kronecker.l0 k a (if n < 0 ∧ a < 0 then -1 else 1) bt.1 (bt.1.length : Int) 0) (fun k => by simp only [prime_Kronecker.j1]) ?_)
      refine Ev.bind (f := fun k bt => prime_Kronecker.l0 k a (if n < 0 ∧ a < 0 then -1 else 1) bt.1 (bt.1.length : Int) 0) hF ?_
      simpa using hloop
end Go.Proofs.Ytcjhbjfkcmncpaa.Q
namespace Go.Proofs.Ytcjhbjfkcmncpaa.Q
open Go.RowKit Go.Proofs.YtcjhbjfkcmncpaaW.PrintWords Go.Proofs.YtcjhbjfkcmncpaaW.PrintLast Go.Proofs.YtcjhbjfkcmncpaaW.PrintMore
attribute [local go_sem] max2_int min2_int max_two min_two max_three min_three max_four min_four   -- for this text's walks alone
set_option linter.unusedVariables false
set_option linter.unusedSimpArgs false
mutual
def quadformref22_Factor.j0 : Nat → Int → Bool → Option ((List (S30)) × Int)
  | 0, _, _ => none
  | k + 1, x0, x12 => if x12 = true then (some (([] : List (S30)), 1)) else (quadformref22_Factor.l0 k x0 ([] : List (S30)) 2)
def quadformref22_Factor.l0 : Nat → Int → List (S30) → Int → Option ((List (S30)) × Int)
  | 0, _, _, _ => none
  | k + 1, x0, x4, x5 => if (wrap64 (x5 * x5)) ≤ x0 then (quadformref22_Factor.l1 k x0 x4 x5 0) else (if x0 > 1 then (if x4.length < 8796093022208 then (some ((x4 ++ [(⟨x0, 1⟩ : S30)]), 0)) else (none)) else (some (x4, 0)))
def quadformref22_Factor.l1 : Nat → Int → List (S30) → Int → Int → Option ((List (S30)) × Int)
  | 0, _, _, _, _ => none
  | k + 1, x0, x4, x5, x6 => if x5 = 0 then (none) else (if (Int.tmod x0 x5) = 0 then (quadformref22_Factor.l1 k (wrap64 (Int.tdiv x0 x5)) x4 x5 (wrap64 (x6 + 1))) else (if x6 > 0 then (if x4.length < 8796093022208 then (quadformref22_Factor.l0 k x0 (x4 ++ [(⟨x5, x6⟩ : S30)]) (wrap64 (x5 + 1))) else (none)) else (quadformref22_Factor.l0 k x0 x4 (wrap64 (x5 + 1)))))
end
def quadformref22_Factor.f (k : Nat) (a0 : Int) : Option ((List (S30)) × Int) := if a0 < 1 then (quadformref22_Factor.j0 k a0 true) else (quadformref22_Factor.j0 k a0 (decide (a0 > 2147483647)))
theorem quadformref22_Factor.mono_l : ∀ k, (∀ y0 y1, LeO (quadformref22_Factor.j0 k y0 y1) (quadformref22_Factor.j0 (k + 1) y0 y1)) ∧ (∀ y0 y1 y2, LeO (quadformref22_Factor.l0 k y0 y1 y2) (quadformref22_Factor.l0 (k + 1) y0 y1 y2)) ∧ (∀ y0 y1 y2 y3, LeO (quadformref22_Factor.l1 k y0 y1 y2 y3) (quadformref22_Factor.l1 (k + 1) y0 y1 y2 y3))
  | 0 => ⟨fun _ _ r h => by simp [quadformref22_Factor.j0] at h, fun _ _ _ r h => by simp [quadformref22_Factor.l0] at h, fun _ _ _ _ r h => by simp [quadformref22_Factor.l1] at h⟩
  | k + 1 => by
    obtain ⟨ih0, ih1, ih2⟩ := quadformref22_Factor.mono_l k
    refine ⟨?_, ?_, ?_⟩
    · intro y0 y1
      unfold quadformref22_Factor.j0
      repeat' first
      | (with_reducible exact ih0 _ _)
      | (with_reducible exact ih1 _ _ _)
      | (with_reducible exact ih2 _ _ _ _)
      | (with_reducible exact LeO.refl _)
      | (with_reducible exact LeO.none _)
      | (with_reducible refine LeO.ite ?_ ?_)
      | (with_reducible refine LeO.bind ?_ (fun _ => ?_))
      | exact ih0 _ _
      | exact ih1 _ _ _
      | exact ih2 _ _ _ _
      | exact LeO.none _
      | refine LeO.ite ?_ ?_
      | refine LeO.bind ?_ (fun _ => ?_)
    · intro y0 y1 y2
      unfold quadformref22_Factor.l0
      repeat' first
      | (with_reducible exact ih0 _ _)
      | (with_reducible exact ih1 _ _ _)
      | (with_reducible exact ih2 _ _ _ _)
      | (with_reducible exact LeO.refl _)
      | (with_reducible exact LeO.none _)
      | (with_reducible refine LeO.ite ?_ ?_)
      | (with_reducible refine LeO.bind ?_ (fun _ => ?_))
      | exact ih0 _ _
      | exact ih1 _ _ _
      | exact ih2 _ _ _ _
      | exact LeO.none _
      | refine LeO.ite ?_ ?_
      | refine LeO.bind ?_ (fun _ => ?_)
    · intro y0 y1 y2 y3
      unfold quadformref22_Factor.l1
      repeat' first
      | (with_reducible exact ih0 _ _)
      | (with_reducible exact ih1 _ _ _)
      | (with_reducible exact ih2 _ _ _ _)
      | (with_reducible exact LeO.refl _)
      | (with_reducible exact LeO.none _)
      | (with_reducible refine LeO.ite ?_ ?_)
      | (with_reducible refine LeO.bind ?_ (fun _ => ?_))
      | exact ih0 _ _
      | exact ih1 _ _ _
      | exact ih2 _ _ _ _
      | exact LeO.none _
      | refine LeO.ite ?_ ?_
      | refine LeO.bind ?_ (fun _ => ?_)
theorem quadformref22_Factor.mono : ∀ a0 k, LeO (quadformref22_Factor.f k a0) (quadformref22_Factor.f (k + 1) a0) := by
  intro a0 k
  obtain ⟨ih0, ih1, ih2⟩ := quadformref22_Factor.mono_l k
  unfold quadformref22_Factor.f
  repeat' first
      | (with_reducible exact ih0 _ _)
      | (with_reducible exact ih1 _ _ _)
      | (with_reducible exact ih2 _ _ _ _)
      | (with_reducible exact LeO.refl _)
      | (with_reducible exact LeO.none _)
      | (with_reducible refine LeO.ite ?_ ?_)
      | (with_reducible refine LeO.bind ?_ (fun _ => ?_))
      | exact ih0 _ _
      | exact ih1 _ _ _
      | exact ih2 _ _ _ _
      | exact LeO.none _
      | refine LeO.ite ?_ ?_
      | refine LeO.bind ?_ (fun _ => ?_)
set_option maxHeartbeats 8000000 in
set_option maxRecDepth 100000 in
theorem quadformref22_Factor.calls (k : Nat) (a0 : Int) (r1 : List (S30)) (r2 : Int) (w : World) (h : quadformref22_Factor.f k a0 = some (r1, r2)) :
    Calls Try.prog 19 #[.int .i64 a0] w fun e w' => ∃ v0_ : Value, e = .returned (.tuple #[v0_, .int .i64 r2]) ∧ Kd.R k30 30 w' w.heap.size (fun _ => True) v0_ r1 ∧ Below w.heap.size w w' := by
  have hu30 := Try.underlying30
  have HB := Aside0.mk (Below.refl w.heap.size w)
  have H : (if a0 < 1 then (quadformref22_Factor.j0 k a0 true) else (quadformref22_Factor.j0 k a0 (decide (a0 > 2147483647)))) = some (r1, r2) := h
  clear h
  have HC2 := Aside0.mk H
  clear H
  go_enter Try.func19, Try.ntmps19
  go_upto_region 1 with (fail)
  go_cut [12] (fun v12 wc => ∃ (kq : Nat) (x12_1 : Bool), v12 = .bool x12_1 ∧ Aside0 (quadformref22_Factor.j0 kq a0 x12_1 = some (r1, r2)) ∧ Aside0 (kq ≤ k) ∧ Aside0 (Below w.heap.size w wc))
  case first =>
    have H := HC2.out
    clear HC2
    by_cases c3 : a0 < 1
    · rw [if_pos c3] at H
      have c3b0 : decide (a0 < 1) = true := decide_eq_true c3
      clear c3
      (first | rw [c3b0] | (simp only [i64_w, i32_w]; rw [c3b0]) | skip)
      have H' := Aside0.mk H
      clear H
      go_wp2
      go_meet
      case rel => exact ⟨_, (true), sd, H', ⟨by first | omega | exact Nat.le_refl _⟩, ⟨bw⟩⟩
    · rw [if_neg c3] at H
      have c3b0 : decide (a0 < 1) = false := decide_eq_false c3
      clear c3
      (first | rw [c3b0] | (simp only [i64_w, i32_w]; rw [c3b0]) | skip)
      have H' := Aside0.mk H
      clear H
      go_wp2
      go_meet
      case rel => exact ⟨_, (decide (a0 > 2147483647)), sd, H', ⟨by first | omega | exact Nat.le_refl _⟩, ⟨bw⟩⟩
  case rest =>
    clear HC2
    try clear c1
    try clear p2
    try clear c3
    try clear c3b0
    obtain ⟨kq, x12_1, rfl, HA, HJ1, HB⟩ := hcut
    cases kq with
    | zero => exact absurd HA.out (by simp [quadformref22_Factor.j0])
    | succ kj1 =>
      have H := HA.out
      clear HA
      simp only [quadformref22_Factor.j0] at H
      by_cases c4 : x12_1 = true
      · subst c4
        have H1 : (some (([] : List (S30)), 1)) = some (r1, r2) := by rw [if_pos rfl] at H; exact H
        clear H
        have H := H1
        clear H1
        simp only [Option.some.injEq, Prod.mk.injEq] at H
        obtain ⟨rfl, rfl⟩ := H
        go_wp2
        go_ret2
        exact ⟨_, by first | rfl | (simp [errW_none, errW_some] <;> rfl) | (simp [*, errW_none, errW_some] <;> rfl), by first | exact Kd.R_nil _ _ _ _ _ | exact Kd.N_nil _ _ _ _ _ | exact Kd.V_nil _ _ _ _ _ | exact Kd.Q_nil _ _ _ _ _ | exact Kd.S_nil _ _ _ _ _, bw⟩
      · replace c4 := Bool.eq_false_iff.mpr c4
        subst c4
        have H1 : (quadformref22_Factor.l0 kj1 a0 ([] : List (S30)) 2) = some (r1, r2) := by rw [if_neg (show ¬ (false = true) by decide)] at H; exact H
        clear H
        have H := H1
        clear H1
        have H' := Aside0.mk H
        clear H
        go_wp2
        go_loopg [0, 4, 5] kj1 (fun kq v0 v4 v5 w' => ∃ (x0_2 : Int) (x4_2 : List (S30)) (x5_2 : Int), v0 = .int .i64 x0_2 ∧ v5 = .int .i64 x5_2 ∧ Aside0 (quadformref22_Factor.l0 kq x0_2 x4_2 x5_2 = some (r1, r2)) ∧ Aside0 (kq ≤ kj1) ∧ Aside0 (Kd.R k30 30 w' w.heap.size (fun _ => True) v4 x4_2) ∧ Aside0 (Below w.heap.size w w'))
        case atStart => exact ⟨(a0), (([] : List (S30))), (2), sd, sd, H', ⟨Nat.le_refl _⟩, ⟨by first | exact Kd.R_nil _ _ _ _ _ | exact Kd.N_nil _ _ _ _ _ | exact Kd.V_nil _ _ _ _ _ | exact Kd.Q_nil _ _ _ _ _ | exact Kd.S_nil _ _ _ _ _⟩, ⟨bw⟩⟩
        case round =>
          clear H'
          try clear c1
          try clear p2
          try clear c3
          try clear c3b0
          try clear c4
          try clear p2
          obtain ⟨x0_2, x4_2, x5_2, rfl, rfl, HA, HK2, HO_4, HB⟩ := hrel
          cases gk with
          | zero => exact absurd HA.out (by simp [quadformref22_Factor.l0])
          | succ k2 =>
            have H := HA.out
            clear HA
            simp only [quadformref22_Factor.l0] at H
            by_cases c5 : (wrap64 (x5_2 * x5_2)) ≤ x0_2
            · rw [if_pos c5] at H
              have c5b0 : decide ((wrap64 (x5_2 * x5_2)) ≤ x0_2) = true := decide_eq_true c5
              clear c5
              have H' := Aside0.mk H
              clear H
              go_wp2
              go_loopg [0, 6] k2 (fun kq v0 v6 w' => ∃ (x0_3 : Int) (x6_3 : Int), v0 = .int .i64 x0_3 ∧ v6 = .int .i64 x6_3 ∧ Aside0 (quadformref22_Factor.l1 kq x0_3 x4_2 x5_2 x6_3 = some (r1, r2)) ∧ Aside0 (kq ≤ k2) ∧ Aside0 (Kd.R k30 30 w' w.heap.size (fun _ => True) u4 x4_2) ∧ Aside0 (Below w.heap.size w w'))
              case atStart => exact ⟨(x0_2), (0), sd, sd, H', ⟨Nat.le_refl _⟩, ⟨rr HO_4.out⟩, ⟨bw⟩⟩
              case round =>
                clear H'
                try clear c1
                try clear p2
                try clear c3
                try clear c3b0
                try clear c4
                try clear c5
                try clear c5b0
                try clear p2
                obtain ⟨x0_3, x6_3, rfl, rfl, HA, HK3, HO_4, HB⟩ := hrel
                cases gk with
                | zero => exact absurd HA.out (by simp [quadformref22_Factor.l1])
                | succ k3 =>
                  have H := HA.out
                  clear HA
                  simp only [quadformref22_Factor.l1] at H
                  by_cases c6 : x5_2 = 0
                  · rw [if_pos c6] at H
                    exact absurd H (by simp)
                  · rw [if_neg c6] at H
                    have c6b0 : (x5_2 == 0) = false := beq_eq_false_iff_ne.mpr c6
                    have c6b1 : (x5_2 != 0) = true := bne_iff_ne.mpr c6
                    by_cases c7 : (Int.tmod x0_3 x5_2) = 0
                    · rw [if_pos c7] at H
                      have c7b0 : ((Int.tmod x0_3 x5_2) == 0) = true := beq_iff_eq.mpr c7
                      have c7b1 : ((Int.tmod x0_3 x5_2) != 0) = false := bne_eq_false_iff_eq.mpr c7
                      clear c7
                      have H' := Aside0.mk H
                      clear H
                      go_wp2
                      go_roundg k3
                      case measure => have := HJ1.out; have := HK2.out; have := HK3.out; omega
                      case rel => exact ⟨(wrap64 (Int.tdiv x0_3 x5_2)), (wrap64 (x6_3 + 1)), sd, sd, H', ⟨by have := HJ1.out; have := HK2.out; have := HK3.out; omega⟩, ⟨rr HO_4.out⟩, ⟨bw⟩⟩
                    · rw [if_neg c7] at H
                      have c7b0 : ((Int.tmod x0_3 x5_2) == 0) = false := beq_eq_false_iff_ne.mpr c7
                      have c7b1 : ((Int.tmod x0_3 x5_2) != 0) = true := bne_iff_ne.mpr c7
                      by_cases c8 : x6_3 > 0
                      · rw [if_pos c8] at H
                        have c8b0 : decide (0 < x6_3) = true := decide_eq_true c8
                        clear c8
                        by_cases c9 : x4_2.length < 8796093022208
                        · rw [if_pos c9] at H
                          have LMc9 := Aside0.mk c9
                          clear c9
                          obtain ⟨y104, hy104⟩ : ∃ y_ : List (S30), y_ = (x4_2 ++ [(⟨x5_2, x6_3⟩ : S30)]) := ⟨_, rfl⟩
                          replace H : (quadformref22_Factor.l0 k3 x0_3 y104 (wrap64 (x5_2 + 1))) = some (r1, r2) := by first | (rw [hy104]; with_reducible exact H) | (have H2_ := (Option.bind_some _ _).symm.trans H; rw [hy104]; with_reducible exact H2_) | (have H2_ := (Option.bind_some _ _).symm.trans H; with_reducible exact H2_) | with_reducible exact H | (rw [hy104]; exact H) | exact H
                          have Ny104 := Aside0.mk hy104
                          clear hy104
                          have H' := Aside0.mk H
                          clear H
                          go_wp2_with (first | ((with_reducible refine gate_builtin (b := .append) (xs := #[.tmp 31, .tmp 35]) rfl ?_); at_builtin; refine Kd.R_append k30 (w0 := w) w.heap.size rfl (.tmp 31) (.tmp 35) 24 30 (.agg #[(.int .i64 0), (.int .i64 0)]) 16 rfl Try.underlying24 info30 rfl (by decide) (by omega) u4 x4_2 (⟨x5_2, x6_3⟩ : S30) [.int .i64 x5_2, .int .i64 x6_3] (fun _ => True) (fun _ => False) rfl rfl ?aP (fun _ hk => hk.elim) ?aF ?aO ?aB ?aS ?aL ?_; (case aP => exact k30_mkM _ _ _ (⟨x5_2, x6_3⟩ : S30)); (case aB => exact bw); (case aF => exact (fun _ _ => trivial)); (case aO => exact (rr HO_4.out)); (case aS => exact (below_size bw)); (case aL => have := LMc9.out; omega); intro v105 w10 ho hb hg hat; rw [← Ny104.out] at ho; have n0_ := Aside0.mk (hb); have n1_ := Aside0.mk (ho); clear HB; clear HO_4; have HB := n0_; have HO106 := n1_; clear n0_ n1_; clear ho hb hg hat))
                          go_roundg k3
                          case measure => have := HJ1.out; have := HK2.out; have := HK3.out; omega
                          case rel => exact ⟨(x0_3), (y104), (wrap64 (x5_2 + 1)), sd, sd, H', ⟨by have := HJ1.out; have := HK2.out; have := HK3.out; omega⟩, ⟨rr HO106.out⟩, ⟨bw⟩⟩
                        · rw [if_neg c9] at H
                          exact absurd H (by simp)
                      · rw [if_neg c8] at H
                        have c8b0 : decide (0 < x6_3) = false := decide_eq_false c8
                        clear c8
                        have H' := Aside0.mk H
                        clear H
                        go_wp2
                        go_roundg k3
                        case measure => have := HJ1.out; have := HK2.out; have := HK3.out; omega
                        case rel => exact ⟨(x0_3), (x4_2), (wrap64 (x5_2 + 1)), sd, sd, H', ⟨by have := HJ1.out; have := HK2.out; have := HK3.out; omega⟩, ⟨rr HO_4.out⟩, ⟨bw⟩⟩
            · rw [if_neg c5] at H
              have c5b0 : decide ((wrap64 (x5_2 * x5_2)) ≤ x0_2) = false := decide_eq_false c5
              clear c5
              by_cases c11 : x0_2 > 1
              · rw [if_pos c11] at H
                have c11b0 : decide (1 < x0_2) = true := decide_eq_true c11
                clear c11
                by_cases c12 : x4_2.length < 8796093022208
                · rw [if_pos c12] at H
                  have LMc12 := Aside0.mk c12
                  clear c12
                  obtain ⟨y101, hy101⟩ : ∃ y_ : List (S30), y_ = (x4_2 ++ [(⟨x0_2, 1⟩ : S30)]) := ⟨_, rfl⟩
                  replace H : (some (y101, 0)) = some (r1, r2) := by first | (rw [hy101]; with_reducible exact H) | (have H2_ := (Option.bind_some _ _).symm.trans H; rw [hy101]; with_reducible exact H2_) | (have H2_ := (Option.bind_some _ _).symm.trans H; with_reducible exact H2_) | with_reducible exact H | (rw [hy101]; exact H) | exact H
                  have Ny101 := Aside0.mk hy101
                  clear hy101
                  simp only [Option.some.injEq, Prod.mk.injEq] at H
                  obtain ⟨rfl, rfl⟩ := H
                  go_wp2_with (first | ((with_reducible refine gate_builtin (b := .append) (xs := #[.tmp 39, .tmp 42]) rfl ?_); at_builtin; refine Kd.R_append k30 (w0 := w) w.heap.size rfl (.tmp 39) (.tmp 42) 24 30 (.agg #[(.int .i64 0), (.int .i64 0)]) 16 rfl Try.underlying24 info30 rfl (by decide) (by omega) u4 x4_2 (⟨x0_2, 1⟩ : S30) [.int .i64 x0_2, .int .i64 1] (fun _ => True) (fun _ => False) rfl rfl ?aP (fun _ hk => hk.elim) ?aF ?aO ?aB ?aS ?aL ?_; (case aP => exact k30_mkM _ _ _ (⟨x0_2, 1⟩ : S30)); (case aB => exact bw); (case aF => exact (fun _ _ => trivial)); (case aO => exact (rr HO_4.out)); (case aS => exact (below_size bw)); (case aL => have := LMc12.out; omega); intro v102 w13 ho hb hg hat; rw [← Ny101.out] at ho; have n0_ := Aside0.mk (hb); have n1_ := Aside0.mk (ho); clear HB; clear HO_4; have HB := n0_; have HO103 := n1_; clear n0_ n1_; clear ho hb hg hat))
                  go_ret2
                  exact ⟨_, by first | rfl | (simp [errW_none, errW_some] <;> rfl) | (simp [*, errW_none, errW_some] <;> rfl), rr HO103.out, bw⟩
                · rw [if_neg c12] at H
                  exact absurd H (by simp)
              · rw [if_neg c11] at H
                have c11b0 : decide (1 < x0_2) = false := decide_eq_false c11
                clear c11
                simp only [Option.some.injEq, Prod.mk.injEq] at H
                obtain ⟨rfl, rfl⟩ := H
                go_wp2
                go_ret2
                exact ⟨_, by first | rfl | (simp [errW_none, errW_some] <;> rfl) | (simp [*, errW_none, errW_some] <;> rfl), rr HO_4.out, bw⟩
end Go.Proofs.Ytcjhbjfkcmncpaa.Q
namespace Go.Proofs.Ytcjhbjfkcmncpaa.Q
open Go.RowKit Go.Proofs.YtcjhbjfkcmncpaaW.PrintWords Go.Proofs.YtcjhbjfkcmncpaaW.PrintLast Go.Proofs.YtcjhbjfkcmncpaaW.PrintMore
attribute [local go_sem] max2_int min2_int max_two min_two max_three min_three max_four min_four   -- for this text's walks alone
set_option linter.unusedVariables false
set_option linter.unusedSimpArgs false
attribute [local go_sem high] eqA30
def quadformref22_SamePowers.l0 : Nat → List (S30) → List (S30) → Int → Int → Option (Bool)
  | 0, _, _, _, _ => none
  | k + 1, x0, x1, x12, x13 => if x13 < x12 then (if 0 ≤ x13 then (if x13 < (x0.length : Int) then (if x13 < (x1.length : Int) then (if (!(((rd_T30 x0 x13).f0) == ((rd_T30 x1 x13).f0)) || (!(((rd_T30 x0 x13).f1) == ((rd_T30 x1 x13).f1)))) = true then (some false) else (quadformref22_SamePowers.l0 k x0 x1 x12 (wrap64 (x13 + 1)))) else (none)) else (none)) else (none)) else (some true)
def quadformref22_SamePowers.f (k : Nat) (l0 : List (S30)) (l1 : List (S30)) : Option (Bool) := if (l0.length : Int) = (l1.length : Int) then (quadformref22_SamePowers.l0 k l0 l1 (l0.length : Int) 0) else (some false)
theorem quadformref22_SamePowers.mono_l : ∀ k, (∀ y0 y1 y2 y3, LeO (quadformref22_SamePowers.l0 k y0 y1 y2 y3) (quadformref22_SamePowers.l0 (k + 1) y0 y1 y2 y3))
  | 0 => fun _ _ _ _ r h => by simp [quadformref22_SamePowers.l0] at h
  | k + 1 => by
    have ih0 := quadformref22_SamePowers.mono_l k
    · intro y0 y1 y2 y3
      unfold quadformref22_SamePowers.l0
      repeat' first
      | (with_reducible exact ih0 _ _ _ _)
      | (with_reducible exact LeO.refl _)
      | (with_reducible exact LeO.none _)
      | (with_reducible refine LeO.ite ?_ ?_)
      | (with_reducible refine LeO.bind ?_ (fun _ => ?_))
      | exact ih0 _ _ _ _
      | exact LeO.none _
      | refine LeO.ite ?_ ?_
      | refine LeO.bind ?_ (fun _ => ?_)
theorem quadformref22_SamePowers.mono : ∀ a0 a1 k, LeO (quadformref22_SamePowers.f k a0 a1) (quadformref22_SamePowers.f (k + 1) a0 a1) := by
  intro a0 a1 k
  have ih0 := quadformref22_SamePowers.mono_l k
  unfold quadformref22_SamePowers.f
  repeat' first
      | (with_reducible exact ih0 _ _ _ _)
      | (with_reducible exact LeO.refl _)
      | (with_reducible exact LeO.none _)
      | (with_reducible refine LeO.ite ?_ ?_)
      | (with_reducible refine LeO.bind ?_ (fun _ => ?_))
      | exact ih0 _ _ _ _
      | exact LeO.none _
      | refine LeO.ite ?_ ?_
      | refine LeO.bind ?_ (fun _ => ?_)
set_option maxHeartbeats 8000000 in
set_option maxRecDepth 100000 in
theorem quadformref22_SamePowers.calls (k : Nat) (A0 : Option Addr) (c0 : Nat) (l0 : List (S30)) (A1 : Option Addr) (c1 : Nat) (l1 : List (S30)) (r : Bool) (w : World) (hr0 : Kd.C k30 w A0 l0.length l0) (hc0 : l0.length ≤ c0) (hr1 : Kd.C k30 w A1 l1.length l1) (hc1 : l1.length ≤ c1) (h : quadformref22_SamePowers.f k l0 l1 = some r) :
    Calls Try.prog 20 #[.slice A0 l0.length c0, .slice A1 l1.length c1] w fun e w' => e = .returned (.bool r) ∧ Drawn0 w w' := by
  have hu30 := Try.underlying30
  have HR0 := Aside0.mk hr0
  have HC0 := Aside0.mk hc0
  clear hr0 hc0
  have HR1 := Aside0.mk hr1
  have HC1 := Aside0.mk hc1
  clear hr1 hc1
  have H : (if (l0.length : Int) = (l1.length : Int) then (quadformref22_SamePowers.l0 k l0 l1 (l0.length : Int) 0) else (some false)) = some r := h
  clear h
  by_cases c3 : (l0.length : Int) = (l1.length : Int)
  · rw [if_pos c3] at H
    have c3b0 : ((l0.length : Int) == (l1.length : Int)) = true := beq_iff_eq.mpr c3
    have c3b1 : ((l0.length : Int) != (l1.length : Int)) = false := bne_eq_false_iff_eq.mpr c3
    have c3b2 : (l0.length == l1.length) = true := by first | simpa using c3 | (simp at c3 ⊢; omega)
    clear c3
    have H' := Aside0.mk H
    clear H
    go_enter Try.func20, Try.ntmps20
    go_wp2
    repeat (go_quiet (fail); try go_wp2)
    go_loopg [13] k (fun kq v13 w' => ∃ (x13_1 : Int), v13 = .int .i64 x13_1 ∧ Aside0 (quadformref22_SamePowers.l0 kq l0 l1 (l0.length : Int) x13_1 = some r) ∧ Aside0 (kq ≤ k) ∧ Drawn0 w w')
    case atStart => exact ⟨(0), sd, H', ⟨Nat.le_refl _⟩, by repeat (first | exact Drawn0.refl _ | apply Drawn0.step)⟩
    case round =>
      clear H'
      try clear c1
      try clear c2
      try clear p2
      try clear c3
      try clear c3b0
      try clear c3b1
      try clear c3b2
      obtain ⟨x13_1, rfl, HA, HK1, ⟨m1, rfl⟩⟩ := hrel
      cases gk with
      | zero => exact absurd HA.out (by simp [quadformref22_SamePowers.l0])
      | succ k1 =>
        have H := HA.out
        clear HA
        simp only [quadformref22_SamePowers.l0] at H
        by_cases c4 : x13_1 < (l0.length : Int)
        · rw [if_pos c4] at H
          have c4b0 : decide (x13_1 < (l0.length : Int)) = true := decide_eq_true c4
          clear c4
          by_cases c5 : 0 ≤ x13_1
          · rw [if_pos c5] at H
            have c5b0 : decide (0 ≤ x13_1) = true := decide_eq_true c5
            clear c5
            by_cases c6 : x13_1 < (l0.length : Int)
            · rw [if_pos c6] at H
              have c6b0 : decide (x13_1 < (l0.length : Int)) = true := decide_eq_true c6
              clear c6
              by_cases c7 : x13_1 < (l1.length : Int)
              · rw [if_pos c7] at H
                have c7b0 : decide (x13_1 < (l1.length : Int)) = true := decide_eq_true c7
                clear c7
                by_cases c8 : (!(((rd_T30 l0 x13_1).f0) == ((rd_T30 l1 x13_1).f0)) || (!(((rd_T30 l0 x13_1).f1) == ((rd_T30 l1 x13_1).f1)))) = true
                · rw [if_pos c8] at H
                  have c8b0 : (!(((rd_T30 l0 x13_1).f0) == ((rd_T30 l1 x13_1).f0)) || (!(((rd_T30 l0 x13_1).f1) == ((rd_T30 l1 x13_1).f1)))) = true := c8
                  clear c8
                  obtain rfl := Option.some.inj H
                  have p101 : 0 ≤ (x13_1 : Int) := od
                  have q101 : x13_1 < (l0.length : Int) := od
                  obtain ⟨ad101, e101, hx101_0, hx101_1⟩ := at_T30 HR0.out x13_1 p101 q101
                  cases e101
                  replace p101 := eq_true p101
                  replace q101 := eq_true q101
                  have p102 : 0 ≤ (x13_1 : Int) := od
                  have q102 : x13_1 < (l1.length : Int) := od
                  obtain ⟨ad102, e102, hx102_0, hx102_1⟩ := at_T30 HR1.out x13_1 p102 q102
                  cases e102
                  replace p102 := eq_true p102
                  replace q102 := eq_true q102
                  go_wp2
                  repeat (go_quiet (fail); try go_wp2)
                  go_ret
                  exact ⟨by first | rfl | (simp; done) | (simp [*]; done), by repeat (first | exact Drawn0.refl _ | apply Drawn0.step)⟩
                · rw [if_neg c8] at H
                  have c8b0 : (!(((rd_T30 l0 x13_1).f0) == ((rd_T30 l1 x13_1).f0)) || (!(((rd_T30 l0 x13_1).f1) == ((rd_T30 l1 x13_1).f1)))) = false := by simpa using c8
                  clear c8
                  have H' := Aside0.mk H
                  clear H
                  have p101 : 0 ≤ (x13_1 : Int) := od
                  have q101 : x13_1 < (l0.length : Int) := od
                  obtain ⟨ad101, e101, hx101_0, hx101_1⟩ := at_T30 HR0.out x13_1 p101 q101
                  cases e101
                  replace p101 := eq_true p101
                  replace q101 := eq_true q101
                  have p102 : 0 ≤ (x13_1 : Int) := od
                  have q102 : x13_1 < (l1.length : Int) := od
                  obtain ⟨ad102, e102, hx102_0, hx102_1⟩ := at_T30 HR1.out x13_1 p102 q102
                  cases e102
                  replace p102 := eq_true p102
                  replace q102 := eq_true q102
                  go_wp2
                  repeat (go_quiet (fail); try go_wp2)
                  go_roundg k1
                  case measure => have := HK1.out; omega
                  case rel => exact ⟨(wrap64 (x13_1 + 1)), sd, H', ⟨by have := HK1.out; omega⟩, by repeat (first | exact Drawn0.refl _ | apply Drawn0.step)⟩
              · rw [if_neg c7] at H
                exact absurd H (by simp)
            · rw [if_neg c6] at H
              exact absurd H (by simp)
          · rw [if_neg c5] at H
            exact absurd H (by simp)
        · rw [if_neg c4] at H
          have c4b0 : decide (x13_1 < (l0.length : Int)) = false := decide_eq_false c4
          clear c4
          obtain rfl := Option.some.inj H
          go_wp2
          repeat (go_quiet (fail); try go_wp2)
          go_ret
          exact ⟨by first | rfl | (simp; done) | (simp [*]; done), by repeat (first | exact Drawn0.refl _ | apply Drawn0.step)⟩
  · rw [if_neg c3] at H
    have c3b0 : ((l0.length : Int) == (l1.length : Int)) = false := beq_eq_false_iff_ne.mpr c3
    have c3b1 : ((l0.length : Int) != (l1.length : Int)) = true := bne_iff_ne.mpr c3
    have c3b2 : (l0.length == l1.length) = false := by first | simpa using c3 | (simp at c3 ⊢; omega)
    obtain rfl := Option.some.inj H
    go_enter Try.func20, Try.ntmps20
    go_wp2
    repeat (go_quiet (fail); try go_wp2)
    go_ret
    exact ⟨by first | rfl | (simp; done) | (simp [*]; done), by repeat (first | exact Drawn0.refl _ | apply Drawn0.step)⟩
end Go.Proofs.Ytcjhbjfkcmncpaa.Q
namespace Go.Proofs.Ytcjhbjfkcmncpaa.Q
open Go.RowKit Go.Proofs.YtcjhbjfkcmncpaaW.PrintWords Go.Proofs.YtcjhbjfkcmncpaaW.PrintLast Go.Proofs.YtcjhbjfkcmncpaaW.PrintMore
attribute [local go_sem] max2_int min2_int max_two min_two max_three min_three max_four min_four   -- for this text's walks alone
set_option linter.unusedVariables false
set_option linter.unusedSimpArgs false
mutual
def quadformref22_Symbol.j0 : Nat → Int → Int → Int → Option (Int)
  | 0, _, _, _ => none
  | k + 1, x0, x1, x5 => (quadformref22_Factor.f k x1).bind fun bt101 => (quadformref22_Symbol.l0 k x0 x5 bt101.1 (bt101.1.length : Int) 0)
def quadformref22_Symbol.l0 : Nat → Int → Int → List (S30) → Int → Int → Option (Int)
  | 0, _, _, _, _, _ => none
  | k + 1, x0, x5, x30, x31, x32 => if x32 < x31 then (if 0 ≤ x32 then (if x32 < (x30.length : Int) then (quadformref22_Symbol.l1 k x0 x5 0 x30 x31 x32 ((rd_T30 x30 x32).f0) ((rd_T30 x30 x32).f1)) else (none)) else (none)) else (some x5)
def quadformref22_Symbol.l1 : Nat → Int → Int → Int → List (S30) → Int → Int → Int → Int → Option (Int)
  | 0, _, _, _, _, _, _, _, _ => none
  | k + 1, x0, x5, x10, x30, x31, x32, x107000, x107001 => if x10 < x107001 then (if x107000 = 2 then ((quadformref22_two.f k x0).bind fun t107 => (quadformref22_Symbol.l1 k x0 (wrap64 (x5 * t107)) (wrap64 (x10 + 1)) x30 x31 x32 x107000 x107001)) else ((quadformref22_Legendre.f k x0 x107000).bind fun t108 => (quadformref22_Symbol.l1 k x0 (wrap64 (x5 * t108)) (wrap64 (x10 + 1)) x30 x31 x32 x107000 x107001))) else (quadformref22_Symbol.l0 k x0 x5 x30 x31 (wrap64 (x32 + 1)))
end
def quadformref22_Symbol.f (k : Nat) (a0 : Int) (a1 : Int) : Option (Int) := if a1 = 0 then (if a0 = 1 then (some 1) else (if a0 = (-1) then (some 1) else (some 0))) else (if a1 < 0 then (if a0 < 0 then (quadformref22_Symbol.j0 k a0 (wrap64 (-a1)) (-1)) else (quadformref22_Symbol.j0 k a0 (wrap64 (-a1)) 1)) else (quadformref22_Symbol.j0 k a0 a1 1))
theorem quadformref22_Symbol.mono_l : ∀ k, (∀ y0 y1 y2, LeO (quadformref22_Symbol.j0 k y0 y1 y2) (quadformref22_Symbol.j0 (k + 1) y0 y1 y2)) ∧ (∀ y0 y1 y2 y3 y4, LeO (quadformref22_Symbol.l0 k y0 y1 y2 y3 y4) (quadformref22_Symbol.l0 (k + 1) y0 y1 y2 y3 y4)) ∧ (∀ y0 y1 y2 y3 y4 y5 y6 y7, LeO (quadformref22_Symbol.l1 k y0 y1 y2 y3 y4 y5 y6 y7) (quadformref22_Symbol.l1 (k + 1) y0 y1 y2 y3 y4 y5 y6 y7))
  | 0 => ⟨fun _ _ _ r h => by simp [quadformref22_Symbol.j0] at h, fun _ _ _ _ _ r h => by simp [quadformref22_Symbol.l0] at h, fun _ _ _ _ _ _ _ _ r h => by simp [quadformref22_Symbol.l1] at h⟩
  | k + 1 => by
    obtain ⟨ih0, ih1, ih2⟩ := quadformref22_Symbol.mono_l k
    refine ⟨?_, ?_, ?_⟩
    · intro y0 y1 y2
      unfold quadformref22_Symbol.j0
      repeat' first
      | (with_reducible exact ih0 _ _ _)
      | (with_reducible exact ih1 _ _ _ _ _)
      | (with_reducible exact ih2 _ _ _ _ _ _ _ _)
      | (with_reducible exact quadformref22_Factor.mono _ _)
      | (with_reducible exact quadformref22_Legendre.mono _ _ _)
      | (with_reducible exact quadformref22_two.mono _ _)
      | (with_reducible exact LeO.refl _)
      | (with_reducible exact LeO.none _)
      | (with_reducible refine LeO.ite ?_ ?_)
      | (with_reducible refine LeO.bind ?_ (fun _ => ?_))
      | exact ih0 _ _ _
      | exact ih1 _ _ _ _ _
      | exact ih2 _ _ _ _ _ _ _ _
      | exact quadformref22_Factor.mono _ _
      | exact quadformref22_Legendre.mono _ _ _
      | exact quadformref22_two.mono _ _
      | exact LeO.none _
      | refine LeO.ite ?_ ?_
      | refine LeO.bind ?_ (fun _ => ?_)
    · intro y0 y1 y2 y3 y4
      unfold quadformref22_Symbol.l0
      repeat' first
      | (with_reducible exact ih0 _ _ _)
      | (with_reducible exact ih1 _ _ _ _ _)
      | (with_reducible exact ih2 _ _ _ _ _ _ _ _)
      | (with_reducible exact quadformref22_Factor.mono _ _)
      | (with_reducible exact quadformref22_Legendre.mono _ _ _)
      | (with_reducible exact quadformref22_two.mono _ _)
      | (with_reducible exact LeO.refl _)
      | (with_reducible exact LeO.none _)
      | (with_reducible refine LeO.ite ?_ ?_)
      | (with_reducible refine LeO.bind ?_ (fun _ => ?_))
      | exact ih0 _ _ _
      | exact ih1 _ _ _ _ _
      | exact ih2 _ _ _ _ _ _ _ _
      | exact quadformref22_Factor.mono _ _
      | exact quadformref22_Legendre.mono _ _ _
      | exact quadformref22_two.mono _ _
      | exact LeO.none _
      | refine LeO.ite ?_ ?_
      | refine LeO.bind ?_ (fun _ => ?_)
    · intro y0 y1 y2 y3 y4 y5 y6 y7
      unfold quadformref22_Symbol.l1
      repeat' first
      | (with_reducible exact ih0 _ _ _)
      | (with_reducible exact ih1 _ _ _ _ _)
      | (with_reducible exact ih2 _ _ _ _ _ _ _ _)
      | (with_reducible exact quadformref22_Factor.mono _ _)
      | (with_reducible exact quadformref22_Legendre.mono _ _ _)
      | (with_reducible exact quadformref22_two.mono _ _)
      | (with_reducible exact LeO.refl _)
      | (with_reducible exact LeO.none _)
      | (with_reducible refine LeO.ite ?_ ?_)
      | (with_reducible refine LeO.bind ?_ (fun _ => ?_))
      | exact ih0 _ _ _
      | exact ih1 _ _ _ _ _
      | exact ih2 _ _ _ _ _ _ _ _
      | exact quadformref22_Factor.mono _ _
      | exact quadformref22_Legendre.mono _ _ _
      | exact quadformref22_two.mono _ _
      | exact LeO.none _
      | refine LeO.ite ?_ ?_
      | refine LeO.bind ?_ (fun _ => ?_)
theorem quadformref22_Symbol.mono : ∀ a0 a1 k, LeO (quadformref22_Symbol.f k a0 a1) (quadformref22_Symbol.f (k + 1) a0 a1) := by
  intro a0 a1 k
  obtain ⟨ih0, ih1, ih2⟩ := quadformref22_Symbol.mono_l k
  unfold quadformref22_Symbol.f
  repeat' first
      | (with_reducible exact ih0 _ _ _)
      | (with_reducible exact ih1 _ _ _ _ _)
      | (with_reducible exact ih2 _ _ _ _ _ _ _ _)
      | (with_reducible exact quadformref22_Factor.mono _ _)
      | (with_reducible exact quadformref22_Legendre.mono _ _ _)
      | (with_reducible exact quadformref22_two.mono _ _)
      | (with_reducible exact LeO.refl _)
      | (with_reducible exact LeO.none _)
      | (with_reducible refine LeO.ite ?_ ?_)
      | (with_reducible refine LeO.bind ?_ (fun _ => ?_))
      | exact ih0 _ _ _
      | exact ih1 _ _ _ _ _
      | exact ih2 _ _ _ _ _ _ _ _
      | exact quadformref22_Factor.mono _ _
      | exact quadformref22_Legendre.mono _ _ _
      | exact quadformref22_two.mono _ _
      | exact LeO.none _
      | refine LeO.ite ?_ ?_
      | refine LeO.bind ?_ (fun _ => ?_)
set_option maxHeartbeats 8000000 in
set_option maxRecDepth 100000 in
theorem quadformref22_Symbol.calls (k : Nat) (a0 : Int) (a1 : Int) (r : Int) (w : World) (h : quadformref22_Symbol.f k a0 a1 = some r) :
    Calls Try.prog 39 #[.int .i64 a0, .int .i64 a1] w fun e w' => e = .returned (.int .i64 r) ∧ Below w.heap.size w w' := by
  have hu30 := Try.underlying30
  have HB := Aside0.mk (Below.refl w.heap.size w)
  have H : (if a1 = 0 then (if a0 = 1 then (some 1) else (if a0 = (-1) then (some 1) else (some 0))) else (if a1 < 0 then (if a0 < 0 then (quadformref22_Symbol.j0 k a0 (wrap64 (-a1)) (-1)) else (quadformref22_Symbol.j0 k a0 (wrap64 (-a1)) 1)) else (quadformref22_Symbol.j0 k a0 a1 1))) = some r := h
  clear h
  by_cases c3 : a1 = 0
  · rw [if_pos c3] at H
    have c3b0 : (a1 == 0) = true := beq_iff_eq.mpr c3
    have c3b1 : (a1 != 0) = false := bne_eq_false_iff_eq.mpr c3
    clear c3
    by_cases c4 : a0 = 1
    · rw [if_pos c4] at H
      have c4b0 : (a0 == 1) = true := beq_iff_eq.mpr c4
      have c4b1 : (a0 != 1) = false := bne_eq_false_iff_eq.mpr c4
      clear c4
      obtain rfl := Option.some.inj H
      go_enter Try.func39, Try.ntmps39
      go_wp2
      go_ret
      exact ⟨by first | rfl | (simp [errW_none, errW_some] <;> rfl) | (simp [*, errW_none, errW_some] <;> rfl), bw⟩
    · rw [if_neg c4] at H
      have c4b0 : (a0 == 1) = false := beq_eq_false_iff_ne.mpr c4
      have c4b1 : (a0 != 1) = true := bne_iff_ne.mpr c4
      by_cases c5 : a0 = (-1)
      · rw [if_pos c5] at H
        have c5b0 : (a0 == (-1)) = true := beq_iff_eq.mpr c5
        have c5b1 : (a0 != (-1)) = false := bne_eq_false_iff_eq.mpr c5
        clear c5
        obtain rfl := Option.some.inj H
        go_enter Try.func39, Try.ntmps39
        go_wp2
        go_ret
        exact ⟨by first | rfl | (simp [errW_none, errW_some] <;> rfl) | (simp [*, errW_none, errW_some] <;> rfl), bw⟩
      · rw [if_neg c5] at H
        have c5b0 : (a0 == (-1)) = false := beq_eq_false_iff_ne.mpr c5
        have c5b1 : (a0 != (-1)) = true := bne_iff_ne.mpr c5
        obtain rfl := Option.some.inj H
        go_enter Try.func39, Try.ntmps39
        go_wp2
        go_ret
        exact ⟨by first | rfl | (simp [errW_none, errW_some] <;> rfl) | (simp [*, errW_none, errW_some] <;> rfl), bw⟩
  · rw [if_neg c3] at H
    have c3b0 : (a1 == 0) = false := beq_eq_false_iff_ne.mpr c3
    have c3b1 : (a1 != 0) = true := bne_iff_ne.mpr c3
    have HC6 := Aside0.mk H
    clear H
    go_enter Try.func39, Try.ntmps39
    go_upto_if 20 with (fail)
    go_cut [1, 5] (fun v1 v5 wc => ∃ (kq : Nat) (x1_5 : Int) (x5_5 : Int), v1 = .int .i64 x1_5 ∧ v5 = .int .i64 x5_5 ∧ Aside0 (quadformref22_Symbol.j0 kq a0 x1_5 x5_5 = some r) ∧ Aside0 (kq ≤ k) ∧ Aside0 (Below w.heap.size w wc))
    case first =>
      have H := HC6.out
      clear HC6
      by_cases c7 : a1 < 0
      · rw [if_pos c7] at H
        have c7b0 : decide (a1 < 0) = true := decide_eq_true c7
        clear c7
        (first | rw [c7b0] | (simp only [i64_w, i32_w]; rw [c7b0]) | skip)
        by_cases c8 : a0 < 0
        · rw [if_pos c8] at H
          have c8b0 : decide (a0 < 0) = true := decide_eq_true c8
          clear c8
          have H' := Aside0.mk H
          clear H
          go_wp2
          go_meet
          case rel => exact ⟨_, (wrap64 (-a1)), ((-1)), sd, sd, H', ⟨by first | omega | exact Nat.le_refl _⟩, ⟨bw⟩⟩
        · rw [if_neg c8] at H
          have c8b0 : decide (a0 < 0) = false := decide_eq_false c8
          clear c8
          have H' := Aside0.mk H
          clear H
          go_wp2
          go_meet
          case rel => exact ⟨_, (wrap64 (-a1)), (1), sd, sd, H', ⟨by first | omega | exact Nat.le_refl _⟩, ⟨bw⟩⟩
      · rw [if_neg c7] at H
        have c7b0 : decide (a1 < 0) = false := decide_eq_false c7
        clear c7
        (first | rw [c7b0] | (simp only [i64_w, i32_w]; rw [c7b0]) | skip)
        have H' := Aside0.mk H
        clear H
        go_wp2
        go_meet
        case rel => exact ⟨_, (a1), (1), sd, sd, H', ⟨by first | omega | exact Nat.le_refl _⟩, ⟨bw⟩⟩
    case rest =>
      clear HC6
      try clear p2
      try clear c3
      try clear c3b0
      try clear c3b1
      try clear c4
      try clear c4b0
      try clear c4b1
      try clear c5
      try clear c5b0
      try clear c5b1
      try clear p6
      try clear c7
      try clear c7b0
      try clear c8
      try clear c8b0
      obtain ⟨kq, x1_5, x5_5, rfl, rfl, HA, HJ5, HB⟩ := hcut
      cases kq with
      | zero => exact absurd HA.out (by simp [quadformref22_Symbol.j0])
      | succ kj5 =>
        have H := HA.out
        clear HA
        simp only [quadformref22_Symbol.j0] at H
        replace H := Option.bind_eq_some_iff.mp H
        obtain ⟨⟨t101, t102⟩, A90, H⟩ := H
        replace H : (quadformref22_Symbol.l0 kj5 a0 x5_5 t101 (t101.length : Int) 0) = some r := H
        have A9 := Aside0.mk A90
        clear A90
        have H' := Aside0.mk H
        clear H
        go_wp2_with (first | ((with_reducible refine gate_callee (f := 19) rfl ?_); refine goesL_ (some 27) rfl rfl Try.func19 (by kernel_rfl) rfl #[.int .i64 x1_5] rfl (by (try simp only [List.map_toArray, List.map_cons, List.map_nil]); first | done | rfl | (simp only [List.length_drop, List.length_take]; rfl)) ?_; (with_reducible refine (quadformref22_Factor.calls kj5 x1_5 t101 t102 _ A9.out).mono ?_); rintro e w10 ⟨v103, rfl, ho0, hb⟩; refine ⟨_, rfl, ?_⟩; have n0_ := Aside0.mk (Kd.R_lower ho0 (below_size bw)); have n1_ := Aside0.mk (below_step bw hb); clear HB; have HO104 := n0_; have HB := n1_; clear n0_ n1_; (try clear hb); (try clear hb2); (try clear hk); (try clear hi); (try clear ho0); obtain ⟨Ao11, co11, eo11⟩ := Kd.R_slice HO104.out; subst eo11))
        go_loopg [5, 32] kj5 (fun kq v5 v32 w' => ∃ (x5_2 : Int) (x32_2 : Int), v5 = .int .i64 x5_2 ∧ v32 = .int .i64 x32_2 ∧ Aside0 (quadformref22_Symbol.l0 kq a0 x5_2 t101 (t101.length : Int) x32_2 = some r) ∧ Aside0 (kq ≤ kj5) ∧ Aside0 (Kd.R k30 30 w' w.heap.size (fun _ => True) (.slice Ao11 t101.length co11) t101) ∧ Aside0 (Below w.heap.size w w'))
        case atStart => exact ⟨(x5_5), (0), sd, sd, H', ⟨Nat.le_refl _⟩, ⟨rr HO104.out⟩, ⟨bw⟩⟩
        case round =>
          clear H'
          try clear c1
          try clear p2
          try clear c3
          try clear c3b0
          try clear c3b1
          try clear c4
          try clear c4b0
          try clear c4b1
          try clear c5
          try clear c5b0
          try clear c5b1
          try clear p6
          try clear c7
          try clear c7b0
          try clear c8
          try clear c8b0
          try clear p2
          try clear p6
          obtain ⟨x5_2, x32_2, rfl, rfl, HA, HK2, HO_30, HB⟩ := hrel
          cases gk with
          | zero => exact absurd HA.out (by simp [quadformref22_Symbol.l0])
          | succ k2 =>
            have H := HA.out
            clear HA
            simp only [quadformref22_Symbol.l0] at H
            by_cases c12 : x32_2 < (t101.length : Int)
            · rw [if_pos c12] at H
              have c12b0 : decide (x32_2 < (t101.length : Int)) = true := decide_eq_true c12
              clear c12
              by_cases c13 : 0 ≤ x32_2
              · rw [if_pos c13] at H
                have c13b0 : decide (0 ≤ x32_2) = true := decide_eq_true c13
                clear c13
                by_cases c14 : x32_2 < (t101.length : Int)
                · rw [if_pos c14] at H
                  have c14b0 : decide (x32_2 < (t101.length : Int)) = true := decide_eq_true c14
                  clear c14
                  have H' := Aside0.mk H
                  clear H
                  have p105 : 0 ≤ (x32_2 : Int) := od
                  have q105 : x32_2 < (t101.length : Int) := od
                  obtain ⟨ad105, e105, hx105_0, hx105_1⟩ := at_T30 (Kd.R_reads' HO_30.out).2.2 x32_2 p105 q105
                  cases e105
                  replace p105 := eq_true p105
                  replace q105 := eq_true q105
                  go_wp2_with (first | ((with_reducible refine gate_dst (N := 9) rfl ?_); refine box_event ?hg (N := 9) ?hd (cs := #[.int .i64 0, .int .i64 0]) (t := 30) ?hr ?_; (case hd => rfl); (case hg => rfl); (case hr => first | (go_simp; done) | (go_simp; rfl)); intro gb106 hg w15 hbox hb; have n0_ := Aside0.mk (Kd.R_below (Kd.R_elderB (rr HO_30.out) gb106 (Nat.le_of_eq hg.symm)) hb); have n1_ := Aside0.mk (below_step bw hb); have n2_ := Aside0.mk (hbox); have n3_ := Aside0.mk ((gsz hg : w.heap.size ≤ gb106)); have n4_ := Aside0.mk ((gsz hg : w.heap.size ≤ gb106)); clear HO_30; clear HB; have HO_30 := n0_; have HB := n1_; have BK106 := n2_; have GW106 := n3_; have GE106 := n4_; clear n0_ n1_ n2_ n3_ n4_; clear hb hbox hg; have hcz16_0 : w15.cell? ⟨gb106, 0, none⟩ = some (.int .i64 0) := (blk_cell BK106.out 0).trans rfl; have hcz16_1 : w15.cell? ⟨gb106, 1, none⟩ = some (.int .i64 0) := (blk_cell BK106.out 1).trans rfl; have hfz16_0 := blk_frozen BK106.out 0; have hfz16_1 := blk_frozen BK106.out 1))
                  go_loopg [5, 10] k2 (fun kq v5 v10 w' => ∃ (x5_3 : Int) (x10_3 : Int), v5 = .int .i64 x5_3 ∧ v10 = .int .i64 x10_3 ∧ Aside0 (quadformref22_Symbol.l1 kq a0 x5_3 x10_3 t101 (t101.length : Int) x32_2 ((rd_T30 t101 x32_2).f0) ((rd_T30 t101 x32_2).f1) = some r) ∧ Aside0 (kq ≤ k2) ∧ Aside0 (Kd.R k30 30 w' w.heap.size (fun k_ => k_ ≠ gb106) (.slice (some ad105) t101.length co11) t101) ∧ Aside0 (w'.heap[gb106]? = some (.cells #[.int .i64 ((rd_T30 t101 x32_2).f0), .int .i64 ((rd_T30 t101 x32_2).f1)] 30 (0, 0))) ∧ Aside0 (Below w.heap.size w w'))
                  case atStart => exact ⟨(x5_2), (0), sd, sd, H', ⟨Nat.le_refl _⟩, ⟨rr (Kd.R_mono (Kd.R_far (p := ⟨gb106, 1, none⟩) (Kd.R_far (p := ⟨gb106, 0, none⟩) (Kd.R_mono HO_30.out (fun k_ hk => (⟨hk, hk.2⟩ : _ ∧ k_ ≠ gb106))) (fun _ hk => hk.2) (.int .i64 ((rd_T30 t101 x32_2).f0))) (fun _ hk => hk.2) (.int .i64 ((rd_T30 t101 x32_2).f1))) (fun _ hk => hk.1.2))⟩, ⟨by (with_reducible repeat (first | refine blk_drewN ?_ _ | refine blk_drew ?_ | refine blk_alloc ?_ _)); refine blk_put (cs := #[.int .i64 ((rd_T30 t101 x32_2).f0), .int .i64 0]) ?_ 1 _ rfl; (with_reducible repeat (first | refine blk_drewN ?_ _ | refine blk_drew ?_ | refine blk_alloc ?_ _)); refine blk_put (cs := #[.int .i64 0, .int .i64 0]) ?_ 0 _ rfl; (with_reducible repeat (first | refine blk_drewN ?_ _ | refine blk_drew ?_ | refine blk_alloc ?_ _)); exact BK106.out⟩, ⟨bw⟩⟩
                  case round =>
                    clear H'
                    try clear c1
                    try clear p1
                    try clear q1
                    try clear hx1
                    try clear p2
                    try clear c3
                    try clear c3b0
                    try clear c3b1
                    try clear c4
                    try clear c4b0
                    try clear c4b1
                    try clear c5
                    try clear c5b0
                    try clear c5b1
                    try clear p6
                    try clear c7
                    try clear c7b0
                    try clear c8
                    try clear c8b0
                    try clear p10
                    try clear q10
                    try clear hx10
                    try clear c12
                    try clear c12b0
                    try clear c13
                    try clear c13b0
                    try clear c14
                    try clear c14b0
                    try clear hcz16_0
                    try clear hcz16_1
                    try clear hfz16_0
                    try clear hfz16_1
                    try clear hx105_0
                    try clear hx105_1
                    try clear p105
                    try clear p2
                    try clear p6
                    try clear q105
                    obtain ⟨x5_3, x10_3, rfl, rfl, HA, HK3, HO_30, BK106, HB⟩ := hrel
                    cases gk with
                    | zero => exact absurd HA.out (by simp [quadformref22_Symbol.l1])
                    | succ k3 =>
                      have H := HA.out
                      clear HA
                      simp only [quadformref22_Symbol.l1] at H
                      by_cases c17 : x10_3 < ((rd_T30 t101 x32_2).f1)
                      · rw [if_pos c17] at H
                        have c17b0 : decide (x10_3 < ((rd_T30 t101 x32_2).f1)) = true := decide_eq_true c17
                        clear c17
                        by_cases c18 : ((rd_T30 t101 x32_2).f0) = 2
                        · rw [if_pos c18] at H
                          have c18b0 : (((rd_T30 t101 x32_2).f0) == 2) = true := beq_iff_eq.mpr c18
                          have c18b1 : (((rd_T30 t101 x32_2).f0) != 2) = false := bne_eq_false_iff_eq.mpr c18
                          clear c18
                          replace H := Option.bind_eq_some_iff.mp H
                          obtain ⟨t107, A190, H⟩ := H
                          replace H : (quadformref22_Symbol.l1 k3 a0 (wrap64 (x5_3 * t107)) (wrap64 (x10_3 + 1)) t101 (t101.length : Int) x32_2 ((rd_T30 t101 x32_2).f0) ((rd_T30 t101 x32_2).f1)) = some r := H
                          have A19 := Aside0.mk A190
                          clear A190
                          have H' := Aside0.mk H
                          clear H
                          have hcz20_0 : wr.cell? ⟨gb106, 0, none⟩ = some (.int .i64 ((rd_T30 t101 x32_2).f0)) := (blk_cell BK106.out 0).trans rfl
                          have hcz20_1 : wr.cell? ⟨gb106, 1, none⟩ = some (.int .i64 ((rd_T30 t101 x32_2).f1)) := (blk_cell BK106.out 1).trans rfl
                          have hfz20_0 := blk_frozen BK106.out 0
                          have hfz20_1 := blk_frozen BK106.out 1
                          go_wp2_with (first | ((with_reducible refine gate_callee (f := 54) rfl ?_); refine goesL_ (some 47) rfl rfl Try.func54 (by kernel_rfl) rfl #[.int .i64 a0] rfl (by (try simp only [List.map_toArray, List.map_cons, List.map_nil]); first | done | rfl | (simp only [List.length_drop, List.length_take]; rfl)) ?_; (with_reducible refine (quadformref22_two.calls k3 a0 t107 _ A19.out).mono ?_); rintro e w' ⟨rfl, ⟨nd, rfl⟩⟩; refine ⟨_, rfl, ?_⟩))
                          go_roundg k3
                          case measure => have := HJ5.out; have := HK2.out; have := HK3.out; omega
                          case rel => exact ⟨(wrap64 (x5_3 * t107)), (wrap64 (x10_3 + 1)), sd, sd, H', ⟨by have := HJ5.out; have := HK2.out; have := HK3.out; omega⟩, ⟨rr HO_30.out⟩, ⟨bk BK106.out⟩, ⟨bw⟩⟩
                        · rw [if_neg c18] at H
                          have c18b0 : (((rd_T30 t101 x32_2).f0) == 2) = false := beq_eq_false_iff_ne.mpr c18
                          have c18b1 : (((rd_T30 t101 x32_2).f0) != 2) = true := bne_iff_ne.mpr c18
                          replace H := Option.bind_eq_some_iff.mp H
                          obtain ⟨t108, A210, H⟩ := H
                          replace H : (quadformref22_Symbol.l1 k3 a0 (wrap64 (x5_3 * t108)) (wrap64 (x10_3 + 1)) t101 (t101.length : Int) x32_2 ((rd_T30 t101 x32_2).f0) ((rd_T30 t101 x32_2).f1)) = some r := H
                          have A21 := Aside0.mk A210
                          clear A210
                          have H' := Aside0.mk H
                          clear H
                          have hcz22_0 : wr.cell? ⟨gb106, 0, none⟩ = some (.int .i64 ((rd_T30 t101 x32_2).f0)) := (blk_cell BK106.out 0).trans rfl
                          have hcz22_1 : wr.cell? ⟨gb106, 1, none⟩ = some (.int .i64 ((rd_T30 t101 x32_2).f1)) := (blk_cell BK106.out 1).trans rfl
                          have hfz22_0 := blk_frozen BK106.out 0
                          have hfz22_1 := blk_frozen BK106.out 1
                          go_wp2_with (first | ((with_reducible refine gate_callee (f := 55) rfl ?_); refine goesL_ (some 53) rfl rfl Try.func55 (by kernel_rfl) rfl #[.int .i64 a0, .int .i64 ((rd_T30 t101 x32_2).f0)] rfl (by (try simp only [List.map_toArray, List.map_cons, List.map_nil]); first | done | rfl | (simp only [List.length_drop, List.length_take]; rfl)) ?_; (with_reducible refine (quadformref22_Legendre.calls k3 a0 ((rd_T30 t101 x32_2).f0) t108 _ A21.out).mono ?_); rintro e w' ⟨rfl, ⟨nd, rfl⟩⟩; refine ⟨_, rfl, ?_⟩))
                          go_roundg k3
                          case measure => have := HJ5.out; have := HK2.out; have := HK3.out; omega
                          case rel => exact ⟨(wrap64 (x5_3 * t108)), (wrap64 (x10_3 + 1)), sd, sd, H', ⟨by have := HJ5.out; have := HK2.out; have := HK3.out; omega⟩, ⟨rr HO_30.out⟩, ⟨bk BK106.out⟩, ⟨bw⟩⟩
                      · rw [if_neg c17] at H
                        have c17b0 : decide (x10_3 < ((rd_T30 t101 x32_2).f1)) = false := decide_eq_false c17
                        clear c17
                        have H' := Aside0.mk H
                        clear H
                        have hcz23_0 : wr.cell? ⟨gb106, 0, none⟩ = some (.int .i64 ((rd_T30 t101 x32_2).f0)) := (blk_cell BK106.out 0).trans rfl
                        have hcz23_1 : wr.cell? ⟨gb106, 1, none⟩ = some (.int .i64 ((rd_T30 t101 x32_2).f1)) := (blk_cell BK106.out 1).trans rfl
                        have hfz23_0 := blk_frozen BK106.out 0
                        have hfz23_1 := blk_frozen BK106.out 1
                        go_wp2
                        go_roundg k3
                        case measure => have := HJ5.out; have := HK2.out; have := HK3.out; omega
                        case rel => exact ⟨(x5_3), (wrap64 (x32_2 + 1)), sd, sd, H', ⟨by have := HJ5.out; have := HK2.out; have := HK3.out; omega⟩, ⟨rr (Kd.R_mono HO_30.out (fun _ hk => trivial))⟩, ⟨bw⟩⟩
                · rw [if_neg c14] at H
                  exact absurd H (by simp)
              · rw [if_neg c13] at H
                exact absurd H (by simp)
            · rw [if_neg c12] at H
              have c12b0 : decide (x32_2 < (t101.length : Int)) = false := decide_eq_false c12
              clear c12
              obtain rfl := Option.some.inj H
              go_wp2
              go_ret
              exact ⟨by first | rfl | (simp [errW_none, errW_some] <;> rfl) | (simp [*, errW_none, errW_some] <;> rfl), bw⟩
end Go.Proofs.Ytcjhbjfkcmncpaa.Q
namespace Go.Proofs.Ytcjhbjfkcmncpaa.Q
open Go.RowKit Go.Proofs.YtcjhbjfkcmncpaaW.PrintWords Go.Proofs.YtcjhbjfkcmncpaaW.PrintLast Go.Proofs.YtcjhbjfkcmncpaaW.PrintMore
attribute [local go_sem] max2_int min2_int max_two min_two max_three min_three max_four min_four   -- for this text's walks alone
set_option linter.unusedVariables false
set_option linter.unusedSimpArgs false
def quadformref22_Kronecker.f (k : Nat) (a0 : Int) (a1 : Int) : Option (Int × Int) := if a0 < (-2147483647) then (some (0, 1)) else (if a0 > 2147483647 then (some (0, 1)) else (if a1 < (-2147483647) then (some (0, 1)) else (if a1 > 2147483647 then (some (0, 1)) else ((quadformref22_Symbol.f k a0 a1).bind fun t101 => (some (t101, 0))))))
theorem quadformref22_Kronecker.mono : ∀ a0 a1 k, LeO (quadformref22_Kronecker.f k a0 a1) (quadformref22_Kronecker.f (k + 1) a0 a1) := by
  intro a0 a1 k
  unfold quadformref22_Kronecker.f
  repeat' first
      | (with_reducible exact quadformref22_Symbol.mono _ _ _)
      | (with_reducible exact LeO.refl _)
      | (with_reducible exact LeO.none _)
      | (with_reducible refine LeO.ite ?_ ?_)
      | (with_reducible refine LeO.bind ?_ (fun _ => ?_))
      | exact quadformref22_Symbol.mono _ _ _
      | exact LeO.none _
      | refine LeO.ite ?_ ?_
      | refine LeO.bind ?_ (fun _ => ?_)
set_option maxHeartbeats 8000000 in
set_option maxRecDepth 100000 in
theorem quadformref22_Kronecker.calls (k : Nat) (a0 : Int) (a1 : Int) (r1 : Int) (r2 : Int) (w : World) (h : quadformref22_Kronecker.f k a0 a1 = some (r1, r2)) :
    Calls Try.prog 22 #[.int .i64 a0, .int .i64 a1] w fun e w' => e = .returned (.tuple #[.int .i64 r1, .int .i64 r2]) ∧ Below w.heap.size w w' := by
  have HB := Aside0.mk (Below.refl w.heap.size w)
  have H : (if a0 < (-2147483647) then (some (0, 1)) else (if a0 > 2147483647 then (some (0, 1)) else (if a1 < (-2147483647) then (some (0, 1)) else (if a1 > 2147483647 then (some (0, 1)) else ((quadformref22_Symbol.f k a0 a1).bind fun t101 => (some (t101, 0))))))) = some (r1, r2) := h
  clear h
  by_cases c3 : a0 < (-2147483647)
  · rw [if_pos c3] at H
    have c3b0 : decide (a0 < (-2147483647)) = true := decide_eq_true c3
    clear c3
    simp only [Option.some.injEq, Prod.mk.injEq] at H
    obtain ⟨rfl, rfl⟩ := H
    go_enter Try.func22, Try.ntmps22
    go_wp2
    go_ret2
    exact ⟨by first | rfl | (simp [errW_none, errW_some] <;> rfl) | (simp [*, errW_none, errW_some] <;> rfl), bw⟩
  · rw [if_neg c3] at H
    have c3b0 : decide (a0 < (-2147483647)) = false := decide_eq_false c3
    clear c3
    by_cases c4 : a0 > 2147483647
    · rw [if_pos c4] at H
      have c4b0 : decide (2147483647 < a0) = true := decide_eq_true c4
      clear c4
      simp only [Option.some.injEq, Prod.mk.injEq] at H
      obtain ⟨rfl, rfl⟩ := H
      go_enter Try.func22, Try.ntmps22
      go_wp2
      go_ret2
      exact ⟨by first | rfl | (simp [errW_none, errW_some] <;> rfl) | (simp [*, errW_none, errW_some] <;> rfl), bw⟩
    · rw [if_neg c4] at H
      have c4b0 : decide (2147483647 < a0) = false := decide_eq_false c4
      clear c4
      by_cases c5 : a1 < (-2147483647)
      · rw [if_pos c5] at H
        have c5b0 : decide (a1 < (-2147483647)) = true := decide_eq_true c5
        clear c5
        simp only [Option.some.injEq, Prod.mk.injEq] at H
        obtain ⟨rfl, rfl⟩ := H
        go_enter Try.func22, Try.ntmps22
        go_wp2
        go_ret2
        exact ⟨by first | rfl | (simp [errW_none, errW_some] <;> rfl) | (simp [*, errW_none, errW_some] <;> rfl), bw⟩
      · rw [if_neg c5] at H
        have c5b0 : decide (a1 < (-2147483647)) = false := decide_eq_false c5
        clear c5
        by_cases c6 : a1 > 2147483647
        · rw [if_pos c6] at H
          have c6b0 : decide (2147483647 < a1) = true := decide_eq_true c6
          clear c6
          simp only [Option.some.injEq, Prod.mk.injEq] at H
          obtain ⟨rfl, rfl⟩ := H
          go_enter Try.func22, Try.ntmps22
          go_wp2
          go_ret2
          exact ⟨by first | rfl | (simp [errW_none, errW_some] <;> rfl) | (simp [*, errW_none, errW_some] <;> rfl), bw⟩
        · rw [if_neg c6] at H
          have c6b0 : decide (2147483647 < a1) = false := decide_eq_false c6
          clear c6
          replace H := Option.bind_eq_some_iff.mp H
          obtain ⟨t101, A70, H⟩ := H
          replace H : (some (t101, 0)) = some (r1, r2) := H
          have A7 := Aside0.mk A70
          clear A70
          simp only [Option.some.injEq, Prod.mk.injEq] at H
          obtain ⟨rfl, rfl⟩ := H
          go_enter Try.func22, Try.ntmps22
          go_wp2_with (first | ((with_reducible refine gate_callee (f := 39) rfl ?_); refine goesL_ (some 22) rfl rfl Try.func39 (by kernel_rfl) rfl #[.int .i64 a0, .int .i64 a1] rfl (by (try simp only [List.map_toArray, List.map_cons, List.map_nil]); first | done | rfl | (simp only [List.length_drop, List.length_take]; rfl)) ?_; (with_reducible refine (quadformref22_Symbol.calls k a0 a1 t101 _ A7.out).mono ?_); rintro e w8 ⟨rfl, hb⟩; refine ⟨_, rfl, ?_⟩; have n0_ := Aside0.mk (below_step bw hb); clear HB; have HB := n0_; clear n0_; (try clear hb); (try clear hb2); (try clear hk); (try clear hi)))
          go_ret2
          exact ⟨by first | rfl | (simp [errW_none, errW_some] <;> rfl) | (simp [*, errW_none, errW_some] <;> rfl), bw⟩
end Go.Proofs.Ytcjhbjfkcmncpaa.Q
namespace Go.Proofs.Ytcjhbjfkcmncpaa.Q
open Go.RowKit Go.Proofs.YtcjhbjfkcmncpaaW.PrintWords Go.Proofs.YtcjhbjfkcmncpaaW.PrintLast Go.Proofs.YtcjhbjfkcmncpaaW.PrintMore
open Go.Proofs.Ytcjhbjfkcmncpaa.Num
theorem awake_ok : Ev (fun k => quadformlaw22_awake.f k) true := Ev.of (g := fun k => quadformlaw22_awake.f k) (fun k => quadformlaw22_awake.mono k) (k := 60) (by kernel_rfl)
end Go.Proofs.Ytcjhbjfkcmncpaa.Q
namespace Go.Proofs.Ytcjhbjfkcmncpaa.Pure
open Go.RowKit Go.Proofs.Ytcjhbjfkcmncpaa.Q Go.Proofs.YtcjhbjfkcmncpaaW.PrintWords Go.Proofs.YtcjhbjfkcmncpaaW.PrintLast
open Go.Proofs.Ytcjhbjfkcmncpaa.Num Go.Proofs.Ytcjhbjfkcmncpaa.LI
theorem kr_jr {a : Int} {n : Nat} {v : Int} (hn : 0 < n) (h : kr a n v) : JR (sy a) n v := by
  rcases h with ⟨h0, _⟩ | ⟨_, L, hL, rfl⟩
  · omega
  · rw [if_neg (by omega), Int.one_mul]
    exact hL.jr
theorem PrimeReciprocity : quadformlaw22_PrimeReciprocity.Pure := by
  intro a b ha hb
  refine Ev.rounds (g := fun k => quadformlaw22_PrimeReciprocity.f k a b) ?_
  have ha' : 0 ≤ a ∧ a ≤ 65535 := by simpa [Lit.wf, IntKind.min, IntKind.max, IntKind.signed, IntKind.bits] using ha
  have hb' : 0 ≤ b ∧ b ≤ 65535 := by simpa [Lit.wf, IntKind.min, IntKind.max, IntKind.signed, IntKind.bits] using hb
  obtain ⟨m, rfl⟩ := Int.eq_ofNat_of_zero_le ha'.1
  obtain ⟨n, rfl⟩ := Int.eq_ofNat_of_zero_le hb'.1
  have e1 : wrap64 (wrap64 (2 * wrap64 (m : Int)) + 1) = ((2 * m + 1 : Nat) : Int) := by
    rw [wr64 (x := (m : Int)) (by omega) (by omega), wr64 (x := 2 * (m : Int)) (by omega) (by omega), wr64 (by omega) (by omega)]
    omega
  have e2 : wrap64 (wrap64 (2 * wrap64 (n : Int)) + 1) = ((2 * n + 1 : Nat) : Int) := by
    rw [wr64 (x := (n : Int)) (by omega) (by omega), wr64 (x := 2 * (n : Int)) (by omega) (by omega), wr64 (by omega) (by omega)]
    omega
  simp only [quadformlaw22_PrimeReciprocity.f, e1, e2]
  generalize hx : 2 * m + 1 = x at *
  generalize hy : 2 * n + 1 = y at *
  have lx : (limbs x).length ≤ 1 := limbs_len.2 (by simp; omega)
  have ly : (limbs y).length ≤ 1 := limbs_len.2 (by simp; omega)
  have hg := gcd_ok (mk (x : Int)).1 (mk (y : Int)).1 (lim_mk (x : Int)) (lim_mk (y : Int)) (by simp only [mk, Int.natAbs_natCast]; omega) (by simp only [mk, Int.natAbs_natCast]; omega)
  rw [lv_mk, lv_mk, Int.natAbs_natCast, Int.natAbs_natCast] at hg
  have hgl : (mk (Nat.gcd x y : Nat)).2.length < 17592186044416 := by
    simp only [mk, Int.natAbs_natCast]
    have := len_le (Nat.gcd_le_left y (show 0 < x by omega))
    omega
  refine Ev.bind (small_ok (by omega) (by omega)) (Ev.bind (small_ok (by omega) (by omega)) (Ev.bind hg (Ev.bind (small_ok (by decide) (by decide)) (Ev.bind (same_ok hgl) ?_))))
  by_cases h : ((Nat.gcd x y : Nat) : Int) = 1
  · rw [decide_eq_true h]
    obtain ⟨v, hv, hv1, hv2⟩ := kron_ok (a := (x : Int)) (n := (y : Int)) (by omega) (by omega)
    obtain ⟨w, hw, hw1, hw2⟩ := kron_ok (a := (y : Int)) (n := (x : Int)) (by omega) (by omega)
    have hr := recip (kr_jr (by omega) hw) (kr_jr (by omega) hv) (by omega) (by omega) (show Nat.Coprime x y by unfold Nat.Coprime; omega)
    have hvw : wrap64 (v * w) = v * w := by
      rcases hv1 with rfl | rfl | rfl <;> rcases hw1 with rfl | rfl | rfl <;> exact wr64 (by decide) (by decide)
    refine Ev.congr (f := fun k => (prime_Kronecker.f k x y).bind fun bt119 => ((prime_Kronecker.f k y x).bind fun bt121 => (if bt119.2 = 0 then (if bt121.2 = 0 then (if (wrap64 (bt119.1 * bt121.1)) = eps x y then ((quadformlaw22_awake.f k).bind fun t123 => (some t123)) else (some false)) else (some false)) else (some false)))) (fun k => ?_) ?_
    · rw [if_pos rfl]
      congr 1
      funext bt119
      congr 1
      funext bt121
      rw [show Int.tmod (x : Int) 4 = ((x % 4 : Nat) : Int) from (Int.ofNat_tmod x 4).symm, show Int.tmod (y : Int) 4 = ((y % 4 : Nat) : Int) from (Int.ofNat_tmod y 4).symm]
      unfold eps
      by_cases h1 : x % 4 = 3
      · by_cases h2 : y % 4 = 3
        · rw [if_pos (by omega), if_pos (by omega), if_pos (show x % 4 = 3 ∧ y % 4 = 3 from ⟨h1, h2⟩)]
        · rw [if_pos (by omega), if_neg (by omega), if_neg (show ¬ (x % 4 = 3 ∧ y % 4 = 3) by omega)]
      · rw [if_neg (by omega), if_neg (show ¬ (x % 4 = 3 ∧ y % 4 = 3) by omega)]
    · refine Ev.bind hv2 (Ev.bind hw2 ?_)
      refine Ev.congr (fun k => ?_) (Ev.bind awake_ok (f := fun _ t => some t) (Ev.now _))
      rw [if_pos rfl, if_pos rfl, if_pos (by rw [hvw, hr])]
  · rw [decide_eq_false h]
    refine Ev.congr (fun k => ?_) (Ev.bind awake_ok (f := fun _ t => some t) (Ev.now _))
    rw [if_neg (by decide)]
end Go.Proofs.Ytcjhbjfkcmncpaa.Pure
namespace Go.Proofs.Ytcjhbjfkcmncpaa.primeReciprocity
open Go.ChangeShapes Go.WideShapes Go.ChangeAt Go.RowKit
open Go.ChangeMaps (open_string shut_string)
set_option linter.unusedVariables false
theorem own : ownKnob Try.prog.godebug = none := by kernel_rfl
set_option maxRecDepth 100000 in
theorem lifted (os : Os) (started : os.Started) (H : Type) (enc : TypeId × Value → H) :
    ReturnsInHanded {} Try.checked os 8 .any (Rows.primeReciprocitySpec.pre6 enc Try.prog Try.f8 Rows.primeReciprocityRow.domain false) (Rows.primeReciprocitySpec.post enc Try.prog Try.f8 false true false false) := by
  refine returnsInHanded_of_change_sized (C := Try.checked) own started (by kernel_rfl) Try.func8
    (ChangeSpec.witness6 (enc := enc) (C := Try.checked) false ⟨#[], #[.int .u16 0, .int .u16 0], []⟩ 8 (by kernel_rfl) (by kernel_rfl) (by kernel_rfl) (by kernel_rfl)) ?_
  intro W base args ds gs before hval0 hW hcnd hsz0 _
  have hsz : (DataW.weightsEach Try.prog (Try.f8.params.toList ++ Rows.primeReciprocitySpec.plain.varTypes Try.prog) (ds ++ gs)).all (· ≤ reachBytes) = true := hsz0
  have hval : ∀ (j : Nat) t v, Try.f8.params[j]? = some t → args[j]? = some v → Value.okWide Try.prog W .any base t v := hval0
  have hW' := hW
  obtain ⟨p, q, hA0, hV, rfl, hfz, hnd⟩ := hW
  have hA : DataW.TrodAll enc Try.prog W 0 (fun _ => true) true Try.f8.params.toList args.toList ds p := hA0
  rw [Try.params8] at hA hval hsz
  obtain ⟨v0, vs0, d0, ds0, p0, q0, hargs, rfl, rfl, h0, r0⟩ := trodAll_cons hA
  obtain ⟨v1, vs1, d1, ds1, p1, q1, rfl, rfl, rfl, h1, r1⟩ := trodAll_cons r0
  obtain ⟨rfl, rfl, rfl⟩ := trodAll_nil r1
  obtain rfl : args = #[v0, v1] := by cases args; simp_all
  obtain ⟨rfl, rfl⟩ := trodVars_none hV
  obtain ⟨a0, rfl, rfl, rfl, w0⟩ := open_int Try.underlying35 (hval 0 35 v0 rfl rfl) h0
  obtain ⟨a1, rfl, rfl, rfl, w1⟩ := open_int Try.underlying35 (hval 1 35 v1 rfl rfl) h1
  clear hA0 hval0 hsz0 hsz
  refine (Q.quadformlaw22_PrimeReciprocity.walk Pure.PrimeReciprocity a0 a1 W w0 w1).mono fun e W' ⟨he, bel⟩ => ?_
  subst he
  exact ⟨_, rfl, _, _, _, [], _, [], hW', trodAll_mk1 (shut_bool Try.underlying4 _), (trodAll_cons_mk (shut_int Try.underlying35 w0) (trodAll_cons_mk (shut_int Try.underlying35 w1) trodAll_mk0)), rfl, bel.frame _, fun h => by cases h⟩
theorem over : Rows.primeReciprocityRow.holds Try.pinned (OpenSpec.ofChange Rows.primeReciprocitySpec) :=
  OpenClaim.holds_of_wide 8 Try.f8 rfl rfl rfl rfl rfl rfl rfl ⟨rfl, rfl, rfl, rfl, rfl⟩ rfl rfl rfl rfl rfl (by kernel_rfl) Try.func8 (by kernel_rfl)
    (of_decide_eq_true (by kernel_rfl)) (by unfold Func.isWrapper; first | (rw [if_pos (by decide +kernel)]; kernel_rfl) | (rw [if_neg (by decide +kernel)]; exact ⟨rfl, rfl⟩))
    (fun os started H enc _ => lifted os started H enc)
theorem proved : Rows.PrimeReciprocitySaid := over
#print axioms proved
end Go.Proofs.Ytcjhbjfkcmncpaa.primeReciprocity
namespace Go.Proofs.Ytcjhbjfkcmncpaa
/-- The row, under a short name, for the claim. -/
theorem primeReciprocity_holds : Rows.PrimeReciprocitySaid := primeReciprocity.proved
end Go.Proofs.Ytcjhbjfkcmncpaa
