/- The symbol (a/p), Gauss' lemma, the law of reciprocity. -/
import Derived.Test.YtbchgegclgpdhaaNum
namespace Go.Proofs.Ytbchgegclgpdhaa.Num

/-! ## lists that run over 1 .. n -/
def lst (f : Nat → Nat) : Nat → List Nat
  | 0 => []
  | n + 1 => f (n + 1) :: lst f n

theorem lst_length (f : Nat → Nat) : ∀ n, (lst f n).length = n
  | 0 => rfl
  | n + 1 => by simp [lst, lst_length f n]

theorem mem_lst {f : Nat → Nat} {x : Nat} : ∀ {n : Nat}, x ∈ lst f n → ∃ k, 1 ≤ k ∧ k ≤ n ∧ x = f k
  | 0, h => by simp [lst] at h
  | n + 1, h => by
    rcases List.mem_cons.1 h with rfl | h
    · exact ⟨n + 1, by omega, by omega, rfl⟩
    · obtain ⟨k, h1, h2, h3⟩ := mem_lst h
      exact ⟨k, h1, by omega, h3⟩

theorem lst_nodup {f : Nat → Nat} : ∀ {n : Nat}, (∀ i j, 1 ≤ i → i ≤ n → 1 ≤ j → j ≤ n → f i = f j → i = j) → (lst f n).Nodup
  | 0, _ => by simp [lst]
  | n + 1, h => by
    refine List.nodup_cons.2 ⟨fun hm => ?_, lst_nodup fun i j a b c d e => h i j a (by omega) c (by omega) e⟩
    obtain ⟨k, h1, h2, h3⟩ := mem_lst hm
    have := h (n + 1) k (by omega) (by omega) h1 (by omega) h3
    omega

theorem pigeon : ∀ (n : Nat) (l : List Nat), l.Nodup → (∀ x ∈ l, 1 ≤ x ∧ x ≤ n) → l.length ≤ n
  | 0, l, _, h => by
    cases l with
    | nil => simp
    | cons a l => have := h a (List.mem_cons_self ..); omega
  | n + 1, l, hn, h => by
    have h1 := pigeon n (l.erase (n + 1)) (hn.erase _) (fun x hx => by
      have hx' := (hn.mem_erase_iff).1 hx
      have := h x hx'.2
      have := hx'.1
      omega)
    rw [List.length_erase] at h1
    split at h1 <;> omega

theorem full : ∀ (n : Nat) (l : List Nat), l.Nodup → (∀ x ∈ l, 1 ≤ x ∧ x ≤ n) → l.length = n → l.Perm (lst (fun k => k) n)
  | 0, l, _, _, h => by
    have : l = [] := List.eq_nil_of_length_eq_zero h
    subst this
    exact List.Perm.refl _
  | n + 1, l, hn, h, hl => by
    have hm : n + 1 ∈ l := by
      apply Classical.byContradiction
      intro hno
      have := pigeon n l hn (fun x hx => by
        have := h x hx
        have : x ≠ n + 1 := by rintro rfl; exact hno hx
        omega)
      omega
    refine (List.perm_cons_erase hm).trans (List.Perm.cons _ ?_)
    refine full n _ (hn.erase _) (fun x hx => ?_) ?_
    · have hx' := (hn.mem_erase_iff).1 hx
      have := h x hx'.2
      have := hx'.1
      omega
    · rw [List.length_erase, if_pos hm]; omega

def prodL : List Nat → Nat
  | [] => 1
  | a :: l => a * prodL l
def sumL : List Nat → Nat
  | [] => 0
  | a :: l => a + sumL l

theorem prodL_perm {l l' : List Nat} (h : l.Perm l') : prodL l = prodL l' := by
  induction h with
  | nil => rfl
  | cons x _ ih => simp [prodL, ih]
  | swap x y l => simp only [prodL]; rw [← Nat.mul_assoc, ← Nat.mul_assoc, Nat.mul_comm x y]
  | trans _ _ a b => exact a.trans b
theorem sumL_perm {l l' : List Nat} (h : l.Perm l') : sumL l = sumL l' := by
  induction h with
  | nil => rfl
  | cons x _ ih => simp [sumL, ih]
  | swap x y l => simp only [sumL]; omega
  | trans _ _ a b => exact a.trans b

/-! ## products and sums over 1 .. n -/
def prodI (f : Nat → Int) : Nat → Int
  | 0 => 1
  | n + 1 => f (n + 1) * prodI f n
def sumN (f : Nat → Nat) : Nat → Nat
  | 0 => 0
  | n + 1 => f (n + 1) + sumN f n

theorem prodI_lst (f : Nat → Nat) : ∀ n, prodI (fun k => (f k : Int)) n = (prodL (lst f n) : Nat)
  | 0 => rfl
  | n + 1 => by simp [prodI, prodL, lst, prodI_lst f n]
theorem sumN_lst (f : Nat → Nat) : ∀ n, sumN f n = sumL (lst f n)
  | 0 => rfl
  | n + 1 => by simp [sumN, sumL, lst, sumN_lst f n]

/-- A map of 1 .. n into itself that takes no value twice. -/
structure Sends (f : Nat → Nat) (n : Nat) : Prop where
  into : ∀ i, 1 ≤ i → i ≤ n → 1 ≤ f i ∧ f i ≤ n
  inj : ∀ i j, 1 ≤ i → i ≤ n → 1 ≤ j → j ≤ n → f i = f j → i = j

theorem Sends.perm {f : Nat → Nat} {n : Nat} (h : Sends f n) : (lst f n).Perm (lst (fun k => k) n) :=
  full n _ (lst_nodup h.inj) (fun x hx => by
    obtain ⟨k, h1, h2, rfl⟩ := mem_lst hx
    exact h.into k h1 h2) (lst_length _ _)

theorem Sends.prod {f : Nat → Nat} {n : Nat} (h : Sends f n) : prodI (fun k => (f k : Int)) n = prodI (fun k => (k : Int)) n := by
  rw [prodI_lst, prodI_lst (fun k => k), prodL_perm h.perm]
theorem Sends.sum {f : Nat → Nat} {n : Nat} (h : Sends f n) : sumN f n = sumN (fun k => k) n := by
  rw [sumN_lst, sumN_lst, sumL_perm h.perm]

theorem prodI_mul (f g : Nat → Int) : ∀ n, prodI (fun k => f k * g k) n = prodI f n * prodI g n
  | 0 => rfl
  | n + 1 => by simp only [prodI, prodI_mul f g n]; grind

theorem prodI_const (a : Int) : ∀ n, prodI (fun _ => a) n = a ^ n
  | 0 => by simp [prodI]
  | n + 1 => by simp only [prodI, prodI_const a n, Int.pow_succ]; grind

theorem dvd_mul_sub {m a b c d : Int} (h : m ∣ a - b) (h' : m ∣ c - d) : m ∣ a * c - b * d := by
  obtain ⟨x, hx⟩ := h
  obtain ⟨y, hy⟩ := h'
  exact ⟨x * c + b * y, by
    have : a = b + m * x := by omega
    have : c = d + m * y := by omega
    subst a c
    grind⟩

theorem dvd_pow_sub {m a b : Int} (h : m ∣ a - b) : ∀ n, m ∣ a ^ n - b ^ n
  | 0 => by simp
  | n + 1 => by rw [Int.pow_succ, Int.pow_succ]; exact dvd_mul_sub (dvd_pow_sub h n) h

theorem prodI_congr {m : Int} {f g : Nat → Int} : ∀ {n : Nat}, (∀ k, 1 ≤ k → k ≤ n → m ∣ f k - g k) → m ∣ prodI f n - prodI g n
  | 0, _ => by simp [prodI]
  | n + 1, h => dvd_mul_sub (h (n + 1) (by omega) (by omega)) (prodI_congr fun k a b => h k a (by omega))

theorem Pr.dvd_mulI {p : Nat} (hp : Pr p) {a b : Int} (h : (p : Int) ∣ a * b) : (p : Int) ∣ a ∨ (p : Int) ∣ b := by
  have h1 : p ∣ a.natAbs * b.natAbs := by
    have := Int.natAbs_dvd_natAbs.2 h
    simpa [Int.natAbs_mul] using this
  rcases hp.dvd_mul h1 with h | h
  · exact .inl (Int.ofNat_dvd_left.2 h)
  · exact .inr (Int.ofNat_dvd_left.2 h)

theorem not_dvd_small {p : Nat} {k : Nat} (h1 : 1 ≤ k) (h2 : k < p) : ¬ (p : Int) ∣ (k : Int) := by
  intro h
  have := Nat.le_of_dvd (by omega) (Int.natCast_dvd_natCast.1 h)
  omega

theorem not_dvd_fact {p : Nat} (hp : Pr p) : ∀ n, n < p → ¬ (p : Int) ∣ prodI (fun k => (k : Int)) n
  | 0, _, h => by
    simp only [prodI] at h
    have := Int.natCast_dvd_natCast.1 (show (p : Int) ∣ ((1 : Nat) : Int) from h)
    exact hp.not_dvd_one this
  | n + 1, hn, h => by
    simp only [prodI] at h
    rcases hp.dvd_mulI h with h | h
    · exact not_dvd_small (by omega) hn h
    · exact not_dvd_fact hp n (by omega) h

/-! ## Gauss' lemma -/
def low (p h a k : Nat) : Nat := if (a * k) % p ≤ h then (a * k) % p else p - (a * k) % p
def hi (p h a k : Nat) : Nat := if (a * k) % p ≤ h then 0 else 1
def sg (p h a k : Nat) : Int := if (a * k) % p ≤ h then 1 else -1

section
variable {p h a : Nat} (hp : Pr p) (hh : p = 2 * h + 1) (ha : ¬ p ∣ a)
include hp hh ha

theorem rem_ne {k : Nat} (h1 : 1 ≤ k) (h2 : k ≤ h) : (a * k) % p ≠ 0 := by
  intro e
  rcases hp.dvd_mul (Nat.dvd_of_mod_eq_zero e) with hd | hd
  · exact ha hd
  · have := Nat.le_of_dvd (by omega) hd
    omega

theorem low_into {k : Nat} (h1 : 1 ≤ k) (h2 : k ≤ h) : 1 ≤ low p h a k ∧ low p h a k ≤ h := by
  have := rem_ne hp hh ha h1 h2
  have : (a * k) % p < p := Nat.mod_lt _ (by omega)
  unfold low
  split <;> omega

omit hp ha in
theorem low_congr (k : Nat) : (p : Int) ∣ ((a : Int) * k) - sg p h a k * low p h a k := by
  have e : (a * k) = p * (a * k / p) + (a * k) % p := (Nat.div_add_mod _ _).symm
  have hl : (a * k) % p < p := Nat.mod_lt _ (by omega)
  have e' : ((a : Int) * k) = p * ((a * k / p : Nat) : Int) + ((a * k % p : Nat) : Int) := by
    have := congrArg (fun z : Nat => (z : Int)) e
    simpa using this
  unfold sg low
  rw [e']
  split
  · exact ⟨((a * k / p : Nat) : Int), by grind⟩
  · refine ⟨((a * k / p : Nat) : Int) + 1, ?_⟩
    rw [Int.ofNat_sub (by omega)]
    grind

theorem low_sends : Sends (low p h a) h where
  into _ h1 h2 := low_into hp hh ha h1 h2
  inj i j hi1 hi2 hj1 hj2 e := by
    have c1 := low_congr (a := a) hh i
    have c2 := low_congr (a := a) hh j
    rw [← e] at c2
    have key : (p : Int) ∣ (a : Int) * (i - j) ∨ (p : Int) ∣ (a : Int) * (i + j) := by
      have hs : sg p h a i = sg p h a j ∨ sg p h a i = - sg p h a j := by
        unfold sg; split <;> split <;> simp
      rcases hs with hs | hs
      · left
        rw [hs] at c1
        have := Int.dvd_sub c1 c2
        have e2 : (a : Int) * i - sg p h a j * ↑(low p h a i) - (↑a * ↑j - sg p h a j * ↑(low p h a i)) = (a : Int) * (i - j) := by grind
        rwa [e2] at this
      · right
        rw [hs] at c1
        have := Int.dvd_add c1 c2
        have e2 : (a : Int) * i - -sg p h a j * ↑(low p h a i) + (↑a * ↑j - sg p h a j * ↑(low p h a i)) = (a : Int) * (i + j) := by grind
        rwa [e2] at this
    have na : ¬ (p : Int) ∣ (a : Int) := fun hd => ha (Int.natCast_dvd_natCast.1 hd)
    rcases key with hd | hd
    · rcases hp.dvd_mulI hd with hd | hd
      · exact absurd hd na
      · obtain ⟨c, hc⟩ := hd
        have hc0 : c = 0 := by
          rcases Int.lt_trichotomy c 0 with h0 | h0 | h0
          · have : (p : Int) * c ≤ p * (-1) := Int.mul_le_mul_of_nonneg_left (by omega) (by omega)
            omega
          · exact h0
          · have : (p : Int) * 1 ≤ p * c := Int.mul_le_mul_of_nonneg_left (by omega) (by omega)
            omega
        subst hc0
        omega
    · rcases hp.dvd_mulI hd with hd | hd
      · exact absurd hd na
      · exfalso
        have hd' : p ∣ i + j := Int.natCast_dvd_natCast.1 (by simpa using hd)
        have := Nat.le_of_dvd (by omega) hd'
        omega

theorem gauss : (p : Int) ∣ (a : Int) ^ h - prodI (sg p h a) h := by
  have h1 : (p : Int) ∣ prodI (fun k => (a : Int) * k) h - prodI (fun k => sg p h a k * low p h a k) h :=
    prodI_congr fun k _ _ => low_congr (a := a) hh k
  rw [prodI_mul (fun _ => (a : Int)) (fun k => (k : Int)), prodI_const, prodI_mul (sg p h a) (fun k => (low p h a k : Int)), (low_sends hp hh ha).prod] at h1
  have e : (a : Int) ^ h * prodI (fun k => (k : Int)) h - prodI (sg p h a) h * prodI (fun k => (k : Int)) h = ((a : Int) ^ h - prodI (sg p h a) h) * prodI (fun k => (k : Int)) h := by grind
  rw [e] at h1
  rcases hp.dvd_mulI h1 with h1 | h1
  · exact h1
  · exact absurd h1 (not_dvd_fact hp h (by omega))

omit hp hh ha in
theorem sg_hi : ∀ n, prodI (sg p h a) n = if sumN (hi p h a) n % 2 = 0 then 1 else -1
  | 0 => rfl
  | n + 1 => by
    simp only [prodI, sumN, sg_hi n]
    unfold sg hi
    split <;> split <;> split <;> first | rfl | omega

omit hp ha in
theorem hi_par (hodd : a % 2 = 1) (k : Nat) : k % 2 = ((a * k) / p + low p h a k + hi p h a k) % 2 := by
  have e : (a * k) = p * (a * k / p) + (a * k) % p := (Nat.div_add_mod _ _).symm
  have hl : (a * k) % p < p := Nat.mod_lt _ (by omega)
  have e1 : (a * k) % 2 = k % 2 := by
    rw [Nat.mul_mod, hodd]; omega
  have e2 : (p * (a * k / p)) % 2 = (a * k / p) % 2 := by
    rw [Nat.mul_mod]
    have : p % 2 = 1 := by omega
    rw [this]; omega
  generalize p * (a * k / p) = z at *
  unfold low hi
  split <;> omega

theorem hi_sum (hodd : a % 2 = 1) : sumN (hi p h a) h % 2 = sumN (fun k => (a * k) / p) h % 2 := by
  have hs := (low_sends hp hh ha).sum
  have key : ∀ n, sumN (fun k => k) n % 2 = (sumN (fun k => (a * k) / p) n + sumN (low p h a) n + sumN (hi p h a) n) % 2 := by
    intro n
    induction n with
    | zero => rfl
    | succ n ih =>
      have := hi_par hh hodd (n + 1)
      simp only [sumN]
      omega
  have := key h
  omega

end

/-! ## counting -/
theorem sumN_add (f g : Nat → Nat) : ∀ n, sumN (fun k => f k + g k) n = sumN f n + sumN g n
  | 0 => rfl
  | n + 1 => by simp only [sumN, sumN_add f g n]; omega

theorem sumN_congr {f g : Nat → Nat} : ∀ {n : Nat}, (∀ k, 1 ≤ k → k ≤ n → f k = g k) → sumN f n = sumN g n
  | 0, _ => rfl
  | n + 1, h => by simp only [sumN]; rw [h (n + 1) (by omega) (by omega), sumN_congr fun k a b => h k a (by omega)]

theorem sumN_const (c : Nat) : ∀ n, sumN (fun _ => c) n = n * c
  | 0 => by simp [sumN]
  | n + 1 => by simp only [sumN, sumN_const c n]; rw [Nat.succ_mul]; omega

theorem sumN_swap (F : Nat → Nat → Nat) (m : Nat) : ∀ n, sumN (fun k => sumN (fun j => F k j) m) n = sumN (fun j => sumN (fun k => F k j) n) m
  | 0 => by simp only [sumN]; rw [sumN_const]; simp
  | n + 1 => by simp only [sumN, sumN_swap F m n]; rw [sumN_add]

theorem sumN_upto (t : Nat) : ∀ n, t ≤ n → sumN (fun j => if j ≤ t then 1 else 0) n = t
  | 0, h => by simp [sumN]; omega
  | n + 1, h => by
    simp only [sumN]
    by_cases e : t = n + 1
    · subst e
      rw [if_pos (Nat.le_refl _), sumN_congr (g := fun _ => 1) (fun k _ _ => by rw [if_pos (by omega)]), sumN_const]
      omega
    · rw [if_neg (by omega), sumN_upto t n (by omega)]; omega

theorem floor_count {p q h g k : Nat} (hp : Pr p) (hh : p = 2 * h + 1) (hg : q = 2 * g + 1) (hq : ¬ p ∣ q) (h1 : 1 ≤ k) (h2 : k ≤ h) :
    (q * k) / p = sumN (fun j => if p * j < q * k then 1 else 0) g := by
  have hle : (q * k) / p ≤ g := by
    apply Nat.le_of_lt_succ
    apply (Nat.div_lt_iff_lt_mul (by omega)).2
    have a : q * k ≤ q * h := Nat.mul_le_mul_left _ h2
    have b : q * h < (g + 1) * p := by
      subst hh hg
      have : (2 * g + 1) * h = 2 * (g * h) + h := by grind
      have : (g + 1) * (2 * h + 1) = 2 * (g * h) + g + 2 * h + 1 := by grind
      omega
    exact Nat.lt_of_le_of_lt a b
  rw [← sumN_upto ((q * k) / p) g hle]
  refine sumN_congr fun j _ _ => ?_
  have hne : p * j ≠ q * k := by
    intro e
    rcases hp.dvd_mul (a := q) (b := k) ⟨j, e.symm⟩ with hd | hd
    · exact hq hd
    · have := Nat.le_of_dvd (by omega) hd
      omega
  have : j ≤ q * k / p ↔ p * j ≤ q * k := by
    rw [Nat.le_div_iff_mul_le (by omega), Nat.mul_comm]
  by_cases c : j ≤ q * k / p
  · rw [if_pos c, if_pos (by have := this.1 c; omega)]
  · rw [if_neg c, if_neg (fun h => c (this.2 (by omega)))]

theorem lattice {p q h g : Nat} (hp : Pr p) (hq : Pr q) (hne : p ≠ q) (hh : p = 2 * h + 1) (hg : q = 2 * g + 1) :
    sumN (fun k => (q * k) / p) h + sumN (fun j => (p * j) / q) g = h * g := by
  have npq : ¬ p ∣ q := fun hd => hne (hp.eq_of_dvd hq hd)
  have nqp : ¬ q ∣ p := fun hd => hne (hq.eq_of_dvd hp hd).symm
  rw [sumN_congr (fun k a b => floor_count hp hh hg npq a b), sumN_congr (n := g) (fun k a b => floor_count hq hg hh nqp a b)]
  rw [sumN_swap (fun j k => if q * k < p * j then 1 else 0) h g, ← sumN_add]
  rw [sumN_congr (g := fun _ => g), sumN_const]
  intro k h1 h2
  rw [← sumN_add, sumN_congr (g := fun _ => 1), sumN_const, Nat.mul_one]
  intro j h3 h4
  have : p * j ≠ q * k := by
    intro e
    rcases hp.dvd_mul (a := q) (b := k) ⟨j, e.symm⟩ with hd | hd
    · exact npq hd
    · have := Nat.le_of_dvd (by omega) hd
      omega
  split <;> split <;> omega

/-! ## the symbol -/
def sy (a : Int) (p : Nat) : Int :=
  if p = 2 then (if a % 8 = 1 ∨ a % 8 = 7 then 1 else if a % 8 = 3 ∨ a % 8 = 5 then -1 else 0)
  else if a % p = 0 then 0 else if ((a % p).toNat ^ ((p - 1) / 2)) % p = 1 then 1 else -1

theorem sy_range (a : Int) (p : Nat) : sy a p = 1 ∨ sy a p = 0 ∨ sy a p = -1 := by
  unfold sy
  repeat' split
  all_goals simp

theorem odd_of_prime {p : Nat} (hp : Pr p) (h2 : p ≠ 2) : p = 2 * ((p - 1) / 2) + 1 := by
  have := hp.1
  by_cases h : p % 2 = 0
  · rcases hp.2 2 (Nat.dvd_of_mod_eq_zero h) with h | h <;> omega
  · omega

theorem sign_unique {p : Nat} (hp : 3 ≤ p) {x e f : Int} (he : e = 1 ∨ e = -1) (hf : f = 1 ∨ f = -1) (h : (p : Int) ∣ x - e) (h' : (p : Int) ∣ x - f) : e = f := by
  have hd := Int.dvd_sub h' h
  have e2 : x - f - (x - e) = e - f := by omega
  rw [e2] at hd
  have key : ∀ z : Int, (p : Int) ∣ z → z = 2 ∨ z = -2 → False := by
    intro z hz h2
    have h3 : p ∣ z.natAbs := Int.ofNat_dvd_left.1 hz
    have : z.natAbs = 2 := by rcases h2 with rfl | rfl <;> rfl
    rw [this] at h3
    have := Nat.le_of_dvd (by omega) h3
    omega
  rcases he with rfl | rfl <;> rcases hf with rfl | rfl
  · rfl
  · exact (key _ hd (by omega)).elim
  · exact (key _ hd (by omega)).elim
  · rfl

theorem sy_zero {a : Int} {p : Nat} (hp : p ≠ 2) (h : (p : Int) ∣ a) : sy a p = 0 := by
  unfold sy
  rw [if_neg hp, if_pos (Int.emod_eq_zero_of_dvd h)]

theorem sy_euler {a : Int} {p : Nat} (hp : Pr p) (h2 : p ≠ 2) (ha : ¬ (p : Int) ∣ a) :
    (sy a p = 1 ∨ sy a p = -1) ∧ (p : Int) ∣ a ^ ((p - 1) / 2) - sy a p := by
  have hh := odd_of_prime hp h2
  have hp3 : 3 ≤ p := by have := hp.1; omega
  have hr0 : 0 ≤ a % p := Int.emod_nonneg _ (by omega)
  have hrp : a % p < p := Int.emod_lt_of_pos _ (by omega)
  have hrn : a % p ≠ 0 := fun h => ha (Int.dvd_of_emod_eq_zero h)
  obtain ⟨r, hr⟩ : ∃ r : Nat, a % p = r := ⟨(a % p).toNat, by omega⟩
  have hpr : ¬ p ∣ r := fun hd => by have := Nat.le_of_dvd (by omega) hd; omega
  have hg := gauss hp hh hpr
  have hE : prodI (sg p ((p - 1) / 2) r) ((p - 1) / 2) = 1 ∨ prodI (sg p ((p - 1) / 2) r) ((p - 1) / 2) = -1 := by
    rw [sg_hi]; split <;> simp
  have har : (p : Int) ∣ a ^ ((p - 1) / 2) - (r : Int) ^ ((p - 1) / 2) := by
    apply dvd_pow_sub
    rw [← hr]
    exact Int.dvd_self_sub_emod
  have hs : sy a p = prodI (sg p ((p - 1) / 2) r) ((p - 1) / 2) := by
    unfold sy
    rw [if_neg h2, if_neg hrn, hr, Int.toNat_natCast]
    have hiff : r ^ ((p - 1) / 2) % p = 1 → (p : Int) ∣ (r : Int) ^ ((p - 1) / 2) - 1 := by
      intro h
      have e := Nat.div_add_mod (r ^ ((p - 1) / 2)) p
      rw [h] at e
      refine ⟨((r ^ ((p - 1) / 2) / p : Nat) : Int), ?_⟩
      have := congrArg (fun z : Nat => (z : Int)) e
      simp only [Int.natCast_add, Int.natCast_mul, Int.natCast_pow] at this
      omega
    rcases hE with hE | hE
    · rw [hE] at hg ⊢
      rw [if_pos]
      obtain ⟨c, hc⟩ := hg
      have : ((r ^ ((p - 1) / 2) : Nat) : Int) % (p : Nat) = 1 := by
        rw [Int.natCast_pow]
        have : (r : Int) ^ ((p - 1) / 2) = 1 + p * c := by omega
        rw [this, Int.add_mul_emod_self_left]
        exact Int.emod_eq_of_lt (by omega) (by omega)
      rw [← Int.natCast_emod] at this
      omega
    · rw [hE] at hg ⊢
      rw [if_neg]
      intro h
      have := sign_unique hp3 (.inl rfl) (.inr rfl) (hiff h) hg
      omega
  rw [hs]
  refine ⟨hE, ?_⟩
  have := Int.dvd_add har hg
  have e : a ^ ((p - 1) / 2) - (r : Int) ^ ((p - 1) / 2) + ((r : Int) ^ ((p - 1) / 2) - prodI (sg p ((p - 1) / 2) r) ((p - 1) / 2)) = a ^ ((p - 1) / 2) - prodI (sg p ((p - 1) / 2) r) ((p - 1) / 2) := by omega
  rwa [e] at this

theorem sy_congr {a b : Int} {p : Nat} (h : a % p = b % p) (h8 : p = 2 → a % 8 = b % 8) : sy a p = sy b p := by
  unfold sy
  by_cases h2 : p = 2
  · rw [if_pos h2, if_pos h2, h8 h2]
  · rw [if_neg h2, if_neg h2, h]

theorem sy_mul {p : Nat} (hp : Pr p) (a b : Int) : sy (a * b) p = sy a p * sy b p := by
  by_cases h2 : p = 2
  · subst h2
    have key : ∀ x : Fin 8, ∀ y : Fin 8, (if (x.val * y.val) % 8 = 1 ∨ (x.val * y.val) % 8 = 7 then (1 : Int) else if (x.val * y.val) % 8 = 3 ∨ (x.val * y.val) % 8 = 5 then -1 else 0) =
        (if x.val = 1 ∨ x.val = 7 then (1 : Int) else if x.val = 3 ∨ x.val = 5 then -1 else 0) * (if y.val = 1 ∨ y.val = 7 then (1 : Int) else if y.val = 3 ∨ y.val = 5 then -1 else 0) := by decide
    unfold sy
    rw [if_pos rfl, if_pos rfl, if_pos rfl]
    have hx0 : 0 ≤ a % 8 := Int.emod_nonneg _ (by omega)
    have hx1 : a % 8 < 8 := Int.emod_lt_of_pos _ (by omega)
    have hy0 : 0 ≤ b % 8 := Int.emod_nonneg _ (by omega)
    have hy1 : b % 8 < 8 := Int.emod_lt_of_pos _ (by omega)
    have := key ⟨(a % 8).toNat, by omega⟩ ⟨(b % 8).toNat, by omega⟩
    obtain ⟨x, hx⟩ : ∃ x : Nat, a % 8 = x := ⟨(a % 8).toNat, by omega⟩
    obtain ⟨y, hy⟩ : ∃ y : Nat, b % 8 = y := ⟨(b % 8).toNat, by omega⟩
    have hxy : (a * b) % 8 = ((x * y % 8 : Nat) : Int) := by
      rw [Int.mul_emod, hx, hy]; simp
    simp only [hx, hy, Int.toNat_natCast] at this
    rw [hxy, hx, hy]
    have c : ∀ (z : Nat) (n : Nat), ((z : Int) = (n : Int)) ↔ z = n := fun z n => Int.ofNat_inj
    have c1 : ∀ z : Nat, ((z : Int) = 1) ↔ z = 1 := fun z => c z 1
    have c3 : ∀ z : Nat, ((z : Int) = 3) ↔ z = 3 := fun z => c z 3
    have c5 : ∀ z : Nat, ((z : Int) = 5) ↔ z = 5 := fun z => c z 5
    have c7 : ∀ z : Nat, ((z : Int) = 7) ↔ z = 7 := fun z => c z 7
    simp only [c1, c3, c5, c7]
    exact this
  · by_cases ha : (p : Int) ∣ a
    · rw [sy_zero h2 ha, sy_zero h2 (Int.dvd_mul_of_dvd_left ha), Int.zero_mul]
    · by_cases hb : (p : Int) ∣ b
      · rw [sy_zero h2 hb, sy_zero h2 (Int.dvd_mul_of_dvd_right hb), Int.mul_zero]
      · have hab : ¬ (p : Int) ∣ a * b := fun h => by
          rcases hp.dvd_mulI h with h | h
          · exact ha h
          · exact hb h
        obtain ⟨ra, da⟩ := sy_euler hp h2 ha
        obtain ⟨rb, db⟩ := sy_euler hp h2 hb
        obtain ⟨rab, dab⟩ := sy_euler hp h2 hab
        have hp3 : 3 ≤ p := by have := hp.1; omega
        refine sign_unique hp3 rab ?_ dab ?_
        · rcases ra with h | h <;> rcases rb with h' | h' <;> rw [h, h'] <;> simp
        · rw [Int.mul_pow]
          exact dvd_mul_sub da db

theorem sy_one {p : Nat} (hp : Pr p) : sy 1 p = 1 := by
  by_cases h2 : p = 2
  · subst h2; rfl
  · have hp3 : 3 ≤ p := by have := hp.1; omega
    have : ¬ (p : Int) ∣ 1 := fun h => by
      have := Int.natCast_dvd_natCast.1 (show (p : Int) ∣ ((1 : Nat) : Int) from h)
      exact hp.not_dvd_one this
    obtain ⟨r, d⟩ := sy_euler hp h2 this
    rw [Int.one_pow] at d
    exact (sign_unique hp3 (.inl rfl) r (by simp) d).symm

theorem sy_nat_eq {p a h : Nat} (hp : Pr p) (hh : p = 2 * h + 1) (ha : ¬ p ∣ a) : sy a p = prodI (sg p h a) h := by
  have h2 : p ≠ 2 := by omega
  have hp3 : 3 ≤ p := by have := hp.1; omega
  obtain ⟨r, d⟩ := sy_euler hp h2 (fun hd => ha (Int.natCast_dvd_natCast.1 hd))
  have e : (p - 1) / 2 = h := by omega
  rw [e] at d
  refine sign_unique hp3 r ?_ d (gauss hp hh ha)
  rw [sg_hi]; split <;> simp

/-- 1, or -1 if both are 3 modulo 4 -/
def eps (m n : Nat) : Int := if m % 4 = 3 ∧ n % 4 = 3 then -1 else 1

theorem qr {p q : Nat} (hp : Pr p) (hq : Pr q) (hne : p ≠ q) (hp2 : p ≠ 2) (hq2 : q ≠ 2) : sy q p * sy p q = eps p q := by
  have hh := odd_of_prime hp hp2
  have hg := odd_of_prime hq hq2
  generalize (p - 1) / 2 = h at *
  generalize (q - 1) / 2 = g at *
  have npq : ¬ p ∣ q := fun hd => hne (hp.eq_of_dvd hq hd)
  have nqp : ¬ q ∣ p := fun hd => hne (hq.eq_of_dvd hp hd).symm
  rw [sy_nat_eq hp hh npq, sy_nat_eq hq hg nqp, sg_hi, sg_hi, hi_sum hp hh npq (by omega), hi_sum hq hg nqp (by omega)]
  have hl := lattice hp hq hne hh hg
  generalize sumN (fun k => q * k / p) h = A at *
  generalize sumN (fun k => p * k / q) g = B at *
  have hpar : (h * g) % 2 = (h % 2) * (g % 2) := by
    rw [Nat.mul_mod]
    rcases Nat.mod_two_eq_zero_or_one h with e | e <;> rcases Nat.mod_two_eq_zero_or_one g with f | f <;> rw [e, f]
  have hsum : (A + B) % 2 = (h % 2) * (g % 2) := by rw [hl, hpar]
  unfold eps
  rcases Nat.mod_two_eq_zero_or_one h with e | e <;> rcases Nat.mod_two_eq_zero_or_one g with f | f <;> rw [e, f] at hsum <;> simp only [Nat.mul_zero, Nat.mul_one] at hsum
  · rw [if_neg (c := p % 4 = 3 ∧ q % 4 = 3) (by omega)]; split <;> split <;> first | rfl | omega
  · rw [if_neg (c := p % 4 = 3 ∧ q % 4 = 3) (by omega)]; split <;> split <;> first | rfl | omega
  · rw [if_neg (c := p % 4 = 3 ∧ q % 4 = 3) (by omega)]; split <;> split <;> first | rfl | omega
  · rw [if_pos (c := p % 4 = 3 ∧ q % 4 = 3) (by omega)]; split <;> split <;> first | rfl | omega

theorem eps_mul {m a b : Nat} (ha : a % 2 = 1) (hb : b % 2 = 1) : eps m (a * b) = eps m a * eps m b := by
  have e : (a * b) % 4 = ((a % 4) * (b % 4)) % 4 := Nat.mul_mod _ _ _
  have ha : a % 4 = 1 ∨ a % 4 = 3 := by omega
  have hb : b % 4 = 1 ∨ b % 4 = 3 := by omega
  unfold eps
  rcases ha with ha | ha <;> rcases hb with hb | hb <;> rw [ha, hb] at e <;> rw [ha, hb, e] <;> by_cases hm : m % 4 = 3 <;> simp [hm]

theorem eps_comm (m n : Nat) : eps m n = eps n m := by
  unfold eps; simp only [and_comm]

theorem odd_mul {a b : Nat} (h : (a * b) % 2 = 1) : a % 2 = 1 ∧ b % 2 = 1 := by
  rw [Nat.mul_mod] at h
  rcases Nat.mod_two_eq_zero_or_one a with e | e <;> rcases Nat.mod_two_eq_zero_or_one b with f | f <;> rw [e, f] at h <;> simp_all

theorem jr_top_one {n : Nat} {v : Int} (h : JR (sy 1) n v) : v = 1 := by
  induction h with
  | one => rfl
  | mul hp _ ih => rw [sy_one hp, ih]; rfl

/-- One of the two is a prime number. -/
theorem recip_prime {p : Nat} (hp : Pr p) (hp2 : p ≠ 2) {n : Nat} {v : Int} (h : JR (sy p) n v) : n % 2 = 1 → ¬ p ∣ n → v * sy n p = eps p n := by
  induction h with
  | one => intro _ _; rw [show ((1 : Nat) : Int) = 1 from rfl, sy_one hp]; unfold eps; simp
  | @mul q n v hq hn ih =>
    intro ho hd
    obtain ⟨oq, on⟩ := odd_mul ho
    have nq : p ≠ q := by rintro rfl; exact hd ⟨n, rfl⟩
    have nn : ¬ p ∣ n := fun h => hd (Nat.dvd_trans h ⟨q, Nat.mul_comm _ _⟩)
    rw [eps_mul oq on, ← ih on nn, Int.natCast_mul, sy_mul hp, ← qr hp hq nq hp2 (by omega)]
    grind

theorem recip {n : Nat} {m : Nat} {w : Int} (h : JR (sy n) m w) : ∀ {v : Int}, JR (sy m) n v → m % 2 = 1 → n % 2 = 1 → Nat.Coprime m n → v * w = eps m n := by
  induction h with
  | one =>
    intro v hv _ _ _
    rw [show ((1 : Nat) : Int) = 1 from rfl] at hv
    rw [jr_top_one hv]; unfold eps; simp
  | @mul p m w hp hm ih =>
    intro v hv om on hc
    obtain ⟨op, om⟩ := odd_mul om
    have hp2 : p ≠ 2 := by omega
    have cp : ¬ p ∣ n := fun hd => by
      have h1 := Nat.dvd_gcd (Nat.dvd_mul_right p m) hd
      rw [hc] at h1
      exact hp.not_dvd_one h1
    have cm : Nat.Coprime m n := Nat.Coprime.coprime_dvd_left ⟨p, Nat.mul_comm _ _⟩ hc
    obtain ⟨v1, h1⟩ := JR.exists (s := sy p) n n (Nat.le_refl _) (by omega)
    obtain ⟨v2, h2⟩ := JR.exists (s := sy m) n n (Nat.le_refl _) (by omega)
    have e : v = v1 * v2 := by
      refine hv.fn ((h1.mulFn h2).congr fun q hq _ => ?_)
      rw [Int.natCast_mul, sy_mul hq]
    have r1 := recip_prime hp hp2 h1 on cp
    have r2 := ih h2 om on cm
    rw [e, eps_comm, eps_mul op om, eps_comm n p, eps_comm n m, ← r1, ← r2]
    grind

end Go.Proofs.Ytbchgegclgpdhaa.Num
