/- Prime numbers, factor lists, and what is multiplicative over them. -/
namespace Go.Proofs.Ytbchgegclgpdhaa.Num

def Pr (p : Nat) : Prop := 2 ≤ p ∧ ∀ d, d ∣ p → d = 1 ∨ d = p

theorem Pr.coprime {p a : Nat} (hp : Pr p) (h : ¬ p ∣ a) : Nat.Coprime p a := by
  rcases hp.2 (Nat.gcd p a) (Nat.gcd_dvd_left _ _) with h1 | h1
  · exact h1
  · exact absurd (h1 ▸ Nat.gcd_dvd_right p a) h

theorem Pr.dvd_mul {p a b : Nat} (hp : Pr p) (h : p ∣ a * b) : p ∣ a ∨ p ∣ b := by
  by_cases ha : p ∣ a
  · exact .inl ha
  · exact .inr ((hp.coprime ha).dvd_of_dvd_mul_left h)

theorem Pr.not_dvd_one {p : Nat} (hp : Pr p) : ¬ p ∣ 1 := by
  intro h
  have := Nat.le_of_dvd (by omega) h
  have := hp.1
  omega

theorem Pr.dvd_pow {p a : Nat} (hp : Pr p) : ∀ n, p ∣ a ^ n → p ∣ a
  | 0, h => absurd (by simpa using h) hp.not_dvd_one
  | n + 1, h => by
    rw [Nat.pow_succ] at h
    rcases hp.dvd_mul h with h | h
    · exact hp.dvd_pow n h
    · exact h

theorem Pr.eq_of_dvd {p q : Nat} (hp : Pr p) (hq : Pr q) (h : p ∣ q) : p = q := by
  rcases hq.2 p h with h | h
  · have := hp.1; omega
  · exact h

theorem pr_of_noDiv {n c : Nat} (hn : 2 ≤ n) (h : ∀ q, 2 ≤ q → q ∣ n → q < n → c ≤ q) (hc : n < c * c) : Pr n := by
  refine ⟨hn, fun d hd => ?_⟩
  obtain ⟨e, he⟩ := hd
  by_cases h1 : d = 1
  · exact .inl h1
  by_cases h2 : d = n
  · exact .inr h2
  exfalso
  have hd0 : d ≠ 0 := by rintro rfl; simp at he; omega
  have he0 : e ≠ 0 := by rintro rfl; simp at he; omega
  have he1 : e ≠ 1 := by rintro rfl; simp at he; omega
  have hdn : d < n := by
    have : d ≤ n := by rw [he]; exact Nat.le_mul_of_pos_right _ (by omega)
    omega
  have hen : e < n := by
    have : e ≤ n := by rw [he]; exact Nat.le_mul_of_pos_left _ (by omega)
    by_cases q : e = n
    · exfalso
      have h3 : d * e = 1 * e := by rw [← he, q]; omega
      have := Nat.eq_of_mul_eq_mul_right (by omega) h3
      omega
    · omega
  have a := h d (by omega) ⟨e, he⟩ hdn
  have b := h e (by omega) ⟨d, by rw [he, Nat.mul_comm]⟩ hen
  have := Nat.mul_le_mul a b
  omega

theorem pr_of_least {n c : Nat} (hc : 2 ≤ c) (hd : c ∣ n) (h : ∀ q, 2 ≤ q → q ∣ n → c ≤ q) : Pr c := by
  refine ⟨hc, fun d hdc => ?_⟩
  by_cases h1 : d = 1
  · exact .inl h1
  have hd0 : d ≠ 0 := by rintro rfl; simp at hdc; omega
  have a := h d (by omega) (Nat.dvd_trans hdc hd)
  have b := Nat.le_of_dvd (by omega) hdc
  exact .inr (by omega)

theorem exists_prime (n : Nat) (h2 : 2 ≤ n) : ∃ p, Pr p ∧ p ∣ n := by
  have : ∀ M k, k ≤ M → 2 ≤ k → ∃ p, Pr p ∧ p ∣ k := by
    intro M
    induction M with
    | zero => intro k _ _; omega
    | succ M ihM =>
      intro k hk hk2
      by_cases hp : Pr k
      · exact ⟨k, hp, Nat.dvd_refl _⟩
      · have : ∃ d, d ∣ k ∧ d ≠ 1 ∧ d ≠ k := by
          apply Classical.byContradiction
          intro hno
          refine hp ⟨hk2, fun d hd => ?_⟩
          apply Classical.byContradiction
          intro hor
          exact hno ⟨d, hd, fun e => hor (.inl e), fun e => hor (.inr e)⟩
        obtain ⟨d, hd, hd1, hdk⟩ := this
        have hle := Nat.le_of_dvd (by omega) hd
        have hd0 : d ≠ 0 := by rintro rfl; simp at hd; omega
        obtain ⟨p, hp, hpd⟩ := ihM d (by omega) (by omega)
        exact ⟨p, hp, Nat.dvd_trans hpd hd⟩
  exact this n n (Nat.le_refl _) h2

/-! ## factor lists -/
/-- `L` is the list of the prime powers of `n`, ascending, all primes above `lo`. -/
def Fac : Nat → Nat → List (Nat × Nat) → Prop
  | _, n, [] => n = 1
  | lo, n, (p, e) :: L => lo < p ∧ Pr p ∧ 1 ≤ e ∧ ∃ m, n = p ^ e * m ∧ Fac p m L

theorem Fac.pos : ∀ {L : List (Nat × Nat)} {lo n : Nat}, Fac lo n L → 1 ≤ n
  | [], _, _, h => by simp only [Fac] at h; omega
  | (p, e) :: L, _, _, h => by
    obtain ⟨_, hp, _, m, rfl, hm⟩ := h
    have := hm.pos
    have h2 : 0 < p ^ e := Nat.pow_pos (by have := hp.1; omega)
    exact Nat.mul_pos h2 (by omega)

theorem Fac.gt : ∀ {L : List (Nat × Nat)} {lo n q : Nat}, Fac lo n L → Pr q → q ∣ n → lo < q
  | [], _, _, _, h, hq, hd => by simp only [Fac] at h; subst h; exact absurd hd hq.not_dvd_one
  | (p, e) :: L, lo, n, q, h, hq, hd => by
    obtain ⟨hlo, hp, _, m, rfl, hm⟩ := h
    rcases hq.dvd_mul hd with hd | hd
    · have := hq.eq_of_dvd hp (hq.dvd_pow _ hd)
      omega
    · have := hm.gt hq hd
      omega

theorem Fac.mono : ∀ {L : List (Nat × Nat)} {lo lo' n : Nat}, Fac lo n L → lo' ≤ lo → Fac lo' n L
  | [], _, _, _, h, _ => h
  | (p, e) :: L, _, _, _, h, hl => by
    obtain ⟨h1, h2⟩ := h
    exact ⟨by omega, h2⟩

theorem Fac.unique : ∀ {L L' : List (Nat × Nat)} {lo lo' n : Nat}, Fac lo n L → Fac lo' n L' → L = L'
  | [], [], _, _, _, _, _ => rfl
  | [], (p, e) :: L', _, _, n, h, h' => by
    exfalso
    simp only [Fac] at h
    obtain ⟨_, hp, he, m, hn, _⟩ := h'
    subst h
    refine hp.not_dvd_one ⟨p ^ (e - 1) * m, ?_⟩
    rw [hn, ← Nat.mul_assoc, ← Nat.pow_succ']
    congr 2; omega
  | (p, e) :: L, [], _, _, n, h', h => by
    exfalso
    simp only [Fac] at h
    obtain ⟨_, hp, he, m, hn, _⟩ := h'
    subst h
    refine hp.not_dvd_one ⟨p ^ (e - 1) * m, ?_⟩
    rw [hn, ← Nat.mul_assoc, ← Nat.pow_succ']
    congr 2; omega
  | (p, e) :: L, (q, f) :: L', lo, lo', n, h, h' => by
    obtain ⟨h1, hp, he, m, hn, hm⟩ := h
    obtain ⟨h1', hq, hf, m', hn', hm'⟩ := h'
    have dp : p ∣ p ^ e := ⟨p ^ (e - 1), by rw [← Nat.pow_succ']; congr 1; omega⟩
    have dq : q ∣ q ^ f := ⟨q ^ (f - 1), by rw [← Nat.pow_succ']; congr 1; omega⟩
    have a : q ≤ p := by
      have hd : p ∣ q ^ f * m' := by rw [← hn', hn]; exact Nat.dvd_trans dp (Nat.dvd_mul_right _ _)
      rcases hp.dvd_mul hd with hd | hd
      · have := hp.eq_of_dvd hq (hp.dvd_pow _ hd); omega
      · have := hm'.gt hp hd; omega
    have b : p ≤ q := by
      have hd : q ∣ p ^ e * m := by rw [← hn, hn']; exact Nat.dvd_trans dq (Nat.dvd_mul_right _ _)
      rcases hq.dvd_mul hd with hd | hd
      · have := hq.eq_of_dvd hp (hq.dvd_pow _ hd); omega
      · have := hm.gt hq hd; omega
    have hpq : p = q := by omega
    subst hpq
    have nm : ¬ p ∣ m := fun hd => by have := hm.gt hp hd; omega
    have nm' : ¬ p ∣ m' := fun hd => by have := hm'.gt hp hd; omega
    have hp0 : 0 < p := by have := hp.1; omega
    have heq : p ^ e * m = p ^ f * m' := by omega
    have hef : e = f := by
      rcases Nat.lt_trichotomy e f with hlt | hlt | hlt
      · exfalso
        have : p ^ f = p ^ e * p ^ (f - e) := by rw [← Nat.pow_add]; congr 1; omega
        rw [this, Nat.mul_assoc] at heq
        have hm2 := Nat.eq_of_mul_eq_mul_left (Nat.pow_pos hp0) heq
        refine nm ⟨p ^ (f - e - 1) * m', ?_⟩
        rw [hm2, ← Nat.mul_assoc, ← Nat.pow_succ']
        congr 2; omega
      · exact hlt
      · exfalso
        have : p ^ e = p ^ f * p ^ (e - f) := by rw [← Nat.pow_add]; congr 1; omega
        rw [this, Nat.mul_assoc] at heq
        have hm2 := Nat.eq_of_mul_eq_mul_left (Nat.pow_pos hp0) heq
        refine nm' ⟨p ^ (e - f - 1) * m, ?_⟩
        rw [← hm2, ← Nat.mul_assoc, ← Nat.pow_succ']
        congr 2; omega
    subst hef
    have hmm : m = m' := Nat.eq_of_mul_eq_mul_left (Nat.pow_pos hp0) heq
    subst hmm
    rw [hm.unique hm']

theorem Fac.two_pow_le : ∀ {L : List (Nat × Nat)} {lo n : Nat}, Fac lo n L → 2 ^ L.length ≤ n
  | [], _, _, h => by simp only [Fac] at h; simp [h]
  | (p, e) :: L, _, _, h => by
    obtain ⟨_, hp, he, m, rfl, hm⟩ := h
    have := hm.two_pow_le
    have h2 : 2 ^ 1 ≤ p ^ e := Nat.le_trans (Nat.pow_le_pow_right (by omega) he) (Nat.pow_le_pow_left hp.1 e)
    rw [List.length_cons, Nat.pow_succ, Nat.mul_comm]
    exact Nat.mul_le_mul h2 this

theorem Fac.mem : ∀ {L : List (Nat × Nat)} {lo n : Nat}, Fac lo n L → ∀ x ∈ L, Pr x.1 ∧ 1 ≤ x.2 ∧ x.1 ^ x.2 ∣ n ∧ lo < x.1
  | [], _, _, _ => by simp
  | (p, e) :: L, lo, n, h => by
    obtain ⟨h1, hp, he, m, rfl, hm⟩ := h
    intro x hx
    rcases List.mem_cons.1 hx with rfl | hx
    · exact ⟨hp, he, ⟨m, rfl⟩, h1⟩
    · obtain ⟨a, b, c, d⟩ := hm.mem x hx
      exact ⟨a, b, Nat.dvd_trans c ⟨p ^ e, Nat.mul_comm _ _⟩, by omega⟩

theorem Fac.raise : ∀ {L : List (Nat × Nat)} {lo lo' n : Nat}, Fac lo n L → (∀ q, Pr q → q ∣ n → lo' < q) → Fac lo' n L
  | [], _, _, _, h, _ => h
  | (p, e) :: L, _, _, n, h, hq => by
    obtain ⟨_, hp, he, m, hn, hm⟩ := h
    refine ⟨hq p hp ?_, hp, he, m, hn, hm⟩
    rw [hn]
    exact Nat.dvd_trans ⟨p ^ (e - 1), by rw [← Nat.pow_succ']; congr 1; omega⟩ (Nat.dvd_mul_right _ _)

theorem exists_strip {d : Nat} (hd : 2 ≤ d) : ∀ (N n : Nat), n ≤ N → 1 ≤ n → ∃ f m, n = d ^ f * m ∧ ¬ d ∣ m ∧ 1 ≤ m ∧ (d ∣ n → 1 ≤ f)
  | 0, n, h1, h2 => by omega
  | N + 1, n, h1, h2 => by
    by_cases h : d ∣ n
    · obtain ⟨m, rfl⟩ := h
      have hm1 : 1 ≤ m := by
        rcases Nat.eq_zero_or_pos m with rfl | h
        · simp at h2
        · exact h
      have : 2 * m ≤ d * m := Nat.mul_le_mul_right m hd
      obtain ⟨f, m', hm, hn, h1', _⟩ := exists_strip hd N m (by omega) hm1
      refine ⟨f + 1, m', ?_, hn, h1', fun _ => by omega⟩
      rw [Nat.pow_succ', Nat.mul_assoc, ← hm]
    · exact ⟨0, n, by simp, h, h2, fun hd => absurd hd h⟩

/-! ## functions over prime factors with multiplicity -/
inductive JR (s : Nat → Int) : Nat → Int → Prop
  | one : JR s 1 1
  | mul {p n : Nat} {v : Int} : Pr p → JR s n v → JR s (p * n) (s p * v)

theorem JR.pos {s : Nat → Int} {n : Nat} {v : Int} (h : JR s n v) : 1 ≤ n := by
  induction h with
  | one => exact Nat.le_refl _
  | mul hp _ ih => exact Nat.mul_pos (by have := hp.1; omega) ih

theorem JR.div {s : Nat → Int} {n : Nat} {v : Int} (h : JR s n v) {q : Nat} (hq : Pr q) : q ∣ n → ∃ m v', n = q * m ∧ JR s m v' ∧ v = s q * v' := by
  induction h with
  | one => exact fun h => absurd h hq.not_dvd_one
  | @mul p n v hp hn ih =>
    intro hd
    by_cases hqp : q = p
    · subst hqp; exact ⟨n, v, rfl, hn, rfl⟩
    · rcases hq.dvd_mul hd with hd | hd
      · exact absurd (hq.eq_of_dvd hp hd) hqp
      · obtain ⟨m, v', rfl, hm, rfl⟩ := ih hd
        refine ⟨p * m, s p * v', ?_, .mul hp hm, ?_⟩
        · rw [← Nat.mul_assoc, ← Nat.mul_assoc, Nat.mul_comm p q]
        · rw [← Int.mul_assoc, ← Int.mul_assoc, Int.mul_comm (s p)]

theorem JR.fn {s : Nat → Int} {n : Nat} {v : Int} (h : JR s n v) : ∀ {v' : Int}, JR s n v' → v = v' := by
  induction h with
  | one =>
    intro v' h'
    generalize hn : 1 = n at h'
    cases h' with
    | one => rfl
    | @mul p n v hp h2 => exact absurd ⟨n, hn⟩ hp.not_dvd_one
  | @mul p n v hp hn ih =>
    intro v' h'
    obtain ⟨m, w, hm, hw, rfl⟩ := h'.div hp ⟨n, rfl⟩
    have : n = m := Nat.eq_of_mul_eq_mul_left (by have := hp.1; omega) hm
    subst this
    rw [ih hw]

theorem JR.times {s : Nat → Int} {m : Nat} {v : Int} (h : JR s m v) {n : Nat} {w : Int} (h' : JR s n w) : JR s (m * n) (v * w) := by
  induction h with
  | one => simpa using h'
  | mul hp _ ih => rw [Nat.mul_assoc, Int.mul_assoc]; exact .mul hp ih

theorem JR.prime {s : Nat → Int} {p : Nat} (hp : Pr p) : JR s p (s p) := by
  have := JR.mul (s := s) hp JR.one
  simpa using this

theorem JR.pow {s : Nat → Int} {p : Nat} (hp : Pr p) : ∀ e, JR s (p ^ e) (s p ^ e)
  | 0 => by simpa using JR.one
  | e + 1 => by
    rw [Nat.pow_succ, Int.pow_succ]
    exact (JR.pow hp e).times (JR.prime hp)

/-- The value of a factor list. -/
def val (s : Nat → Int) : List (Nat × Nat) → Int
  | [] => 1
  | (p, e) :: L => s p ^ e * val s L

theorem Fac.jr {s : Nat → Int} : ∀ {L : List (Nat × Nat)} {lo n : Nat}, Fac lo n L → JR s n (val s L)
  | [], _, _, h => by simp only [Fac] at h; subst h; exact JR.one
  | (p, e) :: L, _, _, h => by
    obtain ⟨_, hp, _, m, rfl, hm⟩ := h
    exact (JR.pow hp e).times hm.jr

theorem JR.congr {s t : Nat → Int} {n : Nat} {v : Int} (h : JR s n v) : (∀ p, Pr p → p ∣ n → s p = t p) → JR t n v := by
  induction h with
  | one => exact fun _ => .one
  | @mul p n v hp hn ih =>
    intro hst
    rw [hst p hp ⟨n, rfl⟩]
    exact .mul hp (ih fun q hq hd => hst q hq (Nat.dvd_trans hd ⟨p, Nat.mul_comm _ _⟩))

theorem JR.mulFn {s t : Nat → Int} {n : Nat} {v : Int} (h : JR s n v) : ∀ {w : Int}, JR t n w → JR (fun p => s p * t p) n (v * w) := by
  induction h with
  | one =>
    intro w hw
    have := (JR.one (s := t)).fn hw
    subst this
    exact .one
  | @mul p n v hp hn ih =>
    intro w hw
    obtain ⟨m, w', hm, hw', rfl⟩ := hw.div hp ⟨n, rfl⟩
    have : n = m := Nat.eq_of_mul_eq_mul_left (by have := hp.1; omega) hm
    subst this
    have := JR.mul (s := fun p => s p * t p) hp (ih hw')
    have e : s p * t p * (v * w') = s p * v * (t p * w') := by grind
    rw [e] at this
    exact this

theorem JR.exists {s : Nat → Int} : ∀ (N n : Nat), n ≤ N → 1 ≤ n → ∃ v, JR s n v := by
  intro N
  induction N with
  | zero => intro n h1 h2; omega
  | succ N ih =>
    intro n h1 h2
    by_cases hn : n = 1
    · subst hn; exact ⟨1, .one⟩
    obtain ⟨p, hp, m, rfl⟩ := exists_prime n (by omega)
    have hm1 : 1 ≤ m := by
      rcases Nat.eq_zero_or_pos m with rfl | h
      · simp at h2
      · exact h
    have hlt : m < p * m := by
      have := Nat.mul_le_mul_right m hp.1
      omega
    obtain ⟨v, hv⟩ := ih m (by omega) hm1
    exact ⟨_, .mul hp hv⟩

end Go.Proofs.Ytbchgegclgpdhaa.Num
