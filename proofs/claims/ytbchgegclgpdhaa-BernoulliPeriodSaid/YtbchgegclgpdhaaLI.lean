/- Limbs: a magnitude as a list of words of 32 bits, the number that it denotes, and the canonical list of a number. -/
namespace Go.Proofs.Ytbchgegclgpdhaa.LI

/-- The number that a list of limbs denotes. -/
def lv : List Int → Nat
  | [] => 0
  | x :: r => x.toNat + 4294967296 * lv r
/-- Each limb has 32 bits. -/
def Lim (l : List Int) : Prop := ∀ x ∈ l, 0 ≤ x ∧ x < 4294967296
def limF : Nat → Nat → List Int
  | 0, _ => []
  | f + 1, n => if n = 0 then [] else ((n % 4294967296 : Nat) : Int) :: limF f (n / 4294967296)
/-- The canonical limbs of a number. -/
def limbs (n : Nat) : List Int := limF n n
/-- The digit at a place; 0 beyond the end. -/
def dg (l : List Int) (i : Nat) : Nat := (l.getD i 0).toNat

theorem limF_same : ∀ (f g n : Nat), n ≤ f → n ≤ g → limF f n = limF g n
  | 0, 0, _, _, _ => rfl
  | 0, g + 1, n, h, _ => by
    obtain rfl : n = 0 := by omega
    simp [limF]
  | f + 1, 0, n, _, h => by
    obtain rfl : n = 0 := by omega
    simp [limF]
  | f + 1, g + 1, n, h, h' => by
    by_cases h0 : n = 0
    · subst h0; simp [limF]
    · rw [limF, limF, if_neg h0, if_neg h0, limF_same f g (n / 4294967296) (by omega) (by omega)]
theorem limbs_zero : limbs 0 = [] := rfl
theorem limbs_pos {n : Nat} (h : n ≠ 0) : limbs n = ((n % 4294967296 : Nat) : Int) :: limbs (n / 4294967296) := by
  obtain ⟨m, rfl⟩ : ∃ m, n = m + 1 := ⟨n - 1, by omega⟩
  rw [limbs, limF, if_neg h, limF_same m ((m + 1) / 4294967296) _ (by omega) (by omega)]
  rfl

theorem Lim.nil : Lim [] := fun _ h => by cases h
theorem Lim.cons {x : Int} {l : List Int} (h : Lim (x :: l)) : (0 ≤ x ∧ x < 4294967296) ∧ Lim l := ⟨h x (by simp), fun y hy => h y (by simp [hy])⟩
theorem Lim.mk {x : Int} {l : List Int} (h : 0 ≤ x ∧ x < 4294967296) (h' : Lim l) : Lim (x :: l) := fun y hy => by
  rcases List.mem_cons.1 hy with rfl | hy
  · exact h
  · exact h' y hy
theorem Lim.append {a b : List Int} (h : Lim a) (h' : Lim b) : Lim (a ++ b) := fun y hy => by
  rcases List.mem_append.1 hy with hy | hy
  · exact h y hy
  · exact h' y hy
theorem Lim.take {l : List Int} (h : Lim l) (n : Nat) : Lim (l.take n) := fun y hy => h y (List.mem_of_mem_take hy)
theorem Lim.drop {l : List Int} (h : Lim l) (n : Nat) : Lim (l.drop n) := fun y hy => h y (List.mem_of_mem_drop hy)
theorem Lim.one {x : Int} (h : 0 ≤ x ∧ x < 4294967296) : Lim [x] := Lim.mk h Lim.nil
theorem Lim.at {l : List Int} (h : Lim l) (i : Nat) : 0 ≤ l.getD i 0 ∧ l.getD i 0 < 4294967296 := by
  by_cases hi : i < l.length
  · have : l.getD i 0 = l[i] := by simp [List.getD, hi]
    rw [this]
    exact h _ (List.getElem_mem hi)
  · have : l.getD i 0 = 0 := by simp [List.getD, Nat.le_of_not_lt hi]
    rw [this]
    omega
theorem Lim.set {l : List Int} (h : Lim l) (i : Nat) {x : Int} (hx : 0 ≤ x ∧ x < 4294967296) : Lim (l.set i x) := fun y hy => by
  rcases List.mem_or_eq_of_mem_set hy with hy | rfl
  · exact h y hy
  · exact hx
theorem Lim.replicate (n : Nat) : Lim (List.replicate n 0) := fun y hy => by
  have := (List.mem_replicate.1 hy).2
  omega
theorem dg_lt {l : List Int} (h : Lim l) (i : Nat) : dg l i < 4294967296 := by
  have := h.at i
  unfold dg
  omega
theorem dg_int {l : List Int} (h : Lim l) (i : Nat) : ((dg l i : Nat) : Int) = l.getD i 0 := by
  have := h.at i
  unfold dg
  omega
theorem dg_out {l : List Int} {i : Nat} (h : l.length ≤ i) : dg l i = 0 := by
  simp [dg, List.getD, h]

theorem lim_limbs (n : Nat) : Lim (limbs n) := by
  induction n using Nat.strongRecOn with
  | ind n ih =>
    by_cases h : n = 0
    · subst h; exact Lim.nil
    · rw [limbs_pos h]
      exact Lim.mk (by omega) (ih _ (by omega))
theorem lv_limbs (n : Nat) : lv (limbs n) = n := by
  induction n using Nat.strongRecOn with
  | ind n ih =>
    by_cases h : n = 0
    · subst h; rfl
    · rw [limbs_pos h, lv, ih _ (by omega)]
      omega
theorem limbs_nil {n : Nat} : limbs n = [] ↔ n = 0 := by
  constructor
  · intro h
    have := lv_limbs n
    rw [h] at this
    exact this.symm
  · rintro rfl; rfl
theorem limbs_len_pos {n : Nat} : 0 < (limbs n).length ↔ n ≠ 0 := by
  rw [List.length_pos_iff, ne_eq, limbs_nil]
theorem limbs_lv : ∀ {l : List Int}, Lim l → (∀ h : l ≠ [], l.getLast h ≠ 0) → limbs (lv l) = l
  | [], _, _ => rfl
  | x :: r, h, hl => by
    obtain ⟨hx, hr⟩ := h.cons
    by_cases h0 : r = []
    · subst h0
      have hx0 : x ≠ 0 := by simpa using hl (by simp)
      rw [lv, lv, limbs_pos (by omega), show (x.toNat + 4294967296 * 0) / 4294967296 = 0 from by omega, limbs_zero]
      congr 1
      omega
    · have ih := limbs_lv hr (fun h1 => by have := hl (by simp); rwa [List.getLast_cons h1] at this)
      have hv : lv r ≠ 0 := fun e => h0 (by rw [← ih, e]; rfl)
      rw [lv, limbs_pos (by omega), show (x.toNat + 4294967296 * lv r) / 4294967296 = lv r from by omega, ih]
      congr 1
      omega

theorem lv_append : ∀ (a b : List Int), lv (a ++ b) = lv a + 4294967296 ^ a.length * lv b
  | [], b => by simp [lv]
  | x :: a, b => by
    rw [List.cons_append, lv, lv, lv_append a b, List.length_cons, Nat.pow_succ]
    generalize 4294967296 ^ a.length = p
    rw [Nat.mul_add, Nat.mul_comm p 4294967296, Nat.mul_assoc]
    omega
theorem lv_one (x : Int) : lv [x] = x.toNat := by simp [lv]
theorem lv_lt : ∀ {l : List Int}, Lim l → lv l < 4294967296 ^ l.length
  | [], _ => by simp [lv]
  | x :: r, h => by
    have h1 := lv_lt h.cons.2
    have h2 := h.cons.1
    rw [lv, List.length_cons, Nat.pow_succ]
    omega
theorem lv_split (l : List Int) (i : Nat) (hi : i ≤ l.length) : lv l = lv (l.take i) + 4294967296 ^ i * lv (l.drop i) := by
  have h := lv_append (l.take i) (l.drop i)
  rwa [List.take_append_drop, List.length_take, Nat.min_eq_left hi] at h
theorem lv_take_succ (l : List Int) (i : Nat) : lv (l.take (i + 1)) = lv (l.take i) + 4294967296 ^ i * dg l i := by
  by_cases hi : i < l.length
  · rw [List.take_add_one, List.getElem?_eq_getElem hi, lv_append, List.length_take, Nat.min_eq_left (by omega)]
    simp [lv, dg, List.getD, hi]
  · rw [List.take_of_length_le (by omega), List.take_of_length_le (by omega), dg_out (by omega)]
    simp
theorem drop_dg {l : List Int} {i : Nat} (hi : i < l.length) : lv (l.drop i) = dg l i + 4294967296 * lv (l.drop (i + 1)) := by
  rw [List.drop_eq_getElem_cons hi, lv]
  simp [dg, List.getD, hi]
theorem lv_zeros (n : Nat) : lv (List.replicate n 0) = 0 := by
  induction n with
  | zero => rfl
  | succ n ih => rw [List.replicate_succ, lv, ih]; rfl
theorem limbs_len {m n : Nat} : (limbs n).length ≤ m ↔ n < 4294967296 ^ m := by
  constructor
  · intro h
    have h1 := lv_lt (lim_limbs n)
    rw [lv_limbs] at h1
    exact Nat.lt_of_lt_of_le h1 (Nat.pow_le_pow_right (by omega) h)
  · induction m generalizing n with
    | zero =>
      intro h
      obtain rfl : n = 0 := by simp at h; omega
      simp [limbs_zero]
    | succ m ih =>
      intro h
      by_cases h0 : n = 0
      · subst h0; simp [limbs_zero]
      · rw [limbs_pos h0, List.length_cons]
        have := @ih (n / 4294967296) (by rw [Nat.pow_succ] at h; omega)
        omega
/-- A digit out of the number. -/
theorem dg_lv {l : List Int} (h : Lim l) (i : Nat) : dg l i = lv l / 4294967296 ^ i % 4294967296 := by
  have hp : 0 < 4294967296 ^ i := Nat.pow_pos (by omega)
  by_cases hi : i < l.length
  · have h1 := lv_split l i (by omega)
    have h2 := drop_dg hi
    have h3 := lv_lt (h.take i)
    rw [List.length_take, Nat.min_eq_left (by omega)] at h3
    rw [h1, Nat.add_mul_div_left _ _ hp, Nat.div_eq_of_lt h3, h2]
    have := dg_lt h i
    omega
  · have h1 := lv_lt h
    have h2 := Nat.pow_le_pow_right (show 4294967296 > 0 by omega) (Nat.le_of_not_lt hi)
    rw [dg_out (by omega), Nat.div_eq_of_lt (by omega)]
/-- Equal but for one place. -/
theorem lv_set {l : List Int} {i : Nat} (hi : i < l.length) (d : Nat) : lv (l.set i ((dg l i + d : Nat) : Int)) = lv l + 4294967296 ^ i * d := by
  have h1 := lv_split l i (by omega)
  have h2 := lv_split (l.set i ((dg l i + d : Nat) : Int)) i (by simp; omega)
  have h3 := drop_dg hi
  have h4 := drop_dg (l := l.set i ((dg l i + d : Nat) : Int)) (i := i) (by simpa using hi)
  have h5 : dg (l.set i ((dg l i + d : Nat) : Int)) i = dg l i + d := by
    generalize dg l i + d = m
    simp only [dg, List.getD, List.getElem?_set_self hi, Option.getD_some, Int.toNat_natCast]
  have h6 : (l.set i ((dg l i + d : Nat) : Int)).drop (i + 1) = l.drop (i + 1) := List.drop_set_of_lt (by omega)
  rw [List.take_set_of_le (Nat.le_refl _)] at h2
  rw [h6, h5] at h4
  rw [h2, h4, h1, h3]
  grind

/-- What a sign and a magnitude denote, and what denotes a number. -/
def iv (neg : Bool) (l : List Int) : Int := if neg = true then -(lv l : Int) else lv l
def mk (z : Int) : Bool × List Int := (decide (z < 0), limbs z.natAbs)
theorem iv_mk (z : Int) : iv (mk z).1 (mk z).2 = z := by
  simp only [iv, mk, lv_limbs, decide_eq_true_eq]
  split <;> omega
theorem lim_mk (z : Int) : Lim (mk z).2 := lim_limbs _
theorem lv_mk (z : Int) : lv (mk z).2 = z.natAbs := lv_limbs _
theorem mk_inj {a b : Int} (h : mk a = mk b) : a = b := by rw [← iv_mk a, h, iv_mk]
theorem iv_natAbs (neg : Bool) (l : List Int) : (iv neg l).natAbs = lv l := by
  unfold iv
  split <;> omega
end Go.Proofs.Ytbchgegclgpdhaa.LI
