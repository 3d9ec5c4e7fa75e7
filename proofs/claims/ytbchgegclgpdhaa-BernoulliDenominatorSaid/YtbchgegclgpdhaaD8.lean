/- Laws of the reference's rational numbers, on `mkQ q`. -/
import Derived.Test.YtbchgegclgpdhaaD7
namespace Go.Proofs.Ytbchgegclgpdhaa.V
open Go Go.Proofs.Ytbchgegclgpdhaa.E Go.Proofs.Ytbchgegclgpdhaa.LI
set_option linter.unusedVariables false
set_option linter.unusedSimpArgs false

section
variable {n : Nat}
theorem rnew_pos {a b : Int} (ha : Bd n a) (hb : Bd n b) (hn : n ≤ 1000000000) (h0 : 0 < b) (u v : List Int) : quadformref02_New.j2 (mkI a).1 (mkI a).2.1 (mkI b).1 (mkI b).2.1 u v = some (mkQ (Rat.divInt a b), true, ()) := by
  have hg : Bd n ((Int.gcd a b : Nat) : Int) := by
    have := Int.gcd_le_natAbs_right a (show b ≠ 0 by omega)
    unfold Bd at *
    rw [Int.natAbs_natCast]
    omega
  have hg0 : ((Int.gcd a b : Nat) : Int) ≠ 0 := by
    have := Int.gcd_pos_of_ne_zero_right a (show b ≠ 0 by omega)
    omega
  unfold quadformref02_New.j2
  simp only [etaI]
  rw [rgcdI ha hb hn, Option.bind_some, rquoI ha hg hn hg0, Option.bind_some, rquoI hb hg hn hg0, Option.bind_some]
  have e1 : (Rat.divInt a b).num = a / ((Int.gcd a b : Nat) : Int) := by rw [Rat.num_divInt, Int.sign_eq_one_of_pos h0, Int.one_mul, Int.gcd_comm]
  have e2 : (((Rat.divInt a b).den : Nat) : Int) = b / ((Int.gcd a b : Nat) : Int) := by
    rw [Rat.den_divInt, if_neg (by omega), Int.gcd_comm, Int.natCast_ediv]
    congr 1
    omega
  unfold mkQ
  rw [e1, e2]
theorem rnew {a b : Int} (ha : Bd n a) (hb : Bd n b) (hn : n ≤ 1000000000) (h0 : b ≠ 0) : quadformref02_New (mkI a) (mkI b) = some (mkQ (Rat.divInt a b), true, ()) := by
  unfold quadformref02_New
  simp only [etaI]
  rw [rsignI hb hn, Option.bind_some]
  simp only [quadformref02_New.j1, cite, beq_iff_eq, decide_eq_true_eq, etaI]
  rw [if_neg (by rw [if_neg h0]; split <;> decide), rsignI hb hn, Option.bind_some]
  by_cases hneg : b < 0
  · rw [if_pos (by rw [if_neg h0, if_pos hneg]; decide), rnegI ha hn, Option.bind_some, rnegI hb hn, Option.bind_some, rnew_pos ha.neg hb.neg hn (by omega), Rat.neg_divInt_neg]
  · rw [if_neg (by rw [if_neg h0, if_neg hneg]; decide), rnew_pos ha hb hn (by omega)]
theorem rnew0 (a : Int) : quadformref02_New (mkI a) (mkI 0) = some (zQ, false, ()) := by
  unfold quadformref02_New
  simp only [etaI]
  rw [rsignI (n := 1) (a := 0) (by unfold Bd; decide) (by decide), Option.bind_some]
  rfl
theorem rwhole {a : Int} (ha : Bd n a) (hn : n ≤ 1000000000) : quadformref02_Whole (mkI a) = some (mkQ (a : Rat)) := by
  unfold quadformref02_Whole
  simp only [etaI]
  rw [rnormI ha hn, Option.bind_some, rsmall_ok (by decide) (by decide), Option.bind_some]
  rfl
theorem rsmallQ {a : Int} (h : -9223372036854775808 ≤ a) (h' : a ≤ 9223372036854775807) : quadformref02_Small a = some (mkQ (a : Rat)) := by
  unfold quadformref02_Small
  rw [rsmall_ok h h', Option.bind_some]
  simp only [etaI, etaQ]
  rw [rwhole (Bd.i64 h h') (by decide), Option.bind_some]
theorem rnormalize {q : Rat} (h : BQ n q) (hn : n ≤ 1000000000) : quadformref02_Normalize (mkQ q) = some (mkQ q) := by
  have hp := den_pos q
  unfold quadformref02_Normalize
  simp only [etaI, etaQ, mkQ_1, mkQ_2]
  rw [rnew h.1 h.den hn (by omega), Option.bind_some, Rat.num_divInt_den]
  rfl
theorem rnegQ {q : Rat} (h : BQ n q) (hn : n ≤ 1000000000) : quadformref02_Neg (mkQ q) = some (mkQ (-q)) := by
  unfold quadformref02_Neg
  simp only [etaI, etaQ]
  rw [rnormalize h hn, Option.bind_some]
  simp only [mkQ_1, mkQ_2]
  rw [rnegI h.1 hn, Option.bind_some]
  rfl
theorem raddQ {m : Nat} {a b : Rat} (h : BQ n a) (h' : BQ m b) (hn : n + m + 1 ≤ 1000000000) : quadformref02_Add (mkQ a) (mkQ b) = some (mkQ (a + b)) := by
  have hp := den_pos a
  have hp' := den_pos b
  unfold quadformref02_Add
  simp only [etaI, etaQ]
  rw [rnormalize h (by omega), Option.bind_some, rnormalize h' (by omega), Option.bind_some]
  simp only [mkQ_1, mkQ_2]
  rw [rmulI (n := n + m) (h.1.mono (by omega)) (h'.den.mono (by omega)) (by omega), Option.bind_some, rmulI (n := n + m) (h'.1.mono (by omega)) (h.den.mono (by omega)) (by omega), Option.bind_some, raddI (n := n + m) (h.1.mul h'.den) ((h'.1.mul h.den).mono (by omega)) (by omega), Option.bind_some, rmulI (n := n + m) (h.den.mono (by omega)) (h'.den.mono (by omega)) (by omega), Option.bind_some, rnew (n := n + m + 1) (Bd.add (h.1.mul h'.den) ((h'.1.mul h.den).mono (by omega))) ((h.den.mul h'.den).mono (by omega)) (by omega) (Int.mul_ne_zero (by omega) (by omega)), Option.bind_some, ← add_divInt]
theorem rsubQ {m : Nat} {a b : Rat} (h : BQ n a) (h' : BQ m b) (hn : n + m + 1 ≤ 1000000000) : quadformref02_Sub (mkQ a) (mkQ b) = some (mkQ (a - b)) := by
  unfold quadformref02_Sub
  simp only [etaI, etaQ]
  rw [rnegQ h' (by omega), Option.bind_some, raddQ h h'.neg hn, Option.bind_some, Rat.sub_eq_add_neg]
theorem rmulQ {m : Nat} {a b : Rat} (h : BQ n a) (h' : BQ m b) (hn : n + m ≤ 1000000000) : quadformref02_Mul (mkQ a) (mkQ b) = some (mkQ (a * b)) := by
  have hp := den_pos a
  have hp' := den_pos b
  unfold quadformref02_Mul
  simp only [etaI, etaQ]
  rw [rnormalize h (by omega), Option.bind_some, rnormalize h' (by omega), Option.bind_some]
  simp only [mkQ_1, mkQ_2]
  rw [rmulI (n := n + m) (h.1.mono (by omega)) (h'.1.mono (by omega)) (by omega), Option.bind_some, rmulI (n := n + m) (h.den.mono (by omega)) (h'.den.mono (by omega)) (by omega), Option.bind_some, rnew (n := n + m) (h.1.mul h'.1) (h.den.mul h'.den) (by omega) (Int.mul_ne_zero (by omega) (by omega)), Option.bind_some, ← mul_divInt]
theorem rquoQ {m : Nat} {a b : Rat} (h : BQ n a) (h' : BQ m b) (hn : n + m ≤ 1000000000) (h0 : b ≠ 0) : quadformref02_Quo (mkQ a) (mkQ b) = some (mkQ (a / b), true, ()) := by
  have hp := den_pos a
  have hp' := den_pos b
  unfold quadformref02_Quo
  simp only [etaI, etaQ]
  rw [rnormalize h (by omega), Option.bind_some, rnormalize h' (by omega), Option.bind_some]
  simp only [mkQ_1, mkQ_2]
  rw [rmulI (n := n + m) (h.1.mono (by omega)) (h'.den.mono (by omega)) (by omega), Option.bind_some, rmulI (n := n + m) (h.den.mono (by omega)) (h'.1.mono (by omega)) (by omega), Option.bind_some, rnew (n := n + m) (h.1.mul h'.den) (h.den.mul h'.1) (by omega) (Int.mul_ne_zero (by omega) (num_ne h0)), Option.bind_some, ← div_divInt]
theorem rsignQ {q : Rat} (h : BQ n q) (hn : n ≤ 1000000000) : quadformref02_Sign (mkQ q) = some (if q = 0 then 0 else if q < 0 then -1 else 1) := by
  unfold quadformref02_Sign
  simp only [etaI, etaQ]
  rw [rnormalize h hn, Option.bind_some]
  simp only [mkQ_1]
  rw [rsignI h.1 hn, Option.bind_some, sgn_rat]
theorem rcmpQ {m : Nat} {a b : Rat} (h : BQ n a) (h' : BQ m b) (hn : n + m + 1 ≤ 1000000000) : quadformref02_Cmp (mkQ a) (mkQ b) = some (if a - b = 0 then 0 else if a - b < 0 then -1 else 1) := by
  unfold quadformref02_Cmp
  simp only [etaI, etaQ]
  rw [rsubQ h h' hn, Option.bind_some, rsignQ (n := n + m + 1) (by rw [Rat.sub_eq_add_neg]; exact h.add h'.neg) hn, Option.bind_some]
theorem rcmpQ0 {m : Nat} {a b : Rat} (h : BQ n a) (h' : BQ m b) (hn : n + m + 1 ≤ 1000000000) (he : a = b) : quadformref02_Cmp (mkQ a) (mkQ b) = some 0 := by
  rw [rcmpQ h h' hn, he, Rat.sub_self, if_pos rfl]
theorem rsameQ {a b : Rat} (h : BQ n a) (hn : n ≤ 1000000000) : quadformref02_Same (mkQ a) (mkQ b) = some (decide (a = b)) := by
  unfold quadformref02_Same
  simp only [etaI, mkQ_1, mkQ_2]
  rw [rsameI h.1 hn, Option.bind_some]
  simp only [cite, decide_eq_true_eq]
  by_cases h1 : a.num = b.num
  · rw [if_pos h1, rsameI h.den hn, Option.bind_some]
    congr 1
    rw [decide_eq_decide]
    exact ⟨fun h2 => Rat.ext h1 (by omega), fun h2 => by rw [h2]⟩
  · rw [if_neg h1]
    congr 1
    symm
    exact decide_eq_false (fun h => h1 (by rw [h]))
theorem zsame : quadformref02_Same zQ zQ = some true := by
  have h := rsameI (n := 1) (a := 0) (b := 0) (by unfold Bd; decide) (by decide)
  have h' : quadformref01_Same (false, ([], ())) (false, ([], ())) = some true := h
  unfold quadformref02_Same zQ
  simp only [etaI]
  rw [h', Option.bind_some, cond_true, Option.bind_some]
theorem rpowQ {k : Nat} {q : Rat} (h : BQ n q) (hn : n ≤ 10000) (hk : k ≤ 64) : quadformref02_Pow (mkQ q) (k : Int) = some (mkQ (q ^ k), true, ()) := by
  unfold quadformref02_Pow
  simp only [quadformref02_Pow.j1, quadformref02_Pow.j3, cite, decide_eq_true_eq, etaI, etaQ]
  rw [if_neg (by omega), if_neg (by omega), rnormalize h (by omega), Option.bind_some, if_neg (by omega)]
  simp only [mkQ_1, mkQ_2]
  rw [rpowI h.1 hn hk, Option.bind_some, rpowI h.den hn hk, Option.bind_some]
  have e1 : (q ^ k).num = q.num ^ k := Rat.num_pow q k
  have e2 : (((q ^ k).den : Nat) : Int) = (q.den : Int) ^ k := by rw [Rat.den_pow, Int.natCast_pow]
  unfold mkQ
  rw [e1, e2]
theorem rpowQ_neg {k : Nat} {q : Rat} (h : BQ n q) (h0 : q ≠ 0) (hn : n ≤ 5000) (hk : k ≤ 64) (hk0 : 0 < k) : quadformref02_Pow (mkQ q) (-(k : Int)) = some (mkQ ((1 / q) ^ k), true, ()) := by
  have hb1 : BQ 1 (1 : Rat) := BQ.int (z := 1) (by unfold Bd; decide) (by decide)
  have hd : BQ (1 + n) (1 / q) := hb1.div h
  have hw : IntKind.wrap .i64 (0 - -(k : Int)) = (k : Int) := by rw [wi64 (by omega) (by omega)]; omega
  unfold quadformref02_Pow
  simp only [quadformref02_Pow.j1, quadformref02_Pow.j2, quadformref02_Pow.j3, cite, decide_eq_true_eq, etaI, etaQ]
  rw [if_neg (by omega), if_neg (by omega), rnormalize h (by omega), Option.bind_some, if_pos (by omega), rsmallQ (by decide) (by decide), Option.bind_some, show ((1 : Int) : Rat) = 1 from rfl, rquoQ hb1 h (by omega) h0, Option.bind_some]
  simp only [Bool.not_true, Bool.false_eq_true, if_false, mkQ_1, mkQ_2]
  rw [hw, rpowI hd.1 (by omega) hk, Option.bind_some, rpowI hd.den (by omega) hk, Option.bind_some]
  have e1 : ((1 / q) ^ k).num = (1 / q).num ^ k := Rat.num_pow _ k
  have e2 : ((((1 / q) ^ k).den : Nat) : Int) = ((1 / q).den : Int) ^ k := by rw [Rat.den_pow, Int.natCast_pow]
  unfold mkQ
  rw [e1, e2]
end
end Go.Proofs.Ytbchgegclgpdhaa.V
