/- The same functions with fuel: for closed values (printed by gen.py). -/
import Derived.Test.YtgbndganadelpaaGreatDoorYLocalmassStandard16
import Derived.Test.YtgbndganadelpaaGreatDoorYLocalmassStandard12
namespace Go.Proofs.YtgbndganadelpaaGreatDoor.E
noncomputable section
open Go
set_option linter.unusedVariables false
set_option maxRecDepth 100000
def c_integer_trim.j1 (n : Nat) (t0 : List Int) (t3 : Int) : Option ((List Int × Int × Unit) ⊕ ((List Int × Int × Unit))) :=
  (some (.inl (t0, (IntKind.wrap .i64 (t3 - (1 : Int))), ())))
theorem c_integer_trim.j1.le (n : Nat) (t0 : List Int) (t3 : Int) : Le (c_integer_trim.j1 n t0 t3) (integer_trim.j1 t0 t3) := by
  unfold c_integer_trim.j1 integer_trim.j1
  try dsimp only
  with_reducible repeat' (first | exact Le.refl _ | apply Le.cond | (refine Le.bind ?_ (fun _ => ?_)) | (refine Le.iter (fun _ => ?_) _ _) | (refine Le.sum (fun _ => ?_) (fun _ => ?_) _))
def c_integer_trim.s0 (n : Nat) (t0 : List Int) (t3 : Int) : Option ((List Int × Int × Unit) ⊕ ((List Int × Int × Unit))) :=
  (cond ((decide (t3 > (0 : Int))))
  ((cond (inB (IntKind.wrap .i64 (t3 - (1 : Int))) (List.length t0))
  ((cond (((List.getD t0 (((IntKind.wrap .i64 (t3 - (1 : Int)))).toNat) (0 : Int)) == (0 : Int)))
  ((c_integer_trim.j1 n t0 t3))
  ((some (.inr (t0, t3, ()))))))
  none))
  ((some (.inr (t0, t3, ())))))
theorem c_integer_trim.s0.le (n : Nat) (t0 : List Int) (t3 : Int) : Le (c_integer_trim.s0 n t0 t3) (integer_trim.s0 t0 t3) := by
  unfold c_integer_trim.s0 integer_trim.s0
  try dsimp only
  with_reducible repeat' (first | exact Le.refl _ | apply c_integer_trim.j1.le | apply Le.cond | (refine Le.bind ?_ (fun _ => ?_)) | (refine Le.iter (fun _ => ?_) _ _) | (refine Le.sum (fun _ => ?_) (fun _ => ?_) _))
def c_integer_trim.k0 (n : Nat) (t0 : List Int) (t3 : Int) : Option (List Int) :=
  (cond (inC t3 (List.length t0))
  (cond (decide (0 ≤ t3) && decide (t3 ≤ t3))
  ((some (List.take (t3.toNat) t0)))
  none)
  none)
theorem c_integer_trim.k0.le (n : Nat) (t0 : List Int) (t3 : Int) : Le (c_integer_trim.k0 n t0 t3) (integer_trim.k0 t0 t3) := by
  unfold c_integer_trim.k0 integer_trim.k0
  try dsimp only
  with_reducible repeat' (first | exact Le.refl _ | apply Le.cond | (refine Le.bind ?_ (fun _ => ?_)) | (refine Le.iter (fun _ => ?_) _ _) | (refine Le.sum (fun _ => ?_) (fun _ => ?_) _))
def c_integer_trim (n : Nat) (t0 : List Int) : Option (List Int) :=
  ((iterC n (fun x : List Int × Int × Unit => c_integer_trim.s0 n x.1 x.2.1) (t0, ((List.length t0 : Nat) : Int), ())).bind fun y => c_integer_trim.k0 n y.1 y.2.1)
theorem c_integer_trim.le (n : Nat) (t0 : List Int) : Le (c_integer_trim n t0) (integer_trim t0) := by
  unfold c_integer_trim integer_trim
  try dsimp only
  with_reducible repeat' (first | exact Le.refl _ | apply c_integer_trim.k0.le | apply c_integer_trim.s0.le | apply Le.cond | (refine Le.bind ?_ (fun _ => ?_)) | (refine Le.iter (fun _ => ?_) _ _) | (refine Le.sum (fun _ => ?_) (fun _ => ?_) _))
def c_integer_signed.j1 (n : Nat) (t0 : Bool) (t1 : List Int) (b4_1 : List Int) : Option (Bool × List Int × Unit) :=
  (some (t0, (t1, ())))
theorem c_integer_signed.j1.le (n : Nat) (t0 : Bool) (t1 : List Int) (b4_1 : List Int) : Le (c_integer_signed.j1 n t0 t1 b4_1) (integer_signed.j1 t0 t1 b4_1) := by
  unfold c_integer_signed.j1 integer_signed.j1
  try dsimp only
  with_reducible repeat' (first | exact Le.refl _ | apply Le.cond | (refine Le.bind ?_ (fun _ => ?_)) | (refine Le.iter (fun _ => ?_) _ _) | (refine Le.sum (fun _ => ?_) (fun _ => ?_) _))
def c_integer_signed (n : Nat) (t0 : Bool) (t1 : List Int) : Option (Bool × List Int × Unit) :=
  ((c_integer_trim n t1).bind fun y1 =>
  (cond ((((List.length y1 : Nat) : Int) == (0 : Int)))
  ((some (false, (([] : List Int), ()))))
  ((c_integer_signed.j1 n t0 y1 ([] : List Int)))))
theorem c_integer_signed.le (n : Nat) (t0 : Bool) (t1 : List Int) : Le (c_integer_signed n t0 t1) (integer_signed t0 t1) := by
  unfold c_integer_signed integer_signed
  try dsimp only
  with_reducible repeat' (first | exact Le.refl _ | apply c_integer_signed.j1.le | apply c_integer_trim.le | apply Le.cond | (refine Le.bind ?_ (fun _ => ?_)) | (refine Le.iter (fun _ => ?_) _ _) | (refine Le.sum (fun _ => ?_) (fun _ => ?_) _))
def c_integer_Small.j1 (n : Nat) (t0 : Int) (t3 : Int) (b2_1 : List Int) : Option (Bool × List Int × Unit) :=
  ((c_integer_signed n (decide (t0 < (0 : Int))) ([(IntKind.wrap .u32 t3), (IntKind.wrap .u32 (shrI .u64 t3 (32 : Int)))] : List (Int))).bind fun y3 =>
  (some (y3.1, (y3.2.1, ()))))
theorem c_integer_Small.j1.le (n : Nat) (t0 : Int) (t3 : Int) (b2_1 : List Int) : Le (c_integer_Small.j1 n t0 t3 b2_1) (integer_Small.j1 t0 t3 b2_1) := by
  unfold c_integer_Small.j1 integer_Small.j1
  try dsimp only
  with_reducible repeat' (first | exact Le.refl _ | apply c_integer_signed.le | apply Le.cond | (refine Le.bind ?_ (fun _ => ?_)) | (refine Le.iter (fun _ => ?_) _ _) | (refine Le.sum (fun _ => ?_) (fun _ => ?_) _))
def c_integer_Small (n : Nat) (t0 : Int) : Option (Bool × List Int × Unit) :=
  (cond ((decide (t0 < (0 : Int))))
  ((c_integer_Small.j1 n t0 (IntKind.wrap .u64 (0 - (IntKind.wrap .u64 t0))) ([] : List Int)))
  ((c_integer_Small.j1 n t0 (IntKind.wrap .u64 t0) ([] : List Int))))
theorem c_integer_Small.le (n : Nat) (t0 : Int) : Le (c_integer_Small n t0) (integer_Small t0) := by
  unfold c_integer_Small integer_Small
  try dsimp only
  with_reducible repeat' (first | exact Le.refl _ | apply c_integer_Small.j1.le | apply Le.cond | (refine Le.bind ?_ (fun _ => ?_)) | (refine Le.iter (fun _ => ?_) _ _) | (refine Le.sum (fun _ => ?_) (fun _ => ?_) _))
def c_integer_magnitude (n : Nat) (t0 : Bool × List Int × Unit) : Option (List Int) :=
  ((c_integer_trim n t0.2.1).bind fun y1 =>
  (some y1))
theorem c_integer_magnitude.le (n : Nat) (t0 : Bool × List Int × Unit) : Le (c_integer_magnitude n t0) (integer_magnitude t0) := by
  unfold c_integer_magnitude integer_magnitude
  try dsimp only
  with_reducible repeat' (first | exact Le.refl _ | apply c_integer_trim.le | apply Le.cond | (refine Le.bind ?_ (fun _ => ?_)) | (refine Le.iter (fun _ => ?_) _ _) | (refine Le.sum (fun _ => ?_) (fun _ => ?_) _))
def c_integer_Normalize (n : Nat) (t0 : Bool × List Int × Unit) : Option (Bool × List Int × Unit) :=
  ((c_integer_magnitude n (t0.1, (t0.2.1, ()))).bind fun y1 =>
  (cond (inC ((List.length y1 : Nat) : Int) maxL)
  (((c_integer_signed n t0.1 (List.take (List.length (List.replicate ((((List.length y1 : Nat) : Int)).toNat) ((0 : Int) : Int))) y1 ++ List.drop (List.length y1) (List.replicate ((((List.length y1 : Nat) : Int)).toNat) ((0 : Int) : Int)))).bind fun y3 =>
  (some (y3.1, (y3.2.1, ())))))
  none))
theorem c_integer_Normalize.le (n : Nat) (t0 : Bool × List Int × Unit) : Le (c_integer_Normalize n t0) (integer_Normalize t0) := by
  unfold c_integer_Normalize integer_Normalize
  try dsimp only
  with_reducible repeat' (first | exact Le.refl _ | apply c_integer_magnitude.le | apply c_integer_signed.le | apply Le.cond | (refine Le.bind ?_ (fun _ => ?_)) | (refine Le.iter (fun _ => ?_) _ _) | (refine Le.sum (fun _ => ?_) (fun _ => ?_) _))
def c_rational_Whole (n : Nat) (t0 : Bool × List Int × Unit) : Option ((Bool × List Int × Unit) × (Bool × List Int × Unit) × Unit) :=
  ((c_integer_Normalize n (t0.1, (t0.2.1, ()))).bind fun y1 =>
  ((c_integer_Small n (1 : Int)).bind fun y2 =>
  (some ((y1.1, (y1.2.1, ())), ((y2.1, (y2.2.1, ())), ())))))
theorem c_rational_Whole.le (n : Nat) (t0 : Bool × List Int × Unit) : Le (c_rational_Whole n t0) (rational_Whole t0) := by
  unfold c_rational_Whole rational_Whole
  try dsimp only
  with_reducible repeat' (first | exact Le.refl _ | apply c_integer_Normalize.le | apply c_integer_Small.le | apply Le.cond | (refine Le.bind ?_ (fun _ => ?_)) | (refine Le.iter (fun _ => ?_) _ _) | (refine Le.sum (fun _ => ?_) (fun _ => ?_) _))
def c_localmass_whole (n : Nat) (t0 : Int) : Option ((Bool × List Int × Unit) × (Bool × List Int × Unit) × Unit) :=
  ((c_integer_Small n t0).bind fun y1 =>
  ((c_rational_Whole n y1).bind fun y2 =>
  (some ((y2.1.1, (y2.1.2.1, ())), ((y2.2.1.1, (y2.2.1.2.1, ())), ())))))
theorem c_localmass_whole.le (n : Nat) (t0 : Int) : Le (c_localmass_whole n t0) (localmass_whole t0) := by
  unfold c_localmass_whole localmass_whole
  try dsimp only
  with_reducible repeat' (first | exact Le.refl _ | apply c_integer_Small.le | apply c_rational_Whole.le | apply Le.cond | (refine Le.bind ?_ (fun _ => ?_)) | (refine Le.iter (fun _ => ?_) _ _) | (refine Le.sum (fun _ => ?_) (fun _ => ?_) _))
def c_prime_Is.j3 (n : Nat) (t0 : Int) (t3 : Int) : Option ((Int × Int × Unit) ⊕ ((Unit) ⊕ (Bool × Unit))) :=
  (some (.inl (t0, (IntKind.wrap .i64 (t3 + (1 : Int))), ())))
theorem c_prime_Is.j3.le (n : Nat) (t0 : Int) (t3 : Int) : Le (c_prime_Is.j3 n t0 t3) (prime_Is.j3 t0 t3) := by
  unfold c_prime_Is.j3 prime_Is.j3
  try dsimp only
  with_reducible repeat' (first | exact Le.refl _ | apply Le.cond | (refine Le.bind ?_ (fun _ => ?_)) | (refine Le.iter (fun _ => ?_) _ _) | (refine Le.sum (fun _ => ?_) (fun _ => ?_) _))
def c_prime_Is.j2 (n : Nat) (t0 : Int) (t3 : Int) : Option ((Int × Int × Unit) ⊕ ((Unit) ⊕ (Bool × Unit))) :=
  (cond (decide (t3 = 0))
  none
  ((cond (((Int.tmod t0 t3) == (0 : Int)))
  ((some (.inr (.inr (false, ())))))
  ((c_prime_Is.j3 n t0 t3)))))
theorem c_prime_Is.j2.le (n : Nat) (t0 : Int) (t3 : Int) : Le (c_prime_Is.j2 n t0 t3) (prime_Is.j2 t0 t3) := by
  unfold c_prime_Is.j2 prime_Is.j2
  try dsimp only
  with_reducible repeat' (first | exact Le.refl _ | apply c_prime_Is.j3.le | apply Le.cond | (refine Le.bind ?_ (fun _ => ?_)) | (refine Le.iter (fun _ => ?_) _ _) | (refine Le.sum (fun _ => ?_) (fun _ => ?_) _))
def c_prime_Is.s0 (n : Nat) (t0 : Int) (t3 : Int) : Option ((Int × Int × Unit) ⊕ ((Unit) ⊕ (Bool × Unit))) :=
  (cond ((decide ((IntKind.wrap .i64 (t3 * t3)) ≤ t0)))
  ((c_prime_Is.j2 n t0 t3))
  ((some (.inr (.inl ())))))
theorem c_prime_Is.s0.le (n : Nat) (t0 : Int) (t3 : Int) : Le (c_prime_Is.s0 n t0 t3) (prime_Is.s0 t0 t3) := by
  unfold c_prime_Is.s0 prime_Is.s0
  try dsimp only
  with_reducible repeat' (first | exact Le.refl _ | apply c_prime_Is.j2.le | apply Le.cond | (refine Le.bind ?_ (fun _ => ?_)) | (refine Le.iter (fun _ => ?_) _ _) | (refine Le.sum (fun _ => ?_) (fun _ => ?_) _))
def c_prime_Is.k0_0 (n : Nat)  : Option (Bool) :=
  (some true)
theorem c_prime_Is.k0_0.le (n : Nat)  : Le (c_prime_Is.k0_0 n) (prime_Is.k0_0) := by
  unfold c_prime_Is.k0_0 prime_Is.k0_0
  try dsimp only
  with_reducible repeat' (first | exact Le.refl _ | apply Le.cond | (refine Le.bind ?_ (fun _ => ?_)) | (refine Le.iter (fun _ => ?_) _ _) | (refine Le.sum (fun _ => ?_) (fun _ => ?_) _))
def c_prime_Is.k0_1 (n : Nat) (t2 : Bool) : Option (Bool) :=
  (some t2)
theorem c_prime_Is.k0_1.le (n : Nat) (t2 : Bool) : Le (c_prime_Is.k0_1 n t2) (prime_Is.k0_1 t2) := by
  unfold c_prime_Is.k0_1 prime_Is.k0_1
  try dsimp only
  with_reducible repeat' (first | exact Le.refl _ | apply Le.cond | (refine Le.bind ?_ (fun _ => ?_)) | (refine Le.iter (fun _ => ?_) _ _) | (refine Le.sum (fun _ => ?_) (fun _ => ?_) _))
def c_prime_Is.j1 (n : Nat) (t0 : Int) : Option (Bool) :=
  ((iterC n (fun x : Int × Int × Unit => c_prime_Is.s0 n x.1 x.2.1) (t0, (2 : Int), ())).bind fun z => Sum.casesOn z (fun y => c_prime_Is.k0_0 n) (fun z => c_prime_Is.k0_1 n z.1))
theorem c_prime_Is.j1.le (n : Nat) (t0 : Int) : Le (c_prime_Is.j1 n t0) (prime_Is.j1 t0) := by
  unfold c_prime_Is.j1 prime_Is.j1
  try dsimp only
  with_reducible repeat' (first | exact Le.refl _ | apply c_prime_Is.k0_0.le | apply c_prime_Is.k0_1.le | apply c_prime_Is.s0.le | apply Le.cond | (refine Le.bind ?_ (fun _ => ?_)) | (refine Le.iter (fun _ => ?_) _ _) | (refine Le.sum (fun _ => ?_) (fun _ => ?_) _))
def c_prime_Is (n : Nat) (t0 : Int) : Option (Bool) :=
  (cond ((decide (t0 < (2 : Int))))
  ((some false))
  ((cond ((decide (t0 > (2147483647 : Int))))
  ((some false))
  ((c_prime_Is.j1 n t0)))))
theorem c_prime_Is.le (n : Nat) (t0 : Int) : Le (c_prime_Is n t0) (prime_Is t0) := by
  unfold c_prime_Is prime_Is
  try dsimp only
  with_reducible repeat' (first | exact Le.refl _ | apply c_prime_Is.j1.le | apply Le.cond | (refine Le.bind ?_ (fun _ => ?_)) | (refine Le.iter (fun _ => ?_) _ _) | (refine Le.sum (fun _ => ?_) (fun _ => ?_) _))
def c_localmass_known (n : Nat) (t0 : Int) : Option (Bool) :=
  (cond ((decide (t0 ≤ (9973 : Int))))
  (((c_prime_Is n t0).bind fun y1 =>
  (some y1)))
  ((some false)))
theorem c_localmass_known.le (n : Nat) (t0 : Int) : Le (c_localmass_known n t0) (localmass_known t0) := by
  unfold c_localmass_known localmass_known
  try dsimp only
  with_reducible repeat' (first | exact Le.refl _ | apply c_prime_Is.le | apply Le.cond | (refine Le.bind ?_ (fun _ => ?_)) | (refine Le.iter (fun _ => ?_) _ _) | (refine Le.sum (fun _ => ?_) (fun _ => ?_) _))
def c_integer_Sign.j2 (n : Nat)  : Option (Int) :=
  (some (1 : Int))
theorem c_integer_Sign.j2.le (n : Nat)  : Le (c_integer_Sign.j2 n) (integer_Sign.j2) := by
  unfold c_integer_Sign.j2 integer_Sign.j2
  try dsimp only
  with_reducible repeat' (first | exact Le.refl _ | apply Le.cond | (refine Le.bind ?_ (fun _ => ?_)) | (refine Le.iter (fun _ => ?_) _ _) | (refine Le.sum (fun _ => ?_) (fun _ => ?_) _))
def c_integer_Sign.j1 (n : Nat)  : Option (Int) :=
  (c_integer_Sign.j2 n)
theorem c_integer_Sign.j1.le (n : Nat)  : Le (c_integer_Sign.j1 n) (integer_Sign.j1) := by
  unfold c_integer_Sign.j1 integer_Sign.j1
  try dsimp only
  with_reducible repeat' (first | exact Le.refl _ | apply c_integer_Sign.j2.le | apply Le.cond | (refine Le.bind ?_ (fun _ => ?_)) | (refine Le.iter (fun _ => ?_) _ _) | (refine Le.sum (fun _ => ?_) (fun _ => ?_) _))
def c_integer_Sign (n : Nat) (t0 : Bool × List Int × Unit) : Option (Int) :=
  ((c_integer_magnitude n (t0.1, (t0.2.1, ()))).bind fun y1 =>
  (cond ((((List.length y1 : Nat) : Int) == (0 : Int)))
  ((some (0 : Int)))
  ((cond (t0.1)
  ((some (-1 : Int)))
  ((c_integer_Sign.j1 n))))))
theorem c_integer_Sign.le (n : Nat) (t0 : Bool × List Int × Unit) : Le (c_integer_Sign n t0) (integer_Sign t0) := by
  unfold c_integer_Sign integer_Sign
  try dsimp only
  with_reducible repeat' (first | exact Le.refl _ | apply c_integer_Sign.j1.le | apply c_integer_magnitude.le | apply Le.cond | (refine Le.bind ?_ (fun _ => ?_)) | (refine Le.iter (fun _ => ?_) _ _) | (refine Le.sum (fun _ => ?_) (fun _ => ?_) _))
def c_integer_Neg (n : Nat) (t0 : Bool × List Int × Unit) : Option (Bool × List Int × Unit) :=
  ((c_integer_Normalize n (t0.1, (t0.2.1, ()))).bind fun y1 =>
  ((c_integer_signed n (!y1.1) y1.2.1).bind fun y2 =>
  (some (y2.1, (y2.2.1, ())))))
theorem c_integer_Neg.le (n : Nat) (t0 : Bool × List Int × Unit) : Le (c_integer_Neg n t0) (integer_Neg t0) := by
  unfold c_integer_Neg integer_Neg
  try dsimp only
  with_reducible repeat' (first | exact Le.refl _ | apply c_integer_Normalize.le | apply c_integer_signed.le | apply Le.cond | (refine Le.bind ?_ (fun _ => ?_)) | (refine Le.iter (fun _ => ?_) _ _) | (refine Le.sum (fun _ => ?_) (fun _ => ?_) _))
def c_rational_of.j2 (n : Nat) (b1_0 : Bool) (b1_1 : List Int) (b1_2 : Bool) (b1_3 : List Int) (b2_1 : List Int) (b2_3 : List Int) : Option ((Bool × List Int × Unit) × (Bool × List Int × Unit) × Unit) :=
  (some ((b1_0, (b1_1, ())), ((b1_2, (b1_3, ())), ())))
theorem c_rational_of.j2.le (n : Nat) (b1_0 : Bool) (b1_1 : List Int) (b1_2 : Bool) (b1_3 : List Int) (b2_1 : List Int) (b2_3 : List Int) : Le (c_rational_of.j2 n b1_0 b1_1 b1_2 b1_3 b2_1 b2_3) (rational_of.j2 b1_0 b1_1 b1_2 b1_3 b2_1 b2_3) := by
  unfold c_rational_of.j2 rational_of.j2
  try dsimp only
  with_reducible repeat' (first | exact Le.refl _ | apply Le.cond | (refine Le.bind ?_ (fun _ => ?_)) | (refine Le.iter (fun _ => ?_) _ _) | (refine Le.sum (fun _ => ?_) (fun _ => ?_) _))
def c_rational_of.j1 (n : Nat) (b1_0 : Bool) (b1_1 : List Int) (b1_2 : Bool) (b1_3 : List Int) (b2_1 : List Int) (b2_3 : List Int) : Option ((Bool × List Int × Unit) × (Bool × List Int × Unit) × Unit) :=
  (c_rational_of.j2 n b1_0 b1_1 b1_2 b1_3 b2_1 b2_3)
theorem c_rational_of.j1.le (n : Nat) (b1_0 : Bool) (b1_1 : List Int) (b1_2 : Bool) (b1_3 : List Int) (b2_1 : List Int) (b2_3 : List Int) : Le (c_rational_of.j1 n b1_0 b1_1 b1_2 b1_3 b2_1 b2_3) (rational_of.j1 b1_0 b1_1 b1_2 b1_3 b2_1 b2_3) := by
  unfold c_rational_of.j1 rational_of.j1
  try dsimp only
  with_reducible repeat' (first | exact Le.refl _ | apply c_rational_of.j2.le | apply Le.cond | (refine Le.bind ?_ (fun _ => ?_)) | (refine Le.iter (fun _ => ?_) _ _) | (refine Le.sum (fun _ => ?_) (fun _ => ?_) _))
def c_rational_of (n : Nat) (t0 : (Bool × List Int × Unit) × (Bool × List Int × Unit) × Unit) : Option ((Bool × List Int × Unit) × (Bool × List Int × Unit) × Unit) :=
  ((c_integer_Sign n (t0.2.1.1, (t0.2.1.2.1, ()))).bind fun y1 =>
  (cond ((y1 == (0 : Int)))
  (((c_integer_Small n (1 : Int)).bind fun y2 =>
  (some ((false, (([] : List Int), ())), ((y2.1, (y2.2.1, ())), ())))))
  ((cond ((y1 == (-1 : Int)))
  (((c_integer_Neg n (t0.1.1, (t0.1.2.1, ()))).bind fun y3 =>
  ((c_integer_Neg n (t0.2.1.1, (t0.2.1.2.1, ()))).bind fun y4 =>
  (some ((y3.1, (y3.2.1, ())), ((y4.1, (y4.2.1, ())), ()))))))
  ((c_rational_of.j1 n t0.1.1 t0.1.2.1 t0.2.1.1 t0.2.1.2.1 ([] : List Int) ([] : List Int)))))))
theorem c_rational_of.le (n : Nat) (t0 : (Bool × List Int × Unit) × (Bool × List Int × Unit) × Unit) : Le (c_rational_of n t0) (rational_of t0) := by
  unfold c_rational_of rational_of
  try dsimp only
  with_reducible repeat' (first | exact Le.refl _ | apply c_integer_Neg.le | apply c_integer_Sign.le | apply c_integer_Small.le | apply c_rational_of.j1.le | apply Le.cond | (refine Le.bind ?_ (fun _ => ?_)) | (refine Le.iter (fun _ => ?_) _ _) | (refine Le.sum (fun _ => ?_) (fun _ => ?_) _))
def c_integer_times.j2 (n : Nat) (t0 : List Int) (t1 : List Int) (t6 : Int) (t7 : Int) (t16 : Int) (t17 : Int) (t21 : Int) (t22 : Int) (a14 : List (Int)) : Option ((List Int × List Int × Int × Int × Int × Int × Int × Int × List Int × Unit) ⊕ ((List Int × List Int × Int × Int × Int × Int × List Int × Unit))) :=
  (cond (inB t6 (List.length t0))
  ((cond (inB t22 (List.length t1))
  ((cond (inB (IntKind.wrap .i64 (t6 + t22)) (List.length a14))
  (let x5 := (IntKind.wrap .u64 ((IntKind.wrap .u64 ((IntKind.wrap .u64 (List.getD t0 (t6.toNat) (0 : Int))) * (IntKind.wrap .u64 (List.getD t1 (t22.toNat) (0 : Int))))) + (IntKind.wrap .u64 (List.getD a14 ((0 + (((IntKind.wrap .i64 (t6 + t22))).toNat))) (0 : Int)))))
  (cond (inB (IntKind.wrap .i64 (t6 + t22)) (List.length a14))
  ((some (.inl (t0, t1, t6, (shrI .u64 (IntKind.wrap .u64 (t7 + x5)) (32 : Int)), t16, t17, t21, (IntKind.wrap .i64 (t22 + (1 : Int))), (List.set a14 ((0 + (((IntKind.wrap .i64 (t6 + t22))).toNat))) (IntKind.wrap .u32 (IntKind.wrap .u64 (t7 + x5)))), ()))))
  none))
  none))
  none))
  none)
theorem c_integer_times.j2.le (n : Nat) (t0 : List Int) (t1 : List Int) (t6 : Int) (t7 : Int) (t16 : Int) (t17 : Int) (t21 : Int) (t22 : Int) (a14 : List (Int)) : Le (c_integer_times.j2 n t0 t1 t6 t7 t16 t17 t21 t22 a14) (integer_times.j2 t0 t1 t6 t7 t16 t17 t21 t22 a14) := by
  unfold c_integer_times.j2 integer_times.j2
  try dsimp only
  with_reducible repeat' (first | exact Le.refl _ | apply Le.cond | (refine Le.bind ?_ (fun _ => ?_)) | (refine Le.iter (fun _ => ?_) _ _) | (refine Le.sum (fun _ => ?_) (fun _ => ?_) _))
def c_integer_times.s0 (n : Nat) (t0 : List Int) (t1 : List Int) (t6 : Int) (t7 : Int) (t16 : Int) (t17 : Int) (t21 : Int) (t22 : Int) (a14 : List (Int)) : Option ((List Int × List Int × Int × Int × Int × Int × Int × Int × List Int × Unit) ⊕ ((List Int × List Int × Int × Int × Int × Int × List Int × Unit))) :=
  (cond ((decide (t22 < t21)))
  ((c_integer_times.j2 n t0 t1 t6 t7 t16 t17 t21 t22 a14))
  ((some (.inr (t0, t1, t6, t7, t16, t17, a14, ())))))
theorem c_integer_times.s0.le (n : Nat) (t0 : List Int) (t1 : List Int) (t6 : Int) (t7 : Int) (t16 : Int) (t17 : Int) (t21 : Int) (t22 : Int) (a14 : List (Int)) : Le (c_integer_times.s0 n t0 t1 t6 t7 t16 t17 t21 t22 a14) (integer_times.s0 t0 t1 t6 t7 t16 t17 t21 t22 a14) := by
  unfold c_integer_times.s0 integer_times.s0
  try dsimp only
  with_reducible repeat' (first | exact Le.refl _ | apply c_integer_times.j2.le | apply Le.cond | (refine Le.bind ?_ (fun _ => ?_)) | (refine Le.iter (fun _ => ?_) _ _) | (refine Le.sum (fun _ => ?_) (fun _ => ?_) _))
def c_integer_times.k0 (n : Nat) (t0 : List Int) (t1 : List Int) (t6 : Int) (t7 : Int) (t16 : Int) (t17 : Int) (a14 : List (Int)) : Option ((List Int × List Int × Int × Int × List Int × Unit) ⊕ ((List Int × Unit))) :=
  let x9 := (IntKind.wrap .i64 (t6 + ((List.length t1 : Nat) : Int)))
  (cond (inB x9 (List.length a14))
  ((some (.inl (t0, t1, t16, (IntKind.wrap .i64 (t17 + (1 : Int))), (List.set a14 ((0 + x9.toNat)) (IntKind.wrap .u32 t7)), ()))))
  none)
theorem c_integer_times.k0.le (n : Nat) (t0 : List Int) (t1 : List Int) (t6 : Int) (t7 : Int) (t16 : Int) (t17 : Int) (a14 : List (Int)) : Le (c_integer_times.k0 n t0 t1 t6 t7 t16 t17 a14) (integer_times.k0 t0 t1 t6 t7 t16 t17 a14) := by
  unfold c_integer_times.k0 integer_times.k0
  try dsimp only
  with_reducible repeat' (first | exact Le.refl _ | apply Le.cond | (refine Le.bind ?_ (fun _ => ?_)) | (refine Le.iter (fun _ => ?_) _ _) | (refine Le.sum (fun _ => ?_) (fun _ => ?_) _))
def c_integer_times.j1 (n : Nat) (t0 : List Int) (t1 : List Int) (t16 : Int) (t17 : Int) (a14 : List (Int)) : Option ((List Int × List Int × Int × Int × List Int × Unit) ⊕ ((List Int × Unit))) :=
  ((iterC n (fun x : List Int × List Int × Int × Int × Int × Int × Int × Int × List Int × Unit => c_integer_times.s0 n x.1 x.2.1 x.2.2.1 x.2.2.2.1 x.2.2.2.2.1 x.2.2.2.2.2.1 x.2.2.2.2.2.2.1 x.2.2.2.2.2.2.2.1 x.2.2.2.2.2.2.2.2.1) (t0, t1, t17, (0 : Int), t16, t17, ((List.length t1 : Nat) : Int), (0 : Int), a14, ())).bind fun y => c_integer_times.k0 n y.1 y.2.1 y.2.2.1 y.2.2.2.1 y.2.2.2.2.1 y.2.2.2.2.2.1 y.2.2.2.2.2.2.1)
theorem c_integer_times.j1.le (n : Nat) (t0 : List Int) (t1 : List Int) (t16 : Int) (t17 : Int) (a14 : List (Int)) : Le (c_integer_times.j1 n t0 t1 t16 t17 a14) (integer_times.j1 t0 t1 t16 t17 a14) := by
  unfold c_integer_times.j1 integer_times.j1
  try dsimp only
  with_reducible repeat' (first | exact Le.refl _ | apply c_integer_times.k0.le | apply c_integer_times.s0.le | apply Le.cond | (refine Le.bind ?_ (fun _ => ?_)) | (refine Le.iter (fun _ => ?_) _ _) | (refine Le.sum (fun _ => ?_) (fun _ => ?_) _))
def c_integer_times.s1 (n : Nat) (t0 : List Int) (t1 : List Int) (t16 : Int) (t17 : Int) (a14 : List (Int)) : Option ((List Int × List Int × Int × Int × List Int × Unit) ⊕ ((List Int × Unit))) :=
  (cond ((decide (t17 < t16)))
  ((c_integer_times.j1 n t0 t1 t16 t17 a14))
  ((some (.inr (a14, ())))))
theorem c_integer_times.s1.le (n : Nat) (t0 : List Int) (t1 : List Int) (t16 : Int) (t17 : Int) (a14 : List (Int)) : Le (c_integer_times.s1 n t0 t1 t16 t17 a14) (integer_times.s1 t0 t1 t16 t17 a14) := by
  unfold c_integer_times.s1 integer_times.s1
  try dsimp only
  with_reducible repeat' (first | exact Le.refl _ | apply c_integer_times.j1.le | apply Le.cond | (refine Le.bind ?_ (fun _ => ?_)) | (refine Le.iter (fun _ => ?_) _ _) | (refine Le.sum (fun _ => ?_) (fun _ => ?_) _))
def c_integer_times.k1 (n : Nat) (a14 : List (Int)) : Option (List Int) :=
  ((c_integer_trim n a14).bind fun y11 =>
  (some y11))
theorem c_integer_times.k1.le (n : Nat) (a14 : List (Int)) : Le (c_integer_times.k1 n a14) (integer_times.k1 a14) := by
  unfold c_integer_times.k1 integer_times.k1
  try dsimp only
  with_reducible repeat' (first | exact Le.refl _ | apply c_integer_trim.le | apply Le.cond | (refine Le.bind ?_ (fun _ => ?_)) | (refine Le.iter (fun _ => ?_) _ _) | (refine Le.sum (fun _ => ?_) (fun _ => ?_) _))
def c_integer_times (n : Nat) (t0 : List Int) (t1 : List Int) : Option (List Int) :=
  let x1 := (IntKind.wrap .i64 (((List.length t0 : Nat) : Int) + ((List.length t1 : Nat) : Int)))
  (cond (inC x1 maxL)
  (((iterC n (fun x : List Int × List Int × Int × Int × List Int × Unit => c_integer_times.s1 n x.1 x.2.1 x.2.2.1 x.2.2.2.1 x.2.2.2.2.1) (t0, t1, ((List.length t0 : Nat) : Int), (0 : Int), (List.replicate (x1.toNat) ((0 : Int) : Int)), ())).bind fun y => c_integer_times.k1 n y.1))
  none)
theorem c_integer_times.le (n : Nat) (t0 : List Int) (t1 : List Int) : Le (c_integer_times n t0 t1) (integer_times t0 t1) := by
  unfold c_integer_times integer_times
  try dsimp only
  with_reducible repeat' (first | exact Le.refl _ | apply c_integer_times.k1.le | apply c_integer_times.s1.le | apply Le.cond | (refine Le.bind ?_ (fun _ => ?_)) | (refine Le.iter (fun _ => ?_) _ _) | (refine Le.sum (fun _ => ?_) (fun _ => ?_) _))
def c_integer_Mul (n : Nat) (t0 : Bool × List Int × Unit) (t1 : Bool × List Int × Unit) : Option (Bool × List Int × Unit) :=
  ((c_integer_magnitude n (t0.1, (t0.2.1, ()))).bind fun y1 =>
  ((c_integer_magnitude n (t1.1, (t1.2.1, ()))).bind fun y2 =>
  ((c_integer_times n y1 y2).bind fun y3 =>
  ((c_integer_signed n (!(t0.1 == t1.1)) y3).bind fun y4 =>
  (some (y4.1, (y4.2.1, ())))))))
theorem c_integer_Mul.le (n : Nat) (t0 : Bool × List Int × Unit) (t1 : Bool × List Int × Unit) : Le (c_integer_Mul n t0 t1) (integer_Mul t0 t1) := by
  unfold c_integer_Mul integer_Mul
  try dsimp only
  with_reducible repeat' (first | exact Le.refl _ | apply c_integer_magnitude.le | apply c_integer_signed.le | apply c_integer_times.le | apply Le.cond | (refine Le.bind ?_ (fun _ => ?_)) | (refine Le.iter (fun _ => ?_) _ _) | (refine Le.sum (fun _ => ?_) (fun _ => ?_) _))
def c_rational_product.j1 (n : Nat) (t7 : List (Bool × List Int × Unit)) (t8 : Int) (t9 : Int) (b2_0 : Bool) (b2_1 : List Int) (b3_0 : Bool) (b3_1 : List Int) : Option (((List (Bool × List Int × Unit)) × Int × Int × (Bool × List Int × Unit) × (Bool × List Int × Unit) × Unit) ⊕ (((Bool × List Int × Unit) × (Bool × List Int × Unit) × Unit))) :=
  (cond (inB t9 (List.length t7))
  (((c_integer_Mul n (b3_0, (b3_1, ())) ((List.getD t7 (t9.toNat) (false, (([] : List Int), ()))).1, ((List.getD t7 (t9.toNat) (false, (([] : List Int), ()))).2.1, ()))).bind fun y2 =>
  (some (.inl (t7, t8, (IntKind.wrap .i64 (t9 + (1 : Int))), (b2_0, (b2_1, ())), (y2.1, (y2.2.1, ())), ())))))
  none)
theorem c_rational_product.j1.le (n : Nat) (t7 : List (Bool × List Int × Unit)) (t8 : Int) (t9 : Int) (b2_0 : Bool) (b2_1 : List Int) (b3_0 : Bool) (b3_1 : List Int) : Le (c_rational_product.j1 n t7 t8 t9 b2_0 b2_1 b3_0 b3_1) (rational_product.j1 t7 t8 t9 b2_0 b2_1 b3_0 b3_1) := by
  unfold c_rational_product.j1 rational_product.j1
  try dsimp only
  with_reducible repeat' (first | exact Le.refl _ | apply c_integer_Mul.le | apply Le.cond | (refine Le.bind ?_ (fun _ => ?_)) | (refine Le.iter (fun _ => ?_) _ _) | (refine Le.sum (fun _ => ?_) (fun _ => ?_) _))
def c_rational_product.s0 (n : Nat) (t7 : List (Bool × List Int × Unit)) (t8 : Int) (t9 : Int) (b2 : Bool × List Int × Unit) (b3 : Bool × List Int × Unit) : Option (((List (Bool × List Int × Unit)) × Int × Int × (Bool × List Int × Unit) × (Bool × List Int × Unit) × Unit) ⊕ (((Bool × List Int × Unit) × (Bool × List Int × Unit) × Unit))) :=
  (cond ((decide (t9 < t8)))
  ((c_rational_product.j1 n t7 t8 t9 b2.1 b2.2.1 b3.1 b3.2.1))
  ((some (.inr ((b2.1, (b2.2.1, ())), (b3.1, (b3.2.1, ())), ())))))
theorem c_rational_product.s0.le (n : Nat) (t7 : List (Bool × List Int × Unit)) (t8 : Int) (t9 : Int) (b2 : Bool × List Int × Unit) (b3 : Bool × List Int × Unit) : Le (c_rational_product.s0 n t7 t8 t9 b2 b3) (rational_product.s0 t7 t8 t9 b2 b3) := by
  unfold c_rational_product.s0 rational_product.s0
  try dsimp only
  with_reducible repeat' (first | exact Le.refl _ | apply c_rational_product.j1.le | apply Le.cond | (refine Le.bind ?_ (fun _ => ?_)) | (refine Le.iter (fun _ => ?_) _ _) | (refine Le.sum (fun _ => ?_) (fun _ => ?_) _))
def c_rational_product.k0 (n : Nat) (b2 : Bool × List Int × Unit) (b3 : Bool × List Int × Unit) : Option (Bool × List Int × Unit) :=
  (some (b3.1, (b3.2.1, ())))
theorem c_rational_product.k0.le (n : Nat) (b2 : Bool × List Int × Unit) (b3 : Bool × List Int × Unit) : Le (c_rational_product.k0 n b2 b3) (rational_product.k0 b2 b3) := by
  unfold c_rational_product.k0 rational_product.k0
  try dsimp only
  with_reducible repeat' (first | exact Le.refl _ | apply Le.cond | (refine Le.bind ?_ (fun _ => ?_)) | (refine Le.iter (fun _ => ?_) _ _) | (refine Le.sum (fun _ => ?_) (fun _ => ?_) _))
def c_rational_product (n : Nat) (t0 : List (Bool × List Int × Unit)) : Option (Bool × List Int × Unit) :=
  ((c_integer_Small n (1 : Int)).bind fun y1 =>
  ((iterC n (fun x : (List (Bool × List Int × Unit)) × Int × Int × (Bool × List Int × Unit) × (Bool × List Int × Unit) × Unit => c_rational_product.s0 n x.1 x.2.1 x.2.2.1 x.2.2.2.1 x.2.2.2.2.1) (t0, ((List.length t0 : Nat) : Int), (0 : Int), (false, (([] : List Int), ())), (y1.1, (y1.2.1, ())), ())).bind fun y => c_rational_product.k0 n y.1 y.2.1))
theorem c_rational_product.le (n : Nat) (t0 : List (Bool × List Int × Unit)) : Le (c_rational_product n t0) (rational_product t0) := by
  unfold c_rational_product rational_product
  try dsimp only
  with_reducible repeat' (first | exact Le.refl _ | apply c_integer_Small.le | apply c_rational_product.k0.le | apply c_rational_product.s0.le | apply Le.cond | (refine Le.bind ?_ (fun _ => ?_)) | (refine Le.iter (fun _ => ?_) _ _) | (refine Le.sum (fun _ => ?_) (fun _ => ?_) _))
def c_integer_shortDivide.j1 (n : Nat) (t0 : List Int) (t1 : Int) (t7 : Int) (t8 : Int) (a11 : List (Int)) : Option ((List Int × Int × Int × Int × List Int × Unit) ⊕ ((Int × List Int × Unit))) :=
  (cond (inB t8 (List.length t0))
  (let x2 := (IntKind.wrap .u64 (List.getD t0 (t8.toNat) (0 : Int)))
  (cond (decide ((IntKind.wrap .u64 t1) = 0))
  none
  ((cond (inB t8 (List.length a11))
  ((cond (decide ((IntKind.wrap .u64 t1) = 0))
  none
  ((some (.inl (t0, t1, (Int.tmod (orI .u64 (shlI .u64 t7 (32 : Int)) x2) (IntKind.wrap .u64 t1)), (IntKind.wrap .i64 (t8 - (1 : Int))), (List.set a11 ((0 + t8.toNat)) (IntKind.wrap .u32 (IntKind.wrap .u64 (Int.tdiv (orI .u64 (shlI .u64 t7 (32 : Int)) x2) (IntKind.wrap .u64 t1))))), ()))))))
  none))))
  none)
theorem c_integer_shortDivide.j1.le (n : Nat) (t0 : List Int) (t1 : Int) (t7 : Int) (t8 : Int) (a11 : List (Int)) : Le (c_integer_shortDivide.j1 n t0 t1 t7 t8 a11) (integer_shortDivide.j1 t0 t1 t7 t8 a11) := by
  unfold c_integer_shortDivide.j1 integer_shortDivide.j1
  try dsimp only
  with_reducible repeat' (first | exact Le.refl _ | apply Le.cond | (refine Le.bind ?_ (fun _ => ?_)) | (refine Le.iter (fun _ => ?_) _ _) | (refine Le.sum (fun _ => ?_) (fun _ => ?_) _))
def c_integer_shortDivide.s0 (n : Nat) (t0 : List Int) (t1 : Int) (t7 : Int) (t8 : Int) (a11 : List (Int)) : Option ((List Int × Int × Int × Int × List Int × Unit) ⊕ ((Int × List Int × Unit))) :=
  (cond ((decide (t8 ≥ (0 : Int))))
  ((c_integer_shortDivide.j1 n t0 t1 t7 t8 a11))
  ((some (.inr (t7, a11, ())))))
theorem c_integer_shortDivide.s0.le (n : Nat) (t0 : List Int) (t1 : Int) (t7 : Int) (t8 : Int) (a11 : List (Int)) : Le (c_integer_shortDivide.s0 n t0 t1 t7 t8 a11) (integer_shortDivide.s0 t0 t1 t7 t8 a11) := by
  unfold c_integer_shortDivide.s0 integer_shortDivide.s0
  try dsimp only
  with_reducible repeat' (first | exact Le.refl _ | apply c_integer_shortDivide.j1.le | apply Le.cond | (refine Le.bind ?_ (fun _ => ?_)) | (refine Le.iter (fun _ => ?_) _ _) | (refine Le.sum (fun _ => ?_) (fun _ => ?_) _))
def c_integer_shortDivide.k0 (n : Nat) (t7 : Int) (a11 : List (Int)) : Option (List Int × Int × Unit) :=
  ((c_integer_trim n a11).bind fun y6 =>
  (some (y6, ((IntKind.wrap .u32 t7), ()))))
theorem c_integer_shortDivide.k0.le (n : Nat) (t7 : Int) (a11 : List (Int)) : Le (c_integer_shortDivide.k0 n t7 a11) (integer_shortDivide.k0 t7 a11) := by
  unfold c_integer_shortDivide.k0 integer_shortDivide.k0
  try dsimp only
  with_reducible repeat' (first | exact Le.refl _ | apply c_integer_trim.le | apply Le.cond | (refine Le.bind ?_ (fun _ => ?_)) | (refine Le.iter (fun _ => ?_) _ _) | (refine Le.sum (fun _ => ?_) (fun _ => ?_) _))
def c_integer_shortDivide (n : Nat) (t0 : List Int) (t1 : Int) : Option (List Int × Int × Unit) :=
  (cond (inC ((List.length t0 : Nat) : Int) maxL)
  (((iterC n (fun x : List Int × Int × Int × Int × List Int × Unit => c_integer_shortDivide.s0 n x.1 x.2.1 x.2.2.1 x.2.2.2.1 x.2.2.2.2.1) (t0, t1, (0 : Int), (IntKind.wrap .i64 (((List.length t0 : Nat) : Int) - (1 : Int))), (List.replicate ((((List.length t0 : Nat) : Int)).toNat) ((0 : Int) : Int)), ())).bind fun y => c_integer_shortDivide.k0 n y.1 y.2.1))
  none)
theorem c_integer_shortDivide.le (n : Nat) (t0 : List Int) (t1 : Int) : Le (c_integer_shortDivide n t0 t1) (integer_shortDivide t0 t1) := by
  unfold c_integer_shortDivide integer_shortDivide
  try dsimp only
  with_reducible repeat' (first | exact Le.refl _ | apply c_integer_shortDivide.k0.le | apply c_integer_shortDivide.s0.le | apply Le.cond | (refine Le.bind ?_ (fun _ => ?_)) | (refine Le.iter (fun _ => ?_) _ _) | (refine Le.sum (fun _ => ?_) (fun _ => ?_) _))
def c_integer_compare.j1 (n : Nat)  : Option (Int) :=
  (some (1 : Int))
theorem c_integer_compare.j1.le (n : Nat)  : Le (c_integer_compare.j1 n) (integer_compare.j1) := by
  unfold c_integer_compare.j1 integer_compare.j1
  try dsimp only
  with_reducible repeat' (first | exact Le.refl _ | apply Le.cond | (refine Le.bind ?_ (fun _ => ?_)) | (refine Le.iter (fun _ => ?_) _ _) | (refine Le.sum (fun _ => ?_) (fun _ => ?_) _))
def c_integer_compare.j4 (n : Nat)  : Option ((List Int × List Int × Int × Unit) ⊕ ((Unit) ⊕ (Int × Unit))) :=
  (some (.inr (.inr ((1 : Int), ()))))
theorem c_integer_compare.j4.le (n : Nat)  : Le (c_integer_compare.j4 n) (integer_compare.j4) := by
  unfold c_integer_compare.j4 integer_compare.j4
  try dsimp only
  with_reducible repeat' (first | exact Le.refl _ | apply Le.cond | (refine Le.bind ?_ (fun _ => ?_)) | (refine Le.iter (fun _ => ?_) _ _) | (refine Le.sum (fun _ => ?_) (fun _ => ?_) _))
def c_integer_compare.j5 (n : Nat) (t0 : List Int) (t1 : List Int) (t5 : Int) : Option ((List Int × List Int × Int × Unit) ⊕ ((Unit) ⊕ (Int × Unit))) :=
  (some (.inl (t0, t1, (IntKind.wrap .i64 (t5 - (1 : Int))), ())))
theorem c_integer_compare.j5.le (n : Nat) (t0 : List Int) (t1 : List Int) (t5 : Int) : Le (c_integer_compare.j5 n t0 t1 t5) (integer_compare.j5 t0 t1 t5) := by
  unfold c_integer_compare.j5 integer_compare.j5
  try dsimp only
  with_reducible repeat' (first | exact Le.refl _ | apply Le.cond | (refine Le.bind ?_ (fun _ => ?_)) | (refine Le.iter (fun _ => ?_) _ _) | (refine Le.sum (fun _ => ?_) (fun _ => ?_) _))
def c_integer_compare.j3 (n : Nat) (t0 : List Int) (t1 : List Int) (t5 : Int) : Option ((List Int × List Int × Int × Unit) ⊕ ((Unit) ⊕ (Int × Unit))) :=
  (cond (inB t5 (List.length t0))
  ((cond (inB t5 (List.length t1))
  ((cond (((List.getD t0 (t5.toNat) (0 : Int)) != (List.getD t1 (t5.toNat) (0 : Int))))
  ((cond (inB t5 (List.length t0))
  ((cond (inB t5 (List.length t1))
  ((cond ((decide ((List.getD t0 (t5.toNat) (0 : Int)) < (List.getD t1 (t5.toNat) (0 : Int)))))
  ((some (.inr (.inr ((-1 : Int), ())))))
  ((c_integer_compare.j4 n))))
  none))
  none))
  ((c_integer_compare.j5 n t0 t1 t5))))
  none))
  none)
theorem c_integer_compare.j3.le (n : Nat) (t0 : List Int) (t1 : List Int) (t5 : Int) : Le (c_integer_compare.j3 n t0 t1 t5) (integer_compare.j3 t0 t1 t5) := by
  unfold c_integer_compare.j3 integer_compare.j3
  try dsimp only
  with_reducible repeat' (first | exact Le.refl _ | apply c_integer_compare.j4.le | apply c_integer_compare.j5.le | apply Le.cond | (refine Le.bind ?_ (fun _ => ?_)) | (refine Le.iter (fun _ => ?_) _ _) | (refine Le.sum (fun _ => ?_) (fun _ => ?_) _))
def c_integer_compare.s0 (n : Nat) (t0 : List Int) (t1 : List Int) (t5 : Int) : Option ((List Int × List Int × Int × Unit) ⊕ ((Unit) ⊕ (Int × Unit))) :=
  (cond ((decide (t5 ≥ (0 : Int))))
  ((c_integer_compare.j3 n t0 t1 t5))
  ((some (.inr (.inl ())))))
theorem c_integer_compare.s0.le (n : Nat) (t0 : List Int) (t1 : List Int) (t5 : Int) : Le (c_integer_compare.s0 n t0 t1 t5) (integer_compare.s0 t0 t1 t5) := by
  unfold c_integer_compare.s0 integer_compare.s0
  try dsimp only
  with_reducible repeat' (first | exact Le.refl _ | apply c_integer_compare.j3.le | apply Le.cond | (refine Le.bind ?_ (fun _ => ?_)) | (refine Le.iter (fun _ => ?_) _ _) | (refine Le.sum (fun _ => ?_) (fun _ => ?_) _))
def c_integer_compare.k0_0 (n : Nat)  : Option (Int) :=
  (some (0 : Int))
theorem c_integer_compare.k0_0.le (n : Nat)  : Le (c_integer_compare.k0_0 n) (integer_compare.k0_0) := by
  unfold c_integer_compare.k0_0 integer_compare.k0_0
  try dsimp only
  with_reducible repeat' (first | exact Le.refl _ | apply Le.cond | (refine Le.bind ?_ (fun _ => ?_)) | (refine Le.iter (fun _ => ?_) _ _) | (refine Le.sum (fun _ => ?_) (fun _ => ?_) _))
def c_integer_compare.k0_1 (n : Nat) (t4 : Int) : Option (Int) :=
  (some t4)
theorem c_integer_compare.k0_1.le (n : Nat) (t4 : Int) : Le (c_integer_compare.k0_1 n t4) (integer_compare.k0_1 t4) := by
  unfold c_integer_compare.k0_1 integer_compare.k0_1
  try dsimp only
  with_reducible repeat' (first | exact Le.refl _ | apply Le.cond | (refine Le.bind ?_ (fun _ => ?_)) | (refine Le.iter (fun _ => ?_) _ _) | (refine Le.sum (fun _ => ?_) (fun _ => ?_) _))
def c_integer_compare.j2 (n : Nat) (t0 : List Int) (t1 : List Int) : Option (Int) :=
  ((iterC n (fun x : List Int × List Int × Int × Unit => c_integer_compare.s0 n x.1 x.2.1 x.2.2.1) (t0, t1, (IntKind.wrap .i64 (((List.length t0 : Nat) : Int) - (1 : Int))), ())).bind fun z => Sum.casesOn z (fun y => c_integer_compare.k0_0 n) (fun z => c_integer_compare.k0_1 n z.1))
theorem c_integer_compare.j2.le (n : Nat) (t0 : List Int) (t1 : List Int) : Le (c_integer_compare.j2 n t0 t1) (integer_compare.j2 t0 t1) := by
  unfold c_integer_compare.j2 integer_compare.j2
  try dsimp only
  with_reducible repeat' (first | exact Le.refl _ | apply c_integer_compare.k0_0.le | apply c_integer_compare.k0_1.le | apply c_integer_compare.s0.le | apply Le.cond | (refine Le.bind ?_ (fun _ => ?_)) | (refine Le.iter (fun _ => ?_) _ _) | (refine Le.sum (fun _ => ?_) (fun _ => ?_) _))
def c_integer_compare (n : Nat) (t0 : List Int) (t1 : List Int) : Option (Int) :=
  (cond ((((List.length t0 : Nat) : Int) != ((List.length t1 : Nat) : Int)))
  ((cond ((decide (((List.length t0 : Nat) : Int) < ((List.length t1 : Nat) : Int))))
  ((some (-1 : Int)))
  ((c_integer_compare.j1 n))))
  ((c_integer_compare.j2 n t0 t1)))
theorem c_integer_compare.le (n : Nat) (t0 : List Int) (t1 : List Int) : Le (c_integer_compare n t0 t1) (integer_compare t0 t1) := by
  unfold c_integer_compare integer_compare
  try dsimp only
  with_reducible repeat' (first | exact Le.refl _ | apply c_integer_compare.j1.le | apply c_integer_compare.j2.le | apply Le.cond | (refine Le.bind ?_ (fun _ => ?_)) | (refine Le.iter (fun _ => ?_) _ _) | (refine Le.sum (fun _ => ?_) (fun _ => ?_) _))
def c_bits_Len32.j2 (n : Nat) (t0 : Int) (t2 : Int) : Option (Int) :=
  (cond (inB (IntKind.wrap .u8 t0) (ByteArray.size (⟨#[0, 1, 2, 2, 3, 3, 3, 3, 4, 4, 4, 4, 4, 4, 4, 4, 5, 5, 5, 5, 5, 5, 5, 5, 5, 5, 5, 5, 5, 5, 5, 5, 6, 6, 6, 6, 6, 6, 6, 6, 6, 6, 6, 6, 6, 6, 6, 6, 6, 6, 6, 6, 6, 6, 6, 6, 6, 6, 6, 6, 6, 6, 6, 6, 7, 7, 7, 7, 7, 7, 7, 7, 7, 7, 7, 7, 7, 7, 7, 7, 7, 7, 7, 7, 7, 7, 7, 7, 7, 7, 7, 7, 7, 7, 7, 7, 7, 7, 7, 7, 7, 7, 7, 7, 7, 7, 7, 7, 7, 7, 7, 7, 7, 7, 7, 7, 7, 7, 7, 7, 7, 7, 7, 7, 7, 7, 7, 7, 8, 8, 8, 8, 8, 8, 8, 8, 8, 8, 8, 8, 8, 8, 8, 8, 8, 8, 8, 8, 8, 8, 8, 8, 8, 8, 8, 8, 8, 8, 8, 8, 8, 8, 8, 8, 8, 8, 8, 8, 8, 8, 8, 8, 8, 8, 8, 8, 8, 8, 8, 8, 8, 8, 8, 8, 8, 8, 8, 8, 8, 8, 8, 8, 8, 8, 8, 8, 8, 8, 8, 8, 8, 8, 8, 8, 8, 8, 8, 8, 8, 8, 8, 8, 8, 8, 8, 8, 8, 8, 8, 8, 8, 8, 8, 8, 8, 8, 8, 8, 8, 8, 8, 8, 8, 8, 8, 8, 8, 8, 8, 8, 8, 8, 8, 8, 8, 8, 8, 8, 8, 8, 8, 8, 8, 8, 8, 8]⟩ : ByteArray)))
  ((some (IntKind.wrap .i64 (t2 + (IntKind.wrap .i64 (((ByteArray.get! (⟨#[0, 1, 2, 2, 3, 3, 3, 3, 4, 4, 4, 4, 4, 4, 4, 4, 5, 5, 5, 5, 5, 5, 5, 5, 5, 5, 5, 5, 5, 5, 5, 5, 6, 6, 6, 6, 6, 6, 6, 6, 6, 6, 6, 6, 6, 6, 6, 6, 6, 6, 6, 6, 6, 6, 6, 6, 6, 6, 6, 6, 6, 6, 6, 6, 7, 7, 7, 7, 7, 7, 7, 7, 7, 7, 7, 7, 7, 7, 7, 7, 7, 7, 7, 7, 7, 7, 7, 7, 7, 7, 7, 7, 7, 7, 7, 7, 7, 7, 7, 7, 7, 7, 7, 7, 7, 7, 7, 7, 7, 7, 7, 7, 7, 7, 7, 7, 7, 7, 7, 7, 7, 7, 7, 7, 7, 7, 7, 7, 8, 8, 8, 8, 8, 8, 8, 8, 8, 8, 8, 8, 8, 8, 8, 8, 8, 8, 8, 8, 8, 8, 8, 8, 8, 8, 8, 8, 8, 8, 8, 8, 8, 8, 8, 8, 8, 8, 8, 8, 8, 8, 8, 8, 8, 8, 8, 8, 8, 8, 8, 8, 8, 8, 8, 8, 8, 8, 8, 8, 8, 8, 8, 8, 8, 8, 8, 8, 8, 8, 8, 8, 8, 8, 8, 8, 8, 8, 8, 8, 8, 8, 8, 8, 8, 8, 8, 8, 8, 8, 8, 8, 8, 8, 8, 8, 8, 8, 8, 8, 8, 8, 8, 8, 8, 8, 8, 8, 8, 8, 8, 8, 8, 8, 8, 8, 8, 8, 8, 8, 8, 8, 8, 8, 8, 8, 8, 8]⟩ : ByteArray) (((IntKind.wrap .u8 t0)).toNat)).toNat : Nat) : Int))))))
  none)
theorem c_bits_Len32.j2.le (n : Nat) (t0 : Int) (t2 : Int) : Le (c_bits_Len32.j2 n t0 t2) (bits_Len32.j2 t0 t2) := by
  unfold c_bits_Len32.j2 bits_Len32.j2
  try dsimp only
  with_reducible repeat' (first | exact Le.refl _ | apply Le.cond | (refine Le.bind ?_ (fun _ => ?_)) | (refine Le.iter (fun _ => ?_) _ _) | (refine Le.sum (fun _ => ?_) (fun _ => ?_) _))
def c_bits_Len32.j3 (n : Nat) (t0 : Int) : Option (Int) :=
  (cond (inB (IntKind.wrap .u8 t0) (ByteArray.size (⟨#[0, 1, 2, 2, 3, 3, 3, 3, 4, 4, 4, 4, 4, 4, 4, 4, 5, 5, 5, 5, 5, 5, 5, 5, 5, 5, 5, 5, 5, 5, 5, 5, 6, 6, 6, 6, 6, 6, 6, 6, 6, 6, 6, 6, 6, 6, 6, 6, 6, 6, 6, 6, 6, 6, 6, 6, 6, 6, 6, 6, 6, 6, 6, 6, 7, 7, 7, 7, 7, 7, 7, 7, 7, 7, 7, 7, 7, 7, 7, 7, 7, 7, 7, 7, 7, 7, 7, 7, 7, 7, 7, 7, 7, 7, 7, 7, 7, 7, 7, 7, 7, 7, 7, 7, 7, 7, 7, 7, 7, 7, 7, 7, 7, 7, 7, 7, 7, 7, 7, 7, 7, 7, 7, 7, 7, 7, 7, 7, 8, 8, 8, 8, 8, 8, 8, 8, 8, 8, 8, 8, 8, 8, 8, 8, 8, 8, 8, 8, 8, 8, 8, 8, 8, 8, 8, 8, 8, 8, 8, 8, 8, 8, 8, 8, 8, 8, 8, 8, 8, 8, 8, 8, 8, 8, 8, 8, 8, 8, 8, 8, 8, 8, 8, 8, 8, 8, 8, 8, 8, 8, 8, 8, 8, 8, 8, 8, 8, 8, 8, 8, 8, 8, 8, 8, 8, 8, 8, 8, 8, 8, 8, 8, 8, 8, 8, 8, 8, 8, 8, 8, 8, 8, 8, 8, 8, 8, 8, 8, 8, 8, 8, 8, 8, 8, 8, 8, 8, 8, 8, 8, 8, 8, 8, 8, 8, 8, 8, 8, 8, 8, 8, 8, 8, 8, 8, 8]⟩ : ByteArray)))
  ((some (IntKind.wrap .i64 ((16 : Int) + (IntKind.wrap .i64 (((ByteArray.get! (⟨#[0, 1, 2, 2, 3, 3, 3, 3, 4, 4, 4, 4, 4, 4, 4, 4, 5, 5, 5, 5, 5, 5, 5, 5, 5, 5, 5, 5, 5, 5, 5, 5, 6, 6, 6, 6, 6, 6, 6, 6, 6, 6, 6, 6, 6, 6, 6, 6, 6, 6, 6, 6, 6, 6, 6, 6, 6, 6, 6, 6, 6, 6, 6, 6, 7, 7, 7, 7, 7, 7, 7, 7, 7, 7, 7, 7, 7, 7, 7, 7, 7, 7, 7, 7, 7, 7, 7, 7, 7, 7, 7, 7, 7, 7, 7, 7, 7, 7, 7, 7, 7, 7, 7, 7, 7, 7, 7, 7, 7, 7, 7, 7, 7, 7, 7, 7, 7, 7, 7, 7, 7, 7, 7, 7, 7, 7, 7, 7, 8, 8, 8, 8, 8, 8, 8, 8, 8, 8, 8, 8, 8, 8, 8, 8, 8, 8, 8, 8, 8, 8, 8, 8, 8, 8, 8, 8, 8, 8, 8, 8, 8, 8, 8, 8, 8, 8, 8, 8, 8, 8, 8, 8, 8, 8, 8, 8, 8, 8, 8, 8, 8, 8, 8, 8, 8, 8, 8, 8, 8, 8, 8, 8, 8, 8, 8, 8, 8, 8, 8, 8, 8, 8, 8, 8, 8, 8, 8, 8, 8, 8, 8, 8, 8, 8, 8, 8, 8, 8, 8, 8, 8, 8, 8, 8, 8, 8, 8, 8, 8, 8, 8, 8, 8, 8, 8, 8, 8, 8, 8, 8, 8, 8, 8, 8, 8, 8, 8, 8, 8, 8, 8, 8, 8, 8, 8, 8]⟩ : ByteArray) (((IntKind.wrap .u8 t0)).toNat)).toNat : Nat) : Int))))))
  none)
theorem c_bits_Len32.j3.le (n : Nat) (t0 : Int) : Le (c_bits_Len32.j3 n t0) (bits_Len32.j3 t0) := by
  unfold c_bits_Len32.j3 bits_Len32.j3
  try dsimp only
  with_reducible repeat' (first | exact Le.refl _ | apply Le.cond | (refine Le.bind ?_ (fun _ => ?_)) | (refine Le.iter (fun _ => ?_) _ _) | (refine Le.sum (fun _ => ?_) (fun _ => ?_) _))
def c_bits_Len32.j1 (n : Nat) (t0 : Int) : Option (Int) :=
  (cond ((decide (t0 ≥ (256 : Int))))
  ((c_bits_Len32.j2 n (shrI .u32 t0 (8 : Int)) (IntKind.wrap .i64 ((16 : Int) + (8 : Int)))))
  ((c_bits_Len32.j3 n t0)))
theorem c_bits_Len32.j1.le (n : Nat) (t0 : Int) : Le (c_bits_Len32.j1 n t0) (bits_Len32.j1 t0) := by
  unfold c_bits_Len32.j1 bits_Len32.j1
  try dsimp only
  with_reducible repeat' (first | exact Le.refl _ | apply c_bits_Len32.j2.le | apply c_bits_Len32.j3.le | apply Le.cond | (refine Le.bind ?_ (fun _ => ?_)) | (refine Le.iter (fun _ => ?_) _ _) | (refine Le.sum (fun _ => ?_) (fun _ => ?_) _))
def c_bits_Len32.j5 (n : Nat) (t0 : Int) : Option (Int) :=
  (cond (inB (IntKind.wrap .u8 t0) (ByteArray.size (⟨#[0, 1, 2, 2, 3, 3, 3, 3, 4, 4, 4, 4, 4, 4, 4, 4, 5, 5, 5, 5, 5, 5, 5, 5, 5, 5, 5, 5, 5, 5, 5, 5, 6, 6, 6, 6, 6, 6, 6, 6, 6, 6, 6, 6, 6, 6, 6, 6, 6, 6, 6, 6, 6, 6, 6, 6, 6, 6, 6, 6, 6, 6, 6, 6, 7, 7, 7, 7, 7, 7, 7, 7, 7, 7, 7, 7, 7, 7, 7, 7, 7, 7, 7, 7, 7, 7, 7, 7, 7, 7, 7, 7, 7, 7, 7, 7, 7, 7, 7, 7, 7, 7, 7, 7, 7, 7, 7, 7, 7, 7, 7, 7, 7, 7, 7, 7, 7, 7, 7, 7, 7, 7, 7, 7, 7, 7, 7, 7, 8, 8, 8, 8, 8, 8, 8, 8, 8, 8, 8, 8, 8, 8, 8, 8, 8, 8, 8, 8, 8, 8, 8, 8, 8, 8, 8, 8, 8, 8, 8, 8, 8, 8, 8, 8, 8, 8, 8, 8, 8, 8, 8, 8, 8, 8, 8, 8, 8, 8, 8, 8, 8, 8, 8, 8, 8, 8, 8, 8, 8, 8, 8, 8, 8, 8, 8, 8, 8, 8, 8, 8, 8, 8, 8, 8, 8, 8, 8, 8, 8, 8, 8, 8, 8, 8, 8, 8, 8, 8, 8, 8, 8, 8, 8, 8, 8, 8, 8, 8, 8, 8, 8, 8, 8, 8, 8, 8, 8, 8, 8, 8, 8, 8, 8, 8, 8, 8, 8, 8, 8, 8, 8, 8, 8, 8, 8, 8]⟩ : ByteArray)))
  ((some (IntKind.wrap .i64 ((0 : Int) + (IntKind.wrap .i64 (((ByteArray.get! (⟨#[0, 1, 2, 2, 3, 3, 3, 3, 4, 4, 4, 4, 4, 4, 4, 4, 5, 5, 5, 5, 5, 5, 5, 5, 5, 5, 5, 5, 5, 5, 5, 5, 6, 6, 6, 6, 6, 6, 6, 6, 6, 6, 6, 6, 6, 6, 6, 6, 6, 6, 6, 6, 6, 6, 6, 6, 6, 6, 6, 6, 6, 6, 6, 6, 7, 7, 7, 7, 7, 7, 7, 7, 7, 7, 7, 7, 7, 7, 7, 7, 7, 7, 7, 7, 7, 7, 7, 7, 7, 7, 7, 7, 7, 7, 7, 7, 7, 7, 7, 7, 7, 7, 7, 7, 7, 7, 7, 7, 7, 7, 7, 7, 7, 7, 7, 7, 7, 7, 7, 7, 7, 7, 7, 7, 7, 7, 7, 7, 8, 8, 8, 8, 8, 8, 8, 8, 8, 8, 8, 8, 8, 8, 8, 8, 8, 8, 8, 8, 8, 8, 8, 8, 8, 8, 8, 8, 8, 8, 8, 8, 8, 8, 8, 8, 8, 8, 8, 8, 8, 8, 8, 8, 8, 8, 8, 8, 8, 8, 8, 8, 8, 8, 8, 8, 8, 8, 8, 8, 8, 8, 8, 8, 8, 8, 8, 8, 8, 8, 8, 8, 8, 8, 8, 8, 8, 8, 8, 8, 8, 8, 8, 8, 8, 8, 8, 8, 8, 8, 8, 8, 8, 8, 8, 8, 8, 8, 8, 8, 8, 8, 8, 8, 8, 8, 8, 8, 8, 8, 8, 8, 8, 8, 8, 8, 8, 8, 8, 8, 8, 8, 8, 8, 8, 8, 8, 8]⟩ : ByteArray) (((IntKind.wrap .u8 t0)).toNat)).toNat : Nat) : Int))))))
  none)
theorem c_bits_Len32.j5.le (n : Nat) (t0 : Int) : Le (c_bits_Len32.j5 n t0) (bits_Len32.j5 t0) := by
  unfold c_bits_Len32.j5 bits_Len32.j5
  try dsimp only
  with_reducible repeat' (first | exact Le.refl _ | apply Le.cond | (refine Le.bind ?_ (fun _ => ?_)) | (refine Le.iter (fun _ => ?_) _ _) | (refine Le.sum (fun _ => ?_) (fun _ => ?_) _))
def c_bits_Len32.j4 (n : Nat) (t0 : Int) : Option (Int) :=
  (cond ((decide (t0 ≥ (256 : Int))))
  ((c_bits_Len32.j2 n (shrI .u32 t0 (8 : Int)) (IntKind.wrap .i64 ((0 : Int) + (8 : Int)))))
  ((c_bits_Len32.j5 n t0)))
theorem c_bits_Len32.j4.le (n : Nat) (t0 : Int) : Le (c_bits_Len32.j4 n t0) (bits_Len32.j4 t0) := by
  unfold c_bits_Len32.j4 bits_Len32.j4
  try dsimp only
  with_reducible repeat' (first | exact Le.refl _ | apply c_bits_Len32.j2.le | apply c_bits_Len32.j5.le | apply Le.cond | (refine Le.bind ?_ (fun _ => ?_)) | (refine Le.iter (fun _ => ?_) _ _) | (refine Le.sum (fun _ => ?_) (fun _ => ?_) _))
def c_bits_Len32 (n : Nat) (t0 : Int) : Option (Int) :=
  (cond ((decide (t0 ≥ (65536 : Int))))
  ((c_bits_Len32.j1 n (shrI .u32 t0 (16 : Int))))
  ((c_bits_Len32.j4 n t0)))
theorem c_bits_Len32.le (n : Nat) (t0 : Int) : Le (c_bits_Len32 n t0) (bits_Len32 t0) := by
  unfold c_bits_Len32 bits_Len32
  try dsimp only
  with_reducible repeat' (first | exact Le.refl _ | apply c_bits_Len32.j1.le | apply c_bits_Len32.j4.le | apply Le.cond | (refine Le.bind ?_ (fun _ => ?_)) | (refine Le.iter (fun _ => ?_) _ _) | (refine Le.sum (fun _ => ?_) (fun _ => ?_) _))
def c_bits_LeadingZeros32 (n : Nat) (t0 : Int) : Option (Int) :=
  ((c_bits_Len32 n t0).bind fun y1 =>
  (some (IntKind.wrap .i64 ((32 : Int) - y1))))
theorem c_bits_LeadingZeros32.le (n : Nat) (t0 : Int) : Le (c_bits_LeadingZeros32 n t0) (bits_LeadingZeros32 t0) := by
  unfold c_bits_LeadingZeros32 bits_LeadingZeros32
  try dsimp only
  with_reducible repeat' (first | exact Le.refl _ | apply c_bits_Len32.le | apply Le.cond | (refine Le.bind ?_ (fun _ => ?_)) | (refine Le.iter (fun _ => ?_) _ _) | (refine Le.sum (fun _ => ?_) (fun _ => ?_) _))
def c_integer_shift.j1 (n : Nat) (t0 : List Int) (t1 : Int) (t13 : Int) (t14 : Int) (a11 : List (Int)) : Option ((List Int × Int × Int × Int × List Int × Unit) ⊕ ((List Int × Unit))) :=
  (cond (inB t14 (List.length t0))
  (let x2 := (IntKind.wrap .u64 (List.getD t0 (t14.toNat) (0 : Int)))
  (cond (decide (t1 < 0))
  none
  ((cond (inB t14 (List.length a11))
  (let x4 := (orI .u32 (List.getD a11 ((0 + t14.toNat)) (0 : Int)) (IntKind.wrap .u32 (shlI .u64 x2 t1)))
  (cond (inB t14 (List.length a11))
  ((cond (inB (IntKind.wrap .i64 (t14 + (1 : Int))) (List.length (List.set a11 ((0 + t14.toNat)) x4)))
  ((some (.inl (t0, t1, t13, (IntKind.wrap .i64 (t14 + (1 : Int))), (List.set (List.set a11 ((0 + t14.toNat)) x4) ((0 + (((IntKind.wrap .i64 (t14 + (1 : Int)))).toNat))) (IntKind.wrap .u32 (shrI .u64 (shlI .u64 x2 t1) (32 : Int)))), ()))))
  none))
  none))
  none))))
  none)
theorem c_integer_shift.j1.le (n : Nat) (t0 : List Int) (t1 : Int) (t13 : Int) (t14 : Int) (a11 : List (Int)) : Le (c_integer_shift.j1 n t0 t1 t13 t14 a11) (integer_shift.j1 t0 t1 t13 t14 a11) := by
  unfold c_integer_shift.j1 integer_shift.j1
  try dsimp only
  with_reducible repeat' (first | exact Le.refl _ | apply Le.cond | (refine Le.bind ?_ (fun _ => ?_)) | (refine Le.iter (fun _ => ?_) _ _) | (refine Le.sum (fun _ => ?_) (fun _ => ?_) _))
def c_integer_shift.s0 (n : Nat) (t0 : List Int) (t1 : Int) (t13 : Int) (t14 : Int) (a11 : List (Int)) : Option ((List Int × Int × Int × Int × List Int × Unit) ⊕ ((List Int × Unit))) :=
  (cond ((decide (t14 < t13)))
  ((c_integer_shift.j1 n t0 t1 t13 t14 a11))
  ((some (.inr (a11, ())))))
theorem c_integer_shift.s0.le (n : Nat) (t0 : List Int) (t1 : Int) (t13 : Int) (t14 : Int) (a11 : List (Int)) : Le (c_integer_shift.s0 n t0 t1 t13 t14 a11) (integer_shift.s0 t0 t1 t13 t14 a11) := by
  unfold c_integer_shift.s0 integer_shift.s0
  try dsimp only
  with_reducible repeat' (first | exact Le.refl _ | apply c_integer_shift.j1.le | apply Le.cond | (refine Le.bind ?_ (fun _ => ?_)) | (refine Le.iter (fun _ => ?_) _ _) | (refine Le.sum (fun _ => ?_) (fun _ => ?_) _))
def c_integer_shift.k0 (n : Nat) (a11 : List (Int)) : Option (List Int) :=
  (some a11)
theorem c_integer_shift.k0.le (n : Nat) (a11 : List (Int)) : Le (c_integer_shift.k0 n a11) (integer_shift.k0 a11) := by
  unfold c_integer_shift.k0 integer_shift.k0
  try dsimp only
  with_reducible repeat' (first | exact Le.refl _ | apply Le.cond | (refine Le.bind ?_ (fun _ => ?_)) | (refine Le.iter (fun _ => ?_) _ _) | (refine Le.sum (fun _ => ?_) (fun _ => ?_) _))
def c_integer_shift (n : Nat) (t0 : List Int) (t1 : Int) : Option (List Int) :=
  let x1 := (IntKind.wrap .i64 (((List.length t0 : Nat) : Int) + (1 : Int)))
  (cond (inC x1 maxL)
  (((iterC n (fun x : List Int × Int × Int × Int × List Int × Unit => c_integer_shift.s0 n x.1 x.2.1 x.2.2.1 x.2.2.2.1 x.2.2.2.2.1) (t0, t1, ((List.length t0 : Nat) : Int), (0 : Int), (List.replicate (x1.toNat) ((0 : Int) : Int)), ())).bind fun y => c_integer_shift.k0 n y.1))
  none)
theorem c_integer_shift.le (n : Nat) (t0 : List Int) (t1 : Int) : Le (c_integer_shift n t0 t1) (integer_shift t0 t1) := by
  unfold c_integer_shift integer_shift
  try dsimp only
  with_reducible repeat' (first | exact Le.refl _ | apply c_integer_shift.k0.le | apply c_integer_shift.s0.le | apply Le.cond | (refine Le.bind ?_ (fun _ => ?_)) | (refine Le.iter (fun _ => ?_) _ _) | (refine Le.sum (fun _ => ?_) (fun _ => ?_) _))
def c_integer_digit.j1 (n : Nat) (t1 : List Int) (t5 : Int) (t7 : Int) (t8 : Int) (a1000000 : List (Int)) : Option ((List Int × Int × Int × Int × List Int × Unit) ⊕ ((List Int × Int × Int × List Int × Unit))) :=
  (cond (inB (IntKind.wrap .i64 (t5 - (1 : Int))) (List.length t1))
  ((some (.inl (t1, t5, (IntKind.wrap .u64 (t7 - (1 : Int))), (IntKind.wrap .u64 (t8 + (IntKind.wrap .u64 (List.getD t1 (((IntKind.wrap .i64 (t5 - (1 : Int)))).toNat) (0 : Int))))), a1000000, ()))))
  none)
theorem c_integer_digit.j1.le (n : Nat) (t1 : List Int) (t5 : Int) (t7 : Int) (t8 : Int) (a1000000 : List (Int)) : Le (c_integer_digit.j1 n t1 t5 t7 t8 a1000000) (integer_digit.j1 t1 t5 t7 t8 a1000000) := by
  unfold c_integer_digit.j1 integer_digit.j1
  try dsimp only
  with_reducible repeat' (first | exact Le.refl _ | apply Le.cond | (refine Le.bind ?_ (fun _ => ?_)) | (refine Le.iter (fun _ => ?_) _ _) | (refine Le.sum (fun _ => ?_) (fun _ => ?_) _))
def c_integer_digit.s0 (n : Nat) (t1 : List Int) (t5 : Int) (t7 : Int) (t8 : Int) (a1000000 : List (Int)) : Option ((List Int × Int × Int × Int × List Int × Unit) ⊕ ((List Int × Int × Int × List Int × Unit))) :=
  (cond ((decide (t8 < (4294967296 : Int))))
  ((cond (inB (IntKind.wrap .i64 (t5 - (2 : Int))) (List.length t1))
  ((cond (inB (IntKind.wrap .i64 (t5 - (2 : Int))) (List.length a1000000))
  ((cond ((decide ((IntKind.wrap .u64 (t7 * (IntKind.wrap .u64 (List.getD t1 (((IntKind.wrap .i64 (t5 - (2 : Int)))).toNat) (0 : Int))))) > (orI .u64 (shlI .u64 t8 (32 : Int)) (IntKind.wrap .u64 (List.getD a1000000 ((0 + (((IntKind.wrap .i64 (t5 - (2 : Int)))).toNat))) (0 : Int)))))))
  ((c_integer_digit.j1 n t1 t5 t7 t8 a1000000))
  ((some (.inr (t1, t5, t7, a1000000, ()))))))
  none))
  none))
  ((some (.inr (t1, t5, t7, a1000000, ())))))
theorem c_integer_digit.s0.le (n : Nat) (t1 : List Int) (t5 : Int) (t7 : Int) (t8 : Int) (a1000000 : List (Int)) : Le (c_integer_digit.s0 n t1 t5 t7 t8 a1000000) (integer_digit.s0 t1 t5 t7 t8 a1000000) := by
  unfold c_integer_digit.s0 integer_digit.s0
  try dsimp only
  with_reducible repeat' (first | exact Le.refl _ | apply c_integer_digit.j1.le | apply Le.cond | (refine Le.bind ?_ (fun _ => ?_)) | (refine Le.iter (fun _ => ?_) _ _) | (refine Le.sum (fun _ => ?_) (fun _ => ?_) _))
def c_integer_digit.j2 (n : Nat) (t1 : List Int) (t5 : Int) (t7 : Int) (t9 : Int) (t10 : Int) (t81 : Int) (t82 : Int) (a1000000 : List (Int)) : Option ((List Int × Int × Int × Int × Int × Int × Int × List Int × Unit) ⊕ ((List Int × Int × Int × Int × Int × List Int × Unit))) :=
  (cond (inB t82 (List.length t1))
  (let x19 := (IntKind.wrap .u64 (t10 + (IntKind.wrap .u64 (t7 * (IntKind.wrap .u64 (List.getD t1 (t82.toNat) (0 : Int)))))))
  (cond (inB t82 (List.length a1000000))
  (let x21 := (IntKind.wrap .u64 ((IntKind.wrap .u64 (List.getD a1000000 ((0 + t82.toNat)) (0 : Int))) - (andI .u64 x19 (4294967295 : Int))))
  (cond (inB t82 (List.length a1000000))
  ((some (.inl (t1, t5, t7, (shrI .u64 (IntKind.wrap .u64 (x21 - t9)) (63 : Int)), (shrI .u64 x19 (32 : Int)), t81, (IntKind.wrap .i64 (t82 + (1 : Int))), (List.set a1000000 ((0 + t82.toNat)) (IntKind.wrap .u32 (IntKind.wrap .u64 (x21 - t9)))), ()))))
  none))
  none))
  none)
theorem c_integer_digit.j2.le (n : Nat) (t1 : List Int) (t5 : Int) (t7 : Int) (t9 : Int) (t10 : Int) (t81 : Int) (t82 : Int) (a1000000 : List (Int)) : Le (c_integer_digit.j2 n t1 t5 t7 t9 t10 t81 t82 a1000000) (integer_digit.j2 t1 t5 t7 t9 t10 t81 t82 a1000000) := by
  unfold c_integer_digit.j2 integer_digit.j2
  try dsimp only
  with_reducible repeat' (first | exact Le.refl _ | apply Le.cond | (refine Le.bind ?_ (fun _ => ?_)) | (refine Le.iter (fun _ => ?_) _ _) | (refine Le.sum (fun _ => ?_) (fun _ => ?_) _))
def c_integer_digit.s1 (n : Nat) (t1 : List Int) (t5 : Int) (t7 : Int) (t9 : Int) (t10 : Int) (t81 : Int) (t82 : Int) (a1000000 : List (Int)) : Option ((List Int × Int × Int × Int × Int × Int × Int × List Int × Unit) ⊕ ((List Int × Int × Int × Int × Int × List Int × Unit))) :=
  (cond ((decide (t82 < t81)))
  ((c_integer_digit.j2 n t1 t5 t7 t9 t10 t81 t82 a1000000))
  ((some (.inr (t1, t5, t7, t9, t10, a1000000, ())))))
theorem c_integer_digit.s1.le (n : Nat) (t1 : List Int) (t5 : Int) (t7 : Int) (t9 : Int) (t10 : Int) (t81 : Int) (t82 : Int) (a1000000 : List (Int)) : Le (c_integer_digit.s1 n t1 t5 t7 t9 t10 t81 t82 a1000000) (integer_digit.s1 t1 t5 t7 t9 t10 t81 t82 a1000000) := by
  unfold c_integer_digit.s1 integer_digit.s1
  try dsimp only
  with_reducible repeat' (first | exact Le.refl _ | apply c_integer_digit.j2.le | apply Le.cond | (refine Le.bind ?_ (fun _ => ?_)) | (refine Le.iter (fun _ => ?_) _ _) | (refine Le.sum (fun _ => ?_) (fun _ => ?_) _))
def c_integer_digit.j4 (n : Nat) (t1 : List Int) (t5 : Int) (t7 : Int) (t10 : Int) (t133 : Int) (t134 : Int) (a1000000 : List (Int)) : Option ((List Int × Int × Int × Int × Int × Int × List Int × Unit) ⊕ ((Int × Int × Int × List Int × Unit))) :=
  (cond (inB t134 (List.length a1000000))
  ((cond (inB t134 (List.length t1))
  (let x31 := (IntKind.wrap .u64 ((IntKind.wrap .u64 (List.getD a1000000 ((0 + t134.toNat)) (0 : Int))) + (IntKind.wrap .u64 (List.getD t1 (t134.toNat) (0 : Int)))))
  (cond (inB t134 (List.length a1000000))
  ((some (.inl (t1, t5, t7, (shrI .u64 (IntKind.wrap .u64 (t10 + x31)) (32 : Int)), t133, (IntKind.wrap .i64 (t134 + (1 : Int))), (List.set a1000000 ((0 + t134.toNat)) (IntKind.wrap .u32 (IntKind.wrap .u64 (t10 + x31)))), ()))))
  none))
  none))
  none)
theorem c_integer_digit.j4.le (n : Nat) (t1 : List Int) (t5 : Int) (t7 : Int) (t10 : Int) (t133 : Int) (t134 : Int) (a1000000 : List (Int)) : Le (c_integer_digit.j4 n t1 t5 t7 t10 t133 t134 a1000000) (integer_digit.j4 t1 t5 t7 t10 t133 t134 a1000000) := by
  unfold c_integer_digit.j4 integer_digit.j4
  try dsimp only
  with_reducible repeat' (first | exact Le.refl _ | apply Le.cond | (refine Le.bind ?_ (fun _ => ?_)) | (refine Le.iter (fun _ => ?_) _ _) | (refine Le.sum (fun _ => ?_) (fun _ => ?_) _))
def c_integer_digit.s2 (n : Nat) (t1 : List Int) (t5 : Int) (t7 : Int) (t10 : Int) (t133 : Int) (t134 : Int) (a1000000 : List (Int)) : Option ((List Int × Int × Int × Int × Int × Int × List Int × Unit) ⊕ ((Int × Int × Int × List Int × Unit))) :=
  (cond ((decide (t134 < t133)))
  ((c_integer_digit.j4 n t1 t5 t7 t10 t133 t134 a1000000))
  ((some (.inr (t5, t7, t10, a1000000, ())))))
theorem c_integer_digit.s2.le (n : Nat) (t1 : List Int) (t5 : Int) (t7 : Int) (t10 : Int) (t133 : Int) (t134 : Int) (a1000000 : List (Int)) : Le (c_integer_digit.s2 n t1 t5 t7 t10 t133 t134 a1000000) (integer_digit.s2 t1 t5 t7 t10 t133 t134 a1000000) := by
  unfold c_integer_digit.s2 integer_digit.s2
  try dsimp only
  with_reducible repeat' (first | exact Le.refl _ | apply c_integer_digit.j4.le | apply Le.cond | (refine Le.bind ?_ (fun _ => ?_)) | (refine Le.iter (fun _ => ?_) _ _) | (refine Le.sum (fun _ => ?_) (fun _ => ?_) _))
def c_integer_digit.k2 (n : Nat) (z0 : List (Int)) (t5 : Int) (t7 : Int) (t10 : Int) (a1000000 : List (Int)) : Option ((Int) × List (Int)) :=
  (cond (inB t5 (List.length a1000000))
  (let x36 := (IntKind.wrap .u32 ((List.getD a1000000 ((0 + t5.toNat)) (0 : Int)) + (IntKind.wrap .u32 t10)))
  (cond (inB t5 (List.length a1000000))
  ((cond (Nat.beq (List.length ((List.set a1000000 ((0 + t5.toNat)) x36))) (List.length z0)) (some ((IntKind.wrap .u32 (IntKind.wrap .u64 (t7 - (1 : Int)))), (List.set a1000000 ((0 + t5.toNat)) x36))) none))
  none))
  none)
theorem c_integer_digit.k2.le (n : Nat) (z0 : List (Int)) (t5 : Int) (t7 : Int) (t10 : Int) (a1000000 : List (Int)) : Le (c_integer_digit.k2 n z0 t5 t7 t10 a1000000) (integer_digit.k2 z0 t5 t7 t10 a1000000) := by
  unfold c_integer_digit.k2 integer_digit.k2
  try dsimp only
  with_reducible repeat' (first | exact Le.refl _ | apply Le.cond | (refine Le.bind ?_ (fun _ => ?_)) | (refine Le.iter (fun _ => ?_) _ _) | (refine Le.sum (fun _ => ?_) (fun _ => ?_) _))
def c_integer_digit.j3 (n : Nat) (z0 : List (Int)) (t1 : List Int) (t5 : Int) (t7 : Int) (a1000000 : List (Int)) : Option ((Int) × List (Int)) :=
  ((iterC n (fun x : List Int × Int × Int × Int × Int × Int × List Int × Unit => c_integer_digit.s2 n x.1 x.2.1 x.2.2.1 x.2.2.2.1 x.2.2.2.2.1 x.2.2.2.2.2.1 x.2.2.2.2.2.2.1) (t1, t5, t7, (0 : Int), t5, (0 : Int), a1000000, ())).bind fun y => c_integer_digit.k2 n z0 y.1 y.2.1 y.2.2.1 y.2.2.2.1)
theorem c_integer_digit.j3.le (n : Nat) (z0 : List (Int)) (t1 : List Int) (t5 : Int) (t7 : Int) (a1000000 : List (Int)) : Le (c_integer_digit.j3 n z0 t1 t5 t7 a1000000) (integer_digit.j3 z0 t1 t5 t7 a1000000) := by
  unfold c_integer_digit.j3 integer_digit.j3
  try dsimp only
  with_reducible repeat' (first | exact Le.refl _ | apply c_integer_digit.k2.le | apply c_integer_digit.s2.le | apply Le.cond | (refine Le.bind ?_ (fun _ => ?_)) | (refine Le.iter (fun _ => ?_) _ _) | (refine Le.sum (fun _ => ?_) (fun _ => ?_) _))
def c_integer_digit.k1 (n : Nat) (z0 : List (Int)) (t1 : List Int) (t5 : Int) (t7 : Int) (t9 : Int) (t10 : Int) (a1000000 : List (Int)) : Option ((Int) × List (Int)) :=
  (cond (inB t5 (List.length a1000000))
  (let x26 := (IntKind.wrap .u64 ((IntKind.wrap .u64 (List.getD a1000000 ((0 + t5.toNat)) (0 : Int))) - t10))
  let x27 := (IntKind.wrap .u32 (IntKind.wrap .u64 (x26 - t9)))
  (cond (inB t5 (List.length a1000000))
  ((cond (((shrI .u64 (IntKind.wrap .u64 (x26 - t9)) (63 : Int)) == (0 : Int)))
  ((cond (Nat.beq (List.length ((List.set a1000000 ((0 + t5.toNat)) x27))) (List.length z0)) (some ((IntKind.wrap .u32 t7), (List.set a1000000 ((0 + t5.toNat)) x27))) none))
  ((c_integer_digit.j3 n z0 t1 t5 t7 (List.set a1000000 ((0 + t5.toNat)) x27)))))
  none))
  none)
theorem c_integer_digit.k1.le (n : Nat) (z0 : List (Int)) (t1 : List Int) (t5 : Int) (t7 : Int) (t9 : Int) (t10 : Int) (a1000000 : List (Int)) : Le (c_integer_digit.k1 n z0 t1 t5 t7 t9 t10 a1000000) (integer_digit.k1 z0 t1 t5 t7 t9 t10 a1000000) := by
  unfold c_integer_digit.k1 integer_digit.k1
  try dsimp only
  with_reducible repeat' (first | exact Le.refl _ | apply c_integer_digit.j3.le | apply Le.cond | (refine Le.bind ?_ (fun _ => ?_)) | (refine Le.iter (fun _ => ?_) _ _) | (refine Le.sum (fun _ => ?_) (fun _ => ?_) _))
def c_integer_digit.k0 (n : Nat) (z0 : List (Int)) (t1 : List Int) (t5 : Int) (t7 : Int) (a1000000 : List (Int)) : Option ((Int) × List (Int)) :=
  ((iterC n (fun x : List Int × Int × Int × Int × Int × Int × Int × List Int × Unit => c_integer_digit.s1 n x.1 x.2.1 x.2.2.1 x.2.2.2.1 x.2.2.2.2.1 x.2.2.2.2.2.1 x.2.2.2.2.2.2.1 x.2.2.2.2.2.2.2.1) (t1, t5, t7, (0 : Int), (0 : Int), t5, (0 : Int), a1000000, ())).bind fun y => c_integer_digit.k1 n z0 y.1 y.2.1 y.2.2.1 y.2.2.2.1 y.2.2.2.2.1 y.2.2.2.2.2.1)
theorem c_integer_digit.k0.le (n : Nat) (z0 : List (Int)) (t1 : List Int) (t5 : Int) (t7 : Int) (a1000000 : List (Int)) : Le (c_integer_digit.k0 n z0 t1 t5 t7 a1000000) (integer_digit.k0 z0 t1 t5 t7 a1000000) := by
  unfold c_integer_digit.k0 integer_digit.k0
  try dsimp only
  with_reducible repeat' (first | exact Le.refl _ | apply c_integer_digit.k1.le | apply c_integer_digit.s1.le | apply Le.cond | (refine Le.bind ?_ (fun _ => ?_)) | (refine Le.iter (fun _ => ?_) _ _) | (refine Le.sum (fun _ => ?_) (fun _ => ?_) _))
def c_integer_digit (n : Nat) (z0 : List Int) (t1 : List Int) : Option ((Int) × List (Int)) :=
  (cond (inB ((List.length t1 : Nat) : Int) (List.length z0))
  (let x2 := (shlI .u64 (IntKind.wrap .u64 (List.getD z0 ((0 + ((((List.length t1 : Nat) : Int)).toNat))) (0 : Int))) (32 : Int))
  let x3 := (IntKind.wrap .i64 (((List.length t1 : Nat) : Int) - (1 : Int)))
  (cond (inB x3 (List.length z0))
  (let x4 := (List.getD z0 ((0 + x3.toNat)) (0 : Int))
  let x5 := (IntKind.wrap .i64 (((List.length t1 : Nat) : Int) - (1 : Int)))
  (cond (inB x5 (List.length t1))
  (let x6 := (IntKind.wrap .u64 (List.getD t1 (x5.toNat) (0 : Int)))
  (cond (decide (x6 = 0))
  none
  (let x7 := (IntKind.wrap .u64 (Int.tdiv (orI .u64 x2 (IntKind.wrap .u64 x4)) x6))
  let x8 := (IntKind.wrap .i64 (((List.length t1 : Nat) : Int) - (1 : Int)))
  (cond (inB x8 (List.length t1))
  (((iterC n (fun x : List Int × Int × Int × Int × List Int × Unit => c_integer_digit.s0 n x.1 x.2.1 x.2.2.1 x.2.2.2.1 x.2.2.2.2.1) (t1, ((List.length t1 : Nat) : Int), (mn2 x7 (4294967295 : Int)), (IntKind.wrap .u64 ((orI .u64 x2 (IntKind.wrap .u64 x4)) - (IntKind.wrap .u64 ((mn2 x7 (4294967295 : Int)) * (IntKind.wrap .u64 (List.getD t1 (x8.toNat) (0 : Int))))))), z0, ())).bind fun y => c_integer_digit.k0 n z0 y.1 y.2.1 y.2.2.1 y.2.2.2.1))
  none))))
  none))
  none))
  none)
theorem c_integer_digit.le (n : Nat) (z0 : List Int) (t1 : List Int) : Le (c_integer_digit n z0 t1) (integer_digit z0 t1) := by
  unfold c_integer_digit integer_digit
  try dsimp only
  with_reducible repeat' (first | exact Le.refl _ | apply c_integer_digit.k0.le | apply c_integer_digit.s0.le | apply Le.cond | (refine Le.bind ?_ (fun _ => ?_)) | (refine Le.iter (fun _ => ?_) _ _) | (refine Le.sum (fun _ => ?_) (fun _ => ?_) _))
def c_integer_limb.j1 (n : Nat)  : Option (Int) :=
  (some (0 : Int))
theorem c_integer_limb.j1.le (n : Nat)  : Le (c_integer_limb.j1 n) (integer_limb.j1) := by
  unfold c_integer_limb.j1 integer_limb.j1
  try dsimp only
  with_reducible repeat' (first | exact Le.refl _ | apply Le.cond | (refine Le.bind ?_ (fun _ => ?_)) | (refine Le.iter (fun _ => ?_) _ _) | (refine Le.sum (fun _ => ?_) (fun _ => ?_) _))
def c_integer_limb (n : Nat) (t0 : List Int) (t1 : Int) : Option (Int) :=
  (cond ((decide (t1 < ((List.length t0 : Nat) : Int))))
  ((cond (inB t1 (List.length t0))
  ((some (IntKind.wrap .u64 (List.getD t0 (t1.toNat) (0 : Int)))))
  none))
  ((c_integer_limb.j1 n)))
theorem c_integer_limb.le (n : Nat) (t0 : List Int) (t1 : Int) : Le (c_integer_limb n t0 t1) (integer_limb t0 t1) := by
  unfold c_integer_limb integer_limb
  try dsimp only
  with_reducible repeat' (first | exact Le.refl _ | apply c_integer_limb.j1.le | apply Le.cond | (refine Le.bind ?_ (fun _ => ?_)) | (refine Le.iter (fun _ => ?_) _ _) | (refine Le.sum (fun _ => ?_) (fun _ => ?_) _))
def c_integer_unshift.j1 (n : Nat) (t0 : List Int) (t1 : Int) (t11 : Int) (t12 : Int) (a9 : List (Int)) : Option ((List Int × Int × Int × Int × List Int × Unit) ⊕ ((List Int × Unit))) :=
  ((c_integer_limb n t0 (IntKind.wrap .i64 (t12 + (1 : Int)))).bind fun y1 =>
  (cond (inB t12 (List.length t0))
  ((cond (decide (t1 < 0))
  none
  ((cond (inB t12 (List.length a9))
  ((some (.inl (t0, t1, t11, (IntKind.wrap .i64 (t12 + (1 : Int))), (List.set a9 ((0 + t12.toNat)) (IntKind.wrap .u32 (shrI .u64 (orI .u64 (shlI .u64 y1 (32 : Int)) (IntKind.wrap .u64 (List.getD t0 (t12.toNat) (0 : Int)))) t1))), ()))))
  none))))
  none))
theorem c_integer_unshift.j1.le (n : Nat) (t0 : List Int) (t1 : Int) (t11 : Int) (t12 : Int) (a9 : List (Int)) : Le (c_integer_unshift.j1 n t0 t1 t11 t12 a9) (integer_unshift.j1 t0 t1 t11 t12 a9) := by
  unfold c_integer_unshift.j1 integer_unshift.j1
  try dsimp only
  with_reducible repeat' (first | exact Le.refl _ | apply c_integer_limb.le | apply Le.cond | (refine Le.bind ?_ (fun _ => ?_)) | (refine Le.iter (fun _ => ?_) _ _) | (refine Le.sum (fun _ => ?_) (fun _ => ?_) _))
def c_integer_unshift.s0 (n : Nat) (t0 : List Int) (t1 : Int) (t11 : Int) (t12 : Int) (a9 : List (Int)) : Option ((List Int × Int × Int × Int × List Int × Unit) ⊕ ((List Int × Unit))) :=
  (cond ((decide (t12 < t11)))
  ((c_integer_unshift.j1 n t0 t1 t11 t12 a9))
  ((some (.inr (a9, ())))))
theorem c_integer_unshift.s0.le (n : Nat) (t0 : List Int) (t1 : Int) (t11 : Int) (t12 : Int) (a9 : List (Int)) : Le (c_integer_unshift.s0 n t0 t1 t11 t12 a9) (integer_unshift.s0 t0 t1 t11 t12 a9) := by
  unfold c_integer_unshift.s0 integer_unshift.s0
  try dsimp only
  with_reducible repeat' (first | exact Le.refl _ | apply c_integer_unshift.j1.le | apply Le.cond | (refine Le.bind ?_ (fun _ => ?_)) | (refine Le.iter (fun _ => ?_) _ _) | (refine Le.sum (fun _ => ?_) (fun _ => ?_) _))
def c_integer_unshift.k0 (n : Nat) (a9 : List (Int)) : Option (List Int) :=
  ((c_integer_trim n a9).bind fun y5 =>
  (some y5))
theorem c_integer_unshift.k0.le (n : Nat) (a9 : List (Int)) : Le (c_integer_unshift.k0 n a9) (integer_unshift.k0 a9) := by
  unfold c_integer_unshift.k0 integer_unshift.k0
  try dsimp only
  with_reducible repeat' (first | exact Le.refl _ | apply c_integer_trim.le | apply Le.cond | (refine Le.bind ?_ (fun _ => ?_)) | (refine Le.iter (fun _ => ?_) _ _) | (refine Le.sum (fun _ => ?_) (fun _ => ?_) _))
def c_integer_unshift (n : Nat) (t0 : List Int) (t1 : Int) : Option (List Int) :=
  (cond (inC ((List.length t0 : Nat) : Int) maxL)
  (((iterC n (fun x : List Int × Int × Int × Int × List Int × Unit => c_integer_unshift.s0 n x.1 x.2.1 x.2.2.1 x.2.2.2.1 x.2.2.2.2.1) (t0, t1, ((List.length t0 : Nat) : Int), (0 : Int), (List.replicate ((((List.length t0 : Nat) : Int)).toNat) ((0 : Int) : Int)), ())).bind fun y => c_integer_unshift.k0 n y.1))
  none)
theorem c_integer_unshift.le (n : Nat) (t0 : List Int) (t1 : Int) : Le (c_integer_unshift n t0 t1) (integer_unshift t0 t1) := by
  unfold c_integer_unshift integer_unshift
  try dsimp only
  with_reducible repeat' (first | exact Le.refl _ | apply c_integer_unshift.k0.le | apply c_integer_unshift.s0.le | apply Le.cond | (refine Le.bind ?_ (fun _ => ?_)) | (refine Le.iter (fun _ => ?_) _ _) | (refine Le.sum (fun _ => ?_) (fun _ => ?_) _))
def c_integer_divide.j3 (n : Nat) (t1 : List Int) (t8 : Int) (t10 : List Int) (t12 : Int) (a44 : List (Int)) (a57 : List (Int)) : Option ((List Int × Int × List Int × Int × List Int × List Int × Unit) ⊕ ((List Int × Int × List Int × List Int × Unit))) :=
  let x11 := (IntKind.wrap .i64 (t12 + ((List.length t1 : Nat) : Int)))
  (cond (inC (IntKind.wrap .i64 (x11 + (1 : Int))) (List.length a44))
  (cond (decide (0 ≤ t12) && decide (t12 ≤ (IntKind.wrap .i64 (x11 + (1 : Int)))))
  (((c_integer_digit n (List.take (((IntKind.wrap .i64 (x11 + (1 : Int)))).toNat - t12.toNat) (List.drop ((0 + t12.toNat)) a44)) t10).bind fun y12 =>
  (cond (inB t12 (List.length a57))
  ((some (.inl (t1, t8, t10, (IntKind.wrap .i64 (t12 - (1 : Int))), (List.take ((0 + t12.toNat)) a44 ++ y12.2 ++ List.drop ((0 + t12.toNat) + List.length (List.take (((IntKind.wrap .i64 (x11 + (1 : Int)))).toNat - t12.toNat) (List.drop ((0 + t12.toNat)) a44))) a44), (List.set a57 ((0 + t12.toNat)) y12.1), ()))))
  none)))
  none)
  none)
theorem c_integer_divide.j3.le (n : Nat) (t1 : List Int) (t8 : Int) (t10 : List Int) (t12 : Int) (a44 : List (Int)) (a57 : List (Int)) : Le (c_integer_divide.j3 n t1 t8 t10 t12 a44 a57) (integer_divide.j3 t1 t8 t10 t12 a44 a57) := by
  unfold c_integer_divide.j3 integer_divide.j3
  try dsimp only
  with_reducible repeat' (first | exact Le.refl _ | apply c_integer_digit.le | apply Le.cond | (refine Le.bind ?_ (fun _ => ?_)) | (refine Le.iter (fun _ => ?_) _ _) | (refine Le.sum (fun _ => ?_) (fun _ => ?_) _))
def c_integer_divide.s0 (n : Nat) (t1 : List Int) (t8 : Int) (t10 : List Int) (t12 : Int) (a44 : List (Int)) (a57 : List (Int)) : Option ((List Int × Int × List Int × Int × List Int × List Int × Unit) ⊕ ((List Int × Int × List Int × List Int × Unit))) :=
  (cond ((decide (t12 ≥ (0 : Int))))
  ((c_integer_divide.j3 n t1 t8 t10 t12 a44 a57))
  ((some (.inr (t1, t8, a44, a57, ())))))
theorem c_integer_divide.s0.le (n : Nat) (t1 : List Int) (t8 : Int) (t10 : List Int) (t12 : Int) (a44 : List (Int)) (a57 : List (Int)) : Le (c_integer_divide.s0 n t1 t8 t10 t12 a44 a57) (integer_divide.s0 t1 t8 t10 t12 a44 a57) := by
  unfold c_integer_divide.s0 integer_divide.s0
  try dsimp only
  with_reducible repeat' (first | exact Le.refl _ | apply c_integer_divide.j3.le | apply Le.cond | (refine Le.bind ?_ (fun _ => ?_)) | (refine Le.iter (fun _ => ?_) _ _) | (refine Le.sum (fun _ => ?_) (fun _ => ?_) _))
def c_integer_divide.k0 (n : Nat) (t1 : List Int) (t8 : Int) (a44 : List (Int)) (a57 : List (Int)) : Option (List Int × List Int × Unit) :=
  ((c_integer_trim n a57).bind fun y13 =>
  (cond (inC ((List.length t1 : Nat) : Int) (List.length a44))
  (((c_integer_trim n (List.take ((((List.length t1 : Nat) : Int)).toNat) a44)).bind fun y15 =>
  ((c_integer_unshift n y15 t8).bind fun y16 =>
  (some (y13, (y16, ()))))))
  none))
theorem c_integer_divide.k0.le (n : Nat) (t1 : List Int) (t8 : Int) (a44 : List (Int)) (a57 : List (Int)) : Le (c_integer_divide.k0 n t1 t8 a44 a57) (integer_divide.k0 t1 t8 a44 a57) := by
  unfold c_integer_divide.k0 integer_divide.k0
  try dsimp only
  with_reducible repeat' (first | exact Le.refl _ | apply c_integer_trim.le | apply c_integer_unshift.le | apply Le.cond | (refine Le.bind ?_ (fun _ => ?_)) | (refine Le.iter (fun _ => ?_) _ _) | (refine Le.sum (fun _ => ?_) (fun _ => ?_) _))
def c_integer_divide.j2 (n : Nat) (t0 : List Int) (t1 : List Int) : Option (List Int × List Int × Unit) :=
  let x5 := (IntKind.wrap .i64 (((List.length t1 : Nat) : Int) - (1 : Int)))
  (cond (inB x5 (List.length t1))
  (((c_bits_LeadingZeros32 n (List.getD t1 (x5.toNat) (0 : Int))).bind fun y6 =>
  ((c_integer_shift n t0 (IntKind.wrap .u64 y6)).bind fun y7 =>
  ((c_integer_shift n t1 (IntKind.wrap .u64 y6)).bind fun y8 =>
  (cond (inC ((List.length t1 : Nat) : Int) (List.length y8))
  (let x9 := (IntKind.wrap .i64 (((List.length t0 : Nat) : Int) - ((List.length t1 : Nat) : Int)))
  (cond (inC (IntKind.wrap .i64 (x9 + (1 : Int))) maxL)
  (((iterC n (fun x : List Int × Int × List Int × Int × List Int × List Int × Unit => c_integer_divide.s0 n x.1 x.2.1 x.2.2.1 x.2.2.2.1 x.2.2.2.2.1 x.2.2.2.2.2.1) (t1, (IntKind.wrap .u64 y6), (List.take ((((List.length t1 : Nat) : Int)).toNat) (List.drop (0) y8)), (IntKind.wrap .i64 (((List.length (List.replicate (((IntKind.wrap .i64 (x9 + (1 : Int)))).toNat) ((0 : Int) : Int)) : Nat) : Int) - (1 : Int))), y7, (List.replicate (((IntKind.wrap .i64 (x9 + (1 : Int)))).toNat) ((0 : Int) : Int)), ())).bind fun y => c_integer_divide.k0 n y.1 y.2.1 y.2.2.1 y.2.2.2.1))
  none))
  none)))))
  none)
theorem c_integer_divide.j2.le (n : Nat) (t0 : List Int) (t1 : List Int) : Le (c_integer_divide.j2 n t0 t1) (integer_divide.j2 t0 t1) := by
  unfold c_integer_divide.j2 integer_divide.j2
  try dsimp only
  with_reducible repeat' (first | exact Le.refl _ | apply c_bits_LeadingZeros32.le | apply c_integer_divide.k0.le | apply c_integer_divide.s0.le | apply c_integer_shift.le | apply Le.cond | (refine Le.bind ?_ (fun _ => ?_)) | (refine Le.iter (fun _ => ?_) _ _) | (refine Le.sum (fun _ => ?_) (fun _ => ?_) _))
def c_integer_divide.j1 (n : Nat) (t0 : List Int) (t1 : List Int) : Option (List Int × List Int × Unit) :=
  (cond ((((List.length t1 : Nat) : Int) == (1 : Int)))
  ((cond (inB (0 : Int) (List.length t1))
  (((c_integer_shortDivide n t0 (List.getD t1 (0) (0 : Int))).bind fun y3 =>
  ((c_integer_trim n ([y3.2.1] : List (Int))).bind fun y4 =>
  (some (y3.1, (y4, ()))))))
  none))
  ((c_integer_divide.j2 n t0 t1)))
theorem c_integer_divide.j1.le (n : Nat) (t0 : List Int) (t1 : List Int) : Le (c_integer_divide.j1 n t0 t1) (integer_divide.j1 t0 t1) := by
  unfold c_integer_divide.j1 integer_divide.j1
  try dsimp only
  with_reducible repeat' (first | exact Le.refl _ | apply c_integer_divide.j2.le | apply c_integer_shortDivide.le | apply c_integer_trim.le | apply Le.cond | (refine Le.bind ?_ (fun _ => ?_)) | (refine Le.iter (fun _ => ?_) _ _) | (refine Le.sum (fun _ => ?_) (fun _ => ?_) _))
def c_integer_divide (n : Nat) (t0 : List Int) (t1 : List Int) : Option (List Int × List Int × Unit) :=
  ((c_integer_compare n t0 t1).bind fun y1 =>
  (cond ((decide (y1 < (0 : Int))))
  ((cond (decide (List.length t0 ≤ maxL))
  ((some (([] : List Int), (t0, ()))))
  none))
  ((c_integer_divide.j1 n t0 t1))))
theorem c_integer_divide.le (n : Nat) (t0 : List Int) (t1 : List Int) : Le (c_integer_divide n t0 t1) (integer_divide t0 t1) := by
  unfold c_integer_divide integer_divide
  try dsimp only
  with_reducible repeat' (first | exact Le.refl _ | apply c_integer_compare.le | apply c_integer_divide.j1.le | apply Le.cond | (refine Le.bind ?_ (fun _ => ?_)) | (refine Le.iter (fun _ => ?_) _ _) | (refine Le.sum (fun _ => ?_) (fun _ => ?_) _))
def c_integer_plus.j1 (n : Nat) (t0 : List Int) (t1 : List Int) (t5 : Int) (t7 : Int) (t17 : Int) (t18 : Int) (a16 : List (Int)) : Option ((List Int × List Int × Int × Int × Int × Int × List Int × Unit) ⊕ ((Int × Int × List Int × Unit))) :=
  ((c_integer_limb n t0 t18).bind fun y2 =>
  ((c_integer_limb n t1 t18).bind fun y3 =>
  let x4 := (IntKind.wrap .u64 (t7 + (IntKind.wrap .u64 (y2 + y3))))
  (cond (inB t18 (List.length a16))
  ((some (.inl (t0, t1, t5, (shrI .u64 x4 (32 : Int)), t17, (IntKind.wrap .i64 (t18 + (1 : Int))), (List.set a16 ((0 + t18.toNat)) (IntKind.wrap .u32 x4)), ()))))
  none)))
theorem c_integer_plus.j1.le (n : Nat) (t0 : List Int) (t1 : List Int) (t5 : Int) (t7 : Int) (t17 : Int) (t18 : Int) (a16 : List (Int)) : Le (c_integer_plus.j1 n t0 t1 t5 t7 t17 t18 a16) (integer_plus.j1 t0 t1 t5 t7 t17 t18 a16) := by
  unfold c_integer_plus.j1 integer_plus.j1
  try dsimp only
  with_reducible repeat' (first | exact Le.refl _ | apply c_integer_limb.le | apply Le.cond | (refine Le.bind ?_ (fun _ => ?_)) | (refine Le.iter (fun _ => ?_) _ _) | (refine Le.sum (fun _ => ?_) (fun _ => ?_) _))
def c_integer_plus.s0 (n : Nat) (t0 : List Int) (t1 : List Int) (t5 : Int) (t7 : Int) (t17 : Int) (t18 : Int) (a16 : List (Int)) : Option ((List Int × List Int × Int × Int × Int × Int × List Int × Unit) ⊕ ((Int × Int × List Int × Unit))) :=
  (cond ((decide (t18 < t17)))
  ((c_integer_plus.j1 n t0 t1 t5 t7 t17 t18 a16))
  ((some (.inr (t5, t7, a16, ())))))
theorem c_integer_plus.s0.le (n : Nat) (t0 : List Int) (t1 : List Int) (t5 : Int) (t7 : Int) (t17 : Int) (t18 : Int) (a16 : List (Int)) : Le (c_integer_plus.s0 n t0 t1 t5 t7 t17 t18 a16) (integer_plus.s0 t0 t1 t5 t7 t17 t18 a16) := by
  unfold c_integer_plus.s0 integer_plus.s0
  try dsimp only
  with_reducible repeat' (first | exact Le.refl _ | apply c_integer_plus.j1.le | apply Le.cond | (refine Le.bind ?_ (fun _ => ?_)) | (refine Le.iter (fun _ => ?_) _ _) | (refine Le.sum (fun _ => ?_) (fun _ => ?_) _))
def c_integer_plus.k0 (n : Nat) (t5 : Int) (t7 : Int) (a16 : List (Int)) : Option (List Int) :=
  (cond (inB t5 (List.length a16))
  (((c_integer_trim n (List.set a16 ((0 + t5.toNat)) (IntKind.wrap .u32 t7))).bind fun y7 =>
  (some y7)))
  none)
theorem c_integer_plus.k0.le (n : Nat) (t5 : Int) (t7 : Int) (a16 : List (Int)) : Le (c_integer_plus.k0 n t5 t7 a16) (integer_plus.k0 t5 t7 a16) := by
  unfold c_integer_plus.k0 integer_plus.k0
  try dsimp only
  with_reducible repeat' (first | exact Le.refl _ | apply c_integer_trim.le | apply Le.cond | (refine Le.bind ?_ (fun _ => ?_)) | (refine Le.iter (fun _ => ?_) _ _) | (refine Le.sum (fun _ => ?_) (fun _ => ?_) _))
def c_integer_plus (n : Nat) (t0 : List Int) (t1 : List Int) : Option (List Int) :=
  let x1 := (mx2 ((List.length t0 : Nat) : Int) ((List.length t1 : Nat) : Int))
  (cond (inC (IntKind.wrap .i64 (x1 + (1 : Int))) maxL)
  (((iterC n (fun x : List Int × List Int × Int × Int × Int × Int × List Int × Unit => c_integer_plus.s0 n x.1 x.2.1 x.2.2.1 x.2.2.2.1 x.2.2.2.2.1 x.2.2.2.2.2.1 x.2.2.2.2.2.2.1) (t0, t1, x1, (0 : Int), x1, (0 : Int), (List.replicate (((IntKind.wrap .i64 (x1 + (1 : Int)))).toNat) ((0 : Int) : Int)), ())).bind fun y => c_integer_plus.k0 n y.1 y.2.1 y.2.2.1))
  none)
theorem c_integer_plus.le (n : Nat) (t0 : List Int) (t1 : List Int) : Le (c_integer_plus n t0 t1) (integer_plus t0 t1) := by
  unfold c_integer_plus integer_plus
  try dsimp only
  with_reducible repeat' (first | exact Le.refl _ | apply c_integer_plus.k0.le | apply c_integer_plus.s0.le | apply Le.cond | (refine Le.bind ?_ (fun _ => ?_)) | (refine Le.iter (fun _ => ?_) _ _) | (refine Le.sum (fun _ => ?_) (fun _ => ?_) _))
def c_integer_minus.j1 (n : Nat) (t0 : List Int) (t1 : List Int) (t6 : Int) (t13 : Int) (t14 : Int) (a11 : List (Int)) : Option ((List Int × List Int × Int × Int × Int × List Int × Unit) ⊕ ((List Int × Unit))) :=
  (cond (inB t14 (List.length t0))
  (((c_integer_limb n t1 t14).bind fun y2 =>
  let x3 := (IntKind.wrap .u64 ((IntKind.wrap .u64 ((IntKind.wrap .u64 (List.getD t0 (t14.toNat) (0 : Int))) - y2)) - t6))
  (cond (inB t14 (List.length a11))
  ((some (.inl (t0, t1, (shrI .u64 x3 (63 : Int)), t13, (IntKind.wrap .i64 (t14 + (1 : Int))), (List.set a11 ((0 + t14.toNat)) (IntKind.wrap .u32 x3)), ()))))
  none)))
  none)
theorem c_integer_minus.j1.le (n : Nat) (t0 : List Int) (t1 : List Int) (t6 : Int) (t13 : Int) (t14 : Int) (a11 : List (Int)) : Le (c_integer_minus.j1 n t0 t1 t6 t13 t14 a11) (integer_minus.j1 t0 t1 t6 t13 t14 a11) := by
  unfold c_integer_minus.j1 integer_minus.j1
  try dsimp only
  with_reducible repeat' (first | exact Le.refl _ | apply c_integer_limb.le | apply Le.cond | (refine Le.bind ?_ (fun _ => ?_)) | (refine Le.iter (fun _ => ?_) _ _) | (refine Le.sum (fun _ => ?_) (fun _ => ?_) _))
def c_integer_minus.s0 (n : Nat) (t0 : List Int) (t1 : List Int) (t6 : Int) (t13 : Int) (t14 : Int) (a11 : List (Int)) : Option ((List Int × List Int × Int × Int × Int × List Int × Unit) ⊕ ((List Int × Unit))) :=
  (cond ((decide (t14 < t13)))
  ((c_integer_minus.j1 n t0 t1 t6 t13 t14 a11))
  ((some (.inr (a11, ())))))
theorem c_integer_minus.s0.le (n : Nat) (t0 : List Int) (t1 : List Int) (t6 : Int) (t13 : Int) (t14 : Int) (a11 : List (Int)) : Le (c_integer_minus.s0 n t0 t1 t6 t13 t14 a11) (integer_minus.s0 t0 t1 t6 t13 t14 a11) := by
  unfold c_integer_minus.s0 integer_minus.s0
  try dsimp only
  with_reducible repeat' (first | exact Le.refl _ | apply c_integer_minus.j1.le | apply Le.cond | (refine Le.bind ?_ (fun _ => ?_)) | (refine Le.iter (fun _ => ?_) _ _) | (refine Le.sum (fun _ => ?_) (fun _ => ?_) _))
def c_integer_minus.k0 (n : Nat) (a11 : List (Int)) : Option (List Int) :=
  ((c_integer_trim n a11).bind fun y5 =>
  (some y5))
theorem c_integer_minus.k0.le (n : Nat) (a11 : List (Int)) : Le (c_integer_minus.k0 n a11) (integer_minus.k0 a11) := by
  unfold c_integer_minus.k0 integer_minus.k0
  try dsimp only
  with_reducible repeat' (first | exact Le.refl _ | apply c_integer_trim.le | apply Le.cond | (refine Le.bind ?_ (fun _ => ?_)) | (refine Le.iter (fun _ => ?_) _ _) | (refine Le.sum (fun _ => ?_) (fun _ => ?_) _))
def c_integer_minus (n : Nat) (t0 : List Int) (t1 : List Int) : Option (List Int) :=
  (cond (inC ((List.length t0 : Nat) : Int) maxL)
  (((iterC n (fun x : List Int × List Int × Int × Int × Int × List Int × Unit => c_integer_minus.s0 n x.1 x.2.1 x.2.2.1 x.2.2.2.1 x.2.2.2.2.1 x.2.2.2.2.2.1) (t0, t1, (0 : Int), ((List.length t0 : Nat) : Int), (0 : Int), (List.replicate ((((List.length t0 : Nat) : Int)).toNat) ((0 : Int) : Int)), ())).bind fun y => c_integer_minus.k0 n y.1))
  none)
theorem c_integer_minus.le (n : Nat) (t0 : List Int) (t1 : List Int) : Le (c_integer_minus n t0 t1) (integer_minus t0 t1) := by
  unfold c_integer_minus integer_minus
  try dsimp only
  with_reducible repeat' (first | exact Le.refl _ | apply c_integer_minus.k0.le | apply c_integer_minus.s0.le | apply Le.cond | (refine Le.bind ?_ (fun _ => ?_)) | (refine Le.iter (fun _ => ?_) _ _) | (refine Le.sum (fun _ => ?_) (fun _ => ?_) _))
def c_integer_DivMod.j2 (n : Nat) (t8 : List Int) (t9 : List Int) (b2_0 : Bool) (b2_1 : List Int) (b3_0 : Bool) (b3_1 : List Int) (b4_1 : List Int) (b5_1 : List Int) : Option ((Bool × List Int × Unit) × (Bool × List Int × Unit) × Bool × Unit) :=
  ((c_integer_signed n (!(b2_0 == b3_0)) t8).bind fun y8 =>
  ((c_integer_signed n false t9).bind fun y9 =>
  (some ((y8.1, (y8.2.1, ())), ((y9.1, (y9.2.1, ())), (true, ()))))))
theorem c_integer_DivMod.j2.le (n : Nat) (t8 : List Int) (t9 : List Int) (b2_0 : Bool) (b2_1 : List Int) (b3_0 : Bool) (b3_1 : List Int) (b4_1 : List Int) (b5_1 : List Int) : Le (c_integer_DivMod.j2 n t8 t9 b2_0 b2_1 b3_0 b3_1 b4_1 b5_1) (integer_DivMod.j2 t8 t9 b2_0 b2_1 b3_0 b3_1 b4_1 b5_1) := by
  unfold c_integer_DivMod.j2 integer_DivMod.j2
  try dsimp only
  with_reducible repeat' (first | exact Le.refl _ | apply c_integer_signed.le | apply Le.cond | (refine Le.bind ?_ (fun _ => ?_)) | (refine Le.iter (fun _ => ?_) _ _) | (refine Le.sum (fun _ => ?_) (fun _ => ?_) _))
def c_integer_DivMod.j1 (n : Nat) (t7 : List Int) (b2_0 : Bool) (b2_1 : List Int) (b3_0 : Bool) (b3_1 : List Int) (b4_1 : List Int) (b5_1 : List Int) : Option ((Bool × List Int × Unit) × (Bool × List Int × Unit) × Bool × Unit) :=
  ((c_integer_magnitude n (b2_0, (b2_1, ()))).bind fun y3 =>
  ((c_integer_divide n y3 t7).bind fun y4 =>
  (cond (b2_0)
  ((cond ((decide (((List.length y4.2.1 : Nat) : Int) > (0 : Int))))
  (((c_integer_plus n y4.1 ([(1 : Int)] : List (Int))).bind fun y6 =>
  ((c_integer_minus n t7 y4.2.1).bind fun y7 =>
  (c_integer_DivMod.j2 n y6 y7 b2_0 b2_1 b3_0 b3_1 b4_1 b5_1))))
  ((c_integer_DivMod.j2 n y4.1 y4.2.1 b2_0 b2_1 b3_0 b3_1 b4_1 b5_1))))
  (((c_integer_signed n (!(b2_0 == b3_0)) y4.1).bind fun y10 =>
  ((c_integer_signed n false y4.2.1).bind fun y11 =>
  (some ((y10.1, (y10.2.1, ())), ((y11.1, (y11.2.1, ())), (true, ()))))))))))
theorem c_integer_DivMod.j1.le (n : Nat) (t7 : List Int) (b2_0 : Bool) (b2_1 : List Int) (b3_0 : Bool) (b3_1 : List Int) (b4_1 : List Int) (b5_1 : List Int) : Le (c_integer_DivMod.j1 n t7 b2_0 b2_1 b3_0 b3_1 b4_1 b5_1) (integer_DivMod.j1 t7 b2_0 b2_1 b3_0 b3_1 b4_1 b5_1) := by
  unfold c_integer_DivMod.j1 integer_DivMod.j1
  try dsimp only
  with_reducible repeat' (first | exact Le.refl _ | apply c_integer_DivMod.j2.le | apply c_integer_divide.le | apply c_integer_magnitude.le | apply c_integer_minus.le | apply c_integer_plus.le | apply c_integer_signed.le | apply Le.cond | (refine Le.bind ?_ (fun _ => ?_)) | (refine Le.iter (fun _ => ?_) _ _) | (refine Le.sum (fun _ => ?_) (fun _ => ?_) _))
def c_integer_DivMod (n : Nat) (t0 : Bool × List Int × Unit) (t1 : Bool × List Int × Unit) : Option ((Bool × List Int × Unit) × (Bool × List Int × Unit) × Bool × Unit) :=
  ((c_integer_magnitude n (t1.1, (t1.2.1, ()))).bind fun y1 =>
  (cond ((((List.length y1 : Nat) : Int) == (0 : Int)))
  ((some ((false, (([] : List Int), ())), ((false, (([] : List Int), ())), (false, ())))))
  ((c_integer_DivMod.j1 n y1 t0.1 t0.2.1 t1.1 t1.2.1 ([] : List Int) ([] : List Int)))))
theorem c_integer_DivMod.le (n : Nat) (t0 : Bool × List Int × Unit) (t1 : Bool × List Int × Unit) : Le (c_integer_DivMod n t0 t1) (integer_DivMod t0 t1) := by
  unfold c_integer_DivMod integer_DivMod
  try dsimp only
  with_reducible repeat' (first | exact Le.refl _ | apply c_integer_DivMod.j1.le | apply c_integer_magnitude.le | apply Le.cond | (refine Le.bind ?_ (fun _ => ?_)) | (refine Le.iter (fun _ => ?_) _ _) | (refine Le.sum (fun _ => ?_) (fun _ => ?_) _))
def c_integer_Gcd.j1 (n : Nat) (t5 : List Int) (t6 : List Int) (b4_0 : Bool) (b4_1 : List Int) : Option ((List Int × List Int × (Bool × List Int × Unit) × Unit) ⊕ ((List Int × (Bool × List Int × Unit) × Unit))) :=
  ((c_integer_divide n t5 t6).bind fun y4 =>
  (some (.inl (t6, y4.2.1, (b4_0, (b4_1, ())), ()))))
theorem c_integer_Gcd.j1.le (n : Nat) (t5 : List Int) (t6 : List Int) (b4_0 : Bool) (b4_1 : List Int) : Le (c_integer_Gcd.j1 n t5 t6 b4_0 b4_1) (integer_Gcd.j1 t5 t6 b4_0 b4_1) := by
  unfold c_integer_Gcd.j1 integer_Gcd.j1
  try dsimp only
  with_reducible repeat' (first | exact Le.refl _ | apply c_integer_divide.le | apply Le.cond | (refine Le.bind ?_ (fun _ => ?_)) | (refine Le.iter (fun _ => ?_) _ _) | (refine Le.sum (fun _ => ?_) (fun _ => ?_) _))
def c_integer_Gcd.s0 (n : Nat) (t5 : List Int) (t6 : List Int) (b4 : Bool × List Int × Unit) : Option ((List Int × List Int × (Bool × List Int × Unit) × Unit) ⊕ ((List Int × (Bool × List Int × Unit) × Unit))) :=
  (cond ((decide (((List.length t6 : Nat) : Int) > (0 : Int))))
  ((c_integer_Gcd.j1 n t5 t6 b4.1 b4.2.1))
  ((some (.inr (t5, (b4.1, (b4.2.1, ())), ())))))
theorem c_integer_Gcd.s0.le (n : Nat) (t5 : List Int) (t6 : List Int) (b4 : Bool × List Int × Unit) : Le (c_integer_Gcd.s0 n t5 t6 b4) (integer_Gcd.s0 t5 t6 b4) := by
  unfold c_integer_Gcd.s0 integer_Gcd.s0
  try dsimp only
  with_reducible repeat' (first | exact Le.refl _ | apply c_integer_Gcd.j1.le | apply Le.cond | (refine Le.bind ?_ (fun _ => ?_)) | (refine Le.iter (fun _ => ?_) _ _) | (refine Le.sum (fun _ => ?_) (fun _ => ?_) _))
def c_integer_Gcd.k0 (n : Nat) (t5 : List Int) (b4 : Bool × List Int × Unit) : Option (Bool × List Int × Unit) :=
  ((c_integer_signed n false t5).bind fun y5 =>
  (some (y5.1, (y5.2.1, ()))))
theorem c_integer_Gcd.k0.le (n : Nat) (t5 : List Int) (b4 : Bool × List Int × Unit) : Le (c_integer_Gcd.k0 n t5 b4) (integer_Gcd.k0 t5 b4) := by
  unfold c_integer_Gcd.k0 integer_Gcd.k0
  try dsimp only
  with_reducible repeat' (first | exact Le.refl _ | apply c_integer_signed.le | apply Le.cond | (refine Le.bind ?_ (fun _ => ?_)) | (refine Le.iter (fun _ => ?_) _ _) | (refine Le.sum (fun _ => ?_) (fun _ => ?_) _))
def c_integer_Gcd (n : Nat) (t0 : Bool × List Int × Unit) (t1 : Bool × List Int × Unit) : Option (Bool × List Int × Unit) :=
  ((c_integer_Normalize n (t0.1, (t0.2.1, ()))).bind fun y1 =>
  ((c_integer_Normalize n (t1.1, (t1.2.1, ()))).bind fun y2 =>
  ((iterC n (fun x : List Int × List Int × (Bool × List Int × Unit) × Unit => c_integer_Gcd.s0 n x.1 x.2.1 x.2.2.1) (y1.2.1, y2.2.1, (false, (([] : List Int), ())), ())).bind fun y => c_integer_Gcd.k0 n y.1 y.2.1)))
theorem c_integer_Gcd.le (n : Nat) (t0 : Bool × List Int × Unit) (t1 : Bool × List Int × Unit) : Le (c_integer_Gcd n t0 t1) (integer_Gcd t0 t1) := by
  unfold c_integer_Gcd integer_Gcd
  try dsimp only
  with_reducible repeat' (first | exact Le.refl _ | apply c_integer_Gcd.k0.le | apply c_integer_Gcd.s0.le | apply c_integer_Normalize.le | apply Le.cond | (refine Le.bind ?_ (fun _ => ?_)) | (refine Le.iter (fun _ => ?_) _ _) | (refine Le.sum (fun _ => ?_) (fun _ => ?_) _))
def c_rational_fraction__rat (n : Nat) (t0 : (Bool × List Int × Unit) × (Bool × List Int × Unit) × Unit) : Option ((Bool × List Int × Unit) × (Bool × List Int × Unit) × Unit) :=
  ((c_integer_Gcd n (t0.1.1, (t0.1.2.1, ())) (t0.2.1.1, (t0.2.1.2.1, ()))).bind fun y1 =>
  ((c_integer_DivMod n (t0.1.1, (t0.1.2.1, ())) (y1.1, (y1.2.1, ()))).bind fun y2 =>
  ((c_integer_DivMod n (t0.2.1.1, (t0.2.1.2.1, ())) (y1.1, (y1.2.1, ()))).bind fun y3 =>
  (some ((y2.1.1, (y2.1.2.1, ())), ((y3.1.1, (y3.1.2.1, ())), ()))))))
theorem c_rational_fraction__rat.le (n : Nat) (t0 : (Bool × List Int × Unit) × (Bool × List Int × Unit) × Unit) : Le (c_rational_fraction__rat n t0) (rational_fraction__rat t0) := by
  unfold c_rational_fraction__rat rational_fraction__rat
  try dsimp only
  with_reducible repeat' (first | exact Le.refl _ | apply c_integer_DivMod.le | apply c_integer_Gcd.le | apply Le.cond | (refine Le.bind ?_ (fun _ => ?_)) | (refine Le.iter (fun _ => ?_) _ _) | (refine Le.sum (fun _ => ?_) (fun _ => ?_) _))
def c_rational_Mul (n : Nat) (t0 : (Bool × List Int × Unit) × (Bool × List Int × Unit) × Unit) (t1 : (Bool × List Int × Unit) × (Bool × List Int × Unit) × Unit) : Option ((Bool × List Int × Unit) × (Bool × List Int × Unit) × Unit) :=
  ((c_rational_of n ((t0.1.1, (t0.1.2.1, ())), ((t0.2.1.1, (t0.2.1.2.1, ())), ()))).bind fun y1 =>
  ((c_rational_of n ((t1.1.1, (t1.1.2.1, ())), ((t1.2.1.1, (t1.2.1.2.1, ())), ()))).bind fun y2 =>
  ((c_rational_product n ([(y1.1.1, (y1.1.2.1, ())), (y2.1.1, (y2.1.2.1, ()))] : List (Bool × List Int × Unit))).bind fun y3 =>
  ((c_rational_product n ([(y1.2.1.1, (y1.2.1.2.1, ())), (y2.2.1.1, (y2.2.1.2.1, ()))] : List (Bool × List Int × Unit))).bind fun y4 =>
  ((c_rational_fraction__rat n ((y3.1, (y3.2.1, ())), ((y4.1, (y4.2.1, ())), ()))).bind fun y5 =>
  (some ((y5.1.1, (y5.1.2.1, ())), ((y5.2.1.1, (y5.2.1.2.1, ())), ()))))))))
theorem c_rational_Mul.le (n : Nat) (t0 : (Bool × List Int × Unit) × (Bool × List Int × Unit) × Unit) (t1 : (Bool × List Int × Unit) × (Bool × List Int × Unit) × Unit) : Le (c_rational_Mul n t0 t1) (rational_Mul t0 t1) := by
  unfold c_rational_Mul rational_Mul
  try dsimp only
  with_reducible repeat' (first | exact Le.refl _ | apply c_rational_fraction__rat.le | apply c_rational_of.le | apply c_rational_product.le | apply Le.cond | (refine Le.bind ?_ (fun _ => ?_)) | (refine Le.iter (fun _ => ?_) _ _) | (refine Le.sum (fun _ => ?_) (fun _ => ?_) _))
def c_integer_Pow.j4 (n : Nat) (t1 : Int) (b4_0 : Bool) (b4_1 : List Int) (b6_0 : Bool) (b6_1 : List Int) (b7_0 : Bool) (b7_1 : List Int) : Option ((Int × (Bool × List Int × Unit) × (Bool × List Int × Unit) × (Bool × List Int × Unit) × Unit) ⊕ (((Bool × List Int × Unit) × (Bool × List Int × Unit) × Unit))) :=
  (some (.inl ((IntKind.wrap .i64 (Int.tdiv t1 (2 : Int))), (b4_0, (b4_1, ())), (b6_0, (b6_1, ())), (b7_0, (b7_1, ())), ())))
theorem c_integer_Pow.j4.le (n : Nat) (t1 : Int) (b4_0 : Bool) (b4_1 : List Int) (b6_0 : Bool) (b6_1 : List Int) (b7_0 : Bool) (b7_1 : List Int) : Le (c_integer_Pow.j4 n t1 b4_0 b4_1 b6_0 b6_1 b7_0 b7_1) (integer_Pow.j4 t1 b4_0 b4_1 b6_0 b6_1 b7_0 b7_1) := by
  unfold c_integer_Pow.j4 integer_Pow.j4
  try dsimp only
  with_reducible repeat' (first | exact Le.refl _ | apply Le.cond | (refine Le.bind ?_ (fun _ => ?_)) | (refine Le.iter (fun _ => ?_) _ _) | (refine Le.sum (fun _ => ?_) (fun _ => ?_) _))
def c_integer_Pow.j3 (n : Nat) (t1 : Int) (b4_0 : Bool) (b4_1 : List Int) (b6_0 : Bool) (b6_1 : List Int) (b7_0 : Bool) (b7_1 : List Int) : Option ((Int × (Bool × List Int × Unit) × (Bool × List Int × Unit) × (Bool × List Int × Unit) × Unit) ⊕ (((Bool × List Int × Unit) × (Bool × List Int × Unit) × Unit))) :=
  (cond ((decide (t1 > (1 : Int))))
  (((c_integer_Mul n (b7_0, (b7_1, ())) (b7_0, (b7_1, ()))).bind fun y4 =>
  (c_integer_Pow.j4 n t1 b4_0 b4_1 b6_0 b6_1 y4.1 y4.2.1)))
  ((c_integer_Pow.j4 n t1 b4_0 b4_1 b6_0 b6_1 b7_0 b7_1)))
theorem c_integer_Pow.j3.le (n : Nat) (t1 : Int) (b4_0 : Bool) (b4_1 : List Int) (b6_0 : Bool) (b6_1 : List Int) (b7_0 : Bool) (b7_1 : List Int) : Le (c_integer_Pow.j3 n t1 b4_0 b4_1 b6_0 b6_1 b7_0 b7_1) (integer_Pow.j3 t1 b4_0 b4_1 b6_0 b6_1 b7_0 b7_1) := by
  unfold c_integer_Pow.j3 integer_Pow.j3
  try dsimp only
  with_reducible repeat' (first | exact Le.refl _ | apply c_integer_Mul.le | apply c_integer_Pow.j4.le | apply Le.cond | (refine Le.bind ?_ (fun _ => ?_)) | (refine Le.iter (fun _ => ?_) _ _) | (refine Le.sum (fun _ => ?_) (fun _ => ?_) _))
def c_integer_Pow.j2 (n : Nat) (t1 : Int) (b4_0 : Bool) (b4_1 : List Int) (b6_0 : Bool) (b6_1 : List Int) (b7_0 : Bool) (b7_1 : List Int) : Option ((Int × (Bool × List Int × Unit) × (Bool × List Int × Unit) × (Bool × List Int × Unit) × Unit) ⊕ (((Bool × List Int × Unit) × (Bool × List Int × Unit) × Unit))) :=
  (cond (((Int.tmod t1 (2 : Int)) == (1 : Int)))
  (((c_integer_Mul n (b6_0, (b6_1, ())) (b7_0, (b7_1, ()))).bind fun y3 =>
  (c_integer_Pow.j3 n t1 b4_0 b4_1 y3.1 y3.2.1 b7_0 b7_1)))
  ((c_integer_Pow.j3 n t1 b4_0 b4_1 b6_0 b6_1 b7_0 b7_1)))
theorem c_integer_Pow.j2.le (n : Nat) (t1 : Int) (b4_0 : Bool) (b4_1 : List Int) (b6_0 : Bool) (b6_1 : List Int) (b7_0 : Bool) (b7_1 : List Int) : Le (c_integer_Pow.j2 n t1 b4_0 b4_1 b6_0 b6_1 b7_0 b7_1) (integer_Pow.j2 t1 b4_0 b4_1 b6_0 b6_1 b7_0 b7_1) := by
  unfold c_integer_Pow.j2 integer_Pow.j2
  try dsimp only
  with_reducible repeat' (first | exact Le.refl _ | apply c_integer_Mul.le | apply c_integer_Pow.j3.le | apply Le.cond | (refine Le.bind ?_ (fun _ => ?_)) | (refine Le.iter (fun _ => ?_) _ _) | (refine Le.sum (fun _ => ?_) (fun _ => ?_) _))
def c_integer_Pow.s0 (n : Nat) (t1 : Int) (b4 : Bool × List Int × Unit) (b6 : Bool × List Int × Unit) (b7 : Bool × List Int × Unit) : Option ((Int × (Bool × List Int × Unit) × (Bool × List Int × Unit) × (Bool × List Int × Unit) × Unit) ⊕ (((Bool × List Int × Unit) × (Bool × List Int × Unit) × Unit))) :=
  (cond ((decide (t1 > (0 : Int))))
  ((c_integer_Pow.j2 n t1 b4.1 b4.2.1 b6.1 b6.2.1 b7.1 b7.2.1))
  ((some (.inr ((b4.1, (b4.2.1, ())), (b6.1, (b6.2.1, ())), ())))))
theorem c_integer_Pow.s0.le (n : Nat) (t1 : Int) (b4 : Bool × List Int × Unit) (b6 : Bool × List Int × Unit) (b7 : Bool × List Int × Unit) : Le (c_integer_Pow.s0 n t1 b4 b6 b7) (integer_Pow.s0 t1 b4 b6 b7) := by
  unfold c_integer_Pow.s0 integer_Pow.s0
  try dsimp only
  with_reducible repeat' (first | exact Le.refl _ | apply c_integer_Pow.j2.le | apply Le.cond | (refine Le.bind ?_ (fun _ => ?_)) | (refine Le.iter (fun _ => ?_) _ _) | (refine Le.sum (fun _ => ?_) (fun _ => ?_) _))
def c_integer_Pow.k0 (n : Nat) (b4 : Bool × List Int × Unit) (b6 : Bool × List Int × Unit) : Option ((Bool × List Int × Unit) × Bool × Unit) :=
  (some ((b6.1, (b6.2.1, ())), (true, ())))
theorem c_integer_Pow.k0.le (n : Nat) (b4 : Bool × List Int × Unit) (b6 : Bool × List Int × Unit) : Le (c_integer_Pow.k0 n b4 b6) (integer_Pow.k0 b4 b6) := by
  unfold c_integer_Pow.k0 integer_Pow.k0
  try dsimp only
  with_reducible repeat' (first | exact Le.refl _ | apply Le.cond | (refine Le.bind ?_ (fun _ => ?_)) | (refine Le.iter (fun _ => ?_) _ _) | (refine Le.sum (fun _ => ?_) (fun _ => ?_) _))
def c_integer_Pow.j1 (n : Nat) (t1 : Int) (b2_0 : Bool) (b2_1 : List Int) (b4_1 : List Int) : Option ((Bool × List Int × Unit) × Bool × Unit) :=
  ((c_integer_Small n (1 : Int)).bind fun y1 =>
  ((c_integer_Normalize n (b2_0, (b2_1, ()))).bind fun y2 =>
  ((iterC n (fun x : Int × (Bool × List Int × Unit) × (Bool × List Int × Unit) × (Bool × List Int × Unit) × Unit => c_integer_Pow.s0 n x.1 x.2.1 x.2.2.1 x.2.2.2.1) (t1, (false, (b4_1, ())), (y1.1, (y1.2.1, ())), (y2.1, (y2.2.1, ())), ())).bind fun y => c_integer_Pow.k0 n y.1 y.2.1)))
theorem c_integer_Pow.j1.le (n : Nat) (t1 : Int) (b2_0 : Bool) (b2_1 : List Int) (b4_1 : List Int) : Le (c_integer_Pow.j1 n t1 b2_0 b2_1 b4_1) (integer_Pow.j1 t1 b2_0 b2_1 b4_1) := by
  unfold c_integer_Pow.j1 integer_Pow.j1
  try dsimp only
  with_reducible repeat' (first | exact Le.refl _ | apply c_integer_Normalize.le | apply c_integer_Pow.k0.le | apply c_integer_Pow.s0.le | apply c_integer_Small.le | apply Le.cond | (refine Le.bind ?_ (fun _ => ?_)) | (refine Le.iter (fun _ => ?_) _ _) | (refine Le.sum (fun _ => ?_) (fun _ => ?_) _))
def c_integer_Pow (n : Nat) (t0 : Bool × List Int × Unit) (t1 : Int) : Option ((Bool × List Int × Unit) × Bool × Unit) :=
  (cond ((decide (t1 < (0 : Int))))
  ((some ((false, (([] : List Int), ())), (false, ()))))
  ((cond ((decide (t1 > (64 : Int))))
  ((some ((false, (([] : List Int), ())), (false, ()))))
  ((c_integer_Pow.j1 n t1 t0.1 t0.2.1 ([] : List Int))))))
theorem c_integer_Pow.le (n : Nat) (t0 : Bool × List Int × Unit) (t1 : Int) : Le (c_integer_Pow n t0 t1) (integer_Pow t0 t1) := by
  unfold c_integer_Pow integer_Pow
  try dsimp only
  with_reducible repeat' (first | exact Le.refl _ | apply c_integer_Pow.j1.le | apply Le.cond | (refine Le.bind ?_ (fun _ => ?_)) | (refine Le.iter (fun _ => ?_) _ _) | (refine Le.sum (fun _ => ?_) (fun _ => ?_) _))
def c_rational_Normalize (n : Nat) (t0 : (Bool × List Int × Unit) × (Bool × List Int × Unit) × Unit) : Option ((Bool × List Int × Unit) × (Bool × List Int × Unit) × Unit) :=
  ((c_rational_of n ((t0.1.1, (t0.1.2.1, ())), ((t0.2.1.1, (t0.2.1.2.1, ())), ()))).bind fun y1 =>
  ((c_rational_fraction__rat n y1).bind fun y2 =>
  (some ((y2.1.1, (y2.1.2.1, ())), ((y2.2.1.1, (y2.2.1.2.1, ())), ())))))
theorem c_rational_Normalize.le (n : Nat) (t0 : (Bool × List Int × Unit) × (Bool × List Int × Unit) × Unit) : Le (c_rational_Normalize n t0) (rational_Normalize t0) := by
  unfold c_rational_Normalize rational_Normalize
  try dsimp only
  with_reducible repeat' (first | exact Le.refl _ | apply c_rational_fraction__rat.le | apply c_rational_of.le | apply Le.cond | (refine Le.bind ?_ (fun _ => ?_)) | (refine Le.iter (fun _ => ?_) _ _) | (refine Le.sum (fun _ => ?_) (fun _ => ?_) _))
def c_rational_New.j1 (n : Nat) (b2_0 : Bool) (b2_1 : List Int) (b3_0 : Bool) (b3_1 : List Int) (b4_1 : List Int) (b4_3 : List Int) : Option (((Bool × List Int × Unit) × (Bool × List Int × Unit) × Unit) × Bool × Unit) :=
  ((c_rational_Normalize n ((b2_0, (b2_1, ())), ((b3_0, (b3_1, ())), ()))).bind fun y2 =>
  (some (((y2.1.1, (y2.1.2.1, ())), ((y2.2.1.1, (y2.2.1.2.1, ())), ())), (true, ()))))
theorem c_rational_New.j1.le (n : Nat) (b2_0 : Bool) (b2_1 : List Int) (b3_0 : Bool) (b3_1 : List Int) (b4_1 : List Int) (b4_3 : List Int) : Le (c_rational_New.j1 n b2_0 b2_1 b3_0 b3_1 b4_1 b4_3) (rational_New.j1 b2_0 b2_1 b3_0 b3_1 b4_1 b4_3) := by
  unfold c_rational_New.j1 rational_New.j1
  try dsimp only
  with_reducible repeat' (first | exact Le.refl _ | apply c_rational_Normalize.le | apply Le.cond | (refine Le.bind ?_ (fun _ => ?_)) | (refine Le.iter (fun _ => ?_) _ _) | (refine Le.sum (fun _ => ?_) (fun _ => ?_) _))
def c_rational_New (n : Nat) (t0 : Bool × List Int × Unit) (t1 : Bool × List Int × Unit) : Option (((Bool × List Int × Unit) × (Bool × List Int × Unit) × Unit) × Bool × Unit) :=
  ((c_integer_Sign n (t1.1, (t1.2.1, ()))).bind fun y1 =>
  (cond ((y1 == (0 : Int)))
  ((some (((false, (([] : List Int), ())), ((false, (([] : List Int), ())), ())), (false, ()))))
  ((c_rational_New.j1 n t0.1 t0.2.1 t1.1 t1.2.1 ([] : List Int) ([] : List Int)))))
theorem c_rational_New.le (n : Nat) (t0 : Bool × List Int × Unit) (t1 : Bool × List Int × Unit) : Le (c_rational_New n t0 t1) (rational_New t0 t1) := by
  unfold c_rational_New rational_New
  try dsimp only
  with_reducible repeat' (first | exact Le.refl _ | apply c_integer_Sign.le | apply c_rational_New.j1.le | apply Le.cond | (refine Le.bind ?_ (fun _ => ?_)) | (refine Le.iter (fun _ => ?_) _ _) | (refine Le.sum (fun _ => ?_) (fun _ => ?_) _))
def c_rational_Pow.j2 (n : Nat) (b4_1 : List Int) (b4_3 : List Int) (b7_0 : Bool) (b7_1 : List Int) (b9_0 : Bool) (b9_1 : List Int) : Option (((Bool × List Int × Unit) × (Bool × List Int × Unit) × Unit) × Bool × Unit) :=
  ((c_rational_New n (b7_0, (b7_1, ())) (b9_0, (b9_1, ()))).bind fun y4 =>
  (some (((y4.1.1.1, (y4.1.1.2.1, ())), ((y4.1.2.1.1, (y4.1.2.1.2.1, ())), ())), (y4.2.1, ()))))
theorem c_rational_Pow.j2.le (n : Nat) (b4_1 : List Int) (b4_3 : List Int) (b7_0 : Bool) (b7_1 : List Int) (b9_0 : Bool) (b9_1 : List Int) : Le (c_rational_Pow.j2 n b4_1 b4_3 b7_0 b7_1 b9_0 b9_1) (rational_Pow.j2 b4_1 b4_3 b7_0 b7_1 b9_0 b9_1) := by
  unfold c_rational_Pow.j2 rational_Pow.j2
  try dsimp only
  with_reducible repeat' (first | exact Le.refl _ | apply c_rational_New.le | apply Le.cond | (refine Le.bind ?_ (fun _ => ?_)) | (refine Le.iter (fun _ => ?_) _ _) | (refine Le.sum (fun _ => ?_) (fun _ => ?_) _))
def c_rational_Pow.j1 (n : Nat) (t1 : Int) (b2_0 : Bool) (b2_1 : List Int) (b2_2 : Bool) (b2_3 : List Int) (b4_1 : List Int) (b4_3 : List Int) : Option (((Bool × List Int × Unit) × (Bool × List Int × Unit) × Unit) × Bool × Unit) :=
  ((c_rational_of n ((b2_0, (b2_1, ())), ((b2_2, (b2_3, ())), ()))).bind fun y1 =>
  ((c_integer_Pow n (y1.1.1, (y1.1.2.1, ())) (mx2 t1 (IntKind.wrap .i64 (0 - t1)))).bind fun y2 =>
  ((c_integer_Pow n (y1.2.1.1, (y1.2.1.2.1, ())) (mx2 t1 (IntKind.wrap .i64 (0 - t1)))).bind fun y3 =>
  (cond ((decide (t1 < (0 : Int))))
  ((c_rational_Pow.j2 n b4_1 b4_3 y3.1.1 y3.1.2.1 y2.1.1 y2.1.2.1))
  ((c_rational_Pow.j2 n b4_1 b4_3 y2.1.1 y2.1.2.1 y3.1.1 y3.1.2.1))))))
theorem c_rational_Pow.j1.le (n : Nat) (t1 : Int) (b2_0 : Bool) (b2_1 : List Int) (b2_2 : Bool) (b2_3 : List Int) (b4_1 : List Int) (b4_3 : List Int) : Le (c_rational_Pow.j1 n t1 b2_0 b2_1 b2_2 b2_3 b4_1 b4_3) (rational_Pow.j1 t1 b2_0 b2_1 b2_2 b2_3 b4_1 b4_3) := by
  unfold c_rational_Pow.j1 rational_Pow.j1
  try dsimp only
  with_reducible repeat' (first | exact Le.refl _ | apply c_integer_Pow.le | apply c_rational_Pow.j2.le | apply c_rational_of.le | apply Le.cond | (refine Le.bind ?_ (fun _ => ?_)) | (refine Le.iter (fun _ => ?_) _ _) | (refine Le.sum (fun _ => ?_) (fun _ => ?_) _))
def c_rational_Pow (n : Nat) (t0 : (Bool × List Int × Unit) × (Bool × List Int × Unit) × Unit) (t1 : Int) : Option (((Bool × List Int × Unit) × (Bool × List Int × Unit) × Unit) × Bool × Unit) :=
  (cond ((decide (t1 < (-64 : Int))))
  ((some (((false, (([] : List Int), ())), ((false, (([] : List Int), ())), ())), (false, ()))))
  ((cond ((decide (t1 > (64 : Int))))
  ((some (((false, (([] : List Int), ())), ((false, (([] : List Int), ())), ())), (false, ()))))
  ((c_rational_Pow.j1 n t1 t0.1.1 t0.1.2.1 t0.2.1.1 t0.2.1.2.1 ([] : List Int) ([] : List Int))))))
theorem c_rational_Pow.le (n : Nat) (t0 : (Bool × List Int × Unit) × (Bool × List Int × Unit) × Unit) (t1 : Int) : Le (c_rational_Pow n t0 t1) (rational_Pow t0 t1) := by
  unfold c_rational_Pow rational_Pow
  try dsimp only
  with_reducible repeat' (first | exact Le.refl _ | apply c_rational_Pow.j1.le | apply Le.cond | (refine Le.bind ?_ (fun _ => ?_)) | (refine Le.iter (fun _ => ?_) _ _) | (refine Le.sum (fun _ => ?_) (fun _ => ?_) _))
def c_integer_Add.j2 (n : Nat) (t5 : List Int) (t6 : List Int) (b3_0 : Bool) (b3_1 : List Int) (b4_1 : List Int) : Option (Bool × List Int × Unit) :=
  ((c_integer_minus n t6 t5).bind fun y8 =>
  ((c_integer_signed n b3_0 y8).bind fun y9 =>
  (some (y9.1, (y9.2.1, ())))))
theorem c_integer_Add.j2.le (n : Nat) (t5 : List Int) (t6 : List Int) (b3_0 : Bool) (b3_1 : List Int) (b4_1 : List Int) : Le (c_integer_Add.j2 n t5 t6 b3_0 b3_1 b4_1) (integer_Add.j2 t5 t6 b3_0 b3_1 b4_1) := by
  unfold c_integer_Add.j2 integer_Add.j2
  try dsimp only
  with_reducible repeat' (first | exact Le.refl _ | apply c_integer_minus.le | apply c_integer_signed.le | apply Le.cond | (refine Le.bind ?_ (fun _ => ?_)) | (refine Le.iter (fun _ => ?_) _ _) | (refine Le.sum (fun _ => ?_) (fun _ => ?_) _))
def c_integer_Add.j1 (n : Nat) (t5 : List Int) (t6 : List Int) (b2_0 : Bool) (b2_1 : List Int) (b3_0 : Bool) (b3_1 : List Int) (b4_1 : List Int) : Option (Bool × List Int × Unit) :=
  ((c_integer_compare n t5 t6).bind fun y5 =>
  (cond ((decide (y5 ≥ (0 : Int))))
  (((c_integer_minus n t5 t6).bind fun y6 =>
  ((c_integer_signed n b2_0 y6).bind fun y7 =>
  (some (y7.1, (y7.2.1, ()))))))
  ((c_integer_Add.j2 n t5 t6 b3_0 b3_1 b4_1))))
theorem c_integer_Add.j1.le (n : Nat) (t5 : List Int) (t6 : List Int) (b2_0 : Bool) (b2_1 : List Int) (b3_0 : Bool) (b3_1 : List Int) (b4_1 : List Int) : Le (c_integer_Add.j1 n t5 t6 b2_0 b2_1 b3_0 b3_1 b4_1) (integer_Add.j1 t5 t6 b2_0 b2_1 b3_0 b3_1 b4_1) := by
  unfold c_integer_Add.j1 integer_Add.j1
  try dsimp only
  with_reducible repeat' (first | exact Le.refl _ | apply c_integer_Add.j2.le | apply c_integer_compare.le | apply c_integer_minus.le | apply c_integer_signed.le | apply Le.cond | (refine Le.bind ?_ (fun _ => ?_)) | (refine Le.iter (fun _ => ?_) _ _) | (refine Le.sum (fun _ => ?_) (fun _ => ?_) _))
def c_integer_Add (n : Nat) (t0 : Bool × List Int × Unit) (t1 : Bool × List Int × Unit) : Option (Bool × List Int × Unit) :=
  ((c_integer_magnitude n (t0.1, (t0.2.1, ()))).bind fun y1 =>
  ((c_integer_magnitude n (t1.1, (t1.2.1, ()))).bind fun y2 =>
  (cond ((t0.1 == t1.1))
  (((c_integer_plus n y1 y2).bind fun y3 =>
  ((c_integer_signed n t0.1 y3).bind fun y4 =>
  (some (y4.1, (y4.2.1, ()))))))
  ((c_integer_Add.j1 n y1 y2 t0.1 t0.2.1 t1.1 t1.2.1 ([] : List Int))))))
theorem c_integer_Add.le (n : Nat) (t0 : Bool × List Int × Unit) (t1 : Bool × List Int × Unit) : Le (c_integer_Add n t0 t1) (integer_Add t0 t1) := by
  unfold c_integer_Add integer_Add
  try dsimp only
  with_reducible repeat' (first | exact Le.refl _ | apply c_integer_Add.j1.le | apply c_integer_magnitude.le | apply c_integer_plus.le | apply c_integer_signed.le | apply Le.cond | (refine Le.bind ?_ (fun _ => ?_)) | (refine Le.iter (fun _ => ?_) _ _) | (refine Le.sum (fun _ => ?_) (fun _ => ?_) _))
def c_rational_sum.j1 (n : Nat) (t6 : List (Bool × List Int × Unit)) (t7 : Int) (t8 : Int) (b2_0 : Bool) (b2_1 : List Int) (b3_0 : Bool) (b3_1 : List Int) : Option (((List (Bool × List Int × Unit)) × Int × Int × (Bool × List Int × Unit) × (Bool × List Int × Unit) × Unit) ⊕ (((Bool × List Int × Unit) × (Bool × List Int × Unit) × Unit))) :=
  (cond (inB t8 (List.length t6))
  (((c_integer_Add n (b3_0, (b3_1, ())) ((List.getD t6 (t8.toNat) (false, (([] : List Int), ()))).1, ((List.getD t6 (t8.toNat) (false, (([] : List Int), ()))).2.1, ()))).bind fun y1 =>
  (some (.inl (t6, t7, (IntKind.wrap .i64 (t8 + (1 : Int))), (b2_0, (b2_1, ())), (y1.1, (y1.2.1, ())), ())))))
  none)
theorem c_rational_sum.j1.le (n : Nat) (t6 : List (Bool × List Int × Unit)) (t7 : Int) (t8 : Int) (b2_0 : Bool) (b2_1 : List Int) (b3_0 : Bool) (b3_1 : List Int) : Le (c_rational_sum.j1 n t6 t7 t8 b2_0 b2_1 b3_0 b3_1) (rational_sum.j1 t6 t7 t8 b2_0 b2_1 b3_0 b3_1) := by
  unfold c_rational_sum.j1 rational_sum.j1
  try dsimp only
  with_reducible repeat' (first | exact Le.refl _ | apply c_integer_Add.le | apply Le.cond | (refine Le.bind ?_ (fun _ => ?_)) | (refine Le.iter (fun _ => ?_) _ _) | (refine Le.sum (fun _ => ?_) (fun _ => ?_) _))
def c_rational_sum.s0 (n : Nat) (t6 : List (Bool × List Int × Unit)) (t7 : Int) (t8 : Int) (b2 : Bool × List Int × Unit) (b3 : Bool × List Int × Unit) : Option (((List (Bool × List Int × Unit)) × Int × Int × (Bool × List Int × Unit) × (Bool × List Int × Unit) × Unit) ⊕ (((Bool × List Int × Unit) × (Bool × List Int × Unit) × Unit))) :=
  (cond ((decide (t8 < t7)))
  ((c_rational_sum.j1 n t6 t7 t8 b2.1 b2.2.1 b3.1 b3.2.1))
  ((some (.inr ((b2.1, (b2.2.1, ())), (b3.1, (b3.2.1, ())), ())))))
theorem c_rational_sum.s0.le (n : Nat) (t6 : List (Bool × List Int × Unit)) (t7 : Int) (t8 : Int) (b2 : Bool × List Int × Unit) (b3 : Bool × List Int × Unit) : Le (c_rational_sum.s0 n t6 t7 t8 b2 b3) (rational_sum.s0 t6 t7 t8 b2 b3) := by
  unfold c_rational_sum.s0 rational_sum.s0
  try dsimp only
  with_reducible repeat' (first | exact Le.refl _ | apply c_rational_sum.j1.le | apply Le.cond | (refine Le.bind ?_ (fun _ => ?_)) | (refine Le.iter (fun _ => ?_) _ _) | (refine Le.sum (fun _ => ?_) (fun _ => ?_) _))
def c_rational_sum.k0 (n : Nat) (b2 : Bool × List Int × Unit) (b3 : Bool × List Int × Unit) : Option (Bool × List Int × Unit) :=
  (some (b3.1, (b3.2.1, ())))
theorem c_rational_sum.k0.le (n : Nat) (b2 : Bool × List Int × Unit) (b3 : Bool × List Int × Unit) : Le (c_rational_sum.k0 n b2 b3) (rational_sum.k0 b2 b3) := by
  unfold c_rational_sum.k0 rational_sum.k0
  try dsimp only
  with_reducible repeat' (first | exact Le.refl _ | apply Le.cond | (refine Le.bind ?_ (fun _ => ?_)) | (refine Le.iter (fun _ => ?_) _ _) | (refine Le.sum (fun _ => ?_) (fun _ => ?_) _))
def c_rational_sum (n : Nat) (t0 : List (Bool × List Int × Unit)) : Option (Bool × List Int × Unit) :=
  ((iterC n (fun x : (List (Bool × List Int × Unit)) × Int × Int × (Bool × List Int × Unit) × (Bool × List Int × Unit) × Unit => c_rational_sum.s0 n x.1 x.2.1 x.2.2.1 x.2.2.2.1 x.2.2.2.2.1) (t0, ((List.length t0 : Nat) : Int), (0 : Int), (false, (([] : List Int), ())), (false, (([] : List Int), ())), ())).bind fun y => c_rational_sum.k0 n y.1 y.2.1)
theorem c_rational_sum.le (n : Nat) (t0 : List (Bool × List Int × Unit)) : Le (c_rational_sum n t0) (rational_sum t0) := by
  unfold c_rational_sum rational_sum
  try dsimp only
  with_reducible repeat' (first | exact Le.refl _ | apply c_rational_sum.k0.le | apply c_rational_sum.s0.le | apply Le.cond | (refine Le.bind ?_ (fun _ => ?_)) | (refine Le.iter (fun _ => ?_) _ _) | (refine Le.sum (fun _ => ?_) (fun _ => ?_) _))
def c_rational_Add (n : Nat) (t0 : (Bool × List Int × Unit) × (Bool × List Int × Unit) × Unit) (t1 : (Bool × List Int × Unit) × (Bool × List Int × Unit) × Unit) : Option ((Bool × List Int × Unit) × (Bool × List Int × Unit) × Unit) :=
  ((c_rational_of n ((t0.1.1, (t0.1.2.1, ())), ((t0.2.1.1, (t0.2.1.2.1, ())), ()))).bind fun y1 =>
  ((c_rational_of n ((t1.1.1, (t1.1.2.1, ())), ((t1.2.1.1, (t1.2.1.2.1, ())), ()))).bind fun y2 =>
  ((c_rational_product n ([(y1.1.1, (y1.1.2.1, ())), (y2.2.1.1, (y2.2.1.2.1, ()))] : List (Bool × List Int × Unit))).bind fun y3 =>
  ((c_rational_product n ([(y2.1.1, (y2.1.2.1, ())), (y1.2.1.1, (y1.2.1.2.1, ()))] : List (Bool × List Int × Unit))).bind fun y4 =>
  ((c_rational_sum n ([y3, y4] : List (Bool × List Int × Unit))).bind fun y5 =>
  ((c_rational_product n ([(y1.2.1.1, (y1.2.1.2.1, ())), (y2.2.1.1, (y2.2.1.2.1, ()))] : List (Bool × List Int × Unit))).bind fun y6 =>
  ((c_rational_fraction__rat n ((y5.1, (y5.2.1, ())), ((y6.1, (y6.2.1, ())), ()))).bind fun y7 =>
  (some ((y7.1.1, (y7.1.2.1, ())), ((y7.2.1.1, (y7.2.1.2.1, ())), ()))))))))))
theorem c_rational_Add.le (n : Nat) (t0 : (Bool × List Int × Unit) × (Bool × List Int × Unit) × Unit) (t1 : (Bool × List Int × Unit) × (Bool × List Int × Unit) × Unit) : Le (c_rational_Add n t0 t1) (rational_Add t0 t1) := by
  unfold c_rational_Add rational_Add
  try dsimp only
  with_reducible repeat' (first | exact Le.refl _ | apply c_rational_fraction__rat.le | apply c_rational_of.le | apply c_rational_product.le | apply c_rational_sum.le | apply Le.cond | (refine Le.bind ?_ (fun _ => ?_)) | (refine Le.iter (fun _ => ?_) _ _) | (refine Le.sum (fun _ => ?_) (fun _ => ?_) _))
def c_rational_Neg (n : Nat) (t0 : (Bool × List Int × Unit) × (Bool × List Int × Unit) × Unit) : Option ((Bool × List Int × Unit) × (Bool × List Int × Unit) × Unit) :=
  ((c_rational_of n ((t0.1.1, (t0.1.2.1, ())), ((t0.2.1.1, (t0.2.1.2.1, ())), ()))).bind fun y1 =>
  ((c_integer_Neg n (y1.1.1, (y1.1.2.1, ()))).bind fun y2 =>
  ((c_rational_fraction__rat n ((y2.1, (y2.2.1, ())), ((y1.2.1.1, (y1.2.1.2.1, ())), ()))).bind fun y3 =>
  (some ((y3.1.1, (y3.1.2.1, ())), ((y3.2.1.1, (y3.2.1.2.1, ())), ()))))))
theorem c_rational_Neg.le (n : Nat) (t0 : (Bool × List Int × Unit) × (Bool × List Int × Unit) × Unit) : Le (c_rational_Neg n t0) (rational_Neg t0) := by
  unfold c_rational_Neg rational_Neg
  try dsimp only
  with_reducible repeat' (first | exact Le.refl _ | apply c_integer_Neg.le | apply c_rational_fraction__rat.le | apply c_rational_of.le | apply Le.cond | (refine Le.bind ?_ (fun _ => ?_)) | (refine Le.iter (fun _ => ?_) _ _) | (refine Le.sum (fun _ => ?_) (fun _ => ?_) _))
def c_rational_Sub (n : Nat) (t0 : (Bool × List Int × Unit) × (Bool × List Int × Unit) × Unit) (t1 : (Bool × List Int × Unit) × (Bool × List Int × Unit) × Unit) : Option ((Bool × List Int × Unit) × (Bool × List Int × Unit) × Unit) :=
  ((c_rational_Neg n ((t1.1.1, (t1.1.2.1, ())), ((t1.2.1.1, (t1.2.1.2.1, ())), ()))).bind fun y1 =>
  ((c_rational_Add n ((t0.1.1, (t0.1.2.1, ())), ((t0.2.1.1, (t0.2.1.2.1, ())), ())) y1).bind fun y2 =>
  (some ((y2.1.1, (y2.1.2.1, ())), ((y2.2.1.1, (y2.2.1.2.1, ())), ())))))
theorem c_rational_Sub.le (n : Nat) (t0 : (Bool × List Int × Unit) × (Bool × List Int × Unit) × Unit) (t1 : (Bool × List Int × Unit) × (Bool × List Int × Unit) × Unit) : Le (c_rational_Sub n t0 t1) (rational_Sub t0 t1) := by
  unfold c_rational_Sub rational_Sub
  try dsimp only
  with_reducible repeat' (first | exact Le.refl _ | apply c_rational_Add.le | apply c_rational_Neg.le | apply Le.cond | (refine Le.bind ?_ (fun _ => ?_)) | (refine Le.iter (fun _ => ?_) _ _) | (refine Le.sum (fun _ => ?_) (fun _ => ?_) _))
def c_localmass_less (n : Nat) (t0 : (Bool × List Int × Unit) × (Bool × List Int × Unit) × Unit) (t1 : Int) (t2 : Int) (t3 : Int) : Option ((Bool × List Int × Unit) × (Bool × List Int × Unit) × Unit) :=
  ((c_localmass_whole n t2).bind fun y1 =>
  ((c_rational_Pow n y1 (IntKind.wrap .i64 (0 - t3))).bind fun y2 =>
  ((c_localmass_whole n (1 : Int)).bind fun y3 =>
  ((c_localmass_whole n t1).bind fun y4 =>
  ((c_rational_Mul n y4 ((y2.1.1.1, (y2.1.1.2.1, ())), ((y2.1.2.1.1, (y2.1.2.1.2.1, ())), ()))).bind fun y5 =>
  ((c_rational_Sub n y3 y5).bind fun y6 =>
  ((c_rational_Mul n ((t0.1.1, (t0.1.2.1, ())), ((t0.2.1.1, (t0.2.1.2.1, ())), ())) y6).bind fun y7 =>
  (some ((y7.1.1, (y7.1.2.1, ())), ((y7.2.1.1, (y7.2.1.2.1, ())), ()))))))))))
theorem c_localmass_less.le (n : Nat) (t0 : (Bool × List Int × Unit) × (Bool × List Int × Unit) × Unit) (t1 : Int) (t2 : Int) (t3 : Int) : Le (c_localmass_less n t0 t1 t2 t3) (localmass_less t0 t1 t2 t3) := by
  unfold c_localmass_less localmass_less
  try dsimp only
  with_reducible repeat' (first | exact Le.refl _ | apply c_localmass_whole.le | apply c_rational_Mul.le | apply c_rational_Pow.le | apply c_rational_Sub.le | apply Le.cond | (refine Le.bind ?_ (fun _ => ?_)) | (refine Le.iter (fun _ => ?_) _ _) | (refine Le.sum (fun _ => ?_) (fun _ => ?_) _))
def c_rational_Quo (n : Nat) (t0 : (Bool × List Int × Unit) × (Bool × List Int × Unit) × Unit) (t1 : (Bool × List Int × Unit) × (Bool × List Int × Unit) × Unit) : Option (((Bool × List Int × Unit) × (Bool × List Int × Unit) × Unit) × Bool × Unit) :=
  ((c_rational_of n ((t0.1.1, (t0.1.2.1, ())), ((t0.2.1.1, (t0.2.1.2.1, ())), ()))).bind fun y1 =>
  ((c_rational_of n ((t1.1.1, (t1.1.2.1, ())), ((t1.2.1.1, (t1.2.1.2.1, ())), ()))).bind fun y2 =>
  ((c_rational_product n ([(y1.1.1, (y1.1.2.1, ())), (y2.2.1.1, (y2.2.1.2.1, ()))] : List (Bool × List Int × Unit))).bind fun y3 =>
  ((c_rational_product n ([(y1.2.1.1, (y1.2.1.2.1, ())), (y2.1.1, (y2.1.2.1, ()))] : List (Bool × List Int × Unit))).bind fun y4 =>
  ((c_rational_New n y3 y4).bind fun y5 =>
  (some (((y5.1.1.1, (y5.1.1.2.1, ())), ((y5.1.2.1.1, (y5.1.2.1.2.1, ())), ())), (y5.2.1, ()))))))))
theorem c_rational_Quo.le (n : Nat) (t0 : (Bool × List Int × Unit) × (Bool × List Int × Unit) × Unit) (t1 : (Bool × List Int × Unit) × (Bool × List Int × Unit) × Unit) : Le (c_rational_Quo n t0 t1) (rational_Quo t0 t1) := by
  unfold c_rational_Quo rational_Quo
  try dsimp only
  with_reducible repeat' (first | exact Le.refl _ | apply c_rational_New.le | apply c_rational_of.le | apply c_rational_product.le | apply Le.cond | (refine Le.bind ?_ (fun _ => ?_)) | (refine Le.iter (fun _ => ?_) _ _) | (refine Le.sum (fun _ => ?_) (fun _ => ?_) _))
def c_localmass_half.j1 (n : Nat) (t0 : Int) (t1 : Int) (t2 : Int) (t8 : Int) (b6_0 : Bool) (b6_1 : List Int) (b6_2 : Bool) (b6_3 : List Int) (b7_0 : Bool) (b7_1 : List Int) (b7_2 : Bool) (b7_3 : List Int) : Option ((Int × Int × Int × Int × ((Bool × List Int × Unit) × (Bool × List Int × Unit) × Unit) × ((Bool × List Int × Unit) × (Bool × List Int × Unit) × Unit) × Unit) ⊕ ((Int × Int × Int × ((Bool × List Int × Unit) × (Bool × List Int × Unit) × Unit) × ((Bool × List Int × Unit) × (Bool × List Int × Unit) × Unit) × Unit))) :=
  ((c_localmass_less n ((b7_0, (b7_1, ())), ((b7_2, (b7_3, ())), ())) (1 : Int) t0 (IntKind.wrap .i64 ((2 : Int) * t8))).bind fun y2 =>
  (some (.inl (t0, t1, t2, (IntKind.wrap .i64 (t8 + (1 : Int))), ((b6_0, (b6_1, ())), ((b6_2, (b6_3, ())), ())), ((y2.1.1, (y2.1.2.1, ())), ((y2.2.1.1, (y2.2.1.2.1, ())), ())), ()))))
theorem c_localmass_half.j1.le (n : Nat) (t0 : Int) (t1 : Int) (t2 : Int) (t8 : Int) (b6_0 : Bool) (b6_1 : List Int) (b6_2 : Bool) (b6_3 : List Int) (b7_0 : Bool) (b7_1 : List Int) (b7_2 : Bool) (b7_3 : List Int) : Le (c_localmass_half.j1 n t0 t1 t2 t8 b6_0 b6_1 b6_2 b6_3 b7_0 b7_1 b7_2 b7_3) (localmass_half.j1 t0 t1 t2 t8 b6_0 b6_1 b6_2 b6_3 b7_0 b7_1 b7_2 b7_3) := by
  unfold c_localmass_half.j1 localmass_half.j1
  try dsimp only
  with_reducible repeat' (first | exact Le.refl _ | apply c_localmass_less.le | apply Le.cond | (refine Le.bind ?_ (fun _ => ?_)) | (refine Le.iter (fun _ => ?_) _ _) | (refine Le.sum (fun _ => ?_) (fun _ => ?_) _))
def c_localmass_half.s0 (n : Nat) (t0 : Int) (t1 : Int) (t2 : Int) (t8 : Int) (b6 : (Bool × List Int × Unit) × (Bool × List Int × Unit) × Unit) (b7 : (Bool × List Int × Unit) × (Bool × List Int × Unit) × Unit) : Option ((Int × Int × Int × Int × ((Bool × List Int × Unit) × (Bool × List Int × Unit) × Unit) × ((Bool × List Int × Unit) × (Bool × List Int × Unit) × Unit) × Unit) ⊕ ((Int × Int × Int × ((Bool × List Int × Unit) × (Bool × List Int × Unit) × Unit) × ((Bool × List Int × Unit) × (Bool × List Int × Unit) × Unit) × Unit))) :=
  (cond ((decide (t8 < t1)))
  ((c_localmass_half.j1 n t0 t1 t2 t8 b6.1.1 b6.1.2.1 b6.2.1.1 b6.2.1.2.1 b7.1.1 b7.1.2.1 b7.2.1.1 b7.2.1.2.1))
  ((some (.inr (t0, t1, t2, ((b6.1.1, (b6.1.2.1, ())), ((b6.2.1.1, (b6.2.1.2.1, ())), ())), ((b7.1.1, (b7.1.2.1, ())), ((b7.2.1.1, (b7.2.1.2.1, ())), ())), ())))))
theorem c_localmass_half.s0.le (n : Nat) (t0 : Int) (t1 : Int) (t2 : Int) (t8 : Int) (b6 : (Bool × List Int × Unit) × (Bool × List Int × Unit) × Unit) (b7 : (Bool × List Int × Unit) × (Bool × List Int × Unit) × Unit) : Le (c_localmass_half.s0 n t0 t1 t2 t8 b6 b7) (localmass_half.s0 t0 t1 t2 t8 b6 b7) := by
  unfold c_localmass_half.s0 localmass_half.s0
  try dsimp only
  with_reducible repeat' (first | exact Le.refl _ | apply c_localmass_half.j1.le | apply Le.cond | (refine Le.bind ?_ (fun _ => ?_)) | (refine Le.iter (fun _ => ?_) _ _) | (refine Le.sum (fun _ => ?_) (fun _ => ?_) _))
def c_localmass_half.k0 (n : Nat) (t0 : Int) (t1 : Int) (t2 : Int) (b6 : (Bool × List Int × Unit) × (Bool × List Int × Unit) × Unit) (b7 : (Bool × List Int × Unit) × (Bool × List Int × Unit) × Unit) : Option ((Bool × List Int × Unit) × (Bool × List Int × Unit) × Unit) :=
  ((c_localmass_whole n (1 : Int)).bind fun y3 =>
  ((c_localmass_less n ((b7.1.1, (b7.1.2.1, ())), ((b7.2.1.1, (b7.2.1.2.1, ())), ())) t2 t0 t1).bind fun y4 =>
  ((c_rational_Quo n y3 y4).bind fun y5 =>
  (some ((y5.1.1.1, (y5.1.1.2.1, ())), ((y5.1.2.1.1, (y5.1.2.1.2.1, ())), ()))))))
theorem c_localmass_half.k0.le (n : Nat) (t0 : Int) (t1 : Int) (t2 : Int) (b6 : (Bool × List Int × Unit) × (Bool × List Int × Unit) × Unit) (b7 : (Bool × List Int × Unit) × (Bool × List Int × Unit) × Unit) : Le (c_localmass_half.k0 n t0 t1 t2 b6 b7) (localmass_half.k0 t0 t1 t2 b6 b7) := by
  unfold c_localmass_half.k0 localmass_half.k0
  try dsimp only
  with_reducible repeat' (first | exact Le.refl _ | apply c_localmass_less.le | apply c_localmass_whole.le | apply c_rational_Quo.le | apply Le.cond | (refine Le.bind ?_ (fun _ => ?_)) | (refine Le.iter (fun _ => ?_) _ _) | (refine Le.sum (fun _ => ?_) (fun _ => ?_) _))
def c_localmass_half (n : Nat) (t0 : Int) (t1 : Int) (t2 : Int) : Option ((Bool × List Int × Unit) × (Bool × List Int × Unit) × Unit) :=
  ((c_localmass_whole n (2 : Int)).bind fun y1 =>
  ((iterC n (fun x : Int × Int × Int × Int × ((Bool × List Int × Unit) × (Bool × List Int × Unit) × Unit) × ((Bool × List Int × Unit) × (Bool × List Int × Unit) × Unit) × Unit => c_localmass_half.s0 n x.1 x.2.1 x.2.2.1 x.2.2.2.1 x.2.2.2.2.1 x.2.2.2.2.2.1) (t0, t1, t2, (1 : Int), ((false, (([] : List Int), ())), ((false, (([] : List Int), ())), ())), ((y1.1.1, (y1.1.2.1, ())), ((y1.2.1.1, (y1.2.1.2.1, ())), ())), ())).bind fun y => c_localmass_half.k0 n y.1 y.2.1 y.2.2.1 y.2.2.2.1 y.2.2.2.2.1))
theorem c_localmass_half.le (n : Nat) (t0 : Int) (t1 : Int) (t2 : Int) : Le (c_localmass_half n t0 t1 t2) (localmass_half t0 t1 t2) := by
  unfold c_localmass_half localmass_half
  try dsimp only
  with_reducible repeat' (first | exact Le.refl _ | apply c_localmass_half.k0.le | apply c_localmass_half.s0.le | apply c_localmass_whole.le | apply Le.cond | (refine Le.bind ?_ (fun _ => ?_)) | (refine Le.iter (fun _ => ?_) _ _) | (refine Le.sum (fun _ => ?_) (fun _ => ?_) _))
def c_localmass_Diagonal.j4 (n : Nat) (t0 : Int) (b3_0 : Int) (b3_1 : Int) (b4_1 : List Int) (b4_3 : List Int) : Option (((Bool × List Int × Unit) × (Bool × List Int × Unit) × Unit) × Int × Unit) :=
  ((c_localmass_half n t0 (IntKind.wrap .i64 (Int.tdiv (IntKind.wrap .i64 (b3_0 + (1 : Int))) (2 : Int))) b3_1).bind fun y4 =>
  (some (((y4.1.1, (y4.1.2.1, ())), ((y4.2.1.1, (y4.2.1.2.1, ())), ())), ((0 : Int), ()))))
theorem c_localmass_Diagonal.j4.le (n : Nat) (t0 : Int) (b3_0 : Int) (b3_1 : Int) (b4_1 : List Int) (b4_3 : List Int) : Le (c_localmass_Diagonal.j4 n t0 b3_0 b3_1 b4_1 b4_3) (localmass_Diagonal.j4 t0 b3_0 b3_1 b4_1 b4_3) := by
  unfold c_localmass_Diagonal.j4 localmass_Diagonal.j4
  try dsimp only
  with_reducible repeat' (first | exact Le.refl _ | apply c_localmass_half.le | apply Le.cond | (refine Le.bind ?_ (fun _ => ?_)) | (refine Le.iter (fun _ => ?_) _ _) | (refine Le.sum (fun _ => ?_) (fun _ => ?_) _))
def c_localmass_Diagonal.j3 (n : Nat) (t0 : Int) (b3_0 : Int) (b3_1 : Int) (b4_1 : List Int) (b4_3 : List Int) : Option (((Bool × List Int × Unit) × (Bool × List Int × Unit) × Unit) × Int × Unit) :=
  (c_localmass_Diagonal.j4 n t0 b3_0 b3_1 b4_1 b4_3)
theorem c_localmass_Diagonal.j3.le (n : Nat) (t0 : Int) (b3_0 : Int) (b3_1 : Int) (b4_1 : List Int) (b4_3 : List Int) : Le (c_localmass_Diagonal.j3 n t0 b3_0 b3_1 b4_1 b4_3) (localmass_Diagonal.j3 t0 b3_0 b3_1 b4_1 b4_3) := by
  unfold c_localmass_Diagonal.j3 localmass_Diagonal.j3
  try dsimp only
  with_reducible repeat' (first | exact Le.refl _ | apply c_localmass_Diagonal.j4.le | apply Le.cond | (refine Le.bind ?_ (fun _ => ?_)) | (refine Le.iter (fun _ => ?_) _ _) | (refine Le.sum (fun _ => ?_) (fun _ => ?_) _))
def c_localmass_Diagonal.j2 (n : Nat) (t0 : Int) (b3_0 : Int) (b3_1 : Int) (b4_1 : List Int) (b4_3 : List Int) : Option (((Bool × List Int × Unit) × (Bool × List Int × Unit) × Unit) × Int × Unit) :=
  (c_localmass_Diagonal.j3 n t0 b3_0 b3_1 b4_1 b4_3)
theorem c_localmass_Diagonal.j2.le (n : Nat) (t0 : Int) (b3_0 : Int) (b3_1 : Int) (b4_1 : List Int) (b4_3 : List Int) : Le (c_localmass_Diagonal.j2 n t0 b3_0 b3_1 b4_1 b4_3) (localmass_Diagonal.j2 t0 b3_0 b3_1 b4_1 b4_3) := by
  unfold c_localmass_Diagonal.j2 localmass_Diagonal.j2
  try dsimp only
  with_reducible repeat' (first | exact Le.refl _ | apply c_localmass_Diagonal.j3.le | apply Le.cond | (refine Le.bind ?_ (fun _ => ?_)) | (refine Le.iter (fun _ => ?_) _ _) | (refine Le.sum (fun _ => ?_) (fun _ => ?_) _))
def c_localmass_Diagonal.j1 (n : Nat) (t0 : Int) (b3_0 : Int) (b3_1 : Int) (b4_1 : List Int) (b4_3 : List Int) : Option (((Bool × List Int × Unit) × (Bool × List Int × Unit) × Unit) × Int × Unit) :=
  (cond ((decide (b3_0 < (0 : Int))))
  ((some (((false, (([] : List Int), ())), ((false, (([] : List Int), ())), ())), ((1 : Int), ()))))
  ((cond ((decide (b3_0 > (9 : Int))))
  ((some (((false, (([] : List Int), ())), ((false, (([] : List Int), ())), ())), ((1 : Int), ()))))
  ((cond ((b3_0 == (0 : Int)))
  ((cond ((b3_1 != (1 : Int)))
  ((some (((false, (([] : List Int), ())), ((false, (([] : List Int), ())), ())), ((1 : Int), ()))))
  ((cond (((Int.tmod b3_0 (2 : Int)) == (1 : Int)))
  ((cond ((b3_1 != (0 : Int)))
  ((some (((false, (([] : List Int), ())), ((false, (([] : List Int), ())), ())), ((1 : Int), ()))))
  ((cond (((Int.tmod b3_0 (2 : Int)) == (0 : Int)))
  ((cond ((b3_1 != (1 : Int)))
  ((cond ((b3_1 != (-1 : Int)))
  ((some (((false, (([] : List Int), ())), ((false, (([] : List Int), ())), ())), ((1 : Int), ()))))
  ((cond ((b3_0 == (0 : Int)))
  (((c_localmass_whole n (1 : Int)).bind fun y2 =>
  (some (((y2.1.1, (y2.1.2.1, ())), ((y2.2.1.1, (y2.2.1.2.1, ())), ())), ((0 : Int), ())))))
  ((c_localmass_Diagonal.j2 n t0 b3_0 b3_1 b4_1 b4_3))))))
  ((cond ((b3_0 == (0 : Int)))
  (((c_localmass_whole n (1 : Int)).bind fun y5 =>
  (some (((y5.1.1, (y5.1.2.1, ())), ((y5.2.1.1, (y5.2.1.2.1, ())), ())), ((0 : Int), ())))))
  ((c_localmass_Diagonal.j2 n t0 b3_0 b3_1 b4_1 b4_3))))))
  ((cond ((b3_0 == (0 : Int)))
  (((c_localmass_whole n (1 : Int)).bind fun y6 =>
  (some (((y6.1.1, (y6.1.2.1, ())), ((y6.2.1.1, (y6.2.1.2.1, ())), ())), ((0 : Int), ())))))
  ((c_localmass_Diagonal.j2 n t0 b3_0 b3_1 b4_1 b4_3))))))))
  ((cond (((Int.tmod b3_0 (2 : Int)) == (0 : Int)))
  ((cond ((b3_1 != (1 : Int)))
  ((cond ((b3_1 != (-1 : Int)))
  ((some (((false, (([] : List Int), ())), ((false, (([] : List Int), ())), ())), ((1 : Int), ()))))
  ((cond ((b3_0 == (0 : Int)))
  (((c_localmass_whole n (1 : Int)).bind fun y7 =>
  (some (((y7.1.1, (y7.1.2.1, ())), ((y7.2.1.1, (y7.2.1.2.1, ())), ())), ((0 : Int), ())))))
  ((c_localmass_Diagonal.j2 n t0 b3_0 b3_1 b4_1 b4_3))))))
  ((cond ((b3_0 == (0 : Int)))
  (((c_localmass_whole n (1 : Int)).bind fun y8 =>
  (some (((y8.1.1, (y8.1.2.1, ())), ((y8.2.1.1, (y8.2.1.2.1, ())), ())), ((0 : Int), ())))))
  ((c_localmass_Diagonal.j2 n t0 b3_0 b3_1 b4_1 b4_3))))))
  ((cond ((b3_0 == (0 : Int)))
  (((c_localmass_whole n (1 : Int)).bind fun y9 =>
  (some (((y9.1.1, (y9.1.2.1, ())), ((y9.2.1.1, (y9.2.1.2.1, ())), ())), ((0 : Int), ())))))
  ((c_localmass_Diagonal.j2 n t0 b3_0 b3_1 b4_1 b4_3))))))))))
  ((cond (((Int.tmod b3_0 (2 : Int)) == (1 : Int)))
  ((cond ((b3_1 != (0 : Int)))
  ((some (((false, (([] : List Int), ())), ((false, (([] : List Int), ())), ())), ((1 : Int), ()))))
  ((cond (((Int.tmod b3_0 (2 : Int)) == (0 : Int)))
  ((cond ((b3_1 != (1 : Int)))
  ((cond ((b3_1 != (-1 : Int)))
  ((some (((false, (([] : List Int), ())), ((false, (([] : List Int), ())), ())), ((1 : Int), ()))))
  ((cond ((b3_0 == (0 : Int)))
  (((c_localmass_whole n (1 : Int)).bind fun y10 =>
  (some (((y10.1.1, (y10.1.2.1, ())), ((y10.2.1.1, (y10.2.1.2.1, ())), ())), ((0 : Int), ())))))
  ((c_localmass_Diagonal.j2 n t0 b3_0 b3_1 b4_1 b4_3))))))
  ((cond ((b3_0 == (0 : Int)))
  (((c_localmass_whole n (1 : Int)).bind fun y11 =>
  (some (((y11.1.1, (y11.1.2.1, ())), ((y11.2.1.1, (y11.2.1.2.1, ())), ())), ((0 : Int), ())))))
  ((c_localmass_Diagonal.j2 n t0 b3_0 b3_1 b4_1 b4_3))))))
  ((cond ((b3_0 == (0 : Int)))
  (((c_localmass_whole n (1 : Int)).bind fun y12 =>
  (some (((y12.1.1, (y12.1.2.1, ())), ((y12.2.1.1, (y12.2.1.2.1, ())), ())), ((0 : Int), ())))))
  ((c_localmass_Diagonal.j2 n t0 b3_0 b3_1 b4_1 b4_3))))))))
  ((cond (((Int.tmod b3_0 (2 : Int)) == (0 : Int)))
  ((cond ((b3_1 != (1 : Int)))
  ((cond ((b3_1 != (-1 : Int)))
  ((some (((false, (([] : List Int), ())), ((false, (([] : List Int), ())), ())), ((1 : Int), ()))))
  ((cond ((b3_0 == (0 : Int)))
  (((c_localmass_whole n (1 : Int)).bind fun y13 =>
  (some (((y13.1.1, (y13.1.2.1, ())), ((y13.2.1.1, (y13.2.1.2.1, ())), ())), ((0 : Int), ())))))
  ((c_localmass_Diagonal.j2 n t0 b3_0 b3_1 b4_1 b4_3))))))
  ((cond ((b3_0 == (0 : Int)))
  (((c_localmass_whole n (1 : Int)).bind fun y14 =>
  (some (((y14.1.1, (y14.1.2.1, ())), ((y14.2.1.1, (y14.2.1.2.1, ())), ())), ((0 : Int), ())))))
  ((c_localmass_Diagonal.j2 n t0 b3_0 b3_1 b4_1 b4_3))))))
  ((cond ((b3_0 == (0 : Int)))
  (((c_localmass_whole n (1 : Int)).bind fun y15 =>
  (some (((y15.1.1, (y15.1.2.1, ())), ((y15.2.1.1, (y15.2.1.2.1, ())), ())), ((0 : Int), ())))))
  ((c_localmass_Diagonal.j2 n t0 b3_0 b3_1 b4_1 b4_3)))))))))))))
theorem c_localmass_Diagonal.j1.le (n : Nat) (t0 : Int) (b3_0 : Int) (b3_1 : Int) (b4_1 : List Int) (b4_3 : List Int) : Le (c_localmass_Diagonal.j1 n t0 b3_0 b3_1 b4_1 b4_3) (localmass_Diagonal.j1 t0 b3_0 b3_1 b4_1 b4_3) := by
  unfold c_localmass_Diagonal.j1 localmass_Diagonal.j1
  try dsimp only
  with_reducible repeat' (first | exact Le.refl _ | apply c_localmass_Diagonal.j2.le | apply c_localmass_whole.le | apply Le.cond | (refine Le.bind ?_ (fun _ => ?_)) | (refine Le.iter (fun _ => ?_) _ _) | (refine Le.sum (fun _ => ?_) (fun _ => ?_) _))
def c_localmass_Diagonal (n : Nat) (t0 : Int) (t1 : Int × Int × Unit) : Option (((Bool × List Int × Unit) × (Bool × List Int × Unit) × Unit) × Int × Unit) :=
  ((c_localmass_known n t0).bind fun y1 =>
  (cond ((!y1))
  ((some (((false, (([] : List Int), ())), ((false, (([] : List Int), ())), ())), ((20 : Int), ()))))
  ((c_localmass_Diagonal.j1 n t0 t1.1 t1.2.1 ([] : List Int) ([] : List Int)))))
theorem c_localmass_Diagonal.le (n : Nat) (t0 : Int) (t1 : Int × Int × Unit) : Le (c_localmass_Diagonal n t0 t1) (localmass_Diagonal t0 t1) := by
  unfold c_localmass_Diagonal localmass_Diagonal
  try dsimp only
  with_reducible repeat' (first | exact Le.refl _ | apply c_localmass_Diagonal.j1.le | apply c_localmass_known.le | apply Le.cond | (refine Le.bind ?_ (fun _ => ?_)) | (refine Le.iter (fun _ => ?_) _ _) | (refine Le.sum (fun _ => ?_) (fun _ => ?_) _))
def c_symbol_Valid.j4 (n : Nat) (t3 : Int) (t33 : List (Int × Int × Int × Bool × Int × Unit)) (t34 : Int) (t35 : Int) (b1_0 : Int) (b1_1 : List (Int × Int × Int × Bool × Int × Unit)) (b5_0 : Int) (b5_1 : Int) (b5_2 : Int) (b5_3 : Bool) (b5_4 : Int) : Option ((Int × (List (Int × Int × Int × Bool × Int × Unit)) × Int × Int × (Int × (List (Int × Int × Int × Bool × Int × Unit)) × Unit) × Unit) ⊕ ((Int × Unit) ⊕ (Bool × Unit))) :=
  (some (.inl ((IntKind.wrap .i64 (t3 + b5_1)), t33, t34, (IntKind.wrap .i64 (t35 + (1 : Int))), (b1_0, (b1_1, ())), ())))
theorem c_symbol_Valid.j4.le (n : Nat) (t3 : Int) (t33 : List (Int × Int × Int × Bool × Int × Unit)) (t34 : Int) (t35 : Int) (b1_0 : Int) (b1_1 : List (Int × Int × Int × Bool × Int × Unit)) (b5_0 : Int) (b5_1 : Int) (b5_2 : Int) (b5_3 : Bool) (b5_4 : Int) : Le (c_symbol_Valid.j4 n t3 t33 t34 t35 b1_0 b1_1 b5_0 b5_1 b5_2 b5_3 b5_4) (symbol_Valid.j4 t3 t33 t34 t35 b1_0 b1_1 b5_0 b5_1 b5_2 b5_3 b5_4) := by
  unfold c_symbol_Valid.j4 symbol_Valid.j4
  try dsimp only
  with_reducible repeat' (first | exact Le.refl _ | apply Le.cond | (refine Le.bind ?_ (fun _ => ?_)) | (refine Le.iter (fun _ => ?_) _ _) | (refine Le.sum (fun _ => ?_) (fun _ => ?_) _))
def c_symbol_Valid.j3 (n : Nat) (t3 : Int) (t33 : List (Int × Int × Int × Bool × Int × Unit)) (t34 : Int) (t35 : Int) (b1_0 : Int) (b1_1 : List (Int × Int × Int × Bool × Int × Unit)) (b5_0 : Int) (b5_1 : Int) (b5_2 : Int) (b5_3 : Bool) (b5_4 : Int) : Option ((Int × (List (Int × Int × Int × Bool × Int × Unit)) × Int × Int × (Int × (List (Int × Int × Int × Bool × Int × Unit)) × Unit) × Unit) ⊕ ((Int × Unit) ⊕ (Bool × Unit))) :=
  (cond ((b5_2 != (1 : Int)))
  ((cond ((b5_2 != (-1 : Int)))
  ((some (.inr (.inr (false, ())))))
  ((cond (b5_3)
  ((some (.inr (.inr (false, ())))))
  ((cond ((b5_4 != (0 : Int)))
  ((some (.inr (.inr (false, ())))))
  ((c_symbol_Valid.j4 n t3 t33 t34 t35 b1_0 b1_1 b5_0 b5_1 b5_2 b5_3 b5_4))))))))
  ((cond (b5_3)
  ((some (.inr (.inr (false, ())))))
  ((cond ((b5_4 != (0 : Int)))
  ((some (.inr (.inr (false, ())))))
  ((c_symbol_Valid.j4 n t3 t33 t34 t35 b1_0 b1_1 b5_0 b5_1 b5_2 b5_3 b5_4)))))))
theorem c_symbol_Valid.j3.le (n : Nat) (t3 : Int) (t33 : List (Int × Int × Int × Bool × Int × Unit)) (t34 : Int) (t35 : Int) (b1_0 : Int) (b1_1 : List (Int × Int × Int × Bool × Int × Unit)) (b5_0 : Int) (b5_1 : Int) (b5_2 : Int) (b5_3 : Bool) (b5_4 : Int) : Le (c_symbol_Valid.j3 n t3 t33 t34 t35 b1_0 b1_1 b5_0 b5_1 b5_2 b5_3 b5_4) (symbol_Valid.j3 t3 t33 t34 t35 b1_0 b1_1 b5_0 b5_1 b5_2 b5_3 b5_4) := by
  unfold c_symbol_Valid.j3 symbol_Valid.j3
  try dsimp only
  with_reducible repeat' (first | exact Le.refl _ | apply c_symbol_Valid.j4.le | apply Le.cond | (refine Le.bind ?_ (fun _ => ?_)) | (refine Le.iter (fun _ => ?_) _ _) | (refine Le.sum (fun _ => ?_) (fun _ => ?_) _))
def c_symbol_Valid.j2 (n : Nat) (t3 : Int) (t33 : List (Int × Int × Int × Bool × Int × Unit)) (t34 : Int) (t35 : Int) (b1_0 : Int) (b1_1 : List (Int × Int × Int × Bool × Int × Unit)) : Option ((Int × (List (Int × Int × Int × Bool × Int × Unit)) × Int × Int × (Int × (List (Int × Int × Int × Bool × Int × Unit)) × Unit) × Unit) ⊕ ((Int × Unit) ⊕ (Bool × Unit))) :=
  (cond (inB t35 (List.length t33))
  ((cond ((decide ((List.getD t33 (t35.toNat) ((0 : Int), ((0 : Int), ((0 : Int), (false, ((0 : Int), ())))))).1 < (0 : Int))))
  ((some (.inr (.inr (false, ())))))
  ((cond ((decide ((List.getD t33 (t35.toNat) ((0 : Int), ((0 : Int), ((0 : Int), (false, ((0 : Int), ())))))).1 > (60 : Int))))
  ((some (.inr (.inr (false, ())))))
  ((cond ((decide (t35 > (0 : Int))))
  ((cond (inB (IntKind.wrap .i64 (t35 - (1 : Int))) (List.length b1_1))
  ((cond ((decide ((List.getD t33 (t35.toNat) ((0 : Int), ((0 : Int), ((0 : Int), (false, ((0 : Int), ())))))).1 ≤ (List.getD b1_1 (((IntKind.wrap .i64 (t35 - (1 : Int)))).toNat) ((0 : Int), ((0 : Int), ((0 : Int), (false, ((0 : Int), ())))))).1)))
  ((some (.inr (.inr (false, ())))))
  ((cond ((decide ((List.getD t33 (t35.toNat) ((0 : Int), ((0 : Int), ((0 : Int), (false, ((0 : Int), ())))))).2.1 < (1 : Int))))
  ((some (.inr (.inr (false, ())))))
  ((cond ((decide ((List.getD t33 (t35.toNat) ((0 : Int), ((0 : Int), ((0 : Int), (false, ((0 : Int), ())))))).2.1 > (8 : Int))))
  ((some (.inr (.inr (false, ())))))
  ((c_symbol_Valid.j3 n t3 t33 t34 t35 b1_0 b1_1 (List.getD t33 (t35.toNat) ((0 : Int), ((0 : Int), ((0 : Int), (false, ((0 : Int), ())))))).1 (List.getD t33 (t35.toNat) ((0 : Int), ((0 : Int), ((0 : Int), (false, ((0 : Int), ())))))).2.1 (List.getD t33 (t35.toNat) ((0 : Int), ((0 : Int), ((0 : Int), (false, ((0 : Int), ())))))).2.2.1 (List.getD t33 (t35.toNat) ((0 : Int), ((0 : Int), ((0 : Int), (false, ((0 : Int), ())))))).2.2.2.1 (List.getD t33 (t35.toNat) ((0 : Int), ((0 : Int), ((0 : Int), (false, ((0 : Int), ())))))).2.2.2.2.1))))))))
  none))
  ((cond ((decide ((List.getD t33 (t35.toNat) ((0 : Int), ((0 : Int), ((0 : Int), (false, ((0 : Int), ())))))).2.1 < (1 : Int))))
  ((some (.inr (.inr (false, ())))))
  ((cond ((decide ((List.getD t33 (t35.toNat) ((0 : Int), ((0 : Int), ((0 : Int), (false, ((0 : Int), ())))))).2.1 > (8 : Int))))
  ((some (.inr (.inr (false, ())))))
  ((c_symbol_Valid.j3 n t3 t33 t34 t35 b1_0 b1_1 (List.getD t33 (t35.toNat) ((0 : Int), ((0 : Int), ((0 : Int), (false, ((0 : Int), ())))))).1 (List.getD t33 (t35.toNat) ((0 : Int), ((0 : Int), ((0 : Int), (false, ((0 : Int), ())))))).2.1 (List.getD t33 (t35.toNat) ((0 : Int), ((0 : Int), ((0 : Int), (false, ((0 : Int), ())))))).2.2.1 (List.getD t33 (t35.toNat) ((0 : Int), ((0 : Int), ((0 : Int), (false, ((0 : Int), ())))))).2.2.2.1 (List.getD t33 (t35.toNat) ((0 : Int), ((0 : Int), ((0 : Int), (false, ((0 : Int), ())))))).2.2.2.2.1))))))))))))
  none)
theorem c_symbol_Valid.j2.le (n : Nat) (t3 : Int) (t33 : List (Int × Int × Int × Bool × Int × Unit)) (t34 : Int) (t35 : Int) (b1_0 : Int) (b1_1 : List (Int × Int × Int × Bool × Int × Unit)) : Le (c_symbol_Valid.j2 n t3 t33 t34 t35 b1_0 b1_1) (symbol_Valid.j2 t3 t33 t34 t35 b1_0 b1_1) := by
  unfold c_symbol_Valid.j2 symbol_Valid.j2
  try dsimp only
  with_reducible repeat' (first | exact Le.refl _ | apply c_symbol_Valid.j3.le | apply Le.cond | (refine Le.bind ?_ (fun _ => ?_)) | (refine Le.iter (fun _ => ?_) _ _) | (refine Le.sum (fun _ => ?_) (fun _ => ?_) _))
def c_symbol_Valid.s0 (n : Nat) (t3 : Int) (t33 : List (Int × Int × Int × Bool × Int × Unit)) (t34 : Int) (t35 : Int) (b1 : Int × (List (Int × Int × Int × Bool × Int × Unit)) × Unit) : Option ((Int × (List (Int × Int × Int × Bool × Int × Unit)) × Int × Int × (Int × (List (Int × Int × Int × Bool × Int × Unit)) × Unit) × Unit) ⊕ ((Int × Unit) ⊕ (Bool × Unit))) :=
  (cond ((decide (t35 < t34)))
  ((c_symbol_Valid.j2 n t3 t33 t34 t35 b1.1 b1.2.1))
  ((some (.inr (.inl (t3, ()))))))
theorem c_symbol_Valid.s0.le (n : Nat) (t3 : Int) (t33 : List (Int × Int × Int × Bool × Int × Unit)) (t34 : Int) (t35 : Int) (b1 : Int × (List (Int × Int × Int × Bool × Int × Unit)) × Unit) : Le (c_symbol_Valid.s0 n t3 t33 t34 t35 b1) (symbol_Valid.s0 t3 t33 t34 t35 b1) := by
  unfold c_symbol_Valid.s0 symbol_Valid.s0
  try dsimp only
  with_reducible repeat' (first | exact Le.refl _ | apply c_symbol_Valid.j2.le | apply Le.cond | (refine Le.bind ?_ (fun _ => ?_)) | (refine Le.iter (fun _ => ?_) _ _) | (refine Le.sum (fun _ => ?_) (fun _ => ?_) _))
def c_symbol_Valid.k0_0 (n : Nat) (t3 : Int) : Option (Bool) :=
  (some (decide (t3 ≤ (8 : Int))))
theorem c_symbol_Valid.k0_0.le (n : Nat) (t3 : Int) : Le (c_symbol_Valid.k0_0 n t3) (symbol_Valid.k0_0 t3) := by
  unfold c_symbol_Valid.k0_0 symbol_Valid.k0_0
  try dsimp only
  with_reducible repeat' (first | exact Le.refl _ | apply Le.cond | (refine Le.bind ?_ (fun _ => ?_)) | (refine Le.iter (fun _ => ?_) _ _) | (refine Le.sum (fun _ => ?_) (fun _ => ?_) _))
def c_symbol_Valid.k0_1 (n : Nat) (t2 : Bool) : Option (Bool) :=
  (some t2)
theorem c_symbol_Valid.k0_1.le (n : Nat) (t2 : Bool) : Le (c_symbol_Valid.k0_1 n t2) (symbol_Valid.k0_1 t2) := by
  unfold c_symbol_Valid.k0_1 symbol_Valid.k0_1
  try dsimp only
  with_reducible repeat' (first | exact Le.refl _ | apply Le.cond | (refine Le.bind ?_ (fun _ => ?_)) | (refine Le.iter (fun _ => ?_) _ _) | (refine Le.sum (fun _ => ?_) (fun _ => ?_) _))
def c_symbol_Valid.j1 (n : Nat) (b1_0 : Int) (b1_1 : List (Int × Int × Int × Bool × Int × Unit)) : Option (Bool) :=
  ((iterC n (fun x : Int × (List (Int × Int × Int × Bool × Int × Unit)) × Int × Int × (Int × (List (Int × Int × Int × Bool × Int × Unit)) × Unit) × Unit => c_symbol_Valid.s0 n x.1 x.2.1 x.2.2.1 x.2.2.2.1 x.2.2.2.2.1) ((0 : Int), b1_1, ((List.length b1_1 : Nat) : Int), (0 : Int), (b1_0, (b1_1, ())), ())).bind fun z => Sum.casesOn z (fun y => c_symbol_Valid.k0_0 n y.1) (fun z => c_symbol_Valid.k0_1 n z.1))
theorem c_symbol_Valid.j1.le (n : Nat) (b1_0 : Int) (b1_1 : List (Int × Int × Int × Bool × Int × Unit)) : Le (c_symbol_Valid.j1 n b1_0 b1_1) (symbol_Valid.j1 b1_0 b1_1) := by
  unfold c_symbol_Valid.j1 symbol_Valid.j1
  try dsimp only
  with_reducible repeat' (first | exact Le.refl _ | apply c_symbol_Valid.k0_0.le | apply c_symbol_Valid.k0_1.le | apply c_symbol_Valid.s0.le | apply Le.cond | (refine Le.bind ?_ (fun _ => ?_)) | (refine Le.iter (fun _ => ?_) _ _) | (refine Le.sum (fun _ => ?_) (fun _ => ?_) _))
def c_symbol_Valid (n : Nat) (t0 : Int × (List (Int × Int × Int × Bool × Int × Unit)) × Unit) : Option (Bool) :=
  (cond ((decide (t0.1 < (3 : Int))))
  ((some false))
  ((cond ((decide (t0.1 > (9973 : Int))))
  ((some false))
  (((c_prime_Is n t0.1).bind fun y1 =>
  (cond ((!y1))
  ((some false))
  ((cond ((decide (((List.length t0.2.1 : Nat) : Int) < (1 : Int))))
  ((some false))
  ((cond ((decide (((List.length t0.2.1 : Nat) : Int) > (8 : Int))))
  ((some false))
  ((c_symbol_Valid.j1 n t0.1 t0.2.1))))))))))))
theorem c_symbol_Valid.le (n : Nat) (t0 : Int × (List (Int × Int × Int × Bool × Int × Unit)) × Unit) : Le (c_symbol_Valid n t0) (symbol_Valid t0) := by
  unfold c_symbol_Valid symbol_Valid
  try dsimp only
  with_reducible repeat' (first | exact Le.refl _ | apply c_prime_Is.le | apply c_symbol_Valid.j1.le | apply Le.cond | (refine Le.bind ?_ (fun _ => ?_)) | (refine Le.iter (fun _ => ?_) _ _) | (refine Le.sum (fun _ => ?_) (fun _ => ?_) _))
def c_train_scaled (n : Nat) (t0 : Int × Int × Int × Bool × Int × Unit) : Option (Bool) :=
  (cond ((decide (t0.1 ≥ (0 : Int))))
  ((cond ((decide (t0.1 ≤ (60 : Int))))
  ((cond ((decide (t0.2.1 ≥ (1 : Int))))
  ((cond ((decide (t0.2.1 ≤ (8 : Int))))
  ((cond ((t0.2.2.1 == (1 : Int)))
  ((some true))
  ((some (t0.2.2.1 == (-1 : Int))))))
  ((some false))))
  ((some false))))
  ((some false))))
  ((some false)))
theorem c_train_scaled.le (n : Nat) (t0 : Int × Int × Int × Bool × Int × Unit) : Le (c_train_scaled n t0) (train_scaled t0) := by
  unfold c_train_scaled train_scaled
  try dsimp only
  with_reducible repeat' (first | exact Le.refl _ | apply Le.cond | (refine Le.bind ?_ (fun _ => ?_)) | (refine Le.iter (fun _ => ?_) _ _) | (refine Le.sum (fun _ => ?_) (fun _ => ?_) _))
def c_train_Legal.j5 (n : Nat)  : Option (Bool) :=
  (some true)
theorem c_train_Legal.j5.le (n : Nat)  : Le (c_train_Legal.j5 n) (train_Legal.j5) := by
  unfold c_train_Legal.j5 train_Legal.j5
  try dsimp only
  with_reducible repeat' (first | exact Le.refl _ | apply Le.cond | (refine Le.bind ?_ (fun _ => ?_)) | (refine Le.iter (fun _ => ?_) _ _) | (refine Le.sum (fun _ => ?_) (fun _ => ?_) _))
def c_train_Legal.j4 (n : Nat)  : Option (Bool) :=
  (c_train_Legal.j5 n)
theorem c_train_Legal.j4.le (n : Nat)  : Le (c_train_Legal.j4 n) (train_Legal.j4) := by
  unfold c_train_Legal.j4 train_Legal.j4
  try dsimp only
  with_reducible repeat' (first | exact Le.refl _ | apply c_train_Legal.j5.le | apply Le.cond | (refine Le.bind ?_ (fun _ => ?_)) | (refine Le.iter (fun _ => ?_) _ _) | (refine Le.sum (fun _ => ?_) (fun _ => ?_) _))
def c_train_Legal.j3 (n : Nat) (b1_0 : Int) (b1_1 : Int) (b1_2 : Int) (b1_3 : Bool) (b1_4 : Int) : Option (Bool) :=
  (cond ((b1_1 == (1 : Int)))
  ((cond ((b1_4 == (1 : Int)))
  ((some (true == (b1_2 == (1 : Int)))))
  ((some ((b1_4 == (7 : Int)) == (b1_2 == (1 : Int)))))))
  ((cond ((b1_1 == (2 : Int)))
  ((cond ((b1_2 == (1 : Int)))
  ((cond ((!(b1_4 == (4 : Int))))
  ((cond ((b1_2 == (-1 : Int)))
  ((some (!(b1_4 == (0 : Int)))))
  ((some true))))
  ((some false))))
  ((cond ((b1_2 == (-1 : Int)))
  ((some (!(b1_4 == (0 : Int)))))
  ((some true))))))
  ((c_train_Legal.j4 n)))))
theorem c_train_Legal.j3.le (n : Nat) (b1_0 : Int) (b1_1 : Int) (b1_2 : Int) (b1_3 : Bool) (b1_4 : Int) : Le (c_train_Legal.j3 n b1_0 b1_1 b1_2 b1_3 b1_4) (train_Legal.j3 b1_0 b1_1 b1_2 b1_3 b1_4) := by
  unfold c_train_Legal.j3 train_Legal.j3
  try dsimp only
  with_reducible repeat' (first | exact Le.refl _ | apply c_train_Legal.j4.le | apply Le.cond | (refine Le.bind ?_ (fun _ => ?_)) | (refine Le.iter (fun _ => ?_) _ _) | (refine Le.sum (fun _ => ?_) (fun _ => ?_) _))
def c_train_Legal.j2 (n : Nat) (b1_0 : Int) (b1_1 : Int) (b1_2 : Int) (b1_3 : Bool) (b1_4 : Int) : Option (Bool) :=
  (cond (((Int.tmod (IntKind.wrap .i64 (b1_4 - b1_1)) (2 : Int)) != (0 : Int)))
  ((some false))
  ((c_train_Legal.j3 n b1_0 b1_1 b1_2 b1_3 b1_4)))
theorem c_train_Legal.j2.le (n : Nat) (b1_0 : Int) (b1_1 : Int) (b1_2 : Int) (b1_3 : Bool) (b1_4 : Int) : Le (c_train_Legal.j2 n b1_0 b1_1 b1_2 b1_3 b1_4) (train_Legal.j2 b1_0 b1_1 b1_2 b1_3 b1_4) := by
  unfold c_train_Legal.j2 train_Legal.j2
  try dsimp only
  with_reducible repeat' (first | exact Le.refl _ | apply c_train_Legal.j3.le | apply Le.cond | (refine Le.bind ?_ (fun _ => ?_)) | (refine Le.iter (fun _ => ?_) _ _) | (refine Le.sum (fun _ => ?_) (fun _ => ?_) _))
def c_train_Legal.j1 (n : Nat) (b1_0 : Int) (b1_1 : Int) (b1_2 : Int) (b1_3 : Bool) (b1_4 : Int) : Option (Bool) :=
  (cond ((!b1_3))
  ((cond (((Int.tmod b1_1 (2 : Int)) == (0 : Int)))
  ((some (b1_4 == (0 : Int))))
  ((some false))))
  ((c_train_Legal.j2 n b1_0 b1_1 b1_2 b1_3 b1_4)))
theorem c_train_Legal.j1.le (n : Nat) (b1_0 : Int) (b1_1 : Int) (b1_2 : Int) (b1_3 : Bool) (b1_4 : Int) : Le (c_train_Legal.j1 n b1_0 b1_1 b1_2 b1_3 b1_4) (train_Legal.j1 b1_0 b1_1 b1_2 b1_3 b1_4) := by
  unfold c_train_Legal.j1 train_Legal.j1
  try dsimp only
  with_reducible repeat' (first | exact Le.refl _ | apply c_train_Legal.j2.le | apply Le.cond | (refine Le.bind ?_ (fun _ => ?_)) | (refine Le.iter (fun _ => ?_) _ _) | (refine Le.sum (fun _ => ?_) (fun _ => ?_) _))
def c_train_Legal (n : Nat) (t0 : Int × Int × Int × Bool × Int × Unit) : Option (Bool) :=
  ((c_train_scaled n (t0.1, (t0.2.1, (t0.2.2.1, (t0.2.2.2.1, (t0.2.2.2.2.1, ())))))).bind fun y1 =>
  (cond ((!y1))
  ((some false))
  ((cond ((decide (t0.2.2.2.2.1 < (0 : Int))))
  ((some false))
  ((cond ((decide (t0.2.2.2.2.1 > (7 : Int))))
  ((some false))
  ((c_train_Legal.j1 n t0.1 t0.2.1 t0.2.2.1 t0.2.2.2.1 t0.2.2.2.2.1))))))))
theorem c_train_Legal.le (n : Nat) (t0 : Int × Int × Int × Bool × Int × Unit) : Le (c_train_Legal n t0) (train_Legal t0) := by
  unfold c_train_Legal train_Legal
  try dsimp only
  with_reducible repeat' (first | exact Le.refl _ | apply c_train_Legal.j1.le | apply c_train_scaled.le | apply Le.cond | (refine Le.bind ?_ (fun _ => ?_)) | (refine Le.iter (fun _ => ?_) _ _) | (refine Le.sum (fun _ => ?_) (fun _ => ?_) _))
def c_train_listed.j3 (n : Nat) (t3 : Int) (t22 : List (Int × Int × Int × Bool × Int × Unit)) (t23 : Int) (t24 : Int) (b1_0 : Int) (b1_1 : List (Int × Int × Int × Bool × Int × Unit)) (b5_0 : Int) (b5_1 : Int) (b5_2 : Int) (b5_3 : Bool) (b5_4 : Int) : Option ((Int × (List (Int × Int × Int × Bool × Int × Unit)) × Int × Int × (Int × (List (Int × Int × Int × Bool × Int × Unit)) × Unit) × Unit) ⊕ ((Int × Unit) ⊕ (Bool × Unit))) :=
  (some (.inl ((IntKind.wrap .i64 (t3 + b5_1)), t22, t23, (IntKind.wrap .i64 (t24 + (1 : Int))), (b1_0, (b1_1, ())), ())))
theorem c_train_listed.j3.le (n : Nat) (t3 : Int) (t22 : List (Int × Int × Int × Bool × Int × Unit)) (t23 : Int) (t24 : Int) (b1_0 : Int) (b1_1 : List (Int × Int × Int × Bool × Int × Unit)) (b5_0 : Int) (b5_1 : Int) (b5_2 : Int) (b5_3 : Bool) (b5_4 : Int) : Le (c_train_listed.j3 n t3 t22 t23 t24 b1_0 b1_1 b5_0 b5_1 b5_2 b5_3 b5_4) (train_listed.j3 t3 t22 t23 t24 b1_0 b1_1 b5_0 b5_1 b5_2 b5_3 b5_4) := by
  unfold c_train_listed.j3 train_listed.j3
  try dsimp only
  with_reducible repeat' (first | exact Le.refl _ | apply Le.cond | (refine Le.bind ?_ (fun _ => ?_)) | (refine Le.iter (fun _ => ?_) _ _) | (refine Le.sum (fun _ => ?_) (fun _ => ?_) _))
def c_train_listed.j2 (n : Nat) (t3 : Int) (t22 : List (Int × Int × Int × Bool × Int × Unit)) (t23 : Int) (t24 : Int) (b1_0 : Int) (b1_1 : List (Int × Int × Int × Bool × Int × Unit)) : Option ((Int × (List (Int × Int × Int × Bool × Int × Unit)) × Int × Int × (Int × (List (Int × Int × Int × Bool × Int × Unit)) × Unit) × Unit) ⊕ ((Int × Unit) ⊕ (Bool × Unit))) :=
  (cond (inB t24 (List.length t22))
  (((c_train_scaled n ((List.getD t22 (t24.toNat) ((0 : Int), ((0 : Int), ((0 : Int), (false, ((0 : Int), ())))))).1, ((List.getD t22 (t24.toNat) ((0 : Int), ((0 : Int), ((0 : Int), (false, ((0 : Int), ())))))).2.1, ((List.getD t22 (t24.toNat) ((0 : Int), ((0 : Int), ((0 : Int), (false, ((0 : Int), ())))))).2.2.1, ((List.getD t22 (t24.toNat) ((0 : Int), ((0 : Int), ((0 : Int), (false, ((0 : Int), ())))))).2.2.2.1, ((List.getD t22 (t24.toNat) ((0 : Int), ((0 : Int), ((0 : Int), (false, ((0 : Int), ())))))).2.2.2.2.1, ())))))).bind fun y3 =>
  (cond ((!y3))
  ((some (.inr (.inr (false, ())))))
  ((cond ((decide (t24 > (0 : Int))))
  ((cond (inB (IntKind.wrap .i64 (t24 - (1 : Int))) (List.length b1_1))
  ((cond ((decide ((List.getD t22 (t24.toNat) ((0 : Int), ((0 : Int), ((0 : Int), (false, ((0 : Int), ())))))).1 ≤ (List.getD b1_1 (((IntKind.wrap .i64 (t24 - (1 : Int)))).toNat) ((0 : Int), ((0 : Int), ((0 : Int), (false, ((0 : Int), ())))))).1)))
  ((some (.inr (.inr (false, ())))))
  ((c_train_listed.j3 n t3 t22 t23 t24 b1_0 b1_1 (List.getD t22 (t24.toNat) ((0 : Int), ((0 : Int), ((0 : Int), (false, ((0 : Int), ())))))).1 (List.getD t22 (t24.toNat) ((0 : Int), ((0 : Int), ((0 : Int), (false, ((0 : Int), ())))))).2.1 (List.getD t22 (t24.toNat) ((0 : Int), ((0 : Int), ((0 : Int), (false, ((0 : Int), ())))))).2.2.1 (List.getD t22 (t24.toNat) ((0 : Int), ((0 : Int), ((0 : Int), (false, ((0 : Int), ())))))).2.2.2.1 (List.getD t22 (t24.toNat) ((0 : Int), ((0 : Int), ((0 : Int), (false, ((0 : Int), ())))))).2.2.2.2.1))))
  none))
  ((some (.inl ((IntKind.wrap .i64 (t3 + (List.getD t22 (t24.toNat) ((0 : Int), ((0 : Int), ((0 : Int), (false, ((0 : Int), ())))))).2.1)), t22, t23, (IntKind.wrap .i64 (t24 + (1 : Int))), (b1_0, (b1_1, ())), ())))))))))
  none)
theorem c_train_listed.j2.le (n : Nat) (t3 : Int) (t22 : List (Int × Int × Int × Bool × Int × Unit)) (t23 : Int) (t24 : Int) (b1_0 : Int) (b1_1 : List (Int × Int × Int × Bool × Int × Unit)) : Le (c_train_listed.j2 n t3 t22 t23 t24 b1_0 b1_1) (train_listed.j2 t3 t22 t23 t24 b1_0 b1_1) := by
  unfold c_train_listed.j2 train_listed.j2
  try dsimp only
  with_reducible repeat' (first | exact Le.refl _ | apply c_train_listed.j3.le | apply c_train_scaled.le | apply Le.cond | (refine Le.bind ?_ (fun _ => ?_)) | (refine Le.iter (fun _ => ?_) _ _) | (refine Le.sum (fun _ => ?_) (fun _ => ?_) _))
def c_train_listed.s0 (n : Nat) (t3 : Int) (t22 : List (Int × Int × Int × Bool × Int × Unit)) (t23 : Int) (t24 : Int) (b1 : Int × (List (Int × Int × Int × Bool × Int × Unit)) × Unit) : Option ((Int × (List (Int × Int × Int × Bool × Int × Unit)) × Int × Int × (Int × (List (Int × Int × Int × Bool × Int × Unit)) × Unit) × Unit) ⊕ ((Int × Unit) ⊕ (Bool × Unit))) :=
  (cond ((decide (t24 < t23)))
  ((c_train_listed.j2 n t3 t22 t23 t24 b1.1 b1.2.1))
  ((some (.inr (.inl (t3, ()))))))
theorem c_train_listed.s0.le (n : Nat) (t3 : Int) (t22 : List (Int × Int × Int × Bool × Int × Unit)) (t23 : Int) (t24 : Int) (b1 : Int × (List (Int × Int × Int × Bool × Int × Unit)) × Unit) : Le (c_train_listed.s0 n t3 t22 t23 t24 b1) (train_listed.s0 t3 t22 t23 t24 b1) := by
  unfold c_train_listed.s0 train_listed.s0
  try dsimp only
  with_reducible repeat' (first | exact Le.refl _ | apply c_train_listed.j2.le | apply Le.cond | (refine Le.bind ?_ (fun _ => ?_)) | (refine Le.iter (fun _ => ?_) _ _) | (refine Le.sum (fun _ => ?_) (fun _ => ?_) _))
def c_train_listed.k0_0 (n : Nat) (t3 : Int) : Option (Bool) :=
  (some (decide (t3 ≤ (8 : Int))))
theorem c_train_listed.k0_0.le (n : Nat) (t3 : Int) : Le (c_train_listed.k0_0 n t3) (train_listed.k0_0 t3) := by
  unfold c_train_listed.k0_0 train_listed.k0_0
  try dsimp only
  with_reducible repeat' (first | exact Le.refl _ | apply Le.cond | (refine Le.bind ?_ (fun _ => ?_)) | (refine Le.iter (fun _ => ?_) _ _) | (refine Le.sum (fun _ => ?_) (fun _ => ?_) _))
def c_train_listed.k0_1 (n : Nat) (t2 : Bool) : Option (Bool) :=
  (some t2)
theorem c_train_listed.k0_1.le (n : Nat) (t2 : Bool) : Le (c_train_listed.k0_1 n t2) (train_listed.k0_1 t2) := by
  unfold c_train_listed.k0_1 train_listed.k0_1
  try dsimp only
  with_reducible repeat' (first | exact Le.refl _ | apply Le.cond | (refine Le.bind ?_ (fun _ => ?_)) | (refine Le.iter (fun _ => ?_) _ _) | (refine Le.sum (fun _ => ?_) (fun _ => ?_) _))
def c_train_listed.j1 (n : Nat) (b1_0 : Int) (b1_1 : List (Int × Int × Int × Bool × Int × Unit)) : Option (Bool) :=
  ((iterC n (fun x : Int × (List (Int × Int × Int × Bool × Int × Unit)) × Int × Int × (Int × (List (Int × Int × Int × Bool × Int × Unit)) × Unit) × Unit => c_train_listed.s0 n x.1 x.2.1 x.2.2.1 x.2.2.2.1 x.2.2.2.2.1) ((0 : Int), b1_1, ((List.length b1_1 : Nat) : Int), (0 : Int), (b1_0, (b1_1, ())), ())).bind fun z => Sum.casesOn z (fun y => c_train_listed.k0_0 n y.1) (fun z => c_train_listed.k0_1 n z.1))
theorem c_train_listed.j1.le (n : Nat) (b1_0 : Int) (b1_1 : List (Int × Int × Int × Bool × Int × Unit)) : Le (c_train_listed.j1 n b1_0 b1_1) (train_listed.j1 b1_0 b1_1) := by
  unfold c_train_listed.j1 train_listed.j1
  try dsimp only
  with_reducible repeat' (first | exact Le.refl _ | apply c_train_listed.k0_0.le | apply c_train_listed.k0_1.le | apply c_train_listed.s0.le | apply Le.cond | (refine Le.bind ?_ (fun _ => ?_)) | (refine Le.iter (fun _ => ?_) _ _) | (refine Le.sum (fun _ => ?_) (fun _ => ?_) _))
def c_train_listed (n : Nat) (t0 : Int × (List (Int × Int × Int × Bool × Int × Unit)) × Unit) : Option (Bool) :=
  (cond ((t0.1 != (2 : Int)))
  ((some false))
  ((cond ((decide (((List.length t0.2.1 : Nat) : Int) < (1 : Int))))
  ((some false))
  ((cond ((decide (((List.length t0.2.1 : Nat) : Int) > (8 : Int))))
  ((some false))
  ((c_train_listed.j1 n t0.1 t0.2.1)))))))
theorem c_train_listed.le (n : Nat) (t0 : Int × (List (Int × Int × Int × Bool × Int × Unit)) × Unit) : Le (c_train_listed n t0) (train_listed t0) := by
  unfold c_train_listed train_listed
  try dsimp only
  with_reducible repeat' (first | exact Le.refl _ | apply c_train_listed.j1.le | apply Le.cond | (refine Le.bind ?_ (fun _ => ?_)) | (refine Le.iter (fun _ => ?_) _ _) | (refine Le.sum (fun _ => ?_) (fun _ => ?_) _))
def c_train_Valid.j2 (n : Nat) (t6 : List (Int × Int × Int × Bool × Int × Unit)) (t7 : Int) (t8 : Int) (b1_0 : Int) (b1_1 : List (Int × Int × Int × Bool × Int × Unit)) : Option (((List (Int × Int × Int × Bool × Int × Unit)) × Int × Int × (Int × (List (Int × Int × Int × Bool × Int × Unit)) × Unit) × Unit) ⊕ (((Int × (List (Int × Int × Int × Bool × Int × Unit)) × Unit) × Unit) ⊕ (Bool × Unit))) :=
  (some (.inl (t6, t7, (IntKind.wrap .i64 (t8 + (1 : Int))), (b1_0, (b1_1, ())), ())))
theorem c_train_Valid.j2.le (n : Nat) (t6 : List (Int × Int × Int × Bool × Int × Unit)) (t7 : Int) (t8 : Int) (b1_0 : Int) (b1_1 : List (Int × Int × Int × Bool × Int × Unit)) : Le (c_train_Valid.j2 n t6 t7 t8 b1_0 b1_1) (train_Valid.j2 t6 t7 t8 b1_0 b1_1) := by
  unfold c_train_Valid.j2 train_Valid.j2
  try dsimp only
  with_reducible repeat' (first | exact Le.refl _ | apply Le.cond | (refine Le.bind ?_ (fun _ => ?_)) | (refine Le.iter (fun _ => ?_) _ _) | (refine Le.sum (fun _ => ?_) (fun _ => ?_) _))
def c_train_Valid.j1 (n : Nat) (t6 : List (Int × Int × Int × Bool × Int × Unit)) (t7 : Int) (t8 : Int) (b1_0 : Int) (b1_1 : List (Int × Int × Int × Bool × Int × Unit)) : Option (((List (Int × Int × Int × Bool × Int × Unit)) × Int × Int × (Int × (List (Int × Int × Int × Bool × Int × Unit)) × Unit) × Unit) ⊕ (((Int × (List (Int × Int × Int × Bool × Int × Unit)) × Unit) × Unit) ⊕ (Bool × Unit))) :=
  (cond (inB t8 (List.length t6))
  (((c_train_Legal n ((List.getD t6 (t8.toNat) ((0 : Int), ((0 : Int), ((0 : Int), (false, ((0 : Int), ())))))).1, ((List.getD t6 (t8.toNat) ((0 : Int), ((0 : Int), ((0 : Int), (false, ((0 : Int), ())))))).2.1, ((List.getD t6 (t8.toNat) ((0 : Int), ((0 : Int), ((0 : Int), (false, ((0 : Int), ())))))).2.2.1, ((List.getD t6 (t8.toNat) ((0 : Int), ((0 : Int), ((0 : Int), (false, ((0 : Int), ())))))).2.2.2.1, ((List.getD t6 (t8.toNat) ((0 : Int), ((0 : Int), ((0 : Int), (false, ((0 : Int), ())))))).2.2.2.2.1, ())))))).bind fun y1 =>
  (cond ((!y1))
  ((some (.inr (.inr (false, ())))))
  ((c_train_Valid.j2 n t6 t7 t8 b1_0 b1_1)))))
  none)
theorem c_train_Valid.j1.le (n : Nat) (t6 : List (Int × Int × Int × Bool × Int × Unit)) (t7 : Int) (t8 : Int) (b1_0 : Int) (b1_1 : List (Int × Int × Int × Bool × Int × Unit)) : Le (c_train_Valid.j1 n t6 t7 t8 b1_0 b1_1) (train_Valid.j1 t6 t7 t8 b1_0 b1_1) := by
  unfold c_train_Valid.j1 train_Valid.j1
  try dsimp only
  with_reducible repeat' (first | exact Le.refl _ | apply c_train_Legal.le | apply c_train_Valid.j2.le | apply Le.cond | (refine Le.bind ?_ (fun _ => ?_)) | (refine Le.iter (fun _ => ?_) _ _) | (refine Le.sum (fun _ => ?_) (fun _ => ?_) _))
def c_train_Valid.s0 (n : Nat) (t6 : List (Int × Int × Int × Bool × Int × Unit)) (t7 : Int) (t8 : Int) (b1 : Int × (List (Int × Int × Int × Bool × Int × Unit)) × Unit) : Option (((List (Int × Int × Int × Bool × Int × Unit)) × Int × Int × (Int × (List (Int × Int × Int × Bool × Int × Unit)) × Unit) × Unit) ⊕ (((Int × (List (Int × Int × Int × Bool × Int × Unit)) × Unit) × Unit) ⊕ (Bool × Unit))) :=
  (cond ((decide (t8 < t7)))
  ((c_train_Valid.j1 n t6 t7 t8 b1.1 b1.2.1))
  ((some (.inr (.inl ((b1.1, (b1.2.1, ())), ()))))))
theorem c_train_Valid.s0.le (n : Nat) (t6 : List (Int × Int × Int × Bool × Int × Unit)) (t7 : Int) (t8 : Int) (b1 : Int × (List (Int × Int × Int × Bool × Int × Unit)) × Unit) : Le (c_train_Valid.s0 n t6 t7 t8 b1) (train_Valid.s0 t6 t7 t8 b1) := by
  unfold c_train_Valid.s0 train_Valid.s0
  try dsimp only
  with_reducible repeat' (first | exact Le.refl _ | apply c_train_Valid.j1.le | apply Le.cond | (refine Le.bind ?_ (fun _ => ?_)) | (refine Le.iter (fun _ => ?_) _ _) | (refine Le.sum (fun _ => ?_) (fun _ => ?_) _))
def c_train_Valid.k0_0 (n : Nat) (b1 : Int × (List (Int × Int × Int × Bool × Int × Unit)) × Unit) : Option (Bool) :=
  ((c_train_listed n (b1.1, (b1.2.1, ()))).bind fun y2 =>
  (some y2))
theorem c_train_Valid.k0_0.le (n : Nat) (b1 : Int × (List (Int × Int × Int × Bool × Int × Unit)) × Unit) : Le (c_train_Valid.k0_0 n b1) (train_Valid.k0_0 b1) := by
  unfold c_train_Valid.k0_0 train_Valid.k0_0
  try dsimp only
  with_reducible repeat' (first | exact Le.refl _ | apply c_train_listed.le | apply Le.cond | (refine Le.bind ?_ (fun _ => ?_)) | (refine Le.iter (fun _ => ?_) _ _) | (refine Le.sum (fun _ => ?_) (fun _ => ?_) _))
def c_train_Valid.k0_1 (n : Nat) (t2 : Bool) : Option (Bool) :=
  (some t2)
theorem c_train_Valid.k0_1.le (n : Nat) (t2 : Bool) : Le (c_train_Valid.k0_1 n t2) (train_Valid.k0_1 t2) := by
  unfold c_train_Valid.k0_1 train_Valid.k0_1
  try dsimp only
  with_reducible repeat' (first | exact Le.refl _ | apply Le.cond | (refine Le.bind ?_ (fun _ => ?_)) | (refine Le.iter (fun _ => ?_) _ _) | (refine Le.sum (fun _ => ?_) (fun _ => ?_) _))
def c_train_Valid (n : Nat) (t0 : Int × (List (Int × Int × Int × Bool × Int × Unit)) × Unit) : Option (Bool) :=
  ((iterC n (fun x : (List (Int × Int × Int × Bool × Int × Unit)) × Int × Int × (Int × (List (Int × Int × Int × Bool × Int × Unit)) × Unit) × Unit => c_train_Valid.s0 n x.1 x.2.1 x.2.2.1 x.2.2.2.1) (t0.2.1, ((List.length t0.2.1 : Nat) : Int), (0 : Int), (t0.1, (t0.2.1, ())), ())).bind fun z => Sum.casesOn z (fun y => c_train_Valid.k0_0 n y.1) (fun z => c_train_Valid.k0_1 n z.1))
theorem c_train_Valid.le (n : Nat) (t0 : Int × (List (Int × Int × Int × Bool × Int × Unit)) × Unit) : Le (c_train_Valid n t0) (train_Valid t0) := by
  unfold c_train_Valid train_Valid
  try dsimp only
  with_reducible repeat' (first | exact Le.refl _ | apply c_train_Valid.k0_0.le | apply c_train_Valid.k0_1.le | apply c_train_Valid.s0.le | apply Le.cond | (refine Le.bind ?_ (fun _ => ?_)) | (refine Le.iter (fun _ => ?_) _ _) | (refine Le.sum (fun _ => ?_) (fun _ => ?_) _))
def c_localmass_accepted (n : Nat) (t0 : Int × (List (Int × Int × Int × Bool × Int × Unit)) × Unit) : Option (Bool) :=
  ((c_symbol_Valid n (t0.1, (t0.2.1, ()))).bind fun y1 =>
  (cond (y1)
  ((some true))
  (((c_train_Valid n (t0.1, (t0.2.1, ()))).bind fun y2 =>
  (cond (y2)
  ((some true))
  (none))))))
theorem c_localmass_accepted.le (n : Nat) (t0 : Int × (List (Int × Int × Int × Bool × Int × Unit)) × Unit) : Le (c_localmass_accepted n t0) (localmass_accepted t0) := by
  unfold c_localmass_accepted localmass_accepted
  try dsimp only
  with_reducible repeat' (first | exact Le.refl _ | apply c_symbol_Valid.le | apply c_train_Valid.le | apply Le.cond | (refine Le.bind ?_ (fun _ => ?_)) | (refine Le.iter (fun _ => ?_) _ _) | (refine Le.sum (fun _ => ?_) (fun _ => ?_) _))
end
end Go.Proofs.YtgbndganadelpaaGreatDoor.E
