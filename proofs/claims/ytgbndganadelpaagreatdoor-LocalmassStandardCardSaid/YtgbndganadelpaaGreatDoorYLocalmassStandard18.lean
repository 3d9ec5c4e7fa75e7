/- The same functions with fuel: for closed values (printed by gen.py). -/
import Derived.Test.YtgbndganadelpaaGreatDoorYLocalmassStandard16
import Derived.Test.YtgbndganadelpaaGreatDoorYLocalmassStandard17
namespace Go.Proofs.YtgbndganadelpaaGreatDoor.E
noncomputable section
open Go
set_option linter.unusedVariables false
set_option maxRecDepth 100000
def c_localmass_Cross.j3 (n : Nat) (t4 : Int) (t16 : List (Int × Int × Int × Bool × Int × Unit)) (t17 : Int) (t18 : Int) (t27 : List (Int × Int × Int × Bool × Int × Unit)) (t28 : Int) (t29 : Int) (b1_0 : Int) (b1_1 : List (Int × Int × Int × Bool × Int × Unit)) (b2_0 : Bool) (b2_1 : List Int) (b2_2 : Bool) (b2_3 : List Int) (b2_4 : Bool) (b6_0 : Int) (b6_1 : Int) (b6_2 : Int) (b6_3 : Bool) (b6_4 : Int) : Option ((Int × (List (Int × Int × Int × Bool × Int × Unit)) × Int × Int × (List (Int × Int × Int × Bool × Int × Unit)) × Int × Int × (Int × (List (Int × Int × Int × Bool × Int × Unit)) × Unit) × (((Bool × List Int × Unit) × (Bool × List Int × Unit) × Unit) × Bool × Unit) × (Int × Int × Int × Bool × Int × Unit) × Unit) ⊕ ((Int × (List (Int × Int × Int × Bool × Int × Unit)) × Int × Int × (Int × (List (Int × Int × Int × Bool × Int × Unit)) × Unit) × (((Bool × List Int × Unit) × (Bool × List Int × Unit) × Unit) × Bool × Unit) × Unit))) :=
  (cond (inB t29 (List.length t27))
  ((some (.inl ((IntKind.wrap .i64 (t4 + (IntKind.wrap .i64 ((IntKind.wrap .i64 ((IntKind.wrap .i64 ((List.getD t27 (t29.toNat) ((0 : Int), ((0 : Int), ((0 : Int), (false, ((0 : Int), ())))))).1 - b6_0)) * b6_1)) * (List.getD t27 (t29.toNat) ((0 : Int), ((0 : Int), ((0 : Int), (false, ((0 : Int), ())))))).2.1)))), t16, t17, t18, t27, t28, (IntKind.wrap .i64 (t29 + (1 : Int))), (b1_0, (b1_1, ())), (((b2_0, (b2_1, ())), ((b2_2, (b2_3, ())), ())), (b2_4, ())), (b6_0, (b6_1, (b6_2, (b6_3, (b6_4, ()))))), ()))))
  none)
theorem c_localmass_Cross.j3.le (n : Nat) (t4 : Int) (t16 : List (Int × Int × Int × Bool × Int × Unit)) (t17 : Int) (t18 : Int) (t27 : List (Int × Int × Int × Bool × Int × Unit)) (t28 : Int) (t29 : Int) (b1_0 : Int) (b1_1 : List (Int × Int × Int × Bool × Int × Unit)) (b2_0 : Bool) (b2_1 : List Int) (b2_2 : Bool) (b2_3 : List Int) (b2_4 : Bool) (b6_0 : Int) (b6_1 : Int) (b6_2 : Int) (b6_3 : Bool) (b6_4 : Int) : Le (c_localmass_Cross.j3 n t4 t16 t17 t18 t27 t28 t29 b1_0 b1_1 b2_0 b2_1 b2_2 b2_3 b2_4 b6_0 b6_1 b6_2 b6_3 b6_4) (localmass_Cross.j3 t4 t16 t17 t18 t27 t28 t29 b1_0 b1_1 b2_0 b2_1 b2_2 b2_3 b2_4 b6_0 b6_1 b6_2 b6_3 b6_4) := by
  unfold c_localmass_Cross.j3 localmass_Cross.j3
  try dsimp only
  with_reducible repeat' (first | exact Le.refl _ | apply Le.cond | (refine Le.bind ?_ (fun _ => ?_)) | (refine Le.iter (fun _ => ?_) _ _) | (refine Le.sum (fun _ => ?_) (fun _ => ?_) _))
def c_localmass_Cross.s0 (n : Nat) (t4 : Int) (t16 : List (Int × Int × Int × Bool × Int × Unit)) (t17 : Int) (t18 : Int) (t27 : List (Int × Int × Int × Bool × Int × Unit)) (t28 : Int) (t29 : Int) (b1 : Int × (List (Int × Int × Int × Bool × Int × Unit)) × Unit) (b2 : ((Bool × List Int × Unit) × (Bool × List Int × Unit) × Unit) × Bool × Unit) (b6 : Int × Int × Int × Bool × Int × Unit) : Option ((Int × (List (Int × Int × Int × Bool × Int × Unit)) × Int × Int × (List (Int × Int × Int × Bool × Int × Unit)) × Int × Int × (Int × (List (Int × Int × Int × Bool × Int × Unit)) × Unit) × (((Bool × List Int × Unit) × (Bool × List Int × Unit) × Unit) × Bool × Unit) × (Int × Int × Int × Bool × Int × Unit) × Unit) ⊕ ((Int × (List (Int × Int × Int × Bool × Int × Unit)) × Int × Int × (Int × (List (Int × Int × Int × Bool × Int × Unit)) × Unit) × (((Bool × List Int × Unit) × (Bool × List Int × Unit) × Unit) × Bool × Unit) × Unit))) :=
  (cond ((decide (t29 < t28)))
  ((c_localmass_Cross.j3 n t4 t16 t17 t18 t27 t28 t29 b1.1 b1.2.1 b2.1.1.1 b2.1.1.2.1 b2.1.2.1.1 b2.1.2.1.2.1 b2.2.1 b6.1 b6.2.1 b6.2.2.1 b6.2.2.2.1 b6.2.2.2.2.1))
  ((some (.inr (t4, t16, t17, t18, (b1.1, (b1.2.1, ())), (((b2.1.1.1, (b2.1.1.2.1, ())), ((b2.1.2.1.1, (b2.1.2.1.2.1, ())), ())), (b2.2.1, ())), ())))))
theorem c_localmass_Cross.s0.le (n : Nat) (t4 : Int) (t16 : List (Int × Int × Int × Bool × Int × Unit)) (t17 : Int) (t18 : Int) (t27 : List (Int × Int × Int × Bool × Int × Unit)) (t28 : Int) (t29 : Int) (b1 : Int × (List (Int × Int × Int × Bool × Int × Unit)) × Unit) (b2 : ((Bool × List Int × Unit) × (Bool × List Int × Unit) × Unit) × Bool × Unit) (b6 : Int × Int × Int × Bool × Int × Unit) : Le (c_localmass_Cross.s0 n t4 t16 t17 t18 t27 t28 t29 b1 b2 b6) (localmass_Cross.s0 t4 t16 t17 t18 t27 t28 t29 b1 b2 b6) := by
  unfold c_localmass_Cross.s0 localmass_Cross.s0
  try dsimp only
  with_reducible repeat' (first | exact Le.refl _ | apply c_localmass_Cross.j3.le | apply Le.cond | (refine Le.bind ?_ (fun _ => ?_)) | (refine Le.iter (fun _ => ?_) _ _) | (refine Le.sum (fun _ => ?_) (fun _ => ?_) _))
def c_localmass_Cross.k0 (n : Nat) (t4 : Int) (t16 : List (Int × Int × Int × Bool × Int × Unit)) (t17 : Int) (t18 : Int) (b1 : Int × (List (Int × Int × Int × Bool × Int × Unit)) × Unit) (b2 : ((Bool × List Int × Unit) × (Bool × List Int × Unit) × Unit) × Bool × Unit) : Option ((Int × (List (Int × Int × Int × Bool × Int × Unit)) × Int × Int × (Int × (List (Int × Int × Int × Bool × Int × Unit)) × Unit) × (((Bool × List Int × Unit) × (Bool × List Int × Unit) × Unit) × Bool × Unit) × Unit) ⊕ ((Int × (Int × (List (Int × Int × Int × Bool × Int × Unit)) × Unit) × (((Bool × List Int × Unit) × (Bool × List Int × Unit) × Unit) × Bool × Unit) × Unit))) :=
  (some (.inl (t4, t16, t17, (IntKind.wrap .i64 (t18 + (1 : Int))), (b1.1, (b1.2.1, ())), (((b2.1.1.1, (b2.1.1.2.1, ())), ((b2.1.2.1.1, (b2.1.2.1.2.1, ())), ())), (b2.2.1, ())), ())))
theorem c_localmass_Cross.k0.le (n : Nat) (t4 : Int) (t16 : List (Int × Int × Int × Bool × Int × Unit)) (t17 : Int) (t18 : Int) (b1 : Int × (List (Int × Int × Int × Bool × Int × Unit)) × Unit) (b2 : ((Bool × List Int × Unit) × (Bool × List Int × Unit) × Unit) × Bool × Unit) : Le (c_localmass_Cross.k0 n t4 t16 t17 t18 b1 b2) (localmass_Cross.k0 t4 t16 t17 t18 b1 b2) := by
  unfold c_localmass_Cross.k0 localmass_Cross.k0
  try dsimp only
  with_reducible repeat' (first | exact Le.refl _ | apply Le.cond | (refine Le.bind ?_ (fun _ => ?_)) | (refine Le.iter (fun _ => ?_) _ _) | (refine Le.sum (fun _ => ?_) (fun _ => ?_) _))
def c_localmass_Cross.j2 (n : Nat) (t4 : Int) (t16 : List (Int × Int × Int × Bool × Int × Unit)) (t17 : Int) (t18 : Int) (b1_0 : Int) (b1_1 : List (Int × Int × Int × Bool × Int × Unit)) (b2_0 : Bool) (b2_1 : List Int) (b2_2 : Bool) (b2_3 : List Int) (b2_4 : Bool) : Option ((Int × (List (Int × Int × Int × Bool × Int × Unit)) × Int × Int × (Int × (List (Int × Int × Int × Bool × Int × Unit)) × Unit) × (((Bool × List Int × Unit) × (Bool × List Int × Unit) × Unit) × Bool × Unit) × Unit) ⊕ ((Int × (Int × (List (Int × Int × Int × Bool × Int × Unit)) × Unit) × (((Bool × List Int × Unit) × (Bool × List Int × Unit) × Unit) × Bool × Unit) × Unit))) :=
  (cond (inB t18 (List.length t16))
  ((cond (inC (IntKind.wrap .i64 (t18 + (1 : Int))) (List.length b1_1))
  (let x2 := (List.drop (((IntKind.wrap .i64 (t18 + (1 : Int)))).toNat) b1_1)
  ((iterC n (fun x : Int × (List (Int × Int × Int × Bool × Int × Unit)) × Int × Int × (List (Int × Int × Int × Bool × Int × Unit)) × Int × Int × (Int × (List (Int × Int × Int × Bool × Int × Unit)) × Unit) × (((Bool × List Int × Unit) × (Bool × List Int × Unit) × Unit) × Bool × Unit) × (Int × Int × Int × Bool × Int × Unit) × Unit => c_localmass_Cross.s0 n x.1 x.2.1 x.2.2.1 x.2.2.2.1 x.2.2.2.2.1 x.2.2.2.2.2.1 x.2.2.2.2.2.2.1 x.2.2.2.2.2.2.2.1 x.2.2.2.2.2.2.2.2.1 x.2.2.2.2.2.2.2.2.2.1) (t4, t16, t17, t18, x2, ((List.length x2 : Nat) : Int), (0 : Int), (b1_0, (b1_1, ())), (((b2_0, (b2_1, ())), ((b2_2, (b2_3, ())), ())), (b2_4, ())), ((List.getD t16 (t18.toNat) ((0 : Int), ((0 : Int), ((0 : Int), (false, ((0 : Int), ())))))).1, ((List.getD t16 (t18.toNat) ((0 : Int), ((0 : Int), ((0 : Int), (false, ((0 : Int), ())))))).2.1, ((List.getD t16 (t18.toNat) ((0 : Int), ((0 : Int), ((0 : Int), (false, ((0 : Int), ())))))).2.2.1, ((List.getD t16 (t18.toNat) ((0 : Int), ((0 : Int), ((0 : Int), (false, ((0 : Int), ())))))).2.2.2.1, ((List.getD t16 (t18.toNat) ((0 : Int), ((0 : Int), ((0 : Int), (false, ((0 : Int), ())))))).2.2.2.2.1, ()))))), ())).bind fun y => c_localmass_Cross.k0 n y.1 y.2.1 y.2.2.1 y.2.2.2.1 y.2.2.2.2.1 y.2.2.2.2.2.1))
  none))
  none)
theorem c_localmass_Cross.j2.le (n : Nat) (t4 : Int) (t16 : List (Int × Int × Int × Bool × Int × Unit)) (t17 : Int) (t18 : Int) (b1_0 : Int) (b1_1 : List (Int × Int × Int × Bool × Int × Unit)) (b2_0 : Bool) (b2_1 : List Int) (b2_2 : Bool) (b2_3 : List Int) (b2_4 : Bool) : Le (c_localmass_Cross.j2 n t4 t16 t17 t18 b1_0 b1_1 b2_0 b2_1 b2_2 b2_3 b2_4) (localmass_Cross.j2 t4 t16 t17 t18 b1_0 b1_1 b2_0 b2_1 b2_2 b2_3 b2_4) := by
  unfold c_localmass_Cross.j2 localmass_Cross.j2
  try dsimp only
  with_reducible repeat' (first | exact Le.refl _ | apply c_localmass_Cross.k0.le | apply c_localmass_Cross.s0.le | apply Le.cond | (refine Le.bind ?_ (fun _ => ?_)) | (refine Le.iter (fun _ => ?_) _ _) | (refine Le.sum (fun _ => ?_) (fun _ => ?_) _))
def c_localmass_Cross.s1 (n : Nat) (t4 : Int) (t16 : List (Int × Int × Int × Bool × Int × Unit)) (t17 : Int) (t18 : Int) (b1 : Int × (List (Int × Int × Int × Bool × Int × Unit)) × Unit) (b2 : ((Bool × List Int × Unit) × (Bool × List Int × Unit) × Unit) × Bool × Unit) : Option ((Int × (List (Int × Int × Int × Bool × Int × Unit)) × Int × Int × (Int × (List (Int × Int × Int × Bool × Int × Unit)) × Unit) × (((Bool × List Int × Unit) × (Bool × List Int × Unit) × Unit) × Bool × Unit) × Unit) ⊕ ((Int × (Int × (List (Int × Int × Int × Bool × Int × Unit)) × Unit) × (((Bool × List Int × Unit) × (Bool × List Int × Unit) × Unit) × Bool × Unit) × Unit))) :=
  (cond ((decide (t18 < t17)))
  ((c_localmass_Cross.j2 n t4 t16 t17 t18 b1.1 b1.2.1 b2.1.1.1 b2.1.1.2.1 b2.1.2.1.1 b2.1.2.1.2.1 b2.2.1))
  ((some (.inr (t4, (b1.1, (b1.2.1, ())), (((b2.1.1.1, (b2.1.1.2.1, ())), ((b2.1.2.1.1, (b2.1.2.1.2.1, ())), ())), (b2.2.1, ())), ())))))
theorem c_localmass_Cross.s1.le (n : Nat) (t4 : Int) (t16 : List (Int × Int × Int × Bool × Int × Unit)) (t17 : Int) (t18 : Int) (b1 : Int × (List (Int × Int × Int × Bool × Int × Unit)) × Unit) (b2 : ((Bool × List Int × Unit) × (Bool × List Int × Unit) × Unit) × Bool × Unit) : Le (c_localmass_Cross.s1 n t4 t16 t17 t18 b1 b2) (localmass_Cross.s1 t4 t16 t17 t18 b1 b2) := by
  unfold c_localmass_Cross.s1 localmass_Cross.s1
  try dsimp only
  with_reducible repeat' (first | exact Le.refl _ | apply c_localmass_Cross.j2.le | apply Le.cond | (refine Le.bind ?_ (fun _ => ?_)) | (refine Le.iter (fun _ => ?_) _ _) | (refine Le.sum (fun _ => ?_) (fun _ => ?_) _))
def c_localmass_Cross.j4 (n : Nat) (t4 : Int) (b1_0 : Int) (b1_1 : List (Int × Int × Int × Bool × Int × Unit)) (b2_0 : Bool) (b2_1 : List Int) (b2_2 : Bool) (b2_3 : List Int) (b2_4 : Bool) : Option ((((Bool × List Int × Unit) × (Bool × List Int × Unit) × Unit) × Bool × Unit) × Int × Unit) :=
  ((c_localmass_whole n b1_0).bind fun y7 =>
  ((c_rational_Pow n y7 (IntKind.wrap .i64 (Int.tdiv t4 (2 : Int)))).bind fun y9 =>
  (some ((((y9.1.1.1, (y9.1.1.2.1, ())), ((y9.1.2.1.1, (y9.1.2.1.2.1, ())), ())), (((Int.tmod t4 (2 : Int)) == (1 : Int)), ())), ((0 : Int), ())))))
theorem c_localmass_Cross.j4.le (n : Nat) (t4 : Int) (b1_0 : Int) (b1_1 : List (Int × Int × Int × Bool × Int × Unit)) (b2_0 : Bool) (b2_1 : List Int) (b2_2 : Bool) (b2_3 : List Int) (b2_4 : Bool) : Le (c_localmass_Cross.j4 n t4 b1_0 b1_1 b2_0 b2_1 b2_2 b2_3 b2_4) (localmass_Cross.j4 t4 b1_0 b1_1 b2_0 b2_1 b2_2 b2_3 b2_4) := by
  unfold c_localmass_Cross.j4 localmass_Cross.j4
  try dsimp only
  with_reducible repeat' (first | exact Le.refl _ | apply c_localmass_whole.le | apply c_rational_Pow.le | apply Le.cond | (refine Le.bind ?_ (fun _ => ?_)) | (refine Le.iter (fun _ => ?_) _ _) | (refine Le.sum (fun _ => ?_) (fun _ => ?_) _))
def c_localmass_Cross.k1 (n : Nat) (t4 : Int) (b1 : Int × (List (Int × Int × Int × Bool × Int × Unit)) × Unit) (b2 : ((Bool × List Int × Unit) × (Bool × List Int × Unit) × Unit) × Bool × Unit) : Option ((((Bool × List Int × Unit) × (Bool × List Int × Unit) × Unit) × Bool × Unit) × Int × Unit) :=
  (cond ((decide (t4 > (128 : Int))))
  ((some ((((false, (([] : List Int), ())), ((false, (([] : List Int), ())), ())), (false, ())), ((7 : Int), ()))))
  ((c_localmass_Cross.j4 n t4 b1.1 b1.2.1 b2.1.1.1 b2.1.1.2.1 b2.1.2.1.1 b2.1.2.1.2.1 b2.2.1)))
theorem c_localmass_Cross.k1.le (n : Nat) (t4 : Int) (b1 : Int × (List (Int × Int × Int × Bool × Int × Unit)) × Unit) (b2 : ((Bool × List Int × Unit) × (Bool × List Int × Unit) × Unit) × Bool × Unit) : Le (c_localmass_Cross.k1 n t4 b1 b2) (localmass_Cross.k1 t4 b1 b2) := by
  unfold c_localmass_Cross.k1 localmass_Cross.k1
  try dsimp only
  with_reducible repeat' (first | exact Le.refl _ | apply c_localmass_Cross.j4.le | apply Le.cond | (refine Le.bind ?_ (fun _ => ?_)) | (refine Le.iter (fun _ => ?_) _ _) | (refine Le.sum (fun _ => ?_) (fun _ => ?_) _))
def c_localmass_Cross.j1 (n : Nat) (b1_0 : Int) (b1_1 : List (Int × Int × Int × Bool × Int × Unit)) (b2_1 : List Int) (b2_3 : List Int) : Option ((((Bool × List Int × Unit) × (Bool × List Int × Unit) × Unit) × Bool × Unit) × Int × Unit) :=
  ((iterC n (fun x : Int × (List (Int × Int × Int × Bool × Int × Unit)) × Int × Int × (Int × (List (Int × Int × Int × Bool × Int × Unit)) × Unit) × (((Bool × List Int × Unit) × (Bool × List Int × Unit) × Unit) × Bool × Unit) × Unit => c_localmass_Cross.s1 n x.1 x.2.1 x.2.2.1 x.2.2.2.1 x.2.2.2.2.1 x.2.2.2.2.2.1) ((0 : Int), b1_1, ((List.length b1_1 : Nat) : Int), (0 : Int), (b1_0, (b1_1, ())), (((false, (b2_1, ())), ((false, (b2_3, ())), ())), (false, ())), ())).bind fun y => c_localmass_Cross.k1 n y.1 y.2.1 y.2.2.1)
theorem c_localmass_Cross.j1.le (n : Nat) (b1_0 : Int) (b1_1 : List (Int × Int × Int × Bool × Int × Unit)) (b2_1 : List Int) (b2_3 : List Int) : Le (c_localmass_Cross.j1 n b1_0 b1_1 b2_1 b2_3) (localmass_Cross.j1 b1_0 b1_1 b2_1 b2_3) := by
  unfold c_localmass_Cross.j1 localmass_Cross.j1
  try dsimp only
  with_reducible repeat' (first | exact Le.refl _ | apply c_localmass_Cross.k1.le | apply c_localmass_Cross.s1.le | apply Le.cond | (refine Le.bind ?_ (fun _ => ?_)) | (refine Le.iter (fun _ => ?_) _ _) | (refine Le.sum (fun _ => ?_) (fun _ => ?_) _))
def c_localmass_Cross (n : Nat) (t0 : Int × (List (Int × Int × Int × Bool × Int × Unit)) × Unit) : Option ((((Bool × List Int × Unit) × (Bool × List Int × Unit) × Unit) × Bool × Unit) × Int × Unit) :=
  ((c_localmass_accepted n (t0.1, (t0.2.1, ()))).bind fun y1 =>
  (cond ((!y1))
  ((some ((((false, (([] : List Int), ())), ((false, (([] : List Int), ())), ())), (false, ())), ((22 : Int), ()))))
  ((c_localmass_Cross.j1 n t0.1 t0.2.1 ([] : List Int) ([] : List Int)))))
theorem c_localmass_Cross.le (n : Nat) (t0 : Int × (List (Int × Int × Int × Bool × Int × Unit)) × Unit) : Le (c_localmass_Cross n t0) (localmass_Cross t0) := by
  unfold c_localmass_Cross localmass_Cross
  try dsimp only
  with_reducible repeat' (first | exact Le.refl _ | apply c_localmass_Cross.j1.le | apply c_localmass_accepted.le | apply Le.cond | (refine Le.bind ?_ (fun _ => ?_)) | (refine Le.iter (fun _ => ?_) _ _) | (refine Le.sum (fun _ => ?_) (fun _ => ?_) _))
def c_localmass_Types.j4 (n : Nat) (t4 : Int) (t15 : List (Int × Int × Int × Bool × Int × Unit)) (t16 : Int) (t17 : Int) (b1_0 : Int) (b1_1 : List (Int × Int × Int × Bool × Int × Unit)) : Option ((Int × (List (Int × Int × Int × Bool × Int × Unit)) × Int × Int × (Int × (List (Int × Int × Int × Bool × Int × Unit)) × Unit) × Unit) ⊕ ((Int × Unit))) :=
  (some (.inl (t4, t15, t16, (IntKind.wrap .i64 (t17 + (1 : Int))), (b1_0, (b1_1, ())), ())))
theorem c_localmass_Types.j4.le (n : Nat) (t4 : Int) (t15 : List (Int × Int × Int × Bool × Int × Unit)) (t16 : Int) (t17 : Int) (b1_0 : Int) (b1_1 : List (Int × Int × Int × Bool × Int × Unit)) : Le (c_localmass_Types.j4 n t4 t15 t16 t17 b1_0 b1_1) (localmass_Types.j4 t4 t15 t16 t17 b1_0 b1_1) := by
  unfold c_localmass_Types.j4 localmass_Types.j4
  try dsimp only
  with_reducible repeat' (first | exact Le.refl _ | apply Le.cond | (refine Le.bind ?_ (fun _ => ?_)) | (refine Le.iter (fun _ => ?_) _ _) | (refine Le.sum (fun _ => ?_) (fun _ => ?_) _))
def c_localmass_Types.j5 (n : Nat) (t4 : Int) (t15 : List (Int × Int × Int × Bool × Int × Unit)) (t16 : Int) (t17 : Int) (b1_0 : Int) (b1_1 : List (Int × Int × Int × Bool × Int × Unit)) : Option ((Int × (List (Int × Int × Int × Bool × Int × Unit)) × Int × Int × (Int × (List (Int × Int × Int × Bool × Int × Unit)) × Unit) × Unit) ⊕ ((Int × Unit))) :=
  (c_localmass_Types.j4 n t4 t15 t16 t17 b1_0 b1_1)
theorem c_localmass_Types.j5.le (n : Nat) (t4 : Int) (t15 : List (Int × Int × Int × Bool × Int × Unit)) (t16 : Int) (t17 : Int) (b1_0 : Int) (b1_1 : List (Int × Int × Int × Bool × Int × Unit)) : Le (c_localmass_Types.j5 n t4 t15 t16 t17 b1_0 b1_1) (localmass_Types.j5 t4 t15 t16 t17 b1_0 b1_1) := by
  unfold c_localmass_Types.j5 localmass_Types.j5
  try dsimp only
  with_reducible repeat' (first | exact Le.refl _ | apply c_localmass_Types.j4.le | apply Le.cond | (refine Le.bind ?_ (fun _ => ?_)) | (refine Le.iter (fun _ => ?_) _ _) | (refine Le.sum (fun _ => ?_) (fun _ => ?_) _))
def c_localmass_Types.j3 (n : Nat) (t4 : Int) (t15 : List (Int × Int × Int × Bool × Int × Unit)) (t16 : Int) (t17 : Int) (b1_0 : Int) (b1_1 : List (Int × Int × Int × Bool × Int × Unit)) : Option ((Int × (List (Int × Int × Int × Bool × Int × Unit)) × Int × Int × (Int × (List (Int × Int × Int × Bool × Int × Unit)) × Unit) × Unit) ⊕ ((Int × Unit))) :=
  (cond (inB t17 (List.length t15))
  ((cond ((!(List.getD t15 (t17.toNat) ((0 : Int), ((0 : Int), ((0 : Int), (false, ((0 : Int), ())))))).2.2.2.1))
  ((c_localmass_Types.j4 n (IntKind.wrap .i64 (t4 - (List.getD t15 (t17.toNat) ((0 : Int), ((0 : Int), ((0 : Int), (false, ((0 : Int), ())))))).2.1)) t15 t16 t17 b1_0 b1_1))
  ((cond ((decide (t17 > (0 : Int))))
  ((cond (inB (IntKind.wrap .i64 (t17 - (1 : Int))) (List.length b1_1))
  ((cond ((List.getD b1_1 (((IntKind.wrap .i64 (t17 - (1 : Int)))).toNat) ((0 : Int), ((0 : Int), ((0 : Int), (false, ((0 : Int), ())))))).2.2.2.1)
  ((cond (inB (IntKind.wrap .i64 (t17 - (1 : Int))) (List.length b1_1))
  ((cond (((List.getD b1_1 (((IntKind.wrap .i64 (t17 - (1 : Int)))).toNat) ((0 : Int), ((0 : Int), ((0 : Int), (false, ((0 : Int), ())))))).1 == (IntKind.wrap .i64 ((List.getD t15 (t17.toNat) ((0 : Int), ((0 : Int), ((0 : Int), (false, ((0 : Int), ())))))).1 - (1 : Int)))))
  ((c_localmass_Types.j5 n (IntKind.wrap .i64 (t4 + (1 : Int))) t15 t16 t17 b1_0 b1_1))
  ((c_localmass_Types.j5 n t4 t15 t16 t17 b1_0 b1_1))))
  none))
  ((c_localmass_Types.j4 n t4 t15 t16 t17 b1_0 b1_1))))
  none))
  ((c_localmass_Types.j4 n t4 t15 t16 t17 b1_0 b1_1))))))
  none)
theorem c_localmass_Types.j3.le (n : Nat) (t4 : Int) (t15 : List (Int × Int × Int × Bool × Int × Unit)) (t16 : Int) (t17 : Int) (b1_0 : Int) (b1_1 : List (Int × Int × Int × Bool × Int × Unit)) : Le (c_localmass_Types.j3 n t4 t15 t16 t17 b1_0 b1_1) (localmass_Types.j3 t4 t15 t16 t17 b1_0 b1_1) := by
  unfold c_localmass_Types.j3 localmass_Types.j3
  try dsimp only
  with_reducible repeat' (first | exact Le.refl _ | apply c_localmass_Types.j4.le | apply c_localmass_Types.j5.le | apply Le.cond | (refine Le.bind ?_ (fun _ => ?_)) | (refine Le.iter (fun _ => ?_) _ _) | (refine Le.sum (fun _ => ?_) (fun _ => ?_) _))
def c_localmass_Types.s0 (n : Nat) (t4 : Int) (t15 : List (Int × Int × Int × Bool × Int × Unit)) (t16 : Int) (t17 : Int) (b1 : Int × (List (Int × Int × Int × Bool × Int × Unit)) × Unit) : Option ((Int × (List (Int × Int × Int × Bool × Int × Unit)) × Int × Int × (Int × (List (Int × Int × Int × Bool × Int × Unit)) × Unit) × Unit) ⊕ ((Int × Unit))) :=
  (cond ((decide (t17 < t16)))
  ((c_localmass_Types.j3 n t4 t15 t16 t17 b1.1 b1.2.1))
  ((some (.inr (t4, ())))))
theorem c_localmass_Types.s0.le (n : Nat) (t4 : Int) (t15 : List (Int × Int × Int × Bool × Int × Unit)) (t16 : Int) (t17 : Int) (b1 : Int × (List (Int × Int × Int × Bool × Int × Unit)) × Unit) : Le (c_localmass_Types.s0 n t4 t15 t16 t17 b1) (localmass_Types.s0 t4 t15 t16 t17 b1) := by
  unfold c_localmass_Types.s0 localmass_Types.s0
  try dsimp only
  with_reducible repeat' (first | exact Le.refl _ | apply c_localmass_Types.j3.le | apply Le.cond | (refine Le.bind ?_ (fun _ => ?_)) | (refine Le.iter (fun _ => ?_) _ _) | (refine Le.sum (fun _ => ?_) (fun _ => ?_) _))
def c_localmass_Types.k0 (n : Nat) (t4 : Int) : Option (Int × Int × Unit) :=
  (some (t4, ((0 : Int), ())))
theorem c_localmass_Types.k0.le (n : Nat) (t4 : Int) : Le (c_localmass_Types.k0 n t4) (localmass_Types.k0 t4) := by
  unfold c_localmass_Types.k0 localmass_Types.k0
  try dsimp only
  with_reducible repeat' (first | exact Le.refl _ | apply Le.cond | (refine Le.bind ?_ (fun _ => ?_)) | (refine Le.iter (fun _ => ?_) _ _) | (refine Le.sum (fun _ => ?_) (fun _ => ?_) _))
def c_localmass_Types.j2 (n : Nat) (b1_0 : Int) (b1_1 : List (Int × Int × Int × Bool × Int × Unit)) : Option (Int × Int × Unit) :=
  ((iterC n (fun x : Int × (List (Int × Int × Int × Bool × Int × Unit)) × Int × Int × (Int × (List (Int × Int × Int × Bool × Int × Unit)) × Unit) × Unit => c_localmass_Types.s0 n x.1 x.2.1 x.2.2.1 x.2.2.2.1 x.2.2.2.2.1) ((0 : Int), b1_1, ((List.length b1_1 : Nat) : Int), (0 : Int), (b1_0, (b1_1, ())), ())).bind fun y => c_localmass_Types.k0 n y.1)
theorem c_localmass_Types.j2.le (n : Nat) (b1_0 : Int) (b1_1 : List (Int × Int × Int × Bool × Int × Unit)) : Le (c_localmass_Types.j2 n b1_0 b1_1) (localmass_Types.j2 b1_0 b1_1) := by
  unfold c_localmass_Types.j2 localmass_Types.j2
  try dsimp only
  with_reducible repeat' (first | exact Le.refl _ | apply c_localmass_Types.k0.le | apply c_localmass_Types.s0.le | apply Le.cond | (refine Le.bind ?_ (fun _ => ?_)) | (refine Le.iter (fun _ => ?_) _ _) | (refine Le.sum (fun _ => ?_) (fun _ => ?_) _))
def c_localmass_Types.j1 (n : Nat) (b1_0 : Int) (b1_1 : List (Int × Int × Int × Bool × Int × Unit)) : Option (Int × Int × Unit) :=
  (cond ((decide (b1_0 > (2 : Int))))
  ((some ((0 : Int), ((0 : Int), ()))))
  ((c_localmass_Types.j2 n b1_0 b1_1)))
theorem c_localmass_Types.j1.le (n : Nat) (b1_0 : Int) (b1_1 : List (Int × Int × Int × Bool × Int × Unit)) : Le (c_localmass_Types.j1 n b1_0 b1_1) (localmass_Types.j1 b1_0 b1_1) := by
  unfold c_localmass_Types.j1 localmass_Types.j1
  try dsimp only
  with_reducible repeat' (first | exact Le.refl _ | apply c_localmass_Types.j2.le | apply Le.cond | (refine Le.bind ?_ (fun _ => ?_)) | (refine Le.iter (fun _ => ?_) _ _) | (refine Le.sum (fun _ => ?_) (fun _ => ?_) _))
def c_localmass_Types (n : Nat) (t0 : Int × (List (Int × Int × Int × Bool × Int × Unit)) × Unit) : Option (Int × Int × Unit) :=
  ((c_localmass_accepted n (t0.1, (t0.2.1, ()))).bind fun y1 =>
  (cond ((!y1))
  ((some ((0 : Int), ((22 : Int), ()))))
  ((c_localmass_Types.j1 n t0.1 t0.2.1))))
theorem c_localmass_Types.le (n : Nat) (t0 : Int × (List (Int × Int × Int × Bool × Int × Unit)) × Unit) : Le (c_localmass_Types n t0) (localmass_Types t0) := by
  unfold c_localmass_Types localmass_Types
  try dsimp only
  with_reducible repeat' (first | exact Le.refl _ | apply c_localmass_Types.j1.le | apply c_localmass_accepted.le | apply Le.cond | (refine Le.bind ?_ (fun _ => ?_)) | (refine Le.iter (fun _ => ?_) _ _) | (refine Le.sum (fun _ => ?_) (fun _ => ?_) _))
def c_localmass_at.j2 (n : Nat) (t1 : Int) (t8 : List (Int × Int × Int × Bool × Int × Unit)) (t9 : Int) (t10 : Int) (b4_0 : Int) (b4_1 : Int) (b4_2 : Int) (b4_3 : Bool) (b4_4 : Int) : Option ((Int × (List (Int × Int × Int × Bool × Int × Unit)) × Int × Int × (Int × Int × Int × Bool × Int × Unit) × Unit) ⊕ ((Int × (Int × Int × Int × Bool × Int × Unit) × Unit) ⊕ ((Int × Int × Int × Bool × Int × Unit) × Unit))) :=
  (some (.inl (t1, t8, t9, (IntKind.wrap .i64 (t10 + (1 : Int))), (b4_0, (b4_1, (b4_2, (b4_3, (b4_4, ()))))), ())))
theorem c_localmass_at.j2.le (n : Nat) (t1 : Int) (t8 : List (Int × Int × Int × Bool × Int × Unit)) (t9 : Int) (t10 : Int) (b4_0 : Int) (b4_1 : Int) (b4_2 : Int) (b4_3 : Bool) (b4_4 : Int) : Le (c_localmass_at.j2 n t1 t8 t9 t10 b4_0 b4_1 b4_2 b4_3 b4_4) (localmass_at.j2 t1 t8 t9 t10 b4_0 b4_1 b4_2 b4_3 b4_4) := by
  unfold c_localmass_at.j2 localmass_at.j2
  try dsimp only
  with_reducible repeat' (first | exact Le.refl _ | apply Le.cond | (refine Le.bind ?_ (fun _ => ?_)) | (refine Le.iter (fun _ => ?_) _ _) | (refine Le.sum (fun _ => ?_) (fun _ => ?_) _))
def c_localmass_at.j1 (n : Nat) (t1 : Int) (t8 : List (Int × Int × Int × Bool × Int × Unit)) (t9 : Int) (t10 : Int) (b4_0 : Int) (b4_1 : Int) (b4_2 : Int) (b4_3 : Bool) (b4_4 : Int) : Option ((Int × (List (Int × Int × Int × Bool × Int × Unit)) × Int × Int × (Int × Int × Int × Bool × Int × Unit) × Unit) ⊕ ((Int × (Int × Int × Int × Bool × Int × Unit) × Unit) ⊕ ((Int × Int × Int × Bool × Int × Unit) × Unit))) :=
  (cond (inB t10 (List.length t8))
  ((cond (((List.getD t8 (t10.toNat) ((0 : Int), ((0 : Int), ((0 : Int), (false, ((0 : Int), ())))))).1 == t1))
  ((some (.inr (.inr (((List.getD t8 (t10.toNat) ((0 : Int), ((0 : Int), ((0 : Int), (false, ((0 : Int), ())))))).1, ((List.getD t8 (t10.toNat) ((0 : Int), ((0 : Int), ((0 : Int), (false, ((0 : Int), ())))))).2.1, ((List.getD t8 (t10.toNat) ((0 : Int), ((0 : Int), ((0 : Int), (false, ((0 : Int), ())))))).2.2.1, ((List.getD t8 (t10.toNat) ((0 : Int), ((0 : Int), ((0 : Int), (false, ((0 : Int), ())))))).2.2.2.1, ((List.getD t8 (t10.toNat) ((0 : Int), ((0 : Int), ((0 : Int), (false, ((0 : Int), ())))))).2.2.2.2.1, ()))))), ())))))
  ((c_localmass_at.j2 n t1 t8 t9 t10 b4_0 b4_1 b4_2 b4_3 b4_4))))
  none)
theorem c_localmass_at.j1.le (n : Nat) (t1 : Int) (t8 : List (Int × Int × Int × Bool × Int × Unit)) (t9 : Int) (t10 : Int) (b4_0 : Int) (b4_1 : Int) (b4_2 : Int) (b4_3 : Bool) (b4_4 : Int) : Le (c_localmass_at.j1 n t1 t8 t9 t10 b4_0 b4_1 b4_2 b4_3 b4_4) (localmass_at.j1 t1 t8 t9 t10 b4_0 b4_1 b4_2 b4_3 b4_4) := by
  unfold c_localmass_at.j1 localmass_at.j1
  try dsimp only
  with_reducible repeat' (first | exact Le.refl _ | apply c_localmass_at.j2.le | apply Le.cond | (refine Le.bind ?_ (fun _ => ?_)) | (refine Le.iter (fun _ => ?_) _ _) | (refine Le.sum (fun _ => ?_) (fun _ => ?_) _))
def c_localmass_at.s0 (n : Nat) (t1 : Int) (t8 : List (Int × Int × Int × Bool × Int × Unit)) (t9 : Int) (t10 : Int) (b4 : Int × Int × Int × Bool × Int × Unit) : Option ((Int × (List (Int × Int × Int × Bool × Int × Unit)) × Int × Int × (Int × Int × Int × Bool × Int × Unit) × Unit) ⊕ ((Int × (Int × Int × Int × Bool × Int × Unit) × Unit) ⊕ ((Int × Int × Int × Bool × Int × Unit) × Unit))) :=
  (cond ((decide (t10 < t9)))
  ((c_localmass_at.j1 n t1 t8 t9 t10 b4.1 b4.2.1 b4.2.2.1 b4.2.2.2.1 b4.2.2.2.2.1))
  ((some (.inr (.inl (t1, (b4.1, (b4.2.1, (b4.2.2.1, (b4.2.2.2.1, (b4.2.2.2.2.1, ()))))), ()))))))
theorem c_localmass_at.s0.le (n : Nat) (t1 : Int) (t8 : List (Int × Int × Int × Bool × Int × Unit)) (t9 : Int) (t10 : Int) (b4 : Int × Int × Int × Bool × Int × Unit) : Le (c_localmass_at.s0 n t1 t8 t9 t10 b4) (localmass_at.s0 t1 t8 t9 t10 b4) := by
  unfold c_localmass_at.s0 localmass_at.s0
  try dsimp only
  with_reducible repeat' (first | exact Le.refl _ | apply c_localmass_at.j1.le | apply Le.cond | (refine Le.bind ?_ (fun _ => ?_)) | (refine Le.iter (fun _ => ?_) _ _) | (refine Le.sum (fun _ => ?_) (fun _ => ?_) _))
def c_localmass_at.k0_0 (n : Nat) (t1 : Int) (b4 : Int × Int × Int × Bool × Int × Unit) : Option (Int × Int × Int × Bool × Int × Unit) :=
  (some (t1, ((0 : Int), ((1 : Int), (false, ((0 : Int), ()))))))
theorem c_localmass_at.k0_0.le (n : Nat) (t1 : Int) (b4 : Int × Int × Int × Bool × Int × Unit) : Le (c_localmass_at.k0_0 n t1 b4) (localmass_at.k0_0 t1 b4) := by
  unfold c_localmass_at.k0_0 localmass_at.k0_0
  try dsimp only
  with_reducible repeat' (first | exact Le.refl _ | apply Le.cond | (refine Le.bind ?_ (fun _ => ?_)) | (refine Le.iter (fun _ => ?_) _ _) | (refine Le.sum (fun _ => ?_) (fun _ => ?_) _))
def c_localmass_at.k0_1 (n : Nat) (b4 : Int × Int × Int × Bool × Int × Unit) : Option (Int × Int × Int × Bool × Int × Unit) :=
  (some (b4.1, (b4.2.1, (b4.2.2.1, (b4.2.2.2.1, (b4.2.2.2.2.1, ()))))))
theorem c_localmass_at.k0_1.le (n : Nat) (b4 : Int × Int × Int × Bool × Int × Unit) : Le (c_localmass_at.k0_1 n b4) (localmass_at.k0_1 b4) := by
  unfold c_localmass_at.k0_1 localmass_at.k0_1
  try dsimp only
  with_reducible repeat' (first | exact Le.refl _ | apply Le.cond | (refine Le.bind ?_ (fun _ => ?_)) | (refine Le.iter (fun _ => ?_) _ _) | (refine Le.sum (fun _ => ?_) (fun _ => ?_) _))
def c_localmass_at (n : Nat) (t0 : Int × (List (Int × Int × Int × Bool × Int × Unit)) × Unit) (t1 : Int) : Option (Int × Int × Int × Bool × Int × Unit) :=
  ((iterC n (fun x : Int × (List (Int × Int × Int × Bool × Int × Unit)) × Int × Int × (Int × Int × Int × Bool × Int × Unit) × Unit => c_localmass_at.s0 n x.1 x.2.1 x.2.2.1 x.2.2.2.1 x.2.2.2.2.1) (t1, t0.2.1, ((List.length t0.2.1 : Nat) : Int), (0 : Int), ((0 : Int), ((0 : Int), ((0 : Int), (false, ((0 : Int), ()))))), ())).bind fun z => Sum.casesOn z (fun y => c_localmass_at.k0_0 n y.1 y.2.1) (fun z => c_localmass_at.k0_1 n z.1))
theorem c_localmass_at.le (n : Nat) (t0 : Int × (List (Int × Int × Int × Bool × Int × Unit)) × Unit) (t1 : Int) : Le (c_localmass_at n t0 t1) (localmass_at t0 t1) := by
  unfold c_localmass_at localmass_at
  try dsimp only
  with_reducible repeat' (first | exact Le.refl _ | apply c_localmass_at.k0_0.le | apply c_localmass_at.k0_1.le | apply c_localmass_at.s0.le | apply Le.cond | (refine Le.bind ?_ (fun _ => ?_)) | (refine Le.iter (fun _ => ?_) _ _) | (refine Le.sum (fun _ => ?_) (fun _ => ?_) _))
def c_localmass_species.j2 (n : Nat) (b5_0 : Int) (b5_1 : Int) (b5_2 : Int) (b5_3 : Bool) (b5_4 : Int) : Option (Int × Int × Unit) :=
  (some (b5_1, ((IntKind.wrap .i64 (0 - b5_2)), ())))
theorem c_localmass_species.j2.le (n : Nat) (b5_0 : Int) (b5_1 : Int) (b5_2 : Int) (b5_3 : Bool) (b5_4 : Int) : Le (c_localmass_species.j2 n b5_0 b5_1 b5_2 b5_3 b5_4) (localmass_species.j2 b5_0 b5_1 b5_2 b5_3 b5_4) := by
  unfold c_localmass_species.j2 localmass_species.j2
  try dsimp only
  with_reducible repeat' (first | exact Le.refl _ | apply Le.cond | (refine Le.bind ?_ (fun _ => ?_)) | (refine Le.iter (fun _ => ?_) _ _) | (refine Le.sum (fun _ => ?_) (fun _ => ?_) _))
def c_localmass_species.j1 (n : Nat) (b5_0 : Int) (b5_1 : Int) (b5_2 : Int) (b5_3 : Bool) (b5_4 : Int) : Option (Int × Int × Unit) :=
  (c_localmass_species.j2 n b5_0 b5_1 b5_2 b5_3 b5_4)
theorem c_localmass_species.j1.le (n : Nat) (b5_0 : Int) (b5_1 : Int) (b5_2 : Int) (b5_3 : Bool) (b5_4 : Int) : Le (c_localmass_species.j1 n b5_0 b5_1 b5_2 b5_3 b5_4) (localmass_species.j1 b5_0 b5_1 b5_2 b5_3 b5_4) := by
  unfold c_localmass_species.j1 localmass_species.j1
  try dsimp only
  with_reducible repeat' (first | exact Le.refl _ | apply c_localmass_species.j2.le | apply Le.cond | (refine Le.bind ?_ (fun _ => ?_)) | (refine Le.iter (fun _ => ?_) _ _) | (refine Le.sum (fun _ => ?_) (fun _ => ?_) _))
def c_localmass_species.j7 (n : Nat) (t7 : Int) (b5_0 : Int) (b5_1 : Int) (b5_2 : Int) (b5_3 : Bool) (b5_4 : Int) : Option (Int × Int × Unit) :=
  (cond (inB t7 8)
  ((some ((IntKind.wrap .i64 (b5_1 - (List.getD gl_0 (t7.toNat) ((0 : Int), ((0 : Int), ()))).1)), ((List.getD gl_0 (t7.toNat) ((0 : Int), ((0 : Int), ()))).2.1, ()))))
  none)
theorem c_localmass_species.j7.le (n : Nat) (t7 : Int) (b5_0 : Int) (b5_1 : Int) (b5_2 : Int) (b5_3 : Bool) (b5_4 : Int) : Le (c_localmass_species.j7 n t7 b5_0 b5_1 b5_2 b5_3 b5_4) (localmass_species.j7 t7 b5_0 b5_1 b5_2 b5_3 b5_4) := by
  unfold c_localmass_species.j7 localmass_species.j7
  try dsimp only
  with_reducible repeat' (first | exact Le.refl _ | apply Le.cond | (refine Le.bind ?_ (fun _ => ?_)) | (refine Le.iter (fun _ => ?_) _ _) | (refine Le.sum (fun _ => ?_) (fun _ => ?_) _))
def c_localmass_species.j6 (n : Nat) (b5_0 : Int) (b5_1 : Int) (b5_2 : Int) (b5_3 : Bool) (b5_4 : Int) : Option (Int × Int × Unit) :=
  (cond ((b5_2 == (-1 : Int)))
  ((c_localmass_species.j7 n (Int.tmod (IntKind.wrap .i64 (b5_4 + (4 : Int))) (8 : Int)) b5_0 b5_1 b5_2 b5_3 b5_4))
  ((c_localmass_species.j7 n b5_4 b5_0 b5_1 b5_2 b5_3 b5_4)))
theorem c_localmass_species.j6.le (n : Nat) (b5_0 : Int) (b5_1 : Int) (b5_2 : Int) (b5_3 : Bool) (b5_4 : Int) : Le (c_localmass_species.j6 n b5_0 b5_1 b5_2 b5_3 b5_4) (localmass_species.j6 b5_0 b5_1 b5_2 b5_3 b5_4) := by
  unfold c_localmass_species.j6 localmass_species.j6
  try dsimp only
  with_reducible repeat' (first | exact Le.refl _ | apply c_localmass_species.j7.le | apply Le.cond | (refine Le.bind ?_ (fun _ => ?_)) | (refine Le.iter (fun _ => ?_) _ _) | (refine Le.sum (fun _ => ?_) (fun _ => ?_) _))
def c_localmass_species.j5 (n : Nat) (b5_0 : Int) (b5_1 : Int) (b5_2 : Int) (b5_3 : Bool) (b5_4 : Int) : Option (Int × Int × Unit) :=
  (c_localmass_species.j6 n b5_0 b5_1 b5_2 b5_3 b5_4)
theorem c_localmass_species.j5.le (n : Nat) (b5_0 : Int) (b5_1 : Int) (b5_2 : Int) (b5_3 : Bool) (b5_4 : Int) : Le (c_localmass_species.j5 n b5_0 b5_1 b5_2 b5_3 b5_4) (localmass_species.j5 b5_0 b5_1 b5_2 b5_3 b5_4) := by
  unfold c_localmass_species.j5 localmass_species.j5
  try dsimp only
  with_reducible repeat' (first | exact Le.refl _ | apply c_localmass_species.j6.le | apply Le.cond | (refine Le.bind ?_ (fun _ => ?_)) | (refine Le.iter (fun _ => ?_) _ _) | (refine Le.sum (fun _ => ?_) (fun _ => ?_) _))
def c_localmass_species.j4 (n : Nat) (b5_0 : Int) (b5_1 : Int) (b5_2 : Int) (b5_3 : Bool) (b5_4 : Int) : Option (Int × Int × Unit) :=
  (c_localmass_species.j5 n b5_0 b5_1 b5_2 b5_3 b5_4)
theorem c_localmass_species.j4.le (n : Nat) (b5_0 : Int) (b5_1 : Int) (b5_2 : Int) (b5_3 : Bool) (b5_4 : Int) : Le (c_localmass_species.j4 n b5_0 b5_1 b5_2 b5_3 b5_4) (localmass_species.j4 b5_0 b5_1 b5_2 b5_3 b5_4) := by
  unfold c_localmass_species.j4 localmass_species.j4
  try dsimp only
  with_reducible repeat' (first | exact Le.refl _ | apply c_localmass_species.j5.le | apply Le.cond | (refine Le.bind ?_ (fun _ => ?_)) | (refine Le.iter (fun _ => ?_) _ _) | (refine Le.sum (fun _ => ?_) (fun _ => ?_) _))
def c_localmass_species.j3 (n : Nat) (t1 : Int) (b2_0 : Int) (b2_1 : List (Int × Int × Int × Bool × Int × Unit)) (b5_0 : Int) (b5_1 : Int) (b5_2 : Int) (b5_3 : Bool) (b5_4 : Int) : Option (Int × Int × Unit) :=
  ((c_localmass_at n (b2_0, (b2_1, ())) (IntKind.wrap .i64 (t1 - (1 : Int)))).bind fun y4 =>
  (cond (y4.2.2.2.1)
  ((cond ((!b5_3))
  ((cond ((!b5_3))
  ((some ((IntKind.wrap .i64 (b5_1 + (1 : Int))), ((0 : Int), ()))))
  ((some ((IntKind.wrap .i64 ((IntKind.wrap .i64 (b5_1 - (1 : Int))) + (Int.tmod b5_1 (2 : Int)))), ((0 : Int), ()))))))
  ((cond ((!b5_3))
  ((some ((IntKind.wrap .i64 (b5_1 + (1 : Int))), ((0 : Int), ()))))
  ((some ((IntKind.wrap .i64 ((IntKind.wrap .i64 (b5_1 - (1 : Int))) + (Int.tmod b5_1 (2 : Int)))), ((0 : Int), ()))))))))
  (((c_localmass_at n (b2_0, (b2_1, ())) (IntKind.wrap .i64 (t1 + (1 : Int)))).bind fun y7 =>
  (cond ((!b5_3))
  ((cond ((!y7.2.2.2.1))
  ((some (b5_1, (b5_2, ()))))
  ((cond ((!b5_3))
  ((some ((IntKind.wrap .i64 (b5_1 + (1 : Int))), ((0 : Int), ()))))
  ((cond (y7.2.2.2.1)
  ((some ((IntKind.wrap .i64 ((IntKind.wrap .i64 (b5_1 - (1 : Int))) + (Int.tmod b5_1 (2 : Int)))), ((0 : Int), ()))))
  ((c_localmass_species.j4 n b5_0 b5_1 b5_2 b5_3 b5_4))))))))
  ((cond ((!b5_3))
  ((some ((IntKind.wrap .i64 (b5_1 + (1 : Int))), ((0 : Int), ()))))
  ((cond (y7.2.2.2.1)
  ((some ((IntKind.wrap .i64 ((IntKind.wrap .i64 (b5_1 - (1 : Int))) + (Int.tmod b5_1 (2 : Int)))), ((0 : Int), ()))))
  ((c_localmass_species.j4 n b5_0 b5_1 b5_2 b5_3 b5_4)))))))))))
theorem c_localmass_species.j3.le (n : Nat) (t1 : Int) (b2_0 : Int) (b2_1 : List (Int × Int × Int × Bool × Int × Unit)) (b5_0 : Int) (b5_1 : Int) (b5_2 : Int) (b5_3 : Bool) (b5_4 : Int) : Le (c_localmass_species.j3 n t1 b2_0 b2_1 b5_0 b5_1 b5_2 b5_3 b5_4) (localmass_species.j3 t1 b2_0 b2_1 b5_0 b5_1 b5_2 b5_3 b5_4) := by
  unfold c_localmass_species.j3 localmass_species.j3
  try dsimp only
  with_reducible repeat' (first | exact Le.refl _ | apply c_localmass_at.le | apply c_localmass_species.j4.le | apply Le.cond | (refine Le.bind ?_ (fun _ => ?_)) | (refine Le.iter (fun _ => ?_) _ _) | (refine Le.sum (fun _ => ?_) (fun _ => ?_) _))
def c_localmass_species (n : Nat) (t0 : Int × (List (Int × Int × Int × Bool × Int × Unit)) × Unit) (t1 : Int) : Option (Int × Int × Unit) :=
  ((c_localmass_at n (t0.1, (t0.2.1, ())) t1).bind fun y1 =>
  (cond ((decide (t0.1 > (2 : Int))))
  ((cond (((Int.tmod y1.2.1 (2 : Int)) == (1 : Int)))
  ((some (y1.2.1, ((0 : Int), ()))))
  ((cond (((Int.tmod t0.1 (4 : Int)) == (1 : Int)))
  ((some (y1.2.1, (y1.2.2.1, ()))))
  ((cond (((Int.tmod y1.2.1 (4 : Int)) == (0 : Int)))
  ((some (y1.2.1, (y1.2.2.1, ()))))
  ((c_localmass_species.j1 n y1.1 y1.2.1 y1.2.2.1 y1.2.2.2.1 y1.2.2.2.2.1))))))))
  ((c_localmass_species.j3 n t1 t0.1 t0.2.1 y1.1 y1.2.1 y1.2.2.1 y1.2.2.2.1 y1.2.2.2.2.1))))
theorem c_localmass_species.le (n : Nat) (t0 : Int × (List (Int × Int × Int × Bool × Int × Unit)) × Unit) (t1 : Int) : Le (c_localmass_species n t0 t1) (localmass_species t0 t1) := by
  unfold c_localmass_species localmass_species
  try dsimp only
  with_reducible repeat' (first | exact Le.refl _ | apply c_localmass_at.le | apply c_localmass_species.j1.le | apply c_localmass_species.j3.le | apply Le.cond | (refine Le.bind ?_ (fun _ => ?_)) | (refine Le.iter (fun _ => ?_) _ _) | (refine Le.sum (fun _ => ?_) (fun _ => ?_) _))
def c_localmass_Mass.j2 (n : Nat) (t6 : Int) (b1_0 : Int) (b1_1 : List (Int × Int × Int × Bool × Int × Unit)) (b2_0 : Bool) (b2_1 : List Int) (b2_2 : Bool) (b2_3 : List Int) (b2_4 : Bool) (b4_0 : Bool) (b4_1 : List Int) (b4_2 : Bool) (b4_3 : List Int) (b4_4 : Bool) : Option ((Int × (Int × (List (Int × Int × Int × Bool × Int × Unit)) × Unit) × (((Bool × List Int × Unit) × (Bool × List Int × Unit) × Unit) × Bool × Unit) × (((Bool × List Int × Unit) × (Bool × List Int × Unit) × Unit) × Bool × Unit) × Unit) ⊕ (((Int × (List (Int × Int × Int × Bool × Int × Unit)) × Unit) × (((Bool × List Int × Unit) × (Bool × List Int × Unit) × Unit) × Bool × Unit) × (((Bool × List Int × Unit) × (Bool × List Int × Unit) × Unit) × Bool × Unit) × Unit))) :=
  ((c_localmass_species n (b1_0, (b1_1, ())) t6).bind fun y5 =>
  ((c_localmass_Diagonal n b1_0 y5).bind fun y6 =>
  ((c_rational_Mul n ((b4_0, (b4_1, ())), ((b4_2, (b4_3, ())), ())) ((y6.1.1.1, (y6.1.1.2.1, ())), ((y6.1.2.1.1, (y6.1.2.1.2.1, ())), ()))).bind fun y7 =>
  (some (.inl ((IntKind.wrap .i64 (t6 + (1 : Int))), (b1_0, (b1_1, ())), (((b2_0, (b2_1, ())), ((b2_2, (b2_3, ())), ())), (b2_4, ())), (((y7.1.1, (y7.1.2.1, ())), ((y7.2.1.1, (y7.2.1.2.1, ())), ())), (b4_4, ())), ()))))))
theorem c_localmass_Mass.j2.le (n : Nat) (t6 : Int) (b1_0 : Int) (b1_1 : List (Int × Int × Int × Bool × Int × Unit)) (b2_0 : Bool) (b2_1 : List Int) (b2_2 : Bool) (b2_3 : List Int) (b2_4 : Bool) (b4_0 : Bool) (b4_1 : List Int) (b4_2 : Bool) (b4_3 : List Int) (b4_4 : Bool) : Le (c_localmass_Mass.j2 n t6 b1_0 b1_1 b2_0 b2_1 b2_2 b2_3 b2_4 b4_0 b4_1 b4_2 b4_3 b4_4) (localmass_Mass.j2 t6 b1_0 b1_1 b2_0 b2_1 b2_2 b2_3 b2_4 b4_0 b4_1 b4_2 b4_3 b4_4) := by
  unfold c_localmass_Mass.j2 localmass_Mass.j2
  try dsimp only
  with_reducible repeat' (first | exact Le.refl _ | apply c_localmass_Diagonal.le | apply c_localmass_species.le | apply c_rational_Mul.le | apply Le.cond | (refine Le.bind ?_ (fun _ => ?_)) | (refine Le.iter (fun _ => ?_) _ _) | (refine Le.sum (fun _ => ?_) (fun _ => ?_) _))
def c_localmass_Mass.s0 (n : Nat) (t6 : Int) (b1 : Int × (List (Int × Int × Int × Bool × Int × Unit)) × Unit) (b2 : ((Bool × List Int × Unit) × (Bool × List Int × Unit) × Unit) × Bool × Unit) (b4 : ((Bool × List Int × Unit) × (Bool × List Int × Unit) × Unit) × Bool × Unit) : Option ((Int × (Int × (List (Int × Int × Int × Bool × Int × Unit)) × Unit) × (((Bool × List Int × Unit) × (Bool × List Int × Unit) × Unit) × Bool × Unit) × (((Bool × List Int × Unit) × (Bool × List Int × Unit) × Unit) × Bool × Unit) × Unit) ⊕ (((Int × (List (Int × Int × Int × Bool × Int × Unit)) × Unit) × (((Bool × List Int × Unit) × (Bool × List Int × Unit) × Unit) × Bool × Unit) × (((Bool × List Int × Unit) × (Bool × List Int × Unit) × Unit) × Bool × Unit) × Unit))) :=
  let x2 := (IntKind.wrap .i64 (((List.length b1.2.1 : Nat) : Int) - (1 : Int)))
  (cond (inB x2 (List.length b1.2.1))
  ((cond ((decide (t6 ≤ (IntKind.wrap .i64 ((List.getD b1.2.1 (x2.toNat) ((0 : Int), ((0 : Int), ((0 : Int), (false, ((0 : Int), ())))))).1 + (1 : Int))))))
  ((c_localmass_Mass.j2 n t6 b1.1 b1.2.1 b2.1.1.1 b2.1.1.2.1 b2.1.2.1.1 b2.1.2.1.2.1 b2.2.1 b4.1.1.1 b4.1.1.2.1 b4.1.2.1.1 b4.1.2.1.2.1 b4.2.1))
  ((some (.inr ((b1.1, (b1.2.1, ())), (((b2.1.1.1, (b2.1.1.2.1, ())), ((b2.1.2.1.1, (b2.1.2.1.2.1, ())), ())), (b2.2.1, ())), (((b4.1.1.1, (b4.1.1.2.1, ())), ((b4.1.2.1.1, (b4.1.2.1.2.1, ())), ())), (b4.2.1, ())), ()))))))
  none)
theorem c_localmass_Mass.s0.le (n : Nat) (t6 : Int) (b1 : Int × (List (Int × Int × Int × Bool × Int × Unit)) × Unit) (b2 : ((Bool × List Int × Unit) × (Bool × List Int × Unit) × Unit) × Bool × Unit) (b4 : ((Bool × List Int × Unit) × (Bool × List Int × Unit) × Unit) × Bool × Unit) : Le (c_localmass_Mass.s0 n t6 b1 b2 b4) (localmass_Mass.s0 t6 b1 b2 b4) := by
  unfold c_localmass_Mass.s0 localmass_Mass.s0
  try dsimp only
  with_reducible repeat' (first | exact Le.refl _ | apply c_localmass_Mass.j2.le | apply Le.cond | (refine Le.bind ?_ (fun _ => ?_)) | (refine Le.iter (fun _ => ?_) _ _) | (refine Le.sum (fun _ => ?_) (fun _ => ?_) _))
def c_localmass_Mass.k0 (n : Nat) (b1 : Int × (List (Int × Int × Int × Bool × Int × Unit)) × Unit) (b2 : ((Bool × List Int × Unit) × (Bool × List Int × Unit) × Unit) × Bool × Unit) (b4 : ((Bool × List Int × Unit) × (Bool × List Int × Unit) × Unit) × Bool × Unit) : Option ((((Bool × List Int × Unit) × (Bool × List Int × Unit) × Unit) × Bool × Unit) × Int × Unit) :=
  ((c_localmass_Types n (b1.1, (b1.2.1, ()))).bind fun y8 =>
  ((c_localmass_whole n (2 : Int)).bind fun y9 =>
  ((c_rational_Pow n y9 y8.1).bind fun y10 =>
  ((c_rational_Mul n ((b4.1.1.1, (b4.1.1.2.1, ())), ((b4.1.2.1.1, (b4.1.2.1.2.1, ())), ())) ((y10.1.1.1, (y10.1.1.2.1, ())), ((y10.1.2.1.1, (y10.1.2.1.2.1, ())), ()))).bind fun y11 =>
  (some ((((y11.1.1, (y11.1.2.1, ())), ((y11.2.1.1, (y11.2.1.2.1, ())), ())), (b4.2.1, ())), ((0 : Int), ())))))))
theorem c_localmass_Mass.k0.le (n : Nat) (b1 : Int × (List (Int × Int × Int × Bool × Int × Unit)) × Unit) (b2 : ((Bool × List Int × Unit) × (Bool × List Int × Unit) × Unit) × Bool × Unit) (b4 : ((Bool × List Int × Unit) × (Bool × List Int × Unit) × Unit) × Bool × Unit) : Le (c_localmass_Mass.k0 n b1 b2 b4) (localmass_Mass.k0 b1 b2 b4) := by
  unfold c_localmass_Mass.k0 localmass_Mass.k0
  try dsimp only
  with_reducible repeat' (first | exact Le.refl _ | apply c_localmass_Types.le | apply c_localmass_whole.le | apply c_rational_Mul.le | apply c_rational_Pow.le | apply Le.cond | (refine Le.bind ?_ (fun _ => ?_)) | (refine Le.iter (fun _ => ?_) _ _) | (refine Le.sum (fun _ => ?_) (fun _ => ?_) _))
def c_localmass_Mass.j1 (n : Nat) (b1_0 : Int) (b1_1 : List (Int × Int × Int × Bool × Int × Unit)) (b2_1 : List Int) (b2_3 : List Int) (b4_0 : Bool) (b4_1 : List Int) (b4_2 : Bool) (b4_3 : List Int) (b4_4 : Bool) : Option ((((Bool × List Int × Unit) × (Bool × List Int × Unit) × Unit) × Bool × Unit) × Int × Unit) :=
  ((iterC n (fun x : Int × (Int × (List (Int × Int × Int × Bool × Int × Unit)) × Unit) × (((Bool × List Int × Unit) × (Bool × List Int × Unit) × Unit) × Bool × Unit) × (((Bool × List Int × Unit) × (Bool × List Int × Unit) × Unit) × Bool × Unit) × Unit => c_localmass_Mass.s0 n x.1 x.2.1 x.2.2.1 x.2.2.2.1) ((-1 : Int), (b1_0, (b1_1, ())), (((false, (b2_1, ())), ((false, (b2_3, ())), ())), (false, ())), (((b4_0, (b4_1, ())), ((b4_2, (b4_3, ())), ())), (b4_4, ())), ())).bind fun y => c_localmass_Mass.k0 n y.1 y.2.1 y.2.2.1)
theorem c_localmass_Mass.j1.le (n : Nat) (b1_0 : Int) (b1_1 : List (Int × Int × Int × Bool × Int × Unit)) (b2_1 : List Int) (b2_3 : List Int) (b4_0 : Bool) (b4_1 : List Int) (b4_2 : Bool) (b4_3 : List Int) (b4_4 : Bool) : Le (c_localmass_Mass.j1 n b1_0 b1_1 b2_1 b2_3 b4_0 b4_1 b4_2 b4_3 b4_4) (localmass_Mass.j1 b1_0 b1_1 b2_1 b2_3 b4_0 b4_1 b4_2 b4_3 b4_4) := by
  unfold c_localmass_Mass.j1 localmass_Mass.j1
  try dsimp only
  with_reducible repeat' (first | exact Le.refl _ | apply c_localmass_Mass.k0.le | apply c_localmass_Mass.s0.le | apply Le.cond | (refine Le.bind ?_ (fun _ => ?_)) | (refine Le.iter (fun _ => ?_) _ _) | (refine Le.sum (fun _ => ?_) (fun _ => ?_) _))
def c_localmass_Mass (n : Nat) (t0 : Int × (List (Int × Int × Int × Bool × Int × Unit)) × Unit) : Option ((((Bool × List Int × Unit) × (Bool × List Int × Unit) × Unit) × Bool × Unit) × Int × Unit) :=
  ((c_localmass_Cross n (t0.1, (t0.2.1, ()))).bind fun y1 =>
  (cond ((y1.2.1 != (0 : Int)))
  ((some ((((false, (([] : List Int), ())), ((false, (([] : List Int), ())), ())), (false, ())), (y1.2.1, ()))))
  ((c_localmass_Mass.j1 n t0.1 t0.2.1 ([] : List Int) ([] : List Int) y1.1.1.1.1 y1.1.1.1.2.1 y1.1.1.2.1.1 y1.1.1.2.1.2.1 y1.1.2.1))))
theorem c_localmass_Mass.le (n : Nat) (t0 : Int × (List (Int × Int × Int × Bool × Int × Unit)) × Unit) : Le (c_localmass_Mass n t0) (localmass_Mass t0) := by
  unfold c_localmass_Mass localmass_Mass
  try dsimp only
  with_reducible repeat' (first | exact Le.refl _ | apply c_localmass_Cross.le | apply c_localmass_Mass.j1.le | apply Le.cond | (refine Le.bind ?_ (fun _ => ?_)) | (refine Le.iter (fun _ => ?_) _ _) | (refine Le.sum (fun _ => ?_) (fun _ => ?_) _))
def c_prime_beyond (n : Nat) (t0 : Int) : Option (Bool) :=
  (cond ((decide (t0 > (2147483647 : Int))))
  ((some true))
  ((some (decide (t0 < (-2147483647 : Int))))))
theorem c_prime_beyond.le (n : Nat) (t0 : Int) : Le (c_prime_beyond n t0) (prime_beyond t0) := by
  unfold c_prime_beyond prime_beyond
  try dsimp only
  with_reducible repeat' (first | exact Le.refl _ | apply Le.cond | (refine Le.bind ?_ (fun _ => ?_)) | (refine Le.iter (fun _ => ?_) _ _) | (refine Le.sum (fun _ => ?_) (fun _ => ?_) _))
def c_prime_Factor.j4 (n : Nat) (t0 : Int) (t5 : Int) (a26 : List (Int × Int × Unit)) : Option ((Int × Int × (List (Int × Int × Unit)) × Unit) ⊕ (((List (Int × Int × Unit)) × Unit) ⊕ (Int × Int × (List (Int × Int × Unit)) × Unit))) :=
  (some (.inl (t0, (IntKind.wrap .i64 (t5 + (1 : Int))), a26, ())))
theorem c_prime_Factor.j4.le (n : Nat) (t0 : Int) (t5 : Int) (a26 : List (Int × Int × Unit)) : Le (c_prime_Factor.j4 n t0 t5 a26) (prime_Factor.j4 t0 t5 a26) := by
  unfold c_prime_Factor.j4 prime_Factor.j4
  try dsimp only
  with_reducible repeat' (first | exact Le.refl _ | apply Le.cond | (refine Le.bind ?_ (fun _ => ?_)) | (refine Le.iter (fun _ => ?_) _ _) | (refine Le.sum (fun _ => ?_) (fun _ => ?_) _))
def c_prime_Factor.j3 (n : Nat) (t0 : Int) (t5 : Int) (a26 : List (Int × Int × Unit)) : Option ((Int × Int × (List (Int × Int × Unit)) × Unit) ⊕ (((List (Int × Int × Unit)) × Unit) ⊕ (Int × Int × (List (Int × Int × Unit)) × Unit))) :=
  (cond (decide (t5 = 0))
  none
  ((cond (((Int.tmod t0 t5) == (0 : Int)))
  ((some (.inr (.inr (t0, t5, a26, ())))))
  ((c_prime_Factor.j4 n t0 t5 a26)))))
theorem c_prime_Factor.j3.le (n : Nat) (t0 : Int) (t5 : Int) (a26 : List (Int × Int × Unit)) : Le (c_prime_Factor.j3 n t0 t5 a26) (prime_Factor.j3 t0 t5 a26) := by
  unfold c_prime_Factor.j3 prime_Factor.j3
  try dsimp only
  with_reducible repeat' (first | exact Le.refl _ | apply c_prime_Factor.j4.le | apply Le.cond | (refine Le.bind ?_ (fun _ => ?_)) | (refine Le.iter (fun _ => ?_) _ _) | (refine Le.sum (fun _ => ?_) (fun _ => ?_) _))
def c_prime_Factor.s0 (n : Nat) (t0 : Int) (t5 : Int) (a26 : List (Int × Int × Unit)) : Option ((Int × Int × (List (Int × Int × Unit)) × Unit) ⊕ (((List (Int × Int × Unit)) × Unit) ⊕ (Int × Int × (List (Int × Int × Unit)) × Unit))) :=
  (cond ((decide ((IntKind.wrap .i64 (t5 * t5)) > t0)))
  ((cond (decide (List.length a26 + List.length ([(t0, ((1 : Int), ()))] : List (Int × Int × Unit)) ≤ maxL))
  ((some (.inr (.inl ((a26 ++ ([(t0, ((1 : Int), ()))] : List (Int × Int × Unit))), ())))))
  none))
  ((c_prime_Factor.j3 n t0 t5 a26)))
theorem c_prime_Factor.s0.le (n : Nat) (t0 : Int) (t5 : Int) (a26 : List (Int × Int × Unit)) : Le (c_prime_Factor.s0 n t0 t5 a26) (prime_Factor.s0 t0 t5 a26) := by
  unfold c_prime_Factor.s0 prime_Factor.s0
  try dsimp only
  with_reducible repeat' (first | exact Le.refl _ | apply c_prime_Factor.j3.le | apply Le.cond | (refine Le.bind ?_ (fun _ => ?_)) | (refine Le.iter (fun _ => ?_) _ _) | (refine Le.sum (fun _ => ?_) (fun _ => ?_) _))
def c_prime_Factor.k0_0 (n : Nat) (a26 : List (Int × Int × Unit)) : Option ((Int × Int × (List (Int × Int × Unit)) × Unit) ⊕ (((List (Int × Int × Unit)) × Unit))) :=
  (some (.inr (a26, ())))
theorem c_prime_Factor.k0_0.le (n : Nat) (a26 : List (Int × Int × Unit)) : Le (c_prime_Factor.k0_0 n a26) (prime_Factor.k0_0 a26) := by
  unfold c_prime_Factor.k0_0 prime_Factor.k0_0
  try dsimp only
  with_reducible repeat' (first | exact Le.refl _ | apply Le.cond | (refine Le.bind ?_ (fun _ => ?_)) | (refine Le.iter (fun _ => ?_) _ _) | (refine Le.sum (fun _ => ?_) (fun _ => ?_) _))
def c_prime_Factor.j5 (n : Nat) (t0 : Int) (t5 : Int) (t6 : Int) (a26 : List (Int × Int × Unit)) : Option ((Int × Int × Int × (List (Int × Int × Unit)) × Unit) ⊕ ((Int × Int × Int × (List (Int × Int × Unit)) × Unit))) :=
  (cond (decide (t5 = 0))
  none
  ((some (.inl ((IntKind.wrap .i64 (Int.tdiv t0 t5)), t5, (IntKind.wrap .i64 (t6 + (1 : Int))), a26, ())))))
theorem c_prime_Factor.j5.le (n : Nat) (t0 : Int) (t5 : Int) (t6 : Int) (a26 : List (Int × Int × Unit)) : Le (c_prime_Factor.j5 n t0 t5 t6 a26) (prime_Factor.j5 t0 t5 t6 a26) := by
  unfold c_prime_Factor.j5 prime_Factor.j5
  try dsimp only
  with_reducible repeat' (first | exact Le.refl _ | apply Le.cond | (refine Le.bind ?_ (fun _ => ?_)) | (refine Le.iter (fun _ => ?_) _ _) | (refine Le.sum (fun _ => ?_) (fun _ => ?_) _))
def c_prime_Factor.s1 (n : Nat) (t0 : Int) (t5 : Int) (t6 : Int) (a26 : List (Int × Int × Unit)) : Option ((Int × Int × Int × (List (Int × Int × Unit)) × Unit) ⊕ ((Int × Int × Int × (List (Int × Int × Unit)) × Unit))) :=
  (cond (decide (t5 = 0))
  none
  ((cond (((Int.tmod t0 t5) == (0 : Int)))
  ((c_prime_Factor.j5 n t0 t5 t6 a26))
  ((some (.inr (t0, t5, t6, a26, ())))))))
theorem c_prime_Factor.s1.le (n : Nat) (t0 : Int) (t5 : Int) (t6 : Int) (a26 : List (Int × Int × Unit)) : Le (c_prime_Factor.s1 n t0 t5 t6 a26) (prime_Factor.s1 t0 t5 t6 a26) := by
  unfold c_prime_Factor.s1 prime_Factor.s1
  try dsimp only
  with_reducible repeat' (first | exact Le.refl _ | apply c_prime_Factor.j5.le | apply Le.cond | (refine Le.bind ?_ (fun _ => ?_)) | (refine Le.iter (fun _ => ?_) _ _) | (refine Le.sum (fun _ => ?_) (fun _ => ?_) _))
def c_prime_Factor.k1 (n : Nat) (t0 : Int) (t5 : Int) (t6 : Int) (a26 : List (Int × Int × Unit)) : Option ((Int × Int × (List (Int × Int × Unit)) × Unit) ⊕ (((List (Int × Int × Unit)) × Unit))) :=
  (cond (decide (List.length a26 + List.length ([(t5, (t6, ()))] : List (Int × Int × Unit)) ≤ maxL))
  ((some (.inl (t0, t5, (a26 ++ ([(t5, (t6, ()))] : List (Int × Int × Unit))), ()))))
  none)
theorem c_prime_Factor.k1.le (n : Nat) (t0 : Int) (t5 : Int) (t6 : Int) (a26 : List (Int × Int × Unit)) : Le (c_prime_Factor.k1 n t0 t5 t6 a26) (prime_Factor.k1 t0 t5 t6 a26) := by
  unfold c_prime_Factor.k1 prime_Factor.k1
  try dsimp only
  with_reducible repeat' (first | exact Le.refl _ | apply Le.cond | (refine Le.bind ?_ (fun _ => ?_)) | (refine Le.iter (fun _ => ?_) _ _) | (refine Le.sum (fun _ => ?_) (fun _ => ?_) _))
def c_prime_Factor.k0_1 (n : Nat) (t0 : Int) (t5 : Int) (a26 : List (Int × Int × Unit)) : Option ((Int × Int × (List (Int × Int × Unit)) × Unit) ⊕ (((List (Int × Int × Unit)) × Unit))) :=
  ((iterC n (fun x : Int × Int × Int × (List (Int × Int × Unit)) × Unit => c_prime_Factor.s1 n x.1 x.2.1 x.2.2.1 x.2.2.2.1) (t0, t5, (0 : Int), a26, ())).bind fun y => c_prime_Factor.k1 n y.1 y.2.1 y.2.2.1 y.2.2.2.1)
theorem c_prime_Factor.k0_1.le (n : Nat) (t0 : Int) (t5 : Int) (a26 : List (Int × Int × Unit)) : Le (c_prime_Factor.k0_1 n t0 t5 a26) (prime_Factor.k0_1 t0 t5 a26) := by
  unfold c_prime_Factor.k0_1 prime_Factor.k0_1
  try dsimp only
  with_reducible repeat' (first | exact Le.refl _ | apply c_prime_Factor.k1.le | apply c_prime_Factor.s1.le | apply Le.cond | (refine Le.bind ?_ (fun _ => ?_)) | (refine Le.iter (fun _ => ?_) _ _) | (refine Le.sum (fun _ => ?_) (fun _ => ?_) _))
def c_prime_Factor.j2 (n : Nat) (t0 : Int) (t5 : Int) (a26 : List (Int × Int × Unit)) : Option ((Int × Int × (List (Int × Int × Unit)) × Unit) ⊕ (((List (Int × Int × Unit)) × Unit))) :=
  ((iterC n (fun x : Int × Int × (List (Int × Int × Unit)) × Unit => c_prime_Factor.s0 n x.1 x.2.1 x.2.2.1) (t0, t5, a26, ())).bind fun z => Sum.casesOn z (fun y => c_prime_Factor.k0_0 n y.1) (fun z => c_prime_Factor.k0_1 n z.1 z.2.1 z.2.2.1))
theorem c_prime_Factor.j2.le (n : Nat) (t0 : Int) (t5 : Int) (a26 : List (Int × Int × Unit)) : Le (c_prime_Factor.j2 n t0 t5 a26) (prime_Factor.j2 t0 t5 a26) := by
  unfold c_prime_Factor.j2 prime_Factor.j2
  try dsimp only
  with_reducible repeat' (first | exact Le.refl _ | apply c_prime_Factor.k0_0.le | apply c_prime_Factor.k0_1.le | apply c_prime_Factor.s0.le | apply Le.cond | (refine Le.bind ?_ (fun _ => ?_)) | (refine Le.iter (fun _ => ?_) _ _) | (refine Le.sum (fun _ => ?_) (fun _ => ?_) _))
def c_prime_Factor.s2 (n : Nat) (t0 : Int) (t5 : Int) (a26 : List (Int × Int × Unit)) : Option ((Int × Int × (List (Int × Int × Unit)) × Unit) ⊕ (((List (Int × Int × Unit)) × Unit))) :=
  (cond ((decide (t0 > (1 : Int))))
  ((c_prime_Factor.j2 n t0 t5 a26))
  ((some (.inr (a26, ())))))
theorem c_prime_Factor.s2.le (n : Nat) (t0 : Int) (t5 : Int) (a26 : List (Int × Int × Unit)) : Le (c_prime_Factor.s2 n t0 t5 a26) (prime_Factor.s2 t0 t5 a26) := by
  unfold c_prime_Factor.s2 prime_Factor.s2
  try dsimp only
  with_reducible repeat' (first | exact Le.refl _ | apply c_prime_Factor.j2.le | apply Le.cond | (refine Le.bind ?_ (fun _ => ?_)) | (refine Le.iter (fun _ => ?_) _ _) | (refine Le.sum (fun _ => ?_) (fun _ => ?_) _))
def c_prime_Factor.k2 (n : Nat) (a26 : List (Int × Int × Unit)) : Option ((List (Int × Int × Unit)) × Int × Unit) :=
  (some (a26, ((0 : Int), ())))
theorem c_prime_Factor.k2.le (n : Nat) (a26 : List (Int × Int × Unit)) : Le (c_prime_Factor.k2 n a26) (prime_Factor.k2 a26) := by
  unfold c_prime_Factor.k2 prime_Factor.k2
  try dsimp only
  with_reducible repeat' (first | exact Le.refl _ | apply Le.cond | (refine Le.bind ?_ (fun _ => ?_)) | (refine Le.iter (fun _ => ?_) _ _) | (refine Le.sum (fun _ => ?_) (fun _ => ?_) _))
def c_prime_Factor.j1 (n : Nat) (t0 : Int) : Option ((List (Int × Int × Unit)) × Int × Unit) :=
  ((iterC n (fun x : Int × Int × (List (Int × Int × Unit)) × Unit => c_prime_Factor.s2 n x.1 x.2.1 x.2.2.1) (t0, (2 : Int), ([] : List (Int × Int × Unit)), ())).bind fun y => c_prime_Factor.k2 n y.1)
theorem c_prime_Factor.j1.le (n : Nat) (t0 : Int) : Le (c_prime_Factor.j1 n t0) (prime_Factor.j1 t0) := by
  unfold c_prime_Factor.j1 prime_Factor.j1
  try dsimp only
  with_reducible repeat' (first | exact Le.refl _ | apply c_prime_Factor.k2.le | apply c_prime_Factor.s2.le | apply Le.cond | (refine Le.bind ?_ (fun _ => ?_)) | (refine Le.iter (fun _ => ?_) _ _) | (refine Le.sum (fun _ => ?_) (fun _ => ?_) _))
def c_prime_Factor (n : Nat) (t0 : Int) : Option ((List (Int × Int × Unit)) × Int × Unit) :=
  (cond ((decide (t0 < (1 : Int))))
  ((some (([] : List (Int × Int × Unit)), ((1 : Int), ()))))
  ((cond ((decide (t0 > (2147483647 : Int))))
  ((some (([] : List (Int × Int × Unit)), ((1 : Int), ()))))
  ((c_prime_Factor.j1 n t0)))))
theorem c_prime_Factor.le (n : Nat) (t0 : Int) : Le (c_prime_Factor n t0) (prime_Factor t0) := by
  unfold c_prime_Factor prime_Factor
  try dsimp only
  with_reducible repeat' (first | exact Le.refl _ | apply c_prime_Factor.j1.le | apply Le.cond | (refine Le.bind ?_ (fun _ => ?_)) | (refine Le.iter (fun _ => ?_) _ _) | (refine Le.sum (fun _ => ?_) (fun _ => ?_) _))
def c_prime_Squarefree.j5 (n : Nat) (t5 : Int) (t6 : Int) (t11 : Int) (t27 : List (Int × Int × Unit)) (t28 : Int) (t29 : Int) (b10_0 : Int) (b10_1 : Int) : Option ((Int × Int × Int × (List (Int × Int × Unit)) × Int × Int × (Int × Int × Unit) × Unit) ⊕ ((Int × Int × (List (Int × Int × Unit)) × Int × Int × Unit))) :=
  (some (.inl (t5, (IntKind.wrap .i64 (t6 * b10_0)), (IntKind.wrap .i64 (t11 + (1 : Int))), t27, t28, t29, (b10_0, (b10_1, ())), ())))
theorem c_prime_Squarefree.j5.le (n : Nat) (t5 : Int) (t6 : Int) (t11 : Int) (t27 : List (Int × Int × Unit)) (t28 : Int) (t29 : Int) (b10_0 : Int) (b10_1 : Int) : Le (c_prime_Squarefree.j5 n t5 t6 t11 t27 t28 t29 b10_0 b10_1) (prime_Squarefree.j5 t5 t6 t11 t27 t28 t29 b10_0 b10_1) := by
  unfold c_prime_Squarefree.j5 prime_Squarefree.j5
  try dsimp only
  with_reducible repeat' (first | exact Le.refl _ | apply Le.cond | (refine Le.bind ?_ (fun _ => ?_)) | (refine Le.iter (fun _ => ?_) _ _) | (refine Le.sum (fun _ => ?_) (fun _ => ?_) _))
def c_prime_Squarefree.s0 (n : Nat) (t5 : Int) (t6 : Int) (t11 : Int) (t27 : List (Int × Int × Unit)) (t28 : Int) (t29 : Int) (b10 : Int × Int × Unit) : Option ((Int × Int × Int × (List (Int × Int × Unit)) × Int × Int × (Int × Int × Unit) × Unit) ⊕ ((Int × Int × (List (Int × Int × Unit)) × Int × Int × Unit))) :=
  (cond ((decide (t11 < (IntKind.wrap .i64 (Int.tdiv b10.2.1 (2 : Int))))))
  ((c_prime_Squarefree.j5 n t5 t6 t11 t27 t28 t29 b10.1 b10.2.1))
  ((some (.inr (t5, t6, t27, t28, t29, ())))))
theorem c_prime_Squarefree.s0.le (n : Nat) (t5 : Int) (t6 : Int) (t11 : Int) (t27 : List (Int × Int × Unit)) (t28 : Int) (t29 : Int) (b10 : Int × Int × Unit) : Le (c_prime_Squarefree.s0 n t5 t6 t11 t27 t28 t29 b10) (prime_Squarefree.s0 t5 t6 t11 t27 t28 t29 b10) := by
  unfold c_prime_Squarefree.s0 prime_Squarefree.s0
  try dsimp only
  with_reducible repeat' (first | exact Le.refl _ | apply c_prime_Squarefree.j5.le | apply Le.cond | (refine Le.bind ?_ (fun _ => ?_)) | (refine Le.iter (fun _ => ?_) _ _) | (refine Le.sum (fun _ => ?_) (fun _ => ?_) _))
def c_prime_Squarefree.k0 (n : Nat) (t5 : Int) (t6 : Int) (t27 : List (Int × Int × Unit)) (t28 : Int) (t29 : Int) : Option ((Int × Int × (List (Int × Int × Unit)) × Int × Int × Unit) ⊕ ((Int × Int × Unit))) :=
  (some (.inl (t5, t6, t27, t28, (IntKind.wrap .i64 (t29 + (1 : Int))), ())))
theorem c_prime_Squarefree.k0.le (n : Nat) (t5 : Int) (t6 : Int) (t27 : List (Int × Int × Unit)) (t28 : Int) (t29 : Int) : Le (c_prime_Squarefree.k0 n t5 t6 t27 t28 t29) (prime_Squarefree.k0 t5 t6 t27 t28 t29) := by
  unfold c_prime_Squarefree.k0 prime_Squarefree.k0
  try dsimp only
  with_reducible repeat' (first | exact Le.refl _ | apply Le.cond | (refine Le.bind ?_ (fun _ => ?_)) | (refine Le.iter (fun _ => ?_) _ _) | (refine Le.sum (fun _ => ?_) (fun _ => ?_) _))
def c_prime_Squarefree.j4 (n : Nat) (t5 : Int) (t6 : Int) (t27 : List (Int × Int × Unit)) (t28 : Int) (t29 : Int) (b10_0 : Int) (b10_1 : Int) : Option ((Int × Int × (List (Int × Int × Unit)) × Int × Int × Unit) ⊕ ((Int × Int × Unit))) :=
  ((iterC n (fun x : Int × Int × Int × (List (Int × Int × Unit)) × Int × Int × (Int × Int × Unit) × Unit => c_prime_Squarefree.s0 n x.1 x.2.1 x.2.2.1 x.2.2.2.1 x.2.2.2.2.1 x.2.2.2.2.2.1 x.2.2.2.2.2.2.1) (t5, t6, (0 : Int), t27, t28, t29, (b10_0, (b10_1, ())), ())).bind fun y => c_prime_Squarefree.k0 n y.1 y.2.1 y.2.2.1 y.2.2.2.1 y.2.2.2.2.1)
theorem c_prime_Squarefree.j4.le (n : Nat) (t5 : Int) (t6 : Int) (t27 : List (Int × Int × Unit)) (t28 : Int) (t29 : Int) (b10_0 : Int) (b10_1 : Int) : Le (c_prime_Squarefree.j4 n t5 t6 t27 t28 t29 b10_0 b10_1) (prime_Squarefree.j4 t5 t6 t27 t28 t29 b10_0 b10_1) := by
  unfold c_prime_Squarefree.j4 prime_Squarefree.j4
  try dsimp only
  with_reducible repeat' (first | exact Le.refl _ | apply c_prime_Squarefree.k0.le | apply c_prime_Squarefree.s0.le | apply Le.cond | (refine Le.bind ?_ (fun _ => ?_)) | (refine Le.iter (fun _ => ?_) _ _) | (refine Le.sum (fun _ => ?_) (fun _ => ?_) _))
def c_prime_Squarefree.j3 (n : Nat) (t5 : Int) (t6 : Int) (t27 : List (Int × Int × Unit)) (t28 : Int) (t29 : Int) : Option ((Int × Int × (List (Int × Int × Unit)) × Int × Int × Unit) ⊕ ((Int × Int × Unit))) :=
  (cond (inB t29 (List.length t27))
  ((cond (((Int.tmod (List.getD t27 (t29.toNat) ((0 : Int), ((0 : Int), ()))).2.1 (2 : Int)) == (1 : Int)))
  ((c_prime_Squarefree.j4 n (IntKind.wrap .i64 (t5 * (List.getD t27 (t29.toNat) ((0 : Int), ((0 : Int), ()))).1)) t6 t27 t28 t29 (List.getD t27 (t29.toNat) ((0 : Int), ((0 : Int), ()))).1 (List.getD t27 (t29.toNat) ((0 : Int), ((0 : Int), ()))).2.1))
  ((c_prime_Squarefree.j4 n t5 t6 t27 t28 t29 (List.getD t27 (t29.toNat) ((0 : Int), ((0 : Int), ()))).1 (List.getD t27 (t29.toNat) ((0 : Int), ((0 : Int), ()))).2.1))))
  none)
theorem c_prime_Squarefree.j3.le (n : Nat) (t5 : Int) (t6 : Int) (t27 : List (Int × Int × Unit)) (t28 : Int) (t29 : Int) : Le (c_prime_Squarefree.j3 n t5 t6 t27 t28 t29) (prime_Squarefree.j3 t5 t6 t27 t28 t29) := by
  unfold c_prime_Squarefree.j3 prime_Squarefree.j3
  try dsimp only
  with_reducible repeat' (first | exact Le.refl _ | apply c_prime_Squarefree.j4.le | apply Le.cond | (refine Le.bind ?_ (fun _ => ?_)) | (refine Le.iter (fun _ => ?_) _ _) | (refine Le.sum (fun _ => ?_) (fun _ => ?_) _))
def c_prime_Squarefree.s1 (n : Nat) (t5 : Int) (t6 : Int) (t27 : List (Int × Int × Unit)) (t28 : Int) (t29 : Int) : Option ((Int × Int × (List (Int × Int × Unit)) × Int × Int × Unit) ⊕ ((Int × Int × Unit))) :=
  (cond ((decide (t29 < t28)))
  ((c_prime_Squarefree.j3 n t5 t6 t27 t28 t29))
  ((some (.inr (t5, t6, ())))))
theorem c_prime_Squarefree.s1.le (n : Nat) (t5 : Int) (t6 : Int) (t27 : List (Int × Int × Unit)) (t28 : Int) (t29 : Int) : Le (c_prime_Squarefree.s1 n t5 t6 t27 t28 t29) (prime_Squarefree.s1 t5 t6 t27 t28 t29) := by
  unfold c_prime_Squarefree.s1 prime_Squarefree.s1
  try dsimp only
  with_reducible repeat' (first | exact Le.refl _ | apply c_prime_Squarefree.j3.le | apply Le.cond | (refine Le.bind ?_ (fun _ => ?_)) | (refine Le.iter (fun _ => ?_) _ _) | (refine Le.sum (fun _ => ?_) (fun _ => ?_) _))
def c_prime_Squarefree.k1 (n : Nat) (t5 : Int) (t6 : Int) : Option (Int × Int × Int × Unit) :=
  (some (t5, (t6, ((0 : Int), ()))))
theorem c_prime_Squarefree.k1.le (n : Nat) (t5 : Int) (t6 : Int) : Le (c_prime_Squarefree.k1 n t5 t6) (prime_Squarefree.k1 t5 t6) := by
  unfold c_prime_Squarefree.k1 prime_Squarefree.k1
  try dsimp only
  with_reducible repeat' (first | exact Le.refl _ | apply Le.cond | (refine Le.bind ?_ (fun _ => ?_)) | (refine Le.iter (fun _ => ?_) _ _) | (refine Le.sum (fun _ => ?_) (fun _ => ?_) _))
def c_prime_Squarefree.j2 (n : Nat) (t0 : Int) : Option (Int × Int × Int × Unit) :=
  ((c_prime_Factor n t0).bind fun y2 =>
  ((iterC n (fun x : Int × Int × (List (Int × Int × Unit)) × Int × Int × Unit => c_prime_Squarefree.s1 n x.1 x.2.1 x.2.2.1 x.2.2.2.1 x.2.2.2.2.1) ((-1 : Int), (1 : Int), y2.1, ((List.length y2.1 : Nat) : Int), (0 : Int), ())).bind fun y => c_prime_Squarefree.k1 n y.1 y.2.1))
theorem c_prime_Squarefree.j2.le (n : Nat) (t0 : Int) : Le (c_prime_Squarefree.j2 n t0) (prime_Squarefree.j2 t0) := by
  unfold c_prime_Squarefree.j2 prime_Squarefree.j2
  try dsimp only
  with_reducible repeat' (first | exact Le.refl _ | apply c_prime_Factor.le | apply c_prime_Squarefree.k1.le | apply c_prime_Squarefree.s1.le | apply Le.cond | (refine Le.bind ?_ (fun _ => ?_)) | (refine Le.iter (fun _ => ?_) _ _) | (refine Le.sum (fun _ => ?_) (fun _ => ?_) _))
def c_prime_Squarefree.j6 (n : Nat) (t0 : Int) : Option (Int × Int × Int × Unit) :=
  ((c_prime_Factor n t0).bind fun y6 =>
  ((iterC n (fun x : Int × Int × (List (Int × Int × Unit)) × Int × Int × Unit => c_prime_Squarefree.s1 n x.1 x.2.1 x.2.2.1 x.2.2.2.1 x.2.2.2.2.1) ((1 : Int), (1 : Int), y6.1, ((List.length y6.1 : Nat) : Int), (0 : Int), ())).bind fun y => c_prime_Squarefree.k1 n y.1 y.2.1))
theorem c_prime_Squarefree.j6.le (n : Nat) (t0 : Int) : Le (c_prime_Squarefree.j6 n t0) (prime_Squarefree.j6 t0) := by
  unfold c_prime_Squarefree.j6 prime_Squarefree.j6
  try dsimp only
  with_reducible repeat' (first | exact Le.refl _ | apply c_prime_Factor.le | apply c_prime_Squarefree.k1.le | apply c_prime_Squarefree.s1.le | apply Le.cond | (refine Le.bind ?_ (fun _ => ?_)) | (refine Le.iter (fun _ => ?_) _ _) | (refine Le.sum (fun _ => ?_) (fun _ => ?_) _))
def c_prime_Squarefree.j1 (n : Nat) (t0 : Int) : Option (Int × Int × Int × Unit) :=
  (cond ((decide (t0 < (0 : Int))))
  ((c_prime_Squarefree.j2 n (IntKind.wrap .i64 (0 - t0))))
  ((c_prime_Squarefree.j6 n t0)))
theorem c_prime_Squarefree.j1.le (n : Nat) (t0 : Int) : Le (c_prime_Squarefree.j1 n t0) (prime_Squarefree.j1 t0) := by
  unfold c_prime_Squarefree.j1 prime_Squarefree.j1
  try dsimp only
  with_reducible repeat' (first | exact Le.refl _ | apply c_prime_Squarefree.j2.le | apply c_prime_Squarefree.j6.le | apply Le.cond | (refine Le.bind ?_ (fun _ => ?_)) | (refine Le.iter (fun _ => ?_) _ _) | (refine Le.sum (fun _ => ?_) (fun _ => ?_) _))
def c_prime_Squarefree (n : Nat) (t0 : Int) : Option (Int × Int × Int × Unit) :=
  (cond ((t0 == (0 : Int)))
  ((some ((0 : Int), ((0 : Int), ((1 : Int), ())))))
  (((c_prime_beyond n t0).bind fun y1 =>
  (cond (y1)
  ((some ((0 : Int), ((0 : Int), ((1 : Int), ())))))
  ((c_prime_Squarefree.j1 n t0))))))
theorem c_prime_Squarefree.le (n : Nat) (t0 : Int) : Le (c_prime_Squarefree n t0) (prime_Squarefree t0) := by
  unfold c_prime_Squarefree prime_Squarefree
  try dsimp only
  with_reducible repeat' (first | exact Le.refl _ | apply c_prime_Squarefree.j1.le | apply c_prime_beyond.le | apply Le.cond | (refine Le.bind ?_ (fun _ => ?_)) | (refine Le.iter (fun _ => ?_) _ _) | (refine Le.sum (fun _ => ?_) (fun _ => ?_) _))
def c_prime_residue.j1 (n : Nat) (t5 : Int) : Option (Int) :=
  (some t5)
theorem c_prime_residue.j1.le (n : Nat) (t5 : Int) : Le (c_prime_residue.j1 n t5) (prime_residue.j1 t5) := by
  unfold c_prime_residue.j1 prime_residue.j1
  try dsimp only
  with_reducible repeat' (first | exact Le.refl _ | apply Le.cond | (refine Le.bind ?_ (fun _ => ?_)) | (refine Le.iter (fun _ => ?_) _ _) | (refine Le.sum (fun _ => ?_) (fun _ => ?_) _))
def c_prime_residue (n : Nat) (t0 : Int) (t1 : Int) : Option (Int) :=
  (cond (decide (t1 = 0))
  none
  ((cond ((decide ((Int.tmod t0 t1) < (0 : Int))))
  ((c_prime_residue.j1 n (IntKind.wrap .i64 ((Int.tmod t0 t1) + t1))))
  ((c_prime_residue.j1 n (Int.tmod t0 t1))))))
theorem c_prime_residue.le (n : Nat) (t0 : Int) (t1 : Int) : Le (c_prime_residue n t0 t1) (prime_residue t0 t1) := by
  unfold c_prime_residue prime_residue
  try dsimp only
  with_reducible repeat' (first | exact Le.refl _ | apply c_prime_residue.j1.le | apply Le.cond | (refine Le.bind ?_ (fun _ => ?_)) | (refine Le.iter (fun _ => ?_) _ _) | (refine Le.sum (fun _ => ?_) (fun _ => ?_) _))
def c_prime_Discriminant.j2 (n : Nat) (t4 : Int) : Option (Int × Int × Unit) :=
  (some ((IntKind.wrap .i64 ((4 : Int) * t4)), ((0 : Int), ())))
theorem c_prime_Discriminant.j2.le (n : Nat) (t4 : Int) : Le (c_prime_Discriminant.j2 n t4) (prime_Discriminant.j2 t4) := by
  unfold c_prime_Discriminant.j2 prime_Discriminant.j2
  try dsimp only
  with_reducible repeat' (first | exact Le.refl _ | apply Le.cond | (refine Le.bind ?_ (fun _ => ?_)) | (refine Le.iter (fun _ => ?_) _ _) | (refine Le.sum (fun _ => ?_) (fun _ => ?_) _))
def c_prime_Discriminant.j1 (n : Nat) (t4 : Int) : Option (Int × Int × Unit) :=
  ((c_prime_residue n t4 (4 : Int)).bind fun y2 =>
  (cond ((y2 == (1 : Int)))
  ((some (t4, ((0 : Int), ()))))
  ((c_prime_Discriminant.j2 n t4))))
theorem c_prime_Discriminant.j1.le (n : Nat) (t4 : Int) : Le (c_prime_Discriminant.j1 n t4) (prime_Discriminant.j1 t4) := by
  unfold c_prime_Discriminant.j1 prime_Discriminant.j1
  try dsimp only
  with_reducible repeat' (first | exact Le.refl _ | apply c_prime_Discriminant.j2.le | apply c_prime_residue.le | apply Le.cond | (refine Le.bind ?_ (fun _ => ?_)) | (refine Le.iter (fun _ => ?_) _ _) | (refine Le.sum (fun _ => ?_) (fun _ => ?_) _))
def c_prime_Discriminant (n : Nat) (t0 : Int) : Option (Int × Int × Unit) :=
  ((c_prime_Squarefree n t0).bind fun y1 =>
  (cond ((y1.2.2.1 != (0 : Int)))
  ((some ((0 : Int), (y1.2.2.1, ()))))
  ((c_prime_Discriminant.j1 n y1.1))))
theorem c_prime_Discriminant.le (n : Nat) (t0 : Int) : Le (c_prime_Discriminant n t0) (prime_Discriminant t0) := by
  unfold c_prime_Discriminant prime_Discriminant
  try dsimp only
  with_reducible repeat' (first | exact Le.refl _ | apply c_prime_Discriminant.j1.le | apply c_prime_Squarefree.le | apply Le.cond | (refine Le.bind ?_ (fun _ => ?_)) | (refine Le.iter (fun _ => ?_) _ _) | (refine Le.sum (fun _ => ?_) (fun _ => ?_) _))
def c_prime_symbol.j4 (n : Nat)  : Option (Int) :=
  (some (0 : Int))
theorem c_prime_symbol.j4.le (n : Nat)  : Le (c_prime_symbol.j4 n) (prime_symbol.j4) := by
  unfold c_prime_symbol.j4 prime_symbol.j4
  try dsimp only
  with_reducible repeat' (first | exact Le.refl _ | apply Le.cond | (refine Le.bind ?_ (fun _ => ?_)) | (refine Le.iter (fun _ => ?_) _ _) | (refine Le.sum (fun _ => ?_) (fun _ => ?_) _))
def c_prime_symbol.j3 (n : Nat)  : Option (Int) :=
  (c_prime_symbol.j4 n)
theorem c_prime_symbol.j3.le (n : Nat)  : Le (c_prime_symbol.j3 n) (prime_symbol.j3) := by
  unfold c_prime_symbol.j3 prime_symbol.j3
  try dsimp only
  with_reducible repeat' (first | exact Le.refl _ | apply c_prime_symbol.j4.le | apply Le.cond | (refine Le.bind ?_ (fun _ => ?_)) | (refine Le.iter (fun _ => ?_) _ _) | (refine Le.sum (fun _ => ?_) (fun _ => ?_) _))
def c_prime_symbol.j2 (n : Nat) (t14 : Bool) : Option (Int) :=
  (cond (t14)
  ((some (-1 : Int)))
  ((c_prime_symbol.j3 n)))
theorem c_prime_symbol.j2.le (n : Nat) (t14 : Bool) : Le (c_prime_symbol.j2 n t14) (prime_symbol.j2 t14) := by
  unfold c_prime_symbol.j2 prime_symbol.j2
  try dsimp only
  with_reducible repeat' (first | exact Le.refl _ | apply c_prime_symbol.j3.le | apply Le.cond | (refine Le.bind ?_ (fun _ => ?_)) | (refine Le.iter (fun _ => ?_) _ _) | (refine Le.sum (fun _ => ?_) (fun _ => ?_) _))
def c_prime_symbol.j1 (n : Nat) (t10 : Int) (t11 : Bool) : Option (Int) :=
  (cond (t11)
  ((some (1 : Int)))
  ((cond ((t10 == (3 : Int)))
  ((c_prime_symbol.j2 n (t10 == (3 : Int))))
  ((c_prime_symbol.j2 n (t10 == (5 : Int)))))))
theorem c_prime_symbol.j1.le (n : Nat) (t10 : Int) (t11 : Bool) : Le (c_prime_symbol.j1 n t10 t11) (prime_symbol.j1 t10 t11) := by
  unfold c_prime_symbol.j1 prime_symbol.j1
  try dsimp only
  with_reducible repeat' (first | exact Le.refl _ | apply c_prime_symbol.j2.le | apply Le.cond | (refine Le.bind ?_ (fun _ => ?_)) | (refine Le.iter (fun _ => ?_) _ _) | (refine Le.sum (fun _ => ?_) (fun _ => ?_) _))
def c_prime_symbol.j8 (n : Nat) (t0 : Int) (t1 : Int) (t5 : Int) (t6 : Int) : Option ((Int × Int × Int × Int × Unit) ⊕ ((Int × Unit))) :=
  (cond (decide (t1 = 0))
  none
  ((some (.inl ((Int.tmod (IntKind.wrap .i64 (t0 * t0)) t1), t1, t5, (IntKind.wrap .i64 (Int.tdiv t6 (2 : Int))), ())))))
theorem c_prime_symbol.j8.le (n : Nat) (t0 : Int) (t1 : Int) (t5 : Int) (t6 : Int) : Le (c_prime_symbol.j8 n t0 t1 t5 t6) (prime_symbol.j8 t0 t1 t5 t6) := by
  unfold c_prime_symbol.j8 prime_symbol.j8
  try dsimp only
  with_reducible repeat' (first | exact Le.refl _ | apply Le.cond | (refine Le.bind ?_ (fun _ => ?_)) | (refine Le.iter (fun _ => ?_) _ _) | (refine Le.sum (fun _ => ?_) (fun _ => ?_) _))
def c_prime_symbol.j7 (n : Nat) (t0 : Int) (t1 : Int) (t5 : Int) (t6 : Int) : Option ((Int × Int × Int × Int × Unit) ⊕ ((Int × Unit))) :=
  (cond (((Int.tmod t6 (2 : Int)) == (1 : Int)))
  ((cond (decide (t1 = 0))
  none
  ((c_prime_symbol.j8 n t0 t1 (Int.tmod (IntKind.wrap .i64 (t5 * t0)) t1) t6))))
  ((c_prime_symbol.j8 n t0 t1 t5 t6)))
theorem c_prime_symbol.j7.le (n : Nat) (t0 : Int) (t1 : Int) (t5 : Int) (t6 : Int) : Le (c_prime_symbol.j7 n t0 t1 t5 t6) (prime_symbol.j7 t0 t1 t5 t6) := by
  unfold c_prime_symbol.j7 prime_symbol.j7
  try dsimp only
  with_reducible repeat' (first | exact Le.refl _ | apply c_prime_symbol.j8.le | apply Le.cond | (refine Le.bind ?_ (fun _ => ?_)) | (refine Le.iter (fun _ => ?_) _ _) | (refine Le.sum (fun _ => ?_) (fun _ => ?_) _))
def c_prime_symbol.s0 (n : Nat) (t0 : Int) (t1 : Int) (t5 : Int) (t6 : Int) : Option ((Int × Int × Int × Int × Unit) ⊕ ((Int × Unit))) :=
  (cond ((decide (t6 > (0 : Int))))
  ((c_prime_symbol.j7 n t0 t1 t5 t6))
  ((some (.inr (t5, ())))))
theorem c_prime_symbol.s0.le (n : Nat) (t0 : Int) (t1 : Int) (t5 : Int) (t6 : Int) : Le (c_prime_symbol.s0 n t0 t1 t5 t6) (prime_symbol.s0 t0 t1 t5 t6) := by
  unfold c_prime_symbol.s0 prime_symbol.s0
  try dsimp only
  with_reducible repeat' (first | exact Le.refl _ | apply c_prime_symbol.j7.le | apply Le.cond | (refine Le.bind ?_ (fun _ => ?_)) | (refine Le.iter (fun _ => ?_) _ _) | (refine Le.sum (fun _ => ?_) (fun _ => ?_) _))
def c_prime_symbol.j9 (n : Nat)  : Option (Int) :=
  (some (-1 : Int))
theorem c_prime_symbol.j9.le (n : Nat)  : Le (c_prime_symbol.j9 n) (prime_symbol.j9) := by
  unfold c_prime_symbol.j9 prime_symbol.j9
  try dsimp only
  with_reducible repeat' (first | exact Le.refl _ | apply Le.cond | (refine Le.bind ?_ (fun _ => ?_)) | (refine Le.iter (fun _ => ?_) _ _) | (refine Le.sum (fun _ => ?_) (fun _ => ?_) _))
def c_prime_symbol.k0 (n : Nat) (t5 : Int) : Option (Int) :=
  (cond ((t5 == (1 : Int)))
  ((some (1 : Int)))
  ((c_prime_symbol.j9 n)))
theorem c_prime_symbol.k0.le (n : Nat) (t5 : Int) : Le (c_prime_symbol.k0 n t5) (prime_symbol.k0 t5) := by
  unfold c_prime_symbol.k0 prime_symbol.k0
  try dsimp only
  with_reducible repeat' (first | exact Le.refl _ | apply c_prime_symbol.j9.le | apply Le.cond | (refine Le.bind ?_ (fun _ => ?_)) | (refine Le.iter (fun _ => ?_) _ _) | (refine Le.sum (fun _ => ?_) (fun _ => ?_) _))
def c_prime_symbol.j6 (n : Nat) (t0 : Int) (t1 : Int) : Option (Int) :=
  ((iterC n (fun x : Int × Int × Int × Int × Unit => c_prime_symbol.s0 n x.1 x.2.1 x.2.2.1 x.2.2.2.1) (t0, t1, (1 : Int), (IntKind.wrap .i64 (Int.tdiv (IntKind.wrap .i64 (t1 - (1 : Int))) (2 : Int))), ())).bind fun y => c_prime_symbol.k0 n y.1)
theorem c_prime_symbol.j6.le (n : Nat) (t0 : Int) (t1 : Int) : Le (c_prime_symbol.j6 n t0 t1) (prime_symbol.j6 t0 t1) := by
  unfold c_prime_symbol.j6 prime_symbol.j6
  try dsimp only
  with_reducible repeat' (first | exact Le.refl _ | apply c_prime_symbol.k0.le | apply c_prime_symbol.s0.le | apply Le.cond | (refine Le.bind ?_ (fun _ => ?_)) | (refine Le.iter (fun _ => ?_) _ _) | (refine Le.sum (fun _ => ?_) (fun _ => ?_) _))
def c_prime_symbol.j5 (n : Nat) (t0 : Int) (t1 : Int) : Option (Int) :=
  ((c_prime_residue n t0 t1).bind fun y2 =>
  (cond ((y2 == (0 : Int)))
  ((some (0 : Int)))
  ((c_prime_symbol.j6 n y2 t1))))
theorem c_prime_symbol.j5.le (n : Nat) (t0 : Int) (t1 : Int) : Le (c_prime_symbol.j5 n t0 t1) (prime_symbol.j5 t0 t1) := by
  unfold c_prime_symbol.j5 prime_symbol.j5
  try dsimp only
  with_reducible repeat' (first | exact Le.refl _ | apply c_prime_residue.le | apply c_prime_symbol.j6.le | apply Le.cond | (refine Le.bind ?_ (fun _ => ?_)) | (refine Le.iter (fun _ => ?_) _ _) | (refine Le.sum (fun _ => ?_) (fun _ => ?_) _))
def c_prime_symbol (n : Nat) (t0 : Int) (t1 : Int) : Option (Int) :=
  (cond ((t1 == (2 : Int)))
  (((c_prime_residue n t0 (8 : Int)).bind fun y1 =>
  (cond ((y1 == (1 : Int)))
  ((c_prime_symbol.j1 n y1 (y1 == (1 : Int))))
  ((c_prime_symbol.j1 n y1 (y1 == (7 : Int)))))))
  ((c_prime_symbol.j5 n t0 t1)))
theorem c_prime_symbol.le (n : Nat) (t0 : Int) (t1 : Int) : Le (c_prime_symbol n t0 t1) (prime_symbol t0 t1) := by
  unfold c_prime_symbol prime_symbol
  try dsimp only
  with_reducible repeat' (first | exact Le.refl _ | apply c_prime_residue.le | apply c_prime_symbol.j1.le | apply c_prime_symbol.j5.le | apply Le.cond | (refine Le.bind ?_ (fun _ => ?_)) | (refine Le.iter (fun _ => ?_) _ _) | (refine Le.sum (fun _ => ?_) (fun _ => ?_) _))
def c_prime_Kronecker.j2 (n : Nat)  : Option (Int × Int × Unit) :=
  (some ((0 : Int), ((0 : Int), ())))
theorem c_prime_Kronecker.j2.le (n : Nat)  : Le (c_prime_Kronecker.j2 n) (prime_Kronecker.j2) := by
  unfold c_prime_Kronecker.j2 prime_Kronecker.j2
  try dsimp only
  with_reducible repeat' (first | exact Le.refl _ | apply Le.cond | (refine Le.bind ?_ (fun _ => ?_)) | (refine Le.iter (fun _ => ?_) _ _) | (refine Le.sum (fun _ => ?_) (fun _ => ?_) _))
def c_prime_Kronecker.j8 (n : Nat) (t0 : Int) (t6 : Int) (t37 : List (Int × Int × Unit)) (t38 : Int) (t39 : Int) : Option ((Int × Int × (List (Int × Int × Unit)) × Int × Int × Unit) ⊕ ((Int × Unit) ⊕ (Int × Int × Unit))) :=
  (some (.inl (t0, t6, t37, t38, (IntKind.wrap .i64 (t39 + (1 : Int))), ())))
theorem c_prime_Kronecker.j8.le (n : Nat) (t0 : Int) (t6 : Int) (t37 : List (Int × Int × Unit)) (t38 : Int) (t39 : Int) : Le (c_prime_Kronecker.j8 n t0 t6 t37 t38 t39) (prime_Kronecker.j8 t0 t6 t37 t38 t39) := by
  unfold c_prime_Kronecker.j8 prime_Kronecker.j8
  try dsimp only
  with_reducible repeat' (first | exact Le.refl _ | apply Le.cond | (refine Le.bind ?_ (fun _ => ?_)) | (refine Le.iter (fun _ => ?_) _ _) | (refine Le.sum (fun _ => ?_) (fun _ => ?_) _))
def c_prime_Kronecker.j7 (n : Nat) (t0 : Int) (t6 : Int) (t11 : Int) (t37 : List (Int × Int × Unit)) (t38 : Int) (t39 : Int) (b10_0 : Int) (b10_1 : Int) : Option ((Int × Int × (List (Int × Int × Unit)) × Int × Int × Unit) ⊕ ((Int × Unit) ⊕ (Int × Int × Unit))) :=
  (cond (((Int.tmod b10_1 (2 : Int)) == (1 : Int)))
  ((c_prime_Kronecker.j8 n t0 (IntKind.wrap .i64 (t6 * t11)) t37 t38 t39))
  ((c_prime_Kronecker.j8 n t0 t6 t37 t38 t39)))
theorem c_prime_Kronecker.j7.le (n : Nat) (t0 : Int) (t6 : Int) (t11 : Int) (t37 : List (Int × Int × Unit)) (t38 : Int) (t39 : Int) (b10_0 : Int) (b10_1 : Int) : Le (c_prime_Kronecker.j7 n t0 t6 t11 t37 t38 t39 b10_0 b10_1) (prime_Kronecker.j7 t0 t6 t11 t37 t38 t39 b10_0 b10_1) := by
  unfold c_prime_Kronecker.j7 prime_Kronecker.j7
  try dsimp only
  with_reducible repeat' (first | exact Le.refl _ | apply c_prime_Kronecker.j8.le | apply Le.cond | (refine Le.bind ?_ (fun _ => ?_)) | (refine Le.iter (fun _ => ?_) _ _) | (refine Le.sum (fun _ => ?_) (fun _ => ?_) _))
def c_prime_Kronecker.j6 (n : Nat) (t0 : Int) (t6 : Int) (t37 : List (Int × Int × Unit)) (t38 : Int) (t39 : Int) : Option ((Int × Int × (List (Int × Int × Unit)) × Int × Int × Unit) ⊕ ((Int × Unit) ⊕ (Int × Int × Unit))) :=
  (cond (inB t39 (List.length t37))
  (((c_prime_symbol n t0 (List.getD t37 (t39.toNat) ((0 : Int), ((0 : Int), ()))).1).bind fun y5 =>
  (cond ((y5 == (0 : Int)))
  ((some (.inr (.inr ((0 : Int), (0 : Int), ())))))
  ((c_prime_Kronecker.j7 n t0 t6 y5 t37 t38 t39 (List.getD t37 (t39.toNat) ((0 : Int), ((0 : Int), ()))).1 (List.getD t37 (t39.toNat) ((0 : Int), ((0 : Int), ()))).2.1)))))
  none)
theorem c_prime_Kronecker.j6.le (n : Nat) (t0 : Int) (t6 : Int) (t37 : List (Int × Int × Unit)) (t38 : Int) (t39 : Int) : Le (c_prime_Kronecker.j6 n t0 t6 t37 t38 t39) (prime_Kronecker.j6 t0 t6 t37 t38 t39) := by
  unfold c_prime_Kronecker.j6 prime_Kronecker.j6
  try dsimp only
  with_reducible repeat' (first | exact Le.refl _ | apply c_prime_Kronecker.j7.le | apply c_prime_symbol.le | apply Le.cond | (refine Le.bind ?_ (fun _ => ?_)) | (refine Le.iter (fun _ => ?_) _ _) | (refine Le.sum (fun _ => ?_) (fun _ => ?_) _))
def c_prime_Kronecker.s0 (n : Nat) (t0 : Int) (t6 : Int) (t37 : List (Int × Int × Unit)) (t38 : Int) (t39 : Int) : Option ((Int × Int × (List (Int × Int × Unit)) × Int × Int × Unit) ⊕ ((Int × Unit) ⊕ (Int × Int × Unit))) :=
  (cond ((decide (t39 < t38)))
  ((c_prime_Kronecker.j6 n t0 t6 t37 t38 t39))
  ((some (.inr (.inl (t6, ()))))))
theorem c_prime_Kronecker.s0.le (n : Nat) (t0 : Int) (t6 : Int) (t37 : List (Int × Int × Unit)) (t38 : Int) (t39 : Int) : Le (c_prime_Kronecker.s0 n t0 t6 t37 t38 t39) (prime_Kronecker.s0 t0 t6 t37 t38 t39) := by
  unfold c_prime_Kronecker.s0 prime_Kronecker.s0
  try dsimp only
  with_reducible repeat' (first | exact Le.refl _ | apply c_prime_Kronecker.j6.le | apply Le.cond | (refine Le.bind ?_ (fun _ => ?_)) | (refine Le.iter (fun _ => ?_) _ _) | (refine Le.sum (fun _ => ?_) (fun _ => ?_) _))
def c_prime_Kronecker.k0_0 (n : Nat) (t6 : Int) : Option (Int × Int × Unit) :=
  (some (t6, ((0 : Int), ())))
theorem c_prime_Kronecker.k0_0.le (n : Nat) (t6 : Int) : Le (c_prime_Kronecker.k0_0 n t6) (prime_Kronecker.k0_0 t6) := by
  unfold c_prime_Kronecker.k0_0 prime_Kronecker.k0_0
  try dsimp only
  with_reducible repeat' (first | exact Le.refl _ | apply Le.cond | (refine Le.bind ?_ (fun _ => ?_)) | (refine Le.iter (fun _ => ?_) _ _) | (refine Le.sum (fun _ => ?_) (fun _ => ?_) _))
def c_prime_Kronecker.k0_1 (n : Nat) (t4 : Int) (t5 : Int) : Option (Int × Int × Unit) :=
  (some (t4, (t5, ())))
theorem c_prime_Kronecker.k0_1.le (n : Nat) (t4 : Int) (t5 : Int) : Le (c_prime_Kronecker.k0_1 n t4 t5) (prime_Kronecker.k0_1 t4 t5) := by
  unfold c_prime_Kronecker.k0_1 prime_Kronecker.k0_1
  try dsimp only
  with_reducible repeat' (first | exact Le.refl _ | apply Le.cond | (refine Le.bind ?_ (fun _ => ?_)) | (refine Le.iter (fun _ => ?_) _ _) | (refine Le.sum (fun _ => ?_) (fun _ => ?_) _))
def c_prime_Kronecker.j5 (n : Nat) (t0 : Int) (t1 : Int) : Option (Int × Int × Unit) :=
  ((c_prime_Factor n t1).bind fun y3 =>
  ((iterC n (fun x : Int × Int × (List (Int × Int × Unit)) × Int × Int × Unit => c_prime_Kronecker.s0 n x.1 x.2.1 x.2.2.1 x.2.2.2.1 x.2.2.2.2.1) (t0, (-1 : Int), y3.1, ((List.length y3.1 : Nat) : Int), (0 : Int), ())).bind fun z => Sum.casesOn z (fun y => c_prime_Kronecker.k0_0 n y.1) (fun z => c_prime_Kronecker.k0_1 n z.1 z.2.1)))
theorem c_prime_Kronecker.j5.le (n : Nat) (t0 : Int) (t1 : Int) : Le (c_prime_Kronecker.j5 n t0 t1) (prime_Kronecker.j5 t0 t1) := by
  unfold c_prime_Kronecker.j5 prime_Kronecker.j5
  try dsimp only
  with_reducible repeat' (first | exact Le.refl _ | apply c_prime_Factor.le | apply c_prime_Kronecker.k0_0.le | apply c_prime_Kronecker.k0_1.le | apply c_prime_Kronecker.s0.le | apply Le.cond | (refine Le.bind ?_ (fun _ => ?_)) | (refine Le.iter (fun _ => ?_) _ _) | (refine Le.sum (fun _ => ?_) (fun _ => ?_) _))
def c_prime_Kronecker.j4 (n : Nat) (t0 : Int) (t1 : Int) : Option (Int × Int × Unit) :=
  (c_prime_Kronecker.j5 n t0 t1)
theorem c_prime_Kronecker.j4.le (n : Nat) (t0 : Int) (t1 : Int) : Le (c_prime_Kronecker.j4 n t0 t1) (prime_Kronecker.j4 t0 t1) := by
  unfold c_prime_Kronecker.j4 prime_Kronecker.j4
  try dsimp only
  with_reducible repeat' (first | exact Le.refl _ | apply c_prime_Kronecker.j5.le | apply Le.cond | (refine Le.bind ?_ (fun _ => ?_)) | (refine Le.iter (fun _ => ?_) _ _) | (refine Le.sum (fun _ => ?_) (fun _ => ?_) _))
def c_prime_Kronecker.j10 (n : Nat) (t0 : Int) (t1 : Int) : Option (Int × Int × Unit) :=
  ((c_prime_Factor n t1).bind fun y7 =>
  ((iterC n (fun x : Int × Int × (List (Int × Int × Unit)) × Int × Int × Unit => c_prime_Kronecker.s0 n x.1 x.2.1 x.2.2.1 x.2.2.2.1 x.2.2.2.2.1) (t0, (1 : Int), y7.1, ((List.length y7.1 : Nat) : Int), (0 : Int), ())).bind fun z => Sum.casesOn z (fun y => c_prime_Kronecker.k0_0 n y.1) (fun z => c_prime_Kronecker.k0_1 n z.1 z.2.1)))
theorem c_prime_Kronecker.j10.le (n : Nat) (t0 : Int) (t1 : Int) : Le (c_prime_Kronecker.j10 n t0 t1) (prime_Kronecker.j10 t0 t1) := by
  unfold c_prime_Kronecker.j10 prime_Kronecker.j10
  try dsimp only
  with_reducible repeat' (first | exact Le.refl _ | apply c_prime_Factor.le | apply c_prime_Kronecker.k0_0.le | apply c_prime_Kronecker.k0_1.le | apply c_prime_Kronecker.s0.le | apply Le.cond | (refine Le.bind ?_ (fun _ => ?_)) | (refine Le.iter (fun _ => ?_) _ _) | (refine Le.sum (fun _ => ?_) (fun _ => ?_) _))
def c_prime_Kronecker.j9 (n : Nat) (t0 : Int) (t1 : Int) : Option (Int × Int × Unit) :=
  (c_prime_Kronecker.j10 n t0 t1)
theorem c_prime_Kronecker.j9.le (n : Nat) (t0 : Int) (t1 : Int) : Le (c_prime_Kronecker.j9 n t0 t1) (prime_Kronecker.j9 t0 t1) := by
  unfold c_prime_Kronecker.j9 prime_Kronecker.j9
  try dsimp only
  with_reducible repeat' (first | exact Le.refl _ | apply c_prime_Kronecker.j10.le | apply Le.cond | (refine Le.bind ?_ (fun _ => ?_)) | (refine Le.iter (fun _ => ?_) _ _) | (refine Le.sum (fun _ => ?_) (fun _ => ?_) _))
def c_prime_Kronecker.j3 (n : Nat) (t0 : Int) (t1 : Int) : Option (Int × Int × Unit) :=
  (cond ((decide (t1 < (0 : Int))))
  ((cond ((decide (t0 < (0 : Int))))
  ((c_prime_Kronecker.j4 n t0 (IntKind.wrap .i64 (0 - t1))))
  ((c_prime_Kronecker.j9 n t0 (IntKind.wrap .i64 (0 - t1))))))
  ((c_prime_Kronecker.j10 n t0 t1)))
theorem c_prime_Kronecker.j3.le (n : Nat) (t0 : Int) (t1 : Int) : Le (c_prime_Kronecker.j3 n t0 t1) (prime_Kronecker.j3 t0 t1) := by
  unfold c_prime_Kronecker.j3 prime_Kronecker.j3
  try dsimp only
  with_reducible repeat' (first | exact Le.refl _ | apply c_prime_Kronecker.j10.le | apply c_prime_Kronecker.j4.le | apply c_prime_Kronecker.j9.le | apply Le.cond | (refine Le.bind ?_ (fun _ => ?_)) | (refine Le.iter (fun _ => ?_) _ _) | (refine Le.sum (fun _ => ?_) (fun _ => ?_) _))
def c_prime_Kronecker.j1 (n : Nat) (t0 : Int) (t1 : Int) : Option (Int × Int × Unit) :=
  (cond ((t1 == (0 : Int)))
  ((cond ((t0 == (1 : Int)))
  ((some ((1 : Int), ((0 : Int), ()))))
  ((cond ((t0 == (-1 : Int)))
  ((some ((1 : Int), ((0 : Int), ()))))
  ((c_prime_Kronecker.j2 n))))))
  ((c_prime_Kronecker.j3 n t0 t1)))
theorem c_prime_Kronecker.j1.le (n : Nat) (t0 : Int) (t1 : Int) : Le (c_prime_Kronecker.j1 n t0 t1) (prime_Kronecker.j1 t0 t1) := by
  unfold c_prime_Kronecker.j1 prime_Kronecker.j1
  try dsimp only
  with_reducible repeat' (first | exact Le.refl _ | apply c_prime_Kronecker.j2.le | apply c_prime_Kronecker.j3.le | apply Le.cond | (refine Le.bind ?_ (fun _ => ?_)) | (refine Le.iter (fun _ => ?_) _ _) | (refine Le.sum (fun _ => ?_) (fun _ => ?_) _))
def c_prime_Kronecker (n : Nat) (t0 : Int) (t1 : Int) : Option (Int × Int × Unit) :=
  ((c_prime_beyond n t0).bind fun y1 =>
  (cond (y1)
  ((some ((0 : Int), ((1 : Int), ()))))
  (((c_prime_beyond n t1).bind fun y2 =>
  (cond (y2)
  ((some ((0 : Int), ((1 : Int), ()))))
  ((c_prime_Kronecker.j1 n t0 t1)))))))
theorem c_prime_Kronecker.le (n : Nat) (t0 : Int) (t1 : Int) : Le (c_prime_Kronecker n t0 t1) (prime_Kronecker t0 t1) := by
  unfold c_prime_Kronecker prime_Kronecker
  try dsimp only
  with_reducible repeat' (first | exact Le.refl _ | apply c_prime_Kronecker.j1.le | apply c_prime_beyond.le | apply Le.cond | (refine Le.bind ?_ (fun _ => ?_)) | (refine Le.iter (fun _ => ?_) _ _) | (refine Le.sum (fun _ => ?_) (fun _ => ?_) _))
def c_localmass_Standard.j4 (n : Nat) (t2 : Int) (t8 : Int) (t9 : Int) (b6_1 : List Int) (b6_3 : List Int) : Option (((Bool × List Int × Unit) × (Bool × List Int × Unit) × Unit) × Int × Unit) :=
  ((c_localmass_half n t2 t8 t9).bind fun y5 =>
  (some (((y5.1.1, (y5.1.2.1, ())), ((y5.2.1.1, (y5.2.1.2.1, ())), ())), ((0 : Int), ()))))
theorem c_localmass_Standard.j4.le (n : Nat) (t2 : Int) (t8 : Int) (t9 : Int) (b6_1 : List Int) (b6_3 : List Int) : Le (c_localmass_Standard.j4 n t2 t8 t9 b6_1 b6_3) (localmass_Standard.j4 t2 t8 t9 b6_1 b6_3) := by
  unfold c_localmass_Standard.j4 localmass_Standard.j4
  try dsimp only
  with_reducible repeat' (first | exact Le.refl _ | apply c_localmass_half.le | apply Le.cond | (refine Le.bind ?_ (fun _ => ?_)) | (refine Le.iter (fun _ => ?_) _ _) | (refine Le.sum (fun _ => ?_) (fun _ => ?_) _))
def c_localmass_Standard.j3 (n : Nat) (t1 : Int) (t2 : Int) (t8 : Int) (b6_1 : List Int) (b6_3 : List Int) : Option (((Bool × List Int × Unit) × (Bool × List Int × Unit) × Unit) × Int × Unit) :=
  ((c_prime_Discriminant n t1).bind fun y3 =>
  ((c_prime_Kronecker n y3.1 t2).bind fun y4 =>
  (c_localmass_Standard.j4 n t2 t8 y4.1 b6_1 b6_3)))
theorem c_localmass_Standard.j3.le (n : Nat) (t1 : Int) (t2 : Int) (t8 : Int) (b6_1 : List Int) (b6_3 : List Int) : Le (c_localmass_Standard.j3 n t1 t2 t8 b6_1 b6_3) (localmass_Standard.j3 t1 t2 t8 b6_1 b6_3) := by
  unfold c_localmass_Standard.j3 localmass_Standard.j3
  try dsimp only
  with_reducible repeat' (first | exact Le.refl _ | apply c_localmass_Standard.j4.le | apply c_prime_Discriminant.le | apply c_prime_Kronecker.le | apply Le.cond | (refine Le.bind ?_ (fun _ => ?_)) | (refine Le.iter (fun _ => ?_) _ _) | (refine Le.sum (fun _ => ?_) (fun _ => ?_) _))
def c_localmass_Standard.j5 (n : Nat) (t2 : Int) (t8 : Int) (b6_1 : List Int) (b6_3 : List Int) : Option (((Bool × List Int × Unit) × (Bool × List Int × Unit) × Unit) × Int × Unit) :=
  ((c_localmass_half n t2 t8 (0 : Int)).bind fun y6 =>
  (some (((y6.1.1, (y6.1.2.1, ())), ((y6.2.1.1, (y6.2.1.2.1, ())), ())), ((0 : Int), ()))))
theorem c_localmass_Standard.j5.le (n : Nat) (t2 : Int) (t8 : Int) (b6_1 : List Int) (b6_3 : List Int) : Le (c_localmass_Standard.j5 n t2 t8 b6_1 b6_3) (localmass_Standard.j5 t2 t8 b6_1 b6_3) := by
  unfold c_localmass_Standard.j5 localmass_Standard.j5
  try dsimp only
  with_reducible repeat' (first | exact Le.refl _ | apply c_localmass_half.le | apply Le.cond | (refine Le.bind ?_ (fun _ => ?_)) | (refine Le.iter (fun _ => ?_) _ _) | (refine Le.sum (fun _ => ?_) (fun _ => ?_) _))
def c_localmass_Standard.j2 (n : Nat) (t0 : Int) (t1 : Int) (t2 : Int) (b6_1 : List Int) (b6_3 : List Int) : Option (((Bool × List Int × Unit) × (Bool × List Int × Unit) × Unit) × Int × Unit) :=
  let x2 := (IntKind.wrap .i64 (Int.tdiv (IntKind.wrap .i64 (t0 + (1 : Int))) (2 : Int)))
  (cond (((Int.tmod t0 (2 : Int)) == (0 : Int)))
  ((cond (((Int.tmod x2 (2 : Int)) == (1 : Int)))
  ((c_localmass_Standard.j3 n (IntKind.wrap .i64 (0 - t1)) t2 x2 b6_1 b6_3))
  ((c_localmass_Standard.j3 n t1 t2 x2 b6_1 b6_3))))
  ((c_localmass_Standard.j5 n t2 x2 b6_1 b6_3)))
theorem c_localmass_Standard.j2.le (n : Nat) (t0 : Int) (t1 : Int) (t2 : Int) (b6_1 : List Int) (b6_3 : List Int) : Le (c_localmass_Standard.j2 n t0 t1 t2 b6_1 b6_3) (localmass_Standard.j2 t0 t1 t2 b6_1 b6_3) := by
  unfold c_localmass_Standard.j2 localmass_Standard.j2
  try dsimp only
  with_reducible repeat' (first | exact Le.refl _ | apply c_localmass_Standard.j3.le | apply c_localmass_Standard.j5.le | apply Le.cond | (refine Le.bind ?_ (fun _ => ?_)) | (refine Le.iter (fun _ => ?_) _ _) | (refine Le.sum (fun _ => ?_) (fun _ => ?_) _))
def c_localmass_Standard.j1 (n : Nat) (t0 : Int) (t1 : Int) (t2 : Int) (b6_1 : List Int) (b6_3 : List Int) : Option (((Bool × List Int × Unit) × (Bool × List Int × Unit) × Unit) × Int × Unit) :=
  ((c_localmass_known n t2).bind fun y1 =>
  (cond ((!y1))
  ((some (((false, (([] : List Int), ())), ((false, (([] : List Int), ())), ())), ((20 : Int), ()))))
  ((c_localmass_Standard.j2 n t0 t1 t2 b6_1 b6_3))))
theorem c_localmass_Standard.j1.le (n : Nat) (t0 : Int) (t1 : Int) (t2 : Int) (b6_1 : List Int) (b6_3 : List Int) : Le (c_localmass_Standard.j1 n t0 t1 t2 b6_1 b6_3) (localmass_Standard.j1 t0 t1 t2 b6_1 b6_3) := by
  unfold c_localmass_Standard.j1 localmass_Standard.j1
  try dsimp only
  with_reducible repeat' (first | exact Le.refl _ | apply c_localmass_Standard.j2.le | apply c_localmass_known.le | apply Le.cond | (refine Le.bind ?_ (fun _ => ?_)) | (refine Le.iter (fun _ => ?_) _ _) | (refine Le.sum (fun _ => ?_) (fun _ => ?_) _))
def c_localmass_Standard (n : Nat) (t0 : Int) (t1 : Int) (t2 : Int) : Option (((Bool × List Int × Unit) × (Bool × List Int × Unit) × Unit) × Int × Unit) :=
  (cond ((decide (t0 < (2 : Int))))
  ((some (((false, (([] : List Int), ())), ((false, (([] : List Int), ())), ())), ((1 : Int), ()))))
  ((cond ((decide (t0 > (8 : Int))))
  ((some (((false, (([] : List Int), ())), ((false, (([] : List Int), ())), ())), ((1 : Int), ()))))
  ((cond ((decide (t1 < (1 : Int))))
  ((some (((false, (([] : List Int), ())), ((false, (([] : List Int), ())), ())), ((1 : Int), ()))))
  ((cond ((decide (t1 > (10000 : Int))))
  ((some (((false, (([] : List Int), ())), ((false, (([] : List Int), ())), ())), ((1 : Int), ()))))
  ((c_localmass_Standard.j1 n t0 t1 t2 ([] : List Int) ([] : List Int))))))))))
theorem c_localmass_Standard.le (n : Nat) (t0 : Int) (t1 : Int) (t2 : Int) : Le (c_localmass_Standard n t0 t1 t2) (localmass_Standard t0 t1 t2) := by
  unfold c_localmass_Standard localmass_Standard
  try dsimp only
  with_reducible repeat' (first | exact Le.refl _ | apply c_localmass_Standard.j1.le | apply Le.cond | (refine Le.bind ?_ (fun _ => ?_)) | (refine Le.iter (fun _ => ?_) _ _) | (refine Le.sum (fun _ => ?_) (fun _ => ?_) _))
def c_quadformlaw32_symbol (n : Nat) (t0 : Int) (t1 : Int) (t2 : Int) : Option (Int × (List (Int × Int × Int × Bool × Int × Unit)) × Unit) :=
  (some ((2 : Int), (([((0 : Int), (t0, (t1, (true, (t2, ())))))] : List (Int × Int × Int × Bool × Int × Unit)), ())))
theorem c_quadformlaw32_symbol.le (n : Nat) (t0 : Int) (t1 : Int) (t2 : Int) : Le (c_quadformlaw32_symbol n t0 t1 t2) (quadformlaw32_symbol t0 t1 t2) := by
  unfold c_quadformlaw32_symbol quadformlaw32_symbol
  try dsimp only
  with_reducible repeat' (first | exact Le.refl _ | apply Le.cond | (refine Le.bind ?_ (fun _ => ?_)) | (refine Le.iter (fun _ => ?_) _ _) | (refine Le.sum (fun _ => ?_) (fun _ => ?_) _))
def c_rational_IsWhole (n : Nat) (t0 : (Bool × List Int × Unit) × (Bool × List Int × Unit) × Unit) : Option (Bool) :=
  ((c_rational_of n ((t0.1.1, (t0.1.2.1, ())), ((t0.2.1.1, (t0.2.1.2.1, ())), ()))).bind fun y1 =>
  ((c_integer_DivMod n (y1.1.1, (y1.1.2.1, ())) (y1.2.1.1, (y1.2.1.2.1, ()))).bind fun y2 =>
  ((c_integer_Sign n (y2.2.1.1, (y2.2.1.2.1, ()))).bind fun y3 =>
  (some (y3 == (0 : Int))))))
theorem c_rational_IsWhole.le (n : Nat) (t0 : (Bool × List Int × Unit) × (Bool × List Int × Unit) × Unit) : Le (c_rational_IsWhole n t0) (rational_IsWhole t0) := by
  unfold c_rational_IsWhole rational_IsWhole
  try dsimp only
  with_reducible repeat' (first | exact Le.refl _ | apply c_integer_DivMod.le | apply c_integer_Sign.le | apply c_rational_of.le | apply Le.cond | (refine Le.bind ?_ (fun _ => ?_)) | (refine Le.iter (fun _ => ?_) _ _) | (refine Le.sum (fun _ => ?_) (fun _ => ?_) _))
def c_integer_Format.j3 (n : Nat) (t3 : List Int) (t6 : Int) (t7 : Int) (b1_0 : Bool) (b1_1 : List Int) (a44 : List (Int)) : Option ((List Int × Int × Int × List Int × (Bool × List Int × Unit) × Unit) ⊕ ((List Int × List Int × (Bool × List Int × Unit) × Unit))) :=
  let x9 := (IntKind.wrap .u32 ((48 : Int) + (Int.tmod t6 (10 : Int))))
  (cond (decide (List.length a44 + List.length ([(IntKind.wrap .u8 x9)] : List (Int)) ≤ maxL))
  ((some (.inl (t3, (IntKind.wrap .u32 (Int.tdiv t6 (10 : Int))), (IntKind.wrap .i64 (t7 + (1 : Int))), (a44 ++ ([(IntKind.wrap .u8 x9)] : List (Int))), (b1_0, (b1_1, ())), ()))))
  none)
theorem c_integer_Format.j3.le (n : Nat) (t3 : List Int) (t6 : Int) (t7 : Int) (b1_0 : Bool) (b1_1 : List Int) (a44 : List (Int)) : Le (c_integer_Format.j3 n t3 t6 t7 b1_0 b1_1 a44) (integer_Format.j3 t3 t6 t7 b1_0 b1_1 a44) := by
  unfold c_integer_Format.j3 integer_Format.j3
  try dsimp only
  with_reducible repeat' (first | exact Le.refl _ | apply Le.cond | (refine Le.bind ?_ (fun _ => ?_)) | (refine Le.iter (fun _ => ?_) _ _) | (refine Le.sum (fun _ => ?_) (fun _ => ?_) _))
def c_integer_Format.s0 (n : Nat) (t3 : List Int) (t6 : Int) (t7 : Int) (a44 : List (Int)) (b1 : Bool × List Int × Unit) : Option ((List Int × Int × Int × List Int × (Bool × List Int × Unit) × Unit) ⊕ ((List Int × List Int × (Bool × List Int × Unit) × Unit))) :=
  (cond ((decide (t7 < (9 : Int))))
  ((cond ((decide (((List.length t3 : Nat) : Int) > (0 : Int))))
  (let x6 := (IntKind.wrap .u32 ((48 : Int) + (Int.tmod t6 (10 : Int))))
  (cond (decide (List.length a44 + List.length ([(IntKind.wrap .u8 x6)] : List (Int)) ≤ maxL))
  ((some (.inl (t3, (IntKind.wrap .u32 (Int.tdiv t6 (10 : Int))), (IntKind.wrap .i64 (t7 + (1 : Int))), (a44 ++ ([(IntKind.wrap .u8 x6)] : List (Int))), (b1.1, (b1.2.1, ())), ()))))
  none))
  ((cond ((decide (t6 > (0 : Int))))
  ((c_integer_Format.j3 n t3 t6 t7 b1.1 b1.2.1 a44))
  ((some (.inr (t3, a44, (b1.1, (b1.2.1, ())), ()))))))))
  ((some (.inr (t3, a44, (b1.1, (b1.2.1, ())), ())))))
theorem c_integer_Format.s0.le (n : Nat) (t3 : List Int) (t6 : Int) (t7 : Int) (a44 : List (Int)) (b1 : Bool × List Int × Unit) : Le (c_integer_Format.s0 n t3 t6 t7 a44 b1) (integer_Format.s0 t3 t6 t7 a44 b1) := by
  unfold c_integer_Format.s0 integer_Format.s0
  try dsimp only
  with_reducible repeat' (first | exact Le.refl _ | apply c_integer_Format.j3.le | apply Le.cond | (refine Le.bind ?_ (fun _ => ?_)) | (refine Le.iter (fun _ => ?_) _ _) | (refine Le.sum (fun _ => ?_) (fun _ => ?_) _))
def c_integer_Format.k0 (n : Nat) (t3 : List Int) (a44 : List (Int)) (b1 : Bool × List Int × Unit) : Option ((List Int × List Int × (Bool × List Int × Unit) × Unit) ⊕ ((List Int × (Bool × List Int × Unit) × Unit))) :=
  (some (.inl (t3, a44, (b1.1, (b1.2.1, ())), ())))
theorem c_integer_Format.k0.le (n : Nat) (t3 : List Int) (a44 : List (Int)) (b1 : Bool × List Int × Unit) : Le (c_integer_Format.k0 n t3 a44 b1) (integer_Format.k0 t3 a44 b1) := by
  unfold c_integer_Format.k0 integer_Format.k0
  try dsimp only
  with_reducible repeat' (first | exact Le.refl _ | apply Le.cond | (refine Le.bind ?_ (fun _ => ?_)) | (refine Le.iter (fun _ => ?_) _ _) | (refine Le.sum (fun _ => ?_) (fun _ => ?_) _))
def c_integer_Format.j2 (n : Nat) (t3 : List Int) (b1_0 : Bool) (b1_1 : List Int) (a44 : List (Int)) : Option ((List Int × List Int × (Bool × List Int × Unit) × Unit) ⊕ ((List Int × (Bool × List Int × Unit) × Unit))) :=
  ((c_integer_shortDivide n t3 (1000000000 : Int)).bind fun y4 =>
  ((iterC n (fun x : List Int × Int × Int × List Int × (Bool × List Int × Unit) × Unit => c_integer_Format.s0 n x.1 x.2.1 x.2.2.1 x.2.2.2.1 x.2.2.2.2.1) (y4.1, y4.2.1, (0 : Int), a44, (b1_0, (b1_1, ())), ())).bind fun y => c_integer_Format.k0 n y.1 y.2.1 y.2.2.1))
theorem c_integer_Format.j2.le (n : Nat) (t3 : List Int) (b1_0 : Bool) (b1_1 : List Int) (a44 : List (Int)) : Le (c_integer_Format.j2 n t3 b1_0 b1_1 a44) (integer_Format.j2 t3 b1_0 b1_1 a44) := by
  unfold c_integer_Format.j2 integer_Format.j2
  try dsimp only
  with_reducible repeat' (first | exact Le.refl _ | apply c_integer_Format.k0.le | apply c_integer_Format.s0.le | apply c_integer_shortDivide.le | apply Le.cond | (refine Le.bind ?_ (fun _ => ?_)) | (refine Le.iter (fun _ => ?_) _ _) | (refine Le.sum (fun _ => ?_) (fun _ => ?_) _))
def c_integer_Format.s1 (n : Nat) (t3 : List Int) (a44 : List (Int)) (b1 : Bool × List Int × Unit) : Option ((List Int × List Int × (Bool × List Int × Unit) × Unit) ⊕ ((List Int × (Bool × List Int × Unit) × Unit))) :=
  (cond ((decide (((List.length t3 : Nat) : Int) > (0 : Int))))
  ((c_integer_Format.j2 n t3 b1.1 b1.2.1 a44))
  ((some (.inr (a44, (b1.1, (b1.2.1, ())), ())))))
theorem c_integer_Format.s1.le (n : Nat) (t3 : List Int) (a44 : List (Int)) (b1 : Bool × List Int × Unit) : Le (c_integer_Format.s1 n t3 a44 b1) (integer_Format.s1 t3 a44 b1) := by
  unfold c_integer_Format.s1 integer_Format.s1
  try dsimp only
  with_reducible repeat' (first | exact Le.refl _ | apply c_integer_Format.j2.le | apply Le.cond | (refine Le.bind ?_ (fun _ => ?_)) | (refine Le.iter (fun _ => ?_) _ _) | (refine Le.sum (fun _ => ?_) (fun _ => ?_) _))
def c_integer_Format.j5 (n : Nat) (t56 : Int) (t57 : Int) (a44 : List (Int)) (a54 : List (Int)) : Option ((Int × Int × List Int × List Int × Unit) ⊕ ((List Int × Unit))) :=
  let x12 := (IntKind.wrap .i64 (((List.length a44 : Nat) : Int) - (1 : Int)))
  (cond (inB (IntKind.wrap .i64 (x12 - t57)) (List.length a44))
  ((cond (inB t57 (List.length a54))
  ((some (.inl (t56, (IntKind.wrap .i64 (t57 + (1 : Int))), a44, (List.set a54 ((0 + t57.toNat)) (List.getD a44 ((0 + (((IntKind.wrap .i64 (x12 - t57))).toNat))) (0 : Int))), ()))))
  none))
  none)
theorem c_integer_Format.j5.le (n : Nat) (t56 : Int) (t57 : Int) (a44 : List (Int)) (a54 : List (Int)) : Le (c_integer_Format.j5 n t56 t57 a44 a54) (integer_Format.j5 t56 t57 a44 a54) := by
  unfold c_integer_Format.j5 integer_Format.j5
  try dsimp only
  with_reducible repeat' (first | exact Le.refl _ | apply Le.cond | (refine Le.bind ?_ (fun _ => ?_)) | (refine Le.iter (fun _ => ?_) _ _) | (refine Le.sum (fun _ => ?_) (fun _ => ?_) _))
def c_integer_Format.s2 (n : Nat) (t56 : Int) (t57 : Int) (a44 : List (Int)) (a54 : List (Int)) : Option ((Int × Int × List Int × List Int × Unit) ⊕ ((List Int × Unit))) :=
  (cond ((decide (t57 < t56)))
  ((c_integer_Format.j5 n t56 t57 a44 a54))
  ((some (.inr (a54, ())))))
theorem c_integer_Format.s2.le (n : Nat) (t56 : Int) (t57 : Int) (a44 : List (Int)) (a54 : List (Int)) : Le (c_integer_Format.s2 n t56 t57 a44 a54) (integer_Format.s2 t56 t57 a44 a54) := by
  unfold c_integer_Format.s2 integer_Format.s2
  try dsimp only
  with_reducible repeat' (first | exact Le.refl _ | apply c_integer_Format.j5.le | apply Le.cond | (refine Le.bind ?_ (fun _ => ?_)) | (refine Le.iter (fun _ => ?_) _ _) | (refine Le.sum (fun _ => ?_) (fun _ => ?_) _))
def c_integer_Format.k2 (n : Nat) (a54 : List (Int)) : Option (ByteArray) :=
  (some (bytesOf a54))
theorem c_integer_Format.k2.le (n : Nat) (a54 : List (Int)) : Le (c_integer_Format.k2 n a54) (integer_Format.k2 a54) := by
  unfold c_integer_Format.k2 integer_Format.k2
  try dsimp only
  with_reducible repeat' (first | exact Le.refl _ | apply Le.cond | (refine Le.bind ?_ (fun _ => ?_)) | (refine Le.iter (fun _ => ?_) _ _) | (refine Le.sum (fun _ => ?_) (fun _ => ?_) _))
def c_integer_Format.j4 (n : Nat) (a44 : List (Int)) : Option (ByteArray) :=
  (cond (inC ((List.length a44 : Nat) : Int) maxL)
  (((iterC n (fun x : Int × Int × List Int × List Int × Unit => c_integer_Format.s2 n x.1 x.2.1 x.2.2.1 x.2.2.2.1) (((List.length a44 : Nat) : Int), (0 : Int), a44, (List.replicate ((((List.length a44 : Nat) : Int)).toNat) ((0 : Int) : Int)), ())).bind fun y => c_integer_Format.k2 n y.1))
  none)
theorem c_integer_Format.j4.le (n : Nat) (a44 : List (Int)) : Le (c_integer_Format.j4 n a44) (integer_Format.j4 a44) := by
  unfold c_integer_Format.j4 integer_Format.j4
  try dsimp only
  with_reducible repeat' (first | exact Le.refl _ | apply c_integer_Format.k2.le | apply c_integer_Format.s2.le | apply Le.cond | (refine Le.bind ?_ (fun _ => ?_)) | (refine Le.iter (fun _ => ?_) _ _) | (refine Le.sum (fun _ => ?_) (fun _ => ?_) _))
def c_integer_Format.k1 (n : Nat) (a44 : List (Int)) (b1 : Bool × List Int × Unit) : Option (ByteArray) :=
  (cond (b1.1)
  ((cond (decide (List.length a44 + List.length ([(45 : Int)] : List (Int)) ≤ maxL))
  ((c_integer_Format.j4 n (a44 ++ ([(45 : Int)] : List (Int)))))
  none))
  ((c_integer_Format.j4 n a44)))
theorem c_integer_Format.k1.le (n : Nat) (a44 : List (Int)) (b1 : Bool × List Int × Unit) : Le (c_integer_Format.k1 n a44 b1) (integer_Format.k1 a44 b1) := by
  unfold c_integer_Format.k1 integer_Format.k1
  try dsimp only
  with_reducible repeat' (first | exact Le.refl _ | apply c_integer_Format.j4.le | apply Le.cond | (refine Le.bind ?_ (fun _ => ?_)) | (refine Le.iter (fun _ => ?_) _ _) | (refine Le.sum (fun _ => ?_) (fun _ => ?_) _))
def c_integer_Format.j1 (n : Nat) (t3 : List Int) (b1_0 : Bool) (b1_1 : List Int) : Option (ByteArray) :=
  ((iterC n (fun x : List Int × List Int × (Bool × List Int × Unit) × Unit => c_integer_Format.s1 n x.1 x.2.1 x.2.2.1) (t3, ([] : List (Int)), (b1_0, (b1_1, ())), ())).bind fun y => c_integer_Format.k1 n y.1 y.2.1)
theorem c_integer_Format.j1.le (n : Nat) (t3 : List Int) (b1_0 : Bool) (b1_1 : List Int) : Le (c_integer_Format.j1 n t3 b1_0 b1_1) (integer_Format.j1 t3 b1_0 b1_1) := by
  unfold c_integer_Format.j1 integer_Format.j1
  try dsimp only
  with_reducible repeat' (first | exact Le.refl _ | apply c_integer_Format.k1.le | apply c_integer_Format.s1.le | apply Le.cond | (refine Le.bind ?_ (fun _ => ?_)) | (refine Le.iter (fun _ => ?_) _ _) | (refine Le.sum (fun _ => ?_) (fun _ => ?_) _))
def c_integer_Format (n : Nat) (t0 : Bool × List Int × Unit) : Option (ByteArray) :=
  ((c_integer_Normalize n (t0.1, (t0.2.1, ()))).bind fun y1 =>
  (cond ((((List.length y1.2.1 : Nat) : Int) == (0 : Int)))
  ((some (⟨#[48]⟩ : ByteArray)))
  ((c_integer_Format.j1 n y1.2.1 t0.1 t0.2.1))))
theorem c_integer_Format.le (n : Nat) (t0 : Bool × List Int × Unit) : Le (c_integer_Format n t0) (integer_Format t0) := by
  unfold c_integer_Format integer_Format
  try dsimp only
  with_reducible repeat' (first | exact Le.refl _ | apply c_integer_Format.j1.le | apply c_integer_Normalize.le | apply Le.cond | (refine Le.bind ?_ (fun _ => ?_)) | (refine Le.iter (fun _ => ?_) _ _) | (refine Le.sum (fun _ => ?_) (fun _ => ?_) _))
def c_rational_Format.j1 (n : Nat) (b1_0 : Bool) (b1_1 : List Int) (b1_2 : Bool) (b1_3 : List Int) : Option (ByteArray) :=
  ((c_integer_Format n (b1_0, (b1_1, ()))).bind fun y4 =>
  (cond (decide (ByteArray.size y4 + ByteArray.size (⟨#[47]⟩ : ByteArray) ≤ maxL))
  (((c_integer_Format n (b1_2, (b1_3, ()))).bind fun y5 =>
  (cond (decide (ByteArray.size (y4 ++ (⟨#[47]⟩ : ByteArray)) + ByteArray.size y5 ≤ maxL))
  ((some ((y4 ++ (⟨#[47]⟩ : ByteArray)) ++ y5)))
  none)))
  none))
theorem c_rational_Format.j1.le (n : Nat) (b1_0 : Bool) (b1_1 : List Int) (b1_2 : Bool) (b1_3 : List Int) : Le (c_rational_Format.j1 n b1_0 b1_1 b1_2 b1_3) (rational_Format.j1 b1_0 b1_1 b1_2 b1_3) := by
  unfold c_rational_Format.j1 rational_Format.j1
  try dsimp only
  with_reducible repeat' (first | exact Le.refl _ | apply c_integer_Format.le | apply Le.cond | (refine Le.bind ?_ (fun _ => ?_)) | (refine Le.iter (fun _ => ?_) _ _) | (refine Le.sum (fun _ => ?_) (fun _ => ?_) _))
def c_rational_Format (n : Nat) (t0 : (Bool × List Int × Unit) × (Bool × List Int × Unit) × Unit) : Option (ByteArray) :=
  ((c_rational_Normalize n ((t0.1.1, (t0.1.2.1, ())), ((t0.2.1.1, (t0.2.1.2.1, ())), ()))).bind fun y1 =>
  ((c_rational_IsWhole n ((y1.1.1, (y1.1.2.1, ())), ((y1.2.1.1, (y1.2.1.2.1, ())), ()))).bind fun y2 =>
  (cond (y2)
  (((c_integer_Format n (y1.1.1, (y1.1.2.1, ()))).bind fun y3 =>
  (some y3)))
  ((c_rational_Format.j1 n y1.1.1 y1.1.2.1 y1.2.1.1 y1.2.1.2.1)))))
theorem c_rational_Format.le (n : Nat) (t0 : (Bool × List Int × Unit) × (Bool × List Int × Unit) × Unit) : Le (c_rational_Format n t0) (rational_Format t0) := by
  unfold c_rational_Format rational_Format
  try dsimp only
  with_reducible repeat' (first | exact Le.refl _ | apply c_integer_Format.le | apply c_rational_Format.j1.le | apply c_rational_IsWhole.le | apply c_rational_Normalize.le | apply Le.cond | (refine Le.bind ?_ (fun _ => ?_)) | (refine Le.iter (fun _ => ?_) _ _) | (refine Le.sum (fun _ => ?_) (fun _ => ?_) _))
def c_quadformlaw32_awake (n : Nat)  : Option (Bool) :=
  ((c_quadformlaw32_symbol n (2 : Int) (1 : Int) (2 : Int)).bind fun y1 =>
  ((c_localmass_Mass n y1).bind fun y2 =>
  ((c_quadformlaw32_symbol n (3 : Int) (1 : Int) (3 : Int)).bind fun y3 =>
  ((c_localmass_Mass n y3).bind fun y4 =>
  ((c_localmass_Standard n (3 : Int) (1 : Int) (2 : Int)).bind fun y5 =>
  (cond ((y2.2.1 == (0 : Int)))
  ((cond ((y4.2.1 == (0 : Int)))
  ((cond ((y5.2.1 == (0 : Int)))
  (((c_rational_Format n ((y2.1.1.1.1, (y2.1.1.1.2.1, ())), ((y2.1.1.2.1.1, (y2.1.1.2.1.2.1, ())), ()))).bind fun y6 =>
  (cond (((ByteArray.toList y6) == (ByteArray.toList (⟨#[49, 47, 56]⟩ : ByteArray))))
  (((c_rational_Format n ((y4.1.1.1.1, (y4.1.1.1.2.1, ())), ((y4.1.1.2.1.1, (y4.1.1.2.1.2.1, ())), ()))).bind fun y8 =>
  (cond (((ByteArray.toList y8) == (ByteArray.toList (⟨#[49, 47, 49, 50]⟩ : ByteArray))))
  (((c_rational_Format n ((y5.1.1.1, (y5.1.1.2.1, ())), ((y5.1.2.1.1, (y5.1.2.1.2.1, ())), ()))).bind fun y10 =>
  (cond (((ByteArray.toList y10) == (ByteArray.toList (⟨#[50, 47, 51]⟩ : ByteArray))))
  ((some (!y2.1.2.1)))
  ((some false)))))
  ((some false)))))
  ((some false)))))
  ((some false))))
  ((some false))))
  ((some false))))))))
theorem c_quadformlaw32_awake.le (n : Nat)  : Le (c_quadformlaw32_awake n) (quadformlaw32_awake) := by
  unfold c_quadformlaw32_awake quadformlaw32_awake
  try dsimp only
  with_reducible repeat' (first | exact Le.refl _ | apply c_localmass_Mass.le | apply c_localmass_Standard.le | apply c_quadformlaw32_symbol.le | apply c_rational_Format.le | apply Le.cond | (refine Le.bind ?_ (fun _ => ?_)) | (refine Le.iter (fun _ => ?_) _ _) | (refine Le.sum (fun _ => ?_) (fun _ => ?_) _))
end
end Go.Proofs.YtgbndganadelpaaGreatDoor.E
