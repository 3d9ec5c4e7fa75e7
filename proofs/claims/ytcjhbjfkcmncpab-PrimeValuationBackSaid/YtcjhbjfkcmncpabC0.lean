/- The same functions with fuel: for closed values (printed by gen.py). -/
import Derived.Test.YtcjhbjfkcmncpabE18
import Derived.Test.YtcjhbjfkcmncpabG0
namespace Go.Proofs.Ytcjhbjfkcmncpab.E
open Go
set_option linter.unusedVariables false
set_option maxRecDepth 100000
noncomputable def c_prime_Factor.j4 (n : Nat) (t0 : Int) (t5 : Int) (a26 : List (Int × Int × Unit)) : Option ((Int × Int × (List (Int × Int × Unit)) × Unit) ⊕ (((List (Int × Int × Unit)) × Unit) ⊕ (Int × Int × (List (Int × Int × Unit)) × Unit))) :=
  (some (.inl (t0, (IntKind.wrap .i64 (t5 + (1 : Int))), a26, ())))
theorem c_prime_Factor.j4.le (n : Nat) (t0 : Int) (t5 : Int) (a26 : List (Int × Int × Unit)) : Le (c_prime_Factor.j4 n t0 t5 a26) (prime_Factor.j4 t0 t5 a26) := by
  unfold c_prime_Factor.j4 prime_Factor.j4
  try dsimp only
  repeat' (first | with_reducible exact Le.refl _ | with_reducible apply Le.cond | (with_reducible refine Le.bind ?_ (fun _ => ?_)) | (with_reducible refine Le.iter (fun _ => ?_) _ _) | (with_reducible refine Le.sum (fun _ => ?_) (fun _ => ?_) _))
noncomputable def c_prime_Factor.j3 (n : Nat) (t0 : Int) (t5 : Int) (a26 : List (Int × Int × Unit)) : Option ((Int × Int × (List (Int × Int × Unit)) × Unit) ⊕ (((List (Int × Int × Unit)) × Unit) ⊕ (Int × Int × (List (Int × Int × Unit)) × Unit))) :=
  (cond (decide (t5 = 0))
  none
  ((cond (((Int.tmod t0 t5) == (0 : Int)))
  ((some (.inr (.inr (t0, t5, a26, ())))))
  ((c_prime_Factor.j4 n t0 t5 a26)))))
theorem c_prime_Factor.j3.le (n : Nat) (t0 : Int) (t5 : Int) (a26 : List (Int × Int × Unit)) : Le (c_prime_Factor.j3 n t0 t5 a26) (prime_Factor.j3 t0 t5 a26) := by
  unfold c_prime_Factor.j3 prime_Factor.j3
  try dsimp only
  repeat' (first | with_reducible exact Le.refl _ | with_reducible apply c_prime_Factor.j4.le | with_reducible apply Le.cond | (with_reducible refine Le.bind ?_ (fun _ => ?_)) | (with_reducible refine Le.iter (fun _ => ?_) _ _) | (with_reducible refine Le.sum (fun _ => ?_) (fun _ => ?_) _))
noncomputable def c_prime_Factor.s0 (n : Nat) (t0 : Int) (t5 : Int) (a26 : List (Int × Int × Unit)) : Option ((Int × Int × (List (Int × Int × Unit)) × Unit) ⊕ (((List (Int × Int × Unit)) × Unit) ⊕ (Int × Int × (List (Int × Int × Unit)) × Unit))) :=
  (cond ((decide ((IntKind.wrap .i64 (t5 * t5)) > t0)))
  ((cond (decide (List.length a26 + List.length ([(t0, ((1 : Int), ()))] : List (Int × Int × Unit)) ≤ maxL))
  ((some (.inr (.inl ((a26 ++ ([(t0, ((1 : Int), ()))] : List (Int × Int × Unit))), ())))))
  none))
  ((c_prime_Factor.j3 n t0 t5 a26)))
theorem c_prime_Factor.s0.le (n : Nat) (t0 : Int) (t5 : Int) (a26 : List (Int × Int × Unit)) : Le (c_prime_Factor.s0 n t0 t5 a26) (prime_Factor.s0 t0 t5 a26) := by
  unfold c_prime_Factor.s0 prime_Factor.s0
  try dsimp only
  repeat' (first | with_reducible exact Le.refl _ | with_reducible apply c_prime_Factor.j3.le | with_reducible apply Le.cond | (with_reducible refine Le.bind ?_ (fun _ => ?_)) | (with_reducible refine Le.iter (fun _ => ?_) _ _) | (with_reducible refine Le.sum (fun _ => ?_) (fun _ => ?_) _))
noncomputable def c_prime_Factor.k0_0 (n : Nat) (a26 : List (Int × Int × Unit)) : Option ((Int × Int × (List (Int × Int × Unit)) × Unit) ⊕ (((List (Int × Int × Unit)) × Unit))) :=
  (some (.inr (a26, ())))
theorem c_prime_Factor.k0_0.le (n : Nat) (a26 : List (Int × Int × Unit)) : Le (c_prime_Factor.k0_0 n a26) (prime_Factor.k0_0 a26) := by
  unfold c_prime_Factor.k0_0 prime_Factor.k0_0
  try dsimp only
  repeat' (first | with_reducible exact Le.refl _ | with_reducible apply Le.cond | (with_reducible refine Le.bind ?_ (fun _ => ?_)) | (with_reducible refine Le.iter (fun _ => ?_) _ _) | (with_reducible refine Le.sum (fun _ => ?_) (fun _ => ?_) _))
noncomputable def c_prime_Factor.j5 (n : Nat) (t0 : Int) (t5 : Int) (t6 : Int) (a26 : List (Int × Int × Unit)) : Option ((Int × Int × Int × (List (Int × Int × Unit)) × Unit) ⊕ ((Int × Int × Int × (List (Int × Int × Unit)) × Unit))) :=
  (cond (decide (t5 = 0))
  none
  ((some (.inl ((IntKind.wrap .i64 (Int.tdiv t0 t5)), t5, (IntKind.wrap .i64 (t6 + (1 : Int))), a26, ())))))
theorem c_prime_Factor.j5.le (n : Nat) (t0 : Int) (t5 : Int) (t6 : Int) (a26 : List (Int × Int × Unit)) : Le (c_prime_Factor.j5 n t0 t5 t6 a26) (prime_Factor.j5 t0 t5 t6 a26) := by
  unfold c_prime_Factor.j5 prime_Factor.j5
  try dsimp only
  repeat' (first | with_reducible exact Le.refl _ | with_reducible apply Le.cond | (with_reducible refine Le.bind ?_ (fun _ => ?_)) | (with_reducible refine Le.iter (fun _ => ?_) _ _) | (with_reducible refine Le.sum (fun _ => ?_) (fun _ => ?_) _))
noncomputable def c_prime_Factor.s1 (n : Nat) (t0 : Int) (t5 : Int) (t6 : Int) (a26 : List (Int × Int × Unit)) : Option ((Int × Int × Int × (List (Int × Int × Unit)) × Unit) ⊕ ((Int × Int × Int × (List (Int × Int × Unit)) × Unit))) :=
  (cond (decide (t5 = 0))
  none
  ((cond (((Int.tmod t0 t5) == (0 : Int)))
  ((c_prime_Factor.j5 n t0 t5 t6 a26))
  ((some (.inr (t0, t5, t6, a26, ())))))))
theorem c_prime_Factor.s1.le (n : Nat) (t0 : Int) (t5 : Int) (t6 : Int) (a26 : List (Int × Int × Unit)) : Le (c_prime_Factor.s1 n t0 t5 t6 a26) (prime_Factor.s1 t0 t5 t6 a26) := by
  unfold c_prime_Factor.s1 prime_Factor.s1
  try dsimp only
  repeat' (first | with_reducible exact Le.refl _ | with_reducible apply c_prime_Factor.j5.le | with_reducible apply Le.cond | (with_reducible refine Le.bind ?_ (fun _ => ?_)) | (with_reducible refine Le.iter (fun _ => ?_) _ _) | (with_reducible refine Le.sum (fun _ => ?_) (fun _ => ?_) _))
noncomputable def c_prime_Factor.k1 (n : Nat) (t0 : Int) (t5 : Int) (t6 : Int) (a26 : List (Int × Int × Unit)) : Option ((Int × Int × (List (Int × Int × Unit)) × Unit) ⊕ (((List (Int × Int × Unit)) × Unit))) :=
  (cond (decide (List.length a26 + List.length ([(t5, (t6, ()))] : List (Int × Int × Unit)) ≤ maxL))
  ((some (.inl (t0, t5, (a26 ++ ([(t5, (t6, ()))] : List (Int × Int × Unit))), ()))))
  none)
theorem c_prime_Factor.k1.le (n : Nat) (t0 : Int) (t5 : Int) (t6 : Int) (a26 : List (Int × Int × Unit)) : Le (c_prime_Factor.k1 n t0 t5 t6 a26) (prime_Factor.k1 t0 t5 t6 a26) := by
  unfold c_prime_Factor.k1 prime_Factor.k1
  try dsimp only
  repeat' (first | with_reducible exact Le.refl _ | with_reducible apply Le.cond | (with_reducible refine Le.bind ?_ (fun _ => ?_)) | (with_reducible refine Le.iter (fun _ => ?_) _ _) | (with_reducible refine Le.sum (fun _ => ?_) (fun _ => ?_) _))
noncomputable def c_prime_Factor.k0_1 (n : Nat) (t0 : Int) (t5 : Int) (a26 : List (Int × Int × Unit)) : Option ((Int × Int × (List (Int × Int × Unit)) × Unit) ⊕ (((List (Int × Int × Unit)) × Unit))) :=
  ((iterC n (fun x : Int × Int × Int × (List (Int × Int × Unit)) × Unit => c_prime_Factor.s1 n x.1 x.2.1 x.2.2.1 x.2.2.2.1) (t0, t5, (0 : Int), a26, ())).bind fun y => c_prime_Factor.k1 n y.1 y.2.1 y.2.2.1 y.2.2.2.1)
theorem c_prime_Factor.k0_1.le (n : Nat) (t0 : Int) (t5 : Int) (a26 : List (Int × Int × Unit)) : Le (c_prime_Factor.k0_1 n t0 t5 a26) (prime_Factor.k0_1 t0 t5 a26) := by
  unfold c_prime_Factor.k0_1 prime_Factor.k0_1
  try dsimp only
  repeat' (first | with_reducible exact Le.refl _ | with_reducible apply c_prime_Factor.k1.le | with_reducible apply c_prime_Factor.s1.le | with_reducible apply Le.cond | (with_reducible refine Le.bind ?_ (fun _ => ?_)) | (with_reducible refine Le.iter (fun _ => ?_) _ _) | (with_reducible refine Le.sum (fun _ => ?_) (fun _ => ?_) _))
noncomputable def c_prime_Factor.j2 (n : Nat) (t0 : Int) (t5 : Int) (a26 : List (Int × Int × Unit)) : Option ((Int × Int × (List (Int × Int × Unit)) × Unit) ⊕ (((List (Int × Int × Unit)) × Unit))) :=
  ((iterC n (fun x : Int × Int × (List (Int × Int × Unit)) × Unit => c_prime_Factor.s0 n x.1 x.2.1 x.2.2.1) (t0, t5, a26, ())).bind fun z => Sum.casesOn z (fun y => c_prime_Factor.k0_0 n y.1) (fun z => c_prime_Factor.k0_1 n z.1 z.2.1 z.2.2.1))
theorem c_prime_Factor.j2.le (n : Nat) (t0 : Int) (t5 : Int) (a26 : List (Int × Int × Unit)) : Le (c_prime_Factor.j2 n t0 t5 a26) (prime_Factor.j2 t0 t5 a26) := by
  unfold c_prime_Factor.j2 prime_Factor.j2
  try dsimp only
  repeat' (first | with_reducible exact Le.refl _ | with_reducible apply c_prime_Factor.k0_0.le | with_reducible apply c_prime_Factor.k0_1.le | with_reducible apply c_prime_Factor.s0.le | with_reducible apply Le.cond | (with_reducible refine Le.bind ?_ (fun _ => ?_)) | (with_reducible refine Le.iter (fun _ => ?_) _ _) | (with_reducible refine Le.sum (fun _ => ?_) (fun _ => ?_) _))
noncomputable def c_prime_Factor.s2 (n : Nat) (t0 : Int) (t5 : Int) (a26 : List (Int × Int × Unit)) : Option ((Int × Int × (List (Int × Int × Unit)) × Unit) ⊕ (((List (Int × Int × Unit)) × Unit))) :=
  (cond ((decide (t0 > (1 : Int))))
  ((c_prime_Factor.j2 n t0 t5 a26))
  ((some (.inr (a26, ())))))
theorem c_prime_Factor.s2.le (n : Nat) (t0 : Int) (t5 : Int) (a26 : List (Int × Int × Unit)) : Le (c_prime_Factor.s2 n t0 t5 a26) (prime_Factor.s2 t0 t5 a26) := by
  unfold c_prime_Factor.s2 prime_Factor.s2
  try dsimp only
  repeat' (first | with_reducible exact Le.refl _ | with_reducible apply c_prime_Factor.j2.le | with_reducible apply Le.cond | (with_reducible refine Le.bind ?_ (fun _ => ?_)) | (with_reducible refine Le.iter (fun _ => ?_) _ _) | (with_reducible refine Le.sum (fun _ => ?_) (fun _ => ?_) _))
noncomputable def c_prime_Factor.k2 (n : Nat) (a26 : List (Int × Int × Unit)) : Option ((List (Int × Int × Unit)) × Int × Unit) :=
  (some (a26, ((0 : Int), ())))
theorem c_prime_Factor.k2.le (n : Nat) (a26 : List (Int × Int × Unit)) : Le (c_prime_Factor.k2 n a26) (prime_Factor.k2 a26) := by
  unfold c_prime_Factor.k2 prime_Factor.k2
  try dsimp only
  repeat' (first | with_reducible exact Le.refl _ | with_reducible apply Le.cond | (with_reducible refine Le.bind ?_ (fun _ => ?_)) | (with_reducible refine Le.iter (fun _ => ?_) _ _) | (with_reducible refine Le.sum (fun _ => ?_) (fun _ => ?_) _))
noncomputable def c_prime_Factor.j1 (n : Nat) (t0 : Int) : Option ((List (Int × Int × Unit)) × Int × Unit) :=
  ((iterC n (fun x : Int × Int × (List (Int × Int × Unit)) × Unit => c_prime_Factor.s2 n x.1 x.2.1 x.2.2.1) (t0, (2 : Int), ([] : List (Int × Int × Unit)), ())).bind fun y => c_prime_Factor.k2 n y.1)
theorem c_prime_Factor.j1.le (n : Nat) (t0 : Int) : Le (c_prime_Factor.j1 n t0) (prime_Factor.j1 t0) := by
  unfold c_prime_Factor.j1 prime_Factor.j1
  try dsimp only
  repeat' (first | with_reducible exact Le.refl _ | with_reducible apply c_prime_Factor.k2.le | with_reducible apply c_prime_Factor.s2.le | with_reducible apply Le.cond | (with_reducible refine Le.bind ?_ (fun _ => ?_)) | (with_reducible refine Le.iter (fun _ => ?_) _ _) | (with_reducible refine Le.sum (fun _ => ?_) (fun _ => ?_) _))
noncomputable def c_prime_Factor (n : Nat) (t0 : Int) : Option ((List (Int × Int × Unit)) × Int × Unit) :=
  (cond ((decide (t0 < (1 : Int))))
  ((some (([] : List (Int × Int × Unit)), ((1 : Int), ()))))
  ((cond ((decide (t0 > (2147483647 : Int))))
  ((some (([] : List (Int × Int × Unit)), ((1 : Int), ()))))
  ((c_prime_Factor.j1 n t0)))))
theorem c_prime_Factor.le (n : Nat) (t0 : Int) : Le (c_prime_Factor n t0) (prime_Factor t0) := by
  unfold c_prime_Factor prime_Factor
  try dsimp only
  repeat' (first | with_reducible exact Le.refl _ | with_reducible apply c_prime_Factor.j1.le | with_reducible apply Le.cond | (with_reducible refine Le.bind ?_ (fun _ => ?_)) | (with_reducible refine Le.iter (fun _ => ?_) _ _) | (with_reducible refine Le.sum (fun _ => ?_) (fun _ => ?_) _))
noncomputable def c_prime_residue.j1 (n : Nat) (t5 : Int) : Option (Int) :=
  (some t5)
theorem c_prime_residue.j1.le (n : Nat) (t5 : Int) : Le (c_prime_residue.j1 n t5) (prime_residue.j1 t5) := by
  unfold c_prime_residue.j1 prime_residue.j1
  try dsimp only
  repeat' (first | with_reducible exact Le.refl _ | with_reducible apply Le.cond | (with_reducible refine Le.bind ?_ (fun _ => ?_)) | (with_reducible refine Le.iter (fun _ => ?_) _ _) | (with_reducible refine Le.sum (fun _ => ?_) (fun _ => ?_) _))
noncomputable def c_prime_residue (n : Nat) (t0 : Int) (t1 : Int) : Option (Int) :=
  (cond (decide (t1 = 0))
  none
  ((cond ((decide ((Int.tmod t0 t1) < (0 : Int))))
  ((c_prime_residue.j1 n (IntKind.wrap .i64 ((Int.tmod t0 t1) + t1))))
  ((c_prime_residue.j1 n (Int.tmod t0 t1))))))
theorem c_prime_residue.le (n : Nat) (t0 : Int) (t1 : Int) : Le (c_prime_residue n t0 t1) (prime_residue t0 t1) := by
  unfold c_prime_residue prime_residue
  try dsimp only
  repeat' (first | with_reducible exact Le.refl _ | with_reducible apply c_prime_residue.j1.le | with_reducible apply Le.cond | (with_reducible refine Le.bind ?_ (fun _ => ?_)) | (with_reducible refine Le.iter (fun _ => ?_) _ _) | (with_reducible refine Le.sum (fun _ => ?_) (fun _ => ?_) _))
noncomputable def c_prime_symbol.j4 (n : Nat)  : Option (Int) :=
  (some (0 : Int))
theorem c_prime_symbol.j4.le (n : Nat)  : Le (c_prime_symbol.j4 n) (prime_symbol.j4) := by
  unfold c_prime_symbol.j4 prime_symbol.j4
  try dsimp only
  repeat' (first | with_reducible exact Le.refl _ | with_reducible apply Le.cond | (with_reducible refine Le.bind ?_ (fun _ => ?_)) | (with_reducible refine Le.iter (fun _ => ?_) _ _) | (with_reducible refine Le.sum (fun _ => ?_) (fun _ => ?_) _))
noncomputable def c_prime_symbol.j3 (n : Nat)  : Option (Int) :=
  (c_prime_symbol.j4 n)
theorem c_prime_symbol.j3.le (n : Nat)  : Le (c_prime_symbol.j3 n) (prime_symbol.j3) := by
  unfold c_prime_symbol.j3 prime_symbol.j3
  try dsimp only
  repeat' (first | with_reducible exact Le.refl _ | with_reducible apply c_prime_symbol.j4.le | with_reducible apply Le.cond | (with_reducible refine Le.bind ?_ (fun _ => ?_)) | (with_reducible refine Le.iter (fun _ => ?_) _ _) | (with_reducible refine Le.sum (fun _ => ?_) (fun _ => ?_) _))
noncomputable def c_prime_symbol.j2 (n : Nat) (t14 : Bool) : Option (Int) :=
  (cond (t14)
  ((some (-1 : Int)))
  ((c_prime_symbol.j3 n)))
theorem c_prime_symbol.j2.le (n : Nat) (t14 : Bool) : Le (c_prime_symbol.j2 n t14) (prime_symbol.j2 t14) := by
  unfold c_prime_symbol.j2 prime_symbol.j2
  try dsimp only
  repeat' (first | with_reducible exact Le.refl _ | with_reducible apply c_prime_symbol.j3.le | with_reducible apply Le.cond | (with_reducible refine Le.bind ?_ (fun _ => ?_)) | (with_reducible refine Le.iter (fun _ => ?_) _ _) | (with_reducible refine Le.sum (fun _ => ?_) (fun _ => ?_) _))
noncomputable def c_prime_symbol.j1 (n : Nat) (t10 : Int) (t11 : Bool) : Option (Int) :=
  (cond (t11)
  ((some (1 : Int)))
  ((cond ((t10 == (3 : Int)))
  ((c_prime_symbol.j2 n (t10 == (3 : Int))))
  ((c_prime_symbol.j2 n (t10 == (5 : Int)))))))
theorem c_prime_symbol.j1.le (n : Nat) (t10 : Int) (t11 : Bool) : Le (c_prime_symbol.j1 n t10 t11) (prime_symbol.j1 t10 t11) := by
  unfold c_prime_symbol.j1 prime_symbol.j1
  try dsimp only
  repeat' (first | with_reducible exact Le.refl _ | with_reducible apply c_prime_symbol.j2.le | with_reducible apply Le.cond | (with_reducible refine Le.bind ?_ (fun _ => ?_)) | (with_reducible refine Le.iter (fun _ => ?_) _ _) | (with_reducible refine Le.sum (fun _ => ?_) (fun _ => ?_) _))
noncomputable def c_prime_symbol.j8 (n : Nat) (t0 : Int) (t1 : Int) (t5 : Int) (t6 : Int) : Option ((Int × Int × Int × Int × Unit) ⊕ ((Int × Unit))) :=
  (cond (decide (t1 = 0))
  none
  ((some (.inl ((Int.tmod (IntKind.wrap .i64 (t0 * t0)) t1), t1, t5, (IntKind.wrap .i64 (Int.tdiv t6 (2 : Int))), ())))))
theorem c_prime_symbol.j8.le (n : Nat) (t0 : Int) (t1 : Int) (t5 : Int) (t6 : Int) : Le (c_prime_symbol.j8 n t0 t1 t5 t6) (prime_symbol.j8 t0 t1 t5 t6) := by
  unfold c_prime_symbol.j8 prime_symbol.j8
  try dsimp only
  repeat' (first | with_reducible exact Le.refl _ | with_reducible apply Le.cond | (with_reducible refine Le.bind ?_ (fun _ => ?_)) | (with_reducible refine Le.iter (fun _ => ?_) _ _) | (with_reducible refine Le.sum (fun _ => ?_) (fun _ => ?_) _))
noncomputable def c_prime_symbol.j7 (n : Nat) (t0 : Int) (t1 : Int) (t5 : Int) (t6 : Int) : Option ((Int × Int × Int × Int × Unit) ⊕ ((Int × Unit))) :=
  (cond (((Int.tmod t6 (2 : Int)) == (1 : Int)))
  ((cond (decide (t1 = 0))
  none
  ((c_prime_symbol.j8 n t0 t1 (Int.tmod (IntKind.wrap .i64 (t5 * t0)) t1) t6))))
  ((c_prime_symbol.j8 n t0 t1 t5 t6)))
theorem c_prime_symbol.j7.le (n : Nat) (t0 : Int) (t1 : Int) (t5 : Int) (t6 : Int) : Le (c_prime_symbol.j7 n t0 t1 t5 t6) (prime_symbol.j7 t0 t1 t5 t6) := by
  unfold c_prime_symbol.j7 prime_symbol.j7
  try dsimp only
  repeat' (first | with_reducible exact Le.refl _ | with_reducible apply c_prime_symbol.j8.le | with_reducible apply Le.cond | (with_reducible refine Le.bind ?_ (fun _ => ?_)) | (with_reducible refine Le.iter (fun _ => ?_) _ _) | (with_reducible refine Le.sum (fun _ => ?_) (fun _ => ?_) _))
noncomputable def c_prime_symbol.s0 (n : Nat) (t0 : Int) (t1 : Int) (t5 : Int) (t6 : Int) : Option ((Int × Int × Int × Int × Unit) ⊕ ((Int × Unit))) :=
  (cond ((decide (t6 > (0 : Int))))
  ((c_prime_symbol.j7 n t0 t1 t5 t6))
  ((some (.inr (t5, ())))))
theorem c_prime_symbol.s0.le (n : Nat) (t0 : Int) (t1 : Int) (t5 : Int) (t6 : Int) : Le (c_prime_symbol.s0 n t0 t1 t5 t6) (prime_symbol.s0 t0 t1 t5 t6) := by
  unfold c_prime_symbol.s0 prime_symbol.s0
  try dsimp only
  repeat' (first | with_reducible exact Le.refl _ | with_reducible apply c_prime_symbol.j7.le | with_reducible apply Le.cond | (with_reducible refine Le.bind ?_ (fun _ => ?_)) | (with_reducible refine Le.iter (fun _ => ?_) _ _) | (with_reducible refine Le.sum (fun _ => ?_) (fun _ => ?_) _))
noncomputable def c_prime_symbol.j9 (n : Nat)  : Option (Int) :=
  (some (-1 : Int))
theorem c_prime_symbol.j9.le (n : Nat)  : Le (c_prime_symbol.j9 n) (prime_symbol.j9) := by
  unfold c_prime_symbol.j9 prime_symbol.j9
  try dsimp only
  repeat' (first | with_reducible exact Le.refl _ | with_reducible apply Le.cond | (with_reducible refine Le.bind ?_ (fun _ => ?_)) | (with_reducible refine Le.iter (fun _ => ?_) _ _) | (with_reducible refine Le.sum (fun _ => ?_) (fun _ => ?_) _))
noncomputable def c_prime_symbol.k0 (n : Nat) (t5 : Int) : Option (Int) :=
  (cond ((t5 == (1 : Int)))
  ((some (1 : Int)))
  ((c_prime_symbol.j9 n)))
theorem c_prime_symbol.k0.le (n : Nat) (t5 : Int) : Le (c_prime_symbol.k0 n t5) (prime_symbol.k0 t5) := by
  unfold c_prime_symbol.k0 prime_symbol.k0
  try dsimp only
  repeat' (first | with_reducible exact Le.refl _ | with_reducible apply c_prime_symbol.j9.le | with_reducible apply Le.cond | (with_reducible refine Le.bind ?_ (fun _ => ?_)) | (with_reducible refine Le.iter (fun _ => ?_) _ _) | (with_reducible refine Le.sum (fun _ => ?_) (fun _ => ?_) _))
noncomputable def c_prime_symbol.j6 (n : Nat) (t0 : Int) (t1 : Int) : Option (Int) :=
  ((iterC n (fun x : Int × Int × Int × Int × Unit => c_prime_symbol.s0 n x.1 x.2.1 x.2.2.1 x.2.2.2.1) (t0, t1, (1 : Int), (IntKind.wrap .i64 (Int.tdiv (IntKind.wrap .i64 (t1 - (1 : Int))) (2 : Int))), ())).bind fun y => c_prime_symbol.k0 n y.1)
theorem c_prime_symbol.j6.le (n : Nat) (t0 : Int) (t1 : Int) : Le (c_prime_symbol.j6 n t0 t1) (prime_symbol.j6 t0 t1) := by
  unfold c_prime_symbol.j6 prime_symbol.j6
  try dsimp only
  repeat' (first | with_reducible exact Le.refl _ | with_reducible apply c_prime_symbol.k0.le | with_reducible apply c_prime_symbol.s0.le | with_reducible apply Le.cond | (with_reducible refine Le.bind ?_ (fun _ => ?_)) | (with_reducible refine Le.iter (fun _ => ?_) _ _) | (with_reducible refine Le.sum (fun _ => ?_) (fun _ => ?_) _))
noncomputable def c_prime_symbol.j5 (n : Nat) (t0 : Int) (t1 : Int) : Option (Int) :=
  ((c_prime_residue n t0 t1).bind fun y2 =>
  (cond ((y2 == (0 : Int)))
  ((some (0 : Int)))
  ((c_prime_symbol.j6 n y2 t1))))
theorem c_prime_symbol.j5.le (n : Nat) (t0 : Int) (t1 : Int) : Le (c_prime_symbol.j5 n t0 t1) (prime_symbol.j5 t0 t1) := by
  unfold c_prime_symbol.j5 prime_symbol.j5
  try dsimp only
  repeat' (first | with_reducible exact Le.refl _ | with_reducible apply c_prime_residue.le | with_reducible apply c_prime_symbol.j6.le | with_reducible apply Le.cond | (with_reducible refine Le.bind ?_ (fun _ => ?_)) | (with_reducible refine Le.iter (fun _ => ?_) _ _) | (with_reducible refine Le.sum (fun _ => ?_) (fun _ => ?_) _))
noncomputable def c_prime_symbol (n : Nat) (t0 : Int) (t1 : Int) : Option (Int) :=
  (cond ((t1 == (2 : Int)))
  (((c_prime_residue n t0 (8 : Int)).bind fun y1 =>
  (cond ((y1 == (1 : Int)))
  ((c_prime_symbol.j1 n y1 (y1 == (1 : Int))))
  ((c_prime_symbol.j1 n y1 (y1 == (7 : Int)))))))
  ((c_prime_symbol.j5 n t0 t1)))
theorem c_prime_symbol.le (n : Nat) (t0 : Int) (t1 : Int) : Le (c_prime_symbol n t0 t1) (prime_symbol t0 t1) := by
  unfold c_prime_symbol prime_symbol
  try dsimp only
  repeat' (first | with_reducible exact Le.refl _ | with_reducible apply c_prime_residue.le | with_reducible apply c_prime_symbol.j1.le | with_reducible apply c_prime_symbol.j5.le | with_reducible apply Le.cond | (with_reducible refine Le.bind ?_ (fun _ => ?_)) | (with_reducible refine Le.iter (fun _ => ?_) _ _) | (with_reducible refine Le.sum (fun _ => ?_) (fun _ => ?_) _))
noncomputable def c_prime_beyond (n : Nat) (t0 : Int) : Option (Bool) :=
  (cond ((decide (t0 > (2147483647 : Int))))
  ((some true))
  ((some (decide (t0 < (-2147483647 : Int))))))
theorem c_prime_beyond.le (n : Nat) (t0 : Int) : Le (c_prime_beyond n t0) (prime_beyond t0) := by
  unfold c_prime_beyond prime_beyond
  try dsimp only
  repeat' (first | with_reducible exact Le.refl _ | with_reducible apply Le.cond | (with_reducible refine Le.bind ?_ (fun _ => ?_)) | (with_reducible refine Le.iter (fun _ => ?_) _ _) | (with_reducible refine Le.sum (fun _ => ?_) (fun _ => ?_) _))
noncomputable def c_prime_Kronecker.j2 (n : Nat)  : Option (Int × Int × Unit) :=
  (some ((0 : Int), ((0 : Int), ())))
theorem c_prime_Kronecker.j2.le (n : Nat)  : Le (c_prime_Kronecker.j2 n) (prime_Kronecker.j2) := by
  unfold c_prime_Kronecker.j2 prime_Kronecker.j2
  try dsimp only
  repeat' (first | with_reducible exact Le.refl _ | with_reducible apply Le.cond | (with_reducible refine Le.bind ?_ (fun _ => ?_)) | (with_reducible refine Le.iter (fun _ => ?_) _ _) | (with_reducible refine Le.sum (fun _ => ?_) (fun _ => ?_) _))
noncomputable def c_prime_Kronecker.j8 (n : Nat) (t0 : Int) (t6 : Int) (t37 : List (Int × Int × Unit)) (t38 : Int) (t39 : Int) : Option ((Int × Int × (List (Int × Int × Unit)) × Int × Int × Unit) ⊕ ((Int × Unit) ⊕ (Int × Int × Unit))) :=
  (some (.inl (t0, t6, t37, t38, (IntKind.wrap .i64 (t39 + (1 : Int))), ())))
theorem c_prime_Kronecker.j8.le (n : Nat) (t0 : Int) (t6 : Int) (t37 : List (Int × Int × Unit)) (t38 : Int) (t39 : Int) : Le (c_prime_Kronecker.j8 n t0 t6 t37 t38 t39) (prime_Kronecker.j8 t0 t6 t37 t38 t39) := by
  unfold c_prime_Kronecker.j8 prime_Kronecker.j8
  try dsimp only
  repeat' (first | with_reducible exact Le.refl _ | with_reducible apply Le.cond | (with_reducible refine Le.bind ?_ (fun _ => ?_)) | (with_reducible refine Le.iter (fun _ => ?_) _ _) | (with_reducible refine Le.sum (fun _ => ?_) (fun _ => ?_) _))
noncomputable def c_prime_Kronecker.j7 (n : Nat) (t0 : Int) (t6 : Int) (t11 : Int) (t37 : List (Int × Int × Unit)) (t38 : Int) (t39 : Int) (b10_0 : Int) (b10_1 : Int) : Option ((Int × Int × (List (Int × Int × Unit)) × Int × Int × Unit) ⊕ ((Int × Unit) ⊕ (Int × Int × Unit))) :=
  (cond (((Int.tmod b10_1 (2 : Int)) == (1 : Int)))
  ((c_prime_Kronecker.j8 n t0 (IntKind.wrap .i64 (t6 * t11)) t37 t38 t39))
  ((c_prime_Kronecker.j8 n t0 t6 t37 t38 t39)))
theorem c_prime_Kronecker.j7.le (n : Nat) (t0 : Int) (t6 : Int) (t11 : Int) (t37 : List (Int × Int × Unit)) (t38 : Int) (t39 : Int) (b10_0 : Int) (b10_1 : Int) : Le (c_prime_Kronecker.j7 n t0 t6 t11 t37 t38 t39 b10_0 b10_1) (prime_Kronecker.j7 t0 t6 t11 t37 t38 t39 b10_0 b10_1) := by
  unfold c_prime_Kronecker.j7 prime_Kronecker.j7
  try dsimp only
  repeat' (first | with_reducible exact Le.refl _ | with_reducible apply c_prime_Kronecker.j8.le | with_reducible apply Le.cond | (with_reducible refine Le.bind ?_ (fun _ => ?_)) | (with_reducible refine Le.iter (fun _ => ?_) _ _) | (with_reducible refine Le.sum (fun _ => ?_) (fun _ => ?_) _))
noncomputable def c_prime_Kronecker.j6 (n : Nat) (t0 : Int) (t6 : Int) (t37 : List (Int × Int × Unit)) (t38 : Int) (t39 : Int) : Option ((Int × Int × (List (Int × Int × Unit)) × Int × Int × Unit) ⊕ ((Int × Unit) ⊕ (Int × Int × Unit))) :=
  (cond (inB t39 (List.length t37))
  (((c_prime_symbol n t0 (List.getD t37 (t39.toNat) ((0 : Int), ((0 : Int), ()))).1).bind fun y5 =>
  (cond ((y5 == (0 : Int)))
  ((some (.inr (.inr ((0 : Int), (0 : Int), ())))))
  ((c_prime_Kronecker.j7 n t0 t6 y5 t37 t38 t39 (List.getD t37 (t39.toNat) ((0 : Int), ((0 : Int), ()))).1 (List.getD t37 (t39.toNat) ((0 : Int), ((0 : Int), ()))).2.1)))))
  none)
theorem c_prime_Kronecker.j6.le (n : Nat) (t0 : Int) (t6 : Int) (t37 : List (Int × Int × Unit)) (t38 : Int) (t39 : Int) : Le (c_prime_Kronecker.j6 n t0 t6 t37 t38 t39) (prime_Kronecker.j6 t0 t6 t37 t38 t39) := by
  unfold c_prime_Kronecker.j6 prime_Kronecker.j6
  try dsimp only
  repeat' (first | with_reducible exact Le.refl _ | with_reducible apply c_prime_Kronecker.j7.le | with_reducible apply c_prime_symbol.le | with_reducible apply Le.cond | (with_reducible refine Le.bind ?_ (fun _ => ?_)) | (with_reducible refine Le.iter (fun _ => ?_) _ _) | (with_reducible refine Le.sum (fun _ => ?_) (fun _ => ?_) _))
noncomputable def c_prime_Kronecker.s0 (n : Nat) (t0 : Int) (t6 : Int) (t37 : List (Int × Int × Unit)) (t38 : Int) (t39 : Int) : Option ((Int × Int × (List (Int × Int × Unit)) × Int × Int × Unit) ⊕ ((Int × Unit) ⊕ (Int × Int × Unit))) :=
  (cond ((decide (t39 < t38)))
  ((c_prime_Kronecker.j6 n t0 t6 t37 t38 t39))
  ((some (.inr (.inl (t6, ()))))))
theorem c_prime_Kronecker.s0.le (n : Nat) (t0 : Int) (t6 : Int) (t37 : List (Int × Int × Unit)) (t38 : Int) (t39 : Int) : Le (c_prime_Kronecker.s0 n t0 t6 t37 t38 t39) (prime_Kronecker.s0 t0 t6 t37 t38 t39) := by
  unfold c_prime_Kronecker.s0 prime_Kronecker.s0
  try dsimp only
  repeat' (first | with_reducible exact Le.refl _ | with_reducible apply c_prime_Kronecker.j6.le | with_reducible apply Le.cond | (with_reducible refine Le.bind ?_ (fun _ => ?_)) | (with_reducible refine Le.iter (fun _ => ?_) _ _) | (with_reducible refine Le.sum (fun _ => ?_) (fun _ => ?_) _))
noncomputable def c_prime_Kronecker.k0_0 (n : Nat) (t6 : Int) : Option (Int × Int × Unit) :=
  (some (t6, ((0 : Int), ())))
theorem c_prime_Kronecker.k0_0.le (n : Nat) (t6 : Int) : Le (c_prime_Kronecker.k0_0 n t6) (prime_Kronecker.k0_0 t6) := by
  unfold c_prime_Kronecker.k0_0 prime_Kronecker.k0_0
  try dsimp only
  repeat' (first | with_reducible exact Le.refl _ | with_reducible apply Le.cond | (with_reducible refine Le.bind ?_ (fun _ => ?_)) | (with_reducible refine Le.iter (fun _ => ?_) _ _) | (with_reducible refine Le.sum (fun _ => ?_) (fun _ => ?_) _))
noncomputable def c_prime_Kronecker.k0_1 (n : Nat) (t4 : Int) (t5 : Int) : Option (Int × Int × Unit) :=
  (some (t4, (t5, ())))
theorem c_prime_Kronecker.k0_1.le (n : Nat) (t4 : Int) (t5 : Int) : Le (c_prime_Kronecker.k0_1 n t4 t5) (prime_Kronecker.k0_1 t4 t5) := by
  unfold c_prime_Kronecker.k0_1 prime_Kronecker.k0_1
  try dsimp only
  repeat' (first | with_reducible exact Le.refl _ | with_reducible apply Le.cond | (with_reducible refine Le.bind ?_ (fun _ => ?_)) | (with_reducible refine Le.iter (fun _ => ?_) _ _) | (with_reducible refine Le.sum (fun _ => ?_) (fun _ => ?_) _))
noncomputable def c_prime_Kronecker.j5 (n : Nat) (t0 : Int) (t1 : Int) : Option (Int × Int × Unit) :=
  ((c_prime_Factor n t1).bind fun y3 =>
  ((iterC n (fun x : Int × Int × (List (Int × Int × Unit)) × Int × Int × Unit => c_prime_Kronecker.s0 n x.1 x.2.1 x.2.2.1 x.2.2.2.1 x.2.2.2.2.1) (t0, (-1 : Int), y3.1, ((List.length y3.1 : Nat) : Int), (0 : Int), ())).bind fun z => Sum.casesOn z (fun y => c_prime_Kronecker.k0_0 n y.1) (fun z => c_prime_Kronecker.k0_1 n z.1 z.2.1)))
theorem c_prime_Kronecker.j5.le (n : Nat) (t0 : Int) (t1 : Int) : Le (c_prime_Kronecker.j5 n t0 t1) (prime_Kronecker.j5 t0 t1) := by
  unfold c_prime_Kronecker.j5 prime_Kronecker.j5
  try dsimp only
  repeat' (first | with_reducible exact Le.refl _ | with_reducible apply c_prime_Factor.le | with_reducible apply c_prime_Kronecker.k0_0.le | with_reducible apply c_prime_Kronecker.k0_1.le | with_reducible apply c_prime_Kronecker.s0.le | with_reducible apply Le.cond | (with_reducible refine Le.bind ?_ (fun _ => ?_)) | (with_reducible refine Le.iter (fun _ => ?_) _ _) | (with_reducible refine Le.sum (fun _ => ?_) (fun _ => ?_) _))
noncomputable def c_prime_Kronecker.j4 (n : Nat) (t0 : Int) (t1 : Int) : Option (Int × Int × Unit) :=
  (c_prime_Kronecker.j5 n t0 t1)
theorem c_prime_Kronecker.j4.le (n : Nat) (t0 : Int) (t1 : Int) : Le (c_prime_Kronecker.j4 n t0 t1) (prime_Kronecker.j4 t0 t1) := by
  unfold c_prime_Kronecker.j4 prime_Kronecker.j4
  try dsimp only
  repeat' (first | with_reducible exact Le.refl _ | with_reducible apply c_prime_Kronecker.j5.le | with_reducible apply Le.cond | (with_reducible refine Le.bind ?_ (fun _ => ?_)) | (with_reducible refine Le.iter (fun _ => ?_) _ _) | (with_reducible refine Le.sum (fun _ => ?_) (fun _ => ?_) _))
noncomputable def c_prime_Kronecker.j10 (n : Nat) (t0 : Int) (t1 : Int) : Option (Int × Int × Unit) :=
  ((c_prime_Factor n t1).bind fun y7 =>
  ((iterC n (fun x : Int × Int × (List (Int × Int × Unit)) × Int × Int × Unit => c_prime_Kronecker.s0 n x.1 x.2.1 x.2.2.1 x.2.2.2.1 x.2.2.2.2.1) (t0, (1 : Int), y7.1, ((List.length y7.1 : Nat) : Int), (0 : Int), ())).bind fun z => Sum.casesOn z (fun y => c_prime_Kronecker.k0_0 n y.1) (fun z => c_prime_Kronecker.k0_1 n z.1 z.2.1)))
theorem c_prime_Kronecker.j10.le (n : Nat) (t0 : Int) (t1 : Int) : Le (c_prime_Kronecker.j10 n t0 t1) (prime_Kronecker.j10 t0 t1) := by
  unfold c_prime_Kronecker.j10 prime_Kronecker.j10
  try dsimp only
  repeat' (first | with_reducible exact Le.refl _ | with_reducible apply c_prime_Factor.le | with_reducible apply c_prime_Kronecker.k0_0.le | with_reducible apply c_prime_Kronecker.k0_1.le | with_reducible apply c_prime_Kronecker.s0.le | with_reducible apply Le.cond | (with_reducible refine Le.bind ?_ (fun _ => ?_)) | (with_reducible refine Le.iter (fun _ => ?_) _ _) | (with_reducible refine Le.sum (fun _ => ?_) (fun _ => ?_) _))
noncomputable def c_prime_Kronecker.j9 (n : Nat) (t0 : Int) (t1 : Int) : Option (Int × Int × Unit) :=
  (c_prime_Kronecker.j10 n t0 t1)
theorem c_prime_Kronecker.j9.le (n : Nat) (t0 : Int) (t1 : Int) : Le (c_prime_Kronecker.j9 n t0 t1) (prime_Kronecker.j9 t0 t1) := by
  unfold c_prime_Kronecker.j9 prime_Kronecker.j9
  try dsimp only
  repeat' (first | with_reducible exact Le.refl _ | with_reducible apply c_prime_Kronecker.j10.le | with_reducible apply Le.cond | (with_reducible refine Le.bind ?_ (fun _ => ?_)) | (with_reducible refine Le.iter (fun _ => ?_) _ _) | (with_reducible refine Le.sum (fun _ => ?_) (fun _ => ?_) _))
noncomputable def c_prime_Kronecker.j3 (n : Nat) (t0 : Int) (t1 : Int) : Option (Int × Int × Unit) :=
  (cond ((decide (t1 < (0 : Int))))
  ((cond ((decide (t0 < (0 : Int))))
  ((c_prime_Kronecker.j4 n t0 (IntKind.wrap .i64 (0 - t1))))
  ((c_prime_Kronecker.j9 n t0 (IntKind.wrap .i64 (0 - t1))))))
  ((c_prime_Kronecker.j10 n t0 t1)))
theorem c_prime_Kronecker.j3.le (n : Nat) (t0 : Int) (t1 : Int) : Le (c_prime_Kronecker.j3 n t0 t1) (prime_Kronecker.j3 t0 t1) := by
  unfold c_prime_Kronecker.j3 prime_Kronecker.j3
  try dsimp only
  repeat' (first | with_reducible exact Le.refl _ | with_reducible apply c_prime_Kronecker.j10.le | with_reducible apply c_prime_Kronecker.j4.le | with_reducible apply c_prime_Kronecker.j9.le | with_reducible apply Le.cond | (with_reducible refine Le.bind ?_ (fun _ => ?_)) | (with_reducible refine Le.iter (fun _ => ?_) _ _) | (with_reducible refine Le.sum (fun _ => ?_) (fun _ => ?_) _))
noncomputable def c_prime_Kronecker.j1 (n : Nat) (t0 : Int) (t1 : Int) : Option (Int × Int × Unit) :=
  (cond ((t1 == (0 : Int)))
  ((cond ((t0 == (1 : Int)))
  ((some ((1 : Int), ((0 : Int), ()))))
  ((cond ((t0 == (-1 : Int)))
  ((some ((1 : Int), ((0 : Int), ()))))
  ((c_prime_Kronecker.j2 n))))))
  ((c_prime_Kronecker.j3 n t0 t1)))
theorem c_prime_Kronecker.j1.le (n : Nat) (t0 : Int) (t1 : Int) : Le (c_prime_Kronecker.j1 n t0 t1) (prime_Kronecker.j1 t0 t1) := by
  unfold c_prime_Kronecker.j1 prime_Kronecker.j1
  try dsimp only
  repeat' (first | with_reducible exact Le.refl _ | with_reducible apply c_prime_Kronecker.j2.le | with_reducible apply c_prime_Kronecker.j3.le | with_reducible apply Le.cond | (with_reducible refine Le.bind ?_ (fun _ => ?_)) | (with_reducible refine Le.iter (fun _ => ?_) _ _) | (with_reducible refine Le.sum (fun _ => ?_) (fun _ => ?_) _))
noncomputable def c_prime_Kronecker (n : Nat) (t0 : Int) (t1 : Int) : Option (Int × Int × Unit) :=
  ((c_prime_beyond n t0).bind fun y1 =>
  (cond (y1)
  ((some ((0 : Int), ((1 : Int), ()))))
  (((c_prime_beyond n t1).bind fun y2 =>
  (cond (y2)
  ((some ((0 : Int), ((1 : Int), ()))))
  ((c_prime_Kronecker.j1 n t0 t1)))))))
theorem c_prime_Kronecker.le (n : Nat) (t0 : Int) (t1 : Int) : Le (c_prime_Kronecker n t0 t1) (prime_Kronecker t0 t1) := by
  unfold c_prime_Kronecker prime_Kronecker
  try dsimp only
  repeat' (first | with_reducible exact Le.refl _ | with_reducible apply c_prime_Kronecker.j1.le | with_reducible apply c_prime_beyond.le | with_reducible apply Le.cond | (with_reducible refine Le.bind ?_ (fun _ => ?_)) | (with_reducible refine Le.iter (fun _ => ?_) _ _) | (with_reducible refine Le.sum (fun _ => ?_) (fun _ => ?_) _))
noncomputable def c_prime_Squarefree.j5 (n : Nat) (t5 : Int) (t6 : Int) (t11 : Int) (t27 : List (Int × Int × Unit)) (t28 : Int) (t29 : Int) (b10_0 : Int) (b10_1 : Int) : Option ((Int × Int × Int × (List (Int × Int × Unit)) × Int × Int × (Int × Int × Unit) × Unit) ⊕ ((Int × Int × (List (Int × Int × Unit)) × Int × Int × Unit))) :=
  (some (.inl (t5, (IntKind.wrap .i64 (t6 * b10_0)), (IntKind.wrap .i64 (t11 + (1 : Int))), t27, t28, t29, (b10_0, (b10_1, ())), ())))
theorem c_prime_Squarefree.j5.le (n : Nat) (t5 : Int) (t6 : Int) (t11 : Int) (t27 : List (Int × Int × Unit)) (t28 : Int) (t29 : Int) (b10_0 : Int) (b10_1 : Int) : Le (c_prime_Squarefree.j5 n t5 t6 t11 t27 t28 t29 b10_0 b10_1) (prime_Squarefree.j5 t5 t6 t11 t27 t28 t29 b10_0 b10_1) := by
  unfold c_prime_Squarefree.j5 prime_Squarefree.j5
  try dsimp only
  repeat' (first | with_reducible exact Le.refl _ | with_reducible apply Le.cond | (with_reducible refine Le.bind ?_ (fun _ => ?_)) | (with_reducible refine Le.iter (fun _ => ?_) _ _) | (with_reducible refine Le.sum (fun _ => ?_) (fun _ => ?_) _))
noncomputable def c_prime_Squarefree.s0 (n : Nat) (t5 : Int) (t6 : Int) (t11 : Int) (t27 : List (Int × Int × Unit)) (t28 : Int) (t29 : Int) (b10 : Int × Int × Unit) : Option ((Int × Int × Int × (List (Int × Int × Unit)) × Int × Int × (Int × Int × Unit) × Unit) ⊕ ((Int × Int × (List (Int × Int × Unit)) × Int × Int × Unit))) :=
  (cond ((decide (t11 < (IntKind.wrap .i64 (Int.tdiv b10.2.1 (2 : Int))))))
  ((c_prime_Squarefree.j5 n t5 t6 t11 t27 t28 t29 b10.1 b10.2.1))
  ((some (.inr (t5, t6, t27, t28, t29, ())))))
theorem c_prime_Squarefree.s0.le (n : Nat) (t5 : Int) (t6 : Int) (t11 : Int) (t27 : List (Int × Int × Unit)) (t28 : Int) (t29 : Int) (b10 : Int × Int × Unit) : Le (c_prime_Squarefree.s0 n t5 t6 t11 t27 t28 t29 b10) (prime_Squarefree.s0 t5 t6 t11 t27 t28 t29 b10) := by
  unfold c_prime_Squarefree.s0 prime_Squarefree.s0
  try dsimp only
  repeat' (first | with_reducible exact Le.refl _ | with_reducible apply c_prime_Squarefree.j5.le | with_reducible apply Le.cond | (with_reducible refine Le.bind ?_ (fun _ => ?_)) | (with_reducible refine Le.iter (fun _ => ?_) _ _) | (with_reducible refine Le.sum (fun _ => ?_) (fun _ => ?_) _))
noncomputable def c_prime_Squarefree.k0 (n : Nat) (t5 : Int) (t6 : Int) (t27 : List (Int × Int × Unit)) (t28 : Int) (t29 : Int) : Option ((Int × Int × (List (Int × Int × Unit)) × Int × Int × Unit) ⊕ ((Int × Int × Unit))) :=
  (some (.inl (t5, t6, t27, t28, (IntKind.wrap .i64 (t29 + (1 : Int))), ())))
theorem c_prime_Squarefree.k0.le (n : Nat) (t5 : Int) (t6 : Int) (t27 : List (Int × Int × Unit)) (t28 : Int) (t29 : Int) : Le (c_prime_Squarefree.k0 n t5 t6 t27 t28 t29) (prime_Squarefree.k0 t5 t6 t27 t28 t29) := by
  unfold c_prime_Squarefree.k0 prime_Squarefree.k0
  try dsimp only
  repeat' (first | with_reducible exact Le.refl _ | with_reducible apply Le.cond | (with_reducible refine Le.bind ?_ (fun _ => ?_)) | (with_reducible refine Le.iter (fun _ => ?_) _ _) | (with_reducible refine Le.sum (fun _ => ?_) (fun _ => ?_) _))
noncomputable def c_prime_Squarefree.j4 (n : Nat) (t5 : Int) (t6 : Int) (t27 : List (Int × Int × Unit)) (t28 : Int) (t29 : Int) (b10_0 : Int) (b10_1 : Int) : Option ((Int × Int × (List (Int × Int × Unit)) × Int × Int × Unit) ⊕ ((Int × Int × Unit))) :=
  ((iterC n (fun x : Int × Int × Int × (List (Int × Int × Unit)) × Int × Int × (Int × Int × Unit) × Unit => c_prime_Squarefree.s0 n x.1 x.2.1 x.2.2.1 x.2.2.2.1 x.2.2.2.2.1 x.2.2.2.2.2.1 x.2.2.2.2.2.2.1) (t5, t6, (0 : Int), t27, t28, t29, (b10_0, (b10_1, ())), ())).bind fun y => c_prime_Squarefree.k0 n y.1 y.2.1 y.2.2.1 y.2.2.2.1 y.2.2.2.2.1)
theorem c_prime_Squarefree.j4.le (n : Nat) (t5 : Int) (t6 : Int) (t27 : List (Int × Int × Unit)) (t28 : Int) (t29 : Int) (b10_0 : Int) (b10_1 : Int) : Le (c_prime_Squarefree.j4 n t5 t6 t27 t28 t29 b10_0 b10_1) (prime_Squarefree.j4 t5 t6 t27 t28 t29 b10_0 b10_1) := by
  unfold c_prime_Squarefree.j4 prime_Squarefree.j4
  try dsimp only
  repeat' (first | with_reducible exact Le.refl _ | with_reducible apply c_prime_Squarefree.k0.le | with_reducible apply c_prime_Squarefree.s0.le | with_reducible apply Le.cond | (with_reducible refine Le.bind ?_ (fun _ => ?_)) | (with_reducible refine Le.iter (fun _ => ?_) _ _) | (with_reducible refine Le.sum (fun _ => ?_) (fun _ => ?_) _))
noncomputable def c_prime_Squarefree.j3 (n : Nat) (t5 : Int) (t6 : Int) (t27 : List (Int × Int × Unit)) (t28 : Int) (t29 : Int) : Option ((Int × Int × (List (Int × Int × Unit)) × Int × Int × Unit) ⊕ ((Int × Int × Unit))) :=
  (cond (inB t29 (List.length t27))
  ((cond (((Int.tmod (List.getD t27 (t29.toNat) ((0 : Int), ((0 : Int), ()))).2.1 (2 : Int)) == (1 : Int)))
  ((c_prime_Squarefree.j4 n (IntKind.wrap .i64 (t5 * (List.getD t27 (t29.toNat) ((0 : Int), ((0 : Int), ()))).1)) t6 t27 t28 t29 (List.getD t27 (t29.toNat) ((0 : Int), ((0 : Int), ()))).1 (List.getD t27 (t29.toNat) ((0 : Int), ((0 : Int), ()))).2.1))
  ((c_prime_Squarefree.j4 n t5 t6 t27 t28 t29 (List.getD t27 (t29.toNat) ((0 : Int), ((0 : Int), ()))).1 (List.getD t27 (t29.toNat) ((0 : Int), ((0 : Int), ()))).2.1))))
  none)
theorem c_prime_Squarefree.j3.le (n : Nat) (t5 : Int) (t6 : Int) (t27 : List (Int × Int × Unit)) (t28 : Int) (t29 : Int) : Le (c_prime_Squarefree.j3 n t5 t6 t27 t28 t29) (prime_Squarefree.j3 t5 t6 t27 t28 t29) := by
  unfold c_prime_Squarefree.j3 prime_Squarefree.j3
  try dsimp only
  repeat' (first | with_reducible exact Le.refl _ | with_reducible apply c_prime_Squarefree.j4.le | with_reducible apply Le.cond | (with_reducible refine Le.bind ?_ (fun _ => ?_)) | (with_reducible refine Le.iter (fun _ => ?_) _ _) | (with_reducible refine Le.sum (fun _ => ?_) (fun _ => ?_) _))
noncomputable def c_prime_Squarefree.s1 (n : Nat) (t5 : Int) (t6 : Int) (t27 : List (Int × Int × Unit)) (t28 : Int) (t29 : Int) : Option ((Int × Int × (List (Int × Int × Unit)) × Int × Int × Unit) ⊕ ((Int × Int × Unit))) :=
  (cond ((decide (t29 < t28)))
  ((c_prime_Squarefree.j3 n t5 t6 t27 t28 t29))
  ((some (.inr (t5, t6, ())))))
theorem c_prime_Squarefree.s1.le (n : Nat) (t5 : Int) (t6 : Int) (t27 : List (Int × Int × Unit)) (t28 : Int) (t29 : Int) : Le (c_prime_Squarefree.s1 n t5 t6 t27 t28 t29) (prime_Squarefree.s1 t5 t6 t27 t28 t29) := by
  unfold c_prime_Squarefree.s1 prime_Squarefree.s1
  try dsimp only
  repeat' (first | with_reducible exact Le.refl _ | with_reducible apply c_prime_Squarefree.j3.le | with_reducible apply Le.cond | (with_reducible refine Le.bind ?_ (fun _ => ?_)) | (with_reducible refine Le.iter (fun _ => ?_) _ _) | (with_reducible refine Le.sum (fun _ => ?_) (fun _ => ?_) _))
noncomputable def c_prime_Squarefree.k1 (n : Nat) (t5 : Int) (t6 : Int) : Option (Int × Int × Int × Unit) :=
  (some (t5, (t6, ((0 : Int), ()))))
theorem c_prime_Squarefree.k1.le (n : Nat) (t5 : Int) (t6 : Int) : Le (c_prime_Squarefree.k1 n t5 t6) (prime_Squarefree.k1 t5 t6) := by
  unfold c_prime_Squarefree.k1 prime_Squarefree.k1
  try dsimp only
  repeat' (first | with_reducible exact Le.refl _ | with_reducible apply Le.cond | (with_reducible refine Le.bind ?_ (fun _ => ?_)) | (with_reducible refine Le.iter (fun _ => ?_) _ _) | (with_reducible refine Le.sum (fun _ => ?_) (fun _ => ?_) _))
noncomputable def c_prime_Squarefree.j2 (n : Nat) (t0 : Int) : Option (Int × Int × Int × Unit) :=
  ((c_prime_Factor n t0).bind fun y2 =>
  ((iterC n (fun x : Int × Int × (List (Int × Int × Unit)) × Int × Int × Unit => c_prime_Squarefree.s1 n x.1 x.2.1 x.2.2.1 x.2.2.2.1 x.2.2.2.2.1) ((-1 : Int), (1 : Int), y2.1, ((List.length y2.1 : Nat) : Int), (0 : Int), ())).bind fun y => c_prime_Squarefree.k1 n y.1 y.2.1))
theorem c_prime_Squarefree.j2.le (n : Nat) (t0 : Int) : Le (c_prime_Squarefree.j2 n t0) (prime_Squarefree.j2 t0) := by
  unfold c_prime_Squarefree.j2 prime_Squarefree.j2
  try dsimp only
  repeat' (first | with_reducible exact Le.refl _ | with_reducible apply c_prime_Factor.le | with_reducible apply c_prime_Squarefree.k1.le | with_reducible apply c_prime_Squarefree.s1.le | with_reducible apply Le.cond | (with_reducible refine Le.bind ?_ (fun _ => ?_)) | (with_reducible refine Le.iter (fun _ => ?_) _ _) | (with_reducible refine Le.sum (fun _ => ?_) (fun _ => ?_) _))
noncomputable def c_prime_Squarefree.j6 (n : Nat) (t0 : Int) : Option (Int × Int × Int × Unit) :=
  ((c_prime_Factor n t0).bind fun y6 =>
  ((iterC n (fun x : Int × Int × (List (Int × Int × Unit)) × Int × Int × Unit => c_prime_Squarefree.s1 n x.1 x.2.1 x.2.2.1 x.2.2.2.1 x.2.2.2.2.1) ((1 : Int), (1 : Int), y6.1, ((List.length y6.1 : Nat) : Int), (0 : Int), ())).bind fun y => c_prime_Squarefree.k1 n y.1 y.2.1))
theorem c_prime_Squarefree.j6.le (n : Nat) (t0 : Int) : Le (c_prime_Squarefree.j6 n t0) (prime_Squarefree.j6 t0) := by
  unfold c_prime_Squarefree.j6 prime_Squarefree.j6
  try dsimp only
  repeat' (first | with_reducible exact Le.refl _ | with_reducible apply c_prime_Factor.le | with_reducible apply c_prime_Squarefree.k1.le | with_reducible apply c_prime_Squarefree.s1.le | with_reducible apply Le.cond | (with_reducible refine Le.bind ?_ (fun _ => ?_)) | (with_reducible refine Le.iter (fun _ => ?_) _ _) | (with_reducible refine Le.sum (fun _ => ?_) (fun _ => ?_) _))
noncomputable def c_prime_Squarefree.j1 (n : Nat) (t0 : Int) : Option (Int × Int × Int × Unit) :=
  (cond ((decide (t0 < (0 : Int))))
  ((c_prime_Squarefree.j2 n (IntKind.wrap .i64 (0 - t0))))
  ((c_prime_Squarefree.j6 n t0)))
theorem c_prime_Squarefree.j1.le (n : Nat) (t0 : Int) : Le (c_prime_Squarefree.j1 n t0) (prime_Squarefree.j1 t0) := by
  unfold c_prime_Squarefree.j1 prime_Squarefree.j1
  try dsimp only
  repeat' (first | with_reducible exact Le.refl _ | with_reducible apply c_prime_Squarefree.j2.le | with_reducible apply c_prime_Squarefree.j6.le | with_reducible apply Le.cond | (with_reducible refine Le.bind ?_ (fun _ => ?_)) | (with_reducible refine Le.iter (fun _ => ?_) _ _) | (with_reducible refine Le.sum (fun _ => ?_) (fun _ => ?_) _))
noncomputable def c_prime_Squarefree (n : Nat) (t0 : Int) : Option (Int × Int × Int × Unit) :=
  (cond ((t0 == (0 : Int)))
  ((some ((0 : Int), ((0 : Int), ((1 : Int), ())))))
  (((c_prime_beyond n t0).bind fun y1 =>
  (cond (y1)
  ((some ((0 : Int), ((0 : Int), ((1 : Int), ())))))
  ((c_prime_Squarefree.j1 n t0))))))
theorem c_prime_Squarefree.le (n : Nat) (t0 : Int) : Le (c_prime_Squarefree n t0) (prime_Squarefree t0) := by
  unfold c_prime_Squarefree prime_Squarefree
  try dsimp only
  repeat' (first | with_reducible exact Le.refl _ | with_reducible apply c_prime_Squarefree.j1.le | with_reducible apply c_prime_beyond.le | with_reducible apply Le.cond | (with_reducible refine Le.bind ?_ (fun _ => ?_)) | (with_reducible refine Le.iter (fun _ => ?_) _ _) | (with_reducible refine Le.sum (fun _ => ?_) (fun _ => ?_) _))
noncomputable def c_prime_Discriminant.j2 (n : Nat) (t4 : Int) : Option (Int × Int × Unit) :=
  (some ((IntKind.wrap .i64 ((4 : Int) * t4)), ((0 : Int), ())))
theorem c_prime_Discriminant.j2.le (n : Nat) (t4 : Int) : Le (c_prime_Discriminant.j2 n t4) (prime_Discriminant.j2 t4) := by
  unfold c_prime_Discriminant.j2 prime_Discriminant.j2
  try dsimp only
  repeat' (first | with_reducible exact Le.refl _ | with_reducible apply Le.cond | (with_reducible refine Le.bind ?_ (fun _ => ?_)) | (with_reducible refine Le.iter (fun _ => ?_) _ _) | (with_reducible refine Le.sum (fun _ => ?_) (fun _ => ?_) _))
noncomputable def c_prime_Discriminant.j1 (n : Nat) (t4 : Int) : Option (Int × Int × Unit) :=
  ((c_prime_residue n t4 (4 : Int)).bind fun y2 =>
  (cond ((y2 == (1 : Int)))
  ((some (t4, ((0 : Int), ()))))
  ((c_prime_Discriminant.j2 n t4))))
theorem c_prime_Discriminant.j1.le (n : Nat) (t4 : Int) : Le (c_prime_Discriminant.j1 n t4) (prime_Discriminant.j1 t4) := by
  unfold c_prime_Discriminant.j1 prime_Discriminant.j1
  try dsimp only
  repeat' (first | with_reducible exact Le.refl _ | with_reducible apply c_prime_Discriminant.j2.le | with_reducible apply c_prime_residue.le | with_reducible apply Le.cond | (with_reducible refine Le.bind ?_ (fun _ => ?_)) | (with_reducible refine Le.iter (fun _ => ?_) _ _) | (with_reducible refine Le.sum (fun _ => ?_) (fun _ => ?_) _))
noncomputable def c_prime_Discriminant (n : Nat) (t0 : Int) : Option (Int × Int × Unit) :=
  ((c_prime_Squarefree n t0).bind fun y1 =>
  (cond ((y1.2.2.1 != (0 : Int)))
  ((some ((0 : Int), (y1.2.2.1, ()))))
  ((c_prime_Discriminant.j1 n y1.1))))
theorem c_prime_Discriminant.le (n : Nat) (t0 : Int) : Le (c_prime_Discriminant n t0) (prime_Discriminant t0) := by
  unfold c_prime_Discriminant prime_Discriminant
  try dsimp only
  repeat' (first | with_reducible exact Le.refl _ | with_reducible apply c_prime_Discriminant.j1.le | with_reducible apply c_prime_Squarefree.le | with_reducible apply Le.cond | (with_reducible refine Le.bind ?_ (fun _ => ?_)) | (with_reducible refine Le.iter (fun _ => ?_) _ _) | (with_reducible refine Le.sum (fun _ => ?_) (fun _ => ?_) _))
noncomputable def c_prime_Is.j3 (n : Nat) (t0 : Int) (t3 : Int) : Option ((Int × Int × Unit) ⊕ ((Unit) ⊕ (Bool × Unit))) :=
  (some (.inl (t0, (IntKind.wrap .i64 (t3 + (1 : Int))), ())))
theorem c_prime_Is.j3.le (n : Nat) (t0 : Int) (t3 : Int) : Le (c_prime_Is.j3 n t0 t3) (prime_Is.j3 t0 t3) := by
  unfold c_prime_Is.j3 prime_Is.j3
  try dsimp only
  repeat' (first | with_reducible exact Le.refl _ | with_reducible apply Le.cond | (with_reducible refine Le.bind ?_ (fun _ => ?_)) | (with_reducible refine Le.iter (fun _ => ?_) _ _) | (with_reducible refine Le.sum (fun _ => ?_) (fun _ => ?_) _))
noncomputable def c_prime_Is.j2 (n : Nat) (t0 : Int) (t3 : Int) : Option ((Int × Int × Unit) ⊕ ((Unit) ⊕ (Bool × Unit))) :=
  (cond (decide (t3 = 0))
  none
  ((cond (((Int.tmod t0 t3) == (0 : Int)))
  ((some (.inr (.inr (false, ())))))
  ((c_prime_Is.j3 n t0 t3)))))
theorem c_prime_Is.j2.le (n : Nat) (t0 : Int) (t3 : Int) : Le (c_prime_Is.j2 n t0 t3) (prime_Is.j2 t0 t3) := by
  unfold c_prime_Is.j2 prime_Is.j2
  try dsimp only
  repeat' (first | with_reducible exact Le.refl _ | with_reducible apply c_prime_Is.j3.le | with_reducible apply Le.cond | (with_reducible refine Le.bind ?_ (fun _ => ?_)) | (with_reducible refine Le.iter (fun _ => ?_) _ _) | (with_reducible refine Le.sum (fun _ => ?_) (fun _ => ?_) _))
noncomputable def c_prime_Is.s0 (n : Nat) (t0 : Int) (t3 : Int) : Option ((Int × Int × Unit) ⊕ ((Unit) ⊕ (Bool × Unit))) :=
  (cond ((decide ((IntKind.wrap .i64 (t3 * t3)) ≤ t0)))
  ((c_prime_Is.j2 n t0 t3))
  ((some (.inr (.inl ())))))
theorem c_prime_Is.s0.le (n : Nat) (t0 : Int) (t3 : Int) : Le (c_prime_Is.s0 n t0 t3) (prime_Is.s0 t0 t3) := by
  unfold c_prime_Is.s0 prime_Is.s0
  try dsimp only
  repeat' (first | with_reducible exact Le.refl _ | with_reducible apply c_prime_Is.j2.le | with_reducible apply Le.cond | (with_reducible refine Le.bind ?_ (fun _ => ?_)) | (with_reducible refine Le.iter (fun _ => ?_) _ _) | (with_reducible refine Le.sum (fun _ => ?_) (fun _ => ?_) _))
noncomputable def c_prime_Is.k0_0 (n : Nat)  : Option (Bool) :=
  (some true)
theorem c_prime_Is.k0_0.le (n : Nat)  : Le (c_prime_Is.k0_0 n) (prime_Is.k0_0) := by
  unfold c_prime_Is.k0_0 prime_Is.k0_0
  try dsimp only
  repeat' (first | with_reducible exact Le.refl _ | with_reducible apply Le.cond | (with_reducible refine Le.bind ?_ (fun _ => ?_)) | (with_reducible refine Le.iter (fun _ => ?_) _ _) | (with_reducible refine Le.sum (fun _ => ?_) (fun _ => ?_) _))
noncomputable def c_prime_Is.k0_1 (n : Nat) (t2 : Bool) : Option (Bool) :=
  (some t2)
theorem c_prime_Is.k0_1.le (n : Nat) (t2 : Bool) : Le (c_prime_Is.k0_1 n t2) (prime_Is.k0_1 t2) := by
  unfold c_prime_Is.k0_1 prime_Is.k0_1
  try dsimp only
  repeat' (first | with_reducible exact Le.refl _ | with_reducible apply Le.cond | (with_reducible refine Le.bind ?_ (fun _ => ?_)) | (with_reducible refine Le.iter (fun _ => ?_) _ _) | (with_reducible refine Le.sum (fun _ => ?_) (fun _ => ?_) _))
noncomputable def c_prime_Is.j1 (n : Nat) (t0 : Int) : Option (Bool) :=
  ((iterC n (fun x : Int × Int × Unit => c_prime_Is.s0 n x.1 x.2.1) (t0, (2 : Int), ())).bind fun z => Sum.casesOn z (fun y => c_prime_Is.k0_0 n) (fun z => c_prime_Is.k0_1 n z.1))
theorem c_prime_Is.j1.le (n : Nat) (t0 : Int) : Le (c_prime_Is.j1 n t0) (prime_Is.j1 t0) := by
  unfold c_prime_Is.j1 prime_Is.j1
  try dsimp only
  repeat' (first | with_reducible exact Le.refl _ | with_reducible apply c_prime_Is.k0_0.le | with_reducible apply c_prime_Is.k0_1.le | with_reducible apply c_prime_Is.s0.le | with_reducible apply Le.cond | (with_reducible refine Le.bind ?_ (fun _ => ?_)) | (with_reducible refine Le.iter (fun _ => ?_) _ _) | (with_reducible refine Le.sum (fun _ => ?_) (fun _ => ?_) _))
noncomputable def c_prime_Is (n : Nat) (t0 : Int) : Option (Bool) :=
  (cond ((decide (t0 < (2 : Int))))
  ((some false))
  ((cond ((decide (t0 > (2147483647 : Int))))
  ((some false))
  ((c_prime_Is.j1 n t0)))))
theorem c_prime_Is.le (n : Nat) (t0 : Int) : Le (c_prime_Is n t0) (prime_Is t0) := by
  unfold c_prime_Is prime_Is
  try dsimp only
  repeat' (first | with_reducible exact Le.refl _ | with_reducible apply c_prime_Is.j1.le | with_reducible apply Le.cond | (with_reducible refine Le.bind ?_ (fun _ => ?_)) | (with_reducible refine Le.iter (fun _ => ?_) _ _) | (with_reducible refine Le.sum (fun _ => ?_) (fun _ => ?_) _))
noncomputable def c_quadformlaw22_awake (n : Nat)  : Option (Bool) :=
  ((c_prime_Factor n (360 : Int)).bind fun y1 =>
  ((c_prime_Kronecker n (5 : Int) (6 : Int)).bind fun y2 =>
  ((c_prime_Discriminant n (-12 : Int)).bind fun y3 =>
  (cond ((y1.2.1 == (0 : Int)))
  ((cond ((y2.2.1 == (0 : Int)))
  ((cond ((y3.2.1 == (0 : Int)))
  ((cond ((((List.length y1.1 : Nat) : Int) == (3 : Int)))
  ((cond (inB (0 : Int) (List.length y1.1))
  ((cond ((eqT (.pair (.int .i64) (.pair (.int .i64) (.unit))) ((List.getD y1.1 (0) ((0 : Int), ((0 : Int), ()))).1, ((List.getD y1.1 (0) ((0 : Int), ((0 : Int), ()))).2.1, ())) ((2 : Int), ((3 : Int), ()))))
  ((cond ((y2.1 == (1 : Int)))
  ((cond ((y3.1 == (-3 : Int)))
  (((c_prime_Is n (7 : Int)).bind fun y6 =>
  (cond (y6)
  (((c_prime_Is n (9 : Int)).bind fun y7 =>
  (some (!y7))))
  ((some false)))))
  ((some false))))
  ((some false))))
  ((some false))))
  none))
  ((some false))))
  ((some false))))
  ((some false))))
  ((some false))))))
theorem c_quadformlaw22_awake.le (n : Nat)  : Le (c_quadformlaw22_awake n) (quadformlaw22_awake) := by
  unfold c_quadformlaw22_awake quadformlaw22_awake
  try dsimp only
  repeat' (first | with_reducible exact Le.refl _ | with_reducible apply c_prime_Discriminant.le | with_reducible apply c_prime_Factor.le | with_reducible apply c_prime_Is.le | with_reducible apply c_prime_Kronecker.le | with_reducible apply Le.cond | (with_reducible refine Le.bind ?_ (fun _ => ?_)) | (with_reducible refine Le.iter (fun _ => ?_) _ _) | (with_reducible refine Le.sum (fun _ => ?_) (fun _ => ?_) _))
end Go.Proofs.Ytcjhbjfkcmncpab.E
