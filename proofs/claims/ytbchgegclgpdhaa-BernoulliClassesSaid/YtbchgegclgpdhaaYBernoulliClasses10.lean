/- Functions of the program as_ functions on values, without fuel, and that the evaluator computes them (printed by gen.py). -/
import Derived.Test.YtbchgegclgpdhaaYBernoulliClasses9
namespace Go.Proofs.Ytbchgegclgpdhaa.E
open Go
set_option linter.unusedVariables false
set_option maxRecDepth 100000
noncomputable def quadformref02_New.j2 (b2_0 : Bool) (b2_1 : List Int) (b3_0 : Bool) (b3_1 : List Int) (b4_1 : List Int) (b4_3 : List Int) : Option (((Bool × List Int × Unit) × (Bool × List Int × Unit) × Unit) × Bool × Unit) :=
  ((quadformref01_Gcd (b2_0, (b2_1, ())) (b3_0, (b3_1, ()))).bind fun y5 =>
  ((quadformref01_Quo (b2_0, (b2_1, ())) (y5.1, (y5.2.1, ()))).bind fun y6 =>
  ((quadformref01_Quo (b3_0, (b3_1, ())) (y5.1, (y5.2.1, ()))).bind fun y7 =>
  (some (((y6.1, (y6.2.1, ())), ((y7.1, (y7.2.1, ())), ())), (true, ()))))))
noncomputable def quadformref02_New.j1 (b2_0 : Bool) (b2_1 : List Int) (b3_0 : Bool) (b3_1 : List Int) (b4_1 : List Int) (b4_3 : List Int) : Option (((Bool × List Int × Unit) × (Bool × List Int × Unit) × Unit) × Bool × Unit) :=
  ((quadformref01_Sign (b3_0, (b3_1, ()))).bind fun y2 =>
  (cond ((decide (y2 < (0 : Int))))
  (((quadformref01_Neg (b2_0, (b2_1, ()))).bind fun y3 =>
  ((quadformref01_Neg (b3_0, (b3_1, ()))).bind fun y4 =>
  (quadformref02_New.j2 y3.1 y3.2.1 y4.1 y4.2.1 b4_1 b4_3))))
  ((quadformref02_New.j2 b2_0 b2_1 b3_0 b3_1 b4_1 b4_3))))
noncomputable def quadformref02_New (t0 : Bool × List Int × Unit) (t1 : Bool × List Int × Unit) : Option (((Bool × List Int × Unit) × (Bool × List Int × Unit) × Unit) × Bool × Unit) :=
  ((quadformref01_Sign (t1.1, (t1.2.1, ()))).bind fun y1 =>
  (cond ((y1 == (0 : Int)))
  ((some (((false, (([] : List Int), ())), ((false, (([] : List Int), ())), ())), (false, ()))))
  ((quadformref02_New.j1 t0.1 t0.2.1 t1.1 t1.2.1 ([] : List Int) ([] : List Int)))))
noncomputable def quadformref02_New.en : En := ⟨63, [.pair (.bool) (.pair (.sl (.int .u32)) (.unit)), .pair (.bool) (.pair (.sl (.int .u32)) (.unit))], .pair (.pair (.pair (.bool) (.pair (.sl (.int .u32)) (.unit))) (.pair (.pair (.bool) (.pair (.sl (.int .u32)) (.unit))) (.unit))) (.pair (.bool) (.unit)), true, fun x => quadformref02_New x.1 x.2.1⟩
noncomputable def quadformref02_New.o : List En := [quadformref01_Sign.en, quadformref01_Neg.en, quadformref01_Gcd.en, quadformref01_Quo.en]
noncomputable def quadformref02_New.oB : List EnB := []
def quadformref02_New.h : HT := .n
noncomputable def quadformref02_New.c : Code := Try.f63.body.getD .skip
noncomputable def quadformref02_New.L : Lam := fun _ i s K => none
theorem quadformref02_New.os : AllOk prog quadformref02_New.o := ⟨quadformref01_Sign.ok, quadformref01_Neg.ok, quadformref01_Gcd.ok, quadformref01_Quo.ok, trivial⟩
theorem quadformref02_New.osB : AllBOk prog quadformref02_New.oB := trivial
theorem quadformref02_New.hk (x) : semK env (orc quadformref02_New.o) (orcB quadformref02_New.oB) 28 (quadformref02_New.L _) quadformref02_New.c quadformref02_New.h (S.init (avs [.pair (.bool) (.pair (.sl (.int .u32)) (.unit)), .pair (.bool) (.pair (.sl (.int .u32)) (.unit))] x)) (fin env Try.f63 ⟨[.pair (.bool) (.pair (.sl (.int .u32)) (.unit)), .pair (.bool) (.pair (.sl (.int .u32)) (.unit))], .pair (.pair (.pair (.bool) (.pair (.sl (.int .u32)) (.unit))) (.pair (.pair (.bool) (.pair (.sl (.int .u32)) (.unit))) (.unit))) (.pair (.bool) (.unit)), true, false⟩) = quadformref02_New.en.g x := by kernel_rfl
theorem quadformref02_New.ok : EnOk prog quadformref02_New.en := by
  refine fun_ok (g := ⟨[.pair (.bool) (.pair (.sl (.int .u32)) (.unit)), .pair (.bool) (.pair (.sl (.int .u32)) (.unit))], .pair (.pair (.pair (.bool) (.pair (.sl (.int .u32)) (.unit))) (.pair (.pair (.bool) (.pair (.sl (.int .u32)) (.unit))) (.unit))) (.pair (.bool) (.unit)), true, false⟩) (h := quadformref02_New.h) (Λ := quadformref02_New.L) tabs quadformref02_New.os quadformref02_New.osB Try.func63 (c := quadformref02_New.c) (by kernel_rfl) (by decide +kernel) (by decide +kernel) (fun C hC => ?_) (fun x => quadformref02_New.hk x)
  exact by
    have e : loops quadformref02_New.c quadformref02_New.h = [] := by kernel_rfl
    rw [e]
    exact LamOk.nil
noncomputable def quadformref02_Normalize.j1 (b2_1 : List Int) (b2_3 : List Int) (b3_0 : Bool) (b3_1 : List Int) (b3_2 : Bool) (b3_3 : List Int) : Option ((Bool × List Int × Unit) × (Bool × List Int × Unit) × Unit) :=
  (some ((b3_0, (b3_1, ())), ((b3_2, (b3_3, ())), ())))
noncomputable def quadformref02_Normalize (t0 : (Bool × List Int × Unit) × (Bool × List Int × Unit) × Unit) : Option ((Bool × List Int × Unit) × (Bool × List Int × Unit) × Unit) :=
  ((quadformref02_New (t0.1.1, (t0.1.2.1, ())) (t0.2.1.1, (t0.2.1.2.1, ()))).bind fun y1 =>
  (cond ((!y1.2.1))
  (((quadformref02_Small (0 : Int)).bind fun y2 =>
  (some ((y2.1.1, (y2.1.2.1, ())), ((y2.2.1.1, (y2.2.1.2.1, ())), ())))))
  ((quadformref02_Normalize.j1 ([] : List Int) ([] : List Int) y1.1.1.1 y1.1.1.2.1 y1.1.2.1.1 y1.1.2.1.2.1))))
noncomputable def quadformref02_Normalize.en : En := ⟨64, [.pair (.pair (.bool) (.pair (.sl (.int .u32)) (.unit))) (.pair (.pair (.bool) (.pair (.sl (.int .u32)) (.unit))) (.unit))], .pair (.pair (.bool) (.pair (.sl (.int .u32)) (.unit))) (.pair (.pair (.bool) (.pair (.sl (.int .u32)) (.unit))) (.unit)), false, fun x => quadformref02_Normalize x.1⟩
noncomputable def quadformref02_Normalize.o : List En := [quadformref02_Small.en, quadformref02_New.en]
noncomputable def quadformref02_Normalize.oB : List EnB := []
def quadformref02_Normalize.h : HT := .n
noncomputable def quadformref02_Normalize.c : Code := Try.f64.body.getD .skip
noncomputable def quadformref02_Normalize.L : Lam := fun _ i s K => none
theorem quadformref02_Normalize.os : AllOk prog quadformref02_Normalize.o := ⟨quadformref02_Small.ok, quadformref02_New.ok, trivial⟩
theorem quadformref02_Normalize.osB : AllBOk prog quadformref02_Normalize.oB := trivial
theorem quadformref02_Normalize.hk (x) : semK env (orc quadformref02_Normalize.o) (orcB quadformref02_Normalize.oB) 17 (quadformref02_Normalize.L _) quadformref02_Normalize.c quadformref02_Normalize.h (S.init (avs [.pair (.pair (.bool) (.pair (.sl (.int .u32)) (.unit))) (.pair (.pair (.bool) (.pair (.sl (.int .u32)) (.unit))) (.unit))] x)) (fin env Try.f64 ⟨[.pair (.pair (.bool) (.pair (.sl (.int .u32)) (.unit))) (.pair (.pair (.bool) (.pair (.sl (.int .u32)) (.unit))) (.unit))], .pair (.pair (.bool) (.pair (.sl (.int .u32)) (.unit))) (.pair (.pair (.bool) (.pair (.sl (.int .u32)) (.unit))) (.unit)), false, false⟩) = quadformref02_Normalize.en.g x := by kernel_rfl
theorem quadformref02_Normalize.ok : EnOk prog quadformref02_Normalize.en := by
  refine fun_ok (g := ⟨[.pair (.pair (.bool) (.pair (.sl (.int .u32)) (.unit))) (.pair (.pair (.bool) (.pair (.sl (.int .u32)) (.unit))) (.unit))], .pair (.pair (.bool) (.pair (.sl (.int .u32)) (.unit))) (.pair (.pair (.bool) (.pair (.sl (.int .u32)) (.unit))) (.unit)), false, false⟩) (h := quadformref02_Normalize.h) (Λ := quadformref02_Normalize.L) tabs quadformref02_Normalize.os quadformref02_Normalize.osB Try.func64 (c := quadformref02_Normalize.c) (by kernel_rfl) (by decide +kernel) (by decide +kernel) (fun C hC => ?_) (fun x => quadformref02_Normalize.hk x)
  exact by
    have e : loops quadformref02_Normalize.c quadformref02_Normalize.h = [] := by kernel_rfl
    rw [e]
    exact LamOk.nil
noncomputable def quadformref01_Mul.j2 (t6 : Int) (t7 : Int) (t8 : Int) (t20 : List Int) (t21 : Int) (t22 : Int) (t28 : List Int) (t29 : Int) (t30 : Int) (b2_0 : Bool) (b2_1 : List Int) (b3_0 : Bool) (b3_1 : List Int) (b4_0 : Bool) (b4_1 : List Int) (a18 : List (Int)) : Option ((Int × Int × Int × List Int × Int × Int × List Int × Int × Int × List Int × (Bool × List Int × Unit) × (Bool × List Int × Unit) × (Bool × List Int × Unit) × Unit) ⊕ ((Int × Int × List Int × Int × Int × List Int × (Bool × List Int × Unit) × (Bool × List Int × Unit) × (Bool × List Int × Unit) × Unit))) :=
  (cond (inB t30 (List.length t28))
  ((cond (inB (IntKind.wrap .i64 (t6 + t30)) (List.length a18))
  (let x5 := (IntKind.wrap .u64 ((IntKind.wrap .u64 ((IntKind.wrap .u64 t7) * (IntKind.wrap .u64 (List.getD t28 (t30.toNat) (0 : Int))))) + (IntKind.wrap .u64 (List.getD a18 ((0 + (((IntKind.wrap .i64 (t6 + t30))).toNat))) (0 : Int)))))
  (cond (inB (IntKind.wrap .i64 (t6 + t30)) (List.length a18))
  ((some (.inl (t6, t7, (shrI .u64 (IntKind.wrap .u64 (t8 + x5)) (32 : Int)), t20, t21, t22, t28, t29, (IntKind.wrap .i64 (t30 + (1 : Int))), (List.set a18 ((0 + (((IntKind.wrap .i64 (t6 + t30))).toNat))) (IntKind.wrap .u32 (IntKind.wrap .u64 (t8 + x5)))), (b2_0, (b2_1, ())), (b3_0, (b3_1, ())), (b4_0, (b4_1, ())), ()))))
  none))
  none))
  none)
noncomputable def quadformref01_Mul.s0 (t6 : Int) (t7 : Int) (t8 : Int) (t20 : List Int) (t21 : Int) (t22 : Int) (t28 : List Int) (t29 : Int) (t30 : Int) (a18 : List (Int)) (b2 : Bool × List Int × Unit) (b3 : Bool × List Int × Unit) (b4 : Bool × List Int × Unit) : Option ((Int × Int × Int × List Int × Int × Int × List Int × Int × Int × List Int × (Bool × List Int × Unit) × (Bool × List Int × Unit) × (Bool × List Int × Unit) × Unit) ⊕ ((Int × Int × List Int × Int × Int × List Int × (Bool × List Int × Unit) × (Bool × List Int × Unit) × (Bool × List Int × Unit) × Unit))) :=
  (cond ((decide (t30 < t29)))
  ((quadformref01_Mul.j2 t6 t7 t8 t20 t21 t22 t28 t29 t30 b2.1 b2.2.1 b3.1 b3.2.1 b4.1 b4.2.1 a18))
  ((some (.inr (t6, t8, t20, t21, t22, a18, (b2.1, (b2.2.1, ())), (b3.1, (b3.2.1, ())), (b4.1, (b4.2.1, ())), ())))))
noncomputable def quadformref01_Mul.k0 (t6 : Int) (t8 : Int) (t20 : List Int) (t21 : Int) (t22 : Int) (a18 : List (Int)) (b2 : Bool × List Int × Unit) (b3 : Bool × List Int × Unit) (b4 : Bool × List Int × Unit) : Option ((List Int × Int × Int × List Int × (Bool × List Int × Unit) × (Bool × List Int × Unit) × (Bool × List Int × Unit) × Unit) ⊕ ((List Int × (Bool × List Int × Unit) × (Bool × List Int × Unit) × (Bool × List Int × Unit) × Unit))) :=
  let x9 := (IntKind.wrap .i64 (t6 + ((List.length b3.2.1 : Nat) : Int)))
  (cond (inB x9 (List.length a18))
  ((some (.inl (t20, t21, (IntKind.wrap .i64 (t22 + (1 : Int))), (List.set a18 ((0 + x9.toNat)) (IntKind.wrap .u32 t8)), (b2.1, (b2.2.1, ())), (b3.1, (b3.2.1, ())), (b4.1, (b4.2.1, ())), ()))))
  none)
noncomputable def quadformref01_Mul.j1 (t20 : List Int) (t21 : Int) (t22 : Int) (b2_0 : Bool) (b2_1 : List Int) (b3_0 : Bool) (b3_1 : List Int) (b4_0 : Bool) (b4_1 : List Int) (a18 : List (Int)) : Option ((List Int × Int × Int × List Int × (Bool × List Int × Unit) × (Bool × List Int × Unit) × (Bool × List Int × Unit) × Unit) ⊕ ((List Int × (Bool × List Int × Unit) × (Bool × List Int × Unit) × (Bool × List Int × Unit) × Unit))) :=
  (cond (inB t22 (List.length t20))
  (((iterL (fun x : Int × Int × Int × List Int × Int × Int × List Int × Int × Int × List Int × (Bool × List Int × Unit) × (Bool × List Int × Unit) × (Bool × List Int × Unit) × Unit => quadformref01_Mul.s0 x.1 x.2.1 x.2.2.1 x.2.2.2.1 x.2.2.2.2.1 x.2.2.2.2.2.1 x.2.2.2.2.2.2.1 x.2.2.2.2.2.2.2.1 x.2.2.2.2.2.2.2.2.1 x.2.2.2.2.2.2.2.2.2.1 x.2.2.2.2.2.2.2.2.2.2.1 x.2.2.2.2.2.2.2.2.2.2.2.1 x.2.2.2.2.2.2.2.2.2.2.2.2.1) (t22, (List.getD t20 (t22.toNat) (0 : Int)), (0 : Int), t20, t21, t22, b3_1, ((List.length b3_1 : Nat) : Int), (0 : Int), a18, (b2_0, (b2_1, ())), (b3_0, (b3_1, ())), (b4_0, (b4_1, ())), ())).bind fun y => quadformref01_Mul.k0 y.1 y.2.1 y.2.2.1 y.2.2.2.1 y.2.2.2.2.1 y.2.2.2.2.2.1 y.2.2.2.2.2.2.1 y.2.2.2.2.2.2.2.1 y.2.2.2.2.2.2.2.2.1))
  none)
noncomputable def quadformref01_Mul.s1 (t20 : List Int) (t21 : Int) (t22 : Int) (a18 : List (Int)) (b2 : Bool × List Int × Unit) (b3 : Bool × List Int × Unit) (b4 : Bool × List Int × Unit) : Option ((List Int × Int × Int × List Int × (Bool × List Int × Unit) × (Bool × List Int × Unit) × (Bool × List Int × Unit) × Unit) ⊕ ((List Int × (Bool × List Int × Unit) × (Bool × List Int × Unit) × (Bool × List Int × Unit) × Unit))) :=
  (cond ((decide (t22 < t21)))
  ((quadformref01_Mul.j1 t20 t21 t22 b2.1 b2.2.1 b3.1 b3.2.1 b4.1 b4.2.1 a18))
  ((some (.inr (a18, (b2.1, (b2.2.1, ())), (b3.1, (b3.2.1, ())), (b4.1, (b4.2.1, ())), ())))))
noncomputable def quadformref01_Mul.k1 (a18 : List (Int)) (b2 : Bool × List Int × Unit) (b3 : Bool × List Int × Unit) (b4 : Bool × List Int × Unit) : Option (Bool × List Int × Unit) :=
  ((quadformref01_Make (!(b2.1 == b3.1)) a18).bind fun y11 =>
  (some (y11.1, (y11.2.1, ()))))
noncomputable def quadformref01_Mul (t0 : Bool × List Int × Unit) (t1 : Bool × List Int × Unit) : Option (Bool × List Int × Unit) :=
  let x1 := (IntKind.wrap .i64 (((List.length t0.2.1 : Nat) : Int) + ((List.length t1.2.1 : Nat) : Int)))
  (cond (inC x1 maxL)
  (((iterL (fun x : List Int × Int × Int × List Int × (Bool × List Int × Unit) × (Bool × List Int × Unit) × (Bool × List Int × Unit) × Unit => quadformref01_Mul.s1 x.1 x.2.1 x.2.2.1 x.2.2.2.1 x.2.2.2.2.1 x.2.2.2.2.2.1 x.2.2.2.2.2.2.1) (t0.2.1, ((List.length t0.2.1 : Nat) : Int), (0 : Int), (List.replicate (x1.toNat) ((0 : Int) : Int)), (t0.1, (t0.2.1, ())), (t1.1, (t1.2.1, ())), (false, (([] : List Int), ())), ())).bind fun y => quadformref01_Mul.k1 y.1 y.2.1 y.2.2.1 y.2.2.2.1))
  none)
noncomputable def quadformref01_Mul.en : En := ⟨66, [.pair (.bool) (.pair (.sl (.int .u32)) (.unit)), .pair (.bool) (.pair (.sl (.int .u32)) (.unit))], .pair (.bool) (.pair (.sl (.int .u32)) (.unit)), false, fun x => quadformref01_Mul x.1 x.2.1⟩
noncomputable def quadformref01_Mul.o : List En := [quadformref01_Make.en]
noncomputable def quadformref01_Mul.oB : List EnB := []
def quadformref01_Mul.h : HT := .two (.n) (.two (.n) (.two (.two (.n) (.lp 1)) (.two (.fr [18] []) (.n))))
noncomputable def quadformref01_Mul.c : Code := Try.f66.body.getD .skip
def quadformref01_Mul.h1 : HT := .two (.n) (.two (.n) (.two (.two (.n) (.two (.n) (.two (.two (.n) (.lp 0)) (.n)))) (.n)))
noncomputable def quadformref01_Mul.c1 : Code := (find (loops quadformref01_Mul.c quadformref01_Mul.h) 1).getD .skip
def quadformref01_Mul.d1 : Fm := [.v 20 (.sl (.int .u32)), .v 21 (.int .i64), .v 22 (.int .i64), .arr 18 89 (.int .u32), .box 2 (.pair (.bool) (.pair (.sl (.int .u32)) (.unit))), .box 3 (.pair (.bool) (.pair (.sl (.int .u32)) (.unit))), .box 4 (.pair (.bool) (.pair (.sl (.int .u32)) (.unit))), .own 5 18, .ptr 2 2, .ptr 3 3, .ptr 4 4]
def quadformref01_Mul.x1 : Xs := [(.exit 0, [.arr 18 89 (.int .u32), .box 2 (.pair (.bool) (.pair (.sl (.int .u32)) (.unit))), .box 3 (.pair (.bool) (.pair (.sl (.int .u32)) (.unit))), .box 4 (.pair (.bool) (.pair (.sl (.int .u32)) (.unit))), .own 5 18, .ptr 2 2, .ptr 3 3, .ptr 4 4])]
noncomputable def quadformref01_Mul.r1 (x : (Fm.ty quadformref01_Mul.d1).den) : Option ((Fm.ty quadformref01_Mul.d1).den ⊕ (Xs.T quadformref01_Mul.x1)) := quadformref01_Mul.s1 x.1 x.2.1 x.2.2.1 x.2.2.2.1 x.2.2.2.2.1 x.2.2.2.2.2.1 x.2.2.2.2.2.2.1
def quadformref01_Mul.h0 : HT := .n
noncomputable def quadformref01_Mul.c0 : Code := (find (loops quadformref01_Mul.c1 quadformref01_Mul.h1) 0).getD .skip
def quadformref01_Mul.d0 : Fm := [.v 6 (.int .i64), .v 7 (.int .u32), .v 8 (.int .u64), .v 20 (.sl (.int .u32)), .v 21 (.int .i64), .v 22 (.int .i64), .v 28 (.sl (.int .u32)), .v 29 (.int .i64), .v 30 (.int .i64), .arr 18 89 (.int .u32), .box 2 (.pair (.bool) (.pair (.sl (.int .u32)) (.unit))), .box 3 (.pair (.bool) (.pair (.sl (.int .u32)) (.unit))), .box 4 (.pair (.bool) (.pair (.sl (.int .u32)) (.unit))), .own 5 18, .ptr 2 2, .ptr 3 3, .ptr 4 4]
def quadformref01_Mul.x0 : Xs := [(.exit 2, [.v 6 (.int .i64), .v 8 (.int .u64), .v 20 (.sl (.int .u32)), .v 21 (.int .i64), .v 22 (.int .i64), .arr 18 89 (.int .u32), .box 2 (.pair (.bool) (.pair (.sl (.int .u32)) (.unit))), .box 3 (.pair (.bool) (.pair (.sl (.int .u32)) (.unit))), .box 4 (.pair (.bool) (.pair (.sl (.int .u32)) (.unit))), .own 5 18, .ptr 2 2, .ptr 3 3, .ptr 4 4])]
noncomputable def quadformref01_Mul.r0 (x : (Fm.ty quadformref01_Mul.d0).den) : Option ((Fm.ty quadformref01_Mul.d0).den ⊕ (Xs.T quadformref01_Mul.x0)) := quadformref01_Mul.s0 x.1 x.2.1 x.2.2.1 x.2.2.2.1 x.2.2.2.2.1 x.2.2.2.2.2.1 x.2.2.2.2.2.2.1 x.2.2.2.2.2.2.2.1 x.2.2.2.2.2.2.2.2.1 x.2.2.2.2.2.2.2.2.2.1 x.2.2.2.2.2.2.2.2.2.2.1 x.2.2.2.2.2.2.2.2.2.2.2.1 x.2.2.2.2.2.2.2.2.2.2.2.2.1
noncomputable def quadformref01_Mul.L : Lam := fun _ i s K => cond (Nat.beq i 0) (lamK quadformref01_Mul.d0 quadformref01_Mul.x0 quadformref01_Mul.r0 s K) (cond (Nat.beq i 1) (lamK quadformref01_Mul.d1 quadformref01_Mul.x1 quadformref01_Mul.r1 s K) (none))
theorem quadformref01_Mul.hf0 (x) : roundK env (orc quadformref01_Mul.o) (orcB quadformref01_Mul.oB) 77 quadformref01_Mul.L quadformref01_Mul.c0 quadformref01_Mul.h0 quadformref01_Mul.d0 quadformref01_Mul.x0 x = quadformref01_Mul.r0 x := by kernel_rfl
theorem quadformref01_Mul.hf1 (x) : roundK env (orc quadformref01_Mul.o) (orcB quadformref01_Mul.oB) 77 quadformref01_Mul.L quadformref01_Mul.c1 quadformref01_Mul.h1 quadformref01_Mul.d1 quadformref01_Mul.x1 x = quadformref01_Mul.r1 x := by kernel_rfl
theorem quadformref01_Mul.os : AllOk prog quadformref01_Mul.o := ⟨quadformref01_Make.ok, trivial⟩
theorem quadformref01_Mul.osB : AllBOk prog quadformref01_Mul.oB := trivial
theorem quadformref01_Mul.l0 {C : Ctx} (hC : C.n = 77) : LamAt prog C quadformref01_Mul.L 0 quadformref01_Mul.c0 := by
  intro R s K r hk
  refine loop_ok (D := quadformref01_Mul.d0) (X := quadformref01_Mul.x0) (h := quadformref01_Mul.h0) (f := quadformref01_Mul.r0) tabs (orc_ok _ quadformref01_Mul.os) (orcB_ok _ quadformref01_Mul.osB) (fun x => by rw [hC]; exact quadformref01_Mul.hf0 x) (Λ := quadformref01_Mul.L) ?_ (by kernel_rfl) (by kernel_rfl) (K := K) (s := s) (by exact hk)
  exact by
    have e : loops quadformref01_Mul.c0 quadformref01_Mul.h0 = [] := by kernel_rfl
    rw [e]
    exact LamOk.nil
theorem quadformref01_Mul.l1 {C : Ctx} (hC : C.n = 77) : LamAt prog C quadformref01_Mul.L 1 quadformref01_Mul.c1 := by
  intro R s K r hk
  refine loop_ok (D := quadformref01_Mul.d1) (X := quadformref01_Mul.x1) (h := quadformref01_Mul.h1) (f := quadformref01_Mul.r1) tabs (orc_ok _ quadformref01_Mul.os) (orcB_ok _ quadformref01_Mul.osB) (fun x => by rw [hC]; exact quadformref01_Mul.hf1 x) (Λ := quadformref01_Mul.L) ?_ (by kernel_rfl) (by kernel_rfl) (K := K) (s := s) (by exact hk)
  exact by
    have e : loops quadformref01_Mul.c1 quadformref01_Mul.h1 = [(0, quadformref01_Mul.c0)] := by kernel_rfl
    rw [e]
    exact LamOk.cons (quadformref01_Mul.l0 hC) (LamOk.nil)
theorem quadformref01_Mul.hk (x) : semK env (orc quadformref01_Mul.o) (orcB quadformref01_Mul.oB) 77 (quadformref01_Mul.L _) quadformref01_Mul.c quadformref01_Mul.h (S.init (avs [.pair (.bool) (.pair (.sl (.int .u32)) (.unit)), .pair (.bool) (.pair (.sl (.int .u32)) (.unit))] x)) (fin env Try.f66 ⟨[.pair (.bool) (.pair (.sl (.int .u32)) (.unit)), .pair (.bool) (.pair (.sl (.int .u32)) (.unit))], .pair (.bool) (.pair (.sl (.int .u32)) (.unit)), false, false⟩) = quadformref01_Mul.en.g x := by kernel_rfl
theorem quadformref01_Mul.ok : EnOk prog quadformref01_Mul.en := by
  refine fun_ok (g := ⟨[.pair (.bool) (.pair (.sl (.int .u32)) (.unit)), .pair (.bool) (.pair (.sl (.int .u32)) (.unit))], .pair (.bool) (.pair (.sl (.int .u32)) (.unit)), false, false⟩) (h := quadformref01_Mul.h) (Λ := quadformref01_Mul.L) tabs quadformref01_Mul.os quadformref01_Mul.osB Try.func66 (c := quadformref01_Mul.c) (by kernel_rfl) (by decide +kernel) (by decide +kernel) (fun C hC => ?_) (fun x => quadformref01_Mul.hk x)
  exact by
    have e : loops quadformref01_Mul.c quadformref01_Mul.h = [(1, quadformref01_Mul.c1)] := by kernel_rfl
    rw [e]
    exact LamOk.cons (quadformref01_Mul.l1 hC) (LamOk.nil)
noncomputable def quadformref02_Add (t0 : (Bool × List Int × Unit) × (Bool × List Int × Unit) × Unit) (t1 : (Bool × List Int × Unit) × (Bool × List Int × Unit) × Unit) : Option ((Bool × List Int × Unit) × (Bool × List Int × Unit) × Unit) :=
  ((quadformref02_Normalize ((t0.1.1, (t0.1.2.1, ())), ((t0.2.1.1, (t0.2.1.2.1, ())), ()))).bind fun y1 =>
  ((quadformref02_Normalize ((t1.1.1, (t1.1.2.1, ())), ((t1.2.1.1, (t1.2.1.2.1, ())), ()))).bind fun y2 =>
  ((quadformref01_Mul (y1.1.1, (y1.1.2.1, ())) (y2.2.1.1, (y2.2.1.2.1, ()))).bind fun y3 =>
  ((quadformref01_Mul (y2.1.1, (y2.1.2.1, ())) (y1.2.1.1, (y1.2.1.2.1, ()))).bind fun y4 =>
  ((quadformref01_Add y3 y4).bind fun y5 =>
  ((quadformref01_Mul (y1.2.1.1, (y1.2.1.2.1, ())) (y2.2.1.1, (y2.2.1.2.1, ()))).bind fun y6 =>
  ((quadformref02_New y5 y6).bind fun y7 =>
  (some ((y7.1.1.1, (y7.1.1.2.1, ())), ((y7.1.2.1.1, (y7.1.2.1.2.1, ())), ()))))))))))
noncomputable def quadformref02_Add.en : En := ⟨31, [.pair (.pair (.bool) (.pair (.sl (.int .u32)) (.unit))) (.pair (.pair (.bool) (.pair (.sl (.int .u32)) (.unit))) (.unit)), .pair (.pair (.bool) (.pair (.sl (.int .u32)) (.unit))) (.pair (.pair (.bool) (.pair (.sl (.int .u32)) (.unit))) (.unit))], .pair (.pair (.bool) (.pair (.sl (.int .u32)) (.unit))) (.pair (.pair (.bool) (.pair (.sl (.int .u32)) (.unit))) (.unit)), false, fun x => quadformref02_Add x.1 x.2.1⟩
noncomputable def quadformref02_Add.o : List En := [quadformref02_New.en, quadformref02_Normalize.en, quadformref01_Add.en, quadformref01_Mul.en]
noncomputable def quadformref02_Add.oB : List EnB := []
def quadformref02_Add.h : HT := .n
noncomputable def quadformref02_Add.c : Code := Try.f31.body.getD .skip
noncomputable def quadformref02_Add.L : Lam := fun _ i s K => none
theorem quadformref02_Add.os : AllOk prog quadformref02_Add.o := ⟨quadformref02_New.ok, quadformref02_Normalize.ok, quadformref01_Add.ok, quadformref01_Mul.ok, trivial⟩
theorem quadformref02_Add.osB : AllBOk prog quadformref02_Add.oB := trivial
theorem quadformref02_Add.hk (x) : semK env (orc quadformref02_Add.o) (orcB quadformref02_Add.oB) 34 (quadformref02_Add.L _) quadformref02_Add.c quadformref02_Add.h (S.init (avs [.pair (.pair (.bool) (.pair (.sl (.int .u32)) (.unit))) (.pair (.pair (.bool) (.pair (.sl (.int .u32)) (.unit))) (.unit)), .pair (.pair (.bool) (.pair (.sl (.int .u32)) (.unit))) (.pair (.pair (.bool) (.pair (.sl (.int .u32)) (.unit))) (.unit))] x)) (fin env Try.f31 ⟨[.pair (.pair (.bool) (.pair (.sl (.int .u32)) (.unit))) (.pair (.pair (.bool) (.pair (.sl (.int .u32)) (.unit))) (.unit)), .pair (.pair (.bool) (.pair (.sl (.int .u32)) (.unit))) (.pair (.pair (.bool) (.pair (.sl (.int .u32)) (.unit))) (.unit))], .pair (.pair (.bool) (.pair (.sl (.int .u32)) (.unit))) (.pair (.pair (.bool) (.pair (.sl (.int .u32)) (.unit))) (.unit)), false, false⟩) = quadformref02_Add.en.g x := by kernel_rfl
theorem quadformref02_Add.ok : EnOk prog quadformref02_Add.en := by
  refine fun_ok (g := ⟨[.pair (.pair (.bool) (.pair (.sl (.int .u32)) (.unit))) (.pair (.pair (.bool) (.pair (.sl (.int .u32)) (.unit))) (.unit)), .pair (.pair (.bool) (.pair (.sl (.int .u32)) (.unit))) (.pair (.pair (.bool) (.pair (.sl (.int .u32)) (.unit))) (.unit))], .pair (.pair (.bool) (.pair (.sl (.int .u32)) (.unit))) (.pair (.pair (.bool) (.pair (.sl (.int .u32)) (.unit))) (.unit)), false, false⟩) (h := quadformref02_Add.h) (Λ := quadformref02_Add.L) tabs quadformref02_Add.os quadformref02_Add.osB Try.func31 (c := quadformref02_Add.c) (by kernel_rfl) (by decide +kernel) (by decide +kernel) (fun C hC => ?_) (fun x => quadformref02_Add.hk x)
  exact by
    have e : loops quadformref02_Add.c quadformref02_Add.h = [] := by kernel_rfl
    rw [e]
    exact LamOk.nil
noncomputable def quadformref02_Neg (t0 : (Bool × List Int × Unit) × (Bool × List Int × Unit) × Unit) : Option ((Bool × List Int × Unit) × (Bool × List Int × Unit) × Unit) :=
  ((quadformref02_Normalize ((t0.1.1, (t0.1.2.1, ())), ((t0.2.1.1, (t0.2.1.2.1, ())), ()))).bind fun y1 =>
  ((quadformref01_Neg (y1.1.1, (y1.1.2.1, ()))).bind fun y2 =>
  (some ((y2.1, (y2.2.1, ())), ((y1.2.1.1, (y1.2.1.2.1, ())), ())))))
noncomputable def quadformref02_Neg.en : En := ⟨69, [.pair (.pair (.bool) (.pair (.sl (.int .u32)) (.unit))) (.pair (.pair (.bool) (.pair (.sl (.int .u32)) (.unit))) (.unit))], .pair (.pair (.bool) (.pair (.sl (.int .u32)) (.unit))) (.pair (.pair (.bool) (.pair (.sl (.int .u32)) (.unit))) (.unit)), false, fun x => quadformref02_Neg x.1⟩
noncomputable def quadformref02_Neg.o : List En := [quadformref02_Normalize.en, quadformref01_Neg.en]
noncomputable def quadformref02_Neg.oB : List EnB := []
def quadformref02_Neg.h : HT := .n
noncomputable def quadformref02_Neg.c : Code := Try.f69.body.getD .skip
noncomputable def quadformref02_Neg.L : Lam := fun _ i s K => none
theorem quadformref02_Neg.os : AllOk prog quadformref02_Neg.o := ⟨quadformref02_Normalize.ok, quadformref01_Neg.ok, trivial⟩
theorem quadformref02_Neg.osB : AllBOk prog quadformref02_Neg.oB := trivial
theorem quadformref02_Neg.hk (x) : semK env (orc quadformref02_Neg.o) (orcB quadformref02_Neg.oB) 12 (quadformref02_Neg.L _) quadformref02_Neg.c quadformref02_Neg.h (S.init (avs [.pair (.pair (.bool) (.pair (.sl (.int .u32)) (.unit))) (.pair (.pair (.bool) (.pair (.sl (.int .u32)) (.unit))) (.unit))] x)) (fin env Try.f69 ⟨[.pair (.pair (.bool) (.pair (.sl (.int .u32)) (.unit))) (.pair (.pair (.bool) (.pair (.sl (.int .u32)) (.unit))) (.unit))], .pair (.pair (.bool) (.pair (.sl (.int .u32)) (.unit))) (.pair (.pair (.bool) (.pair (.sl (.int .u32)) (.unit))) (.unit)), false, false⟩) = quadformref02_Neg.en.g x := by kernel_rfl
theorem quadformref02_Neg.ok : EnOk prog quadformref02_Neg.en := by
  refine fun_ok (g := ⟨[.pair (.pair (.bool) (.pair (.sl (.int .u32)) (.unit))) (.pair (.pair (.bool) (.pair (.sl (.int .u32)) (.unit))) (.unit))], .pair (.pair (.bool) (.pair (.sl (.int .u32)) (.unit))) (.pair (.pair (.bool) (.pair (.sl (.int .u32)) (.unit))) (.unit)), false, false⟩) (h := quadformref02_Neg.h) (Λ := quadformref02_Neg.L) tabs quadformref02_Neg.os quadformref02_Neg.osB Try.func69 (c := quadformref02_Neg.c) (by kernel_rfl) (by decide +kernel) (by decide +kernel) (fun C hC => ?_) (fun x => quadformref02_Neg.hk x)
  exact by
    have e : loops quadformref02_Neg.c quadformref02_Neg.h = [] := by kernel_rfl
    rw [e]
    exact LamOk.nil
noncomputable def prime_beyond (t0 : Int) : Option (Bool) :=
  (cond ((decide (t0 > (2147483647 : Int))))
  ((some true))
  ((some (decide (t0 < (-2147483647 : Int))))))
noncomputable def prime_beyond.en : En := ⟨82, [.int .i64], .bool, false, fun x => prime_beyond x.1⟩
noncomputable def prime_beyond.o : List En := []
noncomputable def prime_beyond.oB : List EnB := []
def prime_beyond.h : HT := .n
noncomputable def prime_beyond.c : Code := Try.f82.body.getD .skip
noncomputable def prime_beyond.L : Lam := fun _ i s K => none
theorem prime_beyond.os : AllOk prog prime_beyond.o := trivial
theorem prime_beyond.osB : AllBOk prog prime_beyond.oB := trivial
theorem prime_beyond.hk (x) : semK env (orc prime_beyond.o) (orcB prime_beyond.oB) 9 (prime_beyond.L _) prime_beyond.c prime_beyond.h (S.init (avs [.int .i64] x)) (fin env Try.f82 ⟨[.int .i64], .bool, false, false⟩) = prime_beyond.en.g x := by kernel_rfl
theorem prime_beyond.ok : EnOk prog prime_beyond.en := by
  refine fun_ok (g := ⟨[.int .i64], .bool, false, false⟩) (h := prime_beyond.h) (Λ := prime_beyond.L) tabs prime_beyond.os prime_beyond.osB Try.func82 (c := prime_beyond.c) (by kernel_rfl) (by decide +kernel) (by decide +kernel) (fun C hC => ?_) (fun x => prime_beyond.hk x)
  exact by
    have e : loops prime_beyond.c prime_beyond.h = [] := by kernel_rfl
    rw [e]
    exact LamOk.nil
noncomputable def prime_Factor.j4 (t0 : Int) (t5 : Int) (a26 : List (Int × Int × Unit)) : Option ((Int × Int × (List (Int × Int × Unit)) × Unit) ⊕ (((List (Int × Int × Unit)) × Unit) ⊕ (Int × Int × (List (Int × Int × Unit)) × Unit))) :=
  (some (.inl (t0, (IntKind.wrap .i64 (t5 + (1 : Int))), a26, ())))
noncomputable def prime_Factor.j3 (t0 : Int) (t5 : Int) (a26 : List (Int × Int × Unit)) : Option ((Int × Int × (List (Int × Int × Unit)) × Unit) ⊕ (((List (Int × Int × Unit)) × Unit) ⊕ (Int × Int × (List (Int × Int × Unit)) × Unit))) :=
  (cond (decide (t5 = 0))
  none
  ((cond (((Int.tmod t0 t5) == (0 : Int)))
  ((some (.inr (.inr (t0, t5, a26, ())))))
  ((prime_Factor.j4 t0 t5 a26)))))
noncomputable def prime_Factor.s0 (t0 : Int) (t5 : Int) (a26 : List (Int × Int × Unit)) : Option ((Int × Int × (List (Int × Int × Unit)) × Unit) ⊕ (((List (Int × Int × Unit)) × Unit) ⊕ (Int × Int × (List (Int × Int × Unit)) × Unit))) :=
  (cond ((decide ((IntKind.wrap .i64 (t5 * t5)) > t0)))
  ((cond (decide (List.length a26 + List.length ([(t0, ((1 : Int), ()))] : List (Int × Int × Unit)) ≤ maxL))
  ((some (.inr (.inl ((a26 ++ ([(t0, ((1 : Int), ()))] : List (Int × Int × Unit))), ())))))
  none))
  ((prime_Factor.j3 t0 t5 a26)))
noncomputable def prime_Factor.k0_0 (a26 : List (Int × Int × Unit)) : Option ((Int × Int × (List (Int × Int × Unit)) × Unit) ⊕ (((List (Int × Int × Unit)) × Unit))) :=
  (some (.inr (a26, ())))
noncomputable def prime_Factor.j5 (t0 : Int) (t5 : Int) (t6 : Int) (a26 : List (Int × Int × Unit)) : Option ((Int × Int × Int × (List (Int × Int × Unit)) × Unit) ⊕ ((Int × Int × Int × (List (Int × Int × Unit)) × Unit))) :=
  (cond (decide (t5 = 0))
  none
  ((some (.inl ((IntKind.wrap .i64 (Int.tdiv t0 t5)), t5, (IntKind.wrap .i64 (t6 + (1 : Int))), a26, ())))))
noncomputable def prime_Factor.s1 (t0 : Int) (t5 : Int) (t6 : Int) (a26 : List (Int × Int × Unit)) : Option ((Int × Int × Int × (List (Int × Int × Unit)) × Unit) ⊕ ((Int × Int × Int × (List (Int × Int × Unit)) × Unit))) :=
  (cond (decide (t5 = 0))
  none
  ((cond (((Int.tmod t0 t5) == (0 : Int)))
  ((prime_Factor.j5 t0 t5 t6 a26))
  ((some (.inr (t0, t5, t6, a26, ())))))))
noncomputable def prime_Factor.k1 (t0 : Int) (t5 : Int) (t6 : Int) (a26 : List (Int × Int × Unit)) : Option ((Int × Int × (List (Int × Int × Unit)) × Unit) ⊕ (((List (Int × Int × Unit)) × Unit))) :=
  (cond (decide (List.length a26 + List.length ([(t5, (t6, ()))] : List (Int × Int × Unit)) ≤ maxL))
  ((some (.inl (t0, t5, (a26 ++ ([(t5, (t6, ()))] : List (Int × Int × Unit))), ()))))
  none)
noncomputable def prime_Factor.k0_1 (t0 : Int) (t5 : Int) (a26 : List (Int × Int × Unit)) : Option ((Int × Int × (List (Int × Int × Unit)) × Unit) ⊕ (((List (Int × Int × Unit)) × Unit))) :=
  ((iterL (fun x : Int × Int × Int × (List (Int × Int × Unit)) × Unit => prime_Factor.s1 x.1 x.2.1 x.2.2.1 x.2.2.2.1) (t0, t5, (0 : Int), a26, ())).bind fun y => prime_Factor.k1 y.1 y.2.1 y.2.2.1 y.2.2.2.1)
noncomputable def prime_Factor.j2 (t0 : Int) (t5 : Int) (a26 : List (Int × Int × Unit)) : Option ((Int × Int × (List (Int × Int × Unit)) × Unit) ⊕ (((List (Int × Int × Unit)) × Unit))) :=
  ((iterL (fun x : Int × Int × (List (Int × Int × Unit)) × Unit => prime_Factor.s0 x.1 x.2.1 x.2.2.1) (t0, t5, a26, ())).bind fun z => Sum.casesOn z (fun y => prime_Factor.k0_0 y.1) (fun z => prime_Factor.k0_1 z.1 z.2.1 z.2.2.1))
noncomputable def prime_Factor.s2 (t0 : Int) (t5 : Int) (a26 : List (Int × Int × Unit)) : Option ((Int × Int × (List (Int × Int × Unit)) × Unit) ⊕ (((List (Int × Int × Unit)) × Unit))) :=
  (cond ((decide (t0 > (1 : Int))))
  ((prime_Factor.j2 t0 t5 a26))
  ((some (.inr (a26, ())))))
noncomputable def prime_Factor.k2 (a26 : List (Int × Int × Unit)) : Option ((List (Int × Int × Unit)) × Int × Unit) :=
  (some (a26, ((0 : Int), ())))
noncomputable def prime_Factor.j1 (t0 : Int) : Option ((List (Int × Int × Unit)) × Int × Unit) :=
  ((iterL (fun x : Int × Int × (List (Int × Int × Unit)) × Unit => prime_Factor.s2 x.1 x.2.1 x.2.2.1) (t0, (2 : Int), ([] : List (Int × Int × Unit)), ())).bind fun y => prime_Factor.k2 y.1)
noncomputable def prime_Factor (t0 : Int) : Option ((List (Int × Int × Unit)) × Int × Unit) :=
  (cond ((decide (t0 < (1 : Int))))
  ((some (([] : List (Int × Int × Unit)), ((1 : Int), ()))))
  ((cond ((decide (t0 > (2147483647 : Int))))
  ((some (([] : List (Int × Int × Unit)), ((1 : Int), ()))))
  ((prime_Factor.j1 t0)))))
noncomputable def prime_Factor.en : En := ⟨83, [.int .i64], .pair (.sl (.pair (.int .i64) (.pair (.int .i64) (.unit)))) (.pair (.int .i64) (.unit)), true, fun x => prime_Factor x.1⟩
noncomputable def prime_Factor.o : List En := []
noncomputable def prime_Factor.oB : List EnB := []
def prime_Factor.h : HT := .two (.n) (.two (.n) (.two (.n) (.two (.n) (.two (.n) (.two (.lp 2) (.n))))))
noncomputable def prime_Factor.c : Code := Try.f83.body.getD .skip
def prime_Factor.h2 : HT := .two (.n) (.two (.lp 0) (.two (.n) (.two (.lp 1) (.n))))
noncomputable def prime_Factor.c2 : Code := (find (loops prime_Factor.c prime_Factor.h) 2).getD .skip
def prime_Factor.d2 : Fm := [.v 0 (.int .i64), .v 5 (.int .i64), .arr 26 99 (.pair (.int .i64) (.pair (.int .i64) (.unit))), .own 4 26]
def prime_Factor.x2 : Xs := [(.exit 0, [.arr 26 99 (.pair (.int .i64) (.pair (.int .i64) (.unit))), .own 4 26])]
noncomputable def prime_Factor.r2 (x : (Fm.ty prime_Factor.d2).den) : Option ((Fm.ty prime_Factor.d2).den ⊕ (Xs.T prime_Factor.x2)) := prime_Factor.s2 x.1 x.2.1 x.2.2.1
def prime_Factor.h0 : HT := .n
noncomputable def prime_Factor.c0 : Code := (find (loops prime_Factor.c2 prime_Factor.h2) 0).getD .skip
def prime_Factor.d0 : Fm := [.v 0 (.int .i64), .v 5 (.int .i64), .arr 26 99 (.pair (.int .i64) (.pair (.int .i64) (.unit))), .own 4 26]
def prime_Factor.x0 : Xs := [(.exit 0, [.arr 26 99 (.pair (.int .i64) (.pair (.int .i64) (.unit))), .own 4 26]), (.exit 2, [.v 0 (.int .i64), .v 5 (.int .i64), .arr 26 99 (.pair (.int .i64) (.pair (.int .i64) (.unit))), .own 4 26])]
noncomputable def prime_Factor.r0 (x : (Fm.ty prime_Factor.d0).den) : Option ((Fm.ty prime_Factor.d0).den ⊕ (Xs.T prime_Factor.x0)) := prime_Factor.s0 x.1 x.2.1 x.2.2.1
def prime_Factor.h1 : HT := .n
noncomputable def prime_Factor.c1 : Code := (find (loops prime_Factor.c2 prime_Factor.h2) 1).getD .skip
def prime_Factor.d1 : Fm := [.v 0 (.int .i64), .v 5 (.int .i64), .v 6 (.int .i64), .arr 26 99 (.pair (.int .i64) (.pair (.int .i64) (.unit))), .own 4 26]
def prime_Factor.x1 : Xs := [(.exit 4, [.v 0 (.int .i64), .v 5 (.int .i64), .v 6 (.int .i64), .arr 26 99 (.pair (.int .i64) (.pair (.int .i64) (.unit))), .own 4 26])]
noncomputable def prime_Factor.r1 (x : (Fm.ty prime_Factor.d1).den) : Option ((Fm.ty prime_Factor.d1).den ⊕ (Xs.T prime_Factor.x1)) := prime_Factor.s1 x.1 x.2.1 x.2.2.1 x.2.2.2.1
noncomputable def prime_Factor.L : Lam := fun _ i s K => cond (Nat.beq i 0) (lamK prime_Factor.d0 prime_Factor.x0 prime_Factor.r0 s K) (cond (Nat.beq i 1) (lamK prime_Factor.d1 prime_Factor.x1 prime_Factor.r1 s K) (cond (Nat.beq i 2) (lamK prime_Factor.d2 prime_Factor.x2 prime_Factor.r2 s K) (none)))
theorem prime_Factor.hf0 (x) : roundK env (orc prime_Factor.o) (orcB prime_Factor.oB) 47 prime_Factor.L prime_Factor.c0 prime_Factor.h0 prime_Factor.d0 prime_Factor.x0 x = prime_Factor.r0 x := by kernel_rfl
theorem prime_Factor.hf1 (x) : roundK env (orc prime_Factor.o) (orcB prime_Factor.oB) 47 prime_Factor.L prime_Factor.c1 prime_Factor.h1 prime_Factor.d1 prime_Factor.x1 x = prime_Factor.r1 x := by kernel_rfl
theorem prime_Factor.hf2 (x) : roundK env (orc prime_Factor.o) (orcB prime_Factor.oB) 47 prime_Factor.L prime_Factor.c2 prime_Factor.h2 prime_Factor.d2 prime_Factor.x2 x = prime_Factor.r2 x := by kernel_rfl
theorem prime_Factor.os : AllOk prog prime_Factor.o := trivial
theorem prime_Factor.osB : AllBOk prog prime_Factor.oB := trivial
theorem prime_Factor.l0 {C : Ctx} (hC : C.n = 47) : LamAt prog C prime_Factor.L 0 prime_Factor.c0 := by
  intro R s K r hk
  refine loop_ok (D := prime_Factor.d0) (X := prime_Factor.x0) (h := prime_Factor.h0) (f := prime_Factor.r0) tabs (orc_ok _ prime_Factor.os) (orcB_ok _ prime_Factor.osB) (fun x => by rw [hC]; exact prime_Factor.hf0 x) (Λ := prime_Factor.L) ?_ (by kernel_rfl) (by kernel_rfl) (K := K) (s := s) (by exact hk)
  exact by
    have e : loops prime_Factor.c0 prime_Factor.h0 = [] := by kernel_rfl
    rw [e]
    exact LamOk.nil
theorem prime_Factor.l1 {C : Ctx} (hC : C.n = 47) : LamAt prog C prime_Factor.L 1 prime_Factor.c1 := by
  intro R s K r hk
  refine loop_ok (D := prime_Factor.d1) (X := prime_Factor.x1) (h := prime_Factor.h1) (f := prime_Factor.r1) tabs (orc_ok _ prime_Factor.os) (orcB_ok _ prime_Factor.osB) (fun x => by rw [hC]; exact prime_Factor.hf1 x) (Λ := prime_Factor.L) ?_ (by kernel_rfl) (by kernel_rfl) (K := K) (s := s) (by exact hk)
  exact by
    have e : loops prime_Factor.c1 prime_Factor.h1 = [] := by kernel_rfl
    rw [e]
    exact LamOk.nil
theorem prime_Factor.l2 {C : Ctx} (hC : C.n = 47) : LamAt prog C prime_Factor.L 2 prime_Factor.c2 := by
  intro R s K r hk
  refine loop_ok (D := prime_Factor.d2) (X := prime_Factor.x2) (h := prime_Factor.h2) (f := prime_Factor.r2) tabs (orc_ok _ prime_Factor.os) (orcB_ok _ prime_Factor.osB) (fun x => by rw [hC]; exact prime_Factor.hf2 x) (Λ := prime_Factor.L) ?_ (by kernel_rfl) (by kernel_rfl) (K := K) (s := s) (by exact hk)
  exact by
    have e : loops prime_Factor.c2 prime_Factor.h2 = [(0, prime_Factor.c0), (1, prime_Factor.c1)] := by kernel_rfl
    rw [e]
    exact LamOk.cons (prime_Factor.l0 hC) (LamOk.cons (prime_Factor.l1 hC) (LamOk.nil))
theorem prime_Factor.hk (x) : semK env (orc prime_Factor.o) (orcB prime_Factor.oB) 47 (prime_Factor.L _) prime_Factor.c prime_Factor.h (S.init (avs [.int .i64] x)) (fin env Try.f83 ⟨[.int .i64], .pair (.sl (.pair (.int .i64) (.pair (.int .i64) (.unit)))) (.pair (.int .i64) (.unit)), true, false⟩) = prime_Factor.en.g x := by kernel_rfl
theorem prime_Factor.ok : EnOk prog prime_Factor.en := by
  refine fun_ok (g := ⟨[.int .i64], .pair (.sl (.pair (.int .i64) (.pair (.int .i64) (.unit)))) (.pair (.int .i64) (.unit)), true, false⟩) (h := prime_Factor.h) (Λ := prime_Factor.L) tabs prime_Factor.os prime_Factor.osB Try.func83 (c := prime_Factor.c) (by kernel_rfl) (by decide +kernel) (by decide +kernel) (fun C hC => ?_) (fun x => prime_Factor.hk x)
  exact by
    have e : loops prime_Factor.c prime_Factor.h = [(2, prime_Factor.c2)] := by kernel_rfl
    rw [e]
    exact LamOk.cons (prime_Factor.l2 hC) (LamOk.nil)
noncomputable def prime_Squarefree.j5 (t5 : Int) (t6 : Int) (t11 : Int) (t27 : List (Int × Int × Unit)) (t28 : Int) (t29 : Int) (b10_0 : Int) (b10_1 : Int) : Option ((Int × Int × Int × (List (Int × Int × Unit)) × Int × Int × (Int × Int × Unit) × Unit) ⊕ ((Int × Int × (List (Int × Int × Unit)) × Int × Int × Unit))) :=
  (some (.inl (t5, (IntKind.wrap .i64 (t6 * b10_0)), (IntKind.wrap .i64 (t11 + (1 : Int))), t27, t28, t29, (b10_0, (b10_1, ())), ())))
noncomputable def prime_Squarefree.s0 (t5 : Int) (t6 : Int) (t11 : Int) (t27 : List (Int × Int × Unit)) (t28 : Int) (t29 : Int) (b10 : Int × Int × Unit) : Option ((Int × Int × Int × (List (Int × Int × Unit)) × Int × Int × (Int × Int × Unit) × Unit) ⊕ ((Int × Int × (List (Int × Int × Unit)) × Int × Int × Unit))) :=
  (cond ((decide (t11 < (IntKind.wrap .i64 (Int.tdiv b10.2.1 (2 : Int))))))
  ((prime_Squarefree.j5 t5 t6 t11 t27 t28 t29 b10.1 b10.2.1))
  ((some (.inr (t5, t6, t27, t28, t29, ())))))
noncomputable def prime_Squarefree.k0 (t5 : Int) (t6 : Int) (t27 : List (Int × Int × Unit)) (t28 : Int) (t29 : Int) : Option ((Int × Int × (List (Int × Int × Unit)) × Int × Int × Unit) ⊕ ((Int × Int × Unit))) :=
  (some (.inl (t5, t6, t27, t28, (IntKind.wrap .i64 (t29 + (1 : Int))), ())))
noncomputable def prime_Squarefree.j4 (t5 : Int) (t6 : Int) (t27 : List (Int × Int × Unit)) (t28 : Int) (t29 : Int) (b10_0 : Int) (b10_1 : Int) : Option ((Int × Int × (List (Int × Int × Unit)) × Int × Int × Unit) ⊕ ((Int × Int × Unit))) :=
  ((iterL (fun x : Int × Int × Int × (List (Int × Int × Unit)) × Int × Int × (Int × Int × Unit) × Unit => prime_Squarefree.s0 x.1 x.2.1 x.2.2.1 x.2.2.2.1 x.2.2.2.2.1 x.2.2.2.2.2.1 x.2.2.2.2.2.2.1) (t5, t6, (0 : Int), t27, t28, t29, (b10_0, (b10_1, ())), ())).bind fun y => prime_Squarefree.k0 y.1 y.2.1 y.2.2.1 y.2.2.2.1 y.2.2.2.2.1)
noncomputable def prime_Squarefree.j3 (t5 : Int) (t6 : Int) (t27 : List (Int × Int × Unit)) (t28 : Int) (t29 : Int) : Option ((Int × Int × (List (Int × Int × Unit)) × Int × Int × Unit) ⊕ ((Int × Int × Unit))) :=
  (cond (inB t29 (List.length t27))
  ((cond (((Int.tmod (List.getD t27 (t29.toNat) ((0 : Int), ((0 : Int), ()))).2.1 (2 : Int)) == (1 : Int)))
  ((prime_Squarefree.j4 (IntKind.wrap .i64 (t5 * (List.getD t27 (t29.toNat) ((0 : Int), ((0 : Int), ()))).1)) t6 t27 t28 t29 (List.getD t27 (t29.toNat) ((0 : Int), ((0 : Int), ()))).1 (List.getD t27 (t29.toNat) ((0 : Int), ((0 : Int), ()))).2.1))
  ((prime_Squarefree.j4 t5 t6 t27 t28 t29 (List.getD t27 (t29.toNat) ((0 : Int), ((0 : Int), ()))).1 (List.getD t27 (t29.toNat) ((0 : Int), ((0 : Int), ()))).2.1))))
  none)
noncomputable def prime_Squarefree.s1 (t5 : Int) (t6 : Int) (t27 : List (Int × Int × Unit)) (t28 : Int) (t29 : Int) : Option ((Int × Int × (List (Int × Int × Unit)) × Int × Int × Unit) ⊕ ((Int × Int × Unit))) :=
  (cond ((decide (t29 < t28)))
  ((prime_Squarefree.j3 t5 t6 t27 t28 t29))
  ((some (.inr (t5, t6, ())))))
noncomputable def prime_Squarefree.k1 (t5 : Int) (t6 : Int) : Option (Int × Int × Int × Unit) :=
  (some (t5, (t6, ((0 : Int), ()))))
noncomputable def prime_Squarefree.j2 (t0 : Int) : Option (Int × Int × Int × Unit) :=
  ((prime_Factor t0).bind fun y2 =>
  ((iterL (fun x : Int × Int × (List (Int × Int × Unit)) × Int × Int × Unit => prime_Squarefree.s1 x.1 x.2.1 x.2.2.1 x.2.2.2.1 x.2.2.2.2.1) ((-1 : Int), (1 : Int), y2.1, ((List.length y2.1 : Nat) : Int), (0 : Int), ())).bind fun y => prime_Squarefree.k1 y.1 y.2.1))
noncomputable def prime_Squarefree.j6 (t0 : Int) : Option (Int × Int × Int × Unit) :=
  ((prime_Factor t0).bind fun y6 =>
  ((iterL (fun x : Int × Int × (List (Int × Int × Unit)) × Int × Int × Unit => prime_Squarefree.s1 x.1 x.2.1 x.2.2.1 x.2.2.2.1 x.2.2.2.2.1) ((1 : Int), (1 : Int), y6.1, ((List.length y6.1 : Nat) : Int), (0 : Int), ())).bind fun y => prime_Squarefree.k1 y.1 y.2.1))
noncomputable def prime_Squarefree.j1 (t0 : Int) : Option (Int × Int × Int × Unit) :=
  (cond ((decide (t0 < (0 : Int))))
  ((prime_Squarefree.j2 (IntKind.wrap .i64 (0 - t0))))
  ((prime_Squarefree.j6 t0)))
noncomputable def prime_Squarefree (t0 : Int) : Option (Int × Int × Int × Unit) :=
  (cond ((t0 == (0 : Int)))
  ((some ((0 : Int), ((0 : Int), ((1 : Int), ())))))
  (((prime_beyond t0).bind fun y1 =>
  (cond (y1)
  ((some ((0 : Int), ((0 : Int), ((1 : Int), ())))))
  ((prime_Squarefree.j1 t0))))))
noncomputable def prime_Squarefree.en : En := ⟨78, [.int .i64], .pair (.int .i64) (.pair (.int .i64) (.pair (.int .i64) (.unit))), true, fun x => prime_Squarefree x.1⟩
noncomputable def prime_Squarefree.o : List En := [prime_beyond.en, prime_Factor.en]
noncomputable def prime_Squarefree.oB : List EnB := []
def prime_Squarefree.h : HT := .two (.n) (.two (.n) (.two (.n) (.two (.n) (.two (.n) (.two (.two (.n) (.lp 1)) (.n))))))
noncomputable def prime_Squarefree.c : Code := Try.f78.body.getD .skip
def prime_Squarefree.h1 : HT := .two (.n) (.two (.n) (.two (.two (.n) (.two (.n) (.two (.n) (.lp 0)))) (.n)))
noncomputable def prime_Squarefree.c1 : Code := (find (loops prime_Squarefree.c prime_Squarefree.h) 1).getD .skip
def prime_Squarefree.d1 : Fm := [.v 5 (.int .i64), .v 6 (.int .i64), .v 27 (.sl (.pair (.int .i64) (.pair (.int .i64) (.unit)))), .v 28 (.int .i64), .v 29 (.int .i64)]
def prime_Squarefree.x1 : Xs := [(.exit 0, [.v 5 (.int .i64), .v 6 (.int .i64)])]
noncomputable def prime_Squarefree.r1 (x : (Fm.ty prime_Squarefree.d1).den) : Option ((Fm.ty prime_Squarefree.d1).den ⊕ (Xs.T prime_Squarefree.x1)) := prime_Squarefree.s1 x.1 x.2.1 x.2.2.1 x.2.2.2.1 x.2.2.2.2.1
def prime_Squarefree.h0 : HT := .n
noncomputable def prime_Squarefree.c0 : Code := (find (loops prime_Squarefree.c1 prime_Squarefree.h1) 0).getD .skip
def prime_Squarefree.d0 : Fm := [.v 5 (.int .i64), .v 6 (.int .i64), .v 11 (.int .i64), .v 27 (.sl (.pair (.int .i64) (.pair (.int .i64) (.unit)))), .v 28 (.int .i64), .v 29 (.int .i64), .box 10 (.pair (.int .i64) (.pair (.int .i64) (.unit))), .ptr 10 10]
def prime_Squarefree.x0 : Xs := [(.exit 2, [.v 5 (.int .i64), .v 6 (.int .i64), .v 27 (.sl (.pair (.int .i64) (.pair (.int .i64) (.unit)))), .v 28 (.int .i64), .v 29 (.int .i64)])]
noncomputable def prime_Squarefree.r0 (x : (Fm.ty prime_Squarefree.d0).den) : Option ((Fm.ty prime_Squarefree.d0).den ⊕ (Xs.T prime_Squarefree.x0)) := prime_Squarefree.s0 x.1 x.2.1 x.2.2.1 x.2.2.2.1 x.2.2.2.2.1 x.2.2.2.2.2.1 x.2.2.2.2.2.2.1
noncomputable def prime_Squarefree.L : Lam := fun _ i s K => cond (Nat.beq i 0) (lamK prime_Squarefree.d0 prime_Squarefree.x0 prime_Squarefree.r0 s K) (cond (Nat.beq i 1) (lamK prime_Squarefree.d1 prime_Squarefree.x1 prime_Squarefree.r1 s K) (none))
theorem prime_Squarefree.hf0 (x) : roundK env (orc prime_Squarefree.o) (orcB prime_Squarefree.oB) 55 prime_Squarefree.L prime_Squarefree.c0 prime_Squarefree.h0 prime_Squarefree.d0 prime_Squarefree.x0 x = prime_Squarefree.r0 x := by kernel_rfl
theorem prime_Squarefree.hf1 (x) : roundK env (orc prime_Squarefree.o) (orcB prime_Squarefree.oB) 55 prime_Squarefree.L prime_Squarefree.c1 prime_Squarefree.h1 prime_Squarefree.d1 prime_Squarefree.x1 x = prime_Squarefree.r1 x := by kernel_rfl
theorem prime_Squarefree.os : AllOk prog prime_Squarefree.o := ⟨prime_beyond.ok, prime_Factor.ok, trivial⟩
theorem prime_Squarefree.osB : AllBOk prog prime_Squarefree.oB := trivial
theorem prime_Squarefree.l0 {C : Ctx} (hC : C.n = 55) : LamAt prog C prime_Squarefree.L 0 prime_Squarefree.c0 := by
  intro R s K r hk
  refine loop_ok (D := prime_Squarefree.d0) (X := prime_Squarefree.x0) (h := prime_Squarefree.h0) (f := prime_Squarefree.r0) tabs (orc_ok _ prime_Squarefree.os) (orcB_ok _ prime_Squarefree.osB) (fun x => by rw [hC]; exact prime_Squarefree.hf0 x) (Λ := prime_Squarefree.L) ?_ (by kernel_rfl) (by kernel_rfl) (K := K) (s := s) (by exact hk)
  exact by
    have e : loops prime_Squarefree.c0 prime_Squarefree.h0 = [] := by kernel_rfl
    rw [e]
    exact LamOk.nil
theorem prime_Squarefree.l1 {C : Ctx} (hC : C.n = 55) : LamAt prog C prime_Squarefree.L 1 prime_Squarefree.c1 := by
  intro R s K r hk
  refine loop_ok (D := prime_Squarefree.d1) (X := prime_Squarefree.x1) (h := prime_Squarefree.h1) (f := prime_Squarefree.r1) tabs (orc_ok _ prime_Squarefree.os) (orcB_ok _ prime_Squarefree.osB) (fun x => by rw [hC]; exact prime_Squarefree.hf1 x) (Λ := prime_Squarefree.L) ?_ (by kernel_rfl) (by kernel_rfl) (K := K) (s := s) (by exact hk)
  exact by
    have e : loops prime_Squarefree.c1 prime_Squarefree.h1 = [(0, prime_Squarefree.c0)] := by kernel_rfl
    rw [e]
    exact LamOk.cons (prime_Squarefree.l0 hC) (LamOk.nil)
theorem prime_Squarefree.hk (x) : semK env (orc prime_Squarefree.o) (orcB prime_Squarefree.oB) 55 (prime_Squarefree.L _) prime_Squarefree.c prime_Squarefree.h (S.init (avs [.int .i64] x)) (fin env Try.f78 ⟨[.int .i64], .pair (.int .i64) (.pair (.int .i64) (.pair (.int .i64) (.unit))), true, false⟩) = prime_Squarefree.en.g x := by kernel_rfl
theorem prime_Squarefree.ok : EnOk prog prime_Squarefree.en := by
  refine fun_ok (g := ⟨[.int .i64], .pair (.int .i64) (.pair (.int .i64) (.pair (.int .i64) (.unit))), true, false⟩) (h := prime_Squarefree.h) (Λ := prime_Squarefree.L) tabs prime_Squarefree.os prime_Squarefree.osB Try.func78 (c := prime_Squarefree.c) (by kernel_rfl) (by decide +kernel) (by decide +kernel) (fun C hC => ?_) (fun x => prime_Squarefree.hk x)
  exact by
    have e : loops prime_Squarefree.c prime_Squarefree.h = [(1, prime_Squarefree.c1)] := by kernel_rfl
    rw [e]
    exact LamOk.cons (prime_Squarefree.l1 hC) (LamOk.nil)
noncomputable def prime_residue.j1 (t5 : Int) : Option (Int) :=
  (some t5)
noncomputable def prime_residue (t0 : Int) (t1 : Int) : Option (Int) :=
  (cond (decide (t1 = 0))
  none
  ((cond ((decide ((Int.tmod t0 t1) < (0 : Int))))
  ((prime_residue.j1 (IntKind.wrap .i64 ((Int.tmod t0 t1) + t1))))
  ((prime_residue.j1 (Int.tmod t0 t1))))))
noncomputable def prime_residue.en : En := ⟨79, [.int .i64, .int .i64], .int .i64, false, fun x => prime_residue x.1 x.2.1⟩
noncomputable def prime_residue.o : List En := []
noncomputable def prime_residue.oB : List EnB := []
def prime_residue.h : HT := .n
noncomputable def prime_residue.c : Code := Try.f79.body.getD .skip
noncomputable def prime_residue.L : Lam := fun _ i s K => none
theorem prime_residue.os : AllOk prog prime_residue.o := trivial
theorem prime_residue.osB : AllBOk prog prime_residue.oB := trivial
theorem prime_residue.hk (x) : semK env (orc prime_residue.o) (orcB prime_residue.oB) 15 (prime_residue.L _) prime_residue.c prime_residue.h (S.init (avs [.int .i64, .int .i64] x)) (fin env Try.f79 ⟨[.int .i64, .int .i64], .int .i64, false, false⟩) = prime_residue.en.g x := by kernel_rfl
theorem prime_residue.ok : EnOk prog prime_residue.en := by
  refine fun_ok (g := ⟨[.int .i64, .int .i64], .int .i64, false, false⟩) (h := prime_residue.h) (Λ := prime_residue.L) tabs prime_residue.os prime_residue.osB Try.func79 (c := prime_residue.c) (by kernel_rfl) (by decide +kernel) (by decide +kernel) (fun C hC => ?_) (fun x => prime_residue.hk x)
  exact by
    have e : loops prime_residue.c prime_residue.h = [] := by kernel_rfl
    rw [e]
    exact LamOk.nil
noncomputable def prime_Discriminant.j2 (t4 : Int) : Option (Int × Int × Unit) :=
  (some ((IntKind.wrap .i64 ((4 : Int) * t4)), ((0 : Int), ())))
noncomputable def prime_Discriminant.j1 (t4 : Int) : Option (Int × Int × Unit) :=
  ((prime_residue t4 (4 : Int)).bind fun y2 =>
  (cond ((y2 == (1 : Int)))
  ((some (t4, ((0 : Int), ()))))
  ((prime_Discriminant.j2 t4))))
noncomputable def prime_Discriminant (t0 : Int) : Option (Int × Int × Unit) :=
  ((prime_Squarefree t0).bind fun y1 =>
  (cond ((y1.2.2.1 != (0 : Int)))
  ((some ((0 : Int), (y1.2.2.1, ()))))
  ((prime_Discriminant.j1 y1.1))))
noncomputable def prime_Discriminant.en : En := ⟨46, [.int .i64], .pair (.int .i64) (.pair (.int .i64) (.unit)), true, fun x => prime_Discriminant x.1⟩
noncomputable def prime_Discriminant.o : List En := [prime_Squarefree.en, prime_residue.en]
noncomputable def prime_Discriminant.oB : List EnB := []
def prime_Discriminant.h : HT := .n
noncomputable def prime_Discriminant.c : Code := Try.f46.body.getD .skip
noncomputable def prime_Discriminant.L : Lam := fun _ i s K => none
theorem prime_Discriminant.os : AllOk prog prime_Discriminant.o := ⟨prime_Squarefree.ok, prime_residue.ok, trivial⟩
theorem prime_Discriminant.osB : AllBOk prog prime_Discriminant.oB := trivial
theorem prime_Discriminant.hk (x) : semK env (orc prime_Discriminant.o) (orcB prime_Discriminant.oB) 22 (prime_Discriminant.L _) prime_Discriminant.c prime_Discriminant.h (S.init (avs [.int .i64] x)) (fin env Try.f46 ⟨[.int .i64], .pair (.int .i64) (.pair (.int .i64) (.unit)), true, false⟩) = prime_Discriminant.en.g x := by kernel_rfl
theorem prime_Discriminant.ok : EnOk prog prime_Discriminant.en := by
  refine fun_ok (g := ⟨[.int .i64], .pair (.int .i64) (.pair (.int .i64) (.unit)), true, false⟩) (h := prime_Discriminant.h) (Λ := prime_Discriminant.L) tabs prime_Discriminant.os prime_Discriminant.osB Try.func46 (c := prime_Discriminant.c) (by kernel_rfl) (by decide +kernel) (by decide +kernel) (fun C hC => ?_) (fun x => prime_Discriminant.hk x)
  exact by
    have e : loops prime_Discriminant.c prime_Discriminant.h = [] := by kernel_rfl
    rw [e]
    exact LamOk.nil
noncomputable def bernoulli_Fundamental.j1 (t0 : Int) : Option (Bool) :=
  ((prime_Discriminant t0).bind fun y1 =>
  (some (y1.1 == t0)))
noncomputable def bernoulli_Fundamental (t0 : Int) : Option (Bool) :=
  (cond ((t0 == (0 : Int)))
  ((some false))
  ((cond ((decide (t0 > (40000 : Int))))
  ((some false))
  ((cond ((decide (t0 < (-40000 : Int))))
  ((some false))
  ((bernoulli_Fundamental.j1 t0)))))))
noncomputable def bernoulli_Fundamental.en : En := ⟨20, [.int .i64], .bool, false, fun x => bernoulli_Fundamental x.1⟩
noncomputable def bernoulli_Fundamental.o : List En := [prime_Discriminant.en]
noncomputable def bernoulli_Fundamental.oB : List EnB := []
def bernoulli_Fundamental.h : HT := .n
noncomputable def bernoulli_Fundamental.c : Code := Try.f20.body.getD .skip
noncomputable def bernoulli_Fundamental.L : Lam := fun _ i s K => none
theorem bernoulli_Fundamental.os : AllOk prog bernoulli_Fundamental.o := ⟨prime_Discriminant.ok, trivial⟩
theorem bernoulli_Fundamental.osB : AllBOk prog bernoulli_Fundamental.oB := trivial
theorem bernoulli_Fundamental.hk (x) : semK env (orc bernoulli_Fundamental.o) (orcB bernoulli_Fundamental.oB) 23 (bernoulli_Fundamental.L _) bernoulli_Fundamental.c bernoulli_Fundamental.h (S.init (avs [.int .i64] x)) (fin env Try.f20 ⟨[.int .i64], .bool, false, false⟩) = bernoulli_Fundamental.en.g x := by kernel_rfl
theorem bernoulli_Fundamental.ok : EnOk prog bernoulli_Fundamental.en := by
  refine fun_ok (g := ⟨[.int .i64], .bool, false, false⟩) (h := bernoulli_Fundamental.h) (Λ := bernoulli_Fundamental.L) tabs bernoulli_Fundamental.os bernoulli_Fundamental.osB Try.func20 (c := bernoulli_Fundamental.c) (by kernel_rfl) (by decide +kernel) (by decide +kernel) (fun C hC => ?_) (fun x => bernoulli_Fundamental.hk x)
  exact by
    have e : loops bernoulli_Fundamental.c bernoulli_Fundamental.h = [] := by kernel_rfl
    rw [e]
    exact LamOk.nil
noncomputable def prime_symbol.j4  : Option (Int) :=
  (some (0 : Int))
noncomputable def prime_symbol.j3  : Option (Int) :=
  (prime_symbol.j4)
noncomputable def prime_symbol.j2 (t14 : Bool) : Option (Int) :=
  (cond (t14)
  ((some (-1 : Int)))
  ((prime_symbol.j3)))
noncomputable def prime_symbol.j1 (t10 : Int) (t11 : Bool) : Option (Int) :=
  (cond (t11)
  ((some (1 : Int)))
  ((cond ((t10 == (3 : Int)))
  ((prime_symbol.j2 (t10 == (3 : Int))))
  ((prime_symbol.j2 (t10 == (5 : Int)))))))
noncomputable def prime_symbol.j8 (t0 : Int) (t1 : Int) (t5 : Int) (t6 : Int) : Option ((Int × Int × Int × Int × Unit) ⊕ ((Int × Unit))) :=
  (cond (decide (t1 = 0))
  none
  ((some (.inl ((Int.tmod (IntKind.wrap .i64 (t0 * t0)) t1), t1, t5, (IntKind.wrap .i64 (Int.tdiv t6 (2 : Int))), ())))))
noncomputable def prime_symbol.j7 (t0 : Int) (t1 : Int) (t5 : Int) (t6 : Int) : Option ((Int × Int × Int × Int × Unit) ⊕ ((Int × Unit))) :=
  (cond (((Int.tmod t6 (2 : Int)) == (1 : Int)))
  ((cond (decide (t1 = 0))
  none
  ((prime_symbol.j8 t0 t1 (Int.tmod (IntKind.wrap .i64 (t5 * t0)) t1) t6))))
  ((prime_symbol.j8 t0 t1 t5 t6)))
noncomputable def prime_symbol.s0 (t0 : Int) (t1 : Int) (t5 : Int) (t6 : Int) : Option ((Int × Int × Int × Int × Unit) ⊕ ((Int × Unit))) :=
  (cond ((decide (t6 > (0 : Int))))
  ((prime_symbol.j7 t0 t1 t5 t6))
  ((some (.inr (t5, ())))))
noncomputable def prime_symbol.j9  : Option (Int) :=
  (some (-1 : Int))
noncomputable def prime_symbol.k0 (t5 : Int) : Option (Int) :=
  (cond ((t5 == (1 : Int)))
  ((some (1 : Int)))
  ((prime_symbol.j9)))
noncomputable def prime_symbol.j6 (t0 : Int) (t1 : Int) : Option (Int) :=
  ((iterL (fun x : Int × Int × Int × Int × Unit => prime_symbol.s0 x.1 x.2.1 x.2.2.1 x.2.2.2.1) (t0, t1, (1 : Int), (IntKind.wrap .i64 (Int.tdiv (IntKind.wrap .i64 (t1 - (1 : Int))) (2 : Int))), ())).bind fun y => prime_symbol.k0 y.1)
noncomputable def prime_symbol.j5 (t0 : Int) (t1 : Int) : Option (Int) :=
  ((prime_residue t0 t1).bind fun y2 =>
  (cond ((y2 == (0 : Int)))
  ((some (0 : Int)))
  ((prime_symbol.j6 y2 t1))))
noncomputable def prime_symbol (t0 : Int) (t1 : Int) : Option (Int) :=
  (cond ((t1 == (2 : Int)))
  (((prime_residue t0 (8 : Int)).bind fun y1 =>
  (cond ((y1 == (1 : Int)))
  ((prime_symbol.j1 y1 (y1 == (1 : Int))))
  ((prime_symbol.j1 y1 (y1 == (7 : Int)))))))
  ((prime_symbol.j5 t0 t1)))
noncomputable def prime_symbol.en : En := ⟨84, [.int .i64, .int .i64], .int .i64, false, fun x => prime_symbol x.1 x.2.1⟩
noncomputable def prime_symbol.o : List En := [prime_residue.en]
noncomputable def prime_symbol.oB : List EnB := []
def prime_symbol.h : HT := .two (.n) (.two (.n) (.two (.n) (.two (.n) (.two (.n) (.two (.two (.n) (.lp 0)) (.n))))))
noncomputable def prime_symbol.c : Code := Try.f84.body.getD .skip
def prime_symbol.h0 : HT := .n
noncomputable def prime_symbol.c0 : Code := (find (loops prime_symbol.c prime_symbol.h) 0).getD .skip
def prime_symbol.d0 : Fm := [.v 0 (.int .i64), .v 1 (.int .i64), .v 5 (.int .i64), .v 6 (.int .i64)]
def prime_symbol.x0 : Xs := [(.exit 1, [.v 5 (.int .i64)])]
noncomputable def prime_symbol.r0 (x : (Fm.ty prime_symbol.d0).den) : Option ((Fm.ty prime_symbol.d0).den ⊕ (Xs.T prime_symbol.x0)) := prime_symbol.s0 x.1 x.2.1 x.2.2.1 x.2.2.2.1
noncomputable def prime_symbol.L : Lam := fun _ i s K => cond (Nat.beq i 0) (lamK prime_symbol.d0 prime_symbol.x0 prime_symbol.r0 s K) (none)
theorem prime_symbol.hf0 (x) : roundK env (orc prime_symbol.o) (orcB prime_symbol.oB) 44 prime_symbol.L prime_symbol.c0 prime_symbol.h0 prime_symbol.d0 prime_symbol.x0 x = prime_symbol.r0 x := by kernel_rfl
theorem prime_symbol.os : AllOk prog prime_symbol.o := ⟨prime_residue.ok, trivial⟩
theorem prime_symbol.osB : AllBOk prog prime_symbol.oB := trivial
theorem prime_symbol.l0 {C : Ctx} (hC : C.n = 44) : LamAt prog C prime_symbol.L 0 prime_symbol.c0 := by
  intro R s K r hk
  refine loop_ok (D := prime_symbol.d0) (X := prime_symbol.x0) (h := prime_symbol.h0) (f := prime_symbol.r0) tabs (orc_ok _ prime_symbol.os) (orcB_ok _ prime_symbol.osB) (fun x => by rw [hC]; exact prime_symbol.hf0 x) (Λ := prime_symbol.L) ?_ (by kernel_rfl) (by kernel_rfl) (K := K) (s := s) (by exact hk)
  exact by
    have e : loops prime_symbol.c0 prime_symbol.h0 = [] := by kernel_rfl
    rw [e]
    exact LamOk.nil
theorem prime_symbol.hk (x) : semK env (orc prime_symbol.o) (orcB prime_symbol.oB) 44 (prime_symbol.L _) prime_symbol.c prime_symbol.h (S.init (avs [.int .i64, .int .i64] x)) (fin env Try.f84 ⟨[.int .i64, .int .i64], .int .i64, false, false⟩) = prime_symbol.en.g x := by kernel_rfl
theorem prime_symbol.ok : EnOk prog prime_symbol.en := by
  refine fun_ok (g := ⟨[.int .i64, .int .i64], .int .i64, false, false⟩) (h := prime_symbol.h) (Λ := prime_symbol.L) tabs prime_symbol.os prime_symbol.osB Try.func84 (c := prime_symbol.c) (by kernel_rfl) (by decide +kernel) (by decide +kernel) (fun C hC => ?_) (fun x => prime_symbol.hk x)
  exact by
    have e : loops prime_symbol.c prime_symbol.h = [(0, prime_symbol.c0)] := by kernel_rfl
    rw [e]
    exact LamOk.cons (prime_symbol.l0 hC) (LamOk.nil)
noncomputable def prime_Kronecker.j2  : Option (Int × Int × Unit) :=
  (some ((0 : Int), ((0 : Int), ())))
noncomputable def prime_Kronecker.j8 (t0 : Int) (t6 : Int) (t37 : List (Int × Int × Unit)) (t38 : Int) (t39 : Int) : Option ((Int × Int × (List (Int × Int × Unit)) × Int × Int × Unit) ⊕ ((Int × Unit) ⊕ (Int × Int × Unit))) :=
  (some (.inl (t0, t6, t37, t38, (IntKind.wrap .i64 (t39 + (1 : Int))), ())))
noncomputable def prime_Kronecker.j7 (t0 : Int) (t6 : Int) (t11 : Int) (t37 : List (Int × Int × Unit)) (t38 : Int) (t39 : Int) (b10_0 : Int) (b10_1 : Int) : Option ((Int × Int × (List (Int × Int × Unit)) × Int × Int × Unit) ⊕ ((Int × Unit) ⊕ (Int × Int × Unit))) :=
  (cond (((Int.tmod b10_1 (2 : Int)) == (1 : Int)))
  ((prime_Kronecker.j8 t0 (IntKind.wrap .i64 (t6 * t11)) t37 t38 t39))
  ((prime_Kronecker.j8 t0 t6 t37 t38 t39)))
noncomputable def prime_Kronecker.j6 (t0 : Int) (t6 : Int) (t37 : List (Int × Int × Unit)) (t38 : Int) (t39 : Int) : Option ((Int × Int × (List (Int × Int × Unit)) × Int × Int × Unit) ⊕ ((Int × Unit) ⊕ (Int × Int × Unit))) :=
  (cond (inB t39 (List.length t37))
  (((prime_symbol t0 (List.getD t37 (t39.toNat) ((0 : Int), ((0 : Int), ()))).1).bind fun y5 =>
  (cond ((y5 == (0 : Int)))
  ((some (.inr (.inr ((0 : Int), (0 : Int), ())))))
  ((prime_Kronecker.j7 t0 t6 y5 t37 t38 t39 (List.getD t37 (t39.toNat) ((0 : Int), ((0 : Int), ()))).1 (List.getD t37 (t39.toNat) ((0 : Int), ((0 : Int), ()))).2.1)))))
  none)
noncomputable def prime_Kronecker.s0 (t0 : Int) (t6 : Int) (t37 : List (Int × Int × Unit)) (t38 : Int) (t39 : Int) : Option ((Int × Int × (List (Int × Int × Unit)) × Int × Int × Unit) ⊕ ((Int × Unit) ⊕ (Int × Int × Unit))) :=
  (cond ((decide (t39 < t38)))
  ((prime_Kronecker.j6 t0 t6 t37 t38 t39))
  ((some (.inr (.inl (t6, ()))))))
noncomputable def prime_Kronecker.k0_0 (t6 : Int) : Option (Int × Int × Unit) :=
  (some (t6, ((0 : Int), ())))
noncomputable def prime_Kronecker.k0_1 (t4 : Int) (t5 : Int) : Option (Int × Int × Unit) :=
  (some (t4, (t5, ())))
noncomputable def prime_Kronecker.j5 (t0 : Int) (t1 : Int) : Option (Int × Int × Unit) :=
  ((prime_Factor t1).bind fun y3 =>
  ((iterL (fun x : Int × Int × (List (Int × Int × Unit)) × Int × Int × Unit => prime_Kronecker.s0 x.1 x.2.1 x.2.2.1 x.2.2.2.1 x.2.2.2.2.1) (t0, (-1 : Int), y3.1, ((List.length y3.1 : Nat) : Int), (0 : Int), ())).bind fun z => Sum.casesOn z (fun y => prime_Kronecker.k0_0 y.1) (fun z => prime_Kronecker.k0_1 z.1 z.2.1)))
noncomputable def prime_Kronecker.j4 (t0 : Int) (t1 : Int) : Option (Int × Int × Unit) :=
  (prime_Kronecker.j5 t0 t1)
noncomputable def prime_Kronecker.j10 (t0 : Int) (t1 : Int) : Option (Int × Int × Unit) :=
  ((prime_Factor t1).bind fun y7 =>
  ((iterL (fun x : Int × Int × (List (Int × Int × Unit)) × Int × Int × Unit => prime_Kronecker.s0 x.1 x.2.1 x.2.2.1 x.2.2.2.1 x.2.2.2.2.1) (t0, (1 : Int), y7.1, ((List.length y7.1 : Nat) : Int), (0 : Int), ())).bind fun z => Sum.casesOn z (fun y => prime_Kronecker.k0_0 y.1) (fun z => prime_Kronecker.k0_1 z.1 z.2.1)))
noncomputable def prime_Kronecker.j9 (t0 : Int) (t1 : Int) : Option (Int × Int × Unit) :=
  (prime_Kronecker.j10 t0 t1)
noncomputable def prime_Kronecker.j3 (t0 : Int) (t1 : Int) : Option (Int × Int × Unit) :=
  (cond ((decide (t1 < (0 : Int))))
  ((cond ((decide (t0 < (0 : Int))))
  ((prime_Kronecker.j4 t0 (IntKind.wrap .i64 (0 - t1))))
  ((prime_Kronecker.j9 t0 (IntKind.wrap .i64 (0 - t1))))))
  ((prime_Kronecker.j10 t0 t1)))
noncomputable def prime_Kronecker.j1 (t0 : Int) (t1 : Int) : Option (Int × Int × Unit) :=
  (cond ((t1 == (0 : Int)))
  ((cond ((t0 == (1 : Int)))
  ((some ((1 : Int), ((0 : Int), ()))))
  ((cond ((t0 == (-1 : Int)))
  ((some ((1 : Int), ((0 : Int), ()))))
  ((prime_Kronecker.j2))))))
  ((prime_Kronecker.j3 t0 t1)))
noncomputable def prime_Kronecker (t0 : Int) (t1 : Int) : Option (Int × Int × Unit) :=
  ((prime_beyond t0).bind fun y1 =>
  (cond (y1)
  ((some ((0 : Int), ((1 : Int), ()))))
  (((prime_beyond t1).bind fun y2 =>
  (cond (y2)
  ((some ((0 : Int), ((1 : Int), ()))))
  ((prime_Kronecker.j1 t0 t1)))))))
noncomputable def prime_Kronecker.en : En := ⟨48, [.int .i64, .int .i64], .pair (.int .i64) (.pair (.int .i64) (.unit)), true, fun x => prime_Kronecker x.1 x.2.1⟩
noncomputable def prime_Kronecker.o : List En := [prime_beyond.en, prime_Factor.en, prime_symbol.en]
noncomputable def prime_Kronecker.oB : List EnB := []
def prime_Kronecker.h : HT := .two (.n) (.two (.n) (.two (.n) (.two (.n) (.two (.n) (.two (.n) (.two (.two (.n) (.lp 0)) (.n)))))))
noncomputable def prime_Kronecker.c : Code := Try.f48.body.getD .skip
def prime_Kronecker.h0 : HT := .n
noncomputable def prime_Kronecker.c0 : Code := (find (loops prime_Kronecker.c prime_Kronecker.h) 0).getD .skip
def prime_Kronecker.d0 : Fm := [.v 0 (.int .i64), .v 6 (.int .i64), .v 37 (.sl (.pair (.int .i64) (.pair (.int .i64) (.unit)))), .v 38 (.int .i64), .v 39 (.int .i64)]
def prime_Kronecker.x0 : Xs := [(.exit 0, [.v 6 (.int .i64)]), (.ret, [.v 4 (.int .i64), .v 5 (.int .i64)])]
noncomputable def prime_Kronecker.r0 (x : (Fm.ty prime_Kronecker.d0).den) : Option ((Fm.ty prime_Kronecker.d0).den ⊕ (Xs.T prime_Kronecker.x0)) := prime_Kronecker.s0 x.1 x.2.1 x.2.2.1 x.2.2.2.1 x.2.2.2.2.1
noncomputable def prime_Kronecker.L : Lam := fun _ i s K => cond (Nat.beq i 0) (lamK prime_Kronecker.d0 prime_Kronecker.x0 prime_Kronecker.r0 s K) (none)
theorem prime_Kronecker.hf0 (x) : roundK env (orc prime_Kronecker.o) (orcB prime_Kronecker.oB) 58 prime_Kronecker.L prime_Kronecker.c0 prime_Kronecker.h0 prime_Kronecker.d0 prime_Kronecker.x0 x = prime_Kronecker.r0 x := by kernel_rfl
theorem prime_Kronecker.os : AllOk prog prime_Kronecker.o := ⟨prime_beyond.ok, prime_Factor.ok, prime_symbol.ok, trivial⟩
theorem prime_Kronecker.osB : AllBOk prog prime_Kronecker.oB := trivial
theorem prime_Kronecker.l0 {C : Ctx} (hC : C.n = 58) : LamAt prog C prime_Kronecker.L 0 prime_Kronecker.c0 := by
  intro R s K r hk
  refine loop_ok (D := prime_Kronecker.d0) (X := prime_Kronecker.x0) (h := prime_Kronecker.h0) (f := prime_Kronecker.r0) tabs (orc_ok _ prime_Kronecker.os) (orcB_ok _ prime_Kronecker.osB) (fun x => by rw [hC]; exact prime_Kronecker.hf0 x) (Λ := prime_Kronecker.L) ?_ (by kernel_rfl) (by kernel_rfl) (K := K) (s := s) (by exact hk)
  exact by
    have e : loops prime_Kronecker.c0 prime_Kronecker.h0 = [] := by kernel_rfl
    rw [e]
    exact LamOk.nil
theorem prime_Kronecker.hk (x) : semK env (orc prime_Kronecker.o) (orcB prime_Kronecker.oB) 58 (prime_Kronecker.L _) prime_Kronecker.c prime_Kronecker.h (S.init (avs [.int .i64, .int .i64] x)) (fin env Try.f48 ⟨[.int .i64, .int .i64], .pair (.int .i64) (.pair (.int .i64) (.unit)), true, false⟩) = prime_Kronecker.en.g x := by kernel_rfl
theorem prime_Kronecker.ok : EnOk prog prime_Kronecker.en := by
  refine fun_ok (g := ⟨[.int .i64, .int .i64], .pair (.int .i64) (.pair (.int .i64) (.unit)), true, false⟩) (h := prime_Kronecker.h) (Λ := prime_Kronecker.L) tabs prime_Kronecker.os prime_Kronecker.osB Try.func48 (c := prime_Kronecker.c) (by kernel_rfl) (by decide +kernel) (by decide +kernel) (fun C hC => ?_) (fun x => prime_Kronecker.hk x)
  exact by
    have e : loops prime_Kronecker.c prime_Kronecker.h = [(0, prime_Kronecker.c0)] := by kernel_rfl
    rw [e]
    exact LamOk.cons (prime_Kronecker.l0 hC) (LamOk.nil)
noncomputable def integer_Pow.j4 (t1 : Int) (b4_0 : Bool) (b4_1 : List Int) (b6_0 : Bool) (b6_1 : List Int) (b7_0 : Bool) (b7_1 : List Int) : Option ((Int × (Bool × List Int × Unit) × (Bool × List Int × Unit) × (Bool × List Int × Unit) × Unit) ⊕ (((Bool × List Int × Unit) × (Bool × List Int × Unit) × Unit))) :=
  (some (.inl ((IntKind.wrap .i64 (Int.tdiv t1 (2 : Int))), (b4_0, (b4_1, ())), (b6_0, (b6_1, ())), (b7_0, (b7_1, ())), ())))
noncomputable def integer_Pow.j3 (t1 : Int) (b4_0 : Bool) (b4_1 : List Int) (b6_0 : Bool) (b6_1 : List Int) (b7_0 : Bool) (b7_1 : List Int) : Option ((Int × (Bool × List Int × Unit) × (Bool × List Int × Unit) × (Bool × List Int × Unit) × Unit) ⊕ (((Bool × List Int × Unit) × (Bool × List Int × Unit) × Unit))) :=
  (cond ((decide (t1 > (1 : Int))))
  (((integer_Mul (b7_0, (b7_1, ())) (b7_0, (b7_1, ()))).bind fun y4 =>
  (integer_Pow.j4 t1 b4_0 b4_1 b6_0 b6_1 y4.1 y4.2.1)))
  ((integer_Pow.j4 t1 b4_0 b4_1 b6_0 b6_1 b7_0 b7_1)))
noncomputable def integer_Pow.j2 (t1 : Int) (b4_0 : Bool) (b4_1 : List Int) (b6_0 : Bool) (b6_1 : List Int) (b7_0 : Bool) (b7_1 : List Int) : Option ((Int × (Bool × List Int × Unit) × (Bool × List Int × Unit) × (Bool × List Int × Unit) × Unit) ⊕ (((Bool × List Int × Unit) × (Bool × List Int × Unit) × Unit))) :=
  (cond (((Int.tmod t1 (2 : Int)) == (1 : Int)))
  (((integer_Mul (b6_0, (b6_1, ())) (b7_0, (b7_1, ()))).bind fun y3 =>
  (integer_Pow.j3 t1 b4_0 b4_1 y3.1 y3.2.1 b7_0 b7_1)))
  ((integer_Pow.j3 t1 b4_0 b4_1 b6_0 b6_1 b7_0 b7_1)))
noncomputable def integer_Pow.s0 (t1 : Int) (b4 : Bool × List Int × Unit) (b6 : Bool × List Int × Unit) (b7 : Bool × List Int × Unit) : Option ((Int × (Bool × List Int × Unit) × (Bool × List Int × Unit) × (Bool × List Int × Unit) × Unit) ⊕ (((Bool × List Int × Unit) × (Bool × List Int × Unit) × Unit))) :=
  (cond ((decide (t1 > (0 : Int))))
  ((integer_Pow.j2 t1 b4.1 b4.2.1 b6.1 b6.2.1 b7.1 b7.2.1))
  ((some (.inr ((b4.1, (b4.2.1, ())), (b6.1, (b6.2.1, ())), ())))))
noncomputable def integer_Pow.k0 (b4 : Bool × List Int × Unit) (b6 : Bool × List Int × Unit) : Option ((Bool × List Int × Unit) × Bool × Unit) :=
  (some ((b6.1, (b6.2.1, ())), (true, ())))
noncomputable def integer_Pow.j1 (t1 : Int) (b2_0 : Bool) (b2_1 : List Int) (b4_1 : List Int) : Option ((Bool × List Int × Unit) × Bool × Unit) :=
  ((integer_Small (1 : Int)).bind fun y1 =>
  ((integer_Normalize (b2_0, (b2_1, ()))).bind fun y2 =>
  ((iterL (fun x : Int × (Bool × List Int × Unit) × (Bool × List Int × Unit) × (Bool × List Int × Unit) × Unit => integer_Pow.s0 x.1 x.2.1 x.2.2.1 x.2.2.2.1) (t1, (false, (b4_1, ())), (y1.1, (y1.2.1, ())), (y2.1, (y2.2.1, ())), ())).bind fun y => integer_Pow.k0 y.1 y.2.1)))
noncomputable def integer_Pow (t0 : Bool × List Int × Unit) (t1 : Int) : Option ((Bool × List Int × Unit) × Bool × Unit) :=
  (cond ((decide (t1 < (0 : Int))))
  ((some ((false, (([] : List Int), ())), (false, ()))))
  ((cond ((decide (t1 > (64 : Int))))
  ((some ((false, (([] : List Int), ())), (false, ()))))
  ((integer_Pow.j1 t1 t0.1 t0.2.1 ([] : List Int))))))
noncomputable def integer_Pow.en : En := ⟨91, [.pair (.bool) (.pair (.sl (.int .u32)) (.unit)), .int .i64], .pair (.pair (.bool) (.pair (.sl (.int .u32)) (.unit))) (.pair (.bool) (.unit)), true, fun x => integer_Pow x.1 x.2.1⟩
noncomputable def integer_Pow.o : List En := [integer_Small.en, integer_Mul.en, integer_Normalize.en]
noncomputable def integer_Pow.oB : List EnB := []
def integer_Pow.h : HT := .two (.n) (.two (.n) (.two (.n) (.two (.lp 0) (.n))))
noncomputable def integer_Pow.c : Code := Try.f91.body.getD .skip
def integer_Pow.h0 : HT := .n
noncomputable def integer_Pow.c0 : Code := (find (loops integer_Pow.c integer_Pow.h) 0).getD .skip
def integer_Pow.d0 : Fm := [.v 1 (.int .i64), .box 4 (.pair (.bool) (.pair (.sl (.int .u32)) (.unit))), .box 6 (.pair (.bool) (.pair (.sl (.int .u32)) (.unit))), .box 7 (.pair (.bool) (.pair (.sl (.int .u32)) (.unit))), .ptr 4 4, .ptr 6 6, .ptr 7 7]
def integer_Pow.x0 : Xs := [(.exit 0, [.box 4 (.pair (.bool) (.pair (.sl (.int .u32)) (.unit))), .box 6 (.pair (.bool) (.pair (.sl (.int .u32)) (.unit))), .ptr 4 4, .ptr 6 6])]
noncomputable def integer_Pow.r0 (x : (Fm.ty integer_Pow.d0).den) : Option ((Fm.ty integer_Pow.d0).den ⊕ (Xs.T integer_Pow.x0)) := integer_Pow.s0 x.1 x.2.1 x.2.2.1 x.2.2.2.1
noncomputable def integer_Pow.L : Lam := fun _ i s K => cond (Nat.beq i 0) (lamK integer_Pow.d0 integer_Pow.x0 integer_Pow.r0 s K) (none)
theorem integer_Pow.hf0 (x) : roundK env (orc integer_Pow.o) (orcB integer_Pow.oB) 34 integer_Pow.L integer_Pow.c0 integer_Pow.h0 integer_Pow.d0 integer_Pow.x0 x = integer_Pow.r0 x := by kernel_rfl
theorem integer_Pow.os : AllOk prog integer_Pow.o := ⟨integer_Small.ok, integer_Mul.ok, integer_Normalize.ok, trivial⟩
theorem integer_Pow.osB : AllBOk prog integer_Pow.oB := trivial
theorem integer_Pow.l0 {C : Ctx} (hC : C.n = 34) : LamAt prog C integer_Pow.L 0 integer_Pow.c0 := by
  intro R s K r hk
  refine loop_ok (D := integer_Pow.d0) (X := integer_Pow.x0) (h := integer_Pow.h0) (f := integer_Pow.r0) tabs (orc_ok _ integer_Pow.os) (orcB_ok _ integer_Pow.osB) (fun x => by rw [hC]; exact integer_Pow.hf0 x) (Λ := integer_Pow.L) ?_ (by kernel_rfl) (by kernel_rfl) (K := K) (s := s) (by exact hk)
  exact by
    have e : loops integer_Pow.c0 integer_Pow.h0 = [] := by kernel_rfl
    rw [e]
    exact LamOk.nil
theorem integer_Pow.hk (x) : semK env (orc integer_Pow.o) (orcB integer_Pow.oB) 34 (integer_Pow.L _) integer_Pow.c integer_Pow.h (S.init (avs [.pair (.bool) (.pair (.sl (.int .u32)) (.unit)), .int .i64] x)) (fin env Try.f91 ⟨[.pair (.bool) (.pair (.sl (.int .u32)) (.unit)), .int .i64], .pair (.pair (.bool) (.pair (.sl (.int .u32)) (.unit))) (.pair (.bool) (.unit)), true, false⟩) = integer_Pow.en.g x := by kernel_rfl
theorem integer_Pow.ok : EnOk prog integer_Pow.en := by
  refine fun_ok (g := ⟨[.pair (.bool) (.pair (.sl (.int .u32)) (.unit)), .int .i64], .pair (.pair (.bool) (.pair (.sl (.int .u32)) (.unit))) (.pair (.bool) (.unit)), true, false⟩) (h := integer_Pow.h) (Λ := integer_Pow.L) tabs integer_Pow.os integer_Pow.osB Try.func91 (c := integer_Pow.c) (by kernel_rfl) (by decide +kernel) (by decide +kernel) (fun C hC => ?_) (fun x => integer_Pow.hk x)
  exact by
    have e : loops integer_Pow.c integer_Pow.h = [(0, integer_Pow.c0)] := by kernel_rfl
    rw [e]
    exact LamOk.cons (integer_Pow.l0 hC) (LamOk.nil)
noncomputable def rational_Pow.j2 (b4_1 : List Int) (b4_3 : List Int) (b7_0 : Bool) (b7_1 : List Int) (b9_0 : Bool) (b9_1 : List Int) : Option (((Bool × List Int × Unit) × (Bool × List Int × Unit) × Unit) × Bool × Unit) :=
  ((rational_New (b7_0, (b7_1, ())) (b9_0, (b9_1, ()))).bind fun y4 =>
  (some (((y4.1.1.1, (y4.1.1.2.1, ())), ((y4.1.2.1.1, (y4.1.2.1.2.1, ())), ())), (y4.2.1, ()))))
noncomputable def rational_Pow.j1 (t1 : Int) (b2_0 : Bool) (b2_1 : List Int) (b2_2 : Bool) (b2_3 : List Int) (b4_1 : List Int) (b4_3 : List Int) : Option (((Bool × List Int × Unit) × (Bool × List Int × Unit) × Unit) × Bool × Unit) :=
  ((rational_of ((b2_0, (b2_1, ())), ((b2_2, (b2_3, ())), ()))).bind fun y1 =>
  ((integer_Pow (y1.1.1, (y1.1.2.1, ())) (mx2 t1 (IntKind.wrap .i64 (0 - t1)))).bind fun y2 =>
  ((integer_Pow (y1.2.1.1, (y1.2.1.2.1, ())) (mx2 t1 (IntKind.wrap .i64 (0 - t1)))).bind fun y3 =>
  (cond ((decide (t1 < (0 : Int))))
  ((rational_Pow.j2 b4_1 b4_3 y3.1.1 y3.1.2.1 y2.1.1 y2.1.2.1))
  ((rational_Pow.j2 b4_1 b4_3 y2.1.1 y2.1.2.1 y3.1.1 y3.1.2.1))))))
noncomputable def rational_Pow (t0 : (Bool × List Int × Unit) × (Bool × List Int × Unit) × Unit) (t1 : Int) : Option (((Bool × List Int × Unit) × (Bool × List Int × Unit) × Unit) × Bool × Unit) :=
  (cond ((decide (t1 < (-64 : Int))))
  ((some (((false, (([] : List Int), ())), ((false, (([] : List Int), ())), ())), (false, ()))))
  ((cond ((decide (t1 > (64 : Int))))
  ((some (((false, (([] : List Int), ())), ((false, (([] : List Int), ())), ())), (false, ()))))
  ((rational_Pow.j1 t1 t0.1.1 t0.1.2.1 t0.2.1.1 t0.2.1.2.1 ([] : List Int) ([] : List Int))))))
noncomputable def rational_Pow.en : En := ⟨54, [.pair (.pair (.bool) (.pair (.sl (.int .u32)) (.unit))) (.pair (.pair (.bool) (.pair (.sl (.int .u32)) (.unit))) (.unit)), .int .i64], .pair (.pair (.pair (.bool) (.pair (.sl (.int .u32)) (.unit))) (.pair (.pair (.bool) (.pair (.sl (.int .u32)) (.unit))) (.unit))) (.pair (.bool) (.unit)), true, fun x => rational_Pow x.1 x.2.1⟩
noncomputable def rational_Pow.o : List En := [rational_of.en, integer_Pow.en, rational_New.en]
noncomputable def rational_Pow.oB : List EnB := []
def rational_Pow.h : HT := .n
noncomputable def rational_Pow.c : Code := Try.f54.body.getD .skip
noncomputable def rational_Pow.L : Lam := fun _ i s K => none
theorem rational_Pow.os : AllOk prog rational_Pow.o := ⟨rational_of.ok, integer_Pow.ok, rational_New.ok, trivial⟩
theorem rational_Pow.osB : AllBOk prog rational_Pow.oB := trivial
theorem rational_Pow.hk (x) : semK env (orc rational_Pow.o) (orcB rational_Pow.oB) 49 (rational_Pow.L _) rational_Pow.c rational_Pow.h (S.init (avs [.pair (.pair (.bool) (.pair (.sl (.int .u32)) (.unit))) (.pair (.pair (.bool) (.pair (.sl (.int .u32)) (.unit))) (.unit)), .int .i64] x)) (fin env Try.f54 ⟨[.pair (.pair (.bool) (.pair (.sl (.int .u32)) (.unit))) (.pair (.pair (.bool) (.pair (.sl (.int .u32)) (.unit))) (.unit)), .int .i64], .pair (.pair (.pair (.bool) (.pair (.sl (.int .u32)) (.unit))) (.pair (.pair (.bool) (.pair (.sl (.int .u32)) (.unit))) (.unit))) (.pair (.bool) (.unit)), true, false⟩) = rational_Pow.en.g x := by kernel_rfl
theorem rational_Pow.ok : EnOk prog rational_Pow.en := by
  refine fun_ok (g := ⟨[.pair (.pair (.bool) (.pair (.sl (.int .u32)) (.unit))) (.pair (.pair (.bool) (.pair (.sl (.int .u32)) (.unit))) (.unit)), .int .i64], .pair (.pair (.pair (.bool) (.pair (.sl (.int .u32)) (.unit))) (.pair (.pair (.bool) (.pair (.sl (.int .u32)) (.unit))) (.unit))) (.pair (.bool) (.unit)), true, false⟩) (h := rational_Pow.h) (Λ := rational_Pow.L) tabs rational_Pow.os rational_Pow.osB Try.func54 (c := rational_Pow.c) (by kernel_rfl) (by decide +kernel) (by decide +kernel) (fun C hC => ?_) (fun x => rational_Pow.hk x)
  exact by
    have e : loops rational_Pow.c rational_Pow.h = [] := by kernel_rfl
    rw [e]
    exact LamOk.nil
noncomputable def bernoulli_Generalized.j5 (t0 : Int) (t1 : Int) (t6 : Int) (t8 : Int) (t59 : Int) (t60 : Int) (b4_0 : Bool) (b4_1 : List Int) (b4_2 : Bool) (b4_3 : List Int) (a40 : List (Bool × List Int × Unit)) (b11_0 : Bool) (b11_1 : List Int) (b12_0 : Bool) (b12_1 : List Int) : Option ((Int × Int × Int × Int × Int × Int × (List (Bool × List Int × Unit)) × ((Bool × List Int × Unit) × (Bool × List Int × Unit) × Unit) × (Bool × List Int × Unit) × (Bool × List Int × Unit) × Unit) ⊕ ((Int × Int × Int × Int × (List (Bool × List Int × Unit)) × ((Bool × List Int × Unit) × (Bool × List Int × Unit) × Unit) × Unit))) :=
  (cond (inB t60 (List.length a40))
  (((integer_Add ((List.getD a40 ((0 + t60.toNat)) (false, (([] : List Int), ()))).1, ((List.getD a40 ((0 + t60.toNat)) (false, (([] : List Int), ()))).2.1, ())) (b12_0, (b12_1, ()))).bind fun y5 =>
  (cond (inB t60 (List.length a40))
  (((integer_Mul (b12_0, (b12_1, ())) (b11_0, (b11_1, ()))).bind fun y7 =>
  (some (.inl (t0, t1, t6, t8, t59, (IntKind.wrap .i64 (t60 + (1 : Int))), (List.set a40 ((0 + t60.toNat)) (y5.1, (y5.2.1, ()))), ((b4_0, (b4_1, ())), ((b4_2, (b4_3, ())), ())), (b11_0, (b11_1, ())), (y7.1, (y7.2.1, ())), ())))))
  none)))
  none)
noncomputable def bernoulli_Generalized.s0 (t0 : Int) (t1 : Int) (t6 : Int) (t8 : Int) (t59 : Int) (t60 : Int) (a40 : List (Bool × List Int × Unit)) (b4 : (Bool × List Int × Unit) × (Bool × List Int × Unit) × Unit) (b11 : Bool × List Int × Unit) (b12 : Bool × List Int × Unit) : Option ((Int × Int × Int × Int × Int × Int × (List (Bool × List Int × Unit)) × ((Bool × List Int × Unit) × (Bool × List Int × Unit) × Unit) × (Bool × List Int × Unit) × (Bool × List Int × Unit) × Unit) ⊕ ((Int × Int × Int × Int × (List (Bool × List Int × Unit)) × ((Bool × List Int × Unit) × (Bool × List Int × Unit) × Unit) × Unit))) :=
  (cond ((decide (t60 < t59)))
  ((bernoulli_Generalized.j5 t0 t1 t6 t8 t59 t60 b4.1.1 b4.1.2.1 b4.2.1.1 b4.2.1.2.1 a40 b11.1 b11.2.1 b12.1 b12.2.1))
  ((some (.inr (t0, t1, t6, t8, a40, ((b4.1.1, (b4.1.2.1, ())), ((b4.2.1.1, (b4.2.1.2.1, ())), ())), ())))))
noncomputable def bernoulli_Generalized.k0 (t0 : Int) (t1 : Int) (t6 : Int) (t8 : Int) (a40 : List (Bool × List Int × Unit)) (b4 : (Bool × List Int × Unit) × (Bool × List Int × Unit) × Unit) : Option ((Int × Int × Int × Int × (List (Bool × List Int × Unit)) × ((Bool × List Int × Unit) × (Bool × List Int × Unit) × Unit) × Unit) ⊕ ((Int × Int × (List (Bool × List Int × Unit)) × ((Bool × List Int × Unit) × (Bool × List Int × Unit) × Unit) × Unit))) :=
  (some (.inl (t0, t1, t6, (IntKind.wrap .i64 (t8 + (1 : Int))), a40, ((b4.1.1, (b4.1.2.1, ())), ((b4.2.1.1, (b4.2.1.2.1, ())), ())), ())))
noncomputable def bernoulli_Generalized.j4 (t0 : Int) (t1 : Int) (t6 : Int) (t8 : Int) (t9 : Int) (b4_0 : Bool) (b4_1 : List Int) (b4_2 : Bool) (b4_3 : List Int) (a40 : List (Bool × List Int × Unit)) : Option ((Int × Int × Int × Int × (List (Bool × List Int × Unit)) × ((Bool × List Int × Unit) × (Bool × List Int × Unit) × Unit) × Unit) ⊕ ((Int × Int × (List (Bool × List Int × Unit)) × ((Bool × List Int × Unit) × (Bool × List Int × Unit) × Unit) × Unit))) :=
  ((integer_Small t8).bind fun y3 =>
  ((integer_Small t9).bind fun y4 =>
  ((iterL (fun x : Int × Int × Int × Int × Int × Int × (List (Bool × List Int × Unit)) × ((Bool × List Int × Unit) × (Bool × List Int × Unit) × Unit) × (Bool × List Int × Unit) × (Bool × List Int × Unit) × Unit => bernoulli_Generalized.s0 x.1 x.2.1 x.2.2.1 x.2.2.2.1 x.2.2.2.2.1 x.2.2.2.2.2.1 x.2.2.2.2.2.2.1 x.2.2.2.2.2.2.2.1 x.2.2.2.2.2.2.2.2.1 x.2.2.2.2.2.2.2.2.2.1) (t0, t1, t6, t8, ((List.length a40 : Nat) : Int), (0 : Int), a40, ((b4_0, (b4_1, ())), ((b4_2, (b4_3, ())), ())), (y3.1, (y3.2.1, ())), (y4.1, (y4.2.1, ())), ())).bind fun y => bernoulli_Generalized.k0 y.1 y.2.1 y.2.2.1 y.2.2.2.1 y.2.2.2.2.1 y.2.2.2.2.2.1)))
noncomputable def bernoulli_Generalized.j3 (t0 : Int) (t1 : Int) (t6 : Int) (t8 : Int) (b4_0 : Bool) (b4_1 : List Int) (b4_2 : Bool) (b4_3 : List Int) (a40 : List (Bool × List Int × Unit)) : Option ((Int × Int × Int × Int × (List (Bool × List Int × Unit)) × ((Bool × List Int × Unit) × (Bool × List Int × Unit) × Unit) × Unit) ⊕ ((Int × Int × (List (Bool × List Int × Unit)) × ((Bool × List Int × Unit) × (Bool × List Int × Unit) × Unit) × Unit))) :=
  ((prime_Kronecker t1 t8).bind fun y2 =>
  (cond ((y2.1 == (0 : Int)))
  ((some (.inl (t0, t1, t6, (IntKind.wrap .i64 (t8 + (1 : Int))), a40, ((b4_0, (b4_1, ())), ((b4_2, (b4_3, ())), ())), ()))))
  ((bernoulli_Generalized.j4 t0 t1 t6 t8 y2.1 b4_0 b4_1 b4_2 b4_3 a40))))
noncomputable def bernoulli_Generalized.s1 (t0 : Int) (t1 : Int) (t6 : Int) (t8 : Int) (a40 : List (Bool × List Int × Unit)) (b4 : (Bool × List Int × Unit) × (Bool × List Int × Unit) × Unit) : Option ((Int × Int × Int × Int × (List (Bool × List Int × Unit)) × ((Bool × List Int × Unit) × (Bool × List Int × Unit) × Unit) × Unit) ⊕ ((Int × Int × (List (Bool × List Int × Unit)) × ((Bool × List Int × Unit) × (Bool × List Int × Unit) × Unit) × Unit))) :=
  (cond ((decide (t8 ≤ t6)))
  ((bernoulli_Generalized.j3 t0 t1 t6 t8 b4.1.1 b4.1.2.1 b4.2.1.1 b4.2.1.2.1 a40))
  ((some (.inr (t0, t6, a40, ((b4.1.1, (b4.1.2.1, ())), ((b4.2.1.1, (b4.2.1.2.1, ())), ())), ())))))
noncomputable def bernoulli_Generalized.j6 (t0 : Int) (t6 : Int) (t14 : List ((Bool × List Int × Unit) × (Bool × List Int × Unit) × Unit)) (t80 : List Int) (t81 : Int) (t82 : Int) (b4_0 : Bool) (b4_1 : List Int) (b4_2 : Bool) (b4_3 : List Int) (a40 : List (Bool × List Int × Unit)) (b15_0 : Bool) (b15_1 : List Int) (b15_2 : Bool) (b15_3 : List Int) : Option ((Int × Int × (List ((Bool × List Int × Unit) × (Bool × List Int × Unit) × Unit)) × List Int × Int × Int × (List (Bool × List Int × Unit)) × ((Bool × List Int × Unit) × (Bool × List Int × Unit) × Unit) × ((Bool × List Int × Unit) × (Bool × List Int × Unit) × Unit) × Unit) ⊕ ((((Bool × List Int × Unit) × (Bool × List Int × Unit) × Unit) × ((Bool × List Int × Unit) × (Bool × List Int × Unit) × Unit) × Unit))) :=
  (cond (inB t82 (List.length t80))
  (((bernoulli_whole t6).bind fun y11 =>
  ((rational_Pow y11 (IntKind.wrap .i64 (t82 - (1 : Int)))).bind fun y12 =>
  ((bernoulli_whole (List.getD t80 (t82.toNat) (0 : Int))).bind fun y13 =>
  (cond (inB t82 (List.length t14))
  (((rational_Mul y13 (((List.getD t14 (t82.toNat) ((false, (([] : List Int), ())), ((false, (([] : List Int), ())), ()))).1.1, ((List.getD t14 (t82.toNat) ((false, (([] : List Int), ())), ((false, (([] : List Int), ())), ()))).1.2.1, ())), (((List.getD t14 (t82.toNat) ((false, (([] : List Int), ())), ((false, (([] : List Int), ())), ()))).2.1.1, ((List.getD t14 (t82.toNat) ((false, (([] : List Int), ())), ((false, (([] : List Int), ())), ()))).2.1.2.1, ())), ()))).bind fun y14 =>
  (cond (inB (IntKind.wrap .i64 (t0 - t82)) (List.length a40))
  (((rational_Whole ((List.getD a40 ((0 + (((IntKind.wrap .i64 (t0 - t82))).toNat))) (false, (([] : List Int), ()))).1, ((List.getD a40 ((0 + (((IntKind.wrap .i64 (t0 - t82))).toNat))) (false, (([] : List Int), ()))).2.1, ()))).bind fun y15 =>
  ((rational_Mul ((y12.1.1.1, (y12.1.1.2.1, ())), ((y12.1.2.1.1, (y12.1.2.1.2.1, ())), ())) y15).bind fun y16 =>
  ((rational_Mul y14 y16).bind fun y17 =>
  ((rational_Add ((b15_0, (b15_1, ())), ((b15_2, (b15_3, ())), ())) ((y17.1.1, (y17.1.2.1, ())), ((y17.2.1.1, (y17.2.1.2.1, ())), ()))).bind fun y18 =>
  (some (.inl (t0, t6, t14, t80, t81, (IntKind.wrap .i64 (t82 + (1 : Int))), a40, ((b4_0, (b4_1, ())), ((b4_2, (b4_3, ())), ())), ((y18.1.1, (y18.1.2.1, ())), ((y18.2.1.1, (y18.2.1.2.1, ())), ())), ()))))))))
  none)))
  none)))))
  none)
noncomputable def bernoulli_Generalized.s2 (t0 : Int) (t6 : Int) (t14 : List ((Bool × List Int × Unit) × (Bool × List Int × Unit) × Unit)) (t80 : List Int) (t81 : Int) (t82 : Int) (a40 : List (Bool × List Int × Unit)) (b4 : (Bool × List Int × Unit) × (Bool × List Int × Unit) × Unit) (b15 : (Bool × List Int × Unit) × (Bool × List Int × Unit) × Unit) : Option ((Int × Int × (List ((Bool × List Int × Unit) × (Bool × List Int × Unit) × Unit)) × List Int × Int × Int × (List (Bool × List Int × Unit)) × ((Bool × List Int × Unit) × (Bool × List Int × Unit) × Unit) × ((Bool × List Int × Unit) × (Bool × List Int × Unit) × Unit) × Unit) ⊕ ((((Bool × List Int × Unit) × (Bool × List Int × Unit) × Unit) × ((Bool × List Int × Unit) × (Bool × List Int × Unit) × Unit) × Unit))) :=
  (cond ((decide (t82 < t81)))
  ((bernoulli_Generalized.j6 t0 t6 t14 t80 t81 t82 b4.1.1 b4.1.2.1 b4.2.1.1 b4.2.1.2.1 a40 b15.1.1 b15.1.2.1 b15.2.1.1 b15.2.1.2.1))
  ((some (.inr (((b4.1.1, (b4.1.2.1, ())), ((b4.2.1.1, (b4.2.1.2.1, ())), ())), ((b15.1.1, (b15.1.2.1, ())), ((b15.2.1.1, (b15.2.1.2.1, ())), ())), ())))))
noncomputable def bernoulli_Generalized.k2 (b4 : (Bool × List Int × Unit) × (Bool × List Int × Unit) × Unit) (b15 : (Bool × List Int × Unit) × (Bool × List Int × Unit) × Unit) : Option (((Bool × List Int × Unit) × (Bool × List Int × Unit) × Unit) × Int × Unit) :=
  (some (((b15.1.1, (b15.1.2.1, ())), ((b15.2.1.1, (b15.2.1.2.1, ())), ())), ((0 : Int), ())))
noncomputable def bernoulli_Generalized.k1 (t0 : Int) (t6 : Int) (a40 : List (Bool × List Int × Unit)) (b4 : (Bool × List Int × Unit) × (Bool × List Int × Unit) × Unit) : Option (((Bool × List Int × Unit) × (Bool × List Int × Unit) × Unit) × Int × Unit) :=
  ((bernoulli_numbers t0).bind fun y8 =>
  ((bernoulli_whole (0 : Int)).bind fun y9 =>
  ((bernoulli_row t0).bind fun y10 =>
  ((iterL (fun x : Int × Int × (List ((Bool × List Int × Unit) × (Bool × List Int × Unit) × Unit)) × List Int × Int × Int × (List (Bool × List Int × Unit)) × ((Bool × List Int × Unit) × (Bool × List Int × Unit) × Unit) × ((Bool × List Int × Unit) × (Bool × List Int × Unit) × Unit) × Unit => bernoulli_Generalized.s2 x.1 x.2.1 x.2.2.1 x.2.2.2.1 x.2.2.2.2.1 x.2.2.2.2.2.1 x.2.2.2.2.2.2.1 x.2.2.2.2.2.2.2.1 x.2.2.2.2.2.2.2.2.1) (t0, t6, y8, y10, ((List.length y10 : Nat) : Int), (0 : Int), a40, ((b4.1.1, (b4.1.2.1, ())), ((b4.2.1.1, (b4.2.1.2.1, ())), ())), ((y9.1.1, (y9.1.2.1, ())), ((y9.2.1.1, (y9.2.1.2.1, ())), ())), ())).bind fun y => bernoulli_Generalized.k2 y.1 y.2.1))))
noncomputable def bernoulli_Generalized.j2 (t0 : Int) (t1 : Int) (t6 : Int) (b4_1 : List Int) (b4_3 : List Int) : Option (((Bool × List Int × Unit) × (Bool × List Int × Unit) × Unit) × Int × Unit) :=
  (cond (inC (IntKind.wrap .i64 (t0 + (1 : Int))) maxL)
  (((iterL (fun x : Int × Int × Int × Int × (List (Bool × List Int × Unit)) × ((Bool × List Int × Unit) × (Bool × List Int × Unit) × Unit) × Unit => bernoulli_Generalized.s1 x.1 x.2.1 x.2.2.1 x.2.2.2.1 x.2.2.2.2.1 x.2.2.2.2.2.1) (t0, t1, t6, (1 : Int), (List.replicate (((IntKind.wrap .i64 (t0 + (1 : Int)))).toNat) ((false, (([] : List Int), ())) : Bool × List Int × Unit)), ((false, (b4_1, ())), ((false, (b4_3, ())), ())), ())).bind fun y => bernoulli_Generalized.k1 y.1 y.2.1 y.2.2.1 y.2.2.2.1))
  none)
noncomputable def bernoulli_Generalized.j1 (t0 : Int) (t1 : Int) (b4_1 : List Int) (b4_3 : List Int) : Option (((Bool × List Int × Unit) × (Bool × List Int × Unit) × Unit) × Int × Unit) :=
  (cond ((decide (t1 < (0 : Int))))
  ((bernoulli_Generalized.j2 t0 t1 (IntKind.wrap .i64 (0 - t1)) b4_1 b4_3))
  ((bernoulli_Generalized.j2 t0 t1 t1 b4_1 b4_3)))
noncomputable def bernoulli_Generalized (t0 : Int) (t1 : Int) : Option (((Bool × List Int × Unit) × (Bool × List Int × Unit) × Unit) × Int × Unit) :=
  (cond ((decide (t0 < (1 : Int))))
  ((some (((false, (([] : List Int), ())), ((false, (([] : List Int), ())), ())), ((1 : Int), ()))))
  ((cond ((decide (t0 > (20 : Int))))
  ((some (((false, (([] : List Int), ())), ((false, (([] : List Int), ())), ())), ((1 : Int), ()))))
  (((bernoulli_Fundamental t1).bind fun y1 =>
  (cond ((!y1))
  ((some (((false, (([] : List Int), ())), ((false, (([] : List Int), ())), ())), ((1 : Int), ()))))
  ((bernoulli_Generalized.j1 t0 t1 ([] : List Int) ([] : List Int)))))))))
noncomputable def bernoulli_Generalized.en : En := ⟨23, [.int .i64, .int .i64], .pair (.pair (.pair (.bool) (.pair (.sl (.int .u32)) (.unit))) (.pair (.pair (.bool) (.pair (.sl (.int .u32)) (.unit))) (.unit))) (.pair (.int .i64) (.unit)), true, fun x => bernoulli_Generalized x.1 x.2.1⟩
noncomputable def bernoulli_Generalized.o : List En := [bernoulli_Fundamental.en, bernoulli_numbers.en, prime_Kronecker.en, integer_Small.en, integer_Add.en, integer_Mul.en, bernoulli_whole.en, bernoulli_row.en, rational_Pow.en, rational_Mul.en, rational_Whole.en, rational_Add.en]
noncomputable def bernoulli_Generalized.oB : List EnB := []
def bernoulli_Generalized.h : HT := .two (.n) (.two (.n) (.two (.n) (.two (.n) (.two (.n) (.two (.two (.n) (.lp 1)) (.two (.n) (.two (.n) (.two (.two (.n) (.lp 2)) (.n)))))))))
noncomputable def bernoulli_Generalized.c : Code := Try.f23.body.getD .skip
def bernoulli_Generalized.h1 : HT := .two (.n) (.two (.two (.n) (.two (.n) (.two (.n) (.two (.n) (.lp 0))))) (.n))
noncomputable def bernoulli_Generalized.c1 : Code := (find (loops bernoulli_Generalized.c bernoulli_Generalized.h) 1).getD .skip
def bernoulli_Generalized.d1 : Fm := [.v 0 (.int .i64), .v 1 (.int .i64), .v 6 (.int .i64), .v 8 (.int .i64), .arr 40 24 (.pair (.bool) (.pair (.sl (.int .u32)) (.unit))), .box 4 (.pair (.pair (.bool) (.pair (.sl (.int .u32)) (.unit))) (.pair (.pair (.bool) (.pair (.sl (.int .u32)) (.unit))) (.unit))), .own 7 40, .ptr 4 4]
def bernoulli_Generalized.x1 : Xs := [(.exit 0, [.v 0 (.int .i64), .v 6 (.int .i64), .arr 40 24 (.pair (.bool) (.pair (.sl (.int .u32)) (.unit))), .box 4 (.pair (.pair (.bool) (.pair (.sl (.int .u32)) (.unit))) (.pair (.pair (.bool) (.pair (.sl (.int .u32)) (.unit))) (.unit))), .own 7 40, .ptr 4 4])]
noncomputable def bernoulli_Generalized.r1 (x : (Fm.ty bernoulli_Generalized.d1).den) : Option ((Fm.ty bernoulli_Generalized.d1).den ⊕ (Xs.T bernoulli_Generalized.x1)) := bernoulli_Generalized.s1 x.1 x.2.1 x.2.2.1 x.2.2.2.1 x.2.2.2.2.1 x.2.2.2.2.2.1
def bernoulli_Generalized.h2 : HT := .n
noncomputable def bernoulli_Generalized.c2 : Code := (find (loops bernoulli_Generalized.c bernoulli_Generalized.h) 2).getD .skip
def bernoulli_Generalized.d2 : Fm := [.v 0 (.int .i64), .v 6 (.int .i64), .v 14 (.sl (.pair (.pair (.bool) (.pair (.sl (.int .u32)) (.unit))) (.pair (.pair (.bool) (.pair (.sl (.int .u32)) (.unit))) (.unit)))), .v 80 (.sl (.int .i64)), .v 81 (.int .i64), .v 82 (.int .i64), .arr 40 24 (.pair (.bool) (.pair (.sl (.int .u32)) (.unit))), .box 4 (.pair (.pair (.bool) (.pair (.sl (.int .u32)) (.unit))) (.pair (.pair (.bool) (.pair (.sl (.int .u32)) (.unit))) (.unit))), .box 15 (.pair (.pair (.bool) (.pair (.sl (.int .u32)) (.unit))) (.pair (.pair (.bool) (.pair (.sl (.int .u32)) (.unit))) (.unit))), .own 7 40, .ptr 4 4, .ptr 15 15]
def bernoulli_Generalized.x2 : Xs := [(.exit 4, [.box 4 (.pair (.pair (.bool) (.pair (.sl (.int .u32)) (.unit))) (.pair (.pair (.bool) (.pair (.sl (.int .u32)) (.unit))) (.unit))), .box 15 (.pair (.pair (.bool) (.pair (.sl (.int .u32)) (.unit))) (.pair (.pair (.bool) (.pair (.sl (.int .u32)) (.unit))) (.unit))), .ptr 4 4, .ptr 15 15])]
noncomputable def bernoulli_Generalized.r2 (x : (Fm.ty bernoulli_Generalized.d2).den) : Option ((Fm.ty bernoulli_Generalized.d2).den ⊕ (Xs.T bernoulli_Generalized.x2)) := bernoulli_Generalized.s2 x.1 x.2.1 x.2.2.1 x.2.2.2.1 x.2.2.2.2.1 x.2.2.2.2.2.1 x.2.2.2.2.2.2.1 x.2.2.2.2.2.2.2.1 x.2.2.2.2.2.2.2.2.1
def bernoulli_Generalized.h0 : HT := .n
noncomputable def bernoulli_Generalized.c0 : Code := (find (loops bernoulli_Generalized.c1 bernoulli_Generalized.h1) 0).getD .skip
def bernoulli_Generalized.d0 : Fm := [.v 0 (.int .i64), .v 1 (.int .i64), .v 6 (.int .i64), .v 8 (.int .i64), .v 59 (.int .i64), .v 60 (.int .i64), .arr 40 24 (.pair (.bool) (.pair (.sl (.int .u32)) (.unit))), .box 4 (.pair (.pair (.bool) (.pair (.sl (.int .u32)) (.unit))) (.pair (.pair (.bool) (.pair (.sl (.int .u32)) (.unit))) (.unit))), .box 11 (.pair (.bool) (.pair (.sl (.int .u32)) (.unit))), .box 12 (.pair (.bool) (.pair (.sl (.int .u32)) (.unit))), .own 7 40, .ptr 4 4, .ptr 11 11, .ptr 12 12]
def bernoulli_Generalized.x0 : Xs := [(.exit 2, [.v 0 (.int .i64), .v 1 (.int .i64), .v 6 (.int .i64), .v 8 (.int .i64), .arr 40 24 (.pair (.bool) (.pair (.sl (.int .u32)) (.unit))), .box 4 (.pair (.pair (.bool) (.pair (.sl (.int .u32)) (.unit))) (.pair (.pair (.bool) (.pair (.sl (.int .u32)) (.unit))) (.unit))), .own 7 40, .ptr 4 4])]
noncomputable def bernoulli_Generalized.r0 (x : (Fm.ty bernoulli_Generalized.d0).den) : Option ((Fm.ty bernoulli_Generalized.d0).den ⊕ (Xs.T bernoulli_Generalized.x0)) := bernoulli_Generalized.s0 x.1 x.2.1 x.2.2.1 x.2.2.2.1 x.2.2.2.2.1 x.2.2.2.2.2.1 x.2.2.2.2.2.2.1 x.2.2.2.2.2.2.2.1 x.2.2.2.2.2.2.2.2.1 x.2.2.2.2.2.2.2.2.2.1
noncomputable def bernoulli_Generalized.L : Lam := fun _ i s K => cond (Nat.beq i 0) (lamK bernoulli_Generalized.d0 bernoulli_Generalized.x0 bernoulli_Generalized.r0 s K) (cond (Nat.beq i 1) (lamK bernoulli_Generalized.d1 bernoulli_Generalized.x1 bernoulli_Generalized.r1 s K) (cond (Nat.beq i 2) (lamK bernoulli_Generalized.d2 bernoulli_Generalized.x2 bernoulli_Generalized.r2 s K) (none)))
theorem bernoulli_Generalized.hf0 (x) : roundK env (orc bernoulli_Generalized.o) (orcB bernoulli_Generalized.oB) 117 bernoulli_Generalized.L bernoulli_Generalized.c0 bernoulli_Generalized.h0 bernoulli_Generalized.d0 bernoulli_Generalized.x0 x = bernoulli_Generalized.r0 x := by kernel_rfl
theorem bernoulli_Generalized.hf1 (x) : roundK env (orc bernoulli_Generalized.o) (orcB bernoulli_Generalized.oB) 117 bernoulli_Generalized.L bernoulli_Generalized.c1 bernoulli_Generalized.h1 bernoulli_Generalized.d1 bernoulli_Generalized.x1 x = bernoulli_Generalized.r1 x := by kernel_rfl
theorem bernoulli_Generalized.hf2 (x) : roundK env (orc bernoulli_Generalized.o) (orcB bernoulli_Generalized.oB) 117 bernoulli_Generalized.L bernoulli_Generalized.c2 bernoulli_Generalized.h2 bernoulli_Generalized.d2 bernoulli_Generalized.x2 x = bernoulli_Generalized.r2 x := by kernel_rfl
theorem bernoulli_Generalized.os : AllOk prog bernoulli_Generalized.o := ⟨bernoulli_Fundamental.ok, bernoulli_numbers.ok, prime_Kronecker.ok, integer_Small.ok, integer_Add.ok, integer_Mul.ok, bernoulli_whole.ok, bernoulli_row.ok, rational_Pow.ok, rational_Mul.ok, rational_Whole.ok, rational_Add.ok, trivial⟩
theorem bernoulli_Generalized.osB : AllBOk prog bernoulli_Generalized.oB := trivial
theorem bernoulli_Generalized.l0 {C : Ctx} (hC : C.n = 117) : LamAt prog C bernoulli_Generalized.L 0 bernoulli_Generalized.c0 := by
  intro R s K r hk
  refine loop_ok (D := bernoulli_Generalized.d0) (X := bernoulli_Generalized.x0) (h := bernoulli_Generalized.h0) (f := bernoulli_Generalized.r0) tabs (orc_ok _ bernoulli_Generalized.os) (orcB_ok _ bernoulli_Generalized.osB) (fun x => by rw [hC]; exact bernoulli_Generalized.hf0 x) (Λ := bernoulli_Generalized.L) ?_ (by kernel_rfl) (by kernel_rfl) (K := K) (s := s) (by exact hk)
  exact by
    have e : loops bernoulli_Generalized.c0 bernoulli_Generalized.h0 = [] := by kernel_rfl
    rw [e]
    exact LamOk.nil
theorem bernoulli_Generalized.l1 {C : Ctx} (hC : C.n = 117) : LamAt prog C bernoulli_Generalized.L 1 bernoulli_Generalized.c1 := by
  intro R s K r hk
  refine loop_ok (D := bernoulli_Generalized.d1) (X := bernoulli_Generalized.x1) (h := bernoulli_Generalized.h1) (f := bernoulli_Generalized.r1) tabs (orc_ok _ bernoulli_Generalized.os) (orcB_ok _ bernoulli_Generalized.osB) (fun x => by rw [hC]; exact bernoulli_Generalized.hf1 x) (Λ := bernoulli_Generalized.L) ?_ (by kernel_rfl) (by kernel_rfl) (K := K) (s := s) (by exact hk)
  exact by
    have e : loops bernoulli_Generalized.c1 bernoulli_Generalized.h1 = [(0, bernoulli_Generalized.c0)] := by kernel_rfl
    rw [e]
    exact LamOk.cons (bernoulli_Generalized.l0 hC) (LamOk.nil)
theorem bernoulli_Generalized.l2 {C : Ctx} (hC : C.n = 117) : LamAt prog C bernoulli_Generalized.L 2 bernoulli_Generalized.c2 := by
  intro R s K r hk
  refine loop_ok (D := bernoulli_Generalized.d2) (X := bernoulli_Generalized.x2) (h := bernoulli_Generalized.h2) (f := bernoulli_Generalized.r2) tabs (orc_ok _ bernoulli_Generalized.os) (orcB_ok _ bernoulli_Generalized.osB) (fun x => by rw [hC]; exact bernoulli_Generalized.hf2 x) (Λ := bernoulli_Generalized.L) ?_ (by kernel_rfl) (by kernel_rfl) (K := K) (s := s) (by exact hk)
  exact by
    have e : loops bernoulli_Generalized.c2 bernoulli_Generalized.h2 = [] := by kernel_rfl
    rw [e]
    exact LamOk.nil
theorem bernoulli_Generalized.hk (x) : semK env (orc bernoulli_Generalized.o) (orcB bernoulli_Generalized.oB) 117 (bernoulli_Generalized.L _) bernoulli_Generalized.c bernoulli_Generalized.h (S.init (avs [.int .i64, .int .i64] x)) (fin env Try.f23 ⟨[.int .i64, .int .i64], .pair (.pair (.pair (.bool) (.pair (.sl (.int .u32)) (.unit))) (.pair (.pair (.bool) (.pair (.sl (.int .u32)) (.unit))) (.unit))) (.pair (.int .i64) (.unit)), true, false⟩) = bernoulli_Generalized.en.g x := by kernel_rfl
theorem bernoulli_Generalized.ok : EnOk prog bernoulli_Generalized.en := by
  refine fun_ok (g := ⟨[.int .i64, .int .i64], .pair (.pair (.pair (.bool) (.pair (.sl (.int .u32)) (.unit))) (.pair (.pair (.bool) (.pair (.sl (.int .u32)) (.unit))) (.unit))) (.pair (.int .i64) (.unit)), true, false⟩) (h := bernoulli_Generalized.h) (Λ := bernoulli_Generalized.L) tabs bernoulli_Generalized.os bernoulli_Generalized.osB Try.func23 (c := bernoulli_Generalized.c) (by kernel_rfl) (by decide +kernel) (by decide +kernel) (fun C hC => ?_) (fun x => bernoulli_Generalized.hk x)
  exact by
    have e : loops bernoulli_Generalized.c bernoulli_Generalized.h = [(1, bernoulli_Generalized.c1), (2, bernoulli_Generalized.c2)] := by kernel_rfl
    rw [e]
    exact LamOk.cons (bernoulli_Generalized.l1 hC) (LamOk.cons (bernoulli_Generalized.l2 hC) (LamOk.nil))
noncomputable def rational_IsWhole (t0 : (Bool × List Int × Unit) × (Bool × List Int × Unit) × Unit) : Option (Bool) :=
  ((rational_of ((t0.1.1, (t0.1.2.1, ())), ((t0.2.1.1, (t0.2.1.2.1, ())), ()))).bind fun y1 =>
  ((integer_DivMod (y1.1.1, (y1.1.2.1, ())) (y1.2.1.1, (y1.2.1.2.1, ()))).bind fun y2 =>
  ((integer_Sign (y2.2.1.1, (y2.2.1.2.1, ()))).bind fun y3 =>
  (some (y3 == (0 : Int))))))
noncomputable def rational_IsWhole.en : En := ⟨109, [.pair (.pair (.bool) (.pair (.sl (.int .u32)) (.unit))) (.pair (.pair (.bool) (.pair (.sl (.int .u32)) (.unit))) (.unit))], .bool, false, fun x => rational_IsWhole x.1⟩
noncomputable def rational_IsWhole.o : List En := [integer_Sign.en, rational_of.en, integer_DivMod.en]
noncomputable def rational_IsWhole.oB : List EnB := []
def rational_IsWhole.h : HT := .n
noncomputable def rational_IsWhole.c : Code := Try.f109.body.getD .skip
noncomputable def rational_IsWhole.L : Lam := fun _ i s K => none
theorem rational_IsWhole.os : AllOk prog rational_IsWhole.o := ⟨integer_Sign.ok, rational_of.ok, integer_DivMod.ok, trivial⟩
theorem rational_IsWhole.osB : AllBOk prog rational_IsWhole.oB := trivial
theorem rational_IsWhole.hk (x) : semK env (orc rational_IsWhole.o) (orcB rational_IsWhole.oB) 21 (rational_IsWhole.L _) rational_IsWhole.c rational_IsWhole.h (S.init (avs [.pair (.pair (.bool) (.pair (.sl (.int .u32)) (.unit))) (.pair (.pair (.bool) (.pair (.sl (.int .u32)) (.unit))) (.unit))] x)) (fin env Try.f109 ⟨[.pair (.pair (.bool) (.pair (.sl (.int .u32)) (.unit))) (.pair (.pair (.bool) (.pair (.sl (.int .u32)) (.unit))) (.unit))], .bool, false, false⟩) = rational_IsWhole.en.g x := by kernel_rfl
theorem rational_IsWhole.ok : EnOk prog rational_IsWhole.en := by
  refine fun_ok (g := ⟨[.pair (.pair (.bool) (.pair (.sl (.int .u32)) (.unit))) (.pair (.pair (.bool) (.pair (.sl (.int .u32)) (.unit))) (.unit))], .bool, false, false⟩) (h := rational_IsWhole.h) (Λ := rational_IsWhole.L) tabs rational_IsWhole.os rational_IsWhole.osB Try.func109 (c := rational_IsWhole.c) (by kernel_rfl) (by decide +kernel) (by decide +kernel) (fun C hC => ?_) (fun x => rational_IsWhole.hk x)
  exact by
    have e : loops rational_IsWhole.c rational_IsWhole.h = [] := by kernel_rfl
    rw [e]
    exact LamOk.nil
noncomputable def integer_Format.j3 (t3 : List Int) (t6 : Int) (t7 : Int) (b1_0 : Bool) (b1_1 : List Int) (a44 : List (Int)) : Option ((List Int × Int × Int × List Int × (Bool × List Int × Unit) × Unit) ⊕ ((List Int × List Int × (Bool × List Int × Unit) × Unit))) :=
  let x9 := (IntKind.wrap .u32 ((48 : Int) + (Int.tmod t6 (10 : Int))))
  (cond (decide (List.length a44 + List.length ([(IntKind.wrap .u8 x9)] : List (Int)) ≤ maxL))
  ((some (.inl (t3, (IntKind.wrap .u32 (Int.tdiv t6 (10 : Int))), (IntKind.wrap .i64 (t7 + (1 : Int))), (a44 ++ ([(IntKind.wrap .u8 x9)] : List (Int))), (b1_0, (b1_1, ())), ()))))
  none)
noncomputable def integer_Format.s0 (t3 : List Int) (t6 : Int) (t7 : Int) (a44 : List (Int)) (b1 : Bool × List Int × Unit) : Option ((List Int × Int × Int × List Int × (Bool × List Int × Unit) × Unit) ⊕ ((List Int × List Int × (Bool × List Int × Unit) × Unit))) :=
  (cond ((decide (t7 < (9 : Int))))
  ((cond ((decide (((List.length t3 : Nat) : Int) > (0 : Int))))
  (let x6 := (IntKind.wrap .u32 ((48 : Int) + (Int.tmod t6 (10 : Int))))
  (cond (decide (List.length a44 + List.length ([(IntKind.wrap .u8 x6)] : List (Int)) ≤ maxL))
  ((some (.inl (t3, (IntKind.wrap .u32 (Int.tdiv t6 (10 : Int))), (IntKind.wrap .i64 (t7 + (1 : Int))), (a44 ++ ([(IntKind.wrap .u8 x6)] : List (Int))), (b1.1, (b1.2.1, ())), ()))))
  none))
  ((cond ((decide (t6 > (0 : Int))))
  ((integer_Format.j3 t3 t6 t7 b1.1 b1.2.1 a44))
  ((some (.inr (t3, a44, (b1.1, (b1.2.1, ())), ()))))))))
  ((some (.inr (t3, a44, (b1.1, (b1.2.1, ())), ())))))
noncomputable def integer_Format.k0 (t3 : List Int) (a44 : List (Int)) (b1 : Bool × List Int × Unit) : Option ((List Int × List Int × (Bool × List Int × Unit) × Unit) ⊕ ((List Int × (Bool × List Int × Unit) × Unit))) :=
  (some (.inl (t3, a44, (b1.1, (b1.2.1, ())), ())))
noncomputable def integer_Format.j2 (t3 : List Int) (b1_0 : Bool) (b1_1 : List Int) (a44 : List (Int)) : Option ((List Int × List Int × (Bool × List Int × Unit) × Unit) ⊕ ((List Int × (Bool × List Int × Unit) × Unit))) :=
  ((integer_shortDivide t3 (1000000000 : Int)).bind fun y4 =>
  ((iterL (fun x : List Int × Int × Int × List Int × (Bool × List Int × Unit) × Unit => integer_Format.s0 x.1 x.2.1 x.2.2.1 x.2.2.2.1 x.2.2.2.2.1) (y4.1, y4.2.1, (0 : Int), a44, (b1_0, (b1_1, ())), ())).bind fun y => integer_Format.k0 y.1 y.2.1 y.2.2.1))
noncomputable def integer_Format.s1 (t3 : List Int) (a44 : List (Int)) (b1 : Bool × List Int × Unit) : Option ((List Int × List Int × (Bool × List Int × Unit) × Unit) ⊕ ((List Int × (Bool × List Int × Unit) × Unit))) :=
  (cond ((decide (((List.length t3 : Nat) : Int) > (0 : Int))))
  ((integer_Format.j2 t3 b1.1 b1.2.1 a44))
  ((some (.inr (a44, (b1.1, (b1.2.1, ())), ())))))
noncomputable def integer_Format.j5 (t56 : Int) (t57 : Int) (a44 : List (Int)) (a54 : List (Int)) : Option ((Int × Int × List Int × List Int × Unit) ⊕ ((List Int × Unit))) :=
  let x12 := (IntKind.wrap .i64 (((List.length a44 : Nat) : Int) - (1 : Int)))
  (cond (inB (IntKind.wrap .i64 (x12 - t57)) (List.length a44))
  ((cond (inB t57 (List.length a54))
  ((some (.inl (t56, (IntKind.wrap .i64 (t57 + (1 : Int))), a44, (List.set a54 ((0 + t57.toNat)) (List.getD a44 ((0 + (((IntKind.wrap .i64 (x12 - t57))).toNat))) (0 : Int))), ()))))
  none))
  none)
noncomputable def integer_Format.s2 (t56 : Int) (t57 : Int) (a44 : List (Int)) (a54 : List (Int)) : Option ((Int × Int × List Int × List Int × Unit) ⊕ ((List Int × Unit))) :=
  (cond ((decide (t57 < t56)))
  ((integer_Format.j5 t56 t57 a44 a54))
  ((some (.inr (a54, ())))))
noncomputable def integer_Format.k2 (a54 : List (Int)) : Option (ByteArray) :=
  (some (bytesOf a54))
noncomputable def integer_Format.j4 (a44 : List (Int)) : Option (ByteArray) :=
  (cond (inC ((List.length a44 : Nat) : Int) maxL)
  (((iterL (fun x : Int × Int × List Int × List Int × Unit => integer_Format.s2 x.1 x.2.1 x.2.2.1 x.2.2.2.1) (((List.length a44 : Nat) : Int), (0 : Int), a44, (List.replicate ((((List.length a44 : Nat) : Int)).toNat) ((0 : Int) : Int)), ())).bind fun y => integer_Format.k2 y.1))
  none)
noncomputable def integer_Format.k1 (a44 : List (Int)) (b1 : Bool × List Int × Unit) : Option (ByteArray) :=
  (cond (b1.1)
  ((cond (decide (List.length a44 + List.length ([(45 : Int)] : List (Int)) ≤ maxL))
  ((integer_Format.j4 (a44 ++ ([(45 : Int)] : List (Int)))))
  none))
  ((integer_Format.j4 a44)))
noncomputable def integer_Format.j1 (t3 : List Int) (b1_0 : Bool) (b1_1 : List Int) : Option (ByteArray) :=
  ((iterL (fun x : List Int × List Int × (Bool × List Int × Unit) × Unit => integer_Format.s1 x.1 x.2.1 x.2.2.1) (t3, ([] : List (Int)), (b1_0, (b1_1, ())), ())).bind fun y => integer_Format.k1 y.1 y.2.1)
noncomputable def integer_Format (t0 : Bool × List Int × Unit) : Option (ByteArray) :=
  ((integer_Normalize (t0.1, (t0.2.1, ()))).bind fun y1 =>
  (cond ((((List.length y1.2.1 : Nat) : Int) == (0 : Int)))
  ((some (⟨#[48]⟩ : ByteArray)))
  ((integer_Format.j1 y1.2.1 t0.1 t0.2.1))))
noncomputable def integer_Format.en : En := ⟨110, [.pair (.bool) (.pair (.sl (.int .u32)) (.unit))], .str, false, fun x => integer_Format x.1⟩
noncomputable def integer_Format.o : List En := [integer_Normalize.en, integer_shortDivide.en]
noncomputable def integer_Format.oB : List EnB := []
def integer_Format.h : HT := .two (.n) (.two (.n) (.two (.n) (.two (.n) (.two (.lp 1) (.two (.n) (.two (.n) (.two (.two (.n) (.lp 2)) (.two (.fr [54] []) (.n)))))))))
noncomputable def integer_Format.c : Code := Try.f110.body.getD .skip
def integer_Format.h1 : HT := .two (.n) (.two (.n) (.two (.n) (.two (.n) (.lp 0))))
noncomputable def integer_Format.c1 : Code := (find (loops integer_Format.c integer_Format.h) 1).getD .skip
def integer_Format.d1 : Fm := [.v 3 (.sl (.int .u32)), .arr 44 5 (.int .u8), .box 1 (.pair (.bool) (.pair (.sl (.int .u32)) (.unit))), .own 4 44, .ptr 1 1]
def integer_Format.x1 : Xs := [(.exit 0, [.arr 44 5 (.int .u8), .box 1 (.pair (.bool) (.pair (.sl (.int .u32)) (.unit))), .own 4 44, .ptr 1 1])]
noncomputable def integer_Format.r1 (x : (Fm.ty integer_Format.d1).den) : Option ((Fm.ty integer_Format.d1).den ⊕ (Xs.T integer_Format.x1)) := integer_Format.s1 x.1 x.2.1 x.2.2.1
def integer_Format.h2 : HT := .n
noncomputable def integer_Format.c2 : Code := (find (loops integer_Format.c integer_Format.h) 2).getD .skip
def integer_Format.d2 : Fm := [.v 56 (.int .i64), .v 57 (.int .i64), .arr 44 5 (.int .u8), .arr 54 5 (.int .u8), .own 4 44, .own 8 54]
def integer_Format.x2 : Xs := [(.exit 4, [.arr 54 5 (.int .u8), .own 8 54])]
noncomputable def integer_Format.r2 (x : (Fm.ty integer_Format.d2).den) : Option ((Fm.ty integer_Format.d2).den ⊕ (Xs.T integer_Format.x2)) := integer_Format.s2 x.1 x.2.1 x.2.2.1 x.2.2.2.1
def integer_Format.h0 : HT := .n
noncomputable def integer_Format.c0 : Code := (find (loops integer_Format.c1 integer_Format.h1) 0).getD .skip
def integer_Format.d0 : Fm := [.v 3 (.sl (.int .u32)), .v 6 (.int .u32), .v 7 (.int .i64), .arr 44 5 (.int .u8), .box 1 (.pair (.bool) (.pair (.sl (.int .u32)) (.unit))), .own 4 44, .ptr 1 1]
def integer_Format.x0 : Xs := [(.exit 2, [.v 3 (.sl (.int .u32)), .arr 44 5 (.int .u8), .box 1 (.pair (.bool) (.pair (.sl (.int .u32)) (.unit))), .own 4 44, .ptr 1 1])]
noncomputable def integer_Format.r0 (x : (Fm.ty integer_Format.d0).den) : Option ((Fm.ty integer_Format.d0).den ⊕ (Xs.T integer_Format.x0)) := integer_Format.s0 x.1 x.2.1 x.2.2.1 x.2.2.2.1 x.2.2.2.2.1
noncomputable def integer_Format.L : Lam := fun _ i s K => cond (Nat.beq i 0) (lamK integer_Format.d0 integer_Format.x0 integer_Format.r0 s K) (cond (Nat.beq i 1) (lamK integer_Format.d1 integer_Format.x1 integer_Format.r1 s K) (cond (Nat.beq i 2) (lamK integer_Format.d2 integer_Format.x2 integer_Format.r2 s K) (none)))
theorem integer_Format.hf0 (x) : roundK env (orc integer_Format.o) (orcB integer_Format.oB) 74 integer_Format.L integer_Format.c0 integer_Format.h0 integer_Format.d0 integer_Format.x0 x = integer_Format.r0 x := by kernel_rfl
theorem integer_Format.hf1 (x) : roundK env (orc integer_Format.o) (orcB integer_Format.oB) 74 integer_Format.L integer_Format.c1 integer_Format.h1 integer_Format.d1 integer_Format.x1 x = integer_Format.r1 x := by kernel_rfl
theorem integer_Format.hf2 (x) : roundK env (orc integer_Format.o) (orcB integer_Format.oB) 74 integer_Format.L integer_Format.c2 integer_Format.h2 integer_Format.d2 integer_Format.x2 x = integer_Format.r2 x := by kernel_rfl
theorem integer_Format.os : AllOk prog integer_Format.o := ⟨integer_Normalize.ok, integer_shortDivide.ok, trivial⟩
theorem integer_Format.osB : AllBOk prog integer_Format.oB := trivial
theorem integer_Format.l0 {C : Ctx} (hC : C.n = 74) : LamAt prog C integer_Format.L 0 integer_Format.c0 := by
  intro R s K r hk
  refine loop_ok (D := integer_Format.d0) (X := integer_Format.x0) (h := integer_Format.h0) (f := integer_Format.r0) tabs (orc_ok _ integer_Format.os) (orcB_ok _ integer_Format.osB) (fun x => by rw [hC]; exact integer_Format.hf0 x) (Λ := integer_Format.L) ?_ (by kernel_rfl) (by kernel_rfl) (K := K) (s := s) (by exact hk)
  exact by
    have e : loops integer_Format.c0 integer_Format.h0 = [] := by kernel_rfl
    rw [e]
    exact LamOk.nil
theorem integer_Format.l1 {C : Ctx} (hC : C.n = 74) : LamAt prog C integer_Format.L 1 integer_Format.c1 := by
  intro R s K r hk
  refine loop_ok (D := integer_Format.d1) (X := integer_Format.x1) (h := integer_Format.h1) (f := integer_Format.r1) tabs (orc_ok _ integer_Format.os) (orcB_ok _ integer_Format.osB) (fun x => by rw [hC]; exact integer_Format.hf1 x) (Λ := integer_Format.L) ?_ (by kernel_rfl) (by kernel_rfl) (K := K) (s := s) (by exact hk)
  exact by
    have e : loops integer_Format.c1 integer_Format.h1 = [(0, integer_Format.c0)] := by kernel_rfl
    rw [e]
    exact LamOk.cons (integer_Format.l0 hC) (LamOk.nil)
theorem integer_Format.l2 {C : Ctx} (hC : C.n = 74) : LamAt prog C integer_Format.L 2 integer_Format.c2 := by
  intro R s K r hk
  refine loop_ok (D := integer_Format.d2) (X := integer_Format.x2) (h := integer_Format.h2) (f := integer_Format.r2) tabs (orc_ok _ integer_Format.os) (orcB_ok _ integer_Format.osB) (fun x => by rw [hC]; exact integer_Format.hf2 x) (Λ := integer_Format.L) ?_ (by kernel_rfl) (by kernel_rfl) (K := K) (s := s) (by exact hk)
  exact by
    have e : loops integer_Format.c2 integer_Format.h2 = [] := by kernel_rfl
    rw [e]
    exact LamOk.nil
theorem integer_Format.hk (x) : semK env (orc integer_Format.o) (orcB integer_Format.oB) 74 (integer_Format.L _) integer_Format.c integer_Format.h (S.init (avs [.pair (.bool) (.pair (.sl (.int .u32)) (.unit))] x)) (fin env Try.f110 ⟨[.pair (.bool) (.pair (.sl (.int .u32)) (.unit))], .str, false, false⟩) = integer_Format.en.g x := by kernel_rfl
theorem integer_Format.ok : EnOk prog integer_Format.en := by
  refine fun_ok (g := ⟨[.pair (.bool) (.pair (.sl (.int .u32)) (.unit))], .str, false, false⟩) (h := integer_Format.h) (Λ := integer_Format.L) tabs integer_Format.os integer_Format.osB Try.func110 (c := integer_Format.c) (by kernel_rfl) (by decide +kernel) (by decide +kernel) (fun C hC => ?_) (fun x => integer_Format.hk x)
  exact by
    have e : loops integer_Format.c integer_Format.h = [(1, integer_Format.c1), (2, integer_Format.c2)] := by kernel_rfl
    rw [e]
    exact LamOk.cons (integer_Format.l1 hC) (LamOk.cons (integer_Format.l2 hC) (LamOk.nil))
noncomputable def rational_Format.j1 (b1_0 : Bool) (b1_1 : List Int) (b1_2 : Bool) (b1_3 : List Int) : Option (ByteArray) :=
  ((integer_Format (b1_0, (b1_1, ()))).bind fun y4 =>
  (cond (decide (ByteArray.size y4 + ByteArray.size (⟨#[47]⟩ : ByteArray) ≤ maxL))
  (((integer_Format (b1_2, (b1_3, ()))).bind fun y5 =>
  (cond (decide (ByteArray.size (y4 ++ (⟨#[47]⟩ : ByteArray)) + ByteArray.size y5 ≤ maxL))
  ((some ((y4 ++ (⟨#[47]⟩ : ByteArray)) ++ y5)))
  none)))
  none))
noncomputable def rational_Format (t0 : (Bool × List Int × Unit) × (Bool × List Int × Unit) × Unit) : Option (ByteArray) :=
  ((rational_Normalize ((t0.1.1, (t0.1.2.1, ())), ((t0.2.1.1, (t0.2.1.2.1, ())), ()))).bind fun y1 =>
  ((rational_IsWhole ((y1.1.1, (y1.1.2.1, ())), ((y1.2.1.1, (y1.2.1.2.1, ())), ()))).bind fun y2 =>
  (cond (y2)
  (((integer_Format (y1.1.1, (y1.1.2.1, ()))).bind fun y3 =>
  (some y3)))
  ((rational_Format.j1 y1.1.1 y1.1.2.1 y1.2.1.1 y1.2.1.2.1)))))
noncomputable def rational_Format.en : En := ⟨76, [.pair (.pair (.bool) (.pair (.sl (.int .u32)) (.unit))) (.pair (.pair (.bool) (.pair (.sl (.int .u32)) (.unit))) (.unit))], .str, false, fun x => rational_Format x.1⟩
noncomputable def rational_Format.o : List En := [rational_Normalize.en, rational_IsWhole.en, integer_Format.en]
noncomputable def rational_Format.oB : List EnB := []
def rational_Format.h : HT := .n
noncomputable def rational_Format.c : Code := Try.f76.body.getD .skip
noncomputable def rational_Format.L : Lam := fun _ i s K => none
theorem rational_Format.os : AllOk prog rational_Format.o := ⟨rational_Normalize.ok, rational_IsWhole.ok, integer_Format.ok, trivial⟩
theorem rational_Format.osB : AllBOk prog rational_Format.oB := trivial
theorem rational_Format.hk (x) : semK env (orc rational_Format.o) (orcB rational_Format.oB) 18 (rational_Format.L _) rational_Format.c rational_Format.h (S.init (avs [.pair (.pair (.bool) (.pair (.sl (.int .u32)) (.unit))) (.pair (.pair (.bool) (.pair (.sl (.int .u32)) (.unit))) (.unit))] x)) (fin env Try.f76 ⟨[.pair (.pair (.bool) (.pair (.sl (.int .u32)) (.unit))) (.pair (.pair (.bool) (.pair (.sl (.int .u32)) (.unit))) (.unit))], .str, false, false⟩) = rational_Format.en.g x := by kernel_rfl
theorem rational_Format.ok : EnOk prog rational_Format.en := by
  refine fun_ok (g := ⟨[.pair (.pair (.bool) (.pair (.sl (.int .u32)) (.unit))) (.pair (.pair (.bool) (.pair (.sl (.int .u32)) (.unit))) (.unit))], .str, false, false⟩) (h := rational_Format.h) (Λ := rational_Format.L) tabs rational_Format.os rational_Format.osB Try.func76 (c := rational_Format.c) (by kernel_rfl) (by decide +kernel) (by decide +kernel) (fun C hC => ?_) (fun x => rational_Format.hk x)
  exact by
    have e : loops rational_Format.c rational_Format.h = [] := by kernel_rfl
    rw [e]
    exact LamOk.nil
noncomputable def quadformlaw31_shown.j1 (b2_0 : Bool) (b2_1 : List Int) (b2_2 : Bool) (b2_3 : List Int) : Option (ByteArray) :=
  ((rational_Format ((b2_0, (b2_1, ())), ((b2_2, (b2_3, ())), ()))).bind fun y1 =>
  (some y1))
noncomputable def quadformlaw31_shown (t0 : (Bool × List Int × Unit) × (Bool × List Int × Unit) × Unit) (t1 : Int) : Option (ByteArray) :=
  (cond ((t1 != (0 : Int)))
  ((some (⟨#[]⟩ : ByteArray)))
  ((quadformlaw31_shown.j1 t0.1.1 t0.1.2.1 t0.2.1.1 t0.2.1.2.1)))
noncomputable def quadformlaw31_shown.en : En := ⟨41, [.pair (.pair (.bool) (.pair (.sl (.int .u32)) (.unit))) (.pair (.pair (.bool) (.pair (.sl (.int .u32)) (.unit))) (.unit)), .int .i64], .str, false, fun x => quadformlaw31_shown x.1 x.2.1⟩
noncomputable def quadformlaw31_shown.o : List En := [rational_Format.en]
noncomputable def quadformlaw31_shown.oB : List EnB := []
def quadformlaw31_shown.h : HT := .n
noncomputable def quadformlaw31_shown.c : Code := Try.f41.body.getD .skip
noncomputable def quadformlaw31_shown.L : Lam := fun _ i s K => none
theorem quadformlaw31_shown.os : AllOk prog quadformlaw31_shown.o := ⟨rational_Format.ok, trivial⟩
theorem quadformlaw31_shown.osB : AllBOk prog quadformlaw31_shown.oB := trivial
theorem quadformlaw31_shown.hk (x) : semK env (orc quadformlaw31_shown.o) (orcB quadformlaw31_shown.oB) 9 (quadformlaw31_shown.L _) quadformlaw31_shown.c quadformlaw31_shown.h (S.init (avs [.pair (.pair (.bool) (.pair (.sl (.int .u32)) (.unit))) (.pair (.pair (.bool) (.pair (.sl (.int .u32)) (.unit))) (.unit)), .int .i64] x)) (fin env Try.f41 ⟨[.pair (.pair (.bool) (.pair (.sl (.int .u32)) (.unit))) (.pair (.pair (.bool) (.pair (.sl (.int .u32)) (.unit))) (.unit)), .int .i64], .str, false, false⟩) = quadformlaw31_shown.en.g x := by kernel_rfl
theorem quadformlaw31_shown.ok : EnOk prog quadformlaw31_shown.en := by
  refine fun_ok (g := ⟨[.pair (.pair (.bool) (.pair (.sl (.int .u32)) (.unit))) (.pair (.pair (.bool) (.pair (.sl (.int .u32)) (.unit))) (.unit)), .int .i64], .str, false, false⟩) (h := quadformlaw31_shown.h) (Λ := quadformlaw31_shown.L) tabs quadformlaw31_shown.os quadformlaw31_shown.osB Try.func41 (c := quadformlaw31_shown.c) (by kernel_rfl) (by decide +kernel) (by decide +kernel) (fun C hC => ?_) (fun x => quadformlaw31_shown.hk x)
  exact by
    have e : loops quadformlaw31_shown.c quadformlaw31_shown.h = [] := by kernel_rfl
    rw [e]
    exact LamOk.nil
noncomputable def quadformlaw31_awake  : Option (Bool) :=
  ((bernoulli_Number (12 : Int)).bind fun y1 =>
  ((quadformlaw31_shown y1.1 y1.2.1).bind fun y2 =>
  (cond (((ByteArray.toList y2) == (ByteArray.toList (⟨#[45, 54, 57, 49, 47, 50, 55, 51, 48]⟩ : ByteArray))))
  (((bernoulli_Generalized (1 : Int) (-23 : Int)).bind fun y4 =>
  ((quadformlaw31_shown y4.1 y4.2.1).bind fun y5 =>
  (cond (((ByteArray.toList y5) == (ByteArray.toList (⟨#[45, 51]⟩ : ByteArray))))
  (((bernoulli_Generalized (2 : Int) (5 : Int)).bind fun y7 =>
  ((quadformlaw31_shown y7.1 y7.2.1).bind fun y8 =>
  (cond (((ByteArray.toList y8) == (ByteArray.toList (⟨#[52, 47, 53]⟩ : ByteArray))))
  (((bernoulli_Fundamental (-4 : Int)).bind fun y10 =>
  (some y10)))
  ((some false))))))
  ((some false))))))
  ((some false)))))
noncomputable def quadformlaw31_awake.en : En := ⟨16, [], .bool, false, fun x => quadformlaw31_awake⟩
noncomputable def quadformlaw31_awake.o : List En := [bernoulli_Number.en, bernoulli_Fundamental.en, bernoulli_Generalized.en, quadformlaw31_shown.en]
noncomputable def quadformlaw31_awake.oB : List EnB := []
def quadformlaw31_awake.h : HT := .n
noncomputable def quadformlaw31_awake.c : Code := Try.f16.body.getD .skip
noncomputable def quadformlaw31_awake.L : Lam := fun _ i s K => none
theorem quadformlaw31_awake.os : AllOk prog quadformlaw31_awake.o := ⟨bernoulli_Number.ok, bernoulli_Fundamental.ok, bernoulli_Generalized.ok, quadformlaw31_shown.ok, trivial⟩
theorem quadformlaw31_awake.osB : AllBOk prog quadformlaw31_awake.oB := trivial
theorem quadformlaw31_awake.hk (x) : semK env (orc quadformlaw31_awake.o) (orcB quadformlaw31_awake.oB) 23 (quadformlaw31_awake.L _) quadformlaw31_awake.c quadformlaw31_awake.h (S.init (avs [] x)) (fin env Try.f16 ⟨[], .bool, false, false⟩) = quadformlaw31_awake.en.g x := by kernel_rfl
theorem quadformlaw31_awake.ok : EnOk prog quadformlaw31_awake.en := by
  refine fun_ok (g := ⟨[], .bool, false, false⟩) (h := quadformlaw31_awake.h) (Λ := quadformlaw31_awake.L) tabs quadformlaw31_awake.os quadformlaw31_awake.osB Try.func16 (c := quadformlaw31_awake.c) (by kernel_rfl) (by decide +kernel) (by decide +kernel) (fun C hC => ?_) (fun x => quadformlaw31_awake.hk x)
  exact by
    have e : loops quadformlaw31_awake.c quadformlaw31_awake.h = [] := by kernel_rfl
    rw [e]
    exact LamOk.nil
end Go.Proofs.Ytbchgegclgpdhaa.E
