/- Functions of the program as_ functions on values, without fuel, and that the evaluator computes them (printed by gen.py). -/
import Derived.Test.YtgbndganadelpaaGreatDoorYLocalmassDiagonal10
namespace Go.Proofs.YtgbndganadelpaaGreatDoor.E
open Go
set_option linter.unusedVariables false
set_option maxRecDepth 100000
noncomputable def quadformref01_Rem (t0 : Bool × List Int × Unit) (t1 : Bool × List Int × Unit) : Option (Bool × List Int × Unit) :=
  ((quadformref01_DivMod (t0.1, (t0.2.1, ())) (t1.1, (t1.2.1, ()))).bind fun y1 =>
  (some (y1.2.1.1, (y1.2.1.2.1, ()))))
noncomputable def quadformref01_Rem.en : En := ⟨197, [.pair (.bool) (.pair (.sl (.int .u32)) (.unit)), .pair (.bool) (.pair (.sl (.int .u32)) (.unit))], .pair (.bool) (.pair (.sl (.int .u32)) (.unit)), false, fun x => quadformref01_Rem x.1 x.2.1⟩
noncomputable def quadformref01_Rem.o : List En := [quadformref01_DivMod.en]
noncomputable def quadformref01_Rem.oB : List EnB := []
def quadformref01_Rem.h : HT := .n
noncomputable def quadformref01_Rem.c : Code := Tryz.f197.body.getD .skip
noncomputable def quadformref01_Rem.L : Lam := fun _ i s K => none
theorem quadformref01_Rem.os : AllOk prog quadformref01_Rem.o := ⟨quadformref01_DivMod.ok, trivial⟩
theorem quadformref01_Rem.osB : AllBOk prog quadformref01_Rem.oB := trivial
theorem quadformref01_Rem.hk (x) : semK env (orc quadformref01_Rem.o) (orcB quadformref01_Rem.oB) 16 (quadformref01_Rem.L _) quadformref01_Rem.c quadformref01_Rem.h (S.init (avs [.pair (.bool) (.pair (.sl (.int .u32)) (.unit)), .pair (.bool) (.pair (.sl (.int .u32)) (.unit))] x)) (fin env Tryz.f197 ⟨[.pair (.bool) (.pair (.sl (.int .u32)) (.unit)), .pair (.bool) (.pair (.sl (.int .u32)) (.unit))], .pair (.bool) (.pair (.sl (.int .u32)) (.unit)), false, false⟩) = quadformref01_Rem.en.g x := by kernel_rfl
theorem quadformref01_Rem.ok : EnOk prog quadformref01_Rem.en := by
  refine fun_ok (g := ⟨[.pair (.bool) (.pair (.sl (.int .u32)) (.unit)), .pair (.bool) (.pair (.sl (.int .u32)) (.unit))], .pair (.bool) (.pair (.sl (.int .u32)) (.unit)), false, false⟩) (h := quadformref01_Rem.h) (Λ := quadformref01_Rem.L) tabs quadformref01_Rem.os quadformref01_Rem.osB Tryz.func197 (c := quadformref01_Rem.c) (by kernel_rfl) (by decide +kernel) (by decide +kernel) (fun C hC => ?_) (fun x => quadformref01_Rem.hk x)
  exact by
    have e : loops quadformref01_Rem.c quadformref01_Rem.h = [] := by kernel_rfl
    rw [e]
    exact LamOk.nil
noncomputable def quadformref01_Gcd.j1 (b4_0 : Bool) (b4_1 : List Int) (b5_0 : Bool) (b5_1 : List Int) (b6_0 : Bool) (b6_1 : List Int) : Option (((Bool × List Int × Unit) × (Bool × List Int × Unit) × (Bool × List Int × Unit) × Unit) ⊕ (((Bool × List Int × Unit) × (Bool × List Int × Unit) × Unit))) :=
  ((quadformref01_Rem (b5_0, (b5_1, ())) (b6_0, (b6_1, ()))).bind fun y4 =>
  (some (.inl ((b4_0, (b4_1, ())), (b6_0, (b6_1, ())), (y4.1, (y4.2.1, ())), ()))))
noncomputable def quadformref01_Gcd.s0 (b4 : Bool × List Int × Unit) (b5 : Bool × List Int × Unit) (b6 : Bool × List Int × Unit) : Option (((Bool × List Int × Unit) × (Bool × List Int × Unit) × (Bool × List Int × Unit) × Unit) ⊕ (((Bool × List Int × Unit) × (Bool × List Int × Unit) × Unit))) :=
  ((quadformref01_Sign (b6.1, (b6.2.1, ()))).bind fun y3 =>
  (cond ((y3 != (0 : Int)))
  ((quadformref01_Gcd.j1 b4.1 b4.2.1 b5.1 b5.2.1 b6.1 b6.2.1))
  ((some (.inr ((b4.1, (b4.2.1, ())), (b5.1, (b5.2.1, ())), ()))))))
noncomputable def quadformref01_Gcd.k0 (b4 : Bool × List Int × Unit) (b5 : Bool × List Int × Unit) : Option (Bool × List Int × Unit) :=
  (some (b5.1, (b5.2.1, ())))
noncomputable def quadformref01_Gcd (t0 : Bool × List Int × Unit) (t1 : Bool × List Int × Unit) : Option (Bool × List Int × Unit) :=
  ((quadformref01_Abs (t0.1, (t0.2.1, ()))).bind fun y1 =>
  ((quadformref01_Abs (t1.1, (t1.2.1, ()))).bind fun y2 =>
  ((iterL (fun x : (Bool × List Int × Unit) × (Bool × List Int × Unit) × (Bool × List Int × Unit) × Unit => quadformref01_Gcd.s0 x.1 x.2.1 x.2.2.1) ((false, (([] : List Int), ())), (y1.1, (y1.2.1, ())), (y2.1, (y2.2.1, ())), ())).bind fun y => quadformref01_Gcd.k0 y.1 y.2.1)))
noncomputable def quadformref01_Gcd.en : En := ⟨137, [.pair (.bool) (.pair (.sl (.int .u32)) (.unit)), .pair (.bool) (.pair (.sl (.int .u32)) (.unit))], .pair (.bool) (.pair (.sl (.int .u32)) (.unit)), false, fun x => quadformref01_Gcd x.1 x.2.1⟩
noncomputable def quadformref01_Gcd.o : List En := [quadformref01_Sign.en, quadformref01_Abs.en, quadformref01_Rem.en]
noncomputable def quadformref01_Gcd.oB : List EnB := []
def quadformref01_Gcd.h : HT := .two (.n) (.two (.n) (.two (.lp 0) (.n)))
noncomputable def quadformref01_Gcd.c : Code := Tryz.f137.body.getD .skip
def quadformref01_Gcd.h0 : HT := .n
noncomputable def quadformref01_Gcd.c0 : Code := (find (loops quadformref01_Gcd.c quadformref01_Gcd.h) 0).getD .skip
def quadformref01_Gcd.d0 : Fm := [.box 4 (.pair (.bool) (.pair (.sl (.int .u32)) (.unit))), .box 5 (.pair (.bool) (.pair (.sl (.int .u32)) (.unit))), .box 6 (.pair (.bool) (.pair (.sl (.int .u32)) (.unit))), .ptr 4 4, .ptr 5 5, .ptr 6 6]
def quadformref01_Gcd.x0 : Xs := [(.exit 0, [.box 4 (.pair (.bool) (.pair (.sl (.int .u32)) (.unit))), .box 5 (.pair (.bool) (.pair (.sl (.int .u32)) (.unit))), .ptr 4 4, .ptr 5 5])]
noncomputable def quadformref01_Gcd.r0 (x : (Fm.ty quadformref01_Gcd.d0).den) : Option ((Fm.ty quadformref01_Gcd.d0).den ⊕ (Xs.T quadformref01_Gcd.x0)) := quadformref01_Gcd.s0 x.1 x.2.1 x.2.2.1
noncomputable def quadformref01_Gcd.L : Lam := fun _ i s K => cond (Nat.beq i 0) (lamK quadformref01_Gcd.d0 quadformref01_Gcd.x0 quadformref01_Gcd.r0 s K) (none)
theorem quadformref01_Gcd.hf0 (x) : roundK env (orc quadformref01_Gcd.o) (orcB quadformref01_Gcd.oB) 19 quadformref01_Gcd.L quadformref01_Gcd.c0 quadformref01_Gcd.h0 quadformref01_Gcd.d0 quadformref01_Gcd.x0 x = quadformref01_Gcd.r0 x := by kernel_rfl
theorem quadformref01_Gcd.os : AllOk prog quadformref01_Gcd.o := ⟨quadformref01_Sign.ok, quadformref01_Abs.ok, quadformref01_Rem.ok, trivial⟩
theorem quadformref01_Gcd.osB : AllBOk prog quadformref01_Gcd.oB := trivial
theorem quadformref01_Gcd.l0 {C : Ctx} (hC : C.n = 19) : LamAt prog C quadformref01_Gcd.L 0 quadformref01_Gcd.c0 := by
  intro R s K r hk
  refine loop_ok (D := quadformref01_Gcd.d0) (X := quadformref01_Gcd.x0) (h := quadformref01_Gcd.h0) (f := quadformref01_Gcd.r0) tabs (orc_ok _ quadformref01_Gcd.os) (orcB_ok _ quadformref01_Gcd.osB) (fun x => by rw [hC]; exact quadformref01_Gcd.hf0 x) (Λ := quadformref01_Gcd.L) ?_ (by kernel_rfl) (by kernel_rfl) (K := K) (s := s) (by exact hk)
  exact by
    have e : loops quadformref01_Gcd.c0 quadformref01_Gcd.h0 = [] := by kernel_rfl
    rw [e]
    exact LamOk.nil
theorem quadformref01_Gcd.hk (x) : semK env (orc quadformref01_Gcd.o) (orcB quadformref01_Gcd.oB) 19 (quadformref01_Gcd.L _) quadformref01_Gcd.c quadformref01_Gcd.h (S.init (avs [.pair (.bool) (.pair (.sl (.int .u32)) (.unit)), .pair (.bool) (.pair (.sl (.int .u32)) (.unit))] x)) (fin env Tryz.f137 ⟨[.pair (.bool) (.pair (.sl (.int .u32)) (.unit)), .pair (.bool) (.pair (.sl (.int .u32)) (.unit))], .pair (.bool) (.pair (.sl (.int .u32)) (.unit)), false, false⟩) = quadformref01_Gcd.en.g x := by kernel_rfl
theorem quadformref01_Gcd.ok : EnOk prog quadformref01_Gcd.en := by
  refine fun_ok (g := ⟨[.pair (.bool) (.pair (.sl (.int .u32)) (.unit)), .pair (.bool) (.pair (.sl (.int .u32)) (.unit))], .pair (.bool) (.pair (.sl (.int .u32)) (.unit)), false, false⟩) (h := quadformref01_Gcd.h) (Λ := quadformref01_Gcd.L) tabs quadformref01_Gcd.os quadformref01_Gcd.osB Tryz.func137 (c := quadformref01_Gcd.c) (by kernel_rfl) (by decide +kernel) (by decide +kernel) (fun C hC => ?_) (fun x => quadformref01_Gcd.hk x)
  exact by
    have e : loops quadformref01_Gcd.c quadformref01_Gcd.h = [(0, quadformref01_Gcd.c0)] := by kernel_rfl
    rw [e]
    exact LamOk.cons (quadformref01_Gcd.l0 hC) (LamOk.nil)
noncomputable def quadformref02_New.j2 (b2_0 : Bool) (b2_1 : List Int) (b3_0 : Bool) (b3_1 : List Int) (b4_1 : List Int) (b4_3 : List Int) : Option (((Bool × List Int × Unit) × (Bool × List Int × Unit) × Unit) × Bool × Unit) :=
  ((quadformref01_Gcd (b2_0, (b2_1, ())) (b3_0, (b3_1, ()))).bind fun y5 =>
  ((quadformref01_Quo (b2_0, (b2_1, ())) (y5.1, (y5.2.1, ()))).bind fun y6 =>
  ((quadformref01_Quo (b3_0, (b3_1, ())) (y5.1, (y5.2.1, ()))).bind fun y7 =>
  (some (((y6.1, (y6.2.1, ())), ((y7.1, (y7.2.1, ())), ())), (true, ()))))))
noncomputable def quadformref02_New.j1 (b2_0 : Bool) (b2_1 : List Int) (b3_0 : Bool) (b3_1 : List Int) (b4_1 : List Int) (b4_3 : List Int) : Option (((Bool × List Int × Unit) × (Bool × List Int × Unit) × Unit) × Bool × Unit) :=
  ((quadformref01_Sign (b3_0, (b3_1, ()))).bind fun y2 =>
  (cond ((decide (y2 < (0 : Int))))
  (((quadformref01_Neg (b2_0, (b2_1, ()))).bind fun y3 =>
  ((quadformref01_Neg (b3_0, (b3_1, ()))).bind fun y4 =>
  (quadformref02_New.j2 y3.1 y3.2.1 y4.1 y4.2.1 b4_1 b4_3))))
  ((quadformref02_New.j2 b2_0 b2_1 b3_0 b3_1 b4_1 b4_3))))
noncomputable def quadformref02_New (t0 : Bool × List Int × Unit) (t1 : Bool × List Int × Unit) : Option (((Bool × List Int × Unit) × (Bool × List Int × Unit) × Unit) × Bool × Unit) :=
  ((quadformref01_Sign (t1.1, (t1.2.1, ()))).bind fun y1 =>
  (cond ((y1 == (0 : Int)))
  ((some (((false, (([] : List Int), ())), ((false, (([] : List Int), ())), ())), (false, ()))))
  ((quadformref02_New.j1 t0.1 t0.2.1 t1.1 t1.2.1 ([] : List Int) ([] : List Int)))))
noncomputable def quadformref02_New.en : En := ⟨64, [.pair (.bool) (.pair (.sl (.int .u32)) (.unit)), .pair (.bool) (.pair (.sl (.int .u32)) (.unit))], .pair (.pair (.pair (.bool) (.pair (.sl (.int .u32)) (.unit))) (.pair (.pair (.bool) (.pair (.sl (.int .u32)) (.unit))) (.unit))) (.pair (.bool) (.unit)), true, fun x => quadformref02_New x.1 x.2.1⟩
noncomputable def quadformref02_New.o : List En := [quadformref01_Sign.en, quadformref01_Quo.en, quadformref01_Neg.en, quadformref01_Gcd.en]
noncomputable def quadformref02_New.oB : List EnB := []
def quadformref02_New.h : HT := .n
noncomputable def quadformref02_New.c : Code := Tryz.f64.body.getD .skip
noncomputable def quadformref02_New.L : Lam := fun _ i s K => none
theorem quadformref02_New.os : AllOk prog quadformref02_New.o := ⟨quadformref01_Sign.ok, quadformref01_Quo.ok, quadformref01_Neg.ok, quadformref01_Gcd.ok, trivial⟩
theorem quadformref02_New.osB : AllBOk prog quadformref02_New.oB := trivial
theorem quadformref02_New.hk (x) : semK env (orc quadformref02_New.o) (orcB quadformref02_New.oB) 28 (quadformref02_New.L _) quadformref02_New.c quadformref02_New.h (S.init (avs [.pair (.bool) (.pair (.sl (.int .u32)) (.unit)), .pair (.bool) (.pair (.sl (.int .u32)) (.unit))] x)) (fin env Tryz.f64 ⟨[.pair (.bool) (.pair (.sl (.int .u32)) (.unit)), .pair (.bool) (.pair (.sl (.int .u32)) (.unit))], .pair (.pair (.pair (.bool) (.pair (.sl (.int .u32)) (.unit))) (.pair (.pair (.bool) (.pair (.sl (.int .u32)) (.unit))) (.unit))) (.pair (.bool) (.unit)), true, false⟩) = quadformref02_New.en.g x := by kernel_rfl
theorem quadformref02_New.ok : EnOk prog quadformref02_New.en := by
  refine fun_ok (g := ⟨[.pair (.bool) (.pair (.sl (.int .u32)) (.unit)), .pair (.bool) (.pair (.sl (.int .u32)) (.unit))], .pair (.pair (.pair (.bool) (.pair (.sl (.int .u32)) (.unit))) (.pair (.pair (.bool) (.pair (.sl (.int .u32)) (.unit))) (.unit))) (.pair (.bool) (.unit)), true, false⟩) (h := quadformref02_New.h) (Λ := quadformref02_New.L) tabs quadformref02_New.os quadformref02_New.osB Tryz.func64 (c := quadformref02_New.c) (by kernel_rfl) (by decide +kernel) (by decide +kernel) (fun C hC => ?_) (fun x => quadformref02_New.hk x)
  exact by
    have e : loops quadformref02_New.c quadformref02_New.h = [] := by kernel_rfl
    rw [e]
    exact LamOk.nil
noncomputable def quadformref31_Ratio (t0 : Int) (t1 : Int) : Option ((Bool × List Int × Unit) × (Bool × List Int × Unit) × Unit) :=
  ((quadformref01_Small t0).bind fun y1 =>
  ((quadformref01_Small t1).bind fun y2 =>
  ((quadformref02_New y1 y2).bind fun y3 =>
  (some ((y3.1.1.1, (y3.1.1.2.1, ())), ((y3.1.2.1.1, (y3.1.2.1.2.1, ())), ()))))))
noncomputable def quadformref31_Ratio.en : En := ⟨23, [.int .i64, .int .i64], .pair (.pair (.bool) (.pair (.sl (.int .u32)) (.unit))) (.pair (.pair (.bool) (.pair (.sl (.int .u32)) (.unit))) (.unit)), false, fun x => quadformref31_Ratio x.1 x.2.1⟩
noncomputable def quadformref31_Ratio.o : List En := [quadformref02_New.en, quadformref01_Small.en]
noncomputable def quadformref31_Ratio.oB : List EnB := []
def quadformref31_Ratio.h : HT := .n
noncomputable def quadformref31_Ratio.c : Code := Tryz.f23.body.getD .skip
noncomputable def quadformref31_Ratio.L : Lam := fun _ i s K => none
theorem quadformref31_Ratio.os : AllOk prog quadformref31_Ratio.o := ⟨quadformref02_New.ok, quadformref01_Small.ok, trivial⟩
theorem quadformref31_Ratio.osB : AllBOk prog quadformref31_Ratio.oB := trivial
theorem quadformref31_Ratio.hk (x) : semK env (orc quadformref31_Ratio.o) (orcB quadformref31_Ratio.oB) 16 (quadformref31_Ratio.L _) quadformref31_Ratio.c quadformref31_Ratio.h (S.init (avs [.int .i64, .int .i64] x)) (fin env Tryz.f23 ⟨[.int .i64, .int .i64], .pair (.pair (.bool) (.pair (.sl (.int .u32)) (.unit))) (.pair (.pair (.bool) (.pair (.sl (.int .u32)) (.unit))) (.unit)), false, false⟩) = quadformref31_Ratio.en.g x := by kernel_rfl
theorem quadformref31_Ratio.ok : EnOk prog quadformref31_Ratio.en := by
  refine fun_ok (g := ⟨[.int .i64, .int .i64], .pair (.pair (.bool) (.pair (.sl (.int .u32)) (.unit))) (.pair (.pair (.bool) (.pair (.sl (.int .u32)) (.unit))) (.unit)), false, false⟩) (h := quadformref31_Ratio.h) (Λ := quadformref31_Ratio.L) tabs quadformref31_Ratio.os quadformref31_Ratio.osB Tryz.func23 (c := quadformref31_Ratio.c) (by kernel_rfl) (by decide +kernel) (by decide +kernel) (fun C hC => ?_) (fun x => quadformref31_Ratio.hk x)
  exact by
    have e : loops quadformref31_Ratio.c quadformref31_Ratio.h = [] := by kernel_rfl
    rw [e]
    exact LamOk.nil
noncomputable def quadformref02_Normalize.j1 (b2_1 : List Int) (b2_3 : List Int) (b3_0 : Bool) (b3_1 : List Int) (b3_2 : Bool) (b3_3 : List Int) : Option ((Bool × List Int × Unit) × (Bool × List Int × Unit) × Unit) :=
  (some ((b3_0, (b3_1, ())), ((b3_2, (b3_3, ())), ())))
noncomputable def quadformref02_Normalize (t0 : (Bool × List Int × Unit) × (Bool × List Int × Unit) × Unit) : Option ((Bool × List Int × Unit) × (Bool × List Int × Unit) × Unit) :=
  ((quadformref02_New (t0.1.1, (t0.1.2.1, ())) (t0.2.1.1, (t0.2.1.2.1, ()))).bind fun y1 =>
  (cond ((!y1.2.1))
  (((quadformref02_Small (0 : Int)).bind fun y2 =>
  (some ((y2.1.1, (y2.1.2.1, ())), ((y2.2.1.1, (y2.2.1.2.1, ())), ())))))
  ((quadformref02_Normalize.j1 ([] : List Int) ([] : List Int) y1.1.1.1 y1.1.1.2.1 y1.1.2.1.1 y1.1.2.1.2.1))))
noncomputable def quadformref02_Normalize.en : En := ⟨151, [.pair (.pair (.bool) (.pair (.sl (.int .u32)) (.unit))) (.pair (.pair (.bool) (.pair (.sl (.int .u32)) (.unit))) (.unit))], .pair (.pair (.bool) (.pair (.sl (.int .u32)) (.unit))) (.pair (.pair (.bool) (.pair (.sl (.int .u32)) (.unit))) (.unit)), false, fun x => quadformref02_Normalize x.1⟩
noncomputable def quadformref02_Normalize.o : List En := [quadformref02_New.en, quadformref02_Small.en]
noncomputable def quadformref02_Normalize.oB : List EnB := []
def quadformref02_Normalize.h : HT := .n
noncomputable def quadformref02_Normalize.c : Code := Tryz.f151.body.getD .skip
noncomputable def quadformref02_Normalize.L : Lam := fun _ i s K => none
theorem quadformref02_Normalize.os : AllOk prog quadformref02_Normalize.o := ⟨quadformref02_New.ok, quadformref02_Small.ok, trivial⟩
theorem quadformref02_Normalize.osB : AllBOk prog quadformref02_Normalize.oB := trivial
theorem quadformref02_Normalize.hk (x) : semK env (orc quadformref02_Normalize.o) (orcB quadformref02_Normalize.oB) 17 (quadformref02_Normalize.L _) quadformref02_Normalize.c quadformref02_Normalize.h (S.init (avs [.pair (.pair (.bool) (.pair (.sl (.int .u32)) (.unit))) (.pair (.pair (.bool) (.pair (.sl (.int .u32)) (.unit))) (.unit))] x)) (fin env Tryz.f151 ⟨[.pair (.pair (.bool) (.pair (.sl (.int .u32)) (.unit))) (.pair (.pair (.bool) (.pair (.sl (.int .u32)) (.unit))) (.unit))], .pair (.pair (.bool) (.pair (.sl (.int .u32)) (.unit))) (.pair (.pair (.bool) (.pair (.sl (.int .u32)) (.unit))) (.unit)), false, false⟩) = quadformref02_Normalize.en.g x := by kernel_rfl
theorem quadformref02_Normalize.ok : EnOk prog quadformref02_Normalize.en := by
  refine fun_ok (g := ⟨[.pair (.pair (.bool) (.pair (.sl (.int .u32)) (.unit))) (.pair (.pair (.bool) (.pair (.sl (.int .u32)) (.unit))) (.unit))], .pair (.pair (.bool) (.pair (.sl (.int .u32)) (.unit))) (.pair (.pair (.bool) (.pair (.sl (.int .u32)) (.unit))) (.unit)), false, false⟩) (h := quadformref02_Normalize.h) (Λ := quadformref02_Normalize.L) tabs quadformref02_Normalize.os quadformref02_Normalize.osB Tryz.func151 (c := quadformref02_Normalize.c) (by kernel_rfl) (by decide +kernel) (by decide +kernel) (fun C hC => ?_) (fun x => quadformref02_Normalize.hk x)
  exact by
    have e : loops quadformref02_Normalize.c quadformref02_Normalize.h = [] := by kernel_rfl
    rw [e]
    exact LamOk.nil
noncomputable def quadformref01_Mul.j2 (t6 : Int) (t7 : Int) (t8 : Int) (t20 : List Int) (t21 : Int) (t22 : Int) (t28 : List Int) (t29 : Int) (t30 : Int) (b2_0 : Bool) (b2_1 : List Int) (b3_0 : Bool) (b3_1 : List Int) (b4_0 : Bool) (b4_1 : List Int) (a18 : List (Int)) : Option ((Int × Int × Int × List Int × Int × Int × List Int × Int × Int × List Int × (Bool × List Int × Unit) × (Bool × List Int × Unit) × (Bool × List Int × Unit) × Unit) ⊕ ((Int × Int × List Int × Int × Int × List Int × (Bool × List Int × Unit) × (Bool × List Int × Unit) × (Bool × List Int × Unit) × Unit))) :=
  (cond (inB t30 (List.length t28))
  ((cond (inB (IntKind.wrap .i64 (t6 + t30)) (List.length a18))
  (let x5 := (IntKind.wrap .u64 ((IntKind.wrap .u64 ((IntKind.wrap .u64 t7) * (IntKind.wrap .u64 (List.getD t28 (t30.toNat) (0 : Int))))) + (IntKind.wrap .u64 (List.getD a18 ((0 + (((IntKind.wrap .i64 (t6 + t30))).toNat))) (0 : Int)))))
  (cond (inB (IntKind.wrap .i64 (t6 + t30)) (List.length a18))
  ((some (.inl (t6, t7, (shrI .u64 (IntKind.wrap .u64 (t8 + x5)) (32 : Int)), t20, t21, t22, t28, t29, (IntKind.wrap .i64 (t30 + (1 : Int))), (List.set a18 ((0 + (((IntKind.wrap .i64 (t6 + t30))).toNat))) (IntKind.wrap .u32 (IntKind.wrap .u64 (t8 + x5)))), (b2_0, (b2_1, ())), (b3_0, (b3_1, ())), (b4_0, (b4_1, ())), ()))))
  none))
  none))
  none)
noncomputable def quadformref01_Mul.s0 (t6 : Int) (t7 : Int) (t8 : Int) (t20 : List Int) (t21 : Int) (t22 : Int) (t28 : List Int) (t29 : Int) (t30 : Int) (a18 : List (Int)) (b2 : Bool × List Int × Unit) (b3 : Bool × List Int × Unit) (b4 : Bool × List Int × Unit) : Option ((Int × Int × Int × List Int × Int × Int × List Int × Int × Int × List Int × (Bool × List Int × Unit) × (Bool × List Int × Unit) × (Bool × List Int × Unit) × Unit) ⊕ ((Int × Int × List Int × Int × Int × List Int × (Bool × List Int × Unit) × (Bool × List Int × Unit) × (Bool × List Int × Unit) × Unit))) :=
  (cond ((decide (t30 < t29)))
  ((quadformref01_Mul.j2 t6 t7 t8 t20 t21 t22 t28 t29 t30 b2.1 b2.2.1 b3.1 b3.2.1 b4.1 b4.2.1 a18))
  ((some (.inr (t6, t8, t20, t21, t22, a18, (b2.1, (b2.2.1, ())), (b3.1, (b3.2.1, ())), (b4.1, (b4.2.1, ())), ())))))
noncomputable def quadformref01_Mul.k0 (t6 : Int) (t8 : Int) (t20 : List Int) (t21 : Int) (t22 : Int) (a18 : List (Int)) (b2 : Bool × List Int × Unit) (b3 : Bool × List Int × Unit) (b4 : Bool × List Int × Unit) : Option ((List Int × Int × Int × List Int × (Bool × List Int × Unit) × (Bool × List Int × Unit) × (Bool × List Int × Unit) × Unit) ⊕ ((List Int × (Bool × List Int × Unit) × (Bool × List Int × Unit) × (Bool × List Int × Unit) × Unit))) :=
  let x9 := (IntKind.wrap .i64 (t6 + ((List.length b3.2.1 : Nat) : Int)))
  (cond (inB x9 (List.length a18))
  ((some (.inl (t20, t21, (IntKind.wrap .i64 (t22 + (1 : Int))), (List.set a18 ((0 + x9.toNat)) (IntKind.wrap .u32 t8)), (b2.1, (b2.2.1, ())), (b3.1, (b3.2.1, ())), (b4.1, (b4.2.1, ())), ()))))
  none)
noncomputable def quadformref01_Mul.j1 (t20 : List Int) (t21 : Int) (t22 : Int) (b2_0 : Bool) (b2_1 : List Int) (b3_0 : Bool) (b3_1 : List Int) (b4_0 : Bool) (b4_1 : List Int) (a18 : List (Int)) : Option ((List Int × Int × Int × List Int × (Bool × List Int × Unit) × (Bool × List Int × Unit) × (Bool × List Int × Unit) × Unit) ⊕ ((List Int × (Bool × List Int × Unit) × (Bool × List Int × Unit) × (Bool × List Int × Unit) × Unit))) :=
  (cond (inB t22 (List.length t20))
  (((iterL (fun x : Int × Int × Int × List Int × Int × Int × List Int × Int × Int × List Int × (Bool × List Int × Unit) × (Bool × List Int × Unit) × (Bool × List Int × Unit) × Unit => quadformref01_Mul.s0 x.1 x.2.1 x.2.2.1 x.2.2.2.1 x.2.2.2.2.1 x.2.2.2.2.2.1 x.2.2.2.2.2.2.1 x.2.2.2.2.2.2.2.1 x.2.2.2.2.2.2.2.2.1 x.2.2.2.2.2.2.2.2.2.1 x.2.2.2.2.2.2.2.2.2.2.1 x.2.2.2.2.2.2.2.2.2.2.2.1 x.2.2.2.2.2.2.2.2.2.2.2.2.1) (t22, (List.getD t20 (t22.toNat) (0 : Int)), (0 : Int), t20, t21, t22, b3_1, ((List.length b3_1 : Nat) : Int), (0 : Int), a18, (b2_0, (b2_1, ())), (b3_0, (b3_1, ())), (b4_0, (b4_1, ())), ())).bind fun y => quadformref01_Mul.k0 y.1 y.2.1 y.2.2.1 y.2.2.2.1 y.2.2.2.2.1 y.2.2.2.2.2.1 y.2.2.2.2.2.2.1 y.2.2.2.2.2.2.2.1 y.2.2.2.2.2.2.2.2.1))
  none)
noncomputable def quadformref01_Mul.s1 (t20 : List Int) (t21 : Int) (t22 : Int) (a18 : List (Int)) (b2 : Bool × List Int × Unit) (b3 : Bool × List Int × Unit) (b4 : Bool × List Int × Unit) : Option ((List Int × Int × Int × List Int × (Bool × List Int × Unit) × (Bool × List Int × Unit) × (Bool × List Int × Unit) × Unit) ⊕ ((List Int × (Bool × List Int × Unit) × (Bool × List Int × Unit) × (Bool × List Int × Unit) × Unit))) :=
  (cond ((decide (t22 < t21)))
  ((quadformref01_Mul.j1 t20 t21 t22 b2.1 b2.2.1 b3.1 b3.2.1 b4.1 b4.2.1 a18))
  ((some (.inr (a18, (b2.1, (b2.2.1, ())), (b3.1, (b3.2.1, ())), (b4.1, (b4.2.1, ())), ())))))
noncomputable def quadformref01_Mul.k1 (a18 : List (Int)) (b2 : Bool × List Int × Unit) (b3 : Bool × List Int × Unit) (b4 : Bool × List Int × Unit) : Option (Bool × List Int × Unit) :=
  ((quadformref01_Make (!(b2.1 == b3.1)) a18).bind fun y11 =>
  (some (y11.1, (y11.2.1, ()))))
noncomputable def quadformref01_Mul (t0 : Bool × List Int × Unit) (t1 : Bool × List Int × Unit) : Option (Bool × List Int × Unit) :=
  let x1 := (IntKind.wrap .i64 (((List.length t0.2.1 : Nat) : Int) + ((List.length t1.2.1 : Nat) : Int)))
  (cond (inC x1 maxL)
  (((iterL (fun x : List Int × Int × Int × List Int × (Bool × List Int × Unit) × (Bool × List Int × Unit) × (Bool × List Int × Unit) × Unit => quadformref01_Mul.s1 x.1 x.2.1 x.2.2.1 x.2.2.2.1 x.2.2.2.2.1 x.2.2.2.2.2.1 x.2.2.2.2.2.2.1) (t0.2.1, ((List.length t0.2.1 : Nat) : Int), (0 : Int), (List.replicate (x1.toNat) ((0 : Int) : Int)), (t0.1, (t0.2.1, ())), (t1.1, (t1.2.1, ())), (false, (([] : List Int), ())), ())).bind fun y => quadformref01_Mul.k1 y.1 y.2.1 y.2.2.1 y.2.2.2.1))
  none)
noncomputable def quadformref01_Mul.en : En := ⟨102, [.pair (.bool) (.pair (.sl (.int .u32)) (.unit)), .pair (.bool) (.pair (.sl (.int .u32)) (.unit))], .pair (.bool) (.pair (.sl (.int .u32)) (.unit)), false, fun x => quadformref01_Mul x.1 x.2.1⟩
noncomputable def quadformref01_Mul.o : List En := [quadformref01_Make.en]
noncomputable def quadformref01_Mul.oB : List EnB := []
def quadformref01_Mul.h : HT := .two (.n) (.two (.n) (.two (.two (.n) (.lp 1)) (.two (.fr [18] []) (.n))))
noncomputable def quadformref01_Mul.c : Code := Tryz.f102.body.getD .skip
def quadformref01_Mul.h1 : HT := .two (.n) (.two (.n) (.two (.two (.n) (.two (.n) (.two (.two (.n) (.lp 0)) (.n)))) (.n)))
noncomputable def quadformref01_Mul.c1 : Code := (find (loops quadformref01_Mul.c quadformref01_Mul.h) 1).getD .skip
def quadformref01_Mul.d1 : Fm := [.v 20 (.sl (.int .u32)), .v 21 (.int .i64), .v 22 (.int .i64), .arr 18 211 (.int .u32), .box 2 (.pair (.bool) (.pair (.sl (.int .u32)) (.unit))), .box 3 (.pair (.bool) (.pair (.sl (.int .u32)) (.unit))), .box 4 (.pair (.bool) (.pair (.sl (.int .u32)) (.unit))), .own 5 18, .ptr 2 2, .ptr 3 3, .ptr 4 4]
def quadformref01_Mul.x1 : Xs := [(.exit 0, [.arr 18 211 (.int .u32), .box 2 (.pair (.bool) (.pair (.sl (.int .u32)) (.unit))), .box 3 (.pair (.bool) (.pair (.sl (.int .u32)) (.unit))), .box 4 (.pair (.bool) (.pair (.sl (.int .u32)) (.unit))), .own 5 18, .ptr 2 2, .ptr 3 3, .ptr 4 4])]
noncomputable def quadformref01_Mul.r1 (x : (Fm.ty quadformref01_Mul.d1).den) : Option ((Fm.ty quadformref01_Mul.d1).den ⊕ (Xs.T quadformref01_Mul.x1)) := quadformref01_Mul.s1 x.1 x.2.1 x.2.2.1 x.2.2.2.1 x.2.2.2.2.1 x.2.2.2.2.2.1 x.2.2.2.2.2.2.1
def quadformref01_Mul.h0 : HT := .n
noncomputable def quadformref01_Mul.c0 : Code := (find (loops quadformref01_Mul.c1 quadformref01_Mul.h1) 0).getD .skip
def quadformref01_Mul.d0 : Fm := [.v 6 (.int .i64), .v 7 (.int .u32), .v 8 (.int .u64), .v 20 (.sl (.int .u32)), .v 21 (.int .i64), .v 22 (.int .i64), .v 28 (.sl (.int .u32)), .v 29 (.int .i64), .v 30 (.int .i64), .arr 18 211 (.int .u32), .box 2 (.pair (.bool) (.pair (.sl (.int .u32)) (.unit))), .box 3 (.pair (.bool) (.pair (.sl (.int .u32)) (.unit))), .box 4 (.pair (.bool) (.pair (.sl (.int .u32)) (.unit))), .own 5 18, .ptr 2 2, .ptr 3 3, .ptr 4 4]
def quadformref01_Mul.x0 : Xs := [(.exit 2, [.v 6 (.int .i64), .v 8 (.int .u64), .v 20 (.sl (.int .u32)), .v 21 (.int .i64), .v 22 (.int .i64), .arr 18 211 (.int .u32), .box 2 (.pair (.bool) (.pair (.sl (.int .u32)) (.unit))), .box 3 (.pair (.bool) (.pair (.sl (.int .u32)) (.unit))), .box 4 (.pair (.bool) (.pair (.sl (.int .u32)) (.unit))), .own 5 18, .ptr 2 2, .ptr 3 3, .ptr 4 4])]
noncomputable def quadformref01_Mul.r0 (x : (Fm.ty quadformref01_Mul.d0).den) : Option ((Fm.ty quadformref01_Mul.d0).den ⊕ (Xs.T quadformref01_Mul.x0)) := quadformref01_Mul.s0 x.1 x.2.1 x.2.2.1 x.2.2.2.1 x.2.2.2.2.1 x.2.2.2.2.2.1 x.2.2.2.2.2.2.1 x.2.2.2.2.2.2.2.1 x.2.2.2.2.2.2.2.2.1 x.2.2.2.2.2.2.2.2.2.1 x.2.2.2.2.2.2.2.2.2.2.1 x.2.2.2.2.2.2.2.2.2.2.2.1 x.2.2.2.2.2.2.2.2.2.2.2.2.1
noncomputable def quadformref01_Mul.L : Lam := fun _ i s K => cond (Nat.beq i 0) (lamK quadformref01_Mul.d0 quadformref01_Mul.x0 quadformref01_Mul.r0 s K) (cond (Nat.beq i 1) (lamK quadformref01_Mul.d1 quadformref01_Mul.x1 quadformref01_Mul.r1 s K) (none))
theorem quadformref01_Mul.hf0 (x) : roundK env (orc quadformref01_Mul.o) (orcB quadformref01_Mul.oB) 77 quadformref01_Mul.L quadformref01_Mul.c0 quadformref01_Mul.h0 quadformref01_Mul.d0 quadformref01_Mul.x0 x = quadformref01_Mul.r0 x := by kernel_rfl
theorem quadformref01_Mul.hf1 (x) : roundK env (orc quadformref01_Mul.o) (orcB quadformref01_Mul.oB) 77 quadformref01_Mul.L quadformref01_Mul.c1 quadformref01_Mul.h1 quadformref01_Mul.d1 quadformref01_Mul.x1 x = quadformref01_Mul.r1 x := by kernel_rfl
theorem quadformref01_Mul.os : AllOk prog quadformref01_Mul.o := ⟨quadformref01_Make.ok, trivial⟩
theorem quadformref01_Mul.osB : AllBOk prog quadformref01_Mul.oB := trivial
theorem quadformref01_Mul.l0 {C : Ctx} (hC : C.n = 77) : LamAt prog C quadformref01_Mul.L 0 quadformref01_Mul.c0 := by
  intro R s K r hk
  refine loop_ok (D := quadformref01_Mul.d0) (X := quadformref01_Mul.x0) (h := quadformref01_Mul.h0) (f := quadformref01_Mul.r0) tabs (orc_ok _ quadformref01_Mul.os) (orcB_ok _ quadformref01_Mul.osB) (fun x => by rw [hC]; exact quadformref01_Mul.hf0 x) (Λ := quadformref01_Mul.L) ?_ (by kernel_rfl) (by kernel_rfl) (K := K) (s := s) (by exact hk)
  exact by
    have e : loops quadformref01_Mul.c0 quadformref01_Mul.h0 = [] := by kernel_rfl
    rw [e]
    exact LamOk.nil
theorem quadformref01_Mul.l1 {C : Ctx} (hC : C.n = 77) : LamAt prog C quadformref01_Mul.L 1 quadformref01_Mul.c1 := by
  intro R s K r hk
  refine loop_ok (D := quadformref01_Mul.d1) (X := quadformref01_Mul.x1) (h := quadformref01_Mul.h1) (f := quadformref01_Mul.r1) tabs (orc_ok _ quadformref01_Mul.os) (orcB_ok _ quadformref01_Mul.osB) (fun x => by rw [hC]; exact quadformref01_Mul.hf1 x) (Λ := quadformref01_Mul.L) ?_ (by kernel_rfl) (by kernel_rfl) (K := K) (s := s) (by exact hk)
  exact by
    have e : loops quadformref01_Mul.c1 quadformref01_Mul.h1 = [(0, quadformref01_Mul.c0)] := by kernel_rfl
    rw [e]
    exact LamOk.cons (quadformref01_Mul.l0 hC) (LamOk.nil)
theorem quadformref01_Mul.hk (x) : semK env (orc quadformref01_Mul.o) (orcB quadformref01_Mul.oB) 77 (quadformref01_Mul.L _) quadformref01_Mul.c quadformref01_Mul.h (S.init (avs [.pair (.bool) (.pair (.sl (.int .u32)) (.unit)), .pair (.bool) (.pair (.sl (.int .u32)) (.unit))] x)) (fin env Tryz.f102 ⟨[.pair (.bool) (.pair (.sl (.int .u32)) (.unit)), .pair (.bool) (.pair (.sl (.int .u32)) (.unit))], .pair (.bool) (.pair (.sl (.int .u32)) (.unit)), false, false⟩) = quadformref01_Mul.en.g x := by kernel_rfl
theorem quadformref01_Mul.ok : EnOk prog quadformref01_Mul.en := by
  refine fun_ok (g := ⟨[.pair (.bool) (.pair (.sl (.int .u32)) (.unit)), .pair (.bool) (.pair (.sl (.int .u32)) (.unit))], .pair (.bool) (.pair (.sl (.int .u32)) (.unit)), false, false⟩) (h := quadformref01_Mul.h) (Λ := quadformref01_Mul.L) tabs quadformref01_Mul.os quadformref01_Mul.osB Tryz.func102 (c := quadformref01_Mul.c) (by kernel_rfl) (by decide +kernel) (by decide +kernel) (fun C hC => ?_) (fun x => quadformref01_Mul.hk x)
  exact by
    have e : loops quadformref01_Mul.c quadformref01_Mul.h = [(1, quadformref01_Mul.c1)] := by kernel_rfl
    rw [e]
    exact LamOk.cons (quadformref01_Mul.l1 hC) (LamOk.nil)
noncomputable def quadformref02_Quo (t0 : (Bool × List Int × Unit) × (Bool × List Int × Unit) × Unit) (t1 : (Bool × List Int × Unit) × (Bool × List Int × Unit) × Unit) : Option (((Bool × List Int × Unit) × (Bool × List Int × Unit) × Unit) × Bool × Unit) :=
  ((quadformref02_Normalize ((t0.1.1, (t0.1.2.1, ())), ((t0.2.1.1, (t0.2.1.2.1, ())), ()))).bind fun y1 =>
  ((quadformref02_Normalize ((t1.1.1, (t1.1.2.1, ())), ((t1.2.1.1, (t1.2.1.2.1, ())), ()))).bind fun y2 =>
  ((quadformref01_Mul (y1.1.1, (y1.1.2.1, ())) (y2.2.1.1, (y2.2.1.2.1, ()))).bind fun y3 =>
  ((quadformref01_Mul (y1.2.1.1, (y1.2.1.2.1, ())) (y2.1.1, (y2.1.2.1, ()))).bind fun y4 =>
  ((quadformref02_New y3 y4).bind fun y5 =>
  (some (((y5.1.1.1, (y5.1.1.2.1, ())), ((y5.1.2.1.1, (y5.1.2.1.2.1, ())), ())), (y5.2.1, ()))))))))
noncomputable def quadformref02_Quo.en : En := ⟨211, [.pair (.pair (.bool) (.pair (.sl (.int .u32)) (.unit))) (.pair (.pair (.bool) (.pair (.sl (.int .u32)) (.unit))) (.unit)), .pair (.pair (.bool) (.pair (.sl (.int .u32)) (.unit))) (.pair (.pair (.bool) (.pair (.sl (.int .u32)) (.unit))) (.unit))], .pair (.pair (.pair (.bool) (.pair (.sl (.int .u32)) (.unit))) (.pair (.pair (.bool) (.pair (.sl (.int .u32)) (.unit))) (.unit))) (.pair (.bool) (.unit)), true, fun x => quadformref02_Quo x.1 x.2.1⟩
noncomputable def quadformref02_Quo.o : List En := [quadformref02_New.en, quadformref01_Mul.en, quadformref02_Normalize.en]
noncomputable def quadformref02_Quo.oB : List EnB := []
def quadformref02_Quo.h : HT := .n
noncomputable def quadformref02_Quo.c : Code := Tryz.f211.body.getD .skip
noncomputable def quadformref02_Quo.L : Lam := fun _ i s K => none
theorem quadformref02_Quo.os : AllOk prog quadformref02_Quo.o := ⟨quadformref02_New.ok, quadformref01_Mul.ok, quadformref02_Normalize.ok, trivial⟩
theorem quadformref02_Quo.osB : AllBOk prog quadformref02_Quo.oB := trivial
theorem quadformref02_Quo.hk (x) : semK env (orc quadformref02_Quo.o) (orcB quadformref02_Quo.oB) 25 (quadformref02_Quo.L _) quadformref02_Quo.c quadformref02_Quo.h (S.init (avs [.pair (.pair (.bool) (.pair (.sl (.int .u32)) (.unit))) (.pair (.pair (.bool) (.pair (.sl (.int .u32)) (.unit))) (.unit)), .pair (.pair (.bool) (.pair (.sl (.int .u32)) (.unit))) (.pair (.pair (.bool) (.pair (.sl (.int .u32)) (.unit))) (.unit))] x)) (fin env Tryz.f211 ⟨[.pair (.pair (.bool) (.pair (.sl (.int .u32)) (.unit))) (.pair (.pair (.bool) (.pair (.sl (.int .u32)) (.unit))) (.unit)), .pair (.pair (.bool) (.pair (.sl (.int .u32)) (.unit))) (.pair (.pair (.bool) (.pair (.sl (.int .u32)) (.unit))) (.unit))], .pair (.pair (.pair (.bool) (.pair (.sl (.int .u32)) (.unit))) (.pair (.pair (.bool) (.pair (.sl (.int .u32)) (.unit))) (.unit))) (.pair (.bool) (.unit)), true, false⟩) = quadformref02_Quo.en.g x := by kernel_rfl
theorem quadformref02_Quo.ok : EnOk prog quadformref02_Quo.en := by
  refine fun_ok (g := ⟨[.pair (.pair (.bool) (.pair (.sl (.int .u32)) (.unit))) (.pair (.pair (.bool) (.pair (.sl (.int .u32)) (.unit))) (.unit)), .pair (.pair (.bool) (.pair (.sl (.int .u32)) (.unit))) (.pair (.pair (.bool) (.pair (.sl (.int .u32)) (.unit))) (.unit))], .pair (.pair (.pair (.bool) (.pair (.sl (.int .u32)) (.unit))) (.pair (.pair (.bool) (.pair (.sl (.int .u32)) (.unit))) (.unit))) (.pair (.bool) (.unit)), true, false⟩) (h := quadformref02_Quo.h) (Λ := quadformref02_Quo.L) tabs quadformref02_Quo.os quadformref02_Quo.osB Tryz.func211 (c := quadformref02_Quo.c) (by kernel_rfl) (by decide +kernel) (by decide +kernel) (fun C hC => ?_) (fun x => quadformref02_Quo.hk x)
  exact by
    have e : loops quadformref02_Quo.c quadformref02_Quo.h = [] := by kernel_rfl
    rw [e]
    exact LamOk.nil
noncomputable def quadformref01_Pow.j2 (t1 : Int) (t7 : Int) (b2_0 : Bool) (b2_1 : List Int) (b4_0 : Bool) (b4_1 : List Int) (b6_0 : Bool) (b6_1 : List Int) : Option ((Int × Int × (Bool × List Int × Unit) × (Bool × List Int × Unit) × (Bool × List Int × Unit) × Unit) ⊕ (((Bool × List Int × Unit) × (Bool × List Int × Unit) × Unit))) :=
  ((quadformref01_Mul (b6_0, (b6_1, ())) (b2_0, (b2_1, ()))).bind fun y2 =>
  (some (.inl (t1, (IntKind.wrap .i64 (t7 + (1 : Int))), (b2_0, (b2_1, ())), (b4_0, (b4_1, ())), (y2.1, (y2.2.1, ())), ()))))
noncomputable def quadformref01_Pow.s0 (t1 : Int) (t7 : Int) (b2 : Bool × List Int × Unit) (b4 : Bool × List Int × Unit) (b6 : Bool × List Int × Unit) : Option ((Int × Int × (Bool × List Int × Unit) × (Bool × List Int × Unit) × (Bool × List Int × Unit) × Unit) ⊕ (((Bool × List Int × Unit) × (Bool × List Int × Unit) × Unit))) :=
  (cond ((decide (t7 < t1)))
  ((quadformref01_Pow.j2 t1 t7 b2.1 b2.2.1 b4.1 b4.2.1 b6.1 b6.2.1))
  ((some (.inr ((b4.1, (b4.2.1, ())), (b6.1, (b6.2.1, ())), ())))))
noncomputable def quadformref01_Pow.k0 (b4 : Bool × List Int × Unit) (b6 : Bool × List Int × Unit) : Option ((Bool × List Int × Unit) × Bool × Unit) :=
  (some ((b6.1, (b6.2.1, ())), (true, ())))
noncomputable def quadformref01_Pow.j1 (t1 : Int) (b2_0 : Bool) (b2_1 : List Int) (b4_1 : List Int) : Option ((Bool × List Int × Unit) × Bool × Unit) :=
  ((quadformref01_Small (1 : Int)).bind fun y1 =>
  ((iterL (fun x : Int × Int × (Bool × List Int × Unit) × (Bool × List Int × Unit) × (Bool × List Int × Unit) × Unit => quadformref01_Pow.s0 x.1 x.2.1 x.2.2.1 x.2.2.2.1 x.2.2.2.2.1) (t1, (0 : Int), (b2_0, (b2_1, ())), (false, (b4_1, ())), (y1.1, (y1.2.1, ())), ())).bind fun y => quadformref01_Pow.k0 y.1 y.2.1))
noncomputable def quadformref01_Pow (t0 : Bool × List Int × Unit) (t1 : Int) : Option ((Bool × List Int × Unit) × Bool × Unit) :=
  (cond ((decide (t1 < (0 : Int))))
  ((some ((false, (([] : List Int), ())), (false, ()))))
  ((cond ((decide (t1 > (64 : Int))))
  ((some ((false, (([] : List Int), ())), (false, ()))))
  ((quadformref01_Pow.j1 t1 t0.1 t0.2.1 ([] : List Int))))))
noncomputable def quadformref01_Pow.en : En := ⟨212, [.pair (.bool) (.pair (.sl (.int .u32)) (.unit)), .int .i64], .pair (.pair (.bool) (.pair (.sl (.int .u32)) (.unit))) (.pair (.bool) (.unit)), true, fun x => quadformref01_Pow x.1 x.2.1⟩
noncomputable def quadformref01_Pow.o : List En := [quadformref01_Small.en, quadformref01_Mul.en]
noncomputable def quadformref01_Pow.oB : List EnB := []
def quadformref01_Pow.h : HT := .two (.n) (.two (.n) (.two (.n) (.two (.two (.n) (.lp 0)) (.n))))
noncomputable def quadformref01_Pow.c : Code := Tryz.f212.body.getD .skip
def quadformref01_Pow.h0 : HT := .n
noncomputable def quadformref01_Pow.c0 : Code := (find (loops quadformref01_Pow.c quadformref01_Pow.h) 0).getD .skip
def quadformref01_Pow.d0 : Fm := [.v 1 (.int .i64), .v 7 (.int .i64), .box 2 (.pair (.bool) (.pair (.sl (.int .u32)) (.unit))), .box 4 (.pair (.bool) (.pair (.sl (.int .u32)) (.unit))), .box 6 (.pair (.bool) (.pair (.sl (.int .u32)) (.unit))), .ptr 2 2, .ptr 4 4, .ptr 6 6]
def quadformref01_Pow.x0 : Xs := [(.exit 0, [.box 4 (.pair (.bool) (.pair (.sl (.int .u32)) (.unit))), .box 6 (.pair (.bool) (.pair (.sl (.int .u32)) (.unit))), .ptr 4 4, .ptr 6 6])]
noncomputable def quadformref01_Pow.r0 (x : (Fm.ty quadformref01_Pow.d0).den) : Option ((Fm.ty quadformref01_Pow.d0).den ⊕ (Xs.T quadformref01_Pow.x0)) := quadformref01_Pow.s0 x.1 x.2.1 x.2.2.1 x.2.2.2.1 x.2.2.2.2.1
noncomputable def quadformref01_Pow.L : Lam := fun _ i s K => cond (Nat.beq i 0) (lamK quadformref01_Pow.d0 quadformref01_Pow.x0 quadformref01_Pow.r0 s K) (none)
theorem quadformref01_Pow.hf0 (x) : roundK env (orc quadformref01_Pow.o) (orcB quadformref01_Pow.oB) 25 quadformref01_Pow.L quadformref01_Pow.c0 quadformref01_Pow.h0 quadformref01_Pow.d0 quadformref01_Pow.x0 x = quadformref01_Pow.r0 x := by kernel_rfl
theorem quadformref01_Pow.os : AllOk prog quadformref01_Pow.o := ⟨quadformref01_Small.ok, quadformref01_Mul.ok, trivial⟩
theorem quadformref01_Pow.osB : AllBOk prog quadformref01_Pow.oB := trivial
theorem quadformref01_Pow.l0 {C : Ctx} (hC : C.n = 25) : LamAt prog C quadformref01_Pow.L 0 quadformref01_Pow.c0 := by
  intro R s K r hk
  refine loop_ok (D := quadformref01_Pow.d0) (X := quadformref01_Pow.x0) (h := quadformref01_Pow.h0) (f := quadformref01_Pow.r0) tabs (orc_ok _ quadformref01_Pow.os) (orcB_ok _ quadformref01_Pow.osB) (fun x => by rw [hC]; exact quadformref01_Pow.hf0 x) (Λ := quadformref01_Pow.L) ?_ (by kernel_rfl) (by kernel_rfl) (K := K) (s := s) (by exact hk)
  exact by
    have e : loops quadformref01_Pow.c0 quadformref01_Pow.h0 = [] := by kernel_rfl
    rw [e]
    exact LamOk.nil
theorem quadformref01_Pow.hk (x) : semK env (orc quadformref01_Pow.o) (orcB quadformref01_Pow.oB) 25 (quadformref01_Pow.L _) quadformref01_Pow.c quadformref01_Pow.h (S.init (avs [.pair (.bool) (.pair (.sl (.int .u32)) (.unit)), .int .i64] x)) (fin env Tryz.f212 ⟨[.pair (.bool) (.pair (.sl (.int .u32)) (.unit)), .int .i64], .pair (.pair (.bool) (.pair (.sl (.int .u32)) (.unit))) (.pair (.bool) (.unit)), true, false⟩) = quadformref01_Pow.en.g x := by kernel_rfl
theorem quadformref01_Pow.ok : EnOk prog quadformref01_Pow.en := by
  refine fun_ok (g := ⟨[.pair (.bool) (.pair (.sl (.int .u32)) (.unit)), .int .i64], .pair (.pair (.bool) (.pair (.sl (.int .u32)) (.unit))) (.pair (.bool) (.unit)), true, false⟩) (h := quadformref01_Pow.h) (Λ := quadformref01_Pow.L) tabs quadformref01_Pow.os quadformref01_Pow.osB Tryz.func212 (c := quadformref01_Pow.c) (by kernel_rfl) (by decide +kernel) (by decide +kernel) (fun C hC => ?_) (fun x => quadformref01_Pow.hk x)
  exact by
    have e : loops quadformref01_Pow.c quadformref01_Pow.h = [(0, quadformref01_Pow.c0)] := by kernel_rfl
    rw [e]
    exact LamOk.cons (quadformref01_Pow.l0 hC) (LamOk.nil)
noncomputable def quadformref02_Pow.j3 (t1 : Int) (b4_1 : List Int) (b4_3 : List Int) (b6_0 : Bool) (b6_1 : List Int) (b6_2 : Bool) (b6_3 : List Int) : Option (((Bool × List Int × Unit) × (Bool × List Int × Unit) × Unit) × Bool × Unit) :=
  ((quadformref01_Pow (b6_0, (b6_1, ())) t1).bind fun y4 =>
  ((quadformref01_Pow (b6_2, (b6_3, ())) t1).bind fun y5 =>
  (some (((y4.1.1, (y4.1.2.1, ())), ((y5.1.1, (y5.1.2.1, ())), ())), (true, ())))))
noncomputable def quadformref02_Pow.j2 (t1 : Int) (b4_1 : List Int) (b4_3 : List Int) (b6_0 : Bool) (b6_1 : List Int) (b6_2 : Bool) (b6_3 : List Int) (b7_0 : Bool) (b7_1 : List Int) (b7_2 : Bool) (b7_3 : List Int) : Option (((Bool × List Int × Unit) × (Bool × List Int × Unit) × Unit) × Bool × Unit) :=
  (quadformref02_Pow.j3 (IntKind.wrap .i64 (0 - t1)) b4_1 b4_3 b7_0 b7_1 b7_2 b7_3)
noncomputable def quadformref02_Pow.j1 (t1 : Int) (b2_0 : Bool) (b2_1 : List Int) (b2_2 : Bool) (b2_3 : List Int) (b4_1 : List Int) (b4_3 : List Int) : Option (((Bool × List Int × Unit) × (Bool × List Int × Unit) × Unit) × Bool × Unit) :=
  ((quadformref02_Normalize ((b2_0, (b2_1, ())), ((b2_2, (b2_3, ())), ()))).bind fun y1 =>
  (cond ((decide (t1 < (0 : Int))))
  (((quadformref02_Small (1 : Int)).bind fun y2 =>
  ((quadformref02_Quo y2 ((y1.1.1, (y1.1.2.1, ())), ((y1.2.1.1, (y1.2.1.2.1, ())), ()))).bind fun y3 =>
  (cond ((!y3.2.1))
  ((some (((false, (([] : List Int), ())), ((false, (([] : List Int), ())), ())), (false, ()))))
  ((quadformref02_Pow.j2 t1 b4_1 b4_3 y1.1.1 y1.1.2.1 y1.2.1.1 y1.2.1.2.1 y3.1.1.1 y3.1.1.2.1 y3.1.2.1.1 y3.1.2.1.2.1))))))
  ((quadformref02_Pow.j3 t1 b4_1 b4_3 y1.1.1 y1.1.2.1 y1.2.1.1 y1.2.1.2.1))))
noncomputable def quadformref02_Pow (t0 : (Bool × List Int × Unit) × (Bool × List Int × Unit) × Unit) (t1 : Int) : Option (((Bool × List Int × Unit) × (Bool × List Int × Unit) × Unit) × Bool × Unit) :=
  (cond ((decide (t1 < (-64 : Int))))
  ((some (((false, (([] : List Int), ())), ((false, (([] : List Int), ())), ())), (false, ()))))
  ((cond ((decide (t1 > (64 : Int))))
  ((some (((false, (([] : List Int), ())), ((false, (([] : List Int), ())), ())), (false, ()))))
  ((quadformref02_Pow.j1 t1 t0.1.1 t0.1.2.1 t0.2.1.1 t0.2.1.2.1 ([] : List Int) ([] : List Int))))))
noncomputable def quadformref02_Pow.en : En := ⟨150, [.pair (.pair (.bool) (.pair (.sl (.int .u32)) (.unit))) (.pair (.pair (.bool) (.pair (.sl (.int .u32)) (.unit))) (.unit)), .int .i64], .pair (.pair (.pair (.bool) (.pair (.sl (.int .u32)) (.unit))) (.pair (.pair (.bool) (.pair (.sl (.int .u32)) (.unit))) (.unit))) (.pair (.bool) (.unit)), true, fun x => quadformref02_Pow x.1 x.2.1⟩
noncomputable def quadformref02_Pow.o : List En := [quadformref02_Small.en, quadformref02_Normalize.en, quadformref02_Quo.en, quadformref01_Pow.en]
noncomputable def quadformref02_Pow.oB : List EnB := []
def quadformref02_Pow.h : HT := .n
noncomputable def quadformref02_Pow.c : Code := Tryz.f150.body.getD .skip
noncomputable def quadformref02_Pow.L : Lam := fun _ i s K => none
theorem quadformref02_Pow.os : AllOk prog quadformref02_Pow.o := ⟨quadformref02_Small.ok, quadformref02_Normalize.ok, quadformref02_Quo.ok, quadformref01_Pow.ok, trivial⟩
theorem quadformref02_Pow.osB : AllBOk prog quadformref02_Pow.oB := trivial
theorem quadformref02_Pow.hk (x) : semK env (orc quadformref02_Pow.o) (orcB quadformref02_Pow.oB) 53 (quadformref02_Pow.L _) quadformref02_Pow.c quadformref02_Pow.h (S.init (avs [.pair (.pair (.bool) (.pair (.sl (.int .u32)) (.unit))) (.pair (.pair (.bool) (.pair (.sl (.int .u32)) (.unit))) (.unit)), .int .i64] x)) (fin env Tryz.f150 ⟨[.pair (.pair (.bool) (.pair (.sl (.int .u32)) (.unit))) (.pair (.pair (.bool) (.pair (.sl (.int .u32)) (.unit))) (.unit)), .int .i64], .pair (.pair (.pair (.bool) (.pair (.sl (.int .u32)) (.unit))) (.pair (.pair (.bool) (.pair (.sl (.int .u32)) (.unit))) (.unit))) (.pair (.bool) (.unit)), true, false⟩) = quadformref02_Pow.en.g x := by kernel_rfl
theorem quadformref02_Pow.ok : EnOk prog quadformref02_Pow.en := by
  refine fun_ok (g := ⟨[.pair (.pair (.bool) (.pair (.sl (.int .u32)) (.unit))) (.pair (.pair (.bool) (.pair (.sl (.int .u32)) (.unit))) (.unit)), .int .i64], .pair (.pair (.pair (.bool) (.pair (.sl (.int .u32)) (.unit))) (.pair (.pair (.bool) (.pair (.sl (.int .u32)) (.unit))) (.unit))) (.pair (.bool) (.unit)), true, false⟩) (h := quadformref02_Pow.h) (Λ := quadformref02_Pow.L) tabs quadformref02_Pow.os quadformref02_Pow.osB Tryz.func150 (c := quadformref02_Pow.c) (by kernel_rfl) (by decide +kernel) (by decide +kernel) (fun C hC => ?_) (fun x => quadformref02_Pow.hk x)
  exact by
    have e : loops quadformref02_Pow.c quadformref02_Pow.h = [] := by kernel_rfl
    rw [e]
    exact LamOk.nil
noncomputable def quadformref32_power (t0 : Int) (t1 : Int) : Option ((Bool × List Int × Unit) × (Bool × List Int × Unit) × Unit) :=
  ((quadformref02_Small t0).bind fun y1 =>
  ((quadformref02_Pow y1 t1).bind fun y2 =>
  (some ((y2.1.1.1, (y2.1.1.2.1, ())), ((y2.1.2.1.1, (y2.1.2.1.2.1, ())), ())))))
noncomputable def quadformref32_power.en : En := ⟨73, [.int .i64, .int .i64], .pair (.pair (.bool) (.pair (.sl (.int .u32)) (.unit))) (.pair (.pair (.bool) (.pair (.sl (.int .u32)) (.unit))) (.unit)), false, fun x => quadformref32_power x.1 x.2.1⟩
noncomputable def quadformref32_power.o : List En := [quadformref02_Small.en, quadformref02_Pow.en]
noncomputable def quadformref32_power.oB : List EnB := []
def quadformref32_power.h : HT := .n
noncomputable def quadformref32_power.c : Code := Tryz.f73.body.getD .skip
noncomputable def quadformref32_power.L : Lam := fun _ i s K => none
theorem quadformref32_power.os : AllOk prog quadformref32_power.o := ⟨quadformref02_Small.ok, quadformref02_Pow.ok, trivial⟩
theorem quadformref32_power.osB : AllBOk prog quadformref32_power.oB := trivial
theorem quadformref32_power.hk (x) : semK env (orc quadformref32_power.o) (orcB quadformref32_power.oB) 15 (quadformref32_power.L _) quadformref32_power.c quadformref32_power.h (S.init (avs [.int .i64, .int .i64] x)) (fin env Tryz.f73 ⟨[.int .i64, .int .i64], .pair (.pair (.bool) (.pair (.sl (.int .u32)) (.unit))) (.pair (.pair (.bool) (.pair (.sl (.int .u32)) (.unit))) (.unit)), false, false⟩) = quadformref32_power.en.g x := by kernel_rfl
theorem quadformref32_power.ok : EnOk prog quadformref32_power.en := by
  refine fun_ok (g := ⟨[.int .i64, .int .i64], .pair (.pair (.bool) (.pair (.sl (.int .u32)) (.unit))) (.pair (.pair (.bool) (.pair (.sl (.int .u32)) (.unit))) (.unit)), false, false⟩) (h := quadformref32_power.h) (Λ := quadformref32_power.L) tabs quadformref32_power.os quadformref32_power.osB Tryz.func73 (c := quadformref32_power.c) (by kernel_rfl) (by decide +kernel) (by decide +kernel) (fun C hC => ?_) (fun x => quadformref32_power.hk x)
  exact by
    have e : loops quadformref32_power.c quadformref32_power.h = [] := by kernel_rfl
    rw [e]
    exact LamOk.nil
noncomputable def quadformref31_Div (t0 : (Bool × List Int × Unit) × (Bool × List Int × Unit) × Unit) (t1 : (Bool × List Int × Unit) × (Bool × List Int × Unit) × Unit) : Option ((Bool × List Int × Unit) × (Bool × List Int × Unit) × Unit) :=
  ((quadformref02_Quo ((t0.1.1, (t0.1.2.1, ())), ((t0.2.1.1, (t0.2.1.2.1, ())), ())) ((t1.1.1, (t1.1.2.1, ())), ((t1.2.1.1, (t1.2.1.2.1, ())), ()))).bind fun y1 =>
  (some ((y1.1.1.1, (y1.1.1.2.1, ())), ((y1.1.2.1.1, (y1.1.2.1.2.1, ())), ()))))
noncomputable def quadformref31_Div.en : En := ⟨199, [.pair (.pair (.bool) (.pair (.sl (.int .u32)) (.unit))) (.pair (.pair (.bool) (.pair (.sl (.int .u32)) (.unit))) (.unit)), .pair (.pair (.bool) (.pair (.sl (.int .u32)) (.unit))) (.pair (.pair (.bool) (.pair (.sl (.int .u32)) (.unit))) (.unit))], .pair (.pair (.bool) (.pair (.sl (.int .u32)) (.unit))) (.pair (.pair (.bool) (.pair (.sl (.int .u32)) (.unit))) (.unit)), false, fun x => quadformref31_Div x.1 x.2.1⟩
noncomputable def quadformref31_Div.o : List En := [quadformref02_Quo.en]
noncomputable def quadformref31_Div.oB : List EnB := []
def quadformref31_Div.h : HT := .n
noncomputable def quadformref31_Div.c : Code := Tryz.f199.body.getD .skip
noncomputable def quadformref31_Div.L : Lam := fun _ i s K => none
theorem quadformref31_Div.os : AllOk prog quadformref31_Div.o := ⟨quadformref02_Quo.ok, trivial⟩
theorem quadformref31_Div.osB : AllBOk prog quadformref31_Div.oB := trivial
theorem quadformref31_Div.hk (x) : semK env (orc quadformref31_Div.o) (orcB quadformref31_Div.oB) 14 (quadformref31_Div.L _) quadformref31_Div.c quadformref31_Div.h (S.init (avs [.pair (.pair (.bool) (.pair (.sl (.int .u32)) (.unit))) (.pair (.pair (.bool) (.pair (.sl (.int .u32)) (.unit))) (.unit)), .pair (.pair (.bool) (.pair (.sl (.int .u32)) (.unit))) (.pair (.pair (.bool) (.pair (.sl (.int .u32)) (.unit))) (.unit))] x)) (fin env Tryz.f199 ⟨[.pair (.pair (.bool) (.pair (.sl (.int .u32)) (.unit))) (.pair (.pair (.bool) (.pair (.sl (.int .u32)) (.unit))) (.unit)), .pair (.pair (.bool) (.pair (.sl (.int .u32)) (.unit))) (.pair (.pair (.bool) (.pair (.sl (.int .u32)) (.unit))) (.unit))], .pair (.pair (.bool) (.pair (.sl (.int .u32)) (.unit))) (.pair (.pair (.bool) (.pair (.sl (.int .u32)) (.unit))) (.unit)), false, false⟩) = quadformref31_Div.en.g x := by kernel_rfl
theorem quadformref31_Div.ok : EnOk prog quadformref31_Div.en := by
  refine fun_ok (g := ⟨[.pair (.pair (.bool) (.pair (.sl (.int .u32)) (.unit))) (.pair (.pair (.bool) (.pair (.sl (.int .u32)) (.unit))) (.unit)), .pair (.pair (.bool) (.pair (.sl (.int .u32)) (.unit))) (.pair (.pair (.bool) (.pair (.sl (.int .u32)) (.unit))) (.unit))], .pair (.pair (.bool) (.pair (.sl (.int .u32)) (.unit))) (.pair (.pair (.bool) (.pair (.sl (.int .u32)) (.unit))) (.unit)), false, false⟩) (h := quadformref31_Div.h) (Λ := quadformref31_Div.L) tabs quadformref31_Div.os quadformref31_Div.osB Tryz.func199 (c := quadformref31_Div.c) (by kernel_rfl) (by decide +kernel) (by decide +kernel) (fun C hC => ?_) (fun x => quadformref31_Div.hk x)
  exact by
    have e : loops quadformref31_Div.c quadformref31_Div.h = [] := by kernel_rfl
    rw [e]
    exact LamOk.nil
noncomputable def quadformref02_Add (t0 : (Bool × List Int × Unit) × (Bool × List Int × Unit) × Unit) (t1 : (Bool × List Int × Unit) × (Bool × List Int × Unit) × Unit) : Option ((Bool × List Int × Unit) × (Bool × List Int × Unit) × Unit) :=
  ((quadformref02_Normalize ((t0.1.1, (t0.1.2.1, ())), ((t0.2.1.1, (t0.2.1.2.1, ())), ()))).bind fun y1 =>
  ((quadformref02_Normalize ((t1.1.1, (t1.1.2.1, ())), ((t1.2.1.1, (t1.2.1.2.1, ())), ()))).bind fun y2 =>
  ((quadformref01_Mul (y1.1.1, (y1.1.2.1, ())) (y2.2.1.1, (y2.2.1.2.1, ()))).bind fun y3 =>
  ((quadformref01_Mul (y2.1.1, (y2.1.2.1, ())) (y1.2.1.1, (y1.2.1.2.1, ()))).bind fun y4 =>
  ((quadformref01_Add y3 y4).bind fun y5 =>
  ((quadformref01_Mul (y1.2.1.1, (y1.2.1.2.1, ())) (y2.2.1.1, (y2.2.1.2.1, ()))).bind fun y6 =>
  ((quadformref02_New y5 y6).bind fun y7 =>
  (some ((y7.1.1.1, (y7.1.1.2.1, ())), ((y7.1.2.1.1, (y7.1.2.1.2.1, ())), ()))))))))))
noncomputable def quadformref02_Add.en : En := ⟨220, [.pair (.pair (.bool) (.pair (.sl (.int .u32)) (.unit))) (.pair (.pair (.bool) (.pair (.sl (.int .u32)) (.unit))) (.unit)), .pair (.pair (.bool) (.pair (.sl (.int .u32)) (.unit))) (.pair (.pair (.bool) (.pair (.sl (.int .u32)) (.unit))) (.unit))], .pair (.pair (.bool) (.pair (.sl (.int .u32)) (.unit))) (.pair (.pair (.bool) (.pair (.sl (.int .u32)) (.unit))) (.unit)), false, fun x => quadformref02_Add x.1 x.2.1⟩
noncomputable def quadformref02_Add.o : List En := [quadformref02_New.en, quadformref01_Mul.en, quadformref02_Normalize.en, quadformref01_Add.en]
noncomputable def quadformref02_Add.oB : List EnB := []
def quadformref02_Add.h : HT := .n
noncomputable def quadformref02_Add.c : Code := Tryz.f220.body.getD .skip
noncomputable def quadformref02_Add.L : Lam := fun _ i s K => none
theorem quadformref02_Add.os : AllOk prog quadformref02_Add.o := ⟨quadformref02_New.ok, quadformref01_Mul.ok, quadformref02_Normalize.ok, quadformref01_Add.ok, trivial⟩
theorem quadformref02_Add.osB : AllBOk prog quadformref02_Add.oB := trivial
theorem quadformref02_Add.hk (x) : semK env (orc quadformref02_Add.o) (orcB quadformref02_Add.oB) 34 (quadformref02_Add.L _) quadformref02_Add.c quadformref02_Add.h (S.init (avs [.pair (.pair (.bool) (.pair (.sl (.int .u32)) (.unit))) (.pair (.pair (.bool) (.pair (.sl (.int .u32)) (.unit))) (.unit)), .pair (.pair (.bool) (.pair (.sl (.int .u32)) (.unit))) (.pair (.pair (.bool) (.pair (.sl (.int .u32)) (.unit))) (.unit))] x)) (fin env Tryz.f220 ⟨[.pair (.pair (.bool) (.pair (.sl (.int .u32)) (.unit))) (.pair (.pair (.bool) (.pair (.sl (.int .u32)) (.unit))) (.unit)), .pair (.pair (.bool) (.pair (.sl (.int .u32)) (.unit))) (.pair (.pair (.bool) (.pair (.sl (.int .u32)) (.unit))) (.unit))], .pair (.pair (.bool) (.pair (.sl (.int .u32)) (.unit))) (.pair (.pair (.bool) (.pair (.sl (.int .u32)) (.unit))) (.unit)), false, false⟩) = quadformref02_Add.en.g x := by kernel_rfl
theorem quadformref02_Add.ok : EnOk prog quadformref02_Add.en := by
  refine fun_ok (g := ⟨[.pair (.pair (.bool) (.pair (.sl (.int .u32)) (.unit))) (.pair (.pair (.bool) (.pair (.sl (.int .u32)) (.unit))) (.unit)), .pair (.pair (.bool) (.pair (.sl (.int .u32)) (.unit))) (.pair (.pair (.bool) (.pair (.sl (.int .u32)) (.unit))) (.unit))], .pair (.pair (.bool) (.pair (.sl (.int .u32)) (.unit))) (.pair (.pair (.bool) (.pair (.sl (.int .u32)) (.unit))) (.unit)), false, false⟩) (h := quadformref02_Add.h) (Λ := quadformref02_Add.L) tabs quadformref02_Add.os quadformref02_Add.osB Tryz.func220 (c := quadformref02_Add.c) (by kernel_rfl) (by decide +kernel) (by decide +kernel) (fun C hC => ?_) (fun x => quadformref02_Add.hk x)
  exact by
    have e : loops quadformref02_Add.c quadformref02_Add.h = [] := by kernel_rfl
    rw [e]
    exact LamOk.nil
noncomputable def quadformref02_Neg (t0 : (Bool × List Int × Unit) × (Bool × List Int × Unit) × Unit) : Option ((Bool × List Int × Unit) × (Bool × List Int × Unit) × Unit) :=
  ((quadformref02_Normalize ((t0.1.1, (t0.1.2.1, ())), ((t0.2.1.1, (t0.2.1.2.1, ())), ()))).bind fun y1 =>
  ((quadformref01_Neg (y1.1.1, (y1.1.2.1, ()))).bind fun y2 =>
  (some ((y2.1, (y2.2.1, ())), ((y1.2.1.1, (y1.2.1.2.1, ())), ())))))
noncomputable def quadformref02_Neg.en : En := ⟨233, [.pair (.pair (.bool) (.pair (.sl (.int .u32)) (.unit))) (.pair (.pair (.bool) (.pair (.sl (.int .u32)) (.unit))) (.unit))], .pair (.pair (.bool) (.pair (.sl (.int .u32)) (.unit))) (.pair (.pair (.bool) (.pair (.sl (.int .u32)) (.unit))) (.unit)), false, fun x => quadformref02_Neg x.1⟩
noncomputable def quadformref02_Neg.o : List En := [quadformref01_Neg.en, quadformref02_Normalize.en]
noncomputable def quadformref02_Neg.oB : List EnB := []
def quadformref02_Neg.h : HT := .n
noncomputable def quadformref02_Neg.c : Code := Tryz.f233.body.getD .skip
noncomputable def quadformref02_Neg.L : Lam := fun _ i s K => none
theorem quadformref02_Neg.os : AllOk prog quadformref02_Neg.o := ⟨quadformref01_Neg.ok, quadformref02_Normalize.ok, trivial⟩
theorem quadformref02_Neg.osB : AllBOk prog quadformref02_Neg.oB := trivial
theorem quadformref02_Neg.hk (x) : semK env (orc quadformref02_Neg.o) (orcB quadformref02_Neg.oB) 12 (quadformref02_Neg.L _) quadformref02_Neg.c quadformref02_Neg.h (S.init (avs [.pair (.pair (.bool) (.pair (.sl (.int .u32)) (.unit))) (.pair (.pair (.bool) (.pair (.sl (.int .u32)) (.unit))) (.unit))] x)) (fin env Tryz.f233 ⟨[.pair (.pair (.bool) (.pair (.sl (.int .u32)) (.unit))) (.pair (.pair (.bool) (.pair (.sl (.int .u32)) (.unit))) (.unit))], .pair (.pair (.bool) (.pair (.sl (.int .u32)) (.unit))) (.pair (.pair (.bool) (.pair (.sl (.int .u32)) (.unit))) (.unit)), false, false⟩) = quadformref02_Neg.en.g x := by kernel_rfl
theorem quadformref02_Neg.ok : EnOk prog quadformref02_Neg.en := by
  refine fun_ok (g := ⟨[.pair (.pair (.bool) (.pair (.sl (.int .u32)) (.unit))) (.pair (.pair (.bool) (.pair (.sl (.int .u32)) (.unit))) (.unit))], .pair (.pair (.bool) (.pair (.sl (.int .u32)) (.unit))) (.pair (.pair (.bool) (.pair (.sl (.int .u32)) (.unit))) (.unit)), false, false⟩) (h := quadformref02_Neg.h) (Λ := quadformref02_Neg.L) tabs quadformref02_Neg.os quadformref02_Neg.osB Tryz.func233 (c := quadformref02_Neg.c) (by kernel_rfl) (by decide +kernel) (by decide +kernel) (fun C hC => ?_) (fun x => quadformref02_Neg.hk x)
  exact by
    have e : loops quadformref02_Neg.c quadformref02_Neg.h = [] := by kernel_rfl
    rw [e]
    exact LamOk.nil
noncomputable def quadformref02_Sub (t0 : (Bool × List Int × Unit) × (Bool × List Int × Unit) × Unit) (t1 : (Bool × List Int × Unit) × (Bool × List Int × Unit) × Unit) : Option ((Bool × List Int × Unit) × (Bool × List Int × Unit) × Unit) :=
  ((quadformref02_Neg ((t1.1.1, (t1.1.2.1, ())), ((t1.2.1.1, (t1.2.1.2.1, ())), ()))).bind fun y1 =>
  ((quadformref02_Add ((t0.1.1, (t0.1.2.1, ())), ((t0.2.1.1, (t0.2.1.2.1, ())), ())) y1).bind fun y2 =>
  (some ((y2.1.1, (y2.1.2.1, ())), ((y2.2.1.1, (y2.2.1.2.1, ())), ())))))
noncomputable def quadformref02_Sub.en : En := ⟨200, [.pair (.pair (.bool) (.pair (.sl (.int .u32)) (.unit))) (.pair (.pair (.bool) (.pair (.sl (.int .u32)) (.unit))) (.unit)), .pair (.pair (.bool) (.pair (.sl (.int .u32)) (.unit))) (.pair (.pair (.bool) (.pair (.sl (.int .u32)) (.unit))) (.unit))], .pair (.pair (.bool) (.pair (.sl (.int .u32)) (.unit))) (.pair (.pair (.bool) (.pair (.sl (.int .u32)) (.unit))) (.unit)), false, fun x => quadformref02_Sub x.1 x.2.1⟩
noncomputable def quadformref02_Sub.o : List En := [quadformref02_Add.en, quadformref02_Neg.en]
noncomputable def quadformref02_Sub.oB : List EnB := []
def quadformref02_Sub.h : HT := .n
noncomputable def quadformref02_Sub.c : Code := Tryz.f200.body.getD .skip
noncomputable def quadformref02_Sub.L : Lam := fun _ i s K => none
theorem quadformref02_Sub.os : AllOk prog quadformref02_Sub.o := ⟨quadformref02_Add.ok, quadformref02_Neg.ok, trivial⟩
theorem quadformref02_Sub.osB : AllBOk prog quadformref02_Sub.oB := trivial
theorem quadformref02_Sub.hk (x) : semK env (orc quadformref02_Sub.o) (orcB quadformref02_Sub.oB) 9 (quadformref02_Sub.L _) quadformref02_Sub.c quadformref02_Sub.h (S.init (avs [.pair (.pair (.bool) (.pair (.sl (.int .u32)) (.unit))) (.pair (.pair (.bool) (.pair (.sl (.int .u32)) (.unit))) (.unit)), .pair (.pair (.bool) (.pair (.sl (.int .u32)) (.unit))) (.pair (.pair (.bool) (.pair (.sl (.int .u32)) (.unit))) (.unit))] x)) (fin env Tryz.f200 ⟨[.pair (.pair (.bool) (.pair (.sl (.int .u32)) (.unit))) (.pair (.pair (.bool) (.pair (.sl (.int .u32)) (.unit))) (.unit)), .pair (.pair (.bool) (.pair (.sl (.int .u32)) (.unit))) (.pair (.pair (.bool) (.pair (.sl (.int .u32)) (.unit))) (.unit))], .pair (.pair (.bool) (.pair (.sl (.int .u32)) (.unit))) (.pair (.pair (.bool) (.pair (.sl (.int .u32)) (.unit))) (.unit)), false, false⟩) = quadformref02_Sub.en.g x := by kernel_rfl
theorem quadformref02_Sub.ok : EnOk prog quadformref02_Sub.en := by
  refine fun_ok (g := ⟨[.pair (.pair (.bool) (.pair (.sl (.int .u32)) (.unit))) (.pair (.pair (.bool) (.pair (.sl (.int .u32)) (.unit))) (.unit)), .pair (.pair (.bool) (.pair (.sl (.int .u32)) (.unit))) (.pair (.pair (.bool) (.pair (.sl (.int .u32)) (.unit))) (.unit))], .pair (.pair (.bool) (.pair (.sl (.int .u32)) (.unit))) (.pair (.pair (.bool) (.pair (.sl (.int .u32)) (.unit))) (.unit)), false, false⟩) (h := quadformref02_Sub.h) (Λ := quadformref02_Sub.L) tabs quadformref02_Sub.os quadformref02_Sub.osB Tryz.func200 (c := quadformref02_Sub.c) (by kernel_rfl) (by decide +kernel) (by decide +kernel) (fun C hC => ?_) (fun x => quadformref02_Sub.hk x)
  exact by
    have e : loops quadformref02_Sub.c quadformref02_Sub.h = [] := by kernel_rfl
    rw [e]
    exact LamOk.nil
noncomputable def quadformref32_group.j1 (t0 : Int) (t1 : Int) (t6 : Int) (b4_0 : Bool) (b4_1 : List Int) (b4_2 : Bool) (b4_3 : List Int) (b5_0 : Bool) (b5_1 : List Int) (b5_2 : Bool) (b5_3 : List Int) : Option ((Int × Int × Int × ((Bool × List Int × Unit) × (Bool × List Int × Unit) × Unit) × ((Bool × List Int × Unit) × (Bool × List Int × Unit) × Unit) × Unit) ⊕ ((((Bool × List Int × Unit) × (Bool × List Int × Unit) × Unit) × ((Bool × List Int × Unit) × (Bool × List Int × Unit) × Unit) × Unit))) :=
  ((quadformref02_Small (1 : Int)).bind fun y2 =>
  ((quadformref32_power t0 (IntKind.wrap .i64 ((-2 : Int) * t6))).bind fun y3 =>
  ((quadformref02_Sub y2 y3).bind fun y4 =>
  ((quadformref31_Div ((b5_0, (b5_1, ())), ((b5_2, (b5_3, ())), ())) y4).bind fun y5 =>
  (some (.inl (t0, t1, (IntKind.wrap .i64 (t6 + (1 : Int))), ((b4_0, (b4_1, ())), ((b4_2, (b4_3, ())), ())), ((y5.1.1, (y5.1.2.1, ())), ((y5.2.1.1, (y5.2.1.2.1, ())), ())), ())))))))
noncomputable def quadformref32_group.s0 (t0 : Int) (t1 : Int) (t6 : Int) (b4 : (Bool × List Int × Unit) × (Bool × List Int × Unit) × Unit) (b5 : (Bool × List Int × Unit) × (Bool × List Int × Unit) × Unit) : Option ((Int × Int × Int × ((Bool × List Int × Unit) × (Bool × List Int × Unit) × Unit) × ((Bool × List Int × Unit) × (Bool × List Int × Unit) × Unit) × Unit) ⊕ ((((Bool × List Int × Unit) × (Bool × List Int × Unit) × Unit) × ((Bool × List Int × Unit) × (Bool × List Int × Unit) × Unit) × Unit))) :=
  (cond ((decide (t6 < t1)))
  ((quadformref32_group.j1 t0 t1 t6 b4.1.1 b4.1.2.1 b4.2.1.1 b4.2.1.2.1 b5.1.1 b5.1.2.1 b5.2.1.1 b5.2.1.2.1))
  ((some (.inr (((b4.1.1, (b4.1.2.1, ())), ((b4.2.1.1, (b4.2.1.2.1, ())), ())), ((b5.1.1, (b5.1.2.1, ())), ((b5.2.1.1, (b5.2.1.2.1, ())), ())), ())))))
noncomputable def quadformref32_group.k0 (b4 : (Bool × List Int × Unit) × (Bool × List Int × Unit) × Unit) (b5 : (Bool × List Int × Unit) × (Bool × List Int × Unit) × Unit) : Option ((Bool × List Int × Unit) × (Bool × List Int × Unit) × Unit) :=
  (some ((b5.1.1, (b5.1.2.1, ())), ((b5.2.1.1, (b5.2.1.2.1, ())), ())))
noncomputable def quadformref32_group (t0 : Int) (t1 : Int) : Option ((Bool × List Int × Unit) × (Bool × List Int × Unit) × Unit) :=
  ((quadformref31_Ratio (1 : Int) (2 : Int)).bind fun y1 =>
  ((iterL (fun x : Int × Int × Int × ((Bool × List Int × Unit) × (Bool × List Int × Unit) × Unit) × ((Bool × List Int × Unit) × (Bool × List Int × Unit) × Unit) × Unit => quadformref32_group.s0 x.1 x.2.1 x.2.2.1 x.2.2.2.1 x.2.2.2.2.1) (t0, t1, (1 : Int), ((false, (([] : List Int), ())), ((false, (([] : List Int), ())), ())), ((y1.1.1, (y1.1.2.1, ())), ((y1.2.1.1, (y1.2.1.2.1, ())), ())), ())).bind fun y => quadformref32_group.k0 y.1 y.2.1))
noncomputable def quadformref32_group.en : En := ⟨141, [.int .i64, .int .i64], .pair (.pair (.bool) (.pair (.sl (.int .u32)) (.unit))) (.pair (.pair (.bool) (.pair (.sl (.int .u32)) (.unit))) (.unit)), false, fun x => quadformref32_group x.1 x.2.1⟩
noncomputable def quadformref32_group.o : List En := [quadformref31_Ratio.en, quadformref32_power.en, quadformref02_Small.en, quadformref31_Div.en, quadformref02_Sub.en]
noncomputable def quadformref32_group.oB : List EnB := []
def quadformref32_group.h : HT := .two (.n) (.two (.n) (.two (.two (.n) (.lp 0)) (.n)))
noncomputable def quadformref32_group.c : Code := Tryz.f141.body.getD .skip
def quadformref32_group.h0 : HT := .n
noncomputable def quadformref32_group.c0 : Code := (find (loops quadformref32_group.c quadformref32_group.h) 0).getD .skip
def quadformref32_group.d0 : Fm := [.v 0 (.int .i64), .v 1 (.int .i64), .v 6 (.int .i64), .box 4 (.pair (.pair (.bool) (.pair (.sl (.int .u32)) (.unit))) (.pair (.pair (.bool) (.pair (.sl (.int .u32)) (.unit))) (.unit))), .box 5 (.pair (.pair (.bool) (.pair (.sl (.int .u32)) (.unit))) (.pair (.pair (.bool) (.pair (.sl (.int .u32)) (.unit))) (.unit))), .ptr 4 4, .ptr 5 5]
def quadformref32_group.x0 : Xs := [(.exit 0, [.box 4 (.pair (.pair (.bool) (.pair (.sl (.int .u32)) (.unit))) (.pair (.pair (.bool) (.pair (.sl (.int .u32)) (.unit))) (.unit))), .box 5 (.pair (.pair (.bool) (.pair (.sl (.int .u32)) (.unit))) (.pair (.pair (.bool) (.pair (.sl (.int .u32)) (.unit))) (.unit))), .ptr 4 4, .ptr 5 5])]
noncomputable def quadformref32_group.r0 (x : (Fm.ty quadformref32_group.d0).den) : Option ((Fm.ty quadformref32_group.d0).den ⊕ (Xs.T quadformref32_group.x0)) := quadformref32_group.s0 x.1 x.2.1 x.2.2.1 x.2.2.2.1 x.2.2.2.2.1
noncomputable def quadformref32_group.L : Lam := fun _ i s K => cond (Nat.beq i 0) (lamK quadformref32_group.d0 quadformref32_group.x0 quadformref32_group.r0 s K) (none)
theorem quadformref32_group.hf0 (x) : roundK env (orc quadformref32_group.o) (orcB quadformref32_group.oB) 22 quadformref32_group.L quadformref32_group.c0 quadformref32_group.h0 quadformref32_group.d0 quadformref32_group.x0 x = quadformref32_group.r0 x := by kernel_rfl
theorem quadformref32_group.os : AllOk prog quadformref32_group.o := ⟨quadformref31_Ratio.ok, quadformref32_power.ok, quadformref02_Small.ok, quadformref31_Div.ok, quadformref02_Sub.ok, trivial⟩
theorem quadformref32_group.osB : AllBOk prog quadformref32_group.oB := trivial
theorem quadformref32_group.l0 {C : Ctx} (hC : C.n = 22) : LamAt prog C quadformref32_group.L 0 quadformref32_group.c0 := by
  intro R s K r hk
  refine loop_ok (D := quadformref32_group.d0) (X := quadformref32_group.x0) (h := quadformref32_group.h0) (f := quadformref32_group.r0) tabs (orc_ok _ quadformref32_group.os) (orcB_ok _ quadformref32_group.osB) (fun x => by rw [hC]; exact quadformref32_group.hf0 x) (Λ := quadformref32_group.L) ?_ (by kernel_rfl) (by kernel_rfl) (K := K) (s := s) (by exact hk)
  exact by
    have e : loops quadformref32_group.c0 quadformref32_group.h0 = [] := by kernel_rfl
    rw [e]
    exact LamOk.nil
theorem quadformref32_group.hk (x) : semK env (orc quadformref32_group.o) (orcB quadformref32_group.oB) 22 (quadformref32_group.L _) quadformref32_group.c quadformref32_group.h (S.init (avs [.int .i64, .int .i64] x)) (fin env Tryz.f141 ⟨[.int .i64, .int .i64], .pair (.pair (.bool) (.pair (.sl (.int .u32)) (.unit))) (.pair (.pair (.bool) (.pair (.sl (.int .u32)) (.unit))) (.unit)), false, false⟩) = quadformref32_group.en.g x := by kernel_rfl
theorem quadformref32_group.ok : EnOk prog quadformref32_group.en := by
  refine fun_ok (g := ⟨[.int .i64, .int .i64], .pair (.pair (.bool) (.pair (.sl (.int .u32)) (.unit))) (.pair (.pair (.bool) (.pair (.sl (.int .u32)) (.unit))) (.unit)), false, false⟩) (h := quadformref32_group.h) (Λ := quadformref32_group.L) tabs quadformref32_group.os quadformref32_group.osB Tryz.func141 (c := quadformref32_group.c) (by kernel_rfl) (by decide +kernel) (by decide +kernel) (fun C hC => ?_) (fun x => quadformref32_group.hk x)
  exact by
    have e : loops quadformref32_group.c quadformref32_group.h = [(0, quadformref32_group.c0)] := by kernel_rfl
    rw [e]
    exact LamOk.cons (quadformref32_group.l0 hC) (LamOk.nil)
noncomputable def quadformref02_Mul (t0 : (Bool × List Int × Unit) × (Bool × List Int × Unit) × Unit) (t1 : (Bool × List Int × Unit) × (Bool × List Int × Unit) × Unit) : Option ((Bool × List Int × Unit) × (Bool × List Int × Unit) × Unit) :=
  ((quadformref02_Normalize ((t0.1.1, (t0.1.2.1, ())), ((t0.2.1.1, (t0.2.1.2.1, ())), ()))).bind fun y1 =>
  ((quadformref02_Normalize ((t1.1.1, (t1.1.2.1, ())), ((t1.2.1.1, (t1.2.1.2.1, ())), ()))).bind fun y2 =>
  ((quadformref01_Mul (y1.1.1, (y1.1.2.1, ())) (y2.1.1, (y2.1.2.1, ()))).bind fun y3 =>
  ((quadformref01_Mul (y1.2.1.1, (y1.2.1.2.1, ())) (y2.2.1.1, (y2.2.1.2.1, ()))).bind fun y4 =>
  ((quadformref02_New y3 y4).bind fun y5 =>
  (some ((y5.1.1.1, (y5.1.1.2.1, ())), ((y5.1.2.1.1, (y5.1.2.1.2.1, ())), ()))))))))
noncomputable def quadformref02_Mul.en : En := ⟨75, [.pair (.pair (.bool) (.pair (.sl (.int .u32)) (.unit))) (.pair (.pair (.bool) (.pair (.sl (.int .u32)) (.unit))) (.unit)), .pair (.pair (.bool) (.pair (.sl (.int .u32)) (.unit))) (.pair (.pair (.bool) (.pair (.sl (.int .u32)) (.unit))) (.unit))], .pair (.pair (.bool) (.pair (.sl (.int .u32)) (.unit))) (.pair (.pair (.bool) (.pair (.sl (.int .u32)) (.unit))) (.unit)), false, fun x => quadformref02_Mul x.1 x.2.1⟩
noncomputable def quadformref02_Mul.o : List En := [quadformref02_New.en, quadformref01_Mul.en, quadformref02_Normalize.en]
noncomputable def quadformref02_Mul.oB : List EnB := []
def quadformref02_Mul.h : HT := .n
noncomputable def quadformref02_Mul.c : Code := Tryz.f75.body.getD .skip
noncomputable def quadformref02_Mul.L : Lam := fun _ i s K => none
theorem quadformref02_Mul.os : AllOk prog quadformref02_Mul.o := ⟨quadformref02_New.ok, quadformref01_Mul.ok, quadformref02_Normalize.ok, trivial⟩
theorem quadformref02_Mul.osB : AllBOk prog quadformref02_Mul.oB := trivial
theorem quadformref02_Mul.hk (x) : semK env (orc quadformref02_Mul.o) (orcB quadformref02_Mul.oB) 28 (quadformref02_Mul.L _) quadformref02_Mul.c quadformref02_Mul.h (S.init (avs [.pair (.pair (.bool) (.pair (.sl (.int .u32)) (.unit))) (.pair (.pair (.bool) (.pair (.sl (.int .u32)) (.unit))) (.unit)), .pair (.pair (.bool) (.pair (.sl (.int .u32)) (.unit))) (.pair (.pair (.bool) (.pair (.sl (.int .u32)) (.unit))) (.unit))] x)) (fin env Tryz.f75 ⟨[.pair (.pair (.bool) (.pair (.sl (.int .u32)) (.unit))) (.pair (.pair (.bool) (.pair (.sl (.int .u32)) (.unit))) (.unit)), .pair (.pair (.bool) (.pair (.sl (.int .u32)) (.unit))) (.pair (.pair (.bool) (.pair (.sl (.int .u32)) (.unit))) (.unit))], .pair (.pair (.bool) (.pair (.sl (.int .u32)) (.unit))) (.pair (.pair (.bool) (.pair (.sl (.int .u32)) (.unit))) (.unit)), false, false⟩) = quadformref02_Mul.en.g x := by kernel_rfl
theorem quadformref02_Mul.ok : EnOk prog quadformref02_Mul.en := by
  refine fun_ok (g := ⟨[.pair (.pair (.bool) (.pair (.sl (.int .u32)) (.unit))) (.pair (.pair (.bool) (.pair (.sl (.int .u32)) (.unit))) (.unit)), .pair (.pair (.bool) (.pair (.sl (.int .u32)) (.unit))) (.pair (.pair (.bool) (.pair (.sl (.int .u32)) (.unit))) (.unit))], .pair (.pair (.bool) (.pair (.sl (.int .u32)) (.unit))) (.pair (.pair (.bool) (.pair (.sl (.int .u32)) (.unit))) (.unit)), false, false⟩) (h := quadformref02_Mul.h) (Λ := quadformref02_Mul.L) tabs quadformref02_Mul.os quadformref02_Mul.osB Tryz.func75 (c := quadformref02_Mul.c) (by kernel_rfl) (by decide +kernel) (by decide +kernel) (fun C hC => ?_) (fun x => quadformref02_Mul.hk x)
  exact by
    have e : loops quadformref02_Mul.c quadformref02_Mul.h = [] := by kernel_rfl
    rw [e]
    exact LamOk.nil
noncomputable def quadformref32_signed (t0 : (Bool × List Int × Unit) × (Bool × List Int × Unit) × Unit) (t1 : Int) (t2 : Int) (t3 : Int) : Option ((Bool × List Int × Unit) × (Bool × List Int × Unit) × Unit) :=
  ((quadformref02_Small (1 : Int)).bind fun y1 =>
  ((quadformref02_Small t2).bind fun y2 =>
  ((quadformref32_power t1 (IntKind.wrap .i64 (0 - t3))).bind fun y3 =>
  ((quadformref02_Mul y2 y3).bind fun y4 =>
  ((quadformref02_Sub y1 y4).bind fun y5 =>
  ((quadformref31_Div ((t0.1.1, (t0.1.2.1, ())), ((t0.2.1.1, (t0.2.1.2.1, ())), ())) y5).bind fun y6 =>
  (some ((y6.1.1, (y6.1.2.1, ())), ((y6.2.1.1, (y6.2.1.2.1, ())), ())))))))))
noncomputable def quadformref32_signed.en : En := ⟨142, [.pair (.pair (.bool) (.pair (.sl (.int .u32)) (.unit))) (.pair (.pair (.bool) (.pair (.sl (.int .u32)) (.unit))) (.unit)), .int .i64, .int .i64, .int .i64], .pair (.pair (.bool) (.pair (.sl (.int .u32)) (.unit))) (.pair (.pair (.bool) (.pair (.sl (.int .u32)) (.unit))) (.unit)), false, fun x => quadformref32_signed x.1 x.2.1 x.2.2.1 x.2.2.2.1⟩
noncomputable def quadformref32_signed.o : List En := [quadformref32_power.en, quadformref02_Mul.en, quadformref02_Small.en, quadformref31_Div.en, quadformref02_Sub.en]
noncomputable def quadformref32_signed.oB : List EnB := []
def quadformref32_signed.h : HT := .n
noncomputable def quadformref32_signed.c : Code := Tryz.f142.body.getD .skip
noncomputable def quadformref32_signed.L : Lam := fun _ i s K => none
theorem quadformref32_signed.os : AllOk prog quadformref32_signed.o := ⟨quadformref32_power.ok, quadformref02_Mul.ok, quadformref02_Small.ok, quadformref31_Div.ok, quadformref02_Sub.ok, trivial⟩
theorem quadformref32_signed.osB : AllBOk prog quadformref32_signed.oB := trivial
theorem quadformref32_signed.hk (x) : semK env (orc quadformref32_signed.o) (orcB quadformref32_signed.oB) 20 (quadformref32_signed.L _) quadformref32_signed.c quadformref32_signed.h (S.init (avs [.pair (.pair (.bool) (.pair (.sl (.int .u32)) (.unit))) (.pair (.pair (.bool) (.pair (.sl (.int .u32)) (.unit))) (.unit)), .int .i64, .int .i64, .int .i64] x)) (fin env Tryz.f142 ⟨[.pair (.pair (.bool) (.pair (.sl (.int .u32)) (.unit))) (.pair (.pair (.bool) (.pair (.sl (.int .u32)) (.unit))) (.unit)), .int .i64, .int .i64, .int .i64], .pair (.pair (.bool) (.pair (.sl (.int .u32)) (.unit))) (.pair (.pair (.bool) (.pair (.sl (.int .u32)) (.unit))) (.unit)), false, false⟩) = quadformref32_signed.en.g x := by kernel_rfl
theorem quadformref32_signed.ok : EnOk prog quadformref32_signed.en := by
  refine fun_ok (g := ⟨[.pair (.pair (.bool) (.pair (.sl (.int .u32)) (.unit))) (.pair (.pair (.bool) (.pair (.sl (.int .u32)) (.unit))) (.unit)), .int .i64, .int .i64, .int .i64], .pair (.pair (.bool) (.pair (.sl (.int .u32)) (.unit))) (.pair (.pair (.bool) (.pair (.sl (.int .u32)) (.unit))) (.unit)), false, false⟩) (h := quadformref32_signed.h) (Λ := quadformref32_signed.L) tabs quadformref32_signed.os quadformref32_signed.osB Tryz.func142 (c := quadformref32_signed.c) (by kernel_rfl) (by decide +kernel) (by decide +kernel) (fun C hC => ?_) (fun x => quadformref32_signed.hk x)
  exact by
    have e : loops quadformref32_signed.c quadformref32_signed.h = [] := by kernel_rfl
    rw [e]
    exact LamOk.nil
noncomputable def quadformref32_factor.j2 (t0 : Int) (b3_0 : Int) (b3_1 : Int) (b4_1 : List Int) (b4_3 : List Int) : Option ((Bool × List Int × Unit) × (Bool × List Int × Unit) × Unit) :=
  ((quadformref32_group t0 (IntKind.wrap .i64 (Int.tdiv b3_0 (2 : Int)))).bind fun y5 =>
  ((quadformref32_signed y5 t0 b3_1 (IntKind.wrap .i64 (Int.tdiv b3_0 (2 : Int)))).bind fun y7 =>
  (some ((y7.1.1, (y7.1.2.1, ())), ((y7.2.1.1, (y7.2.1.2.1, ())), ())))))
noncomputable def quadformref32_factor.j1 (t0 : Int) (b3_0 : Int) (b3_1 : Int) (b4_1 : List Int) (b4_3 : List Int) : Option ((Bool × List Int × Unit) × (Bool × List Int × Unit) × Unit) :=
  (quadformref32_factor.j2 t0 b3_0 b3_1 b4_1 b4_3)
noncomputable def quadformref32_factor (t0 : Int) (t1 : Int × Int × Unit) : Option ((Bool × List Int × Unit) × (Bool × List Int × Unit) × Unit) :=
  (cond ((t1.1 == (0 : Int)))
  (((quadformref02_Small (1 : Int)).bind fun y1 =>
  (some ((y1.1.1, (y1.1.2.1, ())), ((y1.2.1.1, (y1.2.1.2.1, ())), ())))))
  ((cond (((Int.tmod t1.1 (2 : Int)) == (1 : Int)))
  (((quadformref32_group t0 (IntKind.wrap .i64 (Int.tdiv (IntKind.wrap .i64 (t1.1 + (1 : Int))) (2 : Int)))).bind fun y3 =>
  (some ((y3.1.1, (y3.1.2.1, ())), ((y3.2.1.1, (y3.2.1.2.1, ())), ())))))
  ((quadformref32_factor.j1 t0 t1.1 t1.2.1 ([] : List Int) ([] : List Int))))))
noncomputable def quadformref32_factor.en : En := ⟨67, [.int .i64, .pair (.int .i64) (.pair (.int .i64) (.unit))], .pair (.pair (.bool) (.pair (.sl (.int .u32)) (.unit))) (.pair (.pair (.bool) (.pair (.sl (.int .u32)) (.unit))) (.unit)), false, fun x => quadformref32_factor x.1 x.2.1⟩
noncomputable def quadformref32_factor.o : List En := [quadformref02_Small.en, quadformref32_group.en, quadformref32_signed.en]
noncomputable def quadformref32_factor.oB : List EnB := []
def quadformref32_factor.h : HT := .n
noncomputable def quadformref32_factor.c : Code := Tryz.f67.body.getD .skip
noncomputable def quadformref32_factor.L : Lam := fun _ i s K => none
theorem quadformref32_factor.os : AllOk prog quadformref32_factor.o := ⟨quadformref02_Small.ok, quadformref32_group.ok, quadformref32_signed.ok, trivial⟩
theorem quadformref32_factor.osB : AllBOk prog quadformref32_factor.oB := trivial
theorem quadformref32_factor.hk (x) : semK env (orc quadformref32_factor.o) (orcB quadformref32_factor.oB) 33 (quadformref32_factor.L _) quadformref32_factor.c quadformref32_factor.h (S.init (avs [.int .i64, .pair (.int .i64) (.pair (.int .i64) (.unit))] x)) (fin env Tryz.f67 ⟨[.int .i64, .pair (.int .i64) (.pair (.int .i64) (.unit))], .pair (.pair (.bool) (.pair (.sl (.int .u32)) (.unit))) (.pair (.pair (.bool) (.pair (.sl (.int .u32)) (.unit))) (.unit)), false, false⟩) = quadformref32_factor.en.g x := by kernel_rfl
theorem quadformref32_factor.ok : EnOk prog quadformref32_factor.en := by
  refine fun_ok (g := ⟨[.int .i64, .pair (.int .i64) (.pair (.int .i64) (.unit))], .pair (.pair (.bool) (.pair (.sl (.int .u32)) (.unit))) (.pair (.pair (.bool) (.pair (.sl (.int .u32)) (.unit))) (.unit)), false, false⟩) (h := quadformref32_factor.h) (Λ := quadformref32_factor.L) tabs quadformref32_factor.os quadformref32_factor.osB Tryz.func67 (c := quadformref32_factor.c) (by kernel_rfl) (by decide +kernel) (by decide +kernel) (fun C hC => ?_) (fun x => quadformref32_factor.hk x)
  exact by
    have e : loops quadformref32_factor.c quadformref32_factor.h = [] := by kernel_rfl
    rw [e]
    exact LamOk.nil
noncomputable def quadformref32_Diagonal.j2 (t0 : Int) (b3_0 : Int) (b3_1 : Int) (b4_1 : List Int) (b4_3 : List Int) : Option (((Bool × List Int × Unit) × (Bool × List Int × Unit) × Unit) × Int × Unit) :=
  ((quadformref32_factor t0 (b3_0, (b3_1, ()))).bind fun y2 =>
  (some (((y2.1.1, (y2.1.2.1, ())), ((y2.2.1.1, (y2.2.1.2.1, ())), ())), ((0 : Int), ()))))
noncomputable def quadformref32_Diagonal.j1 (t0 : Int) (b3_0 : Int) (b3_1 : Int) (b4_1 : List Int) (b4_3 : List Int) : Option (((Bool × List Int × Unit) × (Bool × List Int × Unit) × Unit) × Int × Unit) :=
  (cond ((decide (b3_0 < (0 : Int))))
  ((some (((false, (([] : List Int), ())), ((false, (([] : List Int), ())), ())), ((1 : Int), ()))))
  ((cond ((decide (b3_0 > (9 : Int))))
  ((some (((false, (([] : List Int), ())), ((false, (([] : List Int), ())), ())), ((1 : Int), ()))))
  ((cond (((Int.tmod b3_0 (2 : Int)) == (1 : Int)))
  ((cond ((b3_1 != (0 : Int)))
  ((some (((false, (([] : List Int), ())), ((false, (([] : List Int), ())), ())), ((1 : Int), ()))))
  ((cond (((Int.tmod b3_0 (2 : Int)) == (0 : Int)))
  ((cond ((b3_1 != (1 : Int)))
  ((cond ((b3_1 != (-1 : Int)))
  ((some (((false, (([] : List Int), ())), ((false, (([] : List Int), ())), ())), ((1 : Int), ()))))
  ((cond ((b3_0 == (0 : Int)))
  ((cond ((b3_1 == (-1 : Int)))
  ((some (((false, (([] : List Int), ())), ((false, (([] : List Int), ())), ())), ((1 : Int), ()))))
  ((quadformref32_Diagonal.j2 t0 b3_0 b3_1 b4_1 b4_3))))
  (((quadformref32_factor t0 (b3_0, (b3_1, ()))).bind fun y3 =>
  (some (((y3.1.1, (y3.1.2.1, ())), ((y3.2.1.1, (y3.2.1.2.1, ())), ())), ((0 : Int), ())))))))))
  ((cond ((b3_0 == (0 : Int)))
  ((cond ((b3_1 == (-1 : Int)))
  ((some (((false, (([] : List Int), ())), ((false, (([] : List Int), ())), ())), ((1 : Int), ()))))
  ((quadformref32_Diagonal.j2 t0 b3_0 b3_1 b4_1 b4_3))))
  (((quadformref32_factor t0 (b3_0, (b3_1, ()))).bind fun y4 =>
  (some (((y4.1.1, (y4.1.2.1, ())), ((y4.2.1.1, (y4.2.1.2.1, ())), ())), ((0 : Int), ())))))))))
  ((cond ((b3_0 == (0 : Int)))
  ((cond ((b3_1 == (-1 : Int)))
  ((some (((false, (([] : List Int), ())), ((false, (([] : List Int), ())), ())), ((1 : Int), ()))))
  ((quadformref32_Diagonal.j2 t0 b3_0 b3_1 b4_1 b4_3))))
  (((quadformref32_factor t0 (b3_0, (b3_1, ()))).bind fun y5 =>
  (some (((y5.1.1, (y5.1.2.1, ())), ((y5.2.1.1, (y5.2.1.2.1, ())), ())), ((0 : Int), ())))))))))))
  ((cond (((Int.tmod b3_0 (2 : Int)) == (0 : Int)))
  ((cond ((b3_1 != (1 : Int)))
  ((cond ((b3_1 != (-1 : Int)))
  ((some (((false, (([] : List Int), ())), ((false, (([] : List Int), ())), ())), ((1 : Int), ()))))
  ((cond ((b3_0 == (0 : Int)))
  ((cond ((b3_1 == (-1 : Int)))
  ((some (((false, (([] : List Int), ())), ((false, (([] : List Int), ())), ())), ((1 : Int), ()))))
  ((quadformref32_Diagonal.j2 t0 b3_0 b3_1 b4_1 b4_3))))
  (((quadformref32_factor t0 (b3_0, (b3_1, ()))).bind fun y6 =>
  (some (((y6.1.1, (y6.1.2.1, ())), ((y6.2.1.1, (y6.2.1.2.1, ())), ())), ((0 : Int), ())))))))))
  ((cond ((b3_0 == (0 : Int)))
  ((cond ((b3_1 == (-1 : Int)))
  ((some (((false, (([] : List Int), ())), ((false, (([] : List Int), ())), ())), ((1 : Int), ()))))
  ((quadformref32_Diagonal.j2 t0 b3_0 b3_1 b4_1 b4_3))))
  (((quadformref32_factor t0 (b3_0, (b3_1, ()))).bind fun y7 =>
  (some (((y7.1.1, (y7.1.2.1, ())), ((y7.2.1.1, (y7.2.1.2.1, ())), ())), ((0 : Int), ())))))))))
  ((cond ((b3_0 == (0 : Int)))
  ((cond ((b3_1 == (-1 : Int)))
  ((some (((false, (([] : List Int), ())), ((false, (([] : List Int), ())), ())), ((1 : Int), ()))))
  ((quadformref32_Diagonal.j2 t0 b3_0 b3_1 b4_1 b4_3))))
  (((quadformref32_factor t0 (b3_0, (b3_1, ()))).bind fun y8 =>
  (some (((y8.1.1, (y8.1.2.1, ())), ((y8.2.1.1, (y8.2.1.2.1, ())), ())), ((0 : Int), ()))))))))))))))
noncomputable def quadformref32_Diagonal (t0 : Int) (t1 : Int × Int × Unit) : Option (((Bool × List Int × Unit) × (Bool × List Int × Unit) × Unit) × Int × Unit) :=
  ((quadformref24_Small t0).bind fun y1 =>
  (cond ((!y1))
  ((some (((false, (([] : List Int), ())), ((false, (([] : List Int), ())), ())), ((20 : Int), ()))))
  ((quadformref32_Diagonal.j1 t0 t1.1 t1.2.1 ([] : List Int) ([] : List Int)))))
noncomputable def quadformref32_Diagonal.en : En := ⟨26, [.int .i64, .pair (.int .i64) (.pair (.int .i64) (.unit))], .pair (.pair (.pair (.bool) (.pair (.sl (.int .u32)) (.unit))) (.pair (.pair (.bool) (.pair (.sl (.int .u32)) (.unit))) (.unit))) (.pair (.int .i64) (.unit)), true, fun x => quadformref32_Diagonal x.1 x.2.1⟩
noncomputable def quadformref32_Diagonal.o : List En := [quadformref24_Small.en, quadformref32_factor.en]
noncomputable def quadformref32_Diagonal.oB : List EnB := []
def quadformref32_Diagonal.h : HT := .n
noncomputable def quadformref32_Diagonal.c : Code := Tryz.f26.body.getD .skip
noncomputable def quadformref32_Diagonal.L : Lam := fun _ i s K => none
theorem quadformref32_Diagonal.os : AllOk prog quadformref32_Diagonal.o := ⟨quadformref24_Small.ok, quadformref32_factor.ok, trivial⟩
theorem quadformref32_Diagonal.osB : AllBOk prog quadformref32_Diagonal.oB := trivial
theorem quadformref32_Diagonal.hk (x) : semK env (orc quadformref32_Diagonal.o) (orcB quadformref32_Diagonal.oB) 59 (quadformref32_Diagonal.L _) quadformref32_Diagonal.c quadformref32_Diagonal.h (S.init (avs [.int .i64, .pair (.int .i64) (.pair (.int .i64) (.unit))] x)) (fin env Tryz.f26 ⟨[.int .i64, .pair (.int .i64) (.pair (.int .i64) (.unit))], .pair (.pair (.pair (.bool) (.pair (.sl (.int .u32)) (.unit))) (.pair (.pair (.bool) (.pair (.sl (.int .u32)) (.unit))) (.unit))) (.pair (.int .i64) (.unit)), true, false⟩) = quadformref32_Diagonal.en.g x := by kernel_rfl
theorem quadformref32_Diagonal.ok : EnOk prog quadformref32_Diagonal.en := by
  refine fun_ok (g := ⟨[.int .i64, .pair (.int .i64) (.pair (.int .i64) (.unit))], .pair (.pair (.pair (.bool) (.pair (.sl (.int .u32)) (.unit))) (.pair (.pair (.bool) (.pair (.sl (.int .u32)) (.unit))) (.unit))) (.pair (.int .i64) (.unit)), true, false⟩) (h := quadformref32_Diagonal.h) (Λ := quadformref32_Diagonal.L) tabs quadformref32_Diagonal.os quadformref32_Diagonal.osB Tryz.func26 (c := quadformref32_Diagonal.c) (by kernel_rfl) (by decide +kernel) (by decide +kernel) (fun C hC => ?_) (fun x => quadformref32_Diagonal.hk x)
  exact by
    have e : loops quadformref32_Diagonal.c quadformref32_Diagonal.h = [] := by kernel_rfl
    rw [e]
    exact LamOk.nil
noncomputable def quadformref01_Same (t0 : Bool × List Int × Unit) (t1 : Bool × List Int × Unit) : Option (Bool) :=
  (cond ((t0.1 == t1.1))
  ((cond ((((List.length t0.2.1 : Nat) : Int) == ((List.length t1.2.1 : Nat) : Int)))
  (((quadformref01_cmp t0.2.1 t1.2.1).bind fun y2 =>
  (some (y2 == (0 : Int)))))
  ((some false))))
  ((some false)))
noncomputable def quadformref01_Same.en : En := ⟨68, [.pair (.bool) (.pair (.sl (.int .u32)) (.unit)), .pair (.bool) (.pair (.sl (.int .u32)) (.unit))], .bool, false, fun x => quadformref01_Same x.1 x.2.1⟩
noncomputable def quadformref01_Same.o : List En := [quadformref01_cmp.en]
noncomputable def quadformref01_Same.oB : List EnB := []
def quadformref01_Same.h : HT := .n
noncomputable def quadformref01_Same.c : Code := Tryz.f68.body.getD .skip
noncomputable def quadformref01_Same.L : Lam := fun _ i s K => none
theorem quadformref01_Same.os : AllOk prog quadformref01_Same.o := ⟨quadformref01_cmp.ok, trivial⟩
theorem quadformref01_Same.osB : AllBOk prog quadformref01_Same.oB := trivial
theorem quadformref01_Same.hk (x) : semK env (orc quadformref01_Same.o) (orcB quadformref01_Same.oB) 27 (quadformref01_Same.L _) quadformref01_Same.c quadformref01_Same.h (S.init (avs [.pair (.bool) (.pair (.sl (.int .u32)) (.unit)), .pair (.bool) (.pair (.sl (.int .u32)) (.unit))] x)) (fin env Tryz.f68 ⟨[.pair (.bool) (.pair (.sl (.int .u32)) (.unit)), .pair (.bool) (.pair (.sl (.int .u32)) (.unit))], .bool, false, false⟩) = quadformref01_Same.en.g x := by kernel_rfl
theorem quadformref01_Same.ok : EnOk prog quadformref01_Same.en := by
  refine fun_ok (g := ⟨[.pair (.bool) (.pair (.sl (.int .u32)) (.unit)), .pair (.bool) (.pair (.sl (.int .u32)) (.unit))], .bool, false, false⟩) (h := quadformref01_Same.h) (Λ := quadformref01_Same.L) tabs quadformref01_Same.os quadformref01_Same.osB Tryz.func68 (c := quadformref01_Same.c) (by kernel_rfl) (by decide +kernel) (by decide +kernel) (fun C hC => ?_) (fun x => quadformref01_Same.hk x)
  exact by
    have e : loops quadformref01_Same.c quadformref01_Same.h = [] := by kernel_rfl
    rw [e]
    exact LamOk.nil
noncomputable def quadformref02_Same (t0 : (Bool × List Int × Unit) × (Bool × List Int × Unit) × Unit) (t1 : (Bool × List Int × Unit) × (Bool × List Int × Unit) × Unit) : Option (Bool) :=
  ((quadformref01_Same (t0.1.1, (t0.1.2.1, ())) (t1.1.1, (t1.1.2.1, ()))).bind fun y1 =>
  (cond (y1)
  (((quadformref01_Same (t0.2.1.1, (t0.2.1.2.1, ())) (t1.2.1.1, (t1.2.1.2.1, ()))).bind fun y2 =>
  (some y2)))
  ((some false))))
noncomputable def quadformref02_Same.en : En := ⟨27, [.pair (.pair (.bool) (.pair (.sl (.int .u32)) (.unit))) (.pair (.pair (.bool) (.pair (.sl (.int .u32)) (.unit))) (.unit)), .pair (.pair (.bool) (.pair (.sl (.int .u32)) (.unit))) (.pair (.pair (.bool) (.pair (.sl (.int .u32)) (.unit))) (.unit))], .bool, false, fun x => quadformref02_Same x.1 x.2.1⟩
noncomputable def quadformref02_Same.o : List En := [quadformref01_Same.en]
noncomputable def quadformref02_Same.oB : List EnB := []
def quadformref02_Same.h : HT := .n
noncomputable def quadformref02_Same.c : Code := Tryz.f27.body.getD .skip
noncomputable def quadformref02_Same.L : Lam := fun _ i s K => none
theorem quadformref02_Same.os : AllOk prog quadformref02_Same.o := ⟨quadformref01_Same.ok, trivial⟩
theorem quadformref02_Same.osB : AllBOk prog quadformref02_Same.oB := trivial
theorem quadformref02_Same.hk (x) : semK env (orc quadformref02_Same.o) (orcB quadformref02_Same.oB) 17 (quadformref02_Same.L _) quadformref02_Same.c quadformref02_Same.h (S.init (avs [.pair (.pair (.bool) (.pair (.sl (.int .u32)) (.unit))) (.pair (.pair (.bool) (.pair (.sl (.int .u32)) (.unit))) (.unit)), .pair (.pair (.bool) (.pair (.sl (.int .u32)) (.unit))) (.pair (.pair (.bool) (.pair (.sl (.int .u32)) (.unit))) (.unit))] x)) (fin env Tryz.f27 ⟨[.pair (.pair (.bool) (.pair (.sl (.int .u32)) (.unit))) (.pair (.pair (.bool) (.pair (.sl (.int .u32)) (.unit))) (.unit)), .pair (.pair (.bool) (.pair (.sl (.int .u32)) (.unit))) (.pair (.pair (.bool) (.pair (.sl (.int .u32)) (.unit))) (.unit))], .bool, false, false⟩) = quadformref02_Same.en.g x := by kernel_rfl
theorem quadformref02_Same.ok : EnOk prog quadformref02_Same.en := by
  refine fun_ok (g := ⟨[.pair (.pair (.bool) (.pair (.sl (.int .u32)) (.unit))) (.pair (.pair (.bool) (.pair (.sl (.int .u32)) (.unit))) (.unit)), .pair (.pair (.bool) (.pair (.sl (.int .u32)) (.unit))) (.pair (.pair (.bool) (.pair (.sl (.int .u32)) (.unit))) (.unit))], .bool, false, false⟩) (h := quadformref02_Same.h) (Λ := quadformref02_Same.L) tabs quadformref02_Same.os quadformref02_Same.osB Tryz.func27 (c := quadformref02_Same.c) (by kernel_rfl) (by decide +kernel) (by decide +kernel) (fun C hC => ?_) (fun x => quadformref02_Same.hk x)
  exact by
    have e : loops quadformref02_Same.c quadformref02_Same.h = [] := by kernel_rfl
    rw [e]
    exact LamOk.nil
noncomputable def quadformlaw32_LocalmassDiagonal.j2 (t15 : Int) (b9_0 : Int) (b9_1 : Int) : Option (Bool) :=
  ((localmass_Diagonal t15 (b9_0, (b9_1, ()))).bind fun y4 =>
  ((quadformref32_Diagonal t15 (b9_0, (b9_1, ()))).bind fun y5 =>
  (cond ((y4.2.1 == y5.2.1))
  (((quadformref02_Same ((y4.1.1.1, (y4.1.1.2.1, ())), ((y4.1.2.1.1, (y4.1.2.1.2.1, ())), ())) ((y5.1.1.1, (y5.1.1.2.1, ())), ((y5.1.2.1.1, (y5.1.2.1.2.1, ())), ()))).bind fun y6 =>
  (cond (y6)
  (((quadformlaw32_awake).bind fun y7 =>
  (some y7)))
  ((some false)))))
  ((some false)))))
noncomputable def quadformlaw32_LocalmassDiagonal.j1 (t3 : Int) (t4 : Int) (t6 : Bool) (t15 : Int) (b9_0 : Int) (b9_1 : Int) : Option (Bool) :=
  (cond (t6)
  ((quadformlaw32_LocalmassDiagonal.j2 t15 (Int.tmod (IntKind.wrap .i64 t3) (12 : Int)) (IntKind.wrap .i64 ((Int.tmod (IntKind.wrap .i64 t4) (3 : Int)) - (1 : Int)))))
  ((quadformlaw32_LocalmassDiagonal.j2 t15 b9_0 b9_1)))
noncomputable def quadformlaw32_LocalmassDiagonal (t0 : Int) (t1 : Int) (t2 : Int × Int × Unit) (t3 : Int) (t4 : Int) (t5 : Bool) (t6 : Bool) : Option (Bool) :=
  ((quadformscene_Prime t0).bind fun y1 =>
  (cond (t5)
  ((quadformlaw32_LocalmassDiagonal.j1 t3 t4 t6 t1 t2.1 t2.2.1))
  ((quadformlaw32_LocalmassDiagonal.j1 t3 t4 t6 y1 t2.1 t2.2.1))))
noncomputable def quadformlaw32_LocalmassDiagonal.en : En := ⟨5, [.int .u8, .int .i64, .pair (.int .i64) (.pair (.int .i64) (.unit)), .int .u8, .int .u8, .bool, .bool], .bool, false, fun x => quadformlaw32_LocalmassDiagonal x.1 x.2.1 x.2.2.1 x.2.2.2.1 x.2.2.2.2.1 x.2.2.2.2.2.1 x.2.2.2.2.2.2.1⟩
noncomputable def quadformlaw32_LocalmassDiagonal.o : List En := [quadformlaw32_awake.en, quadformscene_Prime.en, localmass_Diagonal.en, quadformref32_Diagonal.en, quadformref02_Same.en]
noncomputable def quadformlaw32_LocalmassDiagonal.oB : List EnB := []
def quadformlaw32_LocalmassDiagonal.h : HT := .n
noncomputable def quadformlaw32_LocalmassDiagonal.c : Code := Tryz.f5.body.getD .skip
noncomputable def quadformlaw32_LocalmassDiagonal.L : Lam := fun _ i s K => none
theorem quadformlaw32_LocalmassDiagonal.os : AllOk prog quadformlaw32_LocalmassDiagonal.o := ⟨quadformlaw32_awake.ok, quadformscene_Prime.ok, localmass_Diagonal.ok, quadformref32_Diagonal.ok, quadformref02_Same.ok, trivial⟩
theorem quadformlaw32_LocalmassDiagonal.osB : AllBOk prog quadformlaw32_LocalmassDiagonal.oB := trivial
theorem quadformlaw32_LocalmassDiagonal.hk (x) : semK env (orc quadformlaw32_LocalmassDiagonal.o) (orcB quadformlaw32_LocalmassDiagonal.oB) 56 (quadformlaw32_LocalmassDiagonal.L _) quadformlaw32_LocalmassDiagonal.c quadformlaw32_LocalmassDiagonal.h (S.init (avs [.int .u8, .int .i64, .pair (.int .i64) (.pair (.int .i64) (.unit)), .int .u8, .int .u8, .bool, .bool] x)) (fin env Tryz.f5 ⟨[.int .u8, .int .i64, .pair (.int .i64) (.pair (.int .i64) (.unit)), .int .u8, .int .u8, .bool, .bool], .bool, false, false⟩) = quadformlaw32_LocalmassDiagonal.en.g x := by kernel_rfl
theorem quadformlaw32_LocalmassDiagonal.ok : EnOk prog quadformlaw32_LocalmassDiagonal.en := by
  refine fun_ok (g := ⟨[.int .u8, .int .i64, .pair (.int .i64) (.pair (.int .i64) (.unit)), .int .u8, .int .u8, .bool, .bool], .bool, false, false⟩) (h := quadformlaw32_LocalmassDiagonal.h) (Λ := quadformlaw32_LocalmassDiagonal.L) tabs quadformlaw32_LocalmassDiagonal.os quadformlaw32_LocalmassDiagonal.osB Tryz.func5 (c := quadformlaw32_LocalmassDiagonal.c) (by kernel_rfl) (by decide +kernel) (by decide +kernel) (fun C hC => ?_) (fun x => quadformlaw32_LocalmassDiagonal.hk x)
  exact by
    have e : loops quadformlaw32_LocalmassDiagonal.c quadformlaw32_LocalmassDiagonal.h = [] := by kernel_rfl
    rw [e]
    exact LamOk.nil
end Go.Proofs.YtgbndganadelpaaGreatDoor.E
