/- Functions of the program as_ functions on values, without fuel, and that the evaluator computes them (printed by gen.py). -/
import Derived.Test.YtgbndganadelpaaGreatDoorYLocalmassStandard10
namespace Go.Proofs.YtgbndganadelpaaGreatDoor.E
noncomputable section
open Go
set_option linter.unusedVariables false
set_option maxRecDepth 100000
def r01_Rem (t0 : Bool × List Int × Unit) (t1 : Bool × List Int × Unit) : Option (Bool × List Int × Unit) :=
  ((r01_DivMod (t0.1, (t0.2.1, ())) (t1.1, (t1.2.1, ()))).bind fun y1 =>
  (some (y1.2.1.1, (y1.2.1.2.1, ()))))
def r01_Rem.en : En := ⟨197, [tZ, tZ], tZ, false, fun x => r01_Rem x.1 x.2.1⟩
def r01_Rem.o : List En := [r01_DivMod.en]
def r01_Rem.oB : List EnB := []
def r01_Rem.h : HT := .n
def r01_Rem.c : Code := Tryz.f197.body.getD .skip
def r01_Rem.L : Lam := fun _ i s K => none
theorem r01_Rem.os : AllOk prog r01_Rem.o := ⟨r01_DivMod.ok, trivial⟩
theorem r01_Rem.osB : AllBOk prog r01_Rem.oB := trivial
theorem r01_Rem.hk (x) : semK env (orc r01_Rem.o) (orcB r01_Rem.oB) 16 (r01_Rem.L _) r01_Rem.c r01_Rem.h (S.init (avs [tZ, tZ] x)) (fin env Tryz.f197 ⟨[tZ, tZ], tZ, false, false⟩) = r01_Rem.en.g x := by kernel_rfl
theorem r01_Rem.ok : EnOk prog r01_Rem.en := by
  refine fun_ok (g := ⟨[tZ, tZ], tZ, false, false⟩) (h := r01_Rem.h) (Λ := r01_Rem.L) tabs r01_Rem.os r01_Rem.osB Tryz.func197 (c := r01_Rem.c) (by kernel_rfl) (by decide +kernel) (by decide +kernel) (fun C hC => ?_) (fun x => r01_Rem.hk x)
  exact by
    have e : loops r01_Rem.c r01_Rem.h = [] := by kernel_rfl
    rw [e]
    exact LamOk.nil
def r01_Gcd.j1 (b4_0 : Bool) (b4_1 : List Int) (b5_0 : Bool) (b5_1 : List Int) (b6_0 : Bool) (b6_1 : List Int) : Option (((Bool × List Int × Unit) × (Bool × List Int × Unit) × (Bool × List Int × Unit) × Unit) ⊕ (((Bool × List Int × Unit) × (Bool × List Int × Unit) × Unit))) :=
  ((r01_Rem (b5_0, (b5_1, ())) (b6_0, (b6_1, ()))).bind fun y4 =>
  (some (.inl ((b4_0, (b4_1, ())), (b6_0, (b6_1, ())), (y4.1, (y4.2.1, ())), ()))))
def r01_Gcd.s0 (b4 : Bool × List Int × Unit) (b5 : Bool × List Int × Unit) (b6 : Bool × List Int × Unit) : Option (((Bool × List Int × Unit) × (Bool × List Int × Unit) × (Bool × List Int × Unit) × Unit) ⊕ (((Bool × List Int × Unit) × (Bool × List Int × Unit) × Unit))) :=
  ((r01_Sign (b6.1, (b6.2.1, ()))).bind fun y3 =>
  (cond ((y3 != (0 : Int)))
  ((r01_Gcd.j1 b4.1 b4.2.1 b5.1 b5.2.1 b6.1 b6.2.1))
  ((some (.inr ((b4.1, (b4.2.1, ())), (b5.1, (b5.2.1, ())), ()))))))
def r01_Gcd.k0 (b4 : Bool × List Int × Unit) (b5 : Bool × List Int × Unit) : Option (Bool × List Int × Unit) :=
  (some (b5.1, (b5.2.1, ())))
def r01_Gcd (t0 : Bool × List Int × Unit) (t1 : Bool × List Int × Unit) : Option (Bool × List Int × Unit) :=
  ((r01_Abs (t0.1, (t0.2.1, ()))).bind fun y1 =>
  ((r01_Abs (t1.1, (t1.2.1, ()))).bind fun y2 =>
  ((iterL (fun x : (Bool × List Int × Unit) × (Bool × List Int × Unit) × (Bool × List Int × Unit) × Unit => r01_Gcd.s0 x.1 x.2.1 x.2.2.1) ((false, (([] : List Int), ())), (y1.1, (y1.2.1, ())), (y2.1, (y2.2.1, ())), ())).bind fun y => r01_Gcd.k0 y.1 y.2.1)))
def r01_Gcd.en : En := ⟨137, [tZ, tZ], tZ, false, fun x => r01_Gcd x.1 x.2.1⟩
def r01_Gcd.o : List En := [r01_Sign.en, r01_Abs.en, r01_Rem.en]
def r01_Gcd.oB : List EnB := []
def r01_Gcd.h : HT := .two (.n) (.two (.n) (.two (.lp 0) (.n)))
def r01_Gcd.c : Code := Tryz.f137.body.getD .skip
def r01_Gcd.h0 : HT := .n
def r01_Gcd.c0 : Code := (find (loops r01_Gcd.c r01_Gcd.h) 0).getD .skip
def r01_Gcd.d0 : Fm := [.box 4 (tZ), .box 5 (tZ), .box 6 (tZ), .ptr 4 4, .ptr 5 5, .ptr 6 6]
def r01_Gcd.x0 : Xs := [(.exit 0, [.box 4 (tZ), .box 5 (tZ), .ptr 4 4, .ptr 5 5])]
def r01_Gcd.r0 (x : (Fm.ty r01_Gcd.d0).den) : Option ((Fm.ty r01_Gcd.d0).den ⊕ (Xs.T r01_Gcd.x0)) := r01_Gcd.s0 x.1 x.2.1 x.2.2.1
def r01_Gcd.L : Lam := fun _ i s K => cond (Nat.beq i 0) (lamK r01_Gcd.d0 r01_Gcd.x0 r01_Gcd.r0 s K) (none)
theorem r01_Gcd.hf0 (x) : roundK env (orc r01_Gcd.o) (orcB r01_Gcd.oB) 19 r01_Gcd.L r01_Gcd.c0 r01_Gcd.h0 r01_Gcd.d0 r01_Gcd.x0 x = r01_Gcd.r0 x := by kernel_rfl
theorem r01_Gcd.os : AllOk prog r01_Gcd.o := ⟨r01_Sign.ok, r01_Abs.ok, r01_Rem.ok, trivial⟩
theorem r01_Gcd.osB : AllBOk prog r01_Gcd.oB := trivial
theorem r01_Gcd.l0 {C : Ctx} (hC : C.n = 19) : LamAt prog C r01_Gcd.L 0 r01_Gcd.c0 := by
  intro R s K r hk
  refine loop_ok (D := r01_Gcd.d0) (X := r01_Gcd.x0) (h := r01_Gcd.h0) (f := r01_Gcd.r0) tabs (orc_ok _ r01_Gcd.os) (orcB_ok _ r01_Gcd.osB) (fun x => by rw [hC]; exact r01_Gcd.hf0 x) (Λ := r01_Gcd.L) ?_ (by kernel_rfl) (by kernel_rfl) (K := K) (s := s) (by exact hk)
  exact by
    have e : loops r01_Gcd.c0 r01_Gcd.h0 = [] := by kernel_rfl
    rw [e]
    exact LamOk.nil
theorem r01_Gcd.hk (x) : semK env (orc r01_Gcd.o) (orcB r01_Gcd.oB) 19 (r01_Gcd.L _) r01_Gcd.c r01_Gcd.h (S.init (avs [tZ, tZ] x)) (fin env Tryz.f137 ⟨[tZ, tZ], tZ, false, false⟩) = r01_Gcd.en.g x := by kernel_rfl
theorem r01_Gcd.ok : EnOk prog r01_Gcd.en := by
  refine fun_ok (g := ⟨[tZ, tZ], tZ, false, false⟩) (h := r01_Gcd.h) (Λ := r01_Gcd.L) tabs r01_Gcd.os r01_Gcd.osB Tryz.func137 (c := r01_Gcd.c) (by kernel_rfl) (by decide +kernel) (by decide +kernel) (fun C hC => ?_) (fun x => r01_Gcd.hk x)
  exact by
    have e : loops r01_Gcd.c r01_Gcd.h = [(0, r01_Gcd.c0)] := by kernel_rfl
    rw [e]
    exact LamOk.cons (r01_Gcd.l0 hC) (LamOk.nil)
def r02_New.j2 (b2_0 : Bool) (b2_1 : List Int) (b3_0 : Bool) (b3_1 : List Int) (b4_1 : List Int) (b4_3 : List Int) : Option (((Bool × List Int × Unit) × (Bool × List Int × Unit) × Unit) × Bool × Unit) :=
  ((r01_Gcd (b2_0, (b2_1, ())) (b3_0, (b3_1, ()))).bind fun y5 =>
  ((r01_Quo (b2_0, (b2_1, ())) (y5.1, (y5.2.1, ()))).bind fun y6 =>
  ((r01_Quo (b3_0, (b3_1, ())) (y5.1, (y5.2.1, ()))).bind fun y7 =>
  (some (((y6.1, (y6.2.1, ())), ((y7.1, (y7.2.1, ())), ())), (true, ()))))))
def r02_New.j1 (b2_0 : Bool) (b2_1 : List Int) (b3_0 : Bool) (b3_1 : List Int) (b4_1 : List Int) (b4_3 : List Int) : Option (((Bool × List Int × Unit) × (Bool × List Int × Unit) × Unit) × Bool × Unit) :=
  ((r01_Sign (b3_0, (b3_1, ()))).bind fun y2 =>
  (cond ((decide (y2 < (0 : Int))))
  (((r01_Neg (b2_0, (b2_1, ()))).bind fun y3 =>
  ((r01_Neg (b3_0, (b3_1, ()))).bind fun y4 =>
  (r02_New.j2 y3.1 y3.2.1 y4.1 y4.2.1 b4_1 b4_3))))
  ((r02_New.j2 b2_0 b2_1 b3_0 b3_1 b4_1 b4_3))))
def r02_New (t0 : Bool × List Int × Unit) (t1 : Bool × List Int × Unit) : Option (((Bool × List Int × Unit) × (Bool × List Int × Unit) × Unit) × Bool × Unit) :=
  ((r01_Sign (t1.1, (t1.2.1, ()))).bind fun y1 =>
  (cond ((y1 == (0 : Int)))
  ((some (((false, (([] : List Int), ())), ((false, (([] : List Int), ())), ())), (false, ()))))
  ((r02_New.j1 t0.1 t0.2.1 t1.1 t1.2.1 ([] : List Int) ([] : List Int)))))
def r02_New.en : En := ⟨64, [tZ, tZ], .pair (.pair (tZ) (.pair (tZ) (.unit))) (.pair (.bool) (.unit)), true, fun x => r02_New x.1 x.2.1⟩
def r02_New.o : List En := [r01_Sign.en, r01_Quo.en, r01_Neg.en, r01_Gcd.en]
def r02_New.oB : List EnB := []
def r02_New.h : HT := .n
def r02_New.c : Code := Tryz.f64.body.getD .skip
def r02_New.L : Lam := fun _ i s K => none
theorem r02_New.os : AllOk prog r02_New.o := ⟨r01_Sign.ok, r01_Quo.ok, r01_Neg.ok, r01_Gcd.ok, trivial⟩
theorem r02_New.osB : AllBOk prog r02_New.oB := trivial
theorem r02_New.hk (x) : semK env (orc r02_New.o) (orcB r02_New.oB) 28 (r02_New.L _) r02_New.c r02_New.h (S.init (avs [tZ, tZ] x)) (fin env Tryz.f64 ⟨[tZ, tZ], .pair (.pair (tZ) (.pair (tZ) (.unit))) (.pair (.bool) (.unit)), true, false⟩) = r02_New.en.g x := by kernel_rfl
theorem r02_New.ok : EnOk prog r02_New.en := by
  refine fun_ok (g := ⟨[tZ, tZ], .pair (.pair (tZ) (.pair (tZ) (.unit))) (.pair (.bool) (.unit)), true, false⟩) (h := r02_New.h) (Λ := r02_New.L) tabs r02_New.os r02_New.osB Tryz.func64 (c := r02_New.c) (by kernel_rfl) (by decide +kernel) (by decide +kernel) (fun C hC => ?_) (fun x => r02_New.hk x)
  exact by
    have e : loops r02_New.c r02_New.h = [] := by kernel_rfl
    rw [e]
    exact LamOk.nil
def r31_Ratio (t0 : Int) (t1 : Int) : Option ((Bool × List Int × Unit) × (Bool × List Int × Unit) × Unit) :=
  ((r01_Small t0).bind fun y1 =>
  ((r01_Small t1).bind fun y2 =>
  ((r02_New y1 y2).bind fun y3 =>
  (some ((y3.1.1.1, (y3.1.1.2.1, ())), ((y3.1.2.1.1, (y3.1.2.1.2.1, ())), ()))))))
def r31_Ratio.en : En := ⟨23, [.int .i64, .int .i64], .pair (tZ) (.pair (tZ) (.unit)), false, fun x => r31_Ratio x.1 x.2.1⟩
def r31_Ratio.o : List En := [r02_New.en, r01_Small.en]
def r31_Ratio.oB : List EnB := []
def r31_Ratio.h : HT := .n
def r31_Ratio.c : Code := Tryz.f23.body.getD .skip
def r31_Ratio.L : Lam := fun _ i s K => none
theorem r31_Ratio.os : AllOk prog r31_Ratio.o := ⟨r02_New.ok, r01_Small.ok, trivial⟩
theorem r31_Ratio.osB : AllBOk prog r31_Ratio.oB := trivial
theorem r31_Ratio.hk (x) : semK env (orc r31_Ratio.o) (orcB r31_Ratio.oB) 16 (r31_Ratio.L _) r31_Ratio.c r31_Ratio.h (S.init (avs [.int .i64, .int .i64] x)) (fin env Tryz.f23 ⟨[.int .i64, .int .i64], .pair (tZ) (.pair (tZ) (.unit)), false, false⟩) = r31_Ratio.en.g x := by kernel_rfl
theorem r31_Ratio.ok : EnOk prog r31_Ratio.en := by
  refine fun_ok (g := ⟨[.int .i64, .int .i64], .pair (tZ) (.pair (tZ) (.unit)), false, false⟩) (h := r31_Ratio.h) (Λ := r31_Ratio.L) tabs r31_Ratio.os r31_Ratio.osB Tryz.func23 (c := r31_Ratio.c) (by kernel_rfl) (by decide +kernel) (by decide +kernel) (fun C hC => ?_) (fun x => r31_Ratio.hk x)
  exact by
    have e : loops r31_Ratio.c r31_Ratio.h = [] := by kernel_rfl
    rw [e]
    exact LamOk.nil
def r02_Normalize.j1 (b2_1 : List Int) (b2_3 : List Int) (b3_0 : Bool) (b3_1 : List Int) (b3_2 : Bool) (b3_3 : List Int) : Option ((Bool × List Int × Unit) × (Bool × List Int × Unit) × Unit) :=
  (some ((b3_0, (b3_1, ())), ((b3_2, (b3_3, ())), ())))
def r02_Normalize (t0 : (Bool × List Int × Unit) × (Bool × List Int × Unit) × Unit) : Option ((Bool × List Int × Unit) × (Bool × List Int × Unit) × Unit) :=
  ((r02_New (t0.1.1, (t0.1.2.1, ())) (t0.2.1.1, (t0.2.1.2.1, ()))).bind fun y1 =>
  (cond ((!y1.2.1))
  (((r02_Small (0 : Int)).bind fun y2 =>
  (some ((y2.1.1, (y2.1.2.1, ())), ((y2.2.1.1, (y2.2.1.2.1, ())), ())))))
  ((r02_Normalize.j1 ([] : List Int) ([] : List Int) y1.1.1.1 y1.1.1.2.1 y1.1.2.1.1 y1.1.2.1.2.1))))
def r02_Normalize.en : En := ⟨151, [.pair (tZ) (.pair (tZ) (.unit))], .pair (tZ) (.pair (tZ) (.unit)), false, fun x => r02_Normalize x.1⟩
def r02_Normalize.o : List En := [r02_New.en, r02_Small.en]
def r02_Normalize.oB : List EnB := []
def r02_Normalize.h : HT := .n
def r02_Normalize.c : Code := Tryz.f151.body.getD .skip
def r02_Normalize.L : Lam := fun _ i s K => none
theorem r02_Normalize.os : AllOk prog r02_Normalize.o := ⟨r02_New.ok, r02_Small.ok, trivial⟩
theorem r02_Normalize.osB : AllBOk prog r02_Normalize.oB := trivial
theorem r02_Normalize.hk (x) : semK env (orc r02_Normalize.o) (orcB r02_Normalize.oB) 17 (r02_Normalize.L _) r02_Normalize.c r02_Normalize.h (S.init (avs [.pair (tZ) (.pair (tZ) (.unit))] x)) (fin env Tryz.f151 ⟨[.pair (tZ) (.pair (tZ) (.unit))], .pair (tZ) (.pair (tZ) (.unit)), false, false⟩) = r02_Normalize.en.g x := by kernel_rfl
theorem r02_Normalize.ok : EnOk prog r02_Normalize.en := by
  refine fun_ok (g := ⟨[.pair (tZ) (.pair (tZ) (.unit))], .pair (tZ) (.pair (tZ) (.unit)), false, false⟩) (h := r02_Normalize.h) (Λ := r02_Normalize.L) tabs r02_Normalize.os r02_Normalize.osB Tryz.func151 (c := r02_Normalize.c) (by kernel_rfl) (by decide +kernel) (by decide +kernel) (fun C hC => ?_) (fun x => r02_Normalize.hk x)
  exact by
    have e : loops r02_Normalize.c r02_Normalize.h = [] := by kernel_rfl
    rw [e]
    exact LamOk.nil
def r01_Mul.j2 (t6 : Int) (t7 : Int) (t8 : Int) (t20 : List Int) (t21 : Int) (t22 : Int) (t28 : List Int) (t29 : Int) (t30 : Int) (b2_0 : Bool) (b2_1 : List Int) (b3_0 : Bool) (b3_1 : List Int) (b4_0 : Bool) (b4_1 : List Int) (a18 : List (Int)) : Option ((Int × Int × Int × List Int × Int × Int × List Int × Int × Int × List Int × (Bool × List Int × Unit) × (Bool × List Int × Unit) × (Bool × List Int × Unit) × Unit) ⊕ ((Int × Int × List Int × Int × Int × List Int × (Bool × List Int × Unit) × (Bool × List Int × Unit) × (Bool × List Int × Unit) × Unit))) :=
  (cond (inB t30 (List.length t28))
  ((cond (inB (IntKind.wrap .i64 (t6 + t30)) (List.length a18))
  (let x5 := (IntKind.wrap .u64 ((IntKind.wrap .u64 ((IntKind.wrap .u64 t7) * (IntKind.wrap .u64 (List.getD t28 (t30.toNat) (0 : Int))))) + (IntKind.wrap .u64 (List.getD a18 ((0 + (((IntKind.wrap .i64 (t6 + t30))).toNat))) (0 : Int)))))
  (cond (inB (IntKind.wrap .i64 (t6 + t30)) (List.length a18))
  ((some (.inl (t6, t7, (shrI .u64 (IntKind.wrap .u64 (t8 + x5)) (32 : Int)), t20, t21, t22, t28, t29, (IntKind.wrap .i64 (t30 + (1 : Int))), (List.set a18 ((0 + (((IntKind.wrap .i64 (t6 + t30))).toNat))) (IntKind.wrap .u32 (IntKind.wrap .u64 (t8 + x5)))), (b2_0, (b2_1, ())), (b3_0, (b3_1, ())), (b4_0, (b4_1, ())), ()))))
  none))
  none))
  none)
def r01_Mul.s0 (t6 : Int) (t7 : Int) (t8 : Int) (t20 : List Int) (t21 : Int) (t22 : Int) (t28 : List Int) (t29 : Int) (t30 : Int) (a18 : List (Int)) (b2 : Bool × List Int × Unit) (b3 : Bool × List Int × Unit) (b4 : Bool × List Int × Unit) : Option ((Int × Int × Int × List Int × Int × Int × List Int × Int × Int × List Int × (Bool × List Int × Unit) × (Bool × List Int × Unit) × (Bool × List Int × Unit) × Unit) ⊕ ((Int × Int × List Int × Int × Int × List Int × (Bool × List Int × Unit) × (Bool × List Int × Unit) × (Bool × List Int × Unit) × Unit))) :=
  (cond ((decide (t30 < t29)))
  ((r01_Mul.j2 t6 t7 t8 t20 t21 t22 t28 t29 t30 b2.1 b2.2.1 b3.1 b3.2.1 b4.1 b4.2.1 a18))
  ((some (.inr (t6, t8, t20, t21, t22, a18, (b2.1, (b2.2.1, ())), (b3.1, (b3.2.1, ())), (b4.1, (b4.2.1, ())), ())))))
def r01_Mul.k0 (t6 : Int) (t8 : Int) (t20 : List Int) (t21 : Int) (t22 : Int) (a18 : List (Int)) (b2 : Bool × List Int × Unit) (b3 : Bool × List Int × Unit) (b4 : Bool × List Int × Unit) : Option ((List Int × Int × Int × List Int × (Bool × List Int × Unit) × (Bool × List Int × Unit) × (Bool × List Int × Unit) × Unit) ⊕ ((List Int × (Bool × List Int × Unit) × (Bool × List Int × Unit) × (Bool × List Int × Unit) × Unit))) :=
  let x9 := (IntKind.wrap .i64 (t6 + ((List.length b3.2.1 : Nat) : Int)))
  (cond (inB x9 (List.length a18))
  ((some (.inl (t20, t21, (IntKind.wrap .i64 (t22 + (1 : Int))), (List.set a18 ((0 + x9.toNat)) (IntKind.wrap .u32 t8)), (b2.1, (b2.2.1, ())), (b3.1, (b3.2.1, ())), (b4.1, (b4.2.1, ())), ()))))
  none)
def r01_Mul.j1 (t20 : List Int) (t21 : Int) (t22 : Int) (b2_0 : Bool) (b2_1 : List Int) (b3_0 : Bool) (b3_1 : List Int) (b4_0 : Bool) (b4_1 : List Int) (a18 : List (Int)) : Option ((List Int × Int × Int × List Int × (Bool × List Int × Unit) × (Bool × List Int × Unit) × (Bool × List Int × Unit) × Unit) ⊕ ((List Int × (Bool × List Int × Unit) × (Bool × List Int × Unit) × (Bool × List Int × Unit) × Unit))) :=
  (cond (inB t22 (List.length t20))
  (((iterL (fun x : Int × Int × Int × List Int × Int × Int × List Int × Int × Int × List Int × (Bool × List Int × Unit) × (Bool × List Int × Unit) × (Bool × List Int × Unit) × Unit => r01_Mul.s0 x.1 x.2.1 x.2.2.1 x.2.2.2.1 x.2.2.2.2.1 x.2.2.2.2.2.1 x.2.2.2.2.2.2.1 x.2.2.2.2.2.2.2.1 x.2.2.2.2.2.2.2.2.1 x.2.2.2.2.2.2.2.2.2.1 x.2.2.2.2.2.2.2.2.2.2.1 x.2.2.2.2.2.2.2.2.2.2.2.1 x.2.2.2.2.2.2.2.2.2.2.2.2.1) (t22, (List.getD t20 (t22.toNat) (0 : Int)), (0 : Int), t20, t21, t22, b3_1, ((List.length b3_1 : Nat) : Int), (0 : Int), a18, (b2_0, (b2_1, ())), (b3_0, (b3_1, ())), (b4_0, (b4_1, ())), ())).bind fun y => r01_Mul.k0 y.1 y.2.1 y.2.2.1 y.2.2.2.1 y.2.2.2.2.1 y.2.2.2.2.2.1 y.2.2.2.2.2.2.1 y.2.2.2.2.2.2.2.1 y.2.2.2.2.2.2.2.2.1))
  none)
def r01_Mul.s1 (t20 : List Int) (t21 : Int) (t22 : Int) (a18 : List (Int)) (b2 : Bool × List Int × Unit) (b3 : Bool × List Int × Unit) (b4 : Bool × List Int × Unit) : Option ((List Int × Int × Int × List Int × (Bool × List Int × Unit) × (Bool × List Int × Unit) × (Bool × List Int × Unit) × Unit) ⊕ ((List Int × (Bool × List Int × Unit) × (Bool × List Int × Unit) × (Bool × List Int × Unit) × Unit))) :=
  (cond ((decide (t22 < t21)))
  ((r01_Mul.j1 t20 t21 t22 b2.1 b2.2.1 b3.1 b3.2.1 b4.1 b4.2.1 a18))
  ((some (.inr (a18, (b2.1, (b2.2.1, ())), (b3.1, (b3.2.1, ())), (b4.1, (b4.2.1, ())), ())))))
def r01_Mul.k1 (a18 : List (Int)) (b2 : Bool × List Int × Unit) (b3 : Bool × List Int × Unit) (b4 : Bool × List Int × Unit) : Option (Bool × List Int × Unit) :=
  ((r01_Make (!(b2.1 == b3.1)) a18).bind fun y11 =>
  (some (y11.1, (y11.2.1, ()))))
def r01_Mul (t0 : Bool × List Int × Unit) (t1 : Bool × List Int × Unit) : Option (Bool × List Int × Unit) :=
  let x1 := (IntKind.wrap .i64 (((List.length t0.2.1 : Nat) : Int) + ((List.length t1.2.1 : Nat) : Int)))
  (cond (inC x1 maxL)
  (((iterL (fun x : List Int × Int × Int × List Int × (Bool × List Int × Unit) × (Bool × List Int × Unit) × (Bool × List Int × Unit) × Unit => r01_Mul.s1 x.1 x.2.1 x.2.2.1 x.2.2.2.1 x.2.2.2.2.1 x.2.2.2.2.2.1 x.2.2.2.2.2.2.1) (t0.2.1, ((List.length t0.2.1 : Nat) : Int), (0 : Int), (List.replicate (x1.toNat) ((0 : Int) : Int)), (t0.1, (t0.2.1, ())), (t1.1, (t1.2.1, ())), (false, (([] : List Int), ())), ())).bind fun y => r01_Mul.k1 y.1 y.2.1 y.2.2.1 y.2.2.2.1))
  none)
def r01_Mul.en : En := ⟨102, [tZ, tZ], tZ, false, fun x => r01_Mul x.1 x.2.1⟩
def r01_Mul.o : List En := [r01_Make.en]
def r01_Mul.oB : List EnB := []
def r01_Mul.h : HT := .two (.n) (.two (.n) (.two (.two (.n) (.lp 1)) (.two (.fr [18] []) (.n))))
def r01_Mul.c : Code := Tryz.f102.body.getD .skip
def r01_Mul.h1 : HT := .two (.n) (.two (.n) (.two (.two (.n) (.two (.n) (.two (.two (.n) (.lp 0)) (.n)))) (.n)))
def r01_Mul.c1 : Code := (find (loops r01_Mul.c r01_Mul.h) 1).getD .skip
def r01_Mul.d1 : Fm := [.v 20 (.sl (.int .u32)), .v 21 (.int .i64), .v 22 (.int .i64), .arr 18 211 (.int .u32), .box 2 (tZ), .box 3 (tZ), .box 4 (tZ), .own 5 18, .ptr 2 2, .ptr 3 3, .ptr 4 4]
def r01_Mul.x1 : Xs := [(.exit 0, [.arr 18 211 (.int .u32), .box 2 (tZ), .box 3 (tZ), .box 4 (tZ), .own 5 18, .ptr 2 2, .ptr 3 3, .ptr 4 4])]
def r01_Mul.r1 (x : (Fm.ty r01_Mul.d1).den) : Option ((Fm.ty r01_Mul.d1).den ⊕ (Xs.T r01_Mul.x1)) := r01_Mul.s1 x.1 x.2.1 x.2.2.1 x.2.2.2.1 x.2.2.2.2.1 x.2.2.2.2.2.1 x.2.2.2.2.2.2.1
def r01_Mul.h0 : HT := .n
def r01_Mul.c0 : Code := (find (loops r01_Mul.c1 r01_Mul.h1) 0).getD .skip
def r01_Mul.d0 : Fm := [.v 6 (.int .i64), .v 7 (.int .u32), .v 8 (.int .u64), .v 20 (.sl (.int .u32)), .v 21 (.int .i64), .v 22 (.int .i64), .v 28 (.sl (.int .u32)), .v 29 (.int .i64), .v 30 (.int .i64), .arr 18 211 (.int .u32), .box 2 (tZ), .box 3 (tZ), .box 4 (tZ), .own 5 18, .ptr 2 2, .ptr 3 3, .ptr 4 4]
def r01_Mul.x0 : Xs := [(.exit 2, [.v 6 (.int .i64), .v 8 (.int .u64), .v 20 (.sl (.int .u32)), .v 21 (.int .i64), .v 22 (.int .i64), .arr 18 211 (.int .u32), .box 2 (tZ), .box 3 (tZ), .box 4 (tZ), .own 5 18, .ptr 2 2, .ptr 3 3, .ptr 4 4])]
def r01_Mul.r0 (x : (Fm.ty r01_Mul.d0).den) : Option ((Fm.ty r01_Mul.d0).den ⊕ (Xs.T r01_Mul.x0)) := r01_Mul.s0 x.1 x.2.1 x.2.2.1 x.2.2.2.1 x.2.2.2.2.1 x.2.2.2.2.2.1 x.2.2.2.2.2.2.1 x.2.2.2.2.2.2.2.1 x.2.2.2.2.2.2.2.2.1 x.2.2.2.2.2.2.2.2.2.1 x.2.2.2.2.2.2.2.2.2.2.1 x.2.2.2.2.2.2.2.2.2.2.2.1 x.2.2.2.2.2.2.2.2.2.2.2.2.1
def r01_Mul.L : Lam := fun _ i s K => cond (Nat.beq i 0) (lamK r01_Mul.d0 r01_Mul.x0 r01_Mul.r0 s K) (cond (Nat.beq i 1) (lamK r01_Mul.d1 r01_Mul.x1 r01_Mul.r1 s K) (none))
theorem r01_Mul.hf0 (x) : roundK env (orc r01_Mul.o) (orcB r01_Mul.oB) 77 r01_Mul.L r01_Mul.c0 r01_Mul.h0 r01_Mul.d0 r01_Mul.x0 x = r01_Mul.r0 x := by kernel_rfl
theorem r01_Mul.hf1 (x) : roundK env (orc r01_Mul.o) (orcB r01_Mul.oB) 77 r01_Mul.L r01_Mul.c1 r01_Mul.h1 r01_Mul.d1 r01_Mul.x1 x = r01_Mul.r1 x := by kernel_rfl
theorem r01_Mul.os : AllOk prog r01_Mul.o := ⟨r01_Make.ok, trivial⟩
theorem r01_Mul.osB : AllBOk prog r01_Mul.oB := trivial
theorem r01_Mul.l0 {C : Ctx} (hC : C.n = 77) : LamAt prog C r01_Mul.L 0 r01_Mul.c0 := by
  intro R s K r hk
  refine loop_ok (D := r01_Mul.d0) (X := r01_Mul.x0) (h := r01_Mul.h0) (f := r01_Mul.r0) tabs (orc_ok _ r01_Mul.os) (orcB_ok _ r01_Mul.osB) (fun x => by rw [hC]; exact r01_Mul.hf0 x) (Λ := r01_Mul.L) ?_ (by kernel_rfl) (by kernel_rfl) (K := K) (s := s) (by exact hk)
  exact by
    have e : loops r01_Mul.c0 r01_Mul.h0 = [] := by kernel_rfl
    rw [e]
    exact LamOk.nil
theorem r01_Mul.l1 {C : Ctx} (hC : C.n = 77) : LamAt prog C r01_Mul.L 1 r01_Mul.c1 := by
  intro R s K r hk
  refine loop_ok (D := r01_Mul.d1) (X := r01_Mul.x1) (h := r01_Mul.h1) (f := r01_Mul.r1) tabs (orc_ok _ r01_Mul.os) (orcB_ok _ r01_Mul.osB) (fun x => by rw [hC]; exact r01_Mul.hf1 x) (Λ := r01_Mul.L) ?_ (by kernel_rfl) (by kernel_rfl) (K := K) (s := s) (by exact hk)
  exact by
    have e : loops r01_Mul.c1 r01_Mul.h1 = [(0, r01_Mul.c0)] := by kernel_rfl
    rw [e]
    exact LamOk.cons (r01_Mul.l0 hC) (LamOk.nil)
theorem r01_Mul.hk (x) : semK env (orc r01_Mul.o) (orcB r01_Mul.oB) 77 (r01_Mul.L _) r01_Mul.c r01_Mul.h (S.init (avs [tZ, tZ] x)) (fin env Tryz.f102 ⟨[tZ, tZ], tZ, false, false⟩) = r01_Mul.en.g x := by kernel_rfl
theorem r01_Mul.ok : EnOk prog r01_Mul.en := by
  refine fun_ok (g := ⟨[tZ, tZ], tZ, false, false⟩) (h := r01_Mul.h) (Λ := r01_Mul.L) tabs r01_Mul.os r01_Mul.osB Tryz.func102 (c := r01_Mul.c) (by kernel_rfl) (by decide +kernel) (by decide +kernel) (fun C hC => ?_) (fun x => r01_Mul.hk x)
  exact by
    have e : loops r01_Mul.c r01_Mul.h = [(1, r01_Mul.c1)] := by kernel_rfl
    rw [e]
    exact LamOk.cons (r01_Mul.l1 hC) (LamOk.nil)
def r02_Quo (t0 : (Bool × List Int × Unit) × (Bool × List Int × Unit) × Unit) (t1 : (Bool × List Int × Unit) × (Bool × List Int × Unit) × Unit) : Option (((Bool × List Int × Unit) × (Bool × List Int × Unit) × Unit) × Bool × Unit) :=
  ((r02_Normalize ((t0.1.1, (t0.1.2.1, ())), ((t0.2.1.1, (t0.2.1.2.1, ())), ()))).bind fun y1 =>
  ((r02_Normalize ((t1.1.1, (t1.1.2.1, ())), ((t1.2.1.1, (t1.2.1.2.1, ())), ()))).bind fun y2 =>
  ((r01_Mul (y1.1.1, (y1.1.2.1, ())) (y2.2.1.1, (y2.2.1.2.1, ()))).bind fun y3 =>
  ((r01_Mul (y1.2.1.1, (y1.2.1.2.1, ())) (y2.1.1, (y2.1.2.1, ()))).bind fun y4 =>
  ((r02_New y3 y4).bind fun y5 =>
  (some (((y5.1.1.1, (y5.1.1.2.1, ())), ((y5.1.2.1.1, (y5.1.2.1.2.1, ())), ())), (y5.2.1, ()))))))))
def r02_Quo.en : En := ⟨211, [.pair (tZ) (.pair (tZ) (.unit)), .pair (tZ) (.pair (tZ) (.unit))], .pair (.pair (tZ) (.pair (tZ) (.unit))) (.pair (.bool) (.unit)), true, fun x => r02_Quo x.1 x.2.1⟩
def r02_Quo.o : List En := [r02_New.en, r01_Mul.en, r02_Normalize.en]
def r02_Quo.oB : List EnB := []
def r02_Quo.h : HT := .n
def r02_Quo.c : Code := Tryz.f211.body.getD .skip
def r02_Quo.L : Lam := fun _ i s K => none
theorem r02_Quo.os : AllOk prog r02_Quo.o := ⟨r02_New.ok, r01_Mul.ok, r02_Normalize.ok, trivial⟩
theorem r02_Quo.osB : AllBOk prog r02_Quo.oB := trivial
theorem r02_Quo.hk (x) : semK env (orc r02_Quo.o) (orcB r02_Quo.oB) 25 (r02_Quo.L _) r02_Quo.c r02_Quo.h (S.init (avs [.pair (tZ) (.pair (tZ) (.unit)), .pair (tZ) (.pair (tZ) (.unit))] x)) (fin env Tryz.f211 ⟨[.pair (tZ) (.pair (tZ) (.unit)), .pair (tZ) (.pair (tZ) (.unit))], .pair (.pair (tZ) (.pair (tZ) (.unit))) (.pair (.bool) (.unit)), true, false⟩) = r02_Quo.en.g x := by kernel_rfl
theorem r02_Quo.ok : EnOk prog r02_Quo.en := by
  refine fun_ok (g := ⟨[.pair (tZ) (.pair (tZ) (.unit)), .pair (tZ) (.pair (tZ) (.unit))], .pair (.pair (tZ) (.pair (tZ) (.unit))) (.pair (.bool) (.unit)), true, false⟩) (h := r02_Quo.h) (Λ := r02_Quo.L) tabs r02_Quo.os r02_Quo.osB Tryz.func211 (c := r02_Quo.c) (by kernel_rfl) (by decide +kernel) (by decide +kernel) (fun C hC => ?_) (fun x => r02_Quo.hk x)
  exact by
    have e : loops r02_Quo.c r02_Quo.h = [] := by kernel_rfl
    rw [e]
    exact LamOk.nil
def r01_Pow.j2 (t1 : Int) (t7 : Int) (b2_0 : Bool) (b2_1 : List Int) (b4_0 : Bool) (b4_1 : List Int) (b6_0 : Bool) (b6_1 : List Int) : Option ((Int × Int × (Bool × List Int × Unit) × (Bool × List Int × Unit) × (Bool × List Int × Unit) × Unit) ⊕ (((Bool × List Int × Unit) × (Bool × List Int × Unit) × Unit))) :=
  ((r01_Mul (b6_0, (b6_1, ())) (b2_0, (b2_1, ()))).bind fun y2 =>
  (some (.inl (t1, (IntKind.wrap .i64 (t7 + (1 : Int))), (b2_0, (b2_1, ())), (b4_0, (b4_1, ())), (y2.1, (y2.2.1, ())), ()))))
def r01_Pow.s0 (t1 : Int) (t7 : Int) (b2 : Bool × List Int × Unit) (b4 : Bool × List Int × Unit) (b6 : Bool × List Int × Unit) : Option ((Int × Int × (Bool × List Int × Unit) × (Bool × List Int × Unit) × (Bool × List Int × Unit) × Unit) ⊕ (((Bool × List Int × Unit) × (Bool × List Int × Unit) × Unit))) :=
  (cond ((decide (t7 < t1)))
  ((r01_Pow.j2 t1 t7 b2.1 b2.2.1 b4.1 b4.2.1 b6.1 b6.2.1))
  ((some (.inr ((b4.1, (b4.2.1, ())), (b6.1, (b6.2.1, ())), ())))))
def r01_Pow.k0 (b4 : Bool × List Int × Unit) (b6 : Bool × List Int × Unit) : Option ((Bool × List Int × Unit) × Bool × Unit) :=
  (some ((b6.1, (b6.2.1, ())), (true, ())))
def r01_Pow.j1 (t1 : Int) (b2_0 : Bool) (b2_1 : List Int) (b4_1 : List Int) : Option ((Bool × List Int × Unit) × Bool × Unit) :=
  ((r01_Small (1 : Int)).bind fun y1 =>
  ((iterL (fun x : Int × Int × (Bool × List Int × Unit) × (Bool × List Int × Unit) × (Bool × List Int × Unit) × Unit => r01_Pow.s0 x.1 x.2.1 x.2.2.1 x.2.2.2.1 x.2.2.2.2.1) (t1, (0 : Int), (b2_0, (b2_1, ())), (false, (b4_1, ())), (y1.1, (y1.2.1, ())), ())).bind fun y => r01_Pow.k0 y.1 y.2.1))
def r01_Pow (t0 : Bool × List Int × Unit) (t1 : Int) : Option ((Bool × List Int × Unit) × Bool × Unit) :=
  (cond ((decide (t1 < (0 : Int))))
  ((some ((false, (([] : List Int), ())), (false, ()))))
  ((cond ((decide (t1 > (64 : Int))))
  ((some ((false, (([] : List Int), ())), (false, ()))))
  ((r01_Pow.j1 t1 t0.1 t0.2.1 ([] : List Int))))))
def r01_Pow.en : En := ⟨212, [tZ, .int .i64], .pair (tZ) (.pair (.bool) (.unit)), true, fun x => r01_Pow x.1 x.2.1⟩
def r01_Pow.o : List En := [r01_Small.en, r01_Mul.en]
def r01_Pow.oB : List EnB := []
def r01_Pow.h : HT := .two (.n) (.two (.n) (.two (.n) (.two (.two (.n) (.lp 0)) (.n))))
def r01_Pow.c : Code := Tryz.f212.body.getD .skip
def r01_Pow.h0 : HT := .n
def r01_Pow.c0 : Code := (find (loops r01_Pow.c r01_Pow.h) 0).getD .skip
def r01_Pow.d0 : Fm := [.v 1 (.int .i64), .v 7 (.int .i64), .box 2 (tZ), .box 4 (tZ), .box 6 (tZ), .ptr 2 2, .ptr 4 4, .ptr 6 6]
def r01_Pow.x0 : Xs := [(.exit 0, [.box 4 (tZ), .box 6 (tZ), .ptr 4 4, .ptr 6 6])]
def r01_Pow.r0 (x : (Fm.ty r01_Pow.d0).den) : Option ((Fm.ty r01_Pow.d0).den ⊕ (Xs.T r01_Pow.x0)) := r01_Pow.s0 x.1 x.2.1 x.2.2.1 x.2.2.2.1 x.2.2.2.2.1
def r01_Pow.L : Lam := fun _ i s K => cond (Nat.beq i 0) (lamK r01_Pow.d0 r01_Pow.x0 r01_Pow.r0 s K) (none)
theorem r01_Pow.hf0 (x) : roundK env (orc r01_Pow.o) (orcB r01_Pow.oB) 25 r01_Pow.L r01_Pow.c0 r01_Pow.h0 r01_Pow.d0 r01_Pow.x0 x = r01_Pow.r0 x := by kernel_rfl
theorem r01_Pow.os : AllOk prog r01_Pow.o := ⟨r01_Small.ok, r01_Mul.ok, trivial⟩
theorem r01_Pow.osB : AllBOk prog r01_Pow.oB := trivial
theorem r01_Pow.l0 {C : Ctx} (hC : C.n = 25) : LamAt prog C r01_Pow.L 0 r01_Pow.c0 := by
  intro R s K r hk
  refine loop_ok (D := r01_Pow.d0) (X := r01_Pow.x0) (h := r01_Pow.h0) (f := r01_Pow.r0) tabs (orc_ok _ r01_Pow.os) (orcB_ok _ r01_Pow.osB) (fun x => by rw [hC]; exact r01_Pow.hf0 x) (Λ := r01_Pow.L) ?_ (by kernel_rfl) (by kernel_rfl) (K := K) (s := s) (by exact hk)
  exact by
    have e : loops r01_Pow.c0 r01_Pow.h0 = [] := by kernel_rfl
    rw [e]
    exact LamOk.nil
theorem r01_Pow.hk (x) : semK env (orc r01_Pow.o) (orcB r01_Pow.oB) 25 (r01_Pow.L _) r01_Pow.c r01_Pow.h (S.init (avs [tZ, .int .i64] x)) (fin env Tryz.f212 ⟨[tZ, .int .i64], .pair (tZ) (.pair (.bool) (.unit)), true, false⟩) = r01_Pow.en.g x := by kernel_rfl
theorem r01_Pow.ok : EnOk prog r01_Pow.en := by
  refine fun_ok (g := ⟨[tZ, .int .i64], .pair (tZ) (.pair (.bool) (.unit)), true, false⟩) (h := r01_Pow.h) (Λ := r01_Pow.L) tabs r01_Pow.os r01_Pow.osB Tryz.func212 (c := r01_Pow.c) (by kernel_rfl) (by decide +kernel) (by decide +kernel) (fun C hC => ?_) (fun x => r01_Pow.hk x)
  exact by
    have e : loops r01_Pow.c r01_Pow.h = [(0, r01_Pow.c0)] := by kernel_rfl
    rw [e]
    exact LamOk.cons (r01_Pow.l0 hC) (LamOk.nil)
def r02_Pow.j3 (t1 : Int) (b4_1 : List Int) (b4_3 : List Int) (b6_0 : Bool) (b6_1 : List Int) (b6_2 : Bool) (b6_3 : List Int) : Option (((Bool × List Int × Unit) × (Bool × List Int × Unit) × Unit) × Bool × Unit) :=
  ((r01_Pow (b6_0, (b6_1, ())) t1).bind fun y4 =>
  ((r01_Pow (b6_2, (b6_3, ())) t1).bind fun y5 =>
  (some (((y4.1.1, (y4.1.2.1, ())), ((y5.1.1, (y5.1.2.1, ())), ())), (true, ())))))
def r02_Pow.j2 (t1 : Int) (b4_1 : List Int) (b4_3 : List Int) (b6_0 : Bool) (b6_1 : List Int) (b6_2 : Bool) (b6_3 : List Int) (b7_0 : Bool) (b7_1 : List Int) (b7_2 : Bool) (b7_3 : List Int) : Option (((Bool × List Int × Unit) × (Bool × List Int × Unit) × Unit) × Bool × Unit) :=
  (r02_Pow.j3 (IntKind.wrap .i64 (0 - t1)) b4_1 b4_3 b7_0 b7_1 b7_2 b7_3)
def r02_Pow.j1 (t1 : Int) (b2_0 : Bool) (b2_1 : List Int) (b2_2 : Bool) (b2_3 : List Int) (b4_1 : List Int) (b4_3 : List Int) : Option (((Bool × List Int × Unit) × (Bool × List Int × Unit) × Unit) × Bool × Unit) :=
  ((r02_Normalize ((b2_0, (b2_1, ())), ((b2_2, (b2_3, ())), ()))).bind fun y1 =>
  (cond ((decide (t1 < (0 : Int))))
  (((r02_Small (1 : Int)).bind fun y2 =>
  ((r02_Quo y2 ((y1.1.1, (y1.1.2.1, ())), ((y1.2.1.1, (y1.2.1.2.1, ())), ()))).bind fun y3 =>
  (cond ((!y3.2.1))
  ((some (((false, (([] : List Int), ())), ((false, (([] : List Int), ())), ())), (false, ()))))
  ((r02_Pow.j2 t1 b4_1 b4_3 y1.1.1 y1.1.2.1 y1.2.1.1 y1.2.1.2.1 y3.1.1.1 y3.1.1.2.1 y3.1.2.1.1 y3.1.2.1.2.1))))))
  ((r02_Pow.j3 t1 b4_1 b4_3 y1.1.1 y1.1.2.1 y1.2.1.1 y1.2.1.2.1))))
def r02_Pow (t0 : (Bool × List Int × Unit) × (Bool × List Int × Unit) × Unit) (t1 : Int) : Option (((Bool × List Int × Unit) × (Bool × List Int × Unit) × Unit) × Bool × Unit) :=
  (cond ((decide (t1 < (-64 : Int))))
  ((some (((false, (([] : List Int), ())), ((false, (([] : List Int), ())), ())), (false, ()))))
  ((cond ((decide (t1 > (64 : Int))))
  ((some (((false, (([] : List Int), ())), ((false, (([] : List Int), ())), ())), (false, ()))))
  ((r02_Pow.j1 t1 t0.1.1 t0.1.2.1 t0.2.1.1 t0.2.1.2.1 ([] : List Int) ([] : List Int))))))
def r02_Pow.en : En := ⟨150, [.pair (tZ) (.pair (tZ) (.unit)), .int .i64], .pair (.pair (tZ) (.pair (tZ) (.unit))) (.pair (.bool) (.unit)), true, fun x => r02_Pow x.1 x.2.1⟩
def r02_Pow.o : List En := [r02_Small.en, r02_Normalize.en, r02_Quo.en, r01_Pow.en]
def r02_Pow.oB : List EnB := []
def r02_Pow.h : HT := .n
def r02_Pow.c : Code := Tryz.f150.body.getD .skip
def r02_Pow.L : Lam := fun _ i s K => none
theorem r02_Pow.os : AllOk prog r02_Pow.o := ⟨r02_Small.ok, r02_Normalize.ok, r02_Quo.ok, r01_Pow.ok, trivial⟩
theorem r02_Pow.osB : AllBOk prog r02_Pow.oB := trivial
theorem r02_Pow.hk (x) : semK env (orc r02_Pow.o) (orcB r02_Pow.oB) 53 (r02_Pow.L _) r02_Pow.c r02_Pow.h (S.init (avs [.pair (tZ) (.pair (tZ) (.unit)), .int .i64] x)) (fin env Tryz.f150 ⟨[.pair (tZ) (.pair (tZ) (.unit)), .int .i64], .pair (.pair (tZ) (.pair (tZ) (.unit))) (.pair (.bool) (.unit)), true, false⟩) = r02_Pow.en.g x := by kernel_rfl
theorem r02_Pow.ok : EnOk prog r02_Pow.en := by
  refine fun_ok (g := ⟨[.pair (tZ) (.pair (tZ) (.unit)), .int .i64], .pair (.pair (tZ) (.pair (tZ) (.unit))) (.pair (.bool) (.unit)), true, false⟩) (h := r02_Pow.h) (Λ := r02_Pow.L) tabs r02_Pow.os r02_Pow.osB Tryz.func150 (c := r02_Pow.c) (by kernel_rfl) (by decide +kernel) (by decide +kernel) (fun C hC => ?_) (fun x => r02_Pow.hk x)
  exact by
    have e : loops r02_Pow.c r02_Pow.h = [] := by kernel_rfl
    rw [e]
    exact LamOk.nil
def r32_power (t0 : Int) (t1 : Int) : Option ((Bool × List Int × Unit) × (Bool × List Int × Unit) × Unit) :=
  ((r02_Small t0).bind fun y1 =>
  ((r02_Pow y1 t1).bind fun y2 =>
  (some ((y2.1.1.1, (y2.1.1.2.1, ())), ((y2.1.2.1.1, (y2.1.2.1.2.1, ())), ())))))
def r32_power.en : En := ⟨73, [.int .i64, .int .i64], .pair (tZ) (.pair (tZ) (.unit)), false, fun x => r32_power x.1 x.2.1⟩
def r32_power.o : List En := [r02_Small.en, r02_Pow.en]
def r32_power.oB : List EnB := []
def r32_power.h : HT := .n
def r32_power.c : Code := Tryz.f73.body.getD .skip
def r32_power.L : Lam := fun _ i s K => none
theorem r32_power.os : AllOk prog r32_power.o := ⟨r02_Small.ok, r02_Pow.ok, trivial⟩
theorem r32_power.osB : AllBOk prog r32_power.oB := trivial
theorem r32_power.hk (x) : semK env (orc r32_power.o) (orcB r32_power.oB) 15 (r32_power.L _) r32_power.c r32_power.h (S.init (avs [.int .i64, .int .i64] x)) (fin env Tryz.f73 ⟨[.int .i64, .int .i64], .pair (tZ) (.pair (tZ) (.unit)), false, false⟩) = r32_power.en.g x := by kernel_rfl
theorem r32_power.ok : EnOk prog r32_power.en := by
  refine fun_ok (g := ⟨[.int .i64, .int .i64], .pair (tZ) (.pair (tZ) (.unit)), false, false⟩) (h := r32_power.h) (Λ := r32_power.L) tabs r32_power.os r32_power.osB Tryz.func73 (c := r32_power.c) (by kernel_rfl) (by decide +kernel) (by decide +kernel) (fun C hC => ?_) (fun x => r32_power.hk x)
  exact by
    have e : loops r32_power.c r32_power.h = [] := by kernel_rfl
    rw [e]
    exact LamOk.nil
def r31_Div (t0 : (Bool × List Int × Unit) × (Bool × List Int × Unit) × Unit) (t1 : (Bool × List Int × Unit) × (Bool × List Int × Unit) × Unit) : Option ((Bool × List Int × Unit) × (Bool × List Int × Unit) × Unit) :=
  ((r02_Quo ((t0.1.1, (t0.1.2.1, ())), ((t0.2.1.1, (t0.2.1.2.1, ())), ())) ((t1.1.1, (t1.1.2.1, ())), ((t1.2.1.1, (t1.2.1.2.1, ())), ()))).bind fun y1 =>
  (some ((y1.1.1.1, (y1.1.1.2.1, ())), ((y1.1.2.1.1, (y1.1.2.1.2.1, ())), ()))))
def r31_Div.en : En := ⟨199, [.pair (tZ) (.pair (tZ) (.unit)), .pair (tZ) (.pair (tZ) (.unit))], .pair (tZ) (.pair (tZ) (.unit)), false, fun x => r31_Div x.1 x.2.1⟩
def r31_Div.o : List En := [r02_Quo.en]
def r31_Div.oB : List EnB := []
def r31_Div.h : HT := .n
def r31_Div.c : Code := Tryz.f199.body.getD .skip
def r31_Div.L : Lam := fun _ i s K => none
theorem r31_Div.os : AllOk prog r31_Div.o := ⟨r02_Quo.ok, trivial⟩
theorem r31_Div.osB : AllBOk prog r31_Div.oB := trivial
theorem r31_Div.hk (x) : semK env (orc r31_Div.o) (orcB r31_Div.oB) 14 (r31_Div.L _) r31_Div.c r31_Div.h (S.init (avs [.pair (tZ) (.pair (tZ) (.unit)), .pair (tZ) (.pair (tZ) (.unit))] x)) (fin env Tryz.f199 ⟨[.pair (tZ) (.pair (tZ) (.unit)), .pair (tZ) (.pair (tZ) (.unit))], .pair (tZ) (.pair (tZ) (.unit)), false, false⟩) = r31_Div.en.g x := by kernel_rfl
theorem r31_Div.ok : EnOk prog r31_Div.en := by
  refine fun_ok (g := ⟨[.pair (tZ) (.pair (tZ) (.unit)), .pair (tZ) (.pair (tZ) (.unit))], .pair (tZ) (.pair (tZ) (.unit)), false, false⟩) (h := r31_Div.h) (Λ := r31_Div.L) tabs r31_Div.os r31_Div.osB Tryz.func199 (c := r31_Div.c) (by kernel_rfl) (by decide +kernel) (by decide +kernel) (fun C hC => ?_) (fun x => r31_Div.hk x)
  exact by
    have e : loops r31_Div.c r31_Div.h = [] := by kernel_rfl
    rw [e]
    exact LamOk.nil
def r02_Add (t0 : (Bool × List Int × Unit) × (Bool × List Int × Unit) × Unit) (t1 : (Bool × List Int × Unit) × (Bool × List Int × Unit) × Unit) : Option ((Bool × List Int × Unit) × (Bool × List Int × Unit) × Unit) :=
  ((r02_Normalize ((t0.1.1, (t0.1.2.1, ())), ((t0.2.1.1, (t0.2.1.2.1, ())), ()))).bind fun y1 =>
  ((r02_Normalize ((t1.1.1, (t1.1.2.1, ())), ((t1.2.1.1, (t1.2.1.2.1, ())), ()))).bind fun y2 =>
  ((r01_Mul (y1.1.1, (y1.1.2.1, ())) (y2.2.1.1, (y2.2.1.2.1, ()))).bind fun y3 =>
  ((r01_Mul (y2.1.1, (y2.1.2.1, ())) (y1.2.1.1, (y1.2.1.2.1, ()))).bind fun y4 =>
  ((r01_Add y3 y4).bind fun y5 =>
  ((r01_Mul (y1.2.1.1, (y1.2.1.2.1, ())) (y2.2.1.1, (y2.2.1.2.1, ()))).bind fun y6 =>
  ((r02_New y5 y6).bind fun y7 =>
  (some ((y7.1.1.1, (y7.1.1.2.1, ())), ((y7.1.2.1.1, (y7.1.2.1.2.1, ())), ()))))))))))
def r02_Add.en : En := ⟨220, [.pair (tZ) (.pair (tZ) (.unit)), .pair (tZ) (.pair (tZ) (.unit))], .pair (tZ) (.pair (tZ) (.unit)), false, fun x => r02_Add x.1 x.2.1⟩
def r02_Add.o : List En := [r02_New.en, r01_Mul.en, r02_Normalize.en, r01_Add.en]
def r02_Add.oB : List EnB := []
def r02_Add.h : HT := .n
def r02_Add.c : Code := Tryz.f220.body.getD .skip
def r02_Add.L : Lam := fun _ i s K => none
theorem r02_Add.os : AllOk prog r02_Add.o := ⟨r02_New.ok, r01_Mul.ok, r02_Normalize.ok, r01_Add.ok, trivial⟩
theorem r02_Add.osB : AllBOk prog r02_Add.oB := trivial
theorem r02_Add.hk (x) : semK env (orc r02_Add.o) (orcB r02_Add.oB) 34 (r02_Add.L _) r02_Add.c r02_Add.h (S.init (avs [.pair (tZ) (.pair (tZ) (.unit)), .pair (tZ) (.pair (tZ) (.unit))] x)) (fin env Tryz.f220 ⟨[.pair (tZ) (.pair (tZ) (.unit)), .pair (tZ) (.pair (tZ) (.unit))], .pair (tZ) (.pair (tZ) (.unit)), false, false⟩) = r02_Add.en.g x := by kernel_rfl
theorem r02_Add.ok : EnOk prog r02_Add.en := by
  refine fun_ok (g := ⟨[.pair (tZ) (.pair (tZ) (.unit)), .pair (tZ) (.pair (tZ) (.unit))], .pair (tZ) (.pair (tZ) (.unit)), false, false⟩) (h := r02_Add.h) (Λ := r02_Add.L) tabs r02_Add.os r02_Add.osB Tryz.func220 (c := r02_Add.c) (by kernel_rfl) (by decide +kernel) (by decide +kernel) (fun C hC => ?_) (fun x => r02_Add.hk x)
  exact by
    have e : loops r02_Add.c r02_Add.h = [] := by kernel_rfl
    rw [e]
    exact LamOk.nil
def r02_Neg (t0 : (Bool × List Int × Unit) × (Bool × List Int × Unit) × Unit) : Option ((Bool × List Int × Unit) × (Bool × List Int × Unit) × Unit) :=
  ((r02_Normalize ((t0.1.1, (t0.1.2.1, ())), ((t0.2.1.1, (t0.2.1.2.1, ())), ()))).bind fun y1 =>
  ((r01_Neg (y1.1.1, (y1.1.2.1, ()))).bind fun y2 =>
  (some ((y2.1, (y2.2.1, ())), ((y1.2.1.1, (y1.2.1.2.1, ())), ())))))
def r02_Neg.en : En := ⟨233, [.pair (tZ) (.pair (tZ) (.unit))], .pair (tZ) (.pair (tZ) (.unit)), false, fun x => r02_Neg x.1⟩
def r02_Neg.o : List En := [r01_Neg.en, r02_Normalize.en]
def r02_Neg.oB : List EnB := []
def r02_Neg.h : HT := .n
def r02_Neg.c : Code := Tryz.f233.body.getD .skip
def r02_Neg.L : Lam := fun _ i s K => none
theorem r02_Neg.os : AllOk prog r02_Neg.o := ⟨r01_Neg.ok, r02_Normalize.ok, trivial⟩
theorem r02_Neg.osB : AllBOk prog r02_Neg.oB := trivial
theorem r02_Neg.hk (x) : semK env (orc r02_Neg.o) (orcB r02_Neg.oB) 12 (r02_Neg.L _) r02_Neg.c r02_Neg.h (S.init (avs [.pair (tZ) (.pair (tZ) (.unit))] x)) (fin env Tryz.f233 ⟨[.pair (tZ) (.pair (tZ) (.unit))], .pair (tZ) (.pair (tZ) (.unit)), false, false⟩) = r02_Neg.en.g x := by kernel_rfl
theorem r02_Neg.ok : EnOk prog r02_Neg.en := by
  refine fun_ok (g := ⟨[.pair (tZ) (.pair (tZ) (.unit))], .pair (tZ) (.pair (tZ) (.unit)), false, false⟩) (h := r02_Neg.h) (Λ := r02_Neg.L) tabs r02_Neg.os r02_Neg.osB Tryz.func233 (c := r02_Neg.c) (by kernel_rfl) (by decide +kernel) (by decide +kernel) (fun C hC => ?_) (fun x => r02_Neg.hk x)
  exact by
    have e : loops r02_Neg.c r02_Neg.h = [] := by kernel_rfl
    rw [e]
    exact LamOk.nil
def r02_Sub (t0 : (Bool × List Int × Unit) × (Bool × List Int × Unit) × Unit) (t1 : (Bool × List Int × Unit) × (Bool × List Int × Unit) × Unit) : Option ((Bool × List Int × Unit) × (Bool × List Int × Unit) × Unit) :=
  ((r02_Neg ((t1.1.1, (t1.1.2.1, ())), ((t1.2.1.1, (t1.2.1.2.1, ())), ()))).bind fun y1 =>
  ((r02_Add ((t0.1.1, (t0.1.2.1, ())), ((t0.2.1.1, (t0.2.1.2.1, ())), ())) y1).bind fun y2 =>
  (some ((y2.1.1, (y2.1.2.1, ())), ((y2.2.1.1, (y2.2.1.2.1, ())), ())))))
def r02_Sub.en : En := ⟨200, [.pair (tZ) (.pair (tZ) (.unit)), .pair (tZ) (.pair (tZ) (.unit))], .pair (tZ) (.pair (tZ) (.unit)), false, fun x => r02_Sub x.1 x.2.1⟩
def r02_Sub.o : List En := [r02_Add.en, r02_Neg.en]
def r02_Sub.oB : List EnB := []
def r02_Sub.h : HT := .n
def r02_Sub.c : Code := Tryz.f200.body.getD .skip
def r02_Sub.L : Lam := fun _ i s K => none
theorem r02_Sub.os : AllOk prog r02_Sub.o := ⟨r02_Add.ok, r02_Neg.ok, trivial⟩
theorem r02_Sub.osB : AllBOk prog r02_Sub.oB := trivial
theorem r02_Sub.hk (x) : semK env (orc r02_Sub.o) (orcB r02_Sub.oB) 9 (r02_Sub.L _) r02_Sub.c r02_Sub.h (S.init (avs [.pair (tZ) (.pair (tZ) (.unit)), .pair (tZ) (.pair (tZ) (.unit))] x)) (fin env Tryz.f200 ⟨[.pair (tZ) (.pair (tZ) (.unit)), .pair (tZ) (.pair (tZ) (.unit))], .pair (tZ) (.pair (tZ) (.unit)), false, false⟩) = r02_Sub.en.g x := by kernel_rfl
theorem r02_Sub.ok : EnOk prog r02_Sub.en := by
  refine fun_ok (g := ⟨[.pair (tZ) (.pair (tZ) (.unit)), .pair (tZ) (.pair (tZ) (.unit))], .pair (tZ) (.pair (tZ) (.unit)), false, false⟩) (h := r02_Sub.h) (Λ := r02_Sub.L) tabs r02_Sub.os r02_Sub.osB Tryz.func200 (c := r02_Sub.c) (by kernel_rfl) (by decide +kernel) (by decide +kernel) (fun C hC => ?_) (fun x => r02_Sub.hk x)
  exact by
    have e : loops r02_Sub.c r02_Sub.h = [] := by kernel_rfl
    rw [e]
    exact LamOk.nil
def r32_group.j1 (t0 : Int) (t1 : Int) (t6 : Int) (b4_0 : Bool) (b4_1 : List Int) (b4_2 : Bool) (b4_3 : List Int) (b5_0 : Bool) (b5_1 : List Int) (b5_2 : Bool) (b5_3 : List Int) : Option ((Int × Int × Int × ((Bool × List Int × Unit) × (Bool × List Int × Unit) × Unit) × ((Bool × List Int × Unit) × (Bool × List Int × Unit) × Unit) × Unit) ⊕ ((((Bool × List Int × Unit) × (Bool × List Int × Unit) × Unit) × ((Bool × List Int × Unit) × (Bool × List Int × Unit) × Unit) × Unit))) :=
  ((r02_Small (1 : Int)).bind fun y2 =>
  ((r32_power t0 (IntKind.wrap .i64 ((-2 : Int) * t6))).bind fun y3 =>
  ((r02_Sub y2 y3).bind fun y4 =>
  ((r31_Div ((b5_0, (b5_1, ())), ((b5_2, (b5_3, ())), ())) y4).bind fun y5 =>
  (some (.inl (t0, t1, (IntKind.wrap .i64 (t6 + (1 : Int))), ((b4_0, (b4_1, ())), ((b4_2, (b4_3, ())), ())), ((y5.1.1, (y5.1.2.1, ())), ((y5.2.1.1, (y5.2.1.2.1, ())), ())), ())))))))
def r32_group.s0 (t0 : Int) (t1 : Int) (t6 : Int) (b4 : (Bool × List Int × Unit) × (Bool × List Int × Unit) × Unit) (b5 : (Bool × List Int × Unit) × (Bool × List Int × Unit) × Unit) : Option ((Int × Int × Int × ((Bool × List Int × Unit) × (Bool × List Int × Unit) × Unit) × ((Bool × List Int × Unit) × (Bool × List Int × Unit) × Unit) × Unit) ⊕ ((((Bool × List Int × Unit) × (Bool × List Int × Unit) × Unit) × ((Bool × List Int × Unit) × (Bool × List Int × Unit) × Unit) × Unit))) :=
  (cond ((decide (t6 < t1)))
  ((r32_group.j1 t0 t1 t6 b4.1.1 b4.1.2.1 b4.2.1.1 b4.2.1.2.1 b5.1.1 b5.1.2.1 b5.2.1.1 b5.2.1.2.1))
  ((some (.inr (((b4.1.1, (b4.1.2.1, ())), ((b4.2.1.1, (b4.2.1.2.1, ())), ())), ((b5.1.1, (b5.1.2.1, ())), ((b5.2.1.1, (b5.2.1.2.1, ())), ())), ())))))
def r32_group.k0 (b4 : (Bool × List Int × Unit) × (Bool × List Int × Unit) × Unit) (b5 : (Bool × List Int × Unit) × (Bool × List Int × Unit) × Unit) : Option ((Bool × List Int × Unit) × (Bool × List Int × Unit) × Unit) :=
  (some ((b5.1.1, (b5.1.2.1, ())), ((b5.2.1.1, (b5.2.1.2.1, ())), ())))
def r32_group (t0 : Int) (t1 : Int) : Option ((Bool × List Int × Unit) × (Bool × List Int × Unit) × Unit) :=
  ((r31_Ratio (1 : Int) (2 : Int)).bind fun y1 =>
  ((iterL (fun x : Int × Int × Int × ((Bool × List Int × Unit) × (Bool × List Int × Unit) × Unit) × ((Bool × List Int × Unit) × (Bool × List Int × Unit) × Unit) × Unit => r32_group.s0 x.1 x.2.1 x.2.2.1 x.2.2.2.1 x.2.2.2.2.1) (t0, t1, (1 : Int), ((false, (([] : List Int), ())), ((false, (([] : List Int), ())), ())), ((y1.1.1, (y1.1.2.1, ())), ((y1.2.1.1, (y1.2.1.2.1, ())), ())), ())).bind fun y => r32_group.k0 y.1 y.2.1))
def r32_group.en : En := ⟨141, [.int .i64, .int .i64], .pair (tZ) (.pair (tZ) (.unit)), false, fun x => r32_group x.1 x.2.1⟩
def r32_group.o : List En := [r31_Ratio.en, r32_power.en, r02_Small.en, r31_Div.en, r02_Sub.en]
def r32_group.oB : List EnB := []
def r32_group.h : HT := .two (.n) (.two (.n) (.two (.two (.n) (.lp 0)) (.n)))
def r32_group.c : Code := Tryz.f141.body.getD .skip
def r32_group.h0 : HT := .n
def r32_group.c0 : Code := (find (loops r32_group.c r32_group.h) 0).getD .skip
def r32_group.d0 : Fm := [.v 0 (.int .i64), .v 1 (.int .i64), .v 6 (.int .i64), .box 4 (.pair (tZ) (.pair (tZ) (.unit))), .box 5 (.pair (tZ) (.pair (tZ) (.unit))), .ptr 4 4, .ptr 5 5]
def r32_group.x0 : Xs := [(.exit 0, [.box 4 (.pair (tZ) (.pair (tZ) (.unit))), .box 5 (.pair (tZ) (.pair (tZ) (.unit))), .ptr 4 4, .ptr 5 5])]
def r32_group.r0 (x : (Fm.ty r32_group.d0).den) : Option ((Fm.ty r32_group.d0).den ⊕ (Xs.T r32_group.x0)) := r32_group.s0 x.1 x.2.1 x.2.2.1 x.2.2.2.1 x.2.2.2.2.1
def r32_group.L : Lam := fun _ i s K => cond (Nat.beq i 0) (lamK r32_group.d0 r32_group.x0 r32_group.r0 s K) (none)
theorem r32_group.hf0 (x) : roundK env (orc r32_group.o) (orcB r32_group.oB) 22 r32_group.L r32_group.c0 r32_group.h0 r32_group.d0 r32_group.x0 x = r32_group.r0 x := by kernel_rfl
theorem r32_group.os : AllOk prog r32_group.o := ⟨r31_Ratio.ok, r32_power.ok, r02_Small.ok, r31_Div.ok, r02_Sub.ok, trivial⟩
theorem r32_group.osB : AllBOk prog r32_group.oB := trivial
theorem r32_group.l0 {C : Ctx} (hC : C.n = 22) : LamAt prog C r32_group.L 0 r32_group.c0 := by
  intro R s K r hk
  refine loop_ok (D := r32_group.d0) (X := r32_group.x0) (h := r32_group.h0) (f := r32_group.r0) tabs (orc_ok _ r32_group.os) (orcB_ok _ r32_group.osB) (fun x => by rw [hC]; exact r32_group.hf0 x) (Λ := r32_group.L) ?_ (by kernel_rfl) (by kernel_rfl) (K := K) (s := s) (by exact hk)
  exact by
    have e : loops r32_group.c0 r32_group.h0 = [] := by kernel_rfl
    rw [e]
    exact LamOk.nil
theorem r32_group.hk (x) : semK env (orc r32_group.o) (orcB r32_group.oB) 22 (r32_group.L _) r32_group.c r32_group.h (S.init (avs [.int .i64, .int .i64] x)) (fin env Tryz.f141 ⟨[.int .i64, .int .i64], .pair (tZ) (.pair (tZ) (.unit)), false, false⟩) = r32_group.en.g x := by kernel_rfl
theorem r32_group.ok : EnOk prog r32_group.en := by
  refine fun_ok (g := ⟨[.int .i64, .int .i64], .pair (tZ) (.pair (tZ) (.unit)), false, false⟩) (h := r32_group.h) (Λ := r32_group.L) tabs r32_group.os r32_group.osB Tryz.func141 (c := r32_group.c) (by kernel_rfl) (by decide +kernel) (by decide +kernel) (fun C hC => ?_) (fun x => r32_group.hk x)
  exact by
    have e : loops r32_group.c r32_group.h = [(0, r32_group.c0)] := by kernel_rfl
    rw [e]
    exact LamOk.cons (r32_group.l0 hC) (LamOk.nil)
def r02_Mul (t0 : (Bool × List Int × Unit) × (Bool × List Int × Unit) × Unit) (t1 : (Bool × List Int × Unit) × (Bool × List Int × Unit) × Unit) : Option ((Bool × List Int × Unit) × (Bool × List Int × Unit) × Unit) :=
  ((r02_Normalize ((t0.1.1, (t0.1.2.1, ())), ((t0.2.1.1, (t0.2.1.2.1, ())), ()))).bind fun y1 =>
  ((r02_Normalize ((t1.1.1, (t1.1.2.1, ())), ((t1.2.1.1, (t1.2.1.2.1, ())), ()))).bind fun y2 =>
  ((r01_Mul (y1.1.1, (y1.1.2.1, ())) (y2.1.1, (y2.1.2.1, ()))).bind fun y3 =>
  ((r01_Mul (y1.2.1.1, (y1.2.1.2.1, ())) (y2.2.1.1, (y2.2.1.2.1, ()))).bind fun y4 =>
  ((r02_New y3 y4).bind fun y5 =>
  (some ((y5.1.1.1, (y5.1.1.2.1, ())), ((y5.1.2.1.1, (y5.1.2.1.2.1, ())), ()))))))))
def r02_Mul.en : En := ⟨75, [.pair (tZ) (.pair (tZ) (.unit)), .pair (tZ) (.pair (tZ) (.unit))], .pair (tZ) (.pair (tZ) (.unit)), false, fun x => r02_Mul x.1 x.2.1⟩
def r02_Mul.o : List En := [r02_New.en, r01_Mul.en, r02_Normalize.en]
def r02_Mul.oB : List EnB := []
def r02_Mul.h : HT := .n
def r02_Mul.c : Code := Tryz.f75.body.getD .skip
def r02_Mul.L : Lam := fun _ i s K => none
theorem r02_Mul.os : AllOk prog r02_Mul.o := ⟨r02_New.ok, r01_Mul.ok, r02_Normalize.ok, trivial⟩
theorem r02_Mul.osB : AllBOk prog r02_Mul.oB := trivial
theorem r02_Mul.hk (x) : semK env (orc r02_Mul.o) (orcB r02_Mul.oB) 28 (r02_Mul.L _) r02_Mul.c r02_Mul.h (S.init (avs [.pair (tZ) (.pair (tZ) (.unit)), .pair (tZ) (.pair (tZ) (.unit))] x)) (fin env Tryz.f75 ⟨[.pair (tZ) (.pair (tZ) (.unit)), .pair (tZ) (.pair (tZ) (.unit))], .pair (tZ) (.pair (tZ) (.unit)), false, false⟩) = r02_Mul.en.g x := by kernel_rfl
theorem r02_Mul.ok : EnOk prog r02_Mul.en := by
  refine fun_ok (g := ⟨[.pair (tZ) (.pair (tZ) (.unit)), .pair (tZ) (.pair (tZ) (.unit))], .pair (tZ) (.pair (tZ) (.unit)), false, false⟩) (h := r02_Mul.h) (Λ := r02_Mul.L) tabs r02_Mul.os r02_Mul.osB Tryz.func75 (c := r02_Mul.c) (by kernel_rfl) (by decide +kernel) (by decide +kernel) (fun C hC => ?_) (fun x => r02_Mul.hk x)
  exact by
    have e : loops r02_Mul.c r02_Mul.h = [] := by kernel_rfl
    rw [e]
    exact LamOk.nil
def r32_signed (t0 : (Bool × List Int × Unit) × (Bool × List Int × Unit) × Unit) (t1 : Int) (t2 : Int) (t3 : Int) : Option ((Bool × List Int × Unit) × (Bool × List Int × Unit) × Unit) :=
  ((r02_Small (1 : Int)).bind fun y1 =>
  ((r02_Small t2).bind fun y2 =>
  ((r32_power t1 (IntKind.wrap .i64 (0 - t3))).bind fun y3 =>
  ((r02_Mul y2 y3).bind fun y4 =>
  ((r02_Sub y1 y4).bind fun y5 =>
  ((r31_Div ((t0.1.1, (t0.1.2.1, ())), ((t0.2.1.1, (t0.2.1.2.1, ())), ())) y5).bind fun y6 =>
  (some ((y6.1.1, (y6.1.2.1, ())), ((y6.2.1.1, (y6.2.1.2.1, ())), ())))))))))
def r32_signed.en : En := ⟨142, [.pair (tZ) (.pair (tZ) (.unit)), .int .i64, .int .i64, .int .i64], .pair (tZ) (.pair (tZ) (.unit)), false, fun x => r32_signed x.1 x.2.1 x.2.2.1 x.2.2.2.1⟩
def r32_signed.o : List En := [r32_power.en, r02_Mul.en, r02_Small.en, r31_Div.en, r02_Sub.en]
def r32_signed.oB : List EnB := []
def r32_signed.h : HT := .n
def r32_signed.c : Code := Tryz.f142.body.getD .skip
def r32_signed.L : Lam := fun _ i s K => none
theorem r32_signed.os : AllOk prog r32_signed.o := ⟨r32_power.ok, r02_Mul.ok, r02_Small.ok, r31_Div.ok, r02_Sub.ok, trivial⟩
theorem r32_signed.osB : AllBOk prog r32_signed.oB := trivial
theorem r32_signed.hk (x) : semK env (orc r32_signed.o) (orcB r32_signed.oB) 20 (r32_signed.L _) r32_signed.c r32_signed.h (S.init (avs [.pair (tZ) (.pair (tZ) (.unit)), .int .i64, .int .i64, .int .i64] x)) (fin env Tryz.f142 ⟨[.pair (tZ) (.pair (tZ) (.unit)), .int .i64, .int .i64, .int .i64], .pair (tZ) (.pair (tZ) (.unit)), false, false⟩) = r32_signed.en.g x := by kernel_rfl
theorem r32_signed.ok : EnOk prog r32_signed.en := by
  refine fun_ok (g := ⟨[.pair (tZ) (.pair (tZ) (.unit)), .int .i64, .int .i64, .int .i64], .pair (tZ) (.pair (tZ) (.unit)), false, false⟩) (h := r32_signed.h) (Λ := r32_signed.L) tabs r32_signed.os r32_signed.osB Tryz.func142 (c := r32_signed.c) (by kernel_rfl) (by decide +kernel) (by decide +kernel) (fun C hC => ?_) (fun x => r32_signed.hk x)
  exact by
    have e : loops r32_signed.c r32_signed.h = [] := by kernel_rfl
    rw [e]
    exact LamOk.nil
def r32_factor.j2 (t0 : Int) (b3_0 : Int) (b3_1 : Int) (b4_1 : List Int) (b4_3 : List Int) : Option ((Bool × List Int × Unit) × (Bool × List Int × Unit) × Unit) :=
  ((r32_group t0 (IntKind.wrap .i64 (Int.tdiv b3_0 (2 : Int)))).bind fun y5 =>
  ((r32_signed y5 t0 b3_1 (IntKind.wrap .i64 (Int.tdiv b3_0 (2 : Int)))).bind fun y7 =>
  (some ((y7.1.1, (y7.1.2.1, ())), ((y7.2.1.1, (y7.2.1.2.1, ())), ())))))
def r32_factor.j1 (t0 : Int) (b3_0 : Int) (b3_1 : Int) (b4_1 : List Int) (b4_3 : List Int) : Option ((Bool × List Int × Unit) × (Bool × List Int × Unit) × Unit) :=
  (r32_factor.j2 t0 b3_0 b3_1 b4_1 b4_3)
def r32_factor (t0 : Int) (t1 : Int × Int × Unit) : Option ((Bool × List Int × Unit) × (Bool × List Int × Unit) × Unit) :=
  (cond ((t1.1 == (0 : Int)))
  (((r02_Small (1 : Int)).bind fun y1 =>
  (some ((y1.1.1, (y1.1.2.1, ())), ((y1.2.1.1, (y1.2.1.2.1, ())), ())))))
  ((cond (((Int.tmod t1.1 (2 : Int)) == (1 : Int)))
  (((r32_group t0 (IntKind.wrap .i64 (Int.tdiv (IntKind.wrap .i64 (t1.1 + (1 : Int))) (2 : Int)))).bind fun y3 =>
  (some ((y3.1.1, (y3.1.2.1, ())), ((y3.2.1.1, (y3.2.1.2.1, ())), ())))))
  ((r32_factor.j1 t0 t1.1 t1.2.1 ([] : List Int) ([] : List Int))))))
def r32_factor.en : En := ⟨67, [.int .i64, .pair (.int .i64) (.pair (.int .i64) (.unit))], .pair (tZ) (.pair (tZ) (.unit)), false, fun x => r32_factor x.1 x.2.1⟩
def r32_factor.o : List En := [r02_Small.en, r32_group.en, r32_signed.en]
def r32_factor.oB : List EnB := []
def r32_factor.h : HT := .n
def r32_factor.c : Code := Tryz.f67.body.getD .skip
def r32_factor.L : Lam := fun _ i s K => none
theorem r32_factor.os : AllOk prog r32_factor.o := ⟨r02_Small.ok, r32_group.ok, r32_signed.ok, trivial⟩
theorem r32_factor.osB : AllBOk prog r32_factor.oB := trivial
theorem r32_factor.hk (x) : semK env (orc r32_factor.o) (orcB r32_factor.oB) 33 (r32_factor.L _) r32_factor.c r32_factor.h (S.init (avs [.int .i64, .pair (.int .i64) (.pair (.int .i64) (.unit))] x)) (fin env Tryz.f67 ⟨[.int .i64, .pair (.int .i64) (.pair (.int .i64) (.unit))], .pair (tZ) (.pair (tZ) (.unit)), false, false⟩) = r32_factor.en.g x := by kernel_rfl
theorem r32_factor.ok : EnOk prog r32_factor.en := by
  refine fun_ok (g := ⟨[.int .i64, .pair (.int .i64) (.pair (.int .i64) (.unit))], .pair (tZ) (.pair (tZ) (.unit)), false, false⟩) (h := r32_factor.h) (Λ := r32_factor.L) tabs r32_factor.os r32_factor.osB Tryz.func67 (c := r32_factor.c) (by kernel_rfl) (by decide +kernel) (by decide +kernel) (fun C hC => ?_) (fun x => r32_factor.hk x)
  exact by
    have e : loops r32_factor.c r32_factor.h = [] := by kernel_rfl
    rw [e]
    exact LamOk.nil
def r32_Diagonal.j2 (t0 : Int) (b3_0 : Int) (b3_1 : Int) (b4_1 : List Int) (b4_3 : List Int) : Option (((Bool × List Int × Unit) × (Bool × List Int × Unit) × Unit) × Int × Unit) :=
  ((r32_factor t0 (b3_0, (b3_1, ()))).bind fun y2 =>
  (some (((y2.1.1, (y2.1.2.1, ())), ((y2.2.1.1, (y2.2.1.2.1, ())), ())), ((0 : Int), ()))))
def r32_Diagonal.j1 (t0 : Int) (b3_0 : Int) (b3_1 : Int) (b4_1 : List Int) (b4_3 : List Int) : Option (((Bool × List Int × Unit) × (Bool × List Int × Unit) × Unit) × Int × Unit) :=
  (cond ((decide (b3_0 < (0 : Int))))
  ((some (((false, (([] : List Int), ())), ((false, (([] : List Int), ())), ())), ((1 : Int), ()))))
  ((cond ((decide (b3_0 > (9 : Int))))
  ((some (((false, (([] : List Int), ())), ((false, (([] : List Int), ())), ())), ((1 : Int), ()))))
  ((cond (((Int.tmod b3_0 (2 : Int)) == (1 : Int)))
  ((cond ((b3_1 != (0 : Int)))
  ((some (((false, (([] : List Int), ())), ((false, (([] : List Int), ())), ())), ((1 : Int), ()))))
  ((cond (((Int.tmod b3_0 (2 : Int)) == (0 : Int)))
  ((cond ((b3_1 != (1 : Int)))
  ((cond ((b3_1 != (-1 : Int)))
  ((some (((false, (([] : List Int), ())), ((false, (([] : List Int), ())), ())), ((1 : Int), ()))))
  ((cond ((b3_0 == (0 : Int)))
  ((cond ((b3_1 == (-1 : Int)))
  ((some (((false, (([] : List Int), ())), ((false, (([] : List Int), ())), ())), ((1 : Int), ()))))
  ((r32_Diagonal.j2 t0 b3_0 b3_1 b4_1 b4_3))))
  (((r32_factor t0 (b3_0, (b3_1, ()))).bind fun y3 =>
  (some (((y3.1.1, (y3.1.2.1, ())), ((y3.2.1.1, (y3.2.1.2.1, ())), ())), ((0 : Int), ())))))))))
  ((cond ((b3_0 == (0 : Int)))
  ((cond ((b3_1 == (-1 : Int)))
  ((some (((false, (([] : List Int), ())), ((false, (([] : List Int), ())), ())), ((1 : Int), ()))))
  ((r32_Diagonal.j2 t0 b3_0 b3_1 b4_1 b4_3))))
  (((r32_factor t0 (b3_0, (b3_1, ()))).bind fun y4 =>
  (some (((y4.1.1, (y4.1.2.1, ())), ((y4.2.1.1, (y4.2.1.2.1, ())), ())), ((0 : Int), ())))))))))
  ((cond ((b3_0 == (0 : Int)))
  ((cond ((b3_1 == (-1 : Int)))
  ((some (((false, (([] : List Int), ())), ((false, (([] : List Int), ())), ())), ((1 : Int), ()))))
  ((r32_Diagonal.j2 t0 b3_0 b3_1 b4_1 b4_3))))
  (((r32_factor t0 (b3_0, (b3_1, ()))).bind fun y5 =>
  (some (((y5.1.1, (y5.1.2.1, ())), ((y5.2.1.1, (y5.2.1.2.1, ())), ())), ((0 : Int), ())))))))))))
  ((cond (((Int.tmod b3_0 (2 : Int)) == (0 : Int)))
  ((cond ((b3_1 != (1 : Int)))
  ((cond ((b3_1 != (-1 : Int)))
  ((some (((false, (([] : List Int), ())), ((false, (([] : List Int), ())), ())), ((1 : Int), ()))))
  ((cond ((b3_0 == (0 : Int)))
  ((cond ((b3_1 == (-1 : Int)))
  ((some (((false, (([] : List Int), ())), ((false, (([] : List Int), ())), ())), ((1 : Int), ()))))
  ((r32_Diagonal.j2 t0 b3_0 b3_1 b4_1 b4_3))))
  (((r32_factor t0 (b3_0, (b3_1, ()))).bind fun y6 =>
  (some (((y6.1.1, (y6.1.2.1, ())), ((y6.2.1.1, (y6.2.1.2.1, ())), ())), ((0 : Int), ())))))))))
  ((cond ((b3_0 == (0 : Int)))
  ((cond ((b3_1 == (-1 : Int)))
  ((some (((false, (([] : List Int), ())), ((false, (([] : List Int), ())), ())), ((1 : Int), ()))))
  ((r32_Diagonal.j2 t0 b3_0 b3_1 b4_1 b4_3))))
  (((r32_factor t0 (b3_0, (b3_1, ()))).bind fun y7 =>
  (some (((y7.1.1, (y7.1.2.1, ())), ((y7.2.1.1, (y7.2.1.2.1, ())), ())), ((0 : Int), ())))))))))
  ((cond ((b3_0 == (0 : Int)))
  ((cond ((b3_1 == (-1 : Int)))
  ((some (((false, (([] : List Int), ())), ((false, (([] : List Int), ())), ())), ((1 : Int), ()))))
  ((r32_Diagonal.j2 t0 b3_0 b3_1 b4_1 b4_3))))
  (((r32_factor t0 (b3_0, (b3_1, ()))).bind fun y8 =>
  (some (((y8.1.1, (y8.1.2.1, ())), ((y8.2.1.1, (y8.2.1.2.1, ())), ())), ((0 : Int), ()))))))))))))))
def r32_Diagonal (t0 : Int) (t1 : Int × Int × Unit) : Option (((Bool × List Int × Unit) × (Bool × List Int × Unit) × Unit) × Int × Unit) :=
  ((r24_Small t0).bind fun y1 =>
  (cond ((!y1))
  ((some (((false, (([] : List Int), ())), ((false, (([] : List Int), ())), ())), ((20 : Int), ()))))
  ((r32_Diagonal.j1 t0 t1.1 t1.2.1 ([] : List Int) ([] : List Int)))))
def r32_Diagonal.en : En := ⟨26, [.int .i64, .pair (.int .i64) (.pair (.int .i64) (.unit))], .pair (.pair (tZ) (.pair (tZ) (.unit))) (.pair (.int .i64) (.unit)), true, fun x => r32_Diagonal x.1 x.2.1⟩
def r32_Diagonal.o : List En := [r24_Small.en, r32_factor.en]
def r32_Diagonal.oB : List EnB := []
def r32_Diagonal.h : HT := .n
def r32_Diagonal.c : Code := Tryz.f26.body.getD .skip
def r32_Diagonal.L : Lam := fun _ i s K => none
theorem r32_Diagonal.os : AllOk prog r32_Diagonal.o := ⟨r24_Small.ok, r32_factor.ok, trivial⟩
theorem r32_Diagonal.osB : AllBOk prog r32_Diagonal.oB := trivial
theorem r32_Diagonal.hk (x) : semK env (orc r32_Diagonal.o) (orcB r32_Diagonal.oB) 59 (r32_Diagonal.L _) r32_Diagonal.c r32_Diagonal.h (S.init (avs [.int .i64, .pair (.int .i64) (.pair (.int .i64) (.unit))] x)) (fin env Tryz.f26 ⟨[.int .i64, .pair (.int .i64) (.pair (.int .i64) (.unit))], .pair (.pair (tZ) (.pair (tZ) (.unit))) (.pair (.int .i64) (.unit)), true, false⟩) = r32_Diagonal.en.g x := by kernel_rfl
theorem r32_Diagonal.ok : EnOk prog r32_Diagonal.en := by
  refine fun_ok (g := ⟨[.int .i64, .pair (.int .i64) (.pair (.int .i64) (.unit))], .pair (.pair (tZ) (.pair (tZ) (.unit))) (.pair (.int .i64) (.unit)), true, false⟩) (h := r32_Diagonal.h) (Λ := r32_Diagonal.L) tabs r32_Diagonal.os r32_Diagonal.osB Tryz.func26 (c := r32_Diagonal.c) (by kernel_rfl) (by decide +kernel) (by decide +kernel) (fun C hC => ?_) (fun x => r32_Diagonal.hk x)
  exact by
    have e : loops r32_Diagonal.c r32_Diagonal.h = [] := by kernel_rfl
    rw [e]
    exact LamOk.nil
def r01_Same (t0 : Bool × List Int × Unit) (t1 : Bool × List Int × Unit) : Option (Bool) :=
  (cond ((t0.1 == t1.1))
  ((cond ((((List.length t0.2.1 : Nat) : Int) == ((List.length t1.2.1 : Nat) : Int)))
  (((r01_cmp t0.2.1 t1.2.1).bind fun y2 =>
  (some (y2 == (0 : Int)))))
  ((some false))))
  ((some false)))
def r01_Same.en : En := ⟨68, [tZ, tZ], .bool, false, fun x => r01_Same x.1 x.2.1⟩
def r01_Same.o : List En := [r01_cmp.en]
def r01_Same.oB : List EnB := []
def r01_Same.h : HT := .n
def r01_Same.c : Code := Tryz.f68.body.getD .skip
def r01_Same.L : Lam := fun _ i s K => none
theorem r01_Same.os : AllOk prog r01_Same.o := ⟨r01_cmp.ok, trivial⟩
theorem r01_Same.osB : AllBOk prog r01_Same.oB := trivial
theorem r01_Same.hk (x) : semK env (orc r01_Same.o) (orcB r01_Same.oB) 27 (r01_Same.L _) r01_Same.c r01_Same.h (S.init (avs [tZ, tZ] x)) (fin env Tryz.f68 ⟨[tZ, tZ], .bool, false, false⟩) = r01_Same.en.g x := by kernel_rfl
theorem r01_Same.ok : EnOk prog r01_Same.en := by
  refine fun_ok (g := ⟨[tZ, tZ], .bool, false, false⟩) (h := r01_Same.h) (Λ := r01_Same.L) tabs r01_Same.os r01_Same.osB Tryz.func68 (c := r01_Same.c) (by kernel_rfl) (by decide +kernel) (by decide +kernel) (fun C hC => ?_) (fun x => r01_Same.hk x)
  exact by
    have e : loops r01_Same.c r01_Same.h = [] := by kernel_rfl
    rw [e]
    exact LamOk.nil
def r02_Same (t0 : (Bool × List Int × Unit) × (Bool × List Int × Unit) × Unit) (t1 : (Bool × List Int × Unit) × (Bool × List Int × Unit) × Unit) : Option (Bool) :=
  ((r01_Same (t0.1.1, (t0.1.2.1, ())) (t1.1.1, (t1.1.2.1, ()))).bind fun y1 =>
  (cond (y1)
  (((r01_Same (t0.2.1.1, (t0.2.1.2.1, ())) (t1.2.1.1, (t1.2.1.2.1, ()))).bind fun y2 =>
  (some y2)))
  ((some false))))
def r02_Same.en : En := ⟨27, [.pair (tZ) (.pair (tZ) (.unit)), .pair (tZ) (.pair (tZ) (.unit))], .bool, false, fun x => r02_Same x.1 x.2.1⟩
def r02_Same.o : List En := [r01_Same.en]
def r02_Same.oB : List EnB := []
def r02_Same.h : HT := .n
def r02_Same.c : Code := Tryz.f27.body.getD .skip
def r02_Same.L : Lam := fun _ i s K => none
theorem r02_Same.os : AllOk prog r02_Same.o := ⟨r01_Same.ok, trivial⟩
theorem r02_Same.osB : AllBOk prog r02_Same.oB := trivial
theorem r02_Same.hk (x) : semK env (orc r02_Same.o) (orcB r02_Same.oB) 17 (r02_Same.L _) r02_Same.c r02_Same.h (S.init (avs [.pair (tZ) (.pair (tZ) (.unit)), .pair (tZ) (.pair (tZ) (.unit))] x)) (fin env Tryz.f27 ⟨[.pair (tZ) (.pair (tZ) (.unit)), .pair (tZ) (.pair (tZ) (.unit))], .bool, false, false⟩) = r02_Same.en.g x := by kernel_rfl
theorem r02_Same.ok : EnOk prog r02_Same.en := by
  refine fun_ok (g := ⟨[.pair (tZ) (.pair (tZ) (.unit)), .pair (tZ) (.pair (tZ) (.unit))], .bool, false, false⟩) (h := r02_Same.h) (Λ := r02_Same.L) tabs r02_Same.os r02_Same.osB Tryz.func27 (c := r02_Same.c) (by kernel_rfl) (by decide +kernel) (by decide +kernel) (fun C hC => ?_) (fun x => r02_Same.hk x)
  exact by
    have e : loops r02_Same.c r02_Same.h = [] := by kernel_rfl
    rw [e]
    exact LamOk.nil
def quadformlaw32_LocalmassDiagonal.j2 (t15 : Int) (b9_0 : Int) (b9_1 : Int) : Option (Bool) :=
  ((localmass_Diagonal t15 (b9_0, (b9_1, ()))).bind fun y4 =>
  ((r32_Diagonal t15 (b9_0, (b9_1, ()))).bind fun y5 =>
  (cond ((y4.2.1 == y5.2.1))
  (((r02_Same ((y4.1.1.1, (y4.1.1.2.1, ())), ((y4.1.2.1.1, (y4.1.2.1.2.1, ())), ())) ((y5.1.1.1, (y5.1.1.2.1, ())), ((y5.1.2.1.1, (y5.1.2.1.2.1, ())), ()))).bind fun y6 =>
  (cond (y6)
  (((quadformlaw32_awake).bind fun y7 =>
  (some y7)))
  ((some false)))))
  ((some false)))))
def quadformlaw32_LocalmassDiagonal.j1 (t3 : Int) (t4 : Int) (t6 : Bool) (t15 : Int) (b9_0 : Int) (b9_1 : Int) : Option (Bool) :=
  (cond (t6)
  ((quadformlaw32_LocalmassDiagonal.j2 t15 (Int.tmod (IntKind.wrap .i64 t3) (12 : Int)) (IntKind.wrap .i64 ((Int.tmod (IntKind.wrap .i64 t4) (3 : Int)) - (1 : Int)))))
  ((quadformlaw32_LocalmassDiagonal.j2 t15 b9_0 b9_1)))
def quadformlaw32_LocalmassDiagonal (t0 : Int) (t1 : Int) (t2 : Int × Int × Unit) (t3 : Int) (t4 : Int) (t5 : Bool) (t6 : Bool) : Option (Bool) :=
  ((quadformscene_Prime t0).bind fun y1 =>
  (cond (t5)
  ((quadformlaw32_LocalmassDiagonal.j1 t3 t4 t6 t1 t2.1 t2.2.1))
  ((quadformlaw32_LocalmassDiagonal.j1 t3 t4 t6 y1 t2.1 t2.2.1))))
def quadformlaw32_LocalmassDiagonal.en : En := ⟨5, [.int .u8, .int .i64, .pair (.int .i64) (.pair (.int .i64) (.unit)), .int .u8, .int .u8, .bool, .bool], .bool, false, fun x => quadformlaw32_LocalmassDiagonal x.1 x.2.1 x.2.2.1 x.2.2.2.1 x.2.2.2.2.1 x.2.2.2.2.2.1 x.2.2.2.2.2.2.1⟩
def quadformlaw32_LocalmassDiagonal.o : List En := [quadformlaw32_awake.en, quadformscene_Prime.en, localmass_Diagonal.en, r32_Diagonal.en, r02_Same.en]
def quadformlaw32_LocalmassDiagonal.oB : List EnB := []
def quadformlaw32_LocalmassDiagonal.h : HT := .n
def quadformlaw32_LocalmassDiagonal.c : Code := Tryz.f5.body.getD .skip
def quadformlaw32_LocalmassDiagonal.L : Lam := fun _ i s K => none
theorem quadformlaw32_LocalmassDiagonal.os : AllOk prog quadformlaw32_LocalmassDiagonal.o := ⟨quadformlaw32_awake.ok, quadformscene_Prime.ok, localmass_Diagonal.ok, r32_Diagonal.ok, r02_Same.ok, trivial⟩
theorem quadformlaw32_LocalmassDiagonal.osB : AllBOk prog quadformlaw32_LocalmassDiagonal.oB := trivial
theorem quadformlaw32_LocalmassDiagonal.hk (x) : semK env (orc quadformlaw32_LocalmassDiagonal.o) (orcB quadformlaw32_LocalmassDiagonal.oB) 56 (quadformlaw32_LocalmassDiagonal.L _) quadformlaw32_LocalmassDiagonal.c quadformlaw32_LocalmassDiagonal.h (S.init (avs [.int .u8, .int .i64, .pair (.int .i64) (.pair (.int .i64) (.unit)), .int .u8, .int .u8, .bool, .bool] x)) (fin env Tryz.f5 ⟨[.int .u8, .int .i64, .pair (.int .i64) (.pair (.int .i64) (.unit)), .int .u8, .int .u8, .bool, .bool], .bool, false, false⟩) = quadformlaw32_LocalmassDiagonal.en.g x := by kernel_rfl
theorem quadformlaw32_LocalmassDiagonal.ok : EnOk prog quadformlaw32_LocalmassDiagonal.en := by
  refine fun_ok (g := ⟨[.int .u8, .int .i64, .pair (.int .i64) (.pair (.int .i64) (.unit)), .int .u8, .int .u8, .bool, .bool], .bool, false, false⟩) (h := quadformlaw32_LocalmassDiagonal.h) (Λ := quadformlaw32_LocalmassDiagonal.L) tabs quadformlaw32_LocalmassDiagonal.os quadformlaw32_LocalmassDiagonal.osB Tryz.func5 (c := quadformlaw32_LocalmassDiagonal.c) (by kernel_rfl) (by decide +kernel) (by decide +kernel) (fun C hC => ?_) (fun x => quadformlaw32_LocalmassDiagonal.hk x)
  exact by
    have e : loops quadformlaw32_LocalmassDiagonal.c quadformlaw32_LocalmassDiagonal.h = [] := by kernel_rfl
    rw [e]
    exact LamOk.nil
def r22_Mod.j1 (t5 : Int) : Option (Int) :=
  (some t5)
def r22_Mod (t0 : Int) (t1 : Int) : Option (Int) :=
  (cond (decide (t1 = 0))
  none
  ((cond ((decide ((Int.tmod t0 t1) < (0 : Int))))
  ((r22_Mod.j1 (IntKind.wrap .i64 ((Int.tmod t0 t1) + t1))))
  ((r22_Mod.j1 (Int.tmod t0 t1))))))
def r22_Mod.en : En := ⟨190, [.int .i64, .int .i64], .int .i64, false, fun x => r22_Mod x.1 x.2.1⟩
def r22_Mod.o : List En := []
def r22_Mod.oB : List EnB := []
def r22_Mod.h : HT := .n
def r22_Mod.c : Code := Tryz.f190.body.getD .skip
def r22_Mod.L : Lam := fun _ i s K => none
theorem r22_Mod.os : AllOk prog r22_Mod.o := trivial
theorem r22_Mod.osB : AllBOk prog r22_Mod.oB := trivial
theorem r22_Mod.hk (x) : semK env (orc r22_Mod.o) (orcB r22_Mod.oB) 15 (r22_Mod.L _) r22_Mod.c r22_Mod.h (S.init (avs [.int .i64, .int .i64] x)) (fin env Tryz.f190 ⟨[.int .i64, .int .i64], .int .i64, false, false⟩) = r22_Mod.en.g x := by kernel_rfl
theorem r22_Mod.ok : EnOk prog r22_Mod.en := by
  refine fun_ok (g := ⟨[.int .i64, .int .i64], .int .i64, false, false⟩) (h := r22_Mod.h) (Λ := r22_Mod.L) tabs r22_Mod.os r22_Mod.osB Tryz.func190 (c := r22_Mod.c) (by kernel_rfl) (by decide +kernel) (by decide +kernel) (fun C hC => ?_) (fun x => r22_Mod.hk x)
  exact by
    have e : loops r22_Mod.c r22_Mod.h = [] := by kernel_rfl
    rw [e]
    exact LamOk.nil
def r22_ModPow.j2 (t0 : Int) (t1 : Int) (t2 : Int) (t7 : Int) : Option ((Int × Int × Int × Int × Unit) ⊕ ((Int × Unit))) :=
  (cond (decide (t2 = 0))
  none
  ((some (.inl ((Int.tmod (IntKind.wrap .i64 (t0 * t0)) t2), (IntKind.wrap .i64 (Int.tdiv t1 (2 : Int))), t2, t7, ())))))
def r22_ModPow.j1 (t0 : Int) (t1 : Int) (t2 : Int) (t7 : Int) : Option ((Int × Int × Int × Int × Unit) ⊕ ((Int × Unit))) :=
  (cond (((Int.tmod t1 (2 : Int)) == (1 : Int)))
  ((cond (decide (t2 = 0))
  none
  ((r22_ModPow.j2 t0 t1 t2 (Int.tmod (IntKind.wrap .i64 (t7 * t0)) t2)))))
  ((r22_ModPow.j2 t0 t1 t2 t7)))
def r22_ModPow.s0 (t0 : Int) (t1 : Int) (t2 : Int) (t7 : Int) : Option ((Int × Int × Int × Int × Unit) ⊕ ((Int × Unit))) :=
  (cond ((decide (t1 > (0 : Int))))
  ((r22_ModPow.j1 t0 t1 t2 t7))
  ((some (.inr (t7, ())))))
def r22_ModPow.k0 (t7 : Int) : Option (Int) :=
  (some t7)
def r22_ModPow (t0 : Int) (t1 : Int) (t2 : Int) : Option (Int) :=
  (cond (decide (t2 = 0))
  none
  (((r22_Mod t0 t2).bind fun y1 =>
  ((iterL (fun x : Int × Int × Int × Int × Unit => r22_ModPow.s0 x.1 x.2.1 x.2.2.1 x.2.2.2.1) (y1, t1, t2, (Int.tmod (1 : Int) t2), ())).bind fun y => r22_ModPow.k0 y.1))))
def r22_ModPow.en : En := ⟨189, [.int .i64, .int .i64, .int .i64], .int .i64, false, fun x => r22_ModPow x.1 x.2.1 x.2.2.1⟩
def r22_ModPow.o : List En := [r22_Mod.en]
def r22_ModPow.oB : List EnB := []
def r22_ModPow.h : HT := .two (.n) (.two (.n) (.two (.two (.n) (.lp 0)) (.n)))
def r22_ModPow.c : Code := Tryz.f189.body.getD .skip
def r22_ModPow.h0 : HT := .n
def r22_ModPow.c0 : Code := (find (loops r22_ModPow.c r22_ModPow.h) 0).getD .skip
def r22_ModPow.d0 : Fm := [.v 0 (.int .i64), .v 1 (.int .i64), .v 2 (.int .i64), .v 7 (.int .i64)]
def r22_ModPow.x0 : Xs := [(.exit 0, [.v 7 (.int .i64)])]
def r22_ModPow.r0 (x : (Fm.ty r22_ModPow.d0).den) : Option ((Fm.ty r22_ModPow.d0).den ⊕ (Xs.T r22_ModPow.x0)) := r22_ModPow.s0 x.1 x.2.1 x.2.2.1 x.2.2.2.1
def r22_ModPow.L : Lam := fun _ i s K => cond (Nat.beq i 0) (lamK r22_ModPow.d0 r22_ModPow.x0 r22_ModPow.r0 s K) (none)
theorem r22_ModPow.hf0 (x) : roundK env (orc r22_ModPow.o) (orcB r22_ModPow.oB) 31 r22_ModPow.L r22_ModPow.c0 r22_ModPow.h0 r22_ModPow.d0 r22_ModPow.x0 x = r22_ModPow.r0 x := by kernel_rfl
theorem r22_ModPow.os : AllOk prog r22_ModPow.o := ⟨r22_Mod.ok, trivial⟩
theorem r22_ModPow.osB : AllBOk prog r22_ModPow.oB := trivial
theorem r22_ModPow.l0 {C : Ctx} (hC : C.n = 31) : LamAt prog C r22_ModPow.L 0 r22_ModPow.c0 := by
  intro R s K r hk
  refine loop_ok (D := r22_ModPow.d0) (X := r22_ModPow.x0) (h := r22_ModPow.h0) (f := r22_ModPow.r0) tabs (orc_ok _ r22_ModPow.os) (orcB_ok _ r22_ModPow.osB) (fun x => by rw [hC]; exact r22_ModPow.hf0 x) (Λ := r22_ModPow.L) ?_ (by kernel_rfl) (by kernel_rfl) (K := K) (s := s) (by exact hk)
  exact by
    have e : loops r22_ModPow.c0 r22_ModPow.h0 = [] := by kernel_rfl
    rw [e]
    exact LamOk.nil
theorem r22_ModPow.hk (x) : semK env (orc r22_ModPow.o) (orcB r22_ModPow.oB) 31 (r22_ModPow.L _) r22_ModPow.c r22_ModPow.h (S.init (avs [.int .i64, .int .i64, .int .i64] x)) (fin env Tryz.f189 ⟨[.int .i64, .int .i64, .int .i64], .int .i64, false, false⟩) = r22_ModPow.en.g x := by kernel_rfl
theorem r22_ModPow.ok : EnOk prog r22_ModPow.en := by
  refine fun_ok (g := ⟨[.int .i64, .int .i64, .int .i64], .int .i64, false, false⟩) (h := r22_ModPow.h) (Λ := r22_ModPow.L) tabs r22_ModPow.os r22_ModPow.osB Tryz.func189 (c := r22_ModPow.c) (by kernel_rfl) (by decide +kernel) (by decide +kernel) (fun C hC => ?_) (fun x => r22_ModPow.hk x)
  exact by
    have e : loops r22_ModPow.c r22_ModPow.h = [(0, r22_ModPow.c0)] := by kernel_rfl
    rw [e]
    exact LamOk.cons (r22_ModPow.l0 hC) (LamOk.nil)
def r22_Legendre.j2  : Option (Int) :=
  (some (-1 : Int))
def r22_Legendre.j1  : Option (Int) :=
  (r22_Legendre.j2)
def r22_Legendre (t0 : Int) (t1 : Int) : Option (Int) :=
  ((r22_ModPow t0 (IntKind.wrap .i64 (Int.tdiv (IntKind.wrap .i64 (t1 - (1 : Int))) (2 : Int))) t1).bind fun y2 =>
  (cond ((y2 == (0 : Int)))
  ((some (0 : Int)))
  ((cond ((y2 == (1 : Int)))
  ((some (1 : Int)))
  ((r22_Legendre.j1))))))
def r22_Legendre.en : En := ⟨116, [.int .i64, .int .i64], .int .i64, false, fun x => r22_Legendre x.1 x.2.1⟩
def r22_Legendre.o : List En := [r22_ModPow.en]
def r22_Legendre.oB : List EnB := []
def r22_Legendre.h : HT := .n
def r22_Legendre.c : Code := Tryz.f116.body.getD .skip
def r22_Legendre.L : Lam := fun _ i s K => none
theorem r22_Legendre.os : AllOk prog r22_Legendre.o := ⟨r22_ModPow.ok, trivial⟩
theorem r22_Legendre.osB : AllBOk prog r22_Legendre.oB := trivial
theorem r22_Legendre.hk (x) : semK env (orc r22_Legendre.o) (orcB r22_Legendre.oB) 15 (r22_Legendre.L _) r22_Legendre.c r22_Legendre.h (S.init (avs [.int .i64, .int .i64] x)) (fin env Tryz.f116 ⟨[.int .i64, .int .i64], .int .i64, false, false⟩) = r22_Legendre.en.g x := by kernel_rfl
theorem r22_Legendre.ok : EnOk prog r22_Legendre.en := by
  refine fun_ok (g := ⟨[.int .i64, .int .i64], .int .i64, false, false⟩) (h := r22_Legendre.h) (Λ := r22_Legendre.L) tabs r22_Legendre.os r22_Legendre.osB Tryz.func116 (c := r22_Legendre.c) (by kernel_rfl) (by decide +kernel) (by decide +kernel) (fun C hC => ?_) (fun x => r22_Legendre.hk x)
  exact by
    have e : loops r22_Legendre.c r22_Legendre.h = [] := by kernel_rfl
    rw [e]
    exact LamOk.nil
def r22_Factor.j3 (t0 : Int) (t5 : Int) (t6 : Int) (a36 : List (Int × Int × Unit)) : Option ((Int × Int × Int × (List (Int × Int × Unit)) × Unit) ⊕ ((Int × Int × Int × (List (Int × Int × Unit)) × Unit))) :=
  (cond (decide (t5 = 0))
  none
  ((some (.inl ((IntKind.wrap .i64 (Int.tdiv t0 t5)), t5, (IntKind.wrap .i64 (t6 + (1 : Int))), a36, ())))))
def r22_Factor.s0 (t0 : Int) (t5 : Int) (t6 : Int) (a36 : List (Int × Int × Unit)) : Option ((Int × Int × Int × (List (Int × Int × Unit)) × Unit) ⊕ ((Int × Int × Int × (List (Int × Int × Unit)) × Unit))) :=
  (cond (decide (t5 = 0))
  none
  ((cond (((Int.tmod t0 t5) == (0 : Int)))
  ((r22_Factor.j3 t0 t5 t6 a36))
  ((some (.inr (t0, t5, t6, a36, ())))))))
def r22_Factor.j4 (t0 : Int) (t5 : Int) (a36 : List (Int × Int × Unit)) : Option ((Int × Int × (List (Int × Int × Unit)) × Unit) ⊕ ((Int × (List (Int × Int × Unit)) × Unit))) :=
  (some (.inl (t0, (IntKind.wrap .i64 (t5 + (1 : Int))), a36, ())))
def r22_Factor.k0 (t0 : Int) (t5 : Int) (t6 : Int) (a36 : List (Int × Int × Unit)) : Option ((Int × Int × (List (Int × Int × Unit)) × Unit) ⊕ ((Int × (List (Int × Int × Unit)) × Unit))) :=
  (cond ((decide (t6 > (0 : Int))))
  ((cond (decide (List.length a36 + List.length ([(t5, (t6, ()))] : List (Int × Int × Unit)) ≤ maxL))
  ((r22_Factor.j4 t0 t5 (a36 ++ ([(t5, (t6, ()))] : List (Int × Int × Unit)))))
  none))
  ((r22_Factor.j4 t0 t5 a36)))
def r22_Factor.j2 (t0 : Int) (t5 : Int) (a36 : List (Int × Int × Unit)) : Option ((Int × Int × (List (Int × Int × Unit)) × Unit) ⊕ ((Int × (List (Int × Int × Unit)) × Unit))) :=
  ((iterL (fun x : Int × Int × Int × (List (Int × Int × Unit)) × Unit => r22_Factor.s0 x.1 x.2.1 x.2.2.1 x.2.2.2.1) (t0, t5, (0 : Int), a36, ())).bind fun y => r22_Factor.k0 y.1 y.2.1 y.2.2.1 y.2.2.2.1)
def r22_Factor.s1 (t0 : Int) (t5 : Int) (a36 : List (Int × Int × Unit)) : Option ((Int × Int × (List (Int × Int × Unit)) × Unit) ⊕ ((Int × (List (Int × Int × Unit)) × Unit))) :=
  (cond ((decide ((IntKind.wrap .i64 (t5 * t5)) ≤ t0)))
  ((r22_Factor.j2 t0 t5 a36))
  ((some (.inr (t0, a36, ())))))
def r22_Factor.j5 (a36 : List (Int × Int × Unit)) : Option ((List (Int × Int × Unit)) × Int × Unit) :=
  (some (a36, ((0 : Int), ())))
def r22_Factor.k1 (t0 : Int) (a36 : List (Int × Int × Unit)) : Option ((List (Int × Int × Unit)) × Int × Unit) :=
  (cond ((decide (t0 > (1 : Int))))
  ((cond (decide (List.length a36 + List.length ([(t0, ((1 : Int), ()))] : List (Int × Int × Unit)) ≤ maxL))
  ((r22_Factor.j5 (a36 ++ ([(t0, ((1 : Int), ()))] : List (Int × Int × Unit)))))
  none))
  ((r22_Factor.j5 a36)))
def r22_Factor.j1 (t0 : Int) : Option ((List (Int × Int × Unit)) × Int × Unit) :=
  ((iterL (fun x : Int × Int × (List (Int × Int × Unit)) × Unit => r22_Factor.s1 x.1 x.2.1 x.2.2.1) (t0, (2 : Int), ([] : List (Int × Int × Unit)), ())).bind fun y => r22_Factor.k1 y.1 y.2.1)
def r22_Factor (t0 : Int) : Option ((List (Int × Int × Unit)) × Int × Unit) :=
  (cond ((decide (t0 < (1 : Int))))
  ((some (([] : List (Int × Int × Unit)), ((1 : Int), ()))))
  ((cond ((decide (t0 > (2147483647 : Int))))
  ((some (([] : List (Int × Int × Unit)), ((1 : Int), ()))))
  ((r22_Factor.j1 t0)))))
def r22_Factor.en : En := ⟨213, [.int .i64], .pair (.sl (.pair (.int .i64) (.pair (.int .i64) (.unit)))) (.pair (.int .i64) (.unit)), true, fun x => r22_Factor x.1⟩
def r22_Factor.o : List En := []
def r22_Factor.oB : List EnB := []
def r22_Factor.h : HT := .two (.n) (.two (.n) (.two (.n) (.two (.two (.n) (.lp 1)) (.n))))
def r22_Factor.c : Code := Tryz.f213.body.getD .skip
def r22_Factor.h1 : HT := .two (.n) (.two (.two (.n) (.two (.lp 0) (.n))) (.n))
def r22_Factor.c1 : Code := (find (loops r22_Factor.c r22_Factor.h) 1).getD .skip
def r22_Factor.d1 : Fm := [.v 0 (.int .i64), .v 5 (.int .i64), .arr 36 177 (.pair (.int .i64) (.pair (.int .i64) (.unit))), .own 4 36]
def r22_Factor.x1 : Xs := [(.exit 0, [.v 0 (.int .i64), .arr 36 177 (.pair (.int .i64) (.pair (.int .i64) (.unit))), .own 4 36])]
def r22_Factor.r1 (x : (Fm.ty r22_Factor.d1).den) : Option ((Fm.ty r22_Factor.d1).den ⊕ (Xs.T r22_Factor.x1)) := r22_Factor.s1 x.1 x.2.1 x.2.2.1
def r22_Factor.h0 : HT := .n
def r22_Factor.c0 : Code := (find (loops r22_Factor.c1 r22_Factor.h1) 0).getD .skip
def r22_Factor.d0 : Fm := [.v 0 (.int .i64), .v 5 (.int .i64), .v 6 (.int .i64), .arr 36 177 (.pair (.int .i64) (.pair (.int .i64) (.unit))), .own 4 36]
def r22_Factor.x0 : Xs := [(.exit 2, [.v 0 (.int .i64), .v 5 (.int .i64), .v 6 (.int .i64), .arr 36 177 (.pair (.int .i64) (.pair (.int .i64) (.unit))), .own 4 36])]
def r22_Factor.r0 (x : (Fm.ty r22_Factor.d0).den) : Option ((Fm.ty r22_Factor.d0).den ⊕ (Xs.T r22_Factor.x0)) := r22_Factor.s0 x.1 x.2.1 x.2.2.1 x.2.2.2.1
def r22_Factor.L : Lam := fun _ i s K => cond (Nat.beq i 0) (lamK r22_Factor.d0 r22_Factor.x0 r22_Factor.r0 s K) (cond (Nat.beq i 1) (lamK r22_Factor.d1 r22_Factor.x1 r22_Factor.r1 s K) (none))
theorem r22_Factor.hf0 (x) : roundK env (orc r22_Factor.o) (orcB r22_Factor.oB) 45 r22_Factor.L r22_Factor.c0 r22_Factor.h0 r22_Factor.d0 r22_Factor.x0 x = r22_Factor.r0 x := by kernel_rfl
theorem r22_Factor.hf1 (x) : roundK env (orc r22_Factor.o) (orcB r22_Factor.oB) 45 r22_Factor.L r22_Factor.c1 r22_Factor.h1 r22_Factor.d1 r22_Factor.x1 x = r22_Factor.r1 x := by kernel_rfl
theorem r22_Factor.os : AllOk prog r22_Factor.o := trivial
theorem r22_Factor.osB : AllBOk prog r22_Factor.oB := trivial
theorem r22_Factor.l0 {C : Ctx} (hC : C.n = 45) : LamAt prog C r22_Factor.L 0 r22_Factor.c0 := by
  intro R s K r hk
  refine loop_ok (D := r22_Factor.d0) (X := r22_Factor.x0) (h := r22_Factor.h0) (f := r22_Factor.r0) tabs (orc_ok _ r22_Factor.os) (orcB_ok _ r22_Factor.osB) (fun x => by rw [hC]; exact r22_Factor.hf0 x) (Λ := r22_Factor.L) ?_ (by kernel_rfl) (by kernel_rfl) (K := K) (s := s) (by exact hk)
  exact by
    have e : loops r22_Factor.c0 r22_Factor.h0 = [] := by kernel_rfl
    rw [e]
    exact LamOk.nil
theorem r22_Factor.l1 {C : Ctx} (hC : C.n = 45) : LamAt prog C r22_Factor.L 1 r22_Factor.c1 := by
  intro R s K r hk
  refine loop_ok (D := r22_Factor.d1) (X := r22_Factor.x1) (h := r22_Factor.h1) (f := r22_Factor.r1) tabs (orc_ok _ r22_Factor.os) (orcB_ok _ r22_Factor.osB) (fun x => by rw [hC]; exact r22_Factor.hf1 x) (Λ := r22_Factor.L) ?_ (by kernel_rfl) (by kernel_rfl) (K := K) (s := s) (by exact hk)
  exact by
    have e : loops r22_Factor.c1 r22_Factor.h1 = [(0, r22_Factor.c0)] := by kernel_rfl
    rw [e]
    exact LamOk.cons (r22_Factor.l0 hC) (LamOk.nil)
theorem r22_Factor.hk (x) : semK env (orc r22_Factor.o) (orcB r22_Factor.oB) 45 (r22_Factor.L _) r22_Factor.c r22_Factor.h (S.init (avs [.int .i64] x)) (fin env Tryz.f213 ⟨[.int .i64], .pair (.sl (.pair (.int .i64) (.pair (.int .i64) (.unit)))) (.pair (.int .i64) (.unit)), true, false⟩) = r22_Factor.en.g x := by kernel_rfl
theorem r22_Factor.ok : EnOk prog r22_Factor.en := by
  refine fun_ok (g := ⟨[.int .i64], .pair (.sl (.pair (.int .i64) (.pair (.int .i64) (.unit)))) (.pair (.int .i64) (.unit)), true, false⟩) (h := r22_Factor.h) (Λ := r22_Factor.L) tabs r22_Factor.os r22_Factor.osB Tryz.func213 (c := r22_Factor.c) (by kernel_rfl) (by decide +kernel) (by decide +kernel) (fun C hC => ?_) (fun x => r22_Factor.hk x)
  exact by
    have e : loops r22_Factor.c r22_Factor.h = [(1, r22_Factor.c1)] := by kernel_rfl
    rw [e]
    exact LamOk.cons (r22_Factor.l1 hC) (LamOk.nil)
def r22_two.j4  : Option (Int) :=
  (some (0 : Int))
def r22_two.j3  : Option (Int) :=
  (r22_two.j4)
def r22_two.j2 (t8 : Bool) : Option (Int) :=
  (cond (t8)
  ((some (-1 : Int)))
  ((r22_two.j3)))
def r22_two.j1 (t4 : Int) (t5 : Bool) : Option (Int) :=
  (cond (t5)
  ((some (1 : Int)))
  ((cond ((t4 == (3 : Int)))
  ((r22_two.j2 (t4 == (3 : Int))))
  ((r22_two.j2 (t4 == (5 : Int)))))))
def r22_two (t0 : Int) : Option (Int) :=
  ((r22_Mod t0 (8 : Int)).bind fun y1 =>
  (cond ((y1 == (1 : Int)))
  ((r22_two.j1 y1 (y1 == (1 : Int))))
  ((r22_two.j1 y1 (y1 == (7 : Int))))))
def r22_two.en : En := ⟨214, [.int .i64], .int .i64, false, fun x => r22_two x.1⟩
def r22_two.o : List En := [r22_Mod.en]
def r22_two.oB : List EnB := []
def r22_two.h : HT := .n
def r22_two.c : Code := Tryz.f214.body.getD .skip
def r22_two.L : Lam := fun _ i s K => none
theorem r22_two.os : AllOk prog r22_two.o := ⟨r22_Mod.ok, trivial⟩
theorem r22_two.osB : AllBOk prog r22_two.oB := trivial
theorem r22_two.hk (x) : semK env (orc r22_two.o) (orcB r22_two.oB) 11 (r22_two.L _) r22_two.c r22_two.h (S.init (avs [.int .i64] x)) (fin env Tryz.f214 ⟨[.int .i64], .int .i64, false, false⟩) = r22_two.en.g x := by kernel_rfl
theorem r22_two.ok : EnOk prog r22_two.en := by
  refine fun_ok (g := ⟨[.int .i64], .int .i64, false, false⟩) (h := r22_two.h) (Λ := r22_two.L) tabs r22_two.os r22_two.osB Tryz.func214 (c := r22_two.c) (by kernel_rfl) (by decide +kernel) (by decide +kernel) (fun C hC => ?_) (fun x => r22_two.hk x)
  exact by
    have e : loops r22_two.c r22_two.h = [] := by kernel_rfl
    rw [e]
    exact LamOk.nil
def r22_Symbol.j1  : Option (Int) :=
  (some (0 : Int))
def r22_Symbol.j7 (t0 : Int) (t5 : Int) (t10 : Int) (t30 : List (Int × Int × Unit)) (t31 : Int) (t32 : Int) (b9_0 : Int) (b9_1 : Int) : Option ((Int × Int × Int × (List (Int × Int × Unit)) × Int × Int × (Int × Int × Unit) × Unit) ⊕ ((Int × Int × (List (Int × Int × Unit)) × Int × Int × Unit))) :=
  (some (.inl (t0, t5, (IntKind.wrap .i64 (t10 + (1 : Int))), t30, t31, t32, (b9_0, (b9_1, ())), ())))
def r22_Symbol.j6 (t0 : Int) (t5 : Int) (t10 : Int) (t30 : List (Int × Int × Unit)) (t31 : Int) (t32 : Int) (b9_0 : Int) (b9_1 : Int) : Option ((Int × Int × Int × (List (Int × Int × Unit)) × Int × Int × (Int × Int × Unit) × Unit) ⊕ ((Int × Int × (List (Int × Int × Unit)) × Int × Int × Unit))) :=
  (cond ((b9_0 == (2 : Int)))
  (((r22_two t0).bind fun y2 =>
  (r22_Symbol.j7 t0 (IntKind.wrap .i64 (t5 * y2)) t10 t30 t31 t32 b9_0 b9_1)))
  (((r22_Legendre t0 b9_0).bind fun y3 =>
  (r22_Symbol.j7 t0 (IntKind.wrap .i64 (t5 * y3)) t10 t30 t31 t32 b9_0 b9_1))))
def r22_Symbol.s0 (t0 : Int) (t5 : Int) (t10 : Int) (t30 : List (Int × Int × Unit)) (t31 : Int) (t32 : Int) (b9 : Int × Int × Unit) : Option ((Int × Int × Int × (List (Int × Int × Unit)) × Int × Int × (Int × Int × Unit) × Unit) ⊕ ((Int × Int × (List (Int × Int × Unit)) × Int × Int × Unit))) :=
  (cond ((decide (t10 < b9.2.1)))
  ((r22_Symbol.j6 t0 t5 t10 t30 t31 t32 b9.1 b9.2.1))
  ((some (.inr (t0, t5, t30, t31, t32, ())))))
def r22_Symbol.k0 (t0 : Int) (t5 : Int) (t30 : List (Int × Int × Unit)) (t31 : Int) (t32 : Int) : Option ((Int × Int × (List (Int × Int × Unit)) × Int × Int × Unit) ⊕ ((Int × Unit))) :=
  (some (.inl (t0, t5, t30, t31, (IntKind.wrap .i64 (t32 + (1 : Int))), ())))
def r22_Symbol.j5 (t0 : Int) (t5 : Int) (t30 : List (Int × Int × Unit)) (t31 : Int) (t32 : Int) : Option ((Int × Int × (List (Int × Int × Unit)) × Int × Int × Unit) ⊕ ((Int × Unit))) :=
  (cond (inB t32 (List.length t30))
  (((iterL (fun x : Int × Int × Int × (List (Int × Int × Unit)) × Int × Int × (Int × Int × Unit) × Unit => r22_Symbol.s0 x.1 x.2.1 x.2.2.1 x.2.2.2.1 x.2.2.2.2.1 x.2.2.2.2.2.1 x.2.2.2.2.2.2.1) (t0, t5, (0 : Int), t30, t31, t32, ((List.getD t30 (t32.toNat) ((0 : Int), ((0 : Int), ()))).1, ((List.getD t30 (t32.toNat) ((0 : Int), ((0 : Int), ()))).2.1, ())), ())).bind fun y => r22_Symbol.k0 y.1 y.2.1 y.2.2.1 y.2.2.2.1 y.2.2.2.2.1))
  none)
def r22_Symbol.s1 (t0 : Int) (t5 : Int) (t30 : List (Int × Int × Unit)) (t31 : Int) (t32 : Int) : Option ((Int × Int × (List (Int × Int × Unit)) × Int × Int × Unit) ⊕ ((Int × Unit))) :=
  (cond ((decide (t32 < t31)))
  ((r22_Symbol.j5 t0 t5 t30 t31 t32))
  ((some (.inr (t5, ())))))
def r22_Symbol.k1 (t5 : Int) : Option (Int) :=
  (some t5)
def r22_Symbol.j4 (t0 : Int) (t1 : Int) : Option (Int) :=
  ((r22_Factor t1).bind fun y1 =>
  ((iterL (fun x : Int × Int × (List (Int × Int × Unit)) × Int × Int × Unit => r22_Symbol.s1 x.1 x.2.1 x.2.2.1 x.2.2.2.1 x.2.2.2.2.1) (t0, (-1 : Int), y1.1, ((List.length y1.1 : Nat) : Int), (0 : Int), ())).bind fun y => r22_Symbol.k1 y.1))
def r22_Symbol.j3 (t0 : Int) (t1 : Int) : Option (Int) :=
  (r22_Symbol.j4 t0 t1)
def r22_Symbol.j9 (t0 : Int) (t1 : Int) : Option (Int) :=
  ((r22_Factor t1).bind fun y4 =>
  ((iterL (fun x : Int × Int × (List (Int × Int × Unit)) × Int × Int × Unit => r22_Symbol.s1 x.1 x.2.1 x.2.2.1 x.2.2.2.1 x.2.2.2.2.1) (t0, (1 : Int), y4.1, ((List.length y4.1 : Nat) : Int), (0 : Int), ())).bind fun y => r22_Symbol.k1 y.1))
def r22_Symbol.j8 (t0 : Int) (t1 : Int) : Option (Int) :=
  (r22_Symbol.j9 t0 t1)
def r22_Symbol.j2 (t0 : Int) (t1 : Int) : Option (Int) :=
  (cond ((decide (t1 < (0 : Int))))
  ((cond ((decide (t0 < (0 : Int))))
  ((r22_Symbol.j3 t0 (IntKind.wrap .i64 (0 - t1))))
  ((r22_Symbol.j8 t0 (IntKind.wrap .i64 (0 - t1))))))
  ((r22_Symbol.j9 t0 t1)))
def r22_Symbol (t0 : Int) (t1 : Int) : Option (Int) :=
  (cond ((t1 == (0 : Int)))
  ((cond ((t0 == (1 : Int)))
  ((some (1 : Int)))
  ((cond ((t0 == (-1 : Int)))
  ((some (1 : Int)))
  ((r22_Symbol.j1))))))
  ((r22_Symbol.j2 t0 t1)))
def r22_Symbol.en : En := ⟨157, [.int .i64, .int .i64], .int .i64, false, fun x => r22_Symbol x.1 x.2.1⟩
def r22_Symbol.o : List En := [r22_Legendre.en, r22_Factor.en, r22_two.en]
def r22_Symbol.oB : List EnB := []
def r22_Symbol.h : HT := .two (.n) (.two (.n) (.two (.n) (.two (.n) (.two (.n) (.two (.two (.n) (.lp 1)) (.n))))))
def r22_Symbol.c : Code := Tryz.f157.body.getD .skip
def r22_Symbol.h1 : HT := .two (.n) (.two (.n) (.two (.two (.n) (.two (.n) (.lp 0))) (.n)))
def r22_Symbol.c1 : Code := (find (loops r22_Symbol.c r22_Symbol.h) 1).getD .skip
def r22_Symbol.d1 : Fm := [.v 0 (.int .i64), .v 5 (.int .i64), .v 30 (.sl (.pair (.int .i64) (.pair (.int .i64) (.unit)))), .v 31 (.int .i64), .v 32 (.int .i64)]
def r22_Symbol.x1 : Xs := [(.exit 0, [.v 5 (.int .i64)])]
def r22_Symbol.r1 (x : (Fm.ty r22_Symbol.d1).den) : Option ((Fm.ty r22_Symbol.d1).den ⊕ (Xs.T r22_Symbol.x1)) := r22_Symbol.s1 x.1 x.2.1 x.2.2.1 x.2.2.2.1 x.2.2.2.2.1
def r22_Symbol.h0 : HT := .n
def r22_Symbol.c0 : Code := (find (loops r22_Symbol.c1 r22_Symbol.h1) 0).getD .skip
def r22_Symbol.d0 : Fm := [.v 0 (.int .i64), .v 5 (.int .i64), .v 10 (.int .i64), .v 30 (.sl (.pair (.int .i64) (.pair (.int .i64) (.unit)))), .v 31 (.int .i64), .v 32 (.int .i64), .box 9 (.pair (.int .i64) (.pair (.int .i64) (.unit))), .ptr 9 9]
def r22_Symbol.x0 : Xs := [(.exit 2, [.v 0 (.int .i64), .v 5 (.int .i64), .v 30 (.sl (.pair (.int .i64) (.pair (.int .i64) (.unit)))), .v 31 (.int .i64), .v 32 (.int .i64)])]
def r22_Symbol.r0 (x : (Fm.ty r22_Symbol.d0).den) : Option ((Fm.ty r22_Symbol.d0).den ⊕ (Xs.T r22_Symbol.x0)) := r22_Symbol.s0 x.1 x.2.1 x.2.2.1 x.2.2.2.1 x.2.2.2.2.1 x.2.2.2.2.2.1 x.2.2.2.2.2.2.1
def r22_Symbol.L : Lam := fun _ i s K => cond (Nat.beq i 0) (lamK r22_Symbol.d0 r22_Symbol.x0 r22_Symbol.r0 s K) (cond (Nat.beq i 1) (lamK r22_Symbol.d1 r22_Symbol.x1 r22_Symbol.r1 s K) (none))
theorem r22_Symbol.hf0 (x) : roundK env (orc r22_Symbol.o) (orcB r22_Symbol.oB) 57 r22_Symbol.L r22_Symbol.c0 r22_Symbol.h0 r22_Symbol.d0 r22_Symbol.x0 x = r22_Symbol.r0 x := by kernel_rfl
theorem r22_Symbol.hf1 (x) : roundK env (orc r22_Symbol.o) (orcB r22_Symbol.oB) 57 r22_Symbol.L r22_Symbol.c1 r22_Symbol.h1 r22_Symbol.d1 r22_Symbol.x1 x = r22_Symbol.r1 x := by kernel_rfl
theorem r22_Symbol.os : AllOk prog r22_Symbol.o := ⟨r22_Legendre.ok, r22_Factor.ok, r22_two.ok, trivial⟩
theorem r22_Symbol.osB : AllBOk prog r22_Symbol.oB := trivial
theorem r22_Symbol.l0 {C : Ctx} (hC : C.n = 57) : LamAt prog C r22_Symbol.L 0 r22_Symbol.c0 := by
  intro R s K r hk
  refine loop_ok (D := r22_Symbol.d0) (X := r22_Symbol.x0) (h := r22_Symbol.h0) (f := r22_Symbol.r0) tabs (orc_ok _ r22_Symbol.os) (orcB_ok _ r22_Symbol.osB) (fun x => by rw [hC]; exact r22_Symbol.hf0 x) (Λ := r22_Symbol.L) ?_ (by kernel_rfl) (by kernel_rfl) (K := K) (s := s) (by exact hk)
  exact by
    have e : loops r22_Symbol.c0 r22_Symbol.h0 = [] := by kernel_rfl
    rw [e]
    exact LamOk.nil
theorem r22_Symbol.l1 {C : Ctx} (hC : C.n = 57) : LamAt prog C r22_Symbol.L 1 r22_Symbol.c1 := by
  intro R s K r hk
  refine loop_ok (D := r22_Symbol.d1) (X := r22_Symbol.x1) (h := r22_Symbol.h1) (f := r22_Symbol.r1) tabs (orc_ok _ r22_Symbol.os) (orcB_ok _ r22_Symbol.osB) (fun x => by rw [hC]; exact r22_Symbol.hf1 x) (Λ := r22_Symbol.L) ?_ (by kernel_rfl) (by kernel_rfl) (K := K) (s := s) (by exact hk)
  exact by
    have e : loops r22_Symbol.c1 r22_Symbol.h1 = [(0, r22_Symbol.c0)] := by kernel_rfl
    rw [e]
    exact LamOk.cons (r22_Symbol.l0 hC) (LamOk.nil)
theorem r22_Symbol.hk (x) : semK env (orc r22_Symbol.o) (orcB r22_Symbol.oB) 57 (r22_Symbol.L _) r22_Symbol.c r22_Symbol.h (S.init (avs [.int .i64, .int .i64] x)) (fin env Tryz.f157 ⟨[.int .i64, .int .i64], .int .i64, false, false⟩) = r22_Symbol.en.g x := by kernel_rfl
theorem r22_Symbol.ok : EnOk prog r22_Symbol.en := by
  refine fun_ok (g := ⟨[.int .i64, .int .i64], .int .i64, false, false⟩) (h := r22_Symbol.h) (Λ := r22_Symbol.L) tabs r22_Symbol.os r22_Symbol.osB Tryz.func157 (c := r22_Symbol.c) (by kernel_rfl) (by decide +kernel) (by decide +kernel) (fun C hC => ?_) (fun x => r22_Symbol.hk x)
  exact by
    have e : loops r22_Symbol.c r22_Symbol.h = [(1, r22_Symbol.c1)] := by kernel_rfl
    rw [e]
    exact LamOk.cons (r22_Symbol.l1 hC) (LamOk.nil)
def r22_Squarefree.j2 (t0 : Int) (t5 : Int) (t6 : Int) : Option ((Int × Int × Int × Unit) ⊕ ((Int × Int × Int × Unit))) :=
  (cond (decide ((IntKind.wrap .i64 (t6 * t6)) = 0))
  none
  ((some (.inl ((IntKind.wrap .i64 (Int.tdiv t0 (IntKind.wrap .i64 (t6 * t6)))), (IntKind.wrap .i64 (t5 * t6)), t6, ())))))
def r22_Squarefree.s0 (t0 : Int) (t5 : Int) (t6 : Int) : Option ((Int × Int × Int × Unit) ⊕ ((Int × Int × Int × Unit))) :=
  (cond (decide ((IntKind.wrap .i64 (t6 * t6)) = 0))
  none
  ((cond (((Int.tmod t0 (IntKind.wrap .i64 (t6 * t6))) == (0 : Int)))
  ((r22_Squarefree.j2 t0 t5 t6))
  ((some (.inr (t0, t5, t6, ())))))))
def r22_Squarefree.k0 (t0 : Int) (t5 : Int) (t6 : Int) : Option ((Int × Int × Int × Unit) ⊕ ((Int × Int × Unit))) :=
  (some (.inl (t0, t5, (IntKind.wrap .i64 (t6 + (1 : Int))), ())))
def r22_Squarefree.j3 (t0 : Int) (t5 : Int) (t6 : Int) : Option ((Int × Int × Int × Unit) ⊕ ((Int × Int × Unit))) :=
  ((iterL (fun x : Int × Int × Int × Unit => r22_Squarefree.s0 x.1 x.2.1 x.2.2.1) (t0, t5, t6, ())).bind fun y => r22_Squarefree.k0 y.1 y.2.1 y.2.2.1)
def r22_Squarefree.s1 (t0 : Int) (t5 : Int) (t6 : Int) : Option ((Int × Int × Int × Unit) ⊕ ((Int × Int × Unit))) :=
  (cond ((decide ((IntKind.wrap .i64 (t6 * t6)) ≤ t0)))
  (((iterL (fun x : Int × Int × Int × Unit => r22_Squarefree.s0 x.1 x.2.1 x.2.2.1) (t0, t5, t6, ())).bind fun y => r22_Squarefree.k0 y.1 y.2.1 y.2.2.1))
  ((cond ((decide ((IntKind.wrap .i64 (t6 * t6)) ≤ (IntKind.wrap .i64 (0 - t0)))))
  ((r22_Squarefree.j3 t0 t5 t6))
  ((some (.inr (t0, t5, ())))))))
def r22_Squarefree.k1 (t0 : Int) (t5 : Int) : Option (Int × Int × Int × Unit) :=
  (some (t0, (t5, ((0 : Int), ()))))
def r22_Squarefree.j1 (t0 : Int) : Option (Int × Int × Int × Unit) :=
  ((iterL (fun x : Int × Int × Int × Unit => r22_Squarefree.s1 x.1 x.2.1 x.2.2.1) (t0, (1 : Int), (2 : Int), ())).bind fun y => r22_Squarefree.k1 y.1 y.2.1)
def r22_Squarefree (t0 : Int) : Option (Int × Int × Int × Unit) :=
  (cond ((t0 == (0 : Int)))
  ((some ((0 : Int), ((0 : Int), ((1 : Int), ())))))
  ((cond ((decide (t0 < (-2147483647 : Int))))
  ((some ((0 : Int), ((0 : Int), ((1 : Int), ())))))
  ((cond ((decide (t0 > (2147483647 : Int))))
  ((some ((0 : Int), ((0 : Int), ((1 : Int), ())))))
  ((r22_Squarefree.j1 t0)))))))
def r22_Squarefree.en : En := ⟨243, [.int .i64], .pair (.int .i64) (.pair (.int .i64) (.pair (.int .i64) (.unit))), true, fun x => r22_Squarefree x.1⟩
def r22_Squarefree.o : List En := []
def r22_Squarefree.oB : List EnB := []
def r22_Squarefree.h : HT := .two (.n) (.two (.n) (.two (.n) (.two (.two (.n) (.lp 1)) (.n))))
def r22_Squarefree.c : Code := Tryz.f243.body.getD .skip
def r22_Squarefree.h1 : HT := .two (.n) (.two (.lp 0) (.n))
def r22_Squarefree.c1 : Code := (find (loops r22_Squarefree.c r22_Squarefree.h) 1).getD .skip
def r22_Squarefree.d1 : Fm := [.v 0 (.int .i64), .v 5 (.int .i64), .v 6 (.int .i64)]
def r22_Squarefree.x1 : Xs := [(.exit 0, [.v 0 (.int .i64), .v 5 (.int .i64)])]
def r22_Squarefree.r1 (x : (Fm.ty r22_Squarefree.d1).den) : Option ((Fm.ty r22_Squarefree.d1).den ⊕ (Xs.T r22_Squarefree.x1)) := r22_Squarefree.s1 x.1 x.2.1 x.2.2.1
def r22_Squarefree.h0 : HT := .n
def r22_Squarefree.c0 : Code := (find (loops r22_Squarefree.c1 r22_Squarefree.h1) 0).getD .skip
def r22_Squarefree.d0 : Fm := [.v 0 (.int .i64), .v 5 (.int .i64), .v 6 (.int .i64)]
def r22_Squarefree.x0 : Xs := [(.exit 2, [.v 0 (.int .i64), .v 5 (.int .i64), .v 6 (.int .i64)])]
def r22_Squarefree.r0 (x : (Fm.ty r22_Squarefree.d0).den) : Option ((Fm.ty r22_Squarefree.d0).den ⊕ (Xs.T r22_Squarefree.x0)) := r22_Squarefree.s0 x.1 x.2.1 x.2.2.1
def r22_Squarefree.L : Lam := fun _ i s K => cond (Nat.beq i 0) (lamK r22_Squarefree.d0 r22_Squarefree.x0 r22_Squarefree.r0 s K) (cond (Nat.beq i 1) (lamK r22_Squarefree.d1 r22_Squarefree.x1 r22_Squarefree.r1 s K) (none))
theorem r22_Squarefree.hf0 (x) : roundK env (orc r22_Squarefree.o) (orcB r22_Squarefree.oB) 48 r22_Squarefree.L r22_Squarefree.c0 r22_Squarefree.h0 r22_Squarefree.d0 r22_Squarefree.x0 x = r22_Squarefree.r0 x := by kernel_rfl
theorem r22_Squarefree.hf1 (x) : roundK env (orc r22_Squarefree.o) (orcB r22_Squarefree.oB) 48 r22_Squarefree.L r22_Squarefree.c1 r22_Squarefree.h1 r22_Squarefree.d1 r22_Squarefree.x1 x = r22_Squarefree.r1 x := by kernel_rfl
theorem r22_Squarefree.os : AllOk prog r22_Squarefree.o := trivial
theorem r22_Squarefree.osB : AllBOk prog r22_Squarefree.oB := trivial
theorem r22_Squarefree.l0 {C : Ctx} (hC : C.n = 48) : LamAt prog C r22_Squarefree.L 0 r22_Squarefree.c0 := by
  intro R s K r hk
  refine loop_ok (D := r22_Squarefree.d0) (X := r22_Squarefree.x0) (h := r22_Squarefree.h0) (f := r22_Squarefree.r0) tabs (orc_ok _ r22_Squarefree.os) (orcB_ok _ r22_Squarefree.osB) (fun x => by rw [hC]; exact r22_Squarefree.hf0 x) (Λ := r22_Squarefree.L) ?_ (by kernel_rfl) (by kernel_rfl) (K := K) (s := s) (by exact hk)
  exact by
    have e : loops r22_Squarefree.c0 r22_Squarefree.h0 = [] := by kernel_rfl
    rw [e]
    exact LamOk.nil
theorem r22_Squarefree.l1 {C : Ctx} (hC : C.n = 48) : LamAt prog C r22_Squarefree.L 1 r22_Squarefree.c1 := by
  intro R s K r hk
  refine loop_ok (D := r22_Squarefree.d1) (X := r22_Squarefree.x1) (h := r22_Squarefree.h1) (f := r22_Squarefree.r1) tabs (orc_ok _ r22_Squarefree.os) (orcB_ok _ r22_Squarefree.osB) (fun x => by rw [hC]; exact r22_Squarefree.hf1 x) (Λ := r22_Squarefree.L) ?_ (by kernel_rfl) (by kernel_rfl) (K := K) (s := s) (by exact hk)
  exact by
    have e : loops r22_Squarefree.c1 r22_Squarefree.h1 = [(0, r22_Squarefree.c0)] := by kernel_rfl
    rw [e]
    exact LamOk.cons (r22_Squarefree.l0 hC) (LamOk.nil)
theorem r22_Squarefree.hk (x) : semK env (orc r22_Squarefree.o) (orcB r22_Squarefree.oB) 48 (r22_Squarefree.L _) r22_Squarefree.c r22_Squarefree.h (S.init (avs [.int .i64] x)) (fin env Tryz.f243 ⟨[.int .i64], .pair (.int .i64) (.pair (.int .i64) (.pair (.int .i64) (.unit))), true, false⟩) = r22_Squarefree.en.g x := by kernel_rfl
theorem r22_Squarefree.ok : EnOk prog r22_Squarefree.en := by
  refine fun_ok (g := ⟨[.int .i64], .pair (.int .i64) (.pair (.int .i64) (.pair (.int .i64) (.unit))), true, false⟩) (h := r22_Squarefree.h) (Λ := r22_Squarefree.L) tabs r22_Squarefree.os r22_Squarefree.osB Tryz.func243 (c := r22_Squarefree.c) (by kernel_rfl) (by decide +kernel) (by decide +kernel) (fun C hC => ?_) (fun x => r22_Squarefree.hk x)
  exact by
    have e : loops r22_Squarefree.c r22_Squarefree.h = [(1, r22_Squarefree.c1)] := by kernel_rfl
    rw [e]
    exact LamOk.cons (r22_Squarefree.l1 hC) (LamOk.nil)
def r22_Discriminant.j2 (t4 : Int) : Option (Int × Int × Unit) :=
  (some ((IntKind.wrap .i64 ((4 : Int) * t4)), ((0 : Int), ())))
def r22_Discriminant.j1 (t4 : Int) : Option (Int × Int × Unit) :=
  ((r22_Mod t4 (4 : Int)).bind fun y2 =>
  (cond ((y2 == (1 : Int)))
  ((some (t4, ((0 : Int), ()))))
  ((r22_Discriminant.j2 t4))))
def r22_Discriminant (t0 : Int) : Option (Int × Int × Unit) :=
  ((r22_Squarefree t0).bind fun y1 =>
  (cond ((y1.2.2.1 != (0 : Int)))
  ((some ((0 : Int), (y1.2.2.1, ()))))
  ((r22_Discriminant.j1 y1.1))))
def r22_Discriminant.en : En := ⟨215, [.int .i64], .pair (.int .i64) (.pair (.int .i64) (.unit)), true, fun x => r22_Discriminant x.1⟩
def r22_Discriminant.o : List En := [r22_Mod.en, r22_Squarefree.en]
def r22_Discriminant.oB : List EnB := []
def r22_Discriminant.h : HT := .n
def r22_Discriminant.c : Code := Tryz.f215.body.getD .skip
def r22_Discriminant.L : Lam := fun _ i s K => none
theorem r22_Discriminant.os : AllOk prog r22_Discriminant.o := ⟨r22_Mod.ok, r22_Squarefree.ok, trivial⟩
theorem r22_Discriminant.osB : AllBOk prog r22_Discriminant.oB := trivial
theorem r22_Discriminant.hk (x) : semK env (orc r22_Discriminant.o) (orcB r22_Discriminant.oB) 22 (r22_Discriminant.L _) r22_Discriminant.c r22_Discriminant.h (S.init (avs [.int .i64] x)) (fin env Tryz.f215 ⟨[.int .i64], .pair (.int .i64) (.pair (.int .i64) (.unit)), true, false⟩) = r22_Discriminant.en.g x := by kernel_rfl
theorem r22_Discriminant.ok : EnOk prog r22_Discriminant.en := by
  refine fun_ok (g := ⟨[.int .i64], .pair (.int .i64) (.pair (.int .i64) (.unit)), true, false⟩) (h := r22_Discriminant.h) (Λ := r22_Discriminant.L) tabs r22_Discriminant.os r22_Discriminant.osB Tryz.func215 (c := r22_Discriminant.c) (by kernel_rfl) (by decide +kernel) (by decide +kernel) (fun C hC => ?_) (fun x => r22_Discriminant.hk x)
  exact by
    have e : loops r22_Discriminant.c r22_Discriminant.h = [] := by kernel_rfl
    rw [e]
    exact LamOk.nil
end
end Go.Proofs.YtgbndganadelpaaGreatDoor.E
