/- Functions of the program as_ functions on values, without fuel, and that the evaluator computes them (printed by gen.py). -/
import Derived.Test.YtgbndganadelpaaGreatDoorYLocalmassStandard8
namespace Go.Proofs.YtgbndganadelpaaGreatDoor.E
noncomputable section
open Go
set_option linter.unusedVariables false
set_option maxRecDepth 100000
def integer_Pow.j4 (t1 : Int) (b4_0 : Bool) (b4_1 : List Int) (b6_0 : Bool) (b6_1 : List Int) (b7_0 : Bool) (b7_1 : List Int) : Option ((Int × (Bool × List Int × Unit) × (Bool × List Int × Unit) × (Bool × List Int × Unit) × Unit) ⊕ (((Bool × List Int × Unit) × (Bool × List Int × Unit) × Unit))) :=
  (some (.inl ((IntKind.wrap .i64 (Int.tdiv t1 (2 : Int))), (b4_0, (b4_1, ())), (b6_0, (b6_1, ())), (b7_0, (b7_1, ())), ())))
def integer_Pow.j3 (t1 : Int) (b4_0 : Bool) (b4_1 : List Int) (b6_0 : Bool) (b6_1 : List Int) (b7_0 : Bool) (b7_1 : List Int) : Option ((Int × (Bool × List Int × Unit) × (Bool × List Int × Unit) × (Bool × List Int × Unit) × Unit) ⊕ (((Bool × List Int × Unit) × (Bool × List Int × Unit) × Unit))) :=
  (cond ((decide (t1 > (1 : Int))))
  (((integer_Mul (b7_0, (b7_1, ())) (b7_0, (b7_1, ()))).bind fun y4 =>
  (integer_Pow.j4 t1 b4_0 b4_1 b6_0 b6_1 y4.1 y4.2.1)))
  ((integer_Pow.j4 t1 b4_0 b4_1 b6_0 b6_1 b7_0 b7_1)))
def integer_Pow.j2 (t1 : Int) (b4_0 : Bool) (b4_1 : List Int) (b6_0 : Bool) (b6_1 : List Int) (b7_0 : Bool) (b7_1 : List Int) : Option ((Int × (Bool × List Int × Unit) × (Bool × List Int × Unit) × (Bool × List Int × Unit) × Unit) ⊕ (((Bool × List Int × Unit) × (Bool × List Int × Unit) × Unit))) :=
  (cond (((Int.tmod t1 (2 : Int)) == (1 : Int)))
  (((integer_Mul (b6_0, (b6_1, ())) (b7_0, (b7_1, ()))).bind fun y3 =>
  (integer_Pow.j3 t1 b4_0 b4_1 y3.1 y3.2.1 b7_0 b7_1)))
  ((integer_Pow.j3 t1 b4_0 b4_1 b6_0 b6_1 b7_0 b7_1)))
def integer_Pow.s0 (t1 : Int) (b4 : Bool × List Int × Unit) (b6 : Bool × List Int × Unit) (b7 : Bool × List Int × Unit) : Option ((Int × (Bool × List Int × Unit) × (Bool × List Int × Unit) × (Bool × List Int × Unit) × Unit) ⊕ (((Bool × List Int × Unit) × (Bool × List Int × Unit) × Unit))) :=
  (cond ((decide (t1 > (0 : Int))))
  ((integer_Pow.j2 t1 b4.1 b4.2.1 b6.1 b6.2.1 b7.1 b7.2.1))
  ((some (.inr ((b4.1, (b4.2.1, ())), (b6.1, (b6.2.1, ())), ())))))
def integer_Pow.k0 (b4 : Bool × List Int × Unit) (b6 : Bool × List Int × Unit) : Option ((Bool × List Int × Unit) × Bool × Unit) :=
  (some ((b6.1, (b6.2.1, ())), (true, ())))
def integer_Pow.j1 (t1 : Int) (b2_0 : Bool) (b2_1 : List Int) (b4_1 : List Int) : Option ((Bool × List Int × Unit) × Bool × Unit) :=
  ((integer_Small (1 : Int)).bind fun y1 =>
  ((integer_Normalize (b2_0, (b2_1, ()))).bind fun y2 =>
  ((iterL (fun x : Int × (Bool × List Int × Unit) × (Bool × List Int × Unit) × (Bool × List Int × Unit) × Unit => integer_Pow.s0 x.1 x.2.1 x.2.2.1 x.2.2.2.1) (t1, (false, (b4_1, ())), (y1.1, (y1.2.1, ())), (y2.1, (y2.2.1, ())), ())).bind fun y => integer_Pow.k0 y.1 y.2.1)))
def integer_Pow (t0 : Bool × List Int × Unit) (t1 : Int) : Option ((Bool × List Int × Unit) × Bool × Unit) :=
  (cond ((decide (t1 < (0 : Int))))
  ((some ((false, (([] : List Int), ())), (false, ()))))
  ((cond ((decide (t1 > (64 : Int))))
  ((some ((false, (([] : List Int), ())), (false, ()))))
  ((integer_Pow.j1 t1 t0.1 t0.2.1 ([] : List Int))))))
def integer_Pow.en : En := ⟨110, [tZ, .int .i64], .pair (tZ) (.pair (.bool) (.unit)), true, fun x => integer_Pow x.1 x.2.1⟩
def integer_Pow.o : List En := [integer_Small.en, integer_Normalize.en, integer_Mul.en]
def integer_Pow.oB : List EnB := []
def integer_Pow.h : HT := .two (.n) (.two (.n) (.two (.n) (.two (.lp 0) (.n))))
def integer_Pow.c : Code := Tryz.f110.body.getD .skip
def integer_Pow.h0 : HT := .n
def integer_Pow.c0 : Code := (find (loops integer_Pow.c integer_Pow.h) 0).getD .skip
def integer_Pow.d0 : Fm := [.v 1 (.int .i64), .box 4 (tZ), .box 6 (tZ), .box 7 (tZ), .ptr 4 4, .ptr 6 6, .ptr 7 7]
def integer_Pow.x0 : Xs := [(.exit 0, [.box 4 (tZ), .box 6 (tZ), .ptr 4 4, .ptr 6 6])]
def integer_Pow.r0 (x : (Fm.ty integer_Pow.d0).den) : Option ((Fm.ty integer_Pow.d0).den ⊕ (Xs.T integer_Pow.x0)) := integer_Pow.s0 x.1 x.2.1 x.2.2.1 x.2.2.2.1
def integer_Pow.L : Lam := fun _ i s K => cond (Nat.beq i 0) (lamK integer_Pow.d0 integer_Pow.x0 integer_Pow.r0 s K) (none)
theorem integer_Pow.hf0 (x) : roundK env (orc integer_Pow.o) (orcB integer_Pow.oB) 34 integer_Pow.L integer_Pow.c0 integer_Pow.h0 integer_Pow.d0 integer_Pow.x0 x = integer_Pow.r0 x := by kernel_rfl
theorem integer_Pow.os : AllOk prog integer_Pow.o := ⟨integer_Small.ok, integer_Normalize.ok, integer_Mul.ok, trivial⟩
theorem integer_Pow.osB : AllBOk prog integer_Pow.oB := trivial
theorem integer_Pow.l0 {C : Ctx} (hC : C.n = 34) : LamAt prog C integer_Pow.L 0 integer_Pow.c0 := by
  intro R s K r hk
  refine loop_ok (D := integer_Pow.d0) (X := integer_Pow.x0) (h := integer_Pow.h0) (f := integer_Pow.r0) tabs (orc_ok _ integer_Pow.os) (orcB_ok _ integer_Pow.osB) (fun x => by rw [hC]; exact integer_Pow.hf0 x) (Λ := integer_Pow.L) ?_ (by kernel_rfl) (by kernel_rfl) (K := K) (s := s) (by exact hk)
  exact by
    have e : loops integer_Pow.c0 integer_Pow.h0 = [] := by kernel_rfl
    rw [e]
    exact LamOk.nil
theorem integer_Pow.hk (x) : semK env (orc integer_Pow.o) (orcB integer_Pow.oB) 34 (integer_Pow.L _) integer_Pow.c integer_Pow.h (S.init (avs [tZ, .int .i64] x)) (fin env Tryz.f110 ⟨[tZ, .int .i64], .pair (tZ) (.pair (.bool) (.unit)), true, false⟩) = integer_Pow.en.g x := by kernel_rfl
theorem integer_Pow.ok : EnOk prog integer_Pow.en := by
  refine fun_ok (g := ⟨[tZ, .int .i64], .pair (tZ) (.pair (.bool) (.unit)), true, false⟩) (h := integer_Pow.h) (Λ := integer_Pow.L) tabs integer_Pow.os integer_Pow.osB Tryz.func110 (c := integer_Pow.c) (by kernel_rfl) (by decide +kernel) (by decide +kernel) (fun C hC => ?_) (fun x => integer_Pow.hk x)
  exact by
    have e : loops integer_Pow.c integer_Pow.h = [(0, integer_Pow.c0)] := by kernel_rfl
    rw [e]
    exact LamOk.cons (integer_Pow.l0 hC) (LamOk.nil)
def rational_Normalize (t0 : (Bool × List Int × Unit) × (Bool × List Int × Unit) × Unit) : Option ((Bool × List Int × Unit) × (Bool × List Int × Unit) × Unit) :=
  ((rational_of ((t0.1.1, (t0.1.2.1, ())), ((t0.2.1.1, (t0.2.1.2.1, ())), ()))).bind fun y1 =>
  ((rational_fraction__rat y1).bind fun y2 =>
  (some ((y2.1.1, (y2.1.2.1, ())), ((y2.2.1.1, (y2.2.1.2.1, ())), ())))))
def rational_Normalize.en : En := ⟨104, [.pair (tZ) (.pair (tZ) (.unit))], .pair (tZ) (.pair (tZ) (.unit)), false, fun x => rational_Normalize x.1⟩
def rational_Normalize.o : List En := [rational_of.en, rational_fraction__rat.en]
def rational_Normalize.oB : List EnB := []
def rational_Normalize.h : HT := .n
def rational_Normalize.c : Code := Tryz.f104.body.getD .skip
def rational_Normalize.L : Lam := fun _ i s K => none
theorem rational_Normalize.os : AllOk prog rational_Normalize.o := ⟨rational_of.ok, rational_fraction__rat.ok, trivial⟩
theorem rational_Normalize.osB : AllBOk prog rational_Normalize.oB := trivial
theorem rational_Normalize.hk (x) : semK env (orc rational_Normalize.o) (orcB rational_Normalize.oB) 6 (rational_Normalize.L _) rational_Normalize.c rational_Normalize.h (S.init (avs [.pair (tZ) (.pair (tZ) (.unit))] x)) (fin env Tryz.f104 ⟨[.pair (tZ) (.pair (tZ) (.unit))], .pair (tZ) (.pair (tZ) (.unit)), false, false⟩) = rational_Normalize.en.g x := by kernel_rfl
theorem rational_Normalize.ok : EnOk prog rational_Normalize.en := by
  refine fun_ok (g := ⟨[.pair (tZ) (.pair (tZ) (.unit))], .pair (tZ) (.pair (tZ) (.unit)), false, false⟩) (h := rational_Normalize.h) (Λ := rational_Normalize.L) tabs rational_Normalize.os rational_Normalize.osB Tryz.func104 (c := rational_Normalize.c) (by kernel_rfl) (by decide +kernel) (by decide +kernel) (fun C hC => ?_) (fun x => rational_Normalize.hk x)
  exact by
    have e : loops rational_Normalize.c rational_Normalize.h = [] := by kernel_rfl
    rw [e]
    exact LamOk.nil
def rational_New.j1 (b2_0 : Bool) (b2_1 : List Int) (b3_0 : Bool) (b3_1 : List Int) (b4_1 : List Int) (b4_3 : List Int) : Option (((Bool × List Int × Unit) × (Bool × List Int × Unit) × Unit) × Bool × Unit) :=
  ((rational_Normalize ((b2_0, (b2_1, ())), ((b3_0, (b3_1, ())), ()))).bind fun y2 =>
  (some (((y2.1.1, (y2.1.2.1, ())), ((y2.2.1.1, (y2.2.1.2.1, ())), ())), (true, ()))))
def rational_New (t0 : Bool × List Int × Unit) (t1 : Bool × List Int × Unit) : Option (((Bool × List Int × Unit) × (Bool × List Int × Unit) × Unit) × Bool × Unit) :=
  ((integer_Sign (t1.1, (t1.2.1, ()))).bind fun y1 =>
  (cond ((y1 == (0 : Int)))
  ((some (((false, (([] : List Int), ())), ((false, (([] : List Int), ())), ())), (false, ()))))
  ((rational_New.j1 t0.1 t0.2.1 t1.1 t1.2.1 ([] : List Int) ([] : List Int)))))
def rational_New.en : En := ⟨111, [tZ, tZ], .pair (.pair (tZ) (.pair (tZ) (.unit))) (.pair (.bool) (.unit)), true, fun x => rational_New x.1 x.2.1⟩
def rational_New.o : List En := [integer_Sign.en, rational_Normalize.en]
def rational_New.oB : List EnB := []
def rational_New.h : HT := .n
def rational_New.c : Code := Tryz.f111.body.getD .skip
def rational_New.L : Lam := fun _ i s K => none
theorem rational_New.os : AllOk prog rational_New.o := ⟨integer_Sign.ok, rational_Normalize.ok, trivial⟩
theorem rational_New.osB : AllBOk prog rational_New.oB := trivial
theorem rational_New.hk (x) : semK env (orc rational_New.o) (orcB rational_New.oB) 14 (rational_New.L _) rational_New.c rational_New.h (S.init (avs [tZ, tZ] x)) (fin env Tryz.f111 ⟨[tZ, tZ], .pair (.pair (tZ) (.pair (tZ) (.unit))) (.pair (.bool) (.unit)), true, false⟩) = rational_New.en.g x := by kernel_rfl
theorem rational_New.ok : EnOk prog rational_New.en := by
  refine fun_ok (g := ⟨[tZ, tZ], .pair (.pair (tZ) (.pair (tZ) (.unit))) (.pair (.bool) (.unit)), true, false⟩) (h := rational_New.h) (Λ := rational_New.L) tabs rational_New.os rational_New.osB Tryz.func111 (c := rational_New.c) (by kernel_rfl) (by decide +kernel) (by decide +kernel) (fun C hC => ?_) (fun x => rational_New.hk x)
  exact by
    have e : loops rational_New.c rational_New.h = [] := by kernel_rfl
    rw [e]
    exact LamOk.nil
def rational_Pow.j2 (b4_1 : List Int) (b4_3 : List Int) (b7_0 : Bool) (b7_1 : List Int) (b9_0 : Bool) (b9_1 : List Int) : Option (((Bool × List Int × Unit) × (Bool × List Int × Unit) × Unit) × Bool × Unit) :=
  ((rational_New (b7_0, (b7_1, ())) (b9_0, (b9_1, ()))).bind fun y4 =>
  (some (((y4.1.1.1, (y4.1.1.2.1, ())), ((y4.1.2.1.1, (y4.1.2.1.2.1, ())), ())), (y4.2.1, ()))))
def rational_Pow.j1 (t1 : Int) (b2_0 : Bool) (b2_1 : List Int) (b2_2 : Bool) (b2_3 : List Int) (b4_1 : List Int) (b4_3 : List Int) : Option (((Bool × List Int × Unit) × (Bool × List Int × Unit) × Unit) × Bool × Unit) :=
  ((rational_of ((b2_0, (b2_1, ())), ((b2_2, (b2_3, ())), ()))).bind fun y1 =>
  ((integer_Pow (y1.1.1, (y1.1.2.1, ())) (mx2 t1 (IntKind.wrap .i64 (0 - t1)))).bind fun y2 =>
  ((integer_Pow (y1.2.1.1, (y1.2.1.2.1, ())) (mx2 t1 (IntKind.wrap .i64 (0 - t1)))).bind fun y3 =>
  (cond ((decide (t1 < (0 : Int))))
  ((rational_Pow.j2 b4_1 b4_3 y3.1.1 y3.1.2.1 y2.1.1 y2.1.2.1))
  ((rational_Pow.j2 b4_1 b4_3 y2.1.1 y2.1.2.1 y3.1.1 y3.1.2.1))))))
def rational_Pow (t0 : (Bool × List Int × Unit) × (Bool × List Int × Unit) × Unit) (t1 : Int) : Option (((Bool × List Int × Unit) × (Bool × List Int × Unit) × Unit) × Bool × Unit) :=
  (cond ((decide (t1 < (-64 : Int))))
  ((some (((false, (([] : List Int), ())), ((false, (([] : List Int), ())), ())), (false, ()))))
  ((cond ((decide (t1 > (64 : Int))))
  ((some (((false, (([] : List Int), ())), ((false, (([] : List Int), ())), ())), (false, ()))))
  ((rational_Pow.j1 t1 t0.1.1 t0.1.2.1 t0.2.1.1 t0.2.1.2.1 ([] : List Int) ([] : List Int))))))
def rational_Pow.en : En := ⟨51, [.pair (tZ) (.pair (tZ) (.unit)), .int .i64], .pair (.pair (tZ) (.pair (tZ) (.unit))) (.pair (.bool) (.unit)), true, fun x => rational_Pow x.1 x.2.1⟩
def rational_Pow.o : List En := [rational_of.en, integer_Pow.en, rational_New.en]
def rational_Pow.oB : List EnB := []
def rational_Pow.h : HT := .n
def rational_Pow.c : Code := Tryz.f51.body.getD .skip
def rational_Pow.L : Lam := fun _ i s K => none
theorem rational_Pow.os : AllOk prog rational_Pow.o := ⟨rational_of.ok, integer_Pow.ok, rational_New.ok, trivial⟩
theorem rational_Pow.osB : AllBOk prog rational_Pow.oB := trivial
theorem rational_Pow.hk (x) : semK env (orc rational_Pow.o) (orcB rational_Pow.oB) 49 (rational_Pow.L _) rational_Pow.c rational_Pow.h (S.init (avs [.pair (tZ) (.pair (tZ) (.unit)), .int .i64] x)) (fin env Tryz.f51 ⟨[.pair (tZ) (.pair (tZ) (.unit)), .int .i64], .pair (.pair (tZ) (.pair (tZ) (.unit))) (.pair (.bool) (.unit)), true, false⟩) = rational_Pow.en.g x := by kernel_rfl
theorem rational_Pow.ok : EnOk prog rational_Pow.en := by
  refine fun_ok (g := ⟨[.pair (tZ) (.pair (tZ) (.unit)), .int .i64], .pair (.pair (tZ) (.pair (tZ) (.unit))) (.pair (.bool) (.unit)), true, false⟩) (h := rational_Pow.h) (Λ := rational_Pow.L) tabs rational_Pow.os rational_Pow.osB Tryz.func51 (c := rational_Pow.c) (by kernel_rfl) (by decide +kernel) (by decide +kernel) (fun C hC => ?_) (fun x => rational_Pow.hk x)
  exact by
    have e : loops rational_Pow.c rational_Pow.h = [] := by kernel_rfl
    rw [e]
    exact LamOk.nil
def integer_Add.j2 (t5 : List Int) (t6 : List Int) (b3_0 : Bool) (b3_1 : List Int) (b4_1 : List Int) : Option (Bool × List Int × Unit) :=
  ((integer_minus t6 t5).bind fun y8 =>
  ((integer_signed b3_0 y8).bind fun y9 =>
  (some (y9.1, (y9.2.1, ())))))
def integer_Add.j1 (t5 : List Int) (t6 : List Int) (b2_0 : Bool) (b2_1 : List Int) (b3_0 : Bool) (b3_1 : List Int) (b4_1 : List Int) : Option (Bool × List Int × Unit) :=
  ((integer_compare t5 t6).bind fun y5 =>
  (cond ((decide (y5 ≥ (0 : Int))))
  (((integer_minus t5 t6).bind fun y6 =>
  ((integer_signed b2_0 y6).bind fun y7 =>
  (some (y7.1, (y7.2.1, ()))))))
  ((integer_Add.j2 t5 t6 b3_0 b3_1 b4_1))))
def integer_Add (t0 : Bool × List Int × Unit) (t1 : Bool × List Int × Unit) : Option (Bool × List Int × Unit) :=
  ((integer_magnitude (t0.1, (t0.2.1, ()))).bind fun y1 =>
  ((integer_magnitude (t1.1, (t1.2.1, ()))).bind fun y2 =>
  (cond ((t0.1 == t1.1))
  (((integer_plus y1 y2).bind fun y3 =>
  ((integer_signed t0.1 y3).bind fun y4 =>
  (some (y4.1, (y4.2.1, ()))))))
  ((integer_Add.j1 y1 y2 t0.1 t0.2.1 t1.1 t1.2.1 ([] : List Int))))))
def integer_Add.en : En := ⟨255, [tZ, tZ], tZ, false, fun x => integer_Add x.1 x.2.1⟩
def integer_Add.o : List En := [integer_magnitude.en, integer_signed.en, integer_compare.en, integer_plus.en, integer_minus.en]
def integer_Add.oB : List EnB := []
def integer_Add.h : HT := .n
def integer_Add.c : Code := Tryz.f255.body.getD .skip
def integer_Add.L : Lam := fun _ i s K => none
theorem integer_Add.os : AllOk prog integer_Add.o := ⟨integer_magnitude.ok, integer_signed.ok, integer_compare.ok, integer_plus.ok, integer_minus.ok, trivial⟩
theorem integer_Add.osB : AllBOk prog integer_Add.oB := trivial
theorem integer_Add.hk (x) : semK env (orc integer_Add.o) (orcB integer_Add.oB) 38 (integer_Add.L _) integer_Add.c integer_Add.h (S.init (avs [tZ, tZ] x)) (fin env Tryz.f255 ⟨[tZ, tZ], tZ, false, false⟩) = integer_Add.en.g x := by kernel_rfl
theorem integer_Add.ok : EnOk prog integer_Add.en := by
  refine fun_ok (g := ⟨[tZ, tZ], tZ, false, false⟩) (h := integer_Add.h) (Λ := integer_Add.L) tabs integer_Add.os integer_Add.osB Tryz.func255 (c := integer_Add.c) (by kernel_rfl) (by decide +kernel) (by decide +kernel) (fun C hC => ?_) (fun x => integer_Add.hk x)
  exact by
    have e : loops integer_Add.c integer_Add.h = [] := by kernel_rfl
    rw [e]
    exact LamOk.nil
def rational_sum.j1 (t6 : List (Bool × List Int × Unit)) (t7 : Int) (t8 : Int) (b2_0 : Bool) (b2_1 : List Int) (b3_0 : Bool) (b3_1 : List Int) : Option (((List (Bool × List Int × Unit)) × Int × Int × (Bool × List Int × Unit) × (Bool × List Int × Unit) × Unit) ⊕ (((Bool × List Int × Unit) × (Bool × List Int × Unit) × Unit))) :=
  (cond (inB t8 (List.length t6))
  (((integer_Add (b3_0, (b3_1, ())) ((List.getD t6 (t8.toNat) (false, (([] : List Int), ()))).1, ((List.getD t6 (t8.toNat) (false, (([] : List Int), ()))).2.1, ()))).bind fun y1 =>
  (some (.inl (t6, t7, (IntKind.wrap .i64 (t8 + (1 : Int))), (b2_0, (b2_1, ())), (y1.1, (y1.2.1, ())), ())))))
  none)
def rational_sum.s0 (t6 : List (Bool × List Int × Unit)) (t7 : Int) (t8 : Int) (b2 : Bool × List Int × Unit) (b3 : Bool × List Int × Unit) : Option (((List (Bool × List Int × Unit)) × Int × Int × (Bool × List Int × Unit) × (Bool × List Int × Unit) × Unit) ⊕ (((Bool × List Int × Unit) × (Bool × List Int × Unit) × Unit))) :=
  (cond ((decide (t8 < t7)))
  ((rational_sum.j1 t6 t7 t8 b2.1 b2.2.1 b3.1 b3.2.1))
  ((some (.inr ((b2.1, (b2.2.1, ())), (b3.1, (b3.2.1, ())), ())))))
def rational_sum.k0 (b2 : Bool × List Int × Unit) (b3 : Bool × List Int × Unit) : Option (Bool × List Int × Unit) :=
  (some (b3.1, (b3.2.1, ())))
def rational_sum (t0 : List (Bool × List Int × Unit)) : Option (Bool × List Int × Unit) :=
  ((iterL (fun x : (List (Bool × List Int × Unit)) × Int × Int × (Bool × List Int × Unit) × (Bool × List Int × Unit) × Unit => rational_sum.s0 x.1 x.2.1 x.2.2.1 x.2.2.2.1 x.2.2.2.2.1) (t0, ((List.length t0 : Nat) : Int), (0 : Int), (false, (([] : List Int), ())), (false, (([] : List Int), ())), ())).bind fun y => rational_sum.k0 y.1 y.2.1)
def rational_sum.en : En := ⟨250, [.sl (tZ)], tZ, false, fun x => rational_sum x.1⟩
def rational_sum.o : List En := [integer_Add.en]
def rational_sum.oB : List EnB := []
def rational_sum.h : HT := .two (.n) (.two (.n) (.two (.two (.n) (.lp 0)) (.n)))
def rational_sum.c : Code := Tryz.f250.body.getD .skip
def rational_sum.h0 : HT := .n
def rational_sum.c0 : Code := (find (loops rational_sum.c rational_sum.h) 0).getD .skip
def rational_sum.d0 : Fm := [.v 6 (.sl (tZ)), .v 7 (.int .i64), .v 8 (.int .i64), .box 2 (tZ), .box 3 (tZ), .ptr 2 2, .ptr 3 3]
def rational_sum.x0 : Xs := [(.exit 0, [.box 2 (tZ), .box 3 (tZ), .ptr 2 2, .ptr 3 3])]
def rational_sum.r0 (x : (Fm.ty rational_sum.d0).den) : Option ((Fm.ty rational_sum.d0).den ⊕ (Xs.T rational_sum.x0)) := rational_sum.s0 x.1 x.2.1 x.2.2.1 x.2.2.2.1 x.2.2.2.2.1
def rational_sum.L : Lam := fun _ i s K => cond (Nat.beq i 0) (lamK rational_sum.d0 rational_sum.x0 rational_sum.r0 s K) (none)
theorem rational_sum.hf0 (x) : roundK env (orc rational_sum.o) (orcB rational_sum.oB) 17 rational_sum.L rational_sum.c0 rational_sum.h0 rational_sum.d0 rational_sum.x0 x = rational_sum.r0 x := by kernel_rfl
theorem rational_sum.os : AllOk prog rational_sum.o := ⟨integer_Add.ok, trivial⟩
theorem rational_sum.osB : AllBOk prog rational_sum.oB := trivial
theorem rational_sum.l0 {C : Ctx} (hC : C.n = 17) : LamAt prog C rational_sum.L 0 rational_sum.c0 := by
  intro R s K r hk
  refine loop_ok (D := rational_sum.d0) (X := rational_sum.x0) (h := rational_sum.h0) (f := rational_sum.r0) tabs (orc_ok _ rational_sum.os) (orcB_ok _ rational_sum.osB) (fun x => by rw [hC]; exact rational_sum.hf0 x) (Λ := rational_sum.L) ?_ (by kernel_rfl) (by kernel_rfl) (K := K) (s := s) (by exact hk)
  exact by
    have e : loops rational_sum.c0 rational_sum.h0 = [] := by kernel_rfl
    rw [e]
    exact LamOk.nil
theorem rational_sum.hk (x) : semK env (orc rational_sum.o) (orcB rational_sum.oB) 17 (rational_sum.L _) rational_sum.c rational_sum.h (S.init (avs [.sl (tZ)] x)) (fin env Tryz.f250 ⟨[.sl (tZ)], tZ, false, false⟩) = rational_sum.en.g x := by kernel_rfl
theorem rational_sum.ok : EnOk prog rational_sum.en := by
  refine fun_ok (g := ⟨[.sl (tZ)], tZ, false, false⟩) (h := rational_sum.h) (Λ := rational_sum.L) tabs rational_sum.os rational_sum.osB Tryz.func250 (c := rational_sum.c) (by kernel_rfl) (by decide +kernel) (by decide +kernel) (fun C hC => ?_) (fun x => rational_sum.hk x)
  exact by
    have e : loops rational_sum.c rational_sum.h = [(0, rational_sum.c0)] := by kernel_rfl
    rw [e]
    exact LamOk.cons (rational_sum.l0 hC) (LamOk.nil)
def rational_Add (t0 : (Bool × List Int × Unit) × (Bool × List Int × Unit) × Unit) (t1 : (Bool × List Int × Unit) × (Bool × List Int × Unit) × Unit) : Option ((Bool × List Int × Unit) × (Bool × List Int × Unit) × Unit) :=
  ((rational_of ((t0.1.1, (t0.1.2.1, ())), ((t0.2.1.1, (t0.2.1.2.1, ())), ()))).bind fun y1 =>
  ((rational_of ((t1.1.1, (t1.1.2.1, ())), ((t1.2.1.1, (t1.2.1.2.1, ())), ()))).bind fun y2 =>
  ((rational_product ([(y1.1.1, (y1.1.2.1, ())), (y2.2.1.1, (y2.2.1.2.1, ()))] : List (Bool × List Int × Unit))).bind fun y3 =>
  ((rational_product ([(y2.1.1, (y2.1.2.1, ())), (y1.2.1.1, (y1.2.1.2.1, ()))] : List (Bool × List Int × Unit))).bind fun y4 =>
  ((rational_sum ([y3, y4] : List (Bool × List Int × Unit))).bind fun y5 =>
  ((rational_product ([(y1.2.1.1, (y1.2.1.2.1, ())), (y2.2.1.1, (y2.2.1.2.1, ()))] : List (Bool × List Int × Unit))).bind fun y6 =>
  ((rational_fraction__rat ((y5.1, (y5.2.1, ())), ((y6.1, (y6.2.1, ())), ()))).bind fun y7 =>
  (some ((y7.1.1, (y7.1.2.1, ())), ((y7.2.1.1, (y7.2.1.2.1, ())), ()))))))))))
def rational_Add.en : En := ⟨231, [.pair (tZ) (.pair (tZ) (.unit)), .pair (tZ) (.pair (tZ) (.unit))], .pair (tZ) (.pair (tZ) (.unit)), false, fun x => rational_Add x.1 x.2.1⟩
def rational_Add.o : List En := [rational_of.en, rational_product.en, rational_fraction__rat.en, rational_sum.en]
def rational_Add.oB : List EnB := []
def rational_Add.h : HT := .n
def rational_Add.c : Code := Tryz.f231.body.getD .skip
def rational_Add.L : Lam := fun _ i s K => none
theorem rational_Add.os : AllOk prog rational_Add.o := ⟨rational_of.ok, rational_product.ok, rational_fraction__rat.ok, rational_sum.ok, trivial⟩
theorem rational_Add.osB : AllBOk prog rational_Add.oB := trivial
theorem rational_Add.hk (x) : semK env (orc rational_Add.o) (orcB rational_Add.oB) 33 (rational_Add.L _) rational_Add.c rational_Add.h (S.init (avs [.pair (tZ) (.pair (tZ) (.unit)), .pair (tZ) (.pair (tZ) (.unit))] x)) (fin env Tryz.f231 ⟨[.pair (tZ) (.pair (tZ) (.unit)), .pair (tZ) (.pair (tZ) (.unit))], .pair (tZ) (.pair (tZ) (.unit)), false, false⟩) = rational_Add.en.g x := by kernel_rfl
theorem rational_Add.ok : EnOk prog rational_Add.en := by
  refine fun_ok (g := ⟨[.pair (tZ) (.pair (tZ) (.unit)), .pair (tZ) (.pair (tZ) (.unit))], .pair (tZ) (.pair (tZ) (.unit)), false, false⟩) (h := rational_Add.h) (Λ := rational_Add.L) tabs rational_Add.os rational_Add.osB Tryz.func231 (c := rational_Add.c) (by kernel_rfl) (by decide +kernel) (by decide +kernel) (fun C hC => ?_) (fun x => rational_Add.hk x)
  exact by
    have e : loops rational_Add.c rational_Add.h = [] := by kernel_rfl
    rw [e]
    exact LamOk.nil
def rational_Neg (t0 : (Bool × List Int × Unit) × (Bool × List Int × Unit) × Unit) : Option ((Bool × List Int × Unit) × (Bool × List Int × Unit) × Unit) :=
  ((rational_of ((t0.1.1, (t0.1.2.1, ())), ((t0.2.1.1, (t0.2.1.2.1, ())), ()))).bind fun y1 =>
  ((integer_Neg (y1.1.1, (y1.1.2.1, ()))).bind fun y2 =>
  ((rational_fraction__rat ((y2.1, (y2.2.1, ())), ((y1.2.1.1, (y1.2.1.2.1, ())), ()))).bind fun y3 =>
  (some ((y3.1.1, (y3.1.2.1, ())), ((y3.2.1.1, (y3.2.1.2.1, ())), ()))))))
def rational_Neg.en : En := ⟨232, [.pair (tZ) (.pair (tZ) (.unit))], .pair (tZ) (.pair (tZ) (.unit)), false, fun x => rational_Neg x.1⟩
def rational_Neg.o : List En := [rational_of.en, rational_fraction__rat.en, integer_Neg.en]
def rational_Neg.oB : List EnB := []
def rational_Neg.h : HT := .n
def rational_Neg.c : Code := Tryz.f232.body.getD .skip
def rational_Neg.L : Lam := fun _ i s K => none
theorem rational_Neg.os : AllOk prog rational_Neg.o := ⟨rational_of.ok, rational_fraction__rat.ok, integer_Neg.ok, trivial⟩
theorem rational_Neg.osB : AllBOk prog rational_Neg.oB := trivial
theorem rational_Neg.hk (x) : semK env (orc rational_Neg.o) (orcB rational_Neg.oB) 13 (rational_Neg.L _) rational_Neg.c rational_Neg.h (S.init (avs [.pair (tZ) (.pair (tZ) (.unit))] x)) (fin env Tryz.f232 ⟨[.pair (tZ) (.pair (tZ) (.unit))], .pair (tZ) (.pair (tZ) (.unit)), false, false⟩) = rational_Neg.en.g x := by kernel_rfl
theorem rational_Neg.ok : EnOk prog rational_Neg.en := by
  refine fun_ok (g := ⟨[.pair (tZ) (.pair (tZ) (.unit))], .pair (tZ) (.pair (tZ) (.unit)), false, false⟩) (h := rational_Neg.h) (Λ := rational_Neg.L) tabs rational_Neg.os rational_Neg.osB Tryz.func232 (c := rational_Neg.c) (by kernel_rfl) (by decide +kernel) (by decide +kernel) (fun C hC => ?_) (fun x => rational_Neg.hk x)
  exact by
    have e : loops rational_Neg.c rational_Neg.h = [] := by kernel_rfl
    rw [e]
    exact LamOk.nil
def rational_Sub (t0 : (Bool × List Int × Unit) × (Bool × List Int × Unit) × Unit) (t1 : (Bool × List Int × Unit) × (Bool × List Int × Unit) × Unit) : Option ((Bool × List Int × Unit) × (Bool × List Int × Unit) × Unit) :=
  ((rational_Neg ((t1.1.1, (t1.1.2.1, ())), ((t1.2.1.1, (t1.2.1.2.1, ())), ()))).bind fun y1 =>
  ((rational_Add ((t0.1.1, (t0.1.2.1, ())), ((t0.2.1.1, (t0.2.1.2.1, ())), ())) y1).bind fun y2 =>
  (some ((y2.1.1, (y2.1.2.1, ())), ((y2.2.1.1, (y2.2.1.2.1, ())), ())))))
def rational_Sub.en : En := ⟨193, [.pair (tZ) (.pair (tZ) (.unit)), .pair (tZ) (.pair (tZ) (.unit))], .pair (tZ) (.pair (tZ) (.unit)), false, fun x => rational_Sub x.1 x.2.1⟩
def rational_Sub.o : List En := [rational_Add.en, rational_Neg.en]
def rational_Sub.oB : List EnB := []
def rational_Sub.h : HT := .n
def rational_Sub.c : Code := Tryz.f193.body.getD .skip
def rational_Sub.L : Lam := fun _ i s K => none
theorem rational_Sub.os : AllOk prog rational_Sub.o := ⟨rational_Add.ok, rational_Neg.ok, trivial⟩
theorem rational_Sub.osB : AllBOk prog rational_Sub.oB := trivial
theorem rational_Sub.hk (x) : semK env (orc rational_Sub.o) (orcB rational_Sub.oB) 9 (rational_Sub.L _) rational_Sub.c rational_Sub.h (S.init (avs [.pair (tZ) (.pair (tZ) (.unit)), .pair (tZ) (.pair (tZ) (.unit))] x)) (fin env Tryz.f193 ⟨[.pair (tZ) (.pair (tZ) (.unit)), .pair (tZ) (.pair (tZ) (.unit))], .pair (tZ) (.pair (tZ) (.unit)), false, false⟩) = rational_Sub.en.g x := by kernel_rfl
theorem rational_Sub.ok : EnOk prog rational_Sub.en := by
  refine fun_ok (g := ⟨[.pair (tZ) (.pair (tZ) (.unit)), .pair (tZ) (.pair (tZ) (.unit))], .pair (tZ) (.pair (tZ) (.unit)), false, false⟩) (h := rational_Sub.h) (Λ := rational_Sub.L) tabs rational_Sub.os rational_Sub.osB Tryz.func193 (c := rational_Sub.c) (by kernel_rfl) (by decide +kernel) (by decide +kernel) (fun C hC => ?_) (fun x => rational_Sub.hk x)
  exact by
    have e : loops rational_Sub.c rational_Sub.h = [] := by kernel_rfl
    rw [e]
    exact LamOk.nil
def localmass_less (t0 : (Bool × List Int × Unit) × (Bool × List Int × Unit) × Unit) (t1 : Int) (t2 : Int) (t3 : Int) : Option ((Bool × List Int × Unit) × (Bool × List Int × Unit) × Unit) :=
  ((localmass_whole t2).bind fun y1 =>
  ((rational_Pow y1 (IntKind.wrap .i64 (0 - t3))).bind fun y2 =>
  ((localmass_whole (1 : Int)).bind fun y3 =>
  ((localmass_whole t1).bind fun y4 =>
  ((rational_Mul y4 ((y2.1.1.1, (y2.1.1.2.1, ())), ((y2.1.2.1.1, (y2.1.2.1.2.1, ())), ()))).bind fun y5 =>
  ((rational_Sub y3 y5).bind fun y6 =>
  ((rational_Mul ((t0.1.1, (t0.1.2.1, ())), ((t0.2.1.1, (t0.2.1.2.1, ())), ())) y6).bind fun y7 =>
  (some ((y7.1.1, (y7.1.2.1, ())), ((y7.2.1.1, (y7.2.1.2.1, ())), ()))))))))))
def localmass_less.en : En := ⟨131, [.pair (tZ) (.pair (tZ) (.unit)), .int .i64, .int .i64, .int .i64], .pair (tZ) (.pair (tZ) (.unit)), false, fun x => localmass_less x.1 x.2.1 x.2.2.1 x.2.2.2.1⟩
def localmass_less.o : List En := [rational_Mul.en, rational_Pow.en, localmass_whole.en, rational_Sub.en]
def localmass_less.oB : List EnB := []
def localmass_less.h : HT := .n
def localmass_less.c : Code := Tryz.f131.body.getD .skip
def localmass_less.L : Lam := fun _ i s K => none
theorem localmass_less.os : AllOk prog localmass_less.o := ⟨rational_Mul.ok, rational_Pow.ok, localmass_whole.ok, rational_Sub.ok, trivial⟩
theorem localmass_less.osB : AllBOk prog localmass_less.oB := trivial
theorem localmass_less.hk (x) : semK env (orc localmass_less.o) (orcB localmass_less.oB) 27 (localmass_less.L _) localmass_less.c localmass_less.h (S.init (avs [.pair (tZ) (.pair (tZ) (.unit)), .int .i64, .int .i64, .int .i64] x)) (fin env Tryz.f131 ⟨[.pair (tZ) (.pair (tZ) (.unit)), .int .i64, .int .i64, .int .i64], .pair (tZ) (.pair (tZ) (.unit)), false, false⟩) = localmass_less.en.g x := by kernel_rfl
theorem localmass_less.ok : EnOk prog localmass_less.en := by
  refine fun_ok (g := ⟨[.pair (tZ) (.pair (tZ) (.unit)), .int .i64, .int .i64, .int .i64], .pair (tZ) (.pair (tZ) (.unit)), false, false⟩) (h := localmass_less.h) (Λ := localmass_less.L) tabs localmass_less.os localmass_less.osB Tryz.func131 (c := localmass_less.c) (by kernel_rfl) (by decide +kernel) (by decide +kernel) (fun C hC => ?_) (fun x => localmass_less.hk x)
  exact by
    have e : loops localmass_less.c localmass_less.h = [] := by kernel_rfl
    rw [e]
    exact LamOk.nil
def rational_Quo (t0 : (Bool × List Int × Unit) × (Bool × List Int × Unit) × Unit) (t1 : (Bool × List Int × Unit) × (Bool × List Int × Unit) × Unit) : Option (((Bool × List Int × Unit) × (Bool × List Int × Unit) × Unit) × Bool × Unit) :=
  ((rational_of ((t0.1.1, (t0.1.2.1, ())), ((t0.2.1.1, (t0.2.1.2.1, ())), ()))).bind fun y1 =>
  ((rational_of ((t1.1.1, (t1.1.2.1, ())), ((t1.2.1.1, (t1.2.1.2.1, ())), ()))).bind fun y2 =>
  ((rational_product ([(y1.1.1, (y1.1.2.1, ())), (y2.2.1.1, (y2.2.1.2.1, ()))] : List (Bool × List Int × Unit))).bind fun y3 =>
  ((rational_product ([(y1.2.1.1, (y1.2.1.2.1, ())), (y2.1.1, (y2.1.2.1, ()))] : List (Bool × List Int × Unit))).bind fun y4 =>
  ((rational_New y3 y4).bind fun y5 =>
  (some (((y5.1.1.1, (y5.1.1.2.1, ())), ((y5.1.2.1.1, (y5.1.2.1.2.1, ())), ())), (y5.2.1, ()))))))))
def rational_Quo.en : En := ⟨132, [.pair (tZ) (.pair (tZ) (.unit)), .pair (tZ) (.pair (tZ) (.unit))], .pair (.pair (tZ) (.pair (tZ) (.unit))) (.pair (.bool) (.unit)), true, fun x => rational_Quo x.1 x.2.1⟩
def rational_Quo.o : List En := [rational_of.en, rational_product.en, rational_New.en]
def rational_Quo.oB : List EnB := []
def rational_Quo.h : HT := .n
def rational_Quo.c : Code := Tryz.f132.body.getD .skip
def rational_Quo.L : Lam := fun _ i s K => none
theorem rational_Quo.os : AllOk prog rational_Quo.o := ⟨rational_of.ok, rational_product.ok, rational_New.ok, trivial⟩
theorem rational_Quo.osB : AllBOk prog rational_Quo.oB := trivial
theorem rational_Quo.hk (x) : semK env (orc rational_Quo.o) (orcB rational_Quo.oB) 27 (rational_Quo.L _) rational_Quo.c rational_Quo.h (S.init (avs [.pair (tZ) (.pair (tZ) (.unit)), .pair (tZ) (.pair (tZ) (.unit))] x)) (fin env Tryz.f132 ⟨[.pair (tZ) (.pair (tZ) (.unit)), .pair (tZ) (.pair (tZ) (.unit))], .pair (.pair (tZ) (.pair (tZ) (.unit))) (.pair (.bool) (.unit)), true, false⟩) = rational_Quo.en.g x := by kernel_rfl
theorem rational_Quo.ok : EnOk prog rational_Quo.en := by
  refine fun_ok (g := ⟨[.pair (tZ) (.pair (tZ) (.unit)), .pair (tZ) (.pair (tZ) (.unit))], .pair (.pair (tZ) (.pair (tZ) (.unit))) (.pair (.bool) (.unit)), true, false⟩) (h := rational_Quo.h) (Λ := rational_Quo.L) tabs rational_Quo.os rational_Quo.osB Tryz.func132 (c := rational_Quo.c) (by kernel_rfl) (by decide +kernel) (by decide +kernel) (fun C hC => ?_) (fun x => rational_Quo.hk x)
  exact by
    have e : loops rational_Quo.c rational_Quo.h = [] := by kernel_rfl
    rw [e]
    exact LamOk.nil
def localmass_half.j1 (t0 : Int) (t1 : Int) (t2 : Int) (t8 : Int) (b6_0 : Bool) (b6_1 : List Int) (b6_2 : Bool) (b6_3 : List Int) (b7_0 : Bool) (b7_1 : List Int) (b7_2 : Bool) (b7_3 : List Int) : Option ((Int × Int × Int × Int × ((Bool × List Int × Unit) × (Bool × List Int × Unit) × Unit) × ((Bool × List Int × Unit) × (Bool × List Int × Unit) × Unit) × Unit) ⊕ ((Int × Int × Int × ((Bool × List Int × Unit) × (Bool × List Int × Unit) × Unit) × ((Bool × List Int × Unit) × (Bool × List Int × Unit) × Unit) × Unit))) :=
  ((localmass_less ((b7_0, (b7_1, ())), ((b7_2, (b7_3, ())), ())) (1 : Int) t0 (IntKind.wrap .i64 ((2 : Int) * t8))).bind fun y2 =>
  (some (.inl (t0, t1, t2, (IntKind.wrap .i64 (t8 + (1 : Int))), ((b6_0, (b6_1, ())), ((b6_2, (b6_3, ())), ())), ((y2.1.1, (y2.1.2.1, ())), ((y2.2.1.1, (y2.2.1.2.1, ())), ())), ()))))
def localmass_half.s0 (t0 : Int) (t1 : Int) (t2 : Int) (t8 : Int) (b6 : (Bool × List Int × Unit) × (Bool × List Int × Unit) × Unit) (b7 : (Bool × List Int × Unit) × (Bool × List Int × Unit) × Unit) : Option ((Int × Int × Int × Int × ((Bool × List Int × Unit) × (Bool × List Int × Unit) × Unit) × ((Bool × List Int × Unit) × (Bool × List Int × Unit) × Unit) × Unit) ⊕ ((Int × Int × Int × ((Bool × List Int × Unit) × (Bool × List Int × Unit) × Unit) × ((Bool × List Int × Unit) × (Bool × List Int × Unit) × Unit) × Unit))) :=
  (cond ((decide (t8 < t1)))
  ((localmass_half.j1 t0 t1 t2 t8 b6.1.1 b6.1.2.1 b6.2.1.1 b6.2.1.2.1 b7.1.1 b7.1.2.1 b7.2.1.1 b7.2.1.2.1))
  ((some (.inr (t0, t1, t2, ((b6.1.1, (b6.1.2.1, ())), ((b6.2.1.1, (b6.2.1.2.1, ())), ())), ((b7.1.1, (b7.1.2.1, ())), ((b7.2.1.1, (b7.2.1.2.1, ())), ())), ())))))
def localmass_half.k0 (t0 : Int) (t1 : Int) (t2 : Int) (b6 : (Bool × List Int × Unit) × (Bool × List Int × Unit) × Unit) (b7 : (Bool × List Int × Unit) × (Bool × List Int × Unit) × Unit) : Option ((Bool × List Int × Unit) × (Bool × List Int × Unit) × Unit) :=
  ((localmass_whole (1 : Int)).bind fun y3 =>
  ((localmass_less ((b7.1.1, (b7.1.2.1, ())), ((b7.2.1.1, (b7.2.1.2.1, ())), ())) t2 t0 t1).bind fun y4 =>
  ((rational_Quo y3 y4).bind fun y5 =>
  (some ((y5.1.1.1, (y5.1.1.2.1, ())), ((y5.1.2.1.1, (y5.1.2.1.2.1, ())), ()))))))
def localmass_half (t0 : Int) (t1 : Int) (t2 : Int) : Option ((Bool × List Int × Unit) × (Bool × List Int × Unit) × Unit) :=
  ((localmass_whole (2 : Int)).bind fun y1 =>
  ((iterL (fun x : Int × Int × Int × Int × ((Bool × List Int × Unit) × (Bool × List Int × Unit) × Unit) × ((Bool × List Int × Unit) × (Bool × List Int × Unit) × Unit) × Unit => localmass_half.s0 x.1 x.2.1 x.2.2.1 x.2.2.2.1 x.2.2.2.2.1 x.2.2.2.2.2.1) (t0, t1, t2, (1 : Int), ((false, (([] : List Int), ())), ((false, (([] : List Int), ())), ())), ((y1.1.1, (y1.1.2.1, ())), ((y1.2.1.1, (y1.2.1.2.1, ())), ())), ())).bind fun y => localmass_half.k0 y.1 y.2.1 y.2.2.1 y.2.2.2.1 y.2.2.2.2.1))
def localmass_half.en : En := ⟨58, [.int .i64, .int .i64, .int .i64], .pair (tZ) (.pair (tZ) (.unit)), false, fun x => localmass_half x.1 x.2.1 x.2.2.1⟩
def localmass_half.o : List En := [localmass_whole.en, localmass_less.en, rational_Quo.en]
def localmass_half.oB : List EnB := []
def localmass_half.h : HT := .two (.n) (.two (.n) (.two (.two (.n) (.lp 0)) (.n)))
def localmass_half.c : Code := Tryz.f58.body.getD .skip
def localmass_half.h0 : HT := .n
def localmass_half.c0 : Code := (find (loops localmass_half.c localmass_half.h) 0).getD .skip
def localmass_half.d0 : Fm := [.v 0 (.int .i64), .v 1 (.int .i64), .v 2 (.int .i64), .v 8 (.int .i64), .box 6 (.pair (tZ) (.pair (tZ) (.unit))), .box 7 (.pair (tZ) (.pair (tZ) (.unit))), .ptr 6 6, .ptr 7 7]
def localmass_half.x0 : Xs := [(.exit 0, [.v 0 (.int .i64), .v 1 (.int .i64), .v 2 (.int .i64), .box 6 (.pair (tZ) (.pair (tZ) (.unit))), .box 7 (.pair (tZ) (.pair (tZ) (.unit))), .ptr 6 6, .ptr 7 7])]
def localmass_half.r0 (x : (Fm.ty localmass_half.d0).den) : Option ((Fm.ty localmass_half.d0).den ⊕ (Xs.T localmass_half.x0)) := localmass_half.s0 x.1 x.2.1 x.2.2.1 x.2.2.2.1 x.2.2.2.2.1 x.2.2.2.2.2.1
def localmass_half.L : Lam := fun _ i s K => cond (Nat.beq i 0) (lamK localmass_half.d0 localmass_half.x0 localmass_half.r0 s K) (none)
theorem localmass_half.hf0 (x) : roundK env (orc localmass_half.o) (orcB localmass_half.oB) 33 localmass_half.L localmass_half.c0 localmass_half.h0 localmass_half.d0 localmass_half.x0 x = localmass_half.r0 x := by kernel_rfl
theorem localmass_half.os : AllOk prog localmass_half.o := ⟨localmass_whole.ok, localmass_less.ok, rational_Quo.ok, trivial⟩
theorem localmass_half.osB : AllBOk prog localmass_half.oB := trivial
theorem localmass_half.l0 {C : Ctx} (hC : C.n = 33) : LamAt prog C localmass_half.L 0 localmass_half.c0 := by
  intro R s K r hk
  refine loop_ok (D := localmass_half.d0) (X := localmass_half.x0) (h := localmass_half.h0) (f := localmass_half.r0) tabs (orc_ok _ localmass_half.os) (orcB_ok _ localmass_half.osB) (fun x => by rw [hC]; exact localmass_half.hf0 x) (Λ := localmass_half.L) ?_ (by kernel_rfl) (by kernel_rfl) (K := K) (s := s) (by exact hk)
  exact by
    have e : loops localmass_half.c0 localmass_half.h0 = [] := by kernel_rfl
    rw [e]
    exact LamOk.nil
theorem localmass_half.hk (x) : semK env (orc localmass_half.o) (orcB localmass_half.oB) 33 (localmass_half.L _) localmass_half.c localmass_half.h (S.init (avs [.int .i64, .int .i64, .int .i64] x)) (fin env Tryz.f58 ⟨[.int .i64, .int .i64, .int .i64], .pair (tZ) (.pair (tZ) (.unit)), false, false⟩) = localmass_half.en.g x := by kernel_rfl
theorem localmass_half.ok : EnOk prog localmass_half.en := by
  refine fun_ok (g := ⟨[.int .i64, .int .i64, .int .i64], .pair (tZ) (.pair (tZ) (.unit)), false, false⟩) (h := localmass_half.h) (Λ := localmass_half.L) tabs localmass_half.os localmass_half.osB Tryz.func58 (c := localmass_half.c) (by kernel_rfl) (by decide +kernel) (by decide +kernel) (fun C hC => ?_) (fun x => localmass_half.hk x)
  exact by
    have e : loops localmass_half.c localmass_half.h = [(0, localmass_half.c0)] := by kernel_rfl
    rw [e]
    exact LamOk.cons (localmass_half.l0 hC) (LamOk.nil)
def localmass_Diagonal.j4 (t0 : Int) (b3_0 : Int) (b3_1 : Int) (b4_1 : List Int) (b4_3 : List Int) : Option (((Bool × List Int × Unit) × (Bool × List Int × Unit) × Unit) × Int × Unit) :=
  ((localmass_half t0 (IntKind.wrap .i64 (Int.tdiv (IntKind.wrap .i64 (b3_0 + (1 : Int))) (2 : Int))) b3_1).bind fun y4 =>
  (some (((y4.1.1, (y4.1.2.1, ())), ((y4.2.1.1, (y4.2.1.2.1, ())), ())), ((0 : Int), ()))))
def localmass_Diagonal.j3 (t0 : Int) (b3_0 : Int) (b3_1 : Int) (b4_1 : List Int) (b4_3 : List Int) : Option (((Bool × List Int × Unit) × (Bool × List Int × Unit) × Unit) × Int × Unit) :=
  (localmass_Diagonal.j4 t0 b3_0 b3_1 b4_1 b4_3)
def localmass_Diagonal.j2 (t0 : Int) (b3_0 : Int) (b3_1 : Int) (b4_1 : List Int) (b4_3 : List Int) : Option (((Bool × List Int × Unit) × (Bool × List Int × Unit) × Unit) × Int × Unit) :=
  (localmass_Diagonal.j3 t0 b3_0 b3_1 b4_1 b4_3)
def localmass_Diagonal.j1 (t0 : Int) (b3_0 : Int) (b3_1 : Int) (b4_1 : List Int) (b4_3 : List Int) : Option (((Bool × List Int × Unit) × (Bool × List Int × Unit) × Unit) × Int × Unit) :=
  (cond ((decide (b3_0 < (0 : Int))))
  ((some (((false, (([] : List Int), ())), ((false, (([] : List Int), ())), ())), ((1 : Int), ()))))
  ((cond ((decide (b3_0 > (9 : Int))))
  ((some (((false, (([] : List Int), ())), ((false, (([] : List Int), ())), ())), ((1 : Int), ()))))
  ((cond ((b3_0 == (0 : Int)))
  ((cond ((b3_1 != (1 : Int)))
  ((some (((false, (([] : List Int), ())), ((false, (([] : List Int), ())), ())), ((1 : Int), ()))))
  ((cond (((Int.tmod b3_0 (2 : Int)) == (1 : Int)))
  ((cond ((b3_1 != (0 : Int)))
  ((some (((false, (([] : List Int), ())), ((false, (([] : List Int), ())), ())), ((1 : Int), ()))))
  ((cond (((Int.tmod b3_0 (2 : Int)) == (0 : Int)))
  ((cond ((b3_1 != (1 : Int)))
  ((cond ((b3_1 != (-1 : Int)))
  ((some (((false, (([] : List Int), ())), ((false, (([] : List Int), ())), ())), ((1 : Int), ()))))
  ((cond ((b3_0 == (0 : Int)))
  (((localmass_whole (1 : Int)).bind fun y2 =>
  (some (((y2.1.1, (y2.1.2.1, ())), ((y2.2.1.1, (y2.2.1.2.1, ())), ())), ((0 : Int), ())))))
  ((localmass_Diagonal.j2 t0 b3_0 b3_1 b4_1 b4_3))))))
  ((cond ((b3_0 == (0 : Int)))
  (((localmass_whole (1 : Int)).bind fun y5 =>
  (some (((y5.1.1, (y5.1.2.1, ())), ((y5.2.1.1, (y5.2.1.2.1, ())), ())), ((0 : Int), ())))))
  ((localmass_Diagonal.j2 t0 b3_0 b3_1 b4_1 b4_3))))))
  ((cond ((b3_0 == (0 : Int)))
  (((localmass_whole (1 : Int)).bind fun y6 =>
  (some (((y6.1.1, (y6.1.2.1, ())), ((y6.2.1.1, (y6.2.1.2.1, ())), ())), ((0 : Int), ())))))
  ((localmass_Diagonal.j2 t0 b3_0 b3_1 b4_1 b4_3))))))))
  ((cond (((Int.tmod b3_0 (2 : Int)) == (0 : Int)))
  ((cond ((b3_1 != (1 : Int)))
  ((cond ((b3_1 != (-1 : Int)))
  ((some (((false, (([] : List Int), ())), ((false, (([] : List Int), ())), ())), ((1 : Int), ()))))
  ((cond ((b3_0 == (0 : Int)))
  (((localmass_whole (1 : Int)).bind fun y7 =>
  (some (((y7.1.1, (y7.1.2.1, ())), ((y7.2.1.1, (y7.2.1.2.1, ())), ())), ((0 : Int), ())))))
  ((localmass_Diagonal.j2 t0 b3_0 b3_1 b4_1 b4_3))))))
  ((cond ((b3_0 == (0 : Int)))
  (((localmass_whole (1 : Int)).bind fun y8 =>
  (some (((y8.1.1, (y8.1.2.1, ())), ((y8.2.1.1, (y8.2.1.2.1, ())), ())), ((0 : Int), ())))))
  ((localmass_Diagonal.j2 t0 b3_0 b3_1 b4_1 b4_3))))))
  ((cond ((b3_0 == (0 : Int)))
  (((localmass_whole (1 : Int)).bind fun y9 =>
  (some (((y9.1.1, (y9.1.2.1, ())), ((y9.2.1.1, (y9.2.1.2.1, ())), ())), ((0 : Int), ())))))
  ((localmass_Diagonal.j2 t0 b3_0 b3_1 b4_1 b4_3))))))))))
  ((cond (((Int.tmod b3_0 (2 : Int)) == (1 : Int)))
  ((cond ((b3_1 != (0 : Int)))
  ((some (((false, (([] : List Int), ())), ((false, (([] : List Int), ())), ())), ((1 : Int), ()))))
  ((cond (((Int.tmod b3_0 (2 : Int)) == (0 : Int)))
  ((cond ((b3_1 != (1 : Int)))
  ((cond ((b3_1 != (-1 : Int)))
  ((some (((false, (([] : List Int), ())), ((false, (([] : List Int), ())), ())), ((1 : Int), ()))))
  ((cond ((b3_0 == (0 : Int)))
  (((localmass_whole (1 : Int)).bind fun y10 =>
  (some (((y10.1.1, (y10.1.2.1, ())), ((y10.2.1.1, (y10.2.1.2.1, ())), ())), ((0 : Int), ())))))
  ((localmass_Diagonal.j2 t0 b3_0 b3_1 b4_1 b4_3))))))
  ((cond ((b3_0 == (0 : Int)))
  (((localmass_whole (1 : Int)).bind fun y11 =>
  (some (((y11.1.1, (y11.1.2.1, ())), ((y11.2.1.1, (y11.2.1.2.1, ())), ())), ((0 : Int), ())))))
  ((localmass_Diagonal.j2 t0 b3_0 b3_1 b4_1 b4_3))))))
  ((cond ((b3_0 == (0 : Int)))
  (((localmass_whole (1 : Int)).bind fun y12 =>
  (some (((y12.1.1, (y12.1.2.1, ())), ((y12.2.1.1, (y12.2.1.2.1, ())), ())), ((0 : Int), ())))))
  ((localmass_Diagonal.j2 t0 b3_0 b3_1 b4_1 b4_3))))))))
  ((cond (((Int.tmod b3_0 (2 : Int)) == (0 : Int)))
  ((cond ((b3_1 != (1 : Int)))
  ((cond ((b3_1 != (-1 : Int)))
  ((some (((false, (([] : List Int), ())), ((false, (([] : List Int), ())), ())), ((1 : Int), ()))))
  ((cond ((b3_0 == (0 : Int)))
  (((localmass_whole (1 : Int)).bind fun y13 =>
  (some (((y13.1.1, (y13.1.2.1, ())), ((y13.2.1.1, (y13.2.1.2.1, ())), ())), ((0 : Int), ())))))
  ((localmass_Diagonal.j2 t0 b3_0 b3_1 b4_1 b4_3))))))
  ((cond ((b3_0 == (0 : Int)))
  (((localmass_whole (1 : Int)).bind fun y14 =>
  (some (((y14.1.1, (y14.1.2.1, ())), ((y14.2.1.1, (y14.2.1.2.1, ())), ())), ((0 : Int), ())))))
  ((localmass_Diagonal.j2 t0 b3_0 b3_1 b4_1 b4_3))))))
  ((cond ((b3_0 == (0 : Int)))
  (((localmass_whole (1 : Int)).bind fun y15 =>
  (some (((y15.1.1, (y15.1.2.1, ())), ((y15.2.1.1, (y15.2.1.2.1, ())), ())), ((0 : Int), ())))))
  ((localmass_Diagonal.j2 t0 b3_0 b3_1 b4_1 b4_3)))))))))))))
def localmass_Diagonal (t0 : Int) (t1 : Int × Int × Unit) : Option (((Bool × List Int × Unit) × (Bool × List Int × Unit) × Unit) × Int × Unit) :=
  ((localmass_known t0).bind fun y1 =>
  (cond ((!y1))
  ((some (((false, (([] : List Int), ())), ((false, (([] : List Int), ())), ())), ((20 : Int), ()))))
  ((localmass_Diagonal.j1 t0 t1.1 t1.2.1 ([] : List Int) ([] : List Int)))))
def localmass_Diagonal.en : En := ⟨25, [.int .i64, .pair (.int .i64) (.pair (.int .i64) (.unit))], .pair (.pair (tZ) (.pair (tZ) (.unit))) (.pair (.int .i64) (.unit)), true, fun x => localmass_Diagonal x.1 x.2.1⟩
def localmass_Diagonal.o : List En := [localmass_whole.en, localmass_known.en, localmass_half.en]
def localmass_Diagonal.oB : List EnB := []
def localmass_Diagonal.h : HT := .n
def localmass_Diagonal.c : Code := Tryz.f25.body.getD .skip
def localmass_Diagonal.L : Lam := fun _ i s K => none
theorem localmass_Diagonal.os : AllOk prog localmass_Diagonal.o := ⟨localmass_whole.ok, localmass_known.ok, localmass_half.ok, trivial⟩
theorem localmass_Diagonal.osB : AllBOk prog localmass_Diagonal.oB := trivial
theorem localmass_Diagonal.hk (x) : semK env (orc localmass_Diagonal.o) (orcB localmass_Diagonal.oB) 70 (localmass_Diagonal.L _) localmass_Diagonal.c localmass_Diagonal.h (S.init (avs [.int .i64, .pair (.int .i64) (.pair (.int .i64) (.unit))] x)) (fin env Tryz.f25 ⟨[.int .i64, .pair (.int .i64) (.pair (.int .i64) (.unit))], .pair (.pair (tZ) (.pair (tZ) (.unit))) (.pair (.int .i64) (.unit)), true, false⟩) = localmass_Diagonal.en.g x := by kernel_rfl
theorem localmass_Diagonal.ok : EnOk prog localmass_Diagonal.en := by
  refine fun_ok (g := ⟨[.int .i64, .pair (.int .i64) (.pair (.int .i64) (.unit))], .pair (.pair (tZ) (.pair (tZ) (.unit))) (.pair (.int .i64) (.unit)), true, false⟩) (h := localmass_Diagonal.h) (Λ := localmass_Diagonal.L) tabs localmass_Diagonal.os localmass_Diagonal.osB Tryz.func25 (c := localmass_Diagonal.c) (by kernel_rfl) (by decide +kernel) (by decide +kernel) (fun C hC => ?_) (fun x => localmass_Diagonal.hk x)
  exact by
    have e : loops localmass_Diagonal.c localmass_Diagonal.h = [] := by kernel_rfl
    rw [e]
    exact LamOk.nil
def symbol_Valid.j4 (t3 : Int) (t33 : List (Int × Int × Int × Bool × Int × Unit)) (t34 : Int) (t35 : Int) (b1_0 : Int) (b1_1 : List (Int × Int × Int × Bool × Int × Unit)) (b5_0 : Int) (b5_1 : Int) (b5_2 : Int) (b5_3 : Bool) (b5_4 : Int) : Option ((Int × (List (Int × Int × Int × Bool × Int × Unit)) × Int × Int × (Int × (List (Int × Int × Int × Bool × Int × Unit)) × Unit) × Unit) ⊕ ((Int × Unit) ⊕ (Bool × Unit))) :=
  (some (.inl ((IntKind.wrap .i64 (t3 + b5_1)), t33, t34, (IntKind.wrap .i64 (t35 + (1 : Int))), (b1_0, (b1_1, ())), ())))
def symbol_Valid.j3 (t3 : Int) (t33 : List (Int × Int × Int × Bool × Int × Unit)) (t34 : Int) (t35 : Int) (b1_0 : Int) (b1_1 : List (Int × Int × Int × Bool × Int × Unit)) (b5_0 : Int) (b5_1 : Int) (b5_2 : Int) (b5_3 : Bool) (b5_4 : Int) : Option ((Int × (List (Int × Int × Int × Bool × Int × Unit)) × Int × Int × (Int × (List (Int × Int × Int × Bool × Int × Unit)) × Unit) × Unit) ⊕ ((Int × Unit) ⊕ (Bool × Unit))) :=
  (cond ((b5_2 != (1 : Int)))
  ((cond ((b5_2 != (-1 : Int)))
  ((some (.inr (.inr (false, ())))))
  ((cond (b5_3)
  ((some (.inr (.inr (false, ())))))
  ((cond ((b5_4 != (0 : Int)))
  ((some (.inr (.inr (false, ())))))
  ((symbol_Valid.j4 t3 t33 t34 t35 b1_0 b1_1 b5_0 b5_1 b5_2 b5_3 b5_4))))))))
  ((cond (b5_3)
  ((some (.inr (.inr (false, ())))))
  ((cond ((b5_4 != (0 : Int)))
  ((some (.inr (.inr (false, ())))))
  ((symbol_Valid.j4 t3 t33 t34 t35 b1_0 b1_1 b5_0 b5_1 b5_2 b5_3 b5_4)))))))
def symbol_Valid.j2 (t3 : Int) (t33 : List (Int × Int × Int × Bool × Int × Unit)) (t34 : Int) (t35 : Int) (b1_0 : Int) (b1_1 : List (Int × Int × Int × Bool × Int × Unit)) : Option ((Int × (List (Int × Int × Int × Bool × Int × Unit)) × Int × Int × (Int × (List (Int × Int × Int × Bool × Int × Unit)) × Unit) × Unit) ⊕ ((Int × Unit) ⊕ (Bool × Unit))) :=
  (cond (inB t35 (List.length t33))
  ((cond ((decide ((List.getD t33 (t35.toNat) ((0 : Int), ((0 : Int), ((0 : Int), (false, ((0 : Int), ())))))).1 < (0 : Int))))
  ((some (.inr (.inr (false, ())))))
  ((cond ((decide ((List.getD t33 (t35.toNat) ((0 : Int), ((0 : Int), ((0 : Int), (false, ((0 : Int), ())))))).1 > (60 : Int))))
  ((some (.inr (.inr (false, ())))))
  ((cond ((decide (t35 > (0 : Int))))
  ((cond (inB (IntKind.wrap .i64 (t35 - (1 : Int))) (List.length b1_1))
  ((cond ((decide ((List.getD t33 (t35.toNat) ((0 : Int), ((0 : Int), ((0 : Int), (false, ((0 : Int), ())))))).1 ≤ (List.getD b1_1 (((IntKind.wrap .i64 (t35 - (1 : Int)))).toNat) ((0 : Int), ((0 : Int), ((0 : Int), (false, ((0 : Int), ())))))).1)))
  ((some (.inr (.inr (false, ())))))
  ((cond ((decide ((List.getD t33 (t35.toNat) ((0 : Int), ((0 : Int), ((0 : Int), (false, ((0 : Int), ())))))).2.1 < (1 : Int))))
  ((some (.inr (.inr (false, ())))))
  ((cond ((decide ((List.getD t33 (t35.toNat) ((0 : Int), ((0 : Int), ((0 : Int), (false, ((0 : Int), ())))))).2.1 > (8 : Int))))
  ((some (.inr (.inr (false, ())))))
  ((symbol_Valid.j3 t3 t33 t34 t35 b1_0 b1_1 (List.getD t33 (t35.toNat) ((0 : Int), ((0 : Int), ((0 : Int), (false, ((0 : Int), ())))))).1 (List.getD t33 (t35.toNat) ((0 : Int), ((0 : Int), ((0 : Int), (false, ((0 : Int), ())))))).2.1 (List.getD t33 (t35.toNat) ((0 : Int), ((0 : Int), ((0 : Int), (false, ((0 : Int), ())))))).2.2.1 (List.getD t33 (t35.toNat) ((0 : Int), ((0 : Int), ((0 : Int), (false, ((0 : Int), ())))))).2.2.2.1 (List.getD t33 (t35.toNat) ((0 : Int), ((0 : Int), ((0 : Int), (false, ((0 : Int), ())))))).2.2.2.2.1))))))))
  none))
  ((cond ((decide ((List.getD t33 (t35.toNat) ((0 : Int), ((0 : Int), ((0 : Int), (false, ((0 : Int), ())))))).2.1 < (1 : Int))))
  ((some (.inr (.inr (false, ())))))
  ((cond ((decide ((List.getD t33 (t35.toNat) ((0 : Int), ((0 : Int), ((0 : Int), (false, ((0 : Int), ())))))).2.1 > (8 : Int))))
  ((some (.inr (.inr (false, ())))))
  ((symbol_Valid.j3 t3 t33 t34 t35 b1_0 b1_1 (List.getD t33 (t35.toNat) ((0 : Int), ((0 : Int), ((0 : Int), (false, ((0 : Int), ())))))).1 (List.getD t33 (t35.toNat) ((0 : Int), ((0 : Int), ((0 : Int), (false, ((0 : Int), ())))))).2.1 (List.getD t33 (t35.toNat) ((0 : Int), ((0 : Int), ((0 : Int), (false, ((0 : Int), ())))))).2.2.1 (List.getD t33 (t35.toNat) ((0 : Int), ((0 : Int), ((0 : Int), (false, ((0 : Int), ())))))).2.2.2.1 (List.getD t33 (t35.toNat) ((0 : Int), ((0 : Int), ((0 : Int), (false, ((0 : Int), ())))))).2.2.2.2.1))))))))))))
  none)
def symbol_Valid.s0 (t3 : Int) (t33 : List (Int × Int × Int × Bool × Int × Unit)) (t34 : Int) (t35 : Int) (b1 : Int × (List (Int × Int × Int × Bool × Int × Unit)) × Unit) : Option ((Int × (List (Int × Int × Int × Bool × Int × Unit)) × Int × Int × (Int × (List (Int × Int × Int × Bool × Int × Unit)) × Unit) × Unit) ⊕ ((Int × Unit) ⊕ (Bool × Unit))) :=
  (cond ((decide (t35 < t34)))
  ((symbol_Valid.j2 t3 t33 t34 t35 b1.1 b1.2.1))
  ((some (.inr (.inl (t3, ()))))))
def symbol_Valid.k0_0 (t3 : Int) : Option (Bool) :=
  (some (decide (t3 ≤ (8 : Int))))
def symbol_Valid.k0_1 (t2 : Bool) : Option (Bool) :=
  (some t2)
def symbol_Valid.j1 (b1_0 : Int) (b1_1 : List (Int × Int × Int × Bool × Int × Unit)) : Option (Bool) :=
  ((iterL (fun x : Int × (List (Int × Int × Int × Bool × Int × Unit)) × Int × Int × (Int × (List (Int × Int × Int × Bool × Int × Unit)) × Unit) × Unit => symbol_Valid.s0 x.1 x.2.1 x.2.2.1 x.2.2.2.1 x.2.2.2.2.1) ((0 : Int), b1_1, ((List.length b1_1 : Nat) : Int), (0 : Int), (b1_0, (b1_1, ())), ())).bind fun z => Sum.casesOn z (fun y => symbol_Valid.k0_0 y.1) (fun z => symbol_Valid.k0_1 z.1))
def symbol_Valid (t0 : Int × (List (Int × Int × Int × Bool × Int × Unit)) × Unit) : Option (Bool) :=
  (cond ((decide (t0.1 < (3 : Int))))
  ((some false))
  ((cond ((decide (t0.1 > (9973 : Int))))
  ((some false))
  (((prime_Is t0.1).bind fun y1 =>
  (cond ((!y1))
  ((some false))
  ((cond ((decide (((List.length t0.2.1 : Nat) : Int) < (1 : Int))))
  ((some false))
  ((cond ((decide (((List.length t0.2.1 : Nat) : Int) > (8 : Int))))
  ((some false))
  ((symbol_Valid.j1 t0.1 t0.2.1))))))))))))
def symbol_Valid.en : En := ⟨144, [.pair (.int .i64) (.pair (.sl (.pair (.int .i64) (.pair (.int .i64) (.pair (.int .i64) (.pair (.bool) (.pair (.int .i64) (.unit))))))) (.unit))], .bool, false, fun x => symbol_Valid x.1⟩
def symbol_Valid.o : List En := [prime_Is.en]
def symbol_Valid.oB : List EnB := []
def symbol_Valid.h : HT := .two (.n) (.two (.n) (.two (.n) (.two (.two (.n) (.lp 0)) (.n))))
def symbol_Valid.c : Code := Tryz.f144.body.getD .skip
def symbol_Valid.h0 : HT := .n
def symbol_Valid.c0 : Code := (find (loops symbol_Valid.c symbol_Valid.h) 0).getD .skip
def symbol_Valid.d0 : Fm := [.v 3 (.int .i64), .v 33 (.sl (.pair (.int .i64) (.pair (.int .i64) (.pair (.int .i64) (.pair (.bool) (.pair (.int .i64) (.unit))))))), .v 34 (.int .i64), .v 35 (.int .i64), .box 1 (.pair (.int .i64) (.pair (.sl (.pair (.int .i64) (.pair (.int .i64) (.pair (.int .i64) (.pair (.bool) (.pair (.int .i64) (.unit))))))) (.unit))), .ptr 1 1]
def symbol_Valid.x0 : Xs := [(.exit 0, [.v 3 (.int .i64)]), (.ret, [.v 2 (.bool)])]
def symbol_Valid.r0 (x : (Fm.ty symbol_Valid.d0).den) : Option ((Fm.ty symbol_Valid.d0).den ⊕ (Xs.T symbol_Valid.x0)) := symbol_Valid.s0 x.1 x.2.1 x.2.2.1 x.2.2.2.1 x.2.2.2.2.1
def symbol_Valid.L : Lam := fun _ i s K => cond (Nat.beq i 0) (lamK symbol_Valid.d0 symbol_Valid.x0 symbol_Valid.r0 s K) (none)
theorem symbol_Valid.hf0 (x) : roundK env (orc symbol_Valid.o) (orcB symbol_Valid.oB) 98 symbol_Valid.L symbol_Valid.c0 symbol_Valid.h0 symbol_Valid.d0 symbol_Valid.x0 x = symbol_Valid.r0 x := by kernel_rfl
theorem symbol_Valid.os : AllOk prog symbol_Valid.o := ⟨prime_Is.ok, trivial⟩
theorem symbol_Valid.osB : AllBOk prog symbol_Valid.oB := trivial
theorem symbol_Valid.l0 {C : Ctx} (hC : C.n = 98) : LamAt prog C symbol_Valid.L 0 symbol_Valid.c0 := by
  intro R s K r hk
  refine loop_ok (D := symbol_Valid.d0) (X := symbol_Valid.x0) (h := symbol_Valid.h0) (f := symbol_Valid.r0) tabs (orc_ok _ symbol_Valid.os) (orcB_ok _ symbol_Valid.osB) (fun x => by rw [hC]; exact symbol_Valid.hf0 x) (Λ := symbol_Valid.L) ?_ (by kernel_rfl) (by kernel_rfl) (K := K) (s := s) (by exact hk)
  exact by
    have e : loops symbol_Valid.c0 symbol_Valid.h0 = [] := by kernel_rfl
    rw [e]
    exact LamOk.nil
theorem symbol_Valid.hk (x) : semK env (orc symbol_Valid.o) (orcB symbol_Valid.oB) 98 (symbol_Valid.L _) symbol_Valid.c symbol_Valid.h (S.init (avs [.pair (.int .i64) (.pair (.sl (.pair (.int .i64) (.pair (.int .i64) (.pair (.int .i64) (.pair (.bool) (.pair (.int .i64) (.unit))))))) (.unit))] x)) (fin env Tryz.f144 ⟨[.pair (.int .i64) (.pair (.sl (.pair (.int .i64) (.pair (.int .i64) (.pair (.int .i64) (.pair (.bool) (.pair (.int .i64) (.unit))))))) (.unit))], .bool, false, false⟩) = symbol_Valid.en.g x := by kernel_rfl
theorem symbol_Valid.ok : EnOk prog symbol_Valid.en := by
  refine fun_ok (g := ⟨[.pair (.int .i64) (.pair (.sl (.pair (.int .i64) (.pair (.int .i64) (.pair (.int .i64) (.pair (.bool) (.pair (.int .i64) (.unit))))))) (.unit))], .bool, false, false⟩) (h := symbol_Valid.h) (Λ := symbol_Valid.L) tabs symbol_Valid.os symbol_Valid.osB Tryz.func144 (c := symbol_Valid.c) (by kernel_rfl) (by decide +kernel) (by decide +kernel) (fun C hC => ?_) (fun x => symbol_Valid.hk x)
  exact by
    have e : loops symbol_Valid.c symbol_Valid.h = [(0, symbol_Valid.c0)] := by kernel_rfl
    rw [e]
    exact LamOk.cons (symbol_Valid.l0 hC) (LamOk.nil)
def train_scaled (t0 : Int × Int × Int × Bool × Int × Unit) : Option (Bool) :=
  (cond ((decide (t0.1 ≥ (0 : Int))))
  ((cond ((decide (t0.1 ≤ (60 : Int))))
  ((cond ((decide (t0.2.1 ≥ (1 : Int))))
  ((cond ((decide (t0.2.1 ≤ (8 : Int))))
  ((cond ((t0.2.2.1 == (1 : Int)))
  ((some true))
  ((some (t0.2.2.1 == (-1 : Int))))))
  ((some false))))
  ((some false))))
  ((some false))))
  ((some false)))
def train_scaled.en : En := ⟨234, [.pair (.int .i64) (.pair (.int .i64) (.pair (.int .i64) (.pair (.bool) (.pair (.int .i64) (.unit)))))], .bool, false, fun x => train_scaled x.1⟩
def train_scaled.o : List En := []
def train_scaled.oB : List EnB := []
def train_scaled.h : HT := .n
def train_scaled.c : Code := Tryz.f234.body.getD .skip
def train_scaled.L : Lam := fun _ i s K => none
theorem train_scaled.os : AllOk prog train_scaled.o := trivial
theorem train_scaled.osB : AllBOk prog train_scaled.oB := trivial
theorem train_scaled.hk (x) : semK env (orc train_scaled.o) (orcB train_scaled.oB) 31 (train_scaled.L _) train_scaled.c train_scaled.h (S.init (avs [.pair (.int .i64) (.pair (.int .i64) (.pair (.int .i64) (.pair (.bool) (.pair (.int .i64) (.unit)))))] x)) (fin env Tryz.f234 ⟨[.pair (.int .i64) (.pair (.int .i64) (.pair (.int .i64) (.pair (.bool) (.pair (.int .i64) (.unit)))))], .bool, false, false⟩) = train_scaled.en.g x := by kernel_rfl
theorem train_scaled.ok : EnOk prog train_scaled.en := by
  refine fun_ok (g := ⟨[.pair (.int .i64) (.pair (.int .i64) (.pair (.int .i64) (.pair (.bool) (.pair (.int .i64) (.unit)))))], .bool, false, false⟩) (h := train_scaled.h) (Λ := train_scaled.L) tabs train_scaled.os train_scaled.osB Tryz.func234 (c := train_scaled.c) (by kernel_rfl) (by decide +kernel) (by decide +kernel) (fun C hC => ?_) (fun x => train_scaled.hk x)
  exact by
    have e : loops train_scaled.c train_scaled.h = [] := by kernel_rfl
    rw [e]
    exact LamOk.nil
def train_Legal.j5  : Option (Bool) :=
  (some true)
def train_Legal.j4  : Option (Bool) :=
  (train_Legal.j5)
def train_Legal.j3 (b1_0 : Int) (b1_1 : Int) (b1_2 : Int) (b1_3 : Bool) (b1_4 : Int) : Option (Bool) :=
  (cond ((b1_1 == (1 : Int)))
  ((cond ((b1_4 == (1 : Int)))
  ((some (true == (b1_2 == (1 : Int)))))
  ((some ((b1_4 == (7 : Int)) == (b1_2 == (1 : Int)))))))
  ((cond ((b1_1 == (2 : Int)))
  ((cond ((b1_2 == (1 : Int)))
  ((cond ((!(b1_4 == (4 : Int))))
  ((cond ((b1_2 == (-1 : Int)))
  ((some (!(b1_4 == (0 : Int)))))
  ((some true))))
  ((some false))))
  ((cond ((b1_2 == (-1 : Int)))
  ((some (!(b1_4 == (0 : Int)))))
  ((some true))))))
  ((train_Legal.j4)))))
def train_Legal.j2 (b1_0 : Int) (b1_1 : Int) (b1_2 : Int) (b1_3 : Bool) (b1_4 : Int) : Option (Bool) :=
  (cond (((Int.tmod (IntKind.wrap .i64 (b1_4 - b1_1)) (2 : Int)) != (0 : Int)))
  ((some false))
  ((train_Legal.j3 b1_0 b1_1 b1_2 b1_3 b1_4)))
def train_Legal.j1 (b1_0 : Int) (b1_1 : Int) (b1_2 : Int) (b1_3 : Bool) (b1_4 : Int) : Option (Bool) :=
  (cond ((!b1_3))
  ((cond (((Int.tmod b1_1 (2 : Int)) == (0 : Int)))
  ((some (b1_4 == (0 : Int))))
  ((some false))))
  ((train_Legal.j2 b1_0 b1_1 b1_2 b1_3 b1_4)))
def train_Legal (t0 : Int × Int × Int × Bool × Int × Unit) : Option (Bool) :=
  ((train_scaled (t0.1, (t0.2.1, (t0.2.2.1, (t0.2.2.2.1, (t0.2.2.2.2.1, ())))))).bind fun y1 =>
  (cond ((!y1))
  ((some false))
  ((cond ((decide (t0.2.2.2.2.1 < (0 : Int))))
  ((some false))
  ((cond ((decide (t0.2.2.2.2.1 > (7 : Int))))
  ((some false))
  ((train_Legal.j1 t0.1 t0.2.1 t0.2.2.1 t0.2.2.2.1 t0.2.2.2.2.1))))))))
def train_Legal.en : En := ⟨201, [.pair (.int .i64) (.pair (.int .i64) (.pair (.int .i64) (.pair (.bool) (.pair (.int .i64) (.unit)))))], .bool, false, fun x => train_Legal x.1⟩
def train_Legal.o : List En := [train_scaled.en]
def train_Legal.oB : List EnB := []
def train_Legal.h : HT := .n
def train_Legal.c : Code := Tryz.f201.body.getD .skip
def train_Legal.L : Lam := fun _ i s K => none
theorem train_Legal.os : AllOk prog train_Legal.o := ⟨train_scaled.ok, trivial⟩
theorem train_Legal.osB : AllBOk prog train_Legal.oB := trivial
theorem train_Legal.hk (x) : semK env (orc train_Legal.o) (orcB train_Legal.oB) 73 (train_Legal.L _) train_Legal.c train_Legal.h (S.init (avs [.pair (.int .i64) (.pair (.int .i64) (.pair (.int .i64) (.pair (.bool) (.pair (.int .i64) (.unit)))))] x)) (fin env Tryz.f201 ⟨[.pair (.int .i64) (.pair (.int .i64) (.pair (.int .i64) (.pair (.bool) (.pair (.int .i64) (.unit)))))], .bool, false, false⟩) = train_Legal.en.g x := by kernel_rfl
theorem train_Legal.ok : EnOk prog train_Legal.en := by
  refine fun_ok (g := ⟨[.pair (.int .i64) (.pair (.int .i64) (.pair (.int .i64) (.pair (.bool) (.pair (.int .i64) (.unit)))))], .bool, false, false⟩) (h := train_Legal.h) (Λ := train_Legal.L) tabs train_Legal.os train_Legal.osB Tryz.func201 (c := train_Legal.c) (by kernel_rfl) (by decide +kernel) (by decide +kernel) (fun C hC => ?_) (fun x => train_Legal.hk x)
  exact by
    have e : loops train_Legal.c train_Legal.h = [] := by kernel_rfl
    rw [e]
    exact LamOk.nil
def train_listed.j3 (t3 : Int) (t22 : List (Int × Int × Int × Bool × Int × Unit)) (t23 : Int) (t24 : Int) (b1_0 : Int) (b1_1 : List (Int × Int × Int × Bool × Int × Unit)) (b5_0 : Int) (b5_1 : Int) (b5_2 : Int) (b5_3 : Bool) (b5_4 : Int) : Option ((Int × (List (Int × Int × Int × Bool × Int × Unit)) × Int × Int × (Int × (List (Int × Int × Int × Bool × Int × Unit)) × Unit) × Unit) ⊕ ((Int × Unit) ⊕ (Bool × Unit))) :=
  (some (.inl ((IntKind.wrap .i64 (t3 + b5_1)), t22, t23, (IntKind.wrap .i64 (t24 + (1 : Int))), (b1_0, (b1_1, ())), ())))
def train_listed.j2 (t3 : Int) (t22 : List (Int × Int × Int × Bool × Int × Unit)) (t23 : Int) (t24 : Int) (b1_0 : Int) (b1_1 : List (Int × Int × Int × Bool × Int × Unit)) : Option ((Int × (List (Int × Int × Int × Bool × Int × Unit)) × Int × Int × (Int × (List (Int × Int × Int × Bool × Int × Unit)) × Unit) × Unit) ⊕ ((Int × Unit) ⊕ (Bool × Unit))) :=
  (cond (inB t24 (List.length t22))
  (((train_scaled ((List.getD t22 (t24.toNat) ((0 : Int), ((0 : Int), ((0 : Int), (false, ((0 : Int), ())))))).1, ((List.getD t22 (t24.toNat) ((0 : Int), ((0 : Int), ((0 : Int), (false, ((0 : Int), ())))))).2.1, ((List.getD t22 (t24.toNat) ((0 : Int), ((0 : Int), ((0 : Int), (false, ((0 : Int), ())))))).2.2.1, ((List.getD t22 (t24.toNat) ((0 : Int), ((0 : Int), ((0 : Int), (false, ((0 : Int), ())))))).2.2.2.1, ((List.getD t22 (t24.toNat) ((0 : Int), ((0 : Int), ((0 : Int), (false, ((0 : Int), ())))))).2.2.2.2.1, ())))))).bind fun y3 =>
  (cond ((!y3))
  ((some (.inr (.inr (false, ())))))
  ((cond ((decide (t24 > (0 : Int))))
  ((cond (inB (IntKind.wrap .i64 (t24 - (1 : Int))) (List.length b1_1))
  ((cond ((decide ((List.getD t22 (t24.toNat) ((0 : Int), ((0 : Int), ((0 : Int), (false, ((0 : Int), ())))))).1 ≤ (List.getD b1_1 (((IntKind.wrap .i64 (t24 - (1 : Int)))).toNat) ((0 : Int), ((0 : Int), ((0 : Int), (false, ((0 : Int), ())))))).1)))
  ((some (.inr (.inr (false, ())))))
  ((train_listed.j3 t3 t22 t23 t24 b1_0 b1_1 (List.getD t22 (t24.toNat) ((0 : Int), ((0 : Int), ((0 : Int), (false, ((0 : Int), ())))))).1 (List.getD t22 (t24.toNat) ((0 : Int), ((0 : Int), ((0 : Int), (false, ((0 : Int), ())))))).2.1 (List.getD t22 (t24.toNat) ((0 : Int), ((0 : Int), ((0 : Int), (false, ((0 : Int), ())))))).2.2.1 (List.getD t22 (t24.toNat) ((0 : Int), ((0 : Int), ((0 : Int), (false, ((0 : Int), ())))))).2.2.2.1 (List.getD t22 (t24.toNat) ((0 : Int), ((0 : Int), ((0 : Int), (false, ((0 : Int), ())))))).2.2.2.2.1))))
  none))
  ((some (.inl ((IntKind.wrap .i64 (t3 + (List.getD t22 (t24.toNat) ((0 : Int), ((0 : Int), ((0 : Int), (false, ((0 : Int), ())))))).2.1)), t22, t23, (IntKind.wrap .i64 (t24 + (1 : Int))), (b1_0, (b1_1, ())), ())))))))))
  none)
def train_listed.s0 (t3 : Int) (t22 : List (Int × Int × Int × Bool × Int × Unit)) (t23 : Int) (t24 : Int) (b1 : Int × (List (Int × Int × Int × Bool × Int × Unit)) × Unit) : Option ((Int × (List (Int × Int × Int × Bool × Int × Unit)) × Int × Int × (Int × (List (Int × Int × Int × Bool × Int × Unit)) × Unit) × Unit) ⊕ ((Int × Unit) ⊕ (Bool × Unit))) :=
  (cond ((decide (t24 < t23)))
  ((train_listed.j2 t3 t22 t23 t24 b1.1 b1.2.1))
  ((some (.inr (.inl (t3, ()))))))
def train_listed.k0_0 (t3 : Int) : Option (Bool) :=
  (some (decide (t3 ≤ (8 : Int))))
def train_listed.k0_1 (t2 : Bool) : Option (Bool) :=
  (some t2)
def train_listed.j1 (b1_0 : Int) (b1_1 : List (Int × Int × Int × Bool × Int × Unit)) : Option (Bool) :=
  ((iterL (fun x : Int × (List (Int × Int × Int × Bool × Int × Unit)) × Int × Int × (Int × (List (Int × Int × Int × Bool × Int × Unit)) × Unit) × Unit => train_listed.s0 x.1 x.2.1 x.2.2.1 x.2.2.2.1 x.2.2.2.2.1) ((0 : Int), b1_1, ((List.length b1_1 : Nat) : Int), (0 : Int), (b1_0, (b1_1, ())), ())).bind fun z => Sum.casesOn z (fun y => train_listed.k0_0 y.1) (fun z => train_listed.k0_1 z.1))
def train_listed (t0 : Int × (List (Int × Int × Int × Bool × Int × Unit)) × Unit) : Option (Bool) :=
  (cond ((t0.1 != (2 : Int)))
  ((some false))
  ((cond ((decide (((List.length t0.2.1 : Nat) : Int) < (1 : Int))))
  ((some false))
  ((cond ((decide (((List.length t0.2.1 : Nat) : Int) > (8 : Int))))
  ((some false))
  ((train_listed.j1 t0.1 t0.2.1)))))))
def train_listed.en : En := ⟨202, [.pair (.int .i64) (.pair (.sl (.pair (.int .i64) (.pair (.int .i64) (.pair (.int .i64) (.pair (.bool) (.pair (.int .i64) (.unit))))))) (.unit))], .bool, false, fun x => train_listed x.1⟩
def train_listed.o : List En := [train_scaled.en]
def train_listed.oB : List EnB := []
def train_listed.h : HT := .two (.n) (.two (.n) (.two (.n) (.two (.two (.n) (.lp 0)) (.n))))
def train_listed.c : Code := Tryz.f202.body.getD .skip
def train_listed.h0 : HT := .n
def train_listed.c0 : Code := (find (loops train_listed.c train_listed.h) 0).getD .skip
def train_listed.d0 : Fm := [.v 3 (.int .i64), .v 22 (.sl (.pair (.int .i64) (.pair (.int .i64) (.pair (.int .i64) (.pair (.bool) (.pair (.int .i64) (.unit))))))), .v 23 (.int .i64), .v 24 (.int .i64), .box 1 (.pair (.int .i64) (.pair (.sl (.pair (.int .i64) (.pair (.int .i64) (.pair (.int .i64) (.pair (.bool) (.pair (.int .i64) (.unit))))))) (.unit))), .ptr 1 1]
def train_listed.x0 : Xs := [(.exit 0, [.v 3 (.int .i64)]), (.ret, [.v 2 (.bool)])]
def train_listed.r0 (x : (Fm.ty train_listed.d0).den) : Option ((Fm.ty train_listed.d0).den ⊕ (Xs.T train_listed.x0)) := train_listed.s0 x.1 x.2.1 x.2.2.1 x.2.2.2.1 x.2.2.2.2.1
def train_listed.L : Lam := fun _ i s K => cond (Nat.beq i 0) (lamK train_listed.d0 train_listed.x0 train_listed.r0 s K) (none)
theorem train_listed.hf0 (x) : roundK env (orc train_listed.o) (orcB train_listed.oB) 55 train_listed.L train_listed.c0 train_listed.h0 train_listed.d0 train_listed.x0 x = train_listed.r0 x := by kernel_rfl
theorem train_listed.os : AllOk prog train_listed.o := ⟨train_scaled.ok, trivial⟩
theorem train_listed.osB : AllBOk prog train_listed.oB := trivial
theorem train_listed.l0 {C : Ctx} (hC : C.n = 55) : LamAt prog C train_listed.L 0 train_listed.c0 := by
  intro R s K r hk
  refine loop_ok (D := train_listed.d0) (X := train_listed.x0) (h := train_listed.h0) (f := train_listed.r0) tabs (orc_ok _ train_listed.os) (orcB_ok _ train_listed.osB) (fun x => by rw [hC]; exact train_listed.hf0 x) (Λ := train_listed.L) ?_ (by kernel_rfl) (by kernel_rfl) (K := K) (s := s) (by exact hk)
  exact by
    have e : loops train_listed.c0 train_listed.h0 = [] := by kernel_rfl
    rw [e]
    exact LamOk.nil
theorem train_listed.hk (x) : semK env (orc train_listed.o) (orcB train_listed.oB) 55 (train_listed.L _) train_listed.c train_listed.h (S.init (avs [.pair (.int .i64) (.pair (.sl (.pair (.int .i64) (.pair (.int .i64) (.pair (.int .i64) (.pair (.bool) (.pair (.int .i64) (.unit))))))) (.unit))] x)) (fin env Tryz.f202 ⟨[.pair (.int .i64) (.pair (.sl (.pair (.int .i64) (.pair (.int .i64) (.pair (.int .i64) (.pair (.bool) (.pair (.int .i64) (.unit))))))) (.unit))], .bool, false, false⟩) = train_listed.en.g x := by kernel_rfl
theorem train_listed.ok : EnOk prog train_listed.en := by
  refine fun_ok (g := ⟨[.pair (.int .i64) (.pair (.sl (.pair (.int .i64) (.pair (.int .i64) (.pair (.int .i64) (.pair (.bool) (.pair (.int .i64) (.unit))))))) (.unit))], .bool, false, false⟩) (h := train_listed.h) (Λ := train_listed.L) tabs train_listed.os train_listed.osB Tryz.func202 (c := train_listed.c) (by kernel_rfl) (by decide +kernel) (by decide +kernel) (fun C hC => ?_) (fun x => train_listed.hk x)
  exact by
    have e : loops train_listed.c train_listed.h = [(0, train_listed.c0)] := by kernel_rfl
    rw [e]
    exact LamOk.cons (train_listed.l0 hC) (LamOk.nil)
def train_Valid.j2 (t6 : List (Int × Int × Int × Bool × Int × Unit)) (t7 : Int) (t8 : Int) (b1_0 : Int) (b1_1 : List (Int × Int × Int × Bool × Int × Unit)) : Option (((List (Int × Int × Int × Bool × Int × Unit)) × Int × Int × (Int × (List (Int × Int × Int × Bool × Int × Unit)) × Unit) × Unit) ⊕ (((Int × (List (Int × Int × Int × Bool × Int × Unit)) × Unit) × Unit) ⊕ (Bool × Unit))) :=
  (some (.inl (t6, t7, (IntKind.wrap .i64 (t8 + (1 : Int))), (b1_0, (b1_1, ())), ())))
def train_Valid.j1 (t6 : List (Int × Int × Int × Bool × Int × Unit)) (t7 : Int) (t8 : Int) (b1_0 : Int) (b1_1 : List (Int × Int × Int × Bool × Int × Unit)) : Option (((List (Int × Int × Int × Bool × Int × Unit)) × Int × Int × (Int × (List (Int × Int × Int × Bool × Int × Unit)) × Unit) × Unit) ⊕ (((Int × (List (Int × Int × Int × Bool × Int × Unit)) × Unit) × Unit) ⊕ (Bool × Unit))) :=
  (cond (inB t8 (List.length t6))
  (((train_Legal ((List.getD t6 (t8.toNat) ((0 : Int), ((0 : Int), ((0 : Int), (false, ((0 : Int), ())))))).1, ((List.getD t6 (t8.toNat) ((0 : Int), ((0 : Int), ((0 : Int), (false, ((0 : Int), ())))))).2.1, ((List.getD t6 (t8.toNat) ((0 : Int), ((0 : Int), ((0 : Int), (false, ((0 : Int), ())))))).2.2.1, ((List.getD t6 (t8.toNat) ((0 : Int), ((0 : Int), ((0 : Int), (false, ((0 : Int), ())))))).2.2.2.1, ((List.getD t6 (t8.toNat) ((0 : Int), ((0 : Int), ((0 : Int), (false, ((0 : Int), ())))))).2.2.2.2.1, ())))))).bind fun y1 =>
  (cond ((!y1))
  ((some (.inr (.inr (false, ())))))
  ((train_Valid.j2 t6 t7 t8 b1_0 b1_1)))))
  none)
def train_Valid.s0 (t6 : List (Int × Int × Int × Bool × Int × Unit)) (t7 : Int) (t8 : Int) (b1 : Int × (List (Int × Int × Int × Bool × Int × Unit)) × Unit) : Option (((List (Int × Int × Int × Bool × Int × Unit)) × Int × Int × (Int × (List (Int × Int × Int × Bool × Int × Unit)) × Unit) × Unit) ⊕ (((Int × (List (Int × Int × Int × Bool × Int × Unit)) × Unit) × Unit) ⊕ (Bool × Unit))) :=
  (cond ((decide (t8 < t7)))
  ((train_Valid.j1 t6 t7 t8 b1.1 b1.2.1))
  ((some (.inr (.inl ((b1.1, (b1.2.1, ())), ()))))))
def train_Valid.k0_0 (b1 : Int × (List (Int × Int × Int × Bool × Int × Unit)) × Unit) : Option (Bool) :=
  ((train_listed (b1.1, (b1.2.1, ()))).bind fun y2 =>
  (some y2))
def train_Valid.k0_1 (t2 : Bool) : Option (Bool) :=
  (some t2)
def train_Valid (t0 : Int × (List (Int × Int × Int × Bool × Int × Unit)) × Unit) : Option (Bool) :=
  ((iterL (fun x : (List (Int × Int × Int × Bool × Int × Unit)) × Int × Int × (Int × (List (Int × Int × Int × Bool × Int × Unit)) × Unit) × Unit => train_Valid.s0 x.1 x.2.1 x.2.2.1 x.2.2.2.1) (t0.2.1, ((List.length t0.2.1 : Nat) : Int), (0 : Int), (t0.1, (t0.2.1, ())), ())).bind fun z => Sum.casesOn z (fun y => train_Valid.k0_0 y.1) (fun z => train_Valid.k0_1 z.1))
def train_Valid.en : En := ⟨145, [.pair (.int .i64) (.pair (.sl (.pair (.int .i64) (.pair (.int .i64) (.pair (.int .i64) (.pair (.bool) (.pair (.int .i64) (.unit))))))) (.unit))], .bool, false, fun x => train_Valid x.1⟩
def train_Valid.o : List En := [train_Legal.en, train_listed.en]
def train_Valid.oB : List EnB := []
def train_Valid.h : HT := .two (.n) (.two (.two (.n) (.lp 0)) (.n))
def train_Valid.c : Code := Tryz.f145.body.getD .skip
def train_Valid.h0 : HT := .n
def train_Valid.c0 : Code := (find (loops train_Valid.c train_Valid.h) 0).getD .skip
def train_Valid.d0 : Fm := [.v 6 (.sl (.pair (.int .i64) (.pair (.int .i64) (.pair (.int .i64) (.pair (.bool) (.pair (.int .i64) (.unit))))))), .v 7 (.int .i64), .v 8 (.int .i64), .box 1 (.pair (.int .i64) (.pair (.sl (.pair (.int .i64) (.pair (.int .i64) (.pair (.int .i64) (.pair (.bool) (.pair (.int .i64) (.unit))))))) (.unit))), .ptr 1 1]
def train_Valid.x0 : Xs := [(.exit 0, [.box 1 (.pair (.int .i64) (.pair (.sl (.pair (.int .i64) (.pair (.int .i64) (.pair (.int .i64) (.pair (.bool) (.pair (.int .i64) (.unit))))))) (.unit))), .ptr 1 1]), (.ret, [.v 2 (.bool)])]
def train_Valid.r0 (x : (Fm.ty train_Valid.d0).den) : Option ((Fm.ty train_Valid.d0).den ⊕ (Xs.T train_Valid.x0)) := train_Valid.s0 x.1 x.2.1 x.2.2.1 x.2.2.2.1
def train_Valid.L : Lam := fun _ i s K => cond (Nat.beq i 0) (lamK train_Valid.d0 train_Valid.x0 train_Valid.r0 s K) (none)
theorem train_Valid.hf0 (x) : roundK env (orc train_Valid.o) (orcB train_Valid.oB) 18 train_Valid.L train_Valid.c0 train_Valid.h0 train_Valid.d0 train_Valid.x0 x = train_Valid.r0 x := by kernel_rfl
theorem train_Valid.os : AllOk prog train_Valid.o := ⟨train_Legal.ok, train_listed.ok, trivial⟩
theorem train_Valid.osB : AllBOk prog train_Valid.oB := trivial
theorem train_Valid.l0 {C : Ctx} (hC : C.n = 18) : LamAt prog C train_Valid.L 0 train_Valid.c0 := by
  intro R s K r hk
  refine loop_ok (D := train_Valid.d0) (X := train_Valid.x0) (h := train_Valid.h0) (f := train_Valid.r0) tabs (orc_ok _ train_Valid.os) (orcB_ok _ train_Valid.osB) (fun x => by rw [hC]; exact train_Valid.hf0 x) (Λ := train_Valid.L) ?_ (by kernel_rfl) (by kernel_rfl) (K := K) (s := s) (by exact hk)
  exact by
    have e : loops train_Valid.c0 train_Valid.h0 = [] := by kernel_rfl
    rw [e]
    exact LamOk.nil
theorem train_Valid.hk (x) : semK env (orc train_Valid.o) (orcB train_Valid.oB) 18 (train_Valid.L _) train_Valid.c train_Valid.h (S.init (avs [.pair (.int .i64) (.pair (.sl (.pair (.int .i64) (.pair (.int .i64) (.pair (.int .i64) (.pair (.bool) (.pair (.int .i64) (.unit))))))) (.unit))] x)) (fin env Tryz.f145 ⟨[.pair (.int .i64) (.pair (.sl (.pair (.int .i64) (.pair (.int .i64) (.pair (.int .i64) (.pair (.bool) (.pair (.int .i64) (.unit))))))) (.unit))], .bool, false, false⟩) = train_Valid.en.g x := by kernel_rfl
theorem train_Valid.ok : EnOk prog train_Valid.en := by
  refine fun_ok (g := ⟨[.pair (.int .i64) (.pair (.sl (.pair (.int .i64) (.pair (.int .i64) (.pair (.int .i64) (.pair (.bool) (.pair (.int .i64) (.unit))))))) (.unit))], .bool, false, false⟩) (h := train_Valid.h) (Λ := train_Valid.L) tabs train_Valid.os train_Valid.osB Tryz.func145 (c := train_Valid.c) (by kernel_rfl) (by decide +kernel) (by decide +kernel) (fun C hC => ?_) (fun x => train_Valid.hk x)
  exact by
    have e : loops train_Valid.c train_Valid.h = [(0, train_Valid.c0)] := by kernel_rfl
    rw [e]
    exact LamOk.cons (train_Valid.l0 hC) (LamOk.nil)
def localmass_accepted (t0 : Int × (List (Int × Int × Int × Bool × Int × Unit)) × Unit) : Option (Bool) :=
  ((symbol_Valid (t0.1, (t0.2.1, ()))).bind fun y1 =>
  (cond (y1)
  ((some true))
  (((train_Valid (t0.1, (t0.2.1, ()))).bind fun y2 =>
  (cond (y2)
  ((some true))
  (none))))))
def localmass_accepted.en : En := ⟨70, [.pair (.int .i64) (.pair (.sl (.pair (.int .i64) (.pair (.int .i64) (.pair (.int .i64) (.pair (.bool) (.pair (.int .i64) (.unit))))))) (.unit))], .bool, false, fun x => localmass_accepted x.1⟩
def localmass_accepted.o : List En := [symbol_Valid.en, train_Valid.en]
def localmass_accepted.oB : List EnB := []
def localmass_accepted.h : HT := .n
def localmass_accepted.c : Code := Tryz.f70.body.getD .skip
def localmass_accepted.L : Lam := fun _ i s K => none
theorem localmass_accepted.os : AllOk prog localmass_accepted.o := ⟨symbol_Valid.ok, train_Valid.ok, trivial⟩
theorem localmass_accepted.osB : AllBOk prog localmass_accepted.oB := trivial
theorem localmass_accepted.hk (x) : semK env (orc localmass_accepted.o) (orcB localmass_accepted.oB) 13 (localmass_accepted.L _) localmass_accepted.c localmass_accepted.h (S.init (avs [.pair (.int .i64) (.pair (.sl (.pair (.int .i64) (.pair (.int .i64) (.pair (.int .i64) (.pair (.bool) (.pair (.int .i64) (.unit))))))) (.unit))] x)) (fin env Tryz.f70 ⟨[.pair (.int .i64) (.pair (.sl (.pair (.int .i64) (.pair (.int .i64) (.pair (.int .i64) (.pair (.bool) (.pair (.int .i64) (.unit))))))) (.unit))], .bool, false, false⟩) = localmass_accepted.en.g x := by kernel_rfl
theorem localmass_accepted.ok : EnOk prog localmass_accepted.en := by
  refine fun_ok (g := ⟨[.pair (.int .i64) (.pair (.sl (.pair (.int .i64) (.pair (.int .i64) (.pair (.int .i64) (.pair (.bool) (.pair (.int .i64) (.unit))))))) (.unit))], .bool, false, false⟩) (h := localmass_accepted.h) (Λ := localmass_accepted.L) tabs localmass_accepted.os localmass_accepted.osB Tryz.func70 (c := localmass_accepted.c) (by kernel_rfl) (by decide +kernel) (by decide +kernel) (fun C hC => ?_) (fun x => localmass_accepted.hk x)
  exact by
    have e : loops localmass_accepted.c localmass_accepted.h = [] := by kernel_rfl
    rw [e]
    exact LamOk.nil
def localmass_Cross.j3 (t4 : Int) (t16 : List (Int × Int × Int × Bool × Int × Unit)) (t17 : Int) (t18 : Int) (t27 : List (Int × Int × Int × Bool × Int × Unit)) (t28 : Int) (t29 : Int) (b1_0 : Int) (b1_1 : List (Int × Int × Int × Bool × Int × Unit)) (b2_0 : Bool) (b2_1 : List Int) (b2_2 : Bool) (b2_3 : List Int) (b2_4 : Bool) (b6_0 : Int) (b6_1 : Int) (b6_2 : Int) (b6_3 : Bool) (b6_4 : Int) : Option ((Int × (List (Int × Int × Int × Bool × Int × Unit)) × Int × Int × (List (Int × Int × Int × Bool × Int × Unit)) × Int × Int × (Int × (List (Int × Int × Int × Bool × Int × Unit)) × Unit) × (((Bool × List Int × Unit) × (Bool × List Int × Unit) × Unit) × Bool × Unit) × (Int × Int × Int × Bool × Int × Unit) × Unit) ⊕ ((Int × (List (Int × Int × Int × Bool × Int × Unit)) × Int × Int × (Int × (List (Int × Int × Int × Bool × Int × Unit)) × Unit) × (((Bool × List Int × Unit) × (Bool × List Int × Unit) × Unit) × Bool × Unit) × Unit))) :=
  (cond (inB t29 (List.length t27))
  ((some (.inl ((IntKind.wrap .i64 (t4 + (IntKind.wrap .i64 ((IntKind.wrap .i64 ((IntKind.wrap .i64 ((List.getD t27 (t29.toNat) ((0 : Int), ((0 : Int), ((0 : Int), (false, ((0 : Int), ())))))).1 - b6_0)) * b6_1)) * (List.getD t27 (t29.toNat) ((0 : Int), ((0 : Int), ((0 : Int), (false, ((0 : Int), ())))))).2.1)))), t16, t17, t18, t27, t28, (IntKind.wrap .i64 (t29 + (1 : Int))), (b1_0, (b1_1, ())), (((b2_0, (b2_1, ())), ((b2_2, (b2_3, ())), ())), (b2_4, ())), (b6_0, (b6_1, (b6_2, (b6_3, (b6_4, ()))))), ()))))
  none)
def localmass_Cross.s0 (t4 : Int) (t16 : List (Int × Int × Int × Bool × Int × Unit)) (t17 : Int) (t18 : Int) (t27 : List (Int × Int × Int × Bool × Int × Unit)) (t28 : Int) (t29 : Int) (b1 : Int × (List (Int × Int × Int × Bool × Int × Unit)) × Unit) (b2 : ((Bool × List Int × Unit) × (Bool × List Int × Unit) × Unit) × Bool × Unit) (b6 : Int × Int × Int × Bool × Int × Unit) : Option ((Int × (List (Int × Int × Int × Bool × Int × Unit)) × Int × Int × (List (Int × Int × Int × Bool × Int × Unit)) × Int × Int × (Int × (List (Int × Int × Int × Bool × Int × Unit)) × Unit) × (((Bool × List Int × Unit) × (Bool × List Int × Unit) × Unit) × Bool × Unit) × (Int × Int × Int × Bool × Int × Unit) × Unit) ⊕ ((Int × (List (Int × Int × Int × Bool × Int × Unit)) × Int × Int × (Int × (List (Int × Int × Int × Bool × Int × Unit)) × Unit) × (((Bool × List Int × Unit) × (Bool × List Int × Unit) × Unit) × Bool × Unit) × Unit))) :=
  (cond ((decide (t29 < t28)))
  ((localmass_Cross.j3 t4 t16 t17 t18 t27 t28 t29 b1.1 b1.2.1 b2.1.1.1 b2.1.1.2.1 b2.1.2.1.1 b2.1.2.1.2.1 b2.2.1 b6.1 b6.2.1 b6.2.2.1 b6.2.2.2.1 b6.2.2.2.2.1))
  ((some (.inr (t4, t16, t17, t18, (b1.1, (b1.2.1, ())), (((b2.1.1.1, (b2.1.1.2.1, ())), ((b2.1.2.1.1, (b2.1.2.1.2.1, ())), ())), (b2.2.1, ())), ())))))
def localmass_Cross.k0 (t4 : Int) (t16 : List (Int × Int × Int × Bool × Int × Unit)) (t17 : Int) (t18 : Int) (b1 : Int × (List (Int × Int × Int × Bool × Int × Unit)) × Unit) (b2 : ((Bool × List Int × Unit) × (Bool × List Int × Unit) × Unit) × Bool × Unit) : Option ((Int × (List (Int × Int × Int × Bool × Int × Unit)) × Int × Int × (Int × (List (Int × Int × Int × Bool × Int × Unit)) × Unit) × (((Bool × List Int × Unit) × (Bool × List Int × Unit) × Unit) × Bool × Unit) × Unit) ⊕ ((Int × (Int × (List (Int × Int × Int × Bool × Int × Unit)) × Unit) × (((Bool × List Int × Unit) × (Bool × List Int × Unit) × Unit) × Bool × Unit) × Unit))) :=
  (some (.inl (t4, t16, t17, (IntKind.wrap .i64 (t18 + (1 : Int))), (b1.1, (b1.2.1, ())), (((b2.1.1.1, (b2.1.1.2.1, ())), ((b2.1.2.1.1, (b2.1.2.1.2.1, ())), ())), (b2.2.1, ())), ())))
def localmass_Cross.j2 (t4 : Int) (t16 : List (Int × Int × Int × Bool × Int × Unit)) (t17 : Int) (t18 : Int) (b1_0 : Int) (b1_1 : List (Int × Int × Int × Bool × Int × Unit)) (b2_0 : Bool) (b2_1 : List Int) (b2_2 : Bool) (b2_3 : List Int) (b2_4 : Bool) : Option ((Int × (List (Int × Int × Int × Bool × Int × Unit)) × Int × Int × (Int × (List (Int × Int × Int × Bool × Int × Unit)) × Unit) × (((Bool × List Int × Unit) × (Bool × List Int × Unit) × Unit) × Bool × Unit) × Unit) ⊕ ((Int × (Int × (List (Int × Int × Int × Bool × Int × Unit)) × Unit) × (((Bool × List Int × Unit) × (Bool × List Int × Unit) × Unit) × Bool × Unit) × Unit))) :=
  (cond (inB t18 (List.length t16))
  ((cond (inC (IntKind.wrap .i64 (t18 + (1 : Int))) (List.length b1_1))
  (let x2 := (List.drop (((IntKind.wrap .i64 (t18 + (1 : Int)))).toNat) b1_1)
  ((iterL (fun x : Int × (List (Int × Int × Int × Bool × Int × Unit)) × Int × Int × (List (Int × Int × Int × Bool × Int × Unit)) × Int × Int × (Int × (List (Int × Int × Int × Bool × Int × Unit)) × Unit) × (((Bool × List Int × Unit) × (Bool × List Int × Unit) × Unit) × Bool × Unit) × (Int × Int × Int × Bool × Int × Unit) × Unit => localmass_Cross.s0 x.1 x.2.1 x.2.2.1 x.2.2.2.1 x.2.2.2.2.1 x.2.2.2.2.2.1 x.2.2.2.2.2.2.1 x.2.2.2.2.2.2.2.1 x.2.2.2.2.2.2.2.2.1 x.2.2.2.2.2.2.2.2.2.1) (t4, t16, t17, t18, x2, ((List.length x2 : Nat) : Int), (0 : Int), (b1_0, (b1_1, ())), (((b2_0, (b2_1, ())), ((b2_2, (b2_3, ())), ())), (b2_4, ())), ((List.getD t16 (t18.toNat) ((0 : Int), ((0 : Int), ((0 : Int), (false, ((0 : Int), ())))))).1, ((List.getD t16 (t18.toNat) ((0 : Int), ((0 : Int), ((0 : Int), (false, ((0 : Int), ())))))).2.1, ((List.getD t16 (t18.toNat) ((0 : Int), ((0 : Int), ((0 : Int), (false, ((0 : Int), ())))))).2.2.1, ((List.getD t16 (t18.toNat) ((0 : Int), ((0 : Int), ((0 : Int), (false, ((0 : Int), ())))))).2.2.2.1, ((List.getD t16 (t18.toNat) ((0 : Int), ((0 : Int), ((0 : Int), (false, ((0 : Int), ())))))).2.2.2.2.1, ()))))), ())).bind fun y => localmass_Cross.k0 y.1 y.2.1 y.2.2.1 y.2.2.2.1 y.2.2.2.2.1 y.2.2.2.2.2.1))
  none))
  none)
def localmass_Cross.s1 (t4 : Int) (t16 : List (Int × Int × Int × Bool × Int × Unit)) (t17 : Int) (t18 : Int) (b1 : Int × (List (Int × Int × Int × Bool × Int × Unit)) × Unit) (b2 : ((Bool × List Int × Unit) × (Bool × List Int × Unit) × Unit) × Bool × Unit) : Option ((Int × (List (Int × Int × Int × Bool × Int × Unit)) × Int × Int × (Int × (List (Int × Int × Int × Bool × Int × Unit)) × Unit) × (((Bool × List Int × Unit) × (Bool × List Int × Unit) × Unit) × Bool × Unit) × Unit) ⊕ ((Int × (Int × (List (Int × Int × Int × Bool × Int × Unit)) × Unit) × (((Bool × List Int × Unit) × (Bool × List Int × Unit) × Unit) × Bool × Unit) × Unit))) :=
  (cond ((decide (t18 < t17)))
  ((localmass_Cross.j2 t4 t16 t17 t18 b1.1 b1.2.1 b2.1.1.1 b2.1.1.2.1 b2.1.2.1.1 b2.1.2.1.2.1 b2.2.1))
  ((some (.inr (t4, (b1.1, (b1.2.1, ())), (((b2.1.1.1, (b2.1.1.2.1, ())), ((b2.1.2.1.1, (b2.1.2.1.2.1, ())), ())), (b2.2.1, ())), ())))))
def localmass_Cross.j4 (t4 : Int) (b1_0 : Int) (b1_1 : List (Int × Int × Int × Bool × Int × Unit)) (b2_0 : Bool) (b2_1 : List Int) (b2_2 : Bool) (b2_3 : List Int) (b2_4 : Bool) : Option ((((Bool × List Int × Unit) × (Bool × List Int × Unit) × Unit) × Bool × Unit) × Int × Unit) :=
  ((localmass_whole b1_0).bind fun y7 =>
  ((rational_Pow y7 (IntKind.wrap .i64 (Int.tdiv t4 (2 : Int)))).bind fun y9 =>
  (some ((((y9.1.1.1, (y9.1.1.2.1, ())), ((y9.1.2.1.1, (y9.1.2.1.2.1, ())), ())), (((Int.tmod t4 (2 : Int)) == (1 : Int)), ())), ((0 : Int), ())))))
def localmass_Cross.k1 (t4 : Int) (b1 : Int × (List (Int × Int × Int × Bool × Int × Unit)) × Unit) (b2 : ((Bool × List Int × Unit) × (Bool × List Int × Unit) × Unit) × Bool × Unit) : Option ((((Bool × List Int × Unit) × (Bool × List Int × Unit) × Unit) × Bool × Unit) × Int × Unit) :=
  (cond ((decide (t4 > (128 : Int))))
  ((some ((((false, (([] : List Int), ())), ((false, (([] : List Int), ())), ())), (false, ())), ((7 : Int), ()))))
  ((localmass_Cross.j4 t4 b1.1 b1.2.1 b2.1.1.1 b2.1.1.2.1 b2.1.2.1.1 b2.1.2.1.2.1 b2.2.1)))
def localmass_Cross.j1 (b1_0 : Int) (b1_1 : List (Int × Int × Int × Bool × Int × Unit)) (b2_1 : List Int) (b2_3 : List Int) : Option ((((Bool × List Int × Unit) × (Bool × List Int × Unit) × Unit) × Bool × Unit) × Int × Unit) :=
  ((iterL (fun x : Int × (List (Int × Int × Int × Bool × Int × Unit)) × Int × Int × (Int × (List (Int × Int × Int × Bool × Int × Unit)) × Unit) × (((Bool × List Int × Unit) × (Bool × List Int × Unit) × Unit) × Bool × Unit) × Unit => localmass_Cross.s1 x.1 x.2.1 x.2.2.1 x.2.2.2.1 x.2.2.2.2.1 x.2.2.2.2.2.1) ((0 : Int), b1_1, ((List.length b1_1 : Nat) : Int), (0 : Int), (b1_0, (b1_1, ())), (((false, (b2_1, ())), ((false, (b2_3, ())), ())), (false, ())), ())).bind fun y => localmass_Cross.k1 y.1 y.2.1 y.2.2.1)
def localmass_Cross (t0 : Int × (List (Int × Int × Int × Bool × Int × Unit)) × Unit) : Option ((((Bool × List Int × Unit) × (Bool × List Int × Unit) × Unit) × Bool × Unit) × Int × Unit) :=
  ((localmass_accepted (t0.1, (t0.2.1, ()))).bind fun y1 =>
  (cond ((!y1))
  ((some ((((false, (([] : List Int), ())), ((false, (([] : List Int), ())), ())), (false, ())), ((22 : Int), ()))))
  ((localmass_Cross.j1 t0.1 t0.2.1 ([] : List Int) ([] : List Int)))))
def localmass_Cross.en : En := ⟨30, [.pair (.int .i64) (.pair (.sl (.pair (.int .i64) (.pair (.int .i64) (.pair (.int .i64) (.pair (.bool) (.pair (.int .i64) (.unit))))))) (.unit))], .pair (.pair (.pair (tZ) (.pair (tZ) (.unit))) (.pair (.bool) (.unit))) (.pair (.int .i64) (.unit)), true, fun x => localmass_Cross x.1⟩
def localmass_Cross.o : List En := [rational_Pow.en, localmass_whole.en, localmass_accepted.en]
def localmass_Cross.oB : List EnB := []
def localmass_Cross.h : HT := .two (.n) (.two (.n) (.two (.n) (.two (.two (.n) (.lp 1)) (.n))))
def localmass_Cross.c : Code := Tryz.f30.body.getD .skip
def localmass_Cross.h1 : HT := .two (.n) (.two (.n) (.two (.two (.n) (.two (.n) (.lp 0))) (.n)))
def localmass_Cross.c1 : Code := (find (loops localmass_Cross.c localmass_Cross.h) 1).getD .skip
def localmass_Cross.d1 : Fm := [.v 4 (.int .i64), .v 16 (.sl (.pair (.int .i64) (.pair (.int .i64) (.pair (.int .i64) (.pair (.bool) (.pair (.int .i64) (.unit))))))), .v 17 (.int .i64), .v 18 (.int .i64), .box 1 (.pair (.int .i64) (.pair (.sl (.pair (.int .i64) (.pair (.int .i64) (.pair (.int .i64) (.pair (.bool) (.pair (.int .i64) (.unit))))))) (.unit))), .box 2 (.pair (.pair (tZ) (.pair (tZ) (.unit))) (.pair (.bool) (.unit))), .ptr 1 1, .ptr 2 2]
def localmass_Cross.x1 : Xs := [(.exit 0, [.v 4 (.int .i64), .box 1 (.pair (.int .i64) (.pair (.sl (.pair (.int .i64) (.pair (.int .i64) (.pair (.int .i64) (.pair (.bool) (.pair (.int .i64) (.unit))))))) (.unit))), .box 2 (.pair (.pair (tZ) (.pair (tZ) (.unit))) (.pair (.bool) (.unit))), .ptr 1 1, .ptr 2 2])]
def localmass_Cross.r1 (x : (Fm.ty localmass_Cross.d1).den) : Option ((Fm.ty localmass_Cross.d1).den ⊕ (Xs.T localmass_Cross.x1)) := localmass_Cross.s1 x.1 x.2.1 x.2.2.1 x.2.2.2.1 x.2.2.2.2.1 x.2.2.2.2.2.1
def localmass_Cross.h0 : HT := .n
def localmass_Cross.c0 : Code := (find (loops localmass_Cross.c1 localmass_Cross.h1) 0).getD .skip
def localmass_Cross.d0 : Fm := [.v 4 (.int .i64), .v 16 (.sl (.pair (.int .i64) (.pair (.int .i64) (.pair (.int .i64) (.pair (.bool) (.pair (.int .i64) (.unit))))))), .v 17 (.int .i64), .v 18 (.int .i64), .v 27 (.sl (.pair (.int .i64) (.pair (.int .i64) (.pair (.int .i64) (.pair (.bool) (.pair (.int .i64) (.unit))))))), .v 28 (.int .i64), .v 29 (.int .i64), .box 1 (.pair (.int .i64) (.pair (.sl (.pair (.int .i64) (.pair (.int .i64) (.pair (.int .i64) (.pair (.bool) (.pair (.int .i64) (.unit))))))) (.unit))), .box 2 (.pair (.pair (tZ) (.pair (tZ) (.unit))) (.pair (.bool) (.unit))), .box 6 (.pair (.int .i64) (.pair (.int .i64) (.pair (.int .i64) (.pair (.bool) (.pair (.int .i64) (.unit)))))), .ptr 1 1, .ptr 2 2, .ptr 6 6]
def localmass_Cross.x0 : Xs := [(.exit 2, [.v 4 (.int .i64), .v 16 (.sl (.pair (.int .i64) (.pair (.int .i64) (.pair (.int .i64) (.pair (.bool) (.pair (.int .i64) (.unit))))))), .v 17 (.int .i64), .v 18 (.int .i64), .box 1 (.pair (.int .i64) (.pair (.sl (.pair (.int .i64) (.pair (.int .i64) (.pair (.int .i64) (.pair (.bool) (.pair (.int .i64) (.unit))))))) (.unit))), .box 2 (.pair (.pair (tZ) (.pair (tZ) (.unit))) (.pair (.bool) (.unit))), .ptr 1 1, .ptr 2 2])]
def localmass_Cross.r0 (x : (Fm.ty localmass_Cross.d0).den) : Option ((Fm.ty localmass_Cross.d0).den ⊕ (Xs.T localmass_Cross.x0)) := localmass_Cross.s0 x.1 x.2.1 x.2.2.1 x.2.2.2.1 x.2.2.2.2.1 x.2.2.2.2.2.1 x.2.2.2.2.2.2.1 x.2.2.2.2.2.2.2.1 x.2.2.2.2.2.2.2.2.1 x.2.2.2.2.2.2.2.2.2.1
def localmass_Cross.L : Lam := fun _ i s K => cond (Nat.beq i 0) (lamK localmass_Cross.d0 localmass_Cross.x0 localmass_Cross.r0 s K) (cond (Nat.beq i 1) (lamK localmass_Cross.d1 localmass_Cross.x1 localmass_Cross.r1 s K) (none))
theorem localmass_Cross.hf0 (x) : roundK env (orc localmass_Cross.o) (orcB localmass_Cross.oB) 65 localmass_Cross.L localmass_Cross.c0 localmass_Cross.h0 localmass_Cross.d0 localmass_Cross.x0 x = localmass_Cross.r0 x := by kernel_rfl
theorem localmass_Cross.hf1 (x) : roundK env (orc localmass_Cross.o) (orcB localmass_Cross.oB) 65 localmass_Cross.L localmass_Cross.c1 localmass_Cross.h1 localmass_Cross.d1 localmass_Cross.x1 x = localmass_Cross.r1 x := by kernel_rfl
theorem localmass_Cross.os : AllOk prog localmass_Cross.o := ⟨rational_Pow.ok, localmass_whole.ok, localmass_accepted.ok, trivial⟩
theorem localmass_Cross.osB : AllBOk prog localmass_Cross.oB := trivial
theorem localmass_Cross.l0 {C : Ctx} (hC : C.n = 65) : LamAt prog C localmass_Cross.L 0 localmass_Cross.c0 := by
  intro R s K r hk
  refine loop_ok (D := localmass_Cross.d0) (X := localmass_Cross.x0) (h := localmass_Cross.h0) (f := localmass_Cross.r0) tabs (orc_ok _ localmass_Cross.os) (orcB_ok _ localmass_Cross.osB) (fun x => by rw [hC]; exact localmass_Cross.hf0 x) (Λ := localmass_Cross.L) ?_ (by kernel_rfl) (by kernel_rfl) (K := K) (s := s) (by exact hk)
  exact by
    have e : loops localmass_Cross.c0 localmass_Cross.h0 = [] := by kernel_rfl
    rw [e]
    exact LamOk.nil
theorem localmass_Cross.l1 {C : Ctx} (hC : C.n = 65) : LamAt prog C localmass_Cross.L 1 localmass_Cross.c1 := by
  intro R s K r hk
  refine loop_ok (D := localmass_Cross.d1) (X := localmass_Cross.x1) (h := localmass_Cross.h1) (f := localmass_Cross.r1) tabs (orc_ok _ localmass_Cross.os) (orcB_ok _ localmass_Cross.osB) (fun x => by rw [hC]; exact localmass_Cross.hf1 x) (Λ := localmass_Cross.L) ?_ (by kernel_rfl) (by kernel_rfl) (K := K) (s := s) (by exact hk)
  exact by
    have e : loops localmass_Cross.c1 localmass_Cross.h1 = [(0, localmass_Cross.c0)] := by kernel_rfl
    rw [e]
    exact LamOk.cons (localmass_Cross.l0 hC) (LamOk.nil)
theorem localmass_Cross.hk (x) : semK env (orc localmass_Cross.o) (orcB localmass_Cross.oB) 65 (localmass_Cross.L _) localmass_Cross.c localmass_Cross.h (S.init (avs [.pair (.int .i64) (.pair (.sl (.pair (.int .i64) (.pair (.int .i64) (.pair (.int .i64) (.pair (.bool) (.pair (.int .i64) (.unit))))))) (.unit))] x)) (fin env Tryz.f30 ⟨[.pair (.int .i64) (.pair (.sl (.pair (.int .i64) (.pair (.int .i64) (.pair (.int .i64) (.pair (.bool) (.pair (.int .i64) (.unit))))))) (.unit))], .pair (.pair (.pair (tZ) (.pair (tZ) (.unit))) (.pair (.bool) (.unit))) (.pair (.int .i64) (.unit)), true, false⟩) = localmass_Cross.en.g x := by kernel_rfl
theorem localmass_Cross.ok : EnOk prog localmass_Cross.en := by
  refine fun_ok (g := ⟨[.pair (.int .i64) (.pair (.sl (.pair (.int .i64) (.pair (.int .i64) (.pair (.int .i64) (.pair (.bool) (.pair (.int .i64) (.unit))))))) (.unit))], .pair (.pair (.pair (tZ) (.pair (tZ) (.unit))) (.pair (.bool) (.unit))) (.pair (.int .i64) (.unit)), true, false⟩) (h := localmass_Cross.h) (Λ := localmass_Cross.L) tabs localmass_Cross.os localmass_Cross.osB Tryz.func30 (c := localmass_Cross.c) (by kernel_rfl) (by decide +kernel) (by decide +kernel) (fun C hC => ?_) (fun x => localmass_Cross.hk x)
  exact by
    have e : loops localmass_Cross.c localmass_Cross.h = [(1, localmass_Cross.c1)] := by kernel_rfl
    rw [e]
    exact LamOk.cons (localmass_Cross.l1 hC) (LamOk.nil)
def localmass_Types.j4 (t4 : Int) (t15 : List (Int × Int × Int × Bool × Int × Unit)) (t16 : Int) (t17 : Int) (b1_0 : Int) (b1_1 : List (Int × Int × Int × Bool × Int × Unit)) : Option ((Int × (List (Int × Int × Int × Bool × Int × Unit)) × Int × Int × (Int × (List (Int × Int × Int × Bool × Int × Unit)) × Unit) × Unit) ⊕ ((Int × Unit))) :=
  (some (.inl (t4, t15, t16, (IntKind.wrap .i64 (t17 + (1 : Int))), (b1_0, (b1_1, ())), ())))
def localmass_Types.j5 (t4 : Int) (t15 : List (Int × Int × Int × Bool × Int × Unit)) (t16 : Int) (t17 : Int) (b1_0 : Int) (b1_1 : List (Int × Int × Int × Bool × Int × Unit)) : Option ((Int × (List (Int × Int × Int × Bool × Int × Unit)) × Int × Int × (Int × (List (Int × Int × Int × Bool × Int × Unit)) × Unit) × Unit) ⊕ ((Int × Unit))) :=
  (localmass_Types.j4 t4 t15 t16 t17 b1_0 b1_1)
def localmass_Types.j3 (t4 : Int) (t15 : List (Int × Int × Int × Bool × Int × Unit)) (t16 : Int) (t17 : Int) (b1_0 : Int) (b1_1 : List (Int × Int × Int × Bool × Int × Unit)) : Option ((Int × (List (Int × Int × Int × Bool × Int × Unit)) × Int × Int × (Int × (List (Int × Int × Int × Bool × Int × Unit)) × Unit) × Unit) ⊕ ((Int × Unit))) :=
  (cond (inB t17 (List.length t15))
  ((cond ((!(List.getD t15 (t17.toNat) ((0 : Int), ((0 : Int), ((0 : Int), (false, ((0 : Int), ())))))).2.2.2.1))
  ((localmass_Types.j4 (IntKind.wrap .i64 (t4 - (List.getD t15 (t17.toNat) ((0 : Int), ((0 : Int), ((0 : Int), (false, ((0 : Int), ())))))).2.1)) t15 t16 t17 b1_0 b1_1))
  ((cond ((decide (t17 > (0 : Int))))
  ((cond (inB (IntKind.wrap .i64 (t17 - (1 : Int))) (List.length b1_1))
  ((cond ((List.getD b1_1 (((IntKind.wrap .i64 (t17 - (1 : Int)))).toNat) ((0 : Int), ((0 : Int), ((0 : Int), (false, ((0 : Int), ())))))).2.2.2.1)
  ((cond (inB (IntKind.wrap .i64 (t17 - (1 : Int))) (List.length b1_1))
  ((cond (((List.getD b1_1 (((IntKind.wrap .i64 (t17 - (1 : Int)))).toNat) ((0 : Int), ((0 : Int), ((0 : Int), (false, ((0 : Int), ())))))).1 == (IntKind.wrap .i64 ((List.getD t15 (t17.toNat) ((0 : Int), ((0 : Int), ((0 : Int), (false, ((0 : Int), ())))))).1 - (1 : Int)))))
  ((localmass_Types.j5 (IntKind.wrap .i64 (t4 + (1 : Int))) t15 t16 t17 b1_0 b1_1))
  ((localmass_Types.j5 t4 t15 t16 t17 b1_0 b1_1))))
  none))
  ((localmass_Types.j4 t4 t15 t16 t17 b1_0 b1_1))))
  none))
  ((localmass_Types.j4 t4 t15 t16 t17 b1_0 b1_1))))))
  none)
def localmass_Types.s0 (t4 : Int) (t15 : List (Int × Int × Int × Bool × Int × Unit)) (t16 : Int) (t17 : Int) (b1 : Int × (List (Int × Int × Int × Bool × Int × Unit)) × Unit) : Option ((Int × (List (Int × Int × Int × Bool × Int × Unit)) × Int × Int × (Int × (List (Int × Int × Int × Bool × Int × Unit)) × Unit) × Unit) ⊕ ((Int × Unit))) :=
  (cond ((decide (t17 < t16)))
  ((localmass_Types.j3 t4 t15 t16 t17 b1.1 b1.2.1))
  ((some (.inr (t4, ())))))
def localmass_Types.k0 (t4 : Int) : Option (Int × Int × Unit) :=
  (some (t4, ((0 : Int), ())))
def localmass_Types.j2 (b1_0 : Int) (b1_1 : List (Int × Int × Int × Bool × Int × Unit)) : Option (Int × Int × Unit) :=
  ((iterL (fun x : Int × (List (Int × Int × Int × Bool × Int × Unit)) × Int × Int × (Int × (List (Int × Int × Int × Bool × Int × Unit)) × Unit) × Unit => localmass_Types.s0 x.1 x.2.1 x.2.2.1 x.2.2.2.1 x.2.2.2.2.1) ((0 : Int), b1_1, ((List.length b1_1 : Nat) : Int), (0 : Int), (b1_0, (b1_1, ())), ())).bind fun y => localmass_Types.k0 y.1)
def localmass_Types.j1 (b1_0 : Int) (b1_1 : List (Int × Int × Int × Bool × Int × Unit)) : Option (Int × Int × Unit) :=
  (cond ((decide (b1_0 > (2 : Int))))
  ((some ((0 : Int), ((0 : Int), ()))))
  ((localmass_Types.j2 b1_0 b1_1)))
def localmass_Types (t0 : Int × (List (Int × Int × Int × Bool × Int × Unit)) × Unit) : Option (Int × Int × Unit) :=
  ((localmass_accepted (t0.1, (t0.2.1, ()))).bind fun y1 =>
  (cond ((!y1))
  ((some ((0 : Int), ((22 : Int), ()))))
  ((localmass_Types.j1 t0.1 t0.2.1))))
def localmass_Types.en : En := ⟨32, [.pair (.int .i64) (.pair (.sl (.pair (.int .i64) (.pair (.int .i64) (.pair (.int .i64) (.pair (.bool) (.pair (.int .i64) (.unit))))))) (.unit))], .pair (.int .i64) (.pair (.int .i64) (.unit)), true, fun x => localmass_Types x.1⟩
def localmass_Types.o : List En := [localmass_accepted.en]
def localmass_Types.oB : List EnB := []
def localmass_Types.h : HT := .two (.n) (.two (.n) (.two (.n) (.two (.n) (.two (.two (.n) (.lp 0)) (.n)))))
def localmass_Types.c : Code := Tryz.f32.body.getD .skip
def localmass_Types.h0 : HT := .n
def localmass_Types.c0 : Code := (find (loops localmass_Types.c localmass_Types.h) 0).getD .skip
def localmass_Types.d0 : Fm := [.v 4 (.int .i64), .v 15 (.sl (.pair (.int .i64) (.pair (.int .i64) (.pair (.int .i64) (.pair (.bool) (.pair (.int .i64) (.unit))))))), .v 16 (.int .i64), .v 17 (.int .i64), .box 1 (.pair (.int .i64) (.pair (.sl (.pair (.int .i64) (.pair (.int .i64) (.pair (.int .i64) (.pair (.bool) (.pair (.int .i64) (.unit))))))) (.unit))), .ptr 1 1]
def localmass_Types.x0 : Xs := [(.exit 0, [.v 4 (.int .i64)])]
def localmass_Types.r0 (x : (Fm.ty localmass_Types.d0).den) : Option ((Fm.ty localmass_Types.d0).den ⊕ (Xs.T localmass_Types.x0)) := localmass_Types.s0 x.1 x.2.1 x.2.2.1 x.2.2.2.1 x.2.2.2.2.1
def localmass_Types.L : Lam := fun _ i s K => cond (Nat.beq i 0) (lamK localmass_Types.d0 localmass_Types.x0 localmass_Types.r0 s K) (none)
theorem localmass_Types.hf0 (x) : roundK env (orc localmass_Types.o) (orcB localmass_Types.oB) 57 localmass_Types.L localmass_Types.c0 localmass_Types.h0 localmass_Types.d0 localmass_Types.x0 x = localmass_Types.r0 x := by kernel_rfl
theorem localmass_Types.os : AllOk prog localmass_Types.o := ⟨localmass_accepted.ok, trivial⟩
theorem localmass_Types.osB : AllBOk prog localmass_Types.oB := trivial
theorem localmass_Types.l0 {C : Ctx} (hC : C.n = 57) : LamAt prog C localmass_Types.L 0 localmass_Types.c0 := by
  intro R s K r hk
  refine loop_ok (D := localmass_Types.d0) (X := localmass_Types.x0) (h := localmass_Types.h0) (f := localmass_Types.r0) tabs (orc_ok _ localmass_Types.os) (orcB_ok _ localmass_Types.osB) (fun x => by rw [hC]; exact localmass_Types.hf0 x) (Λ := localmass_Types.L) ?_ (by kernel_rfl) (by kernel_rfl) (K := K) (s := s) (by exact hk)
  exact by
    have e : loops localmass_Types.c0 localmass_Types.h0 = [] := by kernel_rfl
    rw [e]
    exact LamOk.nil
theorem localmass_Types.hk (x) : semK env (orc localmass_Types.o) (orcB localmass_Types.oB) 57 (localmass_Types.L _) localmass_Types.c localmass_Types.h (S.init (avs [.pair (.int .i64) (.pair (.sl (.pair (.int .i64) (.pair (.int .i64) (.pair (.int .i64) (.pair (.bool) (.pair (.int .i64) (.unit))))))) (.unit))] x)) (fin env Tryz.f32 ⟨[.pair (.int .i64) (.pair (.sl (.pair (.int .i64) (.pair (.int .i64) (.pair (.int .i64) (.pair (.bool) (.pair (.int .i64) (.unit))))))) (.unit))], .pair (.int .i64) (.pair (.int .i64) (.unit)), true, false⟩) = localmass_Types.en.g x := by kernel_rfl
theorem localmass_Types.ok : EnOk prog localmass_Types.en := by
  refine fun_ok (g := ⟨[.pair (.int .i64) (.pair (.sl (.pair (.int .i64) (.pair (.int .i64) (.pair (.int .i64) (.pair (.bool) (.pair (.int .i64) (.unit))))))) (.unit))], .pair (.int .i64) (.pair (.int .i64) (.unit)), true, false⟩) (h := localmass_Types.h) (Λ := localmass_Types.L) tabs localmass_Types.os localmass_Types.osB Tryz.func32 (c := localmass_Types.c) (by kernel_rfl) (by decide +kernel) (by decide +kernel) (fun C hC => ?_) (fun x => localmass_Types.hk x)
  exact by
    have e : loops localmass_Types.c localmass_Types.h = [(0, localmass_Types.c0)] := by kernel_rfl
    rw [e]
    exact LamOk.cons (localmass_Types.l0 hC) (LamOk.nil)
def localmass_at.j2 (t1 : Int) (t8 : List (Int × Int × Int × Bool × Int × Unit)) (t9 : Int) (t10 : Int) (b4_0 : Int) (b4_1 : Int) (b4_2 : Int) (b4_3 : Bool) (b4_4 : Int) : Option ((Int × (List (Int × Int × Int × Bool × Int × Unit)) × Int × Int × (Int × Int × Int × Bool × Int × Unit) × Unit) ⊕ ((Int × (Int × Int × Int × Bool × Int × Unit) × Unit) ⊕ ((Int × Int × Int × Bool × Int × Unit) × Unit))) :=
  (some (.inl (t1, t8, t9, (IntKind.wrap .i64 (t10 + (1 : Int))), (b4_0, (b4_1, (b4_2, (b4_3, (b4_4, ()))))), ())))
def localmass_at.j1 (t1 : Int) (t8 : List (Int × Int × Int × Bool × Int × Unit)) (t9 : Int) (t10 : Int) (b4_0 : Int) (b4_1 : Int) (b4_2 : Int) (b4_3 : Bool) (b4_4 : Int) : Option ((Int × (List (Int × Int × Int × Bool × Int × Unit)) × Int × Int × (Int × Int × Int × Bool × Int × Unit) × Unit) ⊕ ((Int × (Int × Int × Int × Bool × Int × Unit) × Unit) ⊕ ((Int × Int × Int × Bool × Int × Unit) × Unit))) :=
  (cond (inB t10 (List.length t8))
  ((cond (((List.getD t8 (t10.toNat) ((0 : Int), ((0 : Int), ((0 : Int), (false, ((0 : Int), ())))))).1 == t1))
  ((some (.inr (.inr (((List.getD t8 (t10.toNat) ((0 : Int), ((0 : Int), ((0 : Int), (false, ((0 : Int), ())))))).1, ((List.getD t8 (t10.toNat) ((0 : Int), ((0 : Int), ((0 : Int), (false, ((0 : Int), ())))))).2.1, ((List.getD t8 (t10.toNat) ((0 : Int), ((0 : Int), ((0 : Int), (false, ((0 : Int), ())))))).2.2.1, ((List.getD t8 (t10.toNat) ((0 : Int), ((0 : Int), ((0 : Int), (false, ((0 : Int), ())))))).2.2.2.1, ((List.getD t8 (t10.toNat) ((0 : Int), ((0 : Int), ((0 : Int), (false, ((0 : Int), ())))))).2.2.2.2.1, ()))))), ())))))
  ((localmass_at.j2 t1 t8 t9 t10 b4_0 b4_1 b4_2 b4_3 b4_4))))
  none)
def localmass_at.s0 (t1 : Int) (t8 : List (Int × Int × Int × Bool × Int × Unit)) (t9 : Int) (t10 : Int) (b4 : Int × Int × Int × Bool × Int × Unit) : Option ((Int × (List (Int × Int × Int × Bool × Int × Unit)) × Int × Int × (Int × Int × Int × Bool × Int × Unit) × Unit) ⊕ ((Int × (Int × Int × Int × Bool × Int × Unit) × Unit) ⊕ ((Int × Int × Int × Bool × Int × Unit) × Unit))) :=
  (cond ((decide (t10 < t9)))
  ((localmass_at.j1 t1 t8 t9 t10 b4.1 b4.2.1 b4.2.2.1 b4.2.2.2.1 b4.2.2.2.2.1))
  ((some (.inr (.inl (t1, (b4.1, (b4.2.1, (b4.2.2.1, (b4.2.2.2.1, (b4.2.2.2.2.1, ()))))), ()))))))
def localmass_at.k0_0 (t1 : Int) (b4 : Int × Int × Int × Bool × Int × Unit) : Option (Int × Int × Int × Bool × Int × Unit) :=
  (some (t1, ((0 : Int), ((1 : Int), (false, ((0 : Int), ()))))))
def localmass_at.k0_1 (b4 : Int × Int × Int × Bool × Int × Unit) : Option (Int × Int × Int × Bool × Int × Unit) :=
  (some (b4.1, (b4.2.1, (b4.2.2.1, (b4.2.2.2.1, (b4.2.2.2.2.1, ()))))))
def localmass_at (t0 : Int × (List (Int × Int × Int × Bool × Int × Unit)) × Unit) (t1 : Int) : Option (Int × Int × Int × Bool × Int × Unit) :=
  ((iterL (fun x : Int × (List (Int × Int × Int × Bool × Int × Unit)) × Int × Int × (Int × Int × Int × Bool × Int × Unit) × Unit => localmass_at.s0 x.1 x.2.1 x.2.2.1 x.2.2.2.1 x.2.2.2.2.1) (t1, t0.2.1, ((List.length t0.2.1 : Nat) : Int), (0 : Int), ((0 : Int), ((0 : Int), ((0 : Int), (false, ((0 : Int), ()))))), ())).bind fun z => Sum.casesOn z (fun y => localmass_at.k0_0 y.1 y.2.1) (fun z => localmass_at.k0_1 z.1))
def localmass_at.en : En := ⟨107, [.pair (.int .i64) (.pair (.sl (.pair (.int .i64) (.pair (.int .i64) (.pair (.int .i64) (.pair (.bool) (.pair (.int .i64) (.unit))))))) (.unit)), .int .i64], .pair (.int .i64) (.pair (.int .i64) (.pair (.int .i64) (.pair (.bool) (.pair (.int .i64) (.unit))))), false, fun x => localmass_at x.1 x.2.1⟩
def localmass_at.o : List En := []
def localmass_at.oB : List EnB := []
def localmass_at.h : HT := .two (.n) (.two (.two (.n) (.lp 0)) (.n))
def localmass_at.c : Code := Tryz.f107.body.getD .skip
def localmass_at.h0 : HT := .n
def localmass_at.c0 : Code := (find (loops localmass_at.c localmass_at.h) 0).getD .skip
def localmass_at.d0 : Fm := [.v 1 (.int .i64), .v 8 (.sl (.pair (.int .i64) (.pair (.int .i64) (.pair (.int .i64) (.pair (.bool) (.pair (.int .i64) (.unit))))))), .v 9 (.int .i64), .v 10 (.int .i64), .box 4 (.pair (.int .i64) (.pair (.int .i64) (.pair (.int .i64) (.pair (.bool) (.pair (.int .i64) (.unit)))))), .ptr 4 4]
def localmass_at.x0 : Xs := [(.exit 0, [.v 1 (.int .i64), .box 4 (.pair (.int .i64) (.pair (.int .i64) (.pair (.int .i64) (.pair (.bool) (.pair (.int .i64) (.unit)))))), .ptr 4 4]), (.ret, [.box 4 (.pair (.int .i64) (.pair (.int .i64) (.pair (.int .i64) (.pair (.bool) (.pair (.int .i64) (.unit)))))), .ptr 4 4])]
def localmass_at.r0 (x : (Fm.ty localmass_at.d0).den) : Option ((Fm.ty localmass_at.d0).den ⊕ (Xs.T localmass_at.x0)) := localmass_at.s0 x.1 x.2.1 x.2.2.1 x.2.2.2.1 x.2.2.2.2.1
def localmass_at.L : Lam := fun _ i s K => cond (Nat.beq i 0) (lamK localmass_at.d0 localmass_at.x0 localmass_at.r0 s K) (none)
theorem localmass_at.hf0 (x) : roundK env (orc localmass_at.o) (orcB localmass_at.oB) 22 localmass_at.L localmass_at.c0 localmass_at.h0 localmass_at.d0 localmass_at.x0 x = localmass_at.r0 x := by kernel_rfl
theorem localmass_at.os : AllOk prog localmass_at.o := trivial
theorem localmass_at.osB : AllBOk prog localmass_at.oB := trivial
theorem localmass_at.l0 {C : Ctx} (hC : C.n = 22) : LamAt prog C localmass_at.L 0 localmass_at.c0 := by
  intro R s K r hk
  refine loop_ok (D := localmass_at.d0) (X := localmass_at.x0) (h := localmass_at.h0) (f := localmass_at.r0) tabs (orc_ok _ localmass_at.os) (orcB_ok _ localmass_at.osB) (fun x => by rw [hC]; exact localmass_at.hf0 x) (Λ := localmass_at.L) ?_ (by kernel_rfl) (by kernel_rfl) (K := K) (s := s) (by exact hk)
  exact by
    have e : loops localmass_at.c0 localmass_at.h0 = [] := by kernel_rfl
    rw [e]
    exact LamOk.nil
theorem localmass_at.hk (x) : semK env (orc localmass_at.o) (orcB localmass_at.oB) 22 (localmass_at.L _) localmass_at.c localmass_at.h (S.init (avs [.pair (.int .i64) (.pair (.sl (.pair (.int .i64) (.pair (.int .i64) (.pair (.int .i64) (.pair (.bool) (.pair (.int .i64) (.unit))))))) (.unit)), .int .i64] x)) (fin env Tryz.f107 ⟨[.pair (.int .i64) (.pair (.sl (.pair (.int .i64) (.pair (.int .i64) (.pair (.int .i64) (.pair (.bool) (.pair (.int .i64) (.unit))))))) (.unit)), .int .i64], .pair (.int .i64) (.pair (.int .i64) (.pair (.int .i64) (.pair (.bool) (.pair (.int .i64) (.unit))))), false, false⟩) = localmass_at.en.g x := by kernel_rfl
theorem localmass_at.ok : EnOk prog localmass_at.en := by
  refine fun_ok (g := ⟨[.pair (.int .i64) (.pair (.sl (.pair (.int .i64) (.pair (.int .i64) (.pair (.int .i64) (.pair (.bool) (.pair (.int .i64) (.unit))))))) (.unit)), .int .i64], .pair (.int .i64) (.pair (.int .i64) (.pair (.int .i64) (.pair (.bool) (.pair (.int .i64) (.unit))))), false, false⟩) (h := localmass_at.h) (Λ := localmass_at.L) tabs localmass_at.os localmass_at.osB Tryz.func107 (c := localmass_at.c) (by kernel_rfl) (by decide +kernel) (by decide +kernel) (fun C hC => ?_) (fun x => localmass_at.hk x)
  exact by
    have e : loops localmass_at.c localmass_at.h = [(0, localmass_at.c0)] := by kernel_rfl
    rw [e]
    exact LamOk.cons (localmass_at.l0 hC) (LamOk.nil)
def localmass_species.j2 (b5_0 : Int) (b5_1 : Int) (b5_2 : Int) (b5_3 : Bool) (b5_4 : Int) : Option (Int × Int × Unit) :=
  (some (b5_1, ((IntKind.wrap .i64 (0 - b5_2)), ())))
def localmass_species.j1 (b5_0 : Int) (b5_1 : Int) (b5_2 : Int) (b5_3 : Bool) (b5_4 : Int) : Option (Int × Int × Unit) :=
  (localmass_species.j2 b5_0 b5_1 b5_2 b5_3 b5_4)
def localmass_species.j7 (t7 : Int) (b5_0 : Int) (b5_1 : Int) (b5_2 : Int) (b5_3 : Bool) (b5_4 : Int) : Option (Int × Int × Unit) :=
  (cond (inB t7 8)
  ((some ((IntKind.wrap .i64 (b5_1 - (List.getD gl_0 (t7.toNat) ((0 : Int), ((0 : Int), ()))).1)), ((List.getD gl_0 (t7.toNat) ((0 : Int), ((0 : Int), ()))).2.1, ()))))
  none)
def localmass_species.j6 (b5_0 : Int) (b5_1 : Int) (b5_2 : Int) (b5_3 : Bool) (b5_4 : Int) : Option (Int × Int × Unit) :=
  (cond ((b5_2 == (-1 : Int)))
  ((localmass_species.j7 (Int.tmod (IntKind.wrap .i64 (b5_4 + (4 : Int))) (8 : Int)) b5_0 b5_1 b5_2 b5_3 b5_4))
  ((localmass_species.j7 b5_4 b5_0 b5_1 b5_2 b5_3 b5_4)))
def localmass_species.j5 (b5_0 : Int) (b5_1 : Int) (b5_2 : Int) (b5_3 : Bool) (b5_4 : Int) : Option (Int × Int × Unit) :=
  (localmass_species.j6 b5_0 b5_1 b5_2 b5_3 b5_4)
def localmass_species.j4 (b5_0 : Int) (b5_1 : Int) (b5_2 : Int) (b5_3 : Bool) (b5_4 : Int) : Option (Int × Int × Unit) :=
  (localmass_species.j5 b5_0 b5_1 b5_2 b5_3 b5_4)
def localmass_species.j3 (t1 : Int) (b2_0 : Int) (b2_1 : List (Int × Int × Int × Bool × Int × Unit)) (b5_0 : Int) (b5_1 : Int) (b5_2 : Int) (b5_3 : Bool) (b5_4 : Int) : Option (Int × Int × Unit) :=
  ((localmass_at (b2_0, (b2_1, ())) (IntKind.wrap .i64 (t1 - (1 : Int)))).bind fun y4 =>
  (cond (y4.2.2.2.1)
  ((cond ((!b5_3))
  ((cond ((!b5_3))
  ((some ((IntKind.wrap .i64 (b5_1 + (1 : Int))), ((0 : Int), ()))))
  ((some ((IntKind.wrap .i64 ((IntKind.wrap .i64 (b5_1 - (1 : Int))) + (Int.tmod b5_1 (2 : Int)))), ((0 : Int), ()))))))
  ((cond ((!b5_3))
  ((some ((IntKind.wrap .i64 (b5_1 + (1 : Int))), ((0 : Int), ()))))
  ((some ((IntKind.wrap .i64 ((IntKind.wrap .i64 (b5_1 - (1 : Int))) + (Int.tmod b5_1 (2 : Int)))), ((0 : Int), ()))))))))
  (((localmass_at (b2_0, (b2_1, ())) (IntKind.wrap .i64 (t1 + (1 : Int)))).bind fun y7 =>
  (cond ((!b5_3))
  ((cond ((!y7.2.2.2.1))
  ((some (b5_1, (b5_2, ()))))
  ((cond ((!b5_3))
  ((some ((IntKind.wrap .i64 (b5_1 + (1 : Int))), ((0 : Int), ()))))
  ((cond (y7.2.2.2.1)
  ((some ((IntKind.wrap .i64 ((IntKind.wrap .i64 (b5_1 - (1 : Int))) + (Int.tmod b5_1 (2 : Int)))), ((0 : Int), ()))))
  ((localmass_species.j4 b5_0 b5_1 b5_2 b5_3 b5_4))))))))
  ((cond ((!b5_3))
  ((some ((IntKind.wrap .i64 (b5_1 + (1 : Int))), ((0 : Int), ()))))
  ((cond (y7.2.2.2.1)
  ((some ((IntKind.wrap .i64 ((IntKind.wrap .i64 (b5_1 - (1 : Int))) + (Int.tmod b5_1 (2 : Int)))), ((0 : Int), ()))))
  ((localmass_species.j4 b5_0 b5_1 b5_2 b5_3 b5_4)))))))))))
def localmass_species (t0 : Int × (List (Int × Int × Int × Bool × Int × Unit)) × Unit) (t1 : Int) : Option (Int × Int × Unit) :=
  ((localmass_at (t0.1, (t0.2.1, ())) t1).bind fun y1 =>
  (cond ((decide (t0.1 > (2 : Int))))
  ((cond (((Int.tmod y1.2.1 (2 : Int)) == (1 : Int)))
  ((some (y1.2.1, ((0 : Int), ()))))
  ((cond (((Int.tmod t0.1 (4 : Int)) == (1 : Int)))
  ((some (y1.2.1, (y1.2.2.1, ()))))
  ((cond (((Int.tmod y1.2.1 (4 : Int)) == (0 : Int)))
  ((some (y1.2.1, (y1.2.2.1, ()))))
  ((localmass_species.j1 y1.1 y1.2.1 y1.2.2.1 y1.2.2.2.1 y1.2.2.2.2.1))))))))
  ((localmass_species.j3 t1 t0.1 t0.2.1 y1.1 y1.2.1 y1.2.2.1 y1.2.2.2.1 y1.2.2.2.2.1))))
def localmass_species.en : En := ⟨49, [.pair (.int .i64) (.pair (.sl (.pair (.int .i64) (.pair (.int .i64) (.pair (.int .i64) (.pair (.bool) (.pair (.int .i64) (.unit))))))) (.unit)), .int .i64], .pair (.int .i64) (.pair (.int .i64) (.unit)), false, fun x => localmass_species x.1 x.2.1⟩
def localmass_species.o : List En := [localmass_at.en]
def localmass_species.oB : List EnB := []
def localmass_species.h : HT := .n
def localmass_species.c : Code := Tryz.f49.body.getD .skip
def localmass_species.L : Lam := fun _ i s K => none
theorem localmass_species.os : AllOk prog localmass_species.o := ⟨localmass_at.ok, trivial⟩
theorem localmass_species.osB : AllBOk prog localmass_species.oB := trivial
theorem localmass_species.hk (x) : semK env (orc localmass_species.o) (orcB localmass_species.oB) 107 (localmass_species.L _) localmass_species.c localmass_species.h (S.init (avs [.pair (.int .i64) (.pair (.sl (.pair (.int .i64) (.pair (.int .i64) (.pair (.int .i64) (.pair (.bool) (.pair (.int .i64) (.unit))))))) (.unit)), .int .i64] x)) (fin env Tryz.f49 ⟨[.pair (.int .i64) (.pair (.sl (.pair (.int .i64) (.pair (.int .i64) (.pair (.int .i64) (.pair (.bool) (.pair (.int .i64) (.unit))))))) (.unit)), .int .i64], .pair (.int .i64) (.pair (.int .i64) (.unit)), false, false⟩) = localmass_species.en.g x := by kernel_rfl
theorem localmass_species.ok : EnOk prog localmass_species.en := by
  refine fun_ok (g := ⟨[.pair (.int .i64) (.pair (.sl (.pair (.int .i64) (.pair (.int .i64) (.pair (.int .i64) (.pair (.bool) (.pair (.int .i64) (.unit))))))) (.unit)), .int .i64], .pair (.int .i64) (.pair (.int .i64) (.unit)), false, false⟩) (h := localmass_species.h) (Λ := localmass_species.L) tabs localmass_species.os localmass_species.osB Tryz.func49 (c := localmass_species.c) (by kernel_rfl) (by decide +kernel) (by decide +kernel) (fun C hC => ?_) (fun x => localmass_species.hk x)
  exact by
    have e : loops localmass_species.c localmass_species.h = [] := by kernel_rfl
    rw [e]
    exact LamOk.nil
def localmass_Mass.j2 (t6 : Int) (b1_0 : Int) (b1_1 : List (Int × Int × Int × Bool × Int × Unit)) (b2_0 : Bool) (b2_1 : List Int) (b2_2 : Bool) (b2_3 : List Int) (b2_4 : Bool) (b4_0 : Bool) (b4_1 : List Int) (b4_2 : Bool) (b4_3 : List Int) (b4_4 : Bool) : Option ((Int × (Int × (List (Int × Int × Int × Bool × Int × Unit)) × Unit) × (((Bool × List Int × Unit) × (Bool × List Int × Unit) × Unit) × Bool × Unit) × (((Bool × List Int × Unit) × (Bool × List Int × Unit) × Unit) × Bool × Unit) × Unit) ⊕ (((Int × (List (Int × Int × Int × Bool × Int × Unit)) × Unit) × (((Bool × List Int × Unit) × (Bool × List Int × Unit) × Unit) × Bool × Unit) × (((Bool × List Int × Unit) × (Bool × List Int × Unit) × Unit) × Bool × Unit) × Unit))) :=
  ((localmass_species (b1_0, (b1_1, ())) t6).bind fun y5 =>
  ((localmass_Diagonal b1_0 y5).bind fun y6 =>
  ((rational_Mul ((b4_0, (b4_1, ())), ((b4_2, (b4_3, ())), ())) ((y6.1.1.1, (y6.1.1.2.1, ())), ((y6.1.2.1.1, (y6.1.2.1.2.1, ())), ()))).bind fun y7 =>
  (some (.inl ((IntKind.wrap .i64 (t6 + (1 : Int))), (b1_0, (b1_1, ())), (((b2_0, (b2_1, ())), ((b2_2, (b2_3, ())), ())), (b2_4, ())), (((y7.1.1, (y7.1.2.1, ())), ((y7.2.1.1, (y7.2.1.2.1, ())), ())), (b4_4, ())), ()))))))
def localmass_Mass.s0 (t6 : Int) (b1 : Int × (List (Int × Int × Int × Bool × Int × Unit)) × Unit) (b2 : ((Bool × List Int × Unit) × (Bool × List Int × Unit) × Unit) × Bool × Unit) (b4 : ((Bool × List Int × Unit) × (Bool × List Int × Unit) × Unit) × Bool × Unit) : Option ((Int × (Int × (List (Int × Int × Int × Bool × Int × Unit)) × Unit) × (((Bool × List Int × Unit) × (Bool × List Int × Unit) × Unit) × Bool × Unit) × (((Bool × List Int × Unit) × (Bool × List Int × Unit) × Unit) × Bool × Unit) × Unit) ⊕ (((Int × (List (Int × Int × Int × Bool × Int × Unit)) × Unit) × (((Bool × List Int × Unit) × (Bool × List Int × Unit) × Unit) × Bool × Unit) × (((Bool × List Int × Unit) × (Bool × List Int × Unit) × Unit) × Bool × Unit) × Unit))) :=
  let x2 := (IntKind.wrap .i64 (((List.length b1.2.1 : Nat) : Int) - (1 : Int)))
  (cond (inB x2 (List.length b1.2.1))
  ((cond ((decide (t6 ≤ (IntKind.wrap .i64 ((List.getD b1.2.1 (x2.toNat) ((0 : Int), ((0 : Int), ((0 : Int), (false, ((0 : Int), ())))))).1 + (1 : Int))))))
  ((localmass_Mass.j2 t6 b1.1 b1.2.1 b2.1.1.1 b2.1.1.2.1 b2.1.2.1.1 b2.1.2.1.2.1 b2.2.1 b4.1.1.1 b4.1.1.2.1 b4.1.2.1.1 b4.1.2.1.2.1 b4.2.1))
  ((some (.inr ((b1.1, (b1.2.1, ())), (((b2.1.1.1, (b2.1.1.2.1, ())), ((b2.1.2.1.1, (b2.1.2.1.2.1, ())), ())), (b2.2.1, ())), (((b4.1.1.1, (b4.1.1.2.1, ())), ((b4.1.2.1.1, (b4.1.2.1.2.1, ())), ())), (b4.2.1, ())), ()))))))
  none)
def localmass_Mass.k0 (b1 : Int × (List (Int × Int × Int × Bool × Int × Unit)) × Unit) (b2 : ((Bool × List Int × Unit) × (Bool × List Int × Unit) × Unit) × Bool × Unit) (b4 : ((Bool × List Int × Unit) × (Bool × List Int × Unit) × Unit) × Bool × Unit) : Option ((((Bool × List Int × Unit) × (Bool × List Int × Unit) × Unit) × Bool × Unit) × Int × Unit) :=
  ((localmass_Types (b1.1, (b1.2.1, ()))).bind fun y8 =>
  ((localmass_whole (2 : Int)).bind fun y9 =>
  ((rational_Pow y9 y8.1).bind fun y10 =>
  ((rational_Mul ((b4.1.1.1, (b4.1.1.2.1, ())), ((b4.1.2.1.1, (b4.1.2.1.2.1, ())), ())) ((y10.1.1.1, (y10.1.1.2.1, ())), ((y10.1.2.1.1, (y10.1.2.1.2.1, ())), ()))).bind fun y11 =>
  (some ((((y11.1.1, (y11.1.2.1, ())), ((y11.2.1.1, (y11.2.1.2.1, ())), ())), (b4.2.1, ())), ((0 : Int), ())))))))
def localmass_Mass.j1 (b1_0 : Int) (b1_1 : List (Int × Int × Int × Bool × Int × Unit)) (b2_1 : List Int) (b2_3 : List Int) (b4_0 : Bool) (b4_1 : List Int) (b4_2 : Bool) (b4_3 : List Int) (b4_4 : Bool) : Option ((((Bool × List Int × Unit) × (Bool × List Int × Unit) × Unit) × Bool × Unit) × Int × Unit) :=
  ((iterL (fun x : Int × (Int × (List (Int × Int × Int × Bool × Int × Unit)) × Unit) × (((Bool × List Int × Unit) × (Bool × List Int × Unit) × Unit) × Bool × Unit) × (((Bool × List Int × Unit) × (Bool × List Int × Unit) × Unit) × Bool × Unit) × Unit => localmass_Mass.s0 x.1 x.2.1 x.2.2.1 x.2.2.2.1) ((-1 : Int), (b1_0, (b1_1, ())), (((false, (b2_1, ())), ((false, (b2_3, ())), ())), (false, ())), (((b4_0, (b4_1, ())), ((b4_2, (b4_3, ())), ())), (b4_4, ())), ())).bind fun y => localmass_Mass.k0 y.1 y.2.1 y.2.2.1)
def localmass_Mass (t0 : Int × (List (Int × Int × Int × Bool × Int × Unit)) × Unit) : Option ((((Bool × List Int × Unit) × (Bool × List Int × Unit) × Unit) × Bool × Unit) × Int × Unit) :=
  ((localmass_Cross (t0.1, (t0.2.1, ()))).bind fun y1 =>
  (cond ((y1.2.1 != (0 : Int)))
  ((some ((((false, (([] : List Int), ())), ((false, (([] : List Int), ())), ())), (false, ())), (y1.2.1, ()))))
  ((localmass_Mass.j1 t0.1 t0.2.1 ([] : List Int) ([] : List Int) y1.1.1.1.1 y1.1.1.1.2.1 y1.1.1.2.1.1 y1.1.1.2.1.2.1 y1.1.2.1))))
def localmass_Mass.en : En := ⟨16, [.pair (.int .i64) (.pair (.sl (.pair (.int .i64) (.pair (.int .i64) (.pair (.int .i64) (.pair (.bool) (.pair (.int .i64) (.unit))))))) (.unit))], .pair (.pair (.pair (tZ) (.pair (tZ) (.unit))) (.pair (.bool) (.unit))) (.pair (.int .i64) (.unit)), true, fun x => localmass_Mass x.1⟩
def localmass_Mass.o : List En := [localmass_Diagonal.en, localmass_Cross.en, localmass_Types.en, localmass_species.en, rational_Mul.en, rational_Pow.en, localmass_whole.en]
def localmass_Mass.oB : List EnB := []
def localmass_Mass.h : HT := .two (.n) (.two (.n) (.two (.n) (.two (.two (.n) (.lp 0)) (.n))))
def localmass_Mass.c : Code := Tryz.f16.body.getD .skip
def localmass_Mass.h0 : HT := .n
def localmass_Mass.c0 : Code := (find (loops localmass_Mass.c localmass_Mass.h) 0).getD .skip
def localmass_Mass.d0 : Fm := [.v 6 (.int .i64), .box 1 (.pair (.int .i64) (.pair (.sl (.pair (.int .i64) (.pair (.int .i64) (.pair (.int .i64) (.pair (.bool) (.pair (.int .i64) (.unit))))))) (.unit))), .box 2 (.pair (.pair (tZ) (.pair (tZ) (.unit))) (.pair (.bool) (.unit))), .box 4 (.pair (.pair (tZ) (.pair (tZ) (.unit))) (.pair (.bool) (.unit))), .ptr 1 1, .ptr 2 2, .ptr 4 4]
def localmass_Mass.x0 : Xs := [(.exit 0, [.box 1 (.pair (.int .i64) (.pair (.sl (.pair (.int .i64) (.pair (.int .i64) (.pair (.int .i64) (.pair (.bool) (.pair (.int .i64) (.unit))))))) (.unit))), .box 2 (.pair (.pair (tZ) (.pair (tZ) (.unit))) (.pair (.bool) (.unit))), .box 4 (.pair (.pair (tZ) (.pair (tZ) (.unit))) (.pair (.bool) (.unit))), .ptr 1 1, .ptr 2 2, .ptr 4 4])]
def localmass_Mass.r0 (x : (Fm.ty localmass_Mass.d0).den) : Option ((Fm.ty localmass_Mass.d0).den ⊕ (Xs.T localmass_Mass.x0)) := localmass_Mass.s0 x.1 x.2.1 x.2.2.1 x.2.2.2.1
def localmass_Mass.L : Lam := fun _ i s K => cond (Nat.beq i 0) (lamK localmass_Mass.d0 localmass_Mass.x0 localmass_Mass.r0 s K) (none)
theorem localmass_Mass.hf0 (x) : roundK env (orc localmass_Mass.o) (orcB localmass_Mass.oB) 67 localmass_Mass.L localmass_Mass.c0 localmass_Mass.h0 localmass_Mass.d0 localmass_Mass.x0 x = localmass_Mass.r0 x := by kernel_rfl
theorem localmass_Mass.os : AllOk prog localmass_Mass.o := ⟨localmass_Diagonal.ok, localmass_Cross.ok, localmass_Types.ok, localmass_species.ok, rational_Mul.ok, rational_Pow.ok, localmass_whole.ok, trivial⟩
theorem localmass_Mass.osB : AllBOk prog localmass_Mass.oB := trivial
theorem localmass_Mass.l0 {C : Ctx} (hC : C.n = 67) : LamAt prog C localmass_Mass.L 0 localmass_Mass.c0 := by
  intro R s K r hk
  refine loop_ok (D := localmass_Mass.d0) (X := localmass_Mass.x0) (h := localmass_Mass.h0) (f := localmass_Mass.r0) tabs (orc_ok _ localmass_Mass.os) (orcB_ok _ localmass_Mass.osB) (fun x => by rw [hC]; exact localmass_Mass.hf0 x) (Λ := localmass_Mass.L) ?_ (by kernel_rfl) (by kernel_rfl) (K := K) (s := s) (by exact hk)
  exact by
    have e : loops localmass_Mass.c0 localmass_Mass.h0 = [] := by kernel_rfl
    rw [e]
    exact LamOk.nil
theorem localmass_Mass.hk (x) : semK env (orc localmass_Mass.o) (orcB localmass_Mass.oB) 67 (localmass_Mass.L _) localmass_Mass.c localmass_Mass.h (S.init (avs [.pair (.int .i64) (.pair (.sl (.pair (.int .i64) (.pair (.int .i64) (.pair (.int .i64) (.pair (.bool) (.pair (.int .i64) (.unit))))))) (.unit))] x)) (fin env Tryz.f16 ⟨[.pair (.int .i64) (.pair (.sl (.pair (.int .i64) (.pair (.int .i64) (.pair (.int .i64) (.pair (.bool) (.pair (.int .i64) (.unit))))))) (.unit))], .pair (.pair (.pair (tZ) (.pair (tZ) (.unit))) (.pair (.bool) (.unit))) (.pair (.int .i64) (.unit)), true, false⟩) = localmass_Mass.en.g x := by kernel_rfl
theorem localmass_Mass.ok : EnOk prog localmass_Mass.en := by
  refine fun_ok (g := ⟨[.pair (.int .i64) (.pair (.sl (.pair (.int .i64) (.pair (.int .i64) (.pair (.int .i64) (.pair (.bool) (.pair (.int .i64) (.unit))))))) (.unit))], .pair (.pair (.pair (tZ) (.pair (tZ) (.unit))) (.pair (.bool) (.unit))) (.pair (.int .i64) (.unit)), true, false⟩) (h := localmass_Mass.h) (Λ := localmass_Mass.L) tabs localmass_Mass.os localmass_Mass.osB Tryz.func16 (c := localmass_Mass.c) (by kernel_rfl) (by decide +kernel) (by decide +kernel) (fun C hC => ?_) (fun x => localmass_Mass.hk x)
  exact by
    have e : loops localmass_Mass.c localmass_Mass.h = [(0, localmass_Mass.c0)] := by kernel_rfl
    rw [e]
    exact LamOk.cons (localmass_Mass.l0 hC) (LamOk.nil)
def prime_beyond (t0 : Int) : Option (Bool) :=
  (cond ((decide (t0 > (2147483647 : Int))))
  ((some true))
  ((some (decide (t0 < (-2147483647 : Int))))))
def prime_beyond.en : En := ⟨128, [.int .i64], .bool, false, fun x => prime_beyond x.1⟩
def prime_beyond.o : List En := []
def prime_beyond.oB : List EnB := []
def prime_beyond.h : HT := .n
def prime_beyond.c : Code := Tryz.f128.body.getD .skip
def prime_beyond.L : Lam := fun _ i s K => none
theorem prime_beyond.os : AllOk prog prime_beyond.o := trivial
theorem prime_beyond.osB : AllBOk prog prime_beyond.oB := trivial
theorem prime_beyond.hk (x) : semK env (orc prime_beyond.o) (orcB prime_beyond.oB) 9 (prime_beyond.L _) prime_beyond.c prime_beyond.h (S.init (avs [.int .i64] x)) (fin env Tryz.f128 ⟨[.int .i64], .bool, false, false⟩) = prime_beyond.en.g x := by kernel_rfl
theorem prime_beyond.ok : EnOk prog prime_beyond.en := by
  refine fun_ok (g := ⟨[.int .i64], .bool, false, false⟩) (h := prime_beyond.h) (Λ := prime_beyond.L) tabs prime_beyond.os prime_beyond.osB Tryz.func128 (c := prime_beyond.c) (by kernel_rfl) (by decide +kernel) (by decide +kernel) (fun C hC => ?_) (fun x => prime_beyond.hk x)
  exact by
    have e : loops prime_beyond.c prime_beyond.h = [] := by kernel_rfl
    rw [e]
    exact LamOk.nil
def prime_Factor.j4 (t0 : Int) (t5 : Int) (a26 : List (Int × Int × Unit)) : Option ((Int × Int × (List (Int × Int × Unit)) × Unit) ⊕ (((List (Int × Int × Unit)) × Unit) ⊕ (Int × Int × (List (Int × Int × Unit)) × Unit))) :=
  (some (.inl (t0, (IntKind.wrap .i64 (t5 + (1 : Int))), a26, ())))
def prime_Factor.j3 (t0 : Int) (t5 : Int) (a26 : List (Int × Int × Unit)) : Option ((Int × Int × (List (Int × Int × Unit)) × Unit) ⊕ (((List (Int × Int × Unit)) × Unit) ⊕ (Int × Int × (List (Int × Int × Unit)) × Unit))) :=
  (cond (decide (t5 = 0))
  none
  ((cond (((Int.tmod t0 t5) == (0 : Int)))
  ((some (.inr (.inr (t0, t5, a26, ())))))
  ((prime_Factor.j4 t0 t5 a26)))))
def prime_Factor.s0 (t0 : Int) (t5 : Int) (a26 : List (Int × Int × Unit)) : Option ((Int × Int × (List (Int × Int × Unit)) × Unit) ⊕ (((List (Int × Int × Unit)) × Unit) ⊕ (Int × Int × (List (Int × Int × Unit)) × Unit))) :=
  (cond ((decide ((IntKind.wrap .i64 (t5 * t5)) > t0)))
  ((cond (decide (List.length a26 + List.length ([(t0, ((1 : Int), ()))] : List (Int × Int × Unit)) ≤ maxL))
  ((some (.inr (.inl ((a26 ++ ([(t0, ((1 : Int), ()))] : List (Int × Int × Unit))), ())))))
  none))
  ((prime_Factor.j3 t0 t5 a26)))
def prime_Factor.k0_0 (a26 : List (Int × Int × Unit)) : Option ((Int × Int × (List (Int × Int × Unit)) × Unit) ⊕ (((List (Int × Int × Unit)) × Unit))) :=
  (some (.inr (a26, ())))
def prime_Factor.j5 (t0 : Int) (t5 : Int) (t6 : Int) (a26 : List (Int × Int × Unit)) : Option ((Int × Int × Int × (List (Int × Int × Unit)) × Unit) ⊕ ((Int × Int × Int × (List (Int × Int × Unit)) × Unit))) :=
  (cond (decide (t5 = 0))
  none
  ((some (.inl ((IntKind.wrap .i64 (Int.tdiv t0 t5)), t5, (IntKind.wrap .i64 (t6 + (1 : Int))), a26, ())))))
def prime_Factor.s1 (t0 : Int) (t5 : Int) (t6 : Int) (a26 : List (Int × Int × Unit)) : Option ((Int × Int × Int × (List (Int × Int × Unit)) × Unit) ⊕ ((Int × Int × Int × (List (Int × Int × Unit)) × Unit))) :=
  (cond (decide (t5 = 0))
  none
  ((cond (((Int.tmod t0 t5) == (0 : Int)))
  ((prime_Factor.j5 t0 t5 t6 a26))
  ((some (.inr (t0, t5, t6, a26, ())))))))
def prime_Factor.k1 (t0 : Int) (t5 : Int) (t6 : Int) (a26 : List (Int × Int × Unit)) : Option ((Int × Int × (List (Int × Int × Unit)) × Unit) ⊕ (((List (Int × Int × Unit)) × Unit))) :=
  (cond (decide (List.length a26 + List.length ([(t5, (t6, ()))] : List (Int × Int × Unit)) ≤ maxL))
  ((some (.inl (t0, t5, (a26 ++ ([(t5, (t6, ()))] : List (Int × Int × Unit))), ()))))
  none)
def prime_Factor.k0_1 (t0 : Int) (t5 : Int) (a26 : List (Int × Int × Unit)) : Option ((Int × Int × (List (Int × Int × Unit)) × Unit) ⊕ (((List (Int × Int × Unit)) × Unit))) :=
  ((iterL (fun x : Int × Int × Int × (List (Int × Int × Unit)) × Unit => prime_Factor.s1 x.1 x.2.1 x.2.2.1 x.2.2.2.1) (t0, t5, (0 : Int), a26, ())).bind fun y => prime_Factor.k1 y.1 y.2.1 y.2.2.1 y.2.2.2.1)
def prime_Factor.j2 (t0 : Int) (t5 : Int) (a26 : List (Int × Int × Unit)) : Option ((Int × Int × (List (Int × Int × Unit)) × Unit) ⊕ (((List (Int × Int × Unit)) × Unit))) :=
  ((iterL (fun x : Int × Int × (List (Int × Int × Unit)) × Unit => prime_Factor.s0 x.1 x.2.1 x.2.2.1) (t0, t5, a26, ())).bind fun z => Sum.casesOn z (fun y => prime_Factor.k0_0 y.1) (fun z => prime_Factor.k0_1 z.1 z.2.1 z.2.2.1))
def prime_Factor.s2 (t0 : Int) (t5 : Int) (a26 : List (Int × Int × Unit)) : Option ((Int × Int × (List (Int × Int × Unit)) × Unit) ⊕ (((List (Int × Int × Unit)) × Unit))) :=
  (cond ((decide (t0 > (1 : Int))))
  ((prime_Factor.j2 t0 t5 a26))
  ((some (.inr (a26, ())))))
def prime_Factor.k2 (a26 : List (Int × Int × Unit)) : Option ((List (Int × Int × Unit)) × Int × Unit) :=
  (some (a26, ((0 : Int), ())))
def prime_Factor.j1 (t0 : Int) : Option ((List (Int × Int × Unit)) × Int × Unit) :=
  ((iterL (fun x : Int × Int × (List (Int × Int × Unit)) × Unit => prime_Factor.s2 x.1 x.2.1 x.2.2.1) (t0, (2 : Int), ([] : List (Int × Int × Unit)), ())).bind fun y => prime_Factor.k2 y.1)
def prime_Factor (t0 : Int) : Option ((List (Int × Int × Unit)) × Int × Unit) :=
  (cond ((decide (t0 < (1 : Int))))
  ((some (([] : List (Int × Int × Unit)), ((1 : Int), ()))))
  ((cond ((decide (t0 > (2147483647 : Int))))
  ((some (([] : List (Int × Int × Unit)), ((1 : Int), ()))))
  ((prime_Factor.j1 t0)))))
def prime_Factor.en : En := ⟨129, [.int .i64], .pair (.sl (.pair (.int .i64) (.pair (.int .i64) (.unit)))) (.pair (.int .i64) (.unit)), true, fun x => prime_Factor x.1⟩
def prime_Factor.o : List En := []
def prime_Factor.oB : List EnB := []
def prime_Factor.h : HT := .two (.n) (.two (.n) (.two (.n) (.two (.n) (.two (.n) (.two (.lp 2) (.n))))))
def prime_Factor.c : Code := Tryz.f129.body.getD .skip
def prime_Factor.h2 : HT := .two (.n) (.two (.lp 0) (.two (.n) (.two (.lp 1) (.n))))
def prime_Factor.c2 : Code := (find (loops prime_Factor.c prime_Factor.h) 2).getD .skip
def prime_Factor.d2 : Fm := [.v 0 (.int .i64), .v 5 (.int .i64), .arr 26 177 (.pair (.int .i64) (.pair (.int .i64) (.unit))), .own 4 26]
def prime_Factor.x2 : Xs := [(.exit 0, [.arr 26 177 (.pair (.int .i64) (.pair (.int .i64) (.unit))), .own 4 26])]
def prime_Factor.r2 (x : (Fm.ty prime_Factor.d2).den) : Option ((Fm.ty prime_Factor.d2).den ⊕ (Xs.T prime_Factor.x2)) := prime_Factor.s2 x.1 x.2.1 x.2.2.1
def prime_Factor.h0 : HT := .n
def prime_Factor.c0 : Code := (find (loops prime_Factor.c2 prime_Factor.h2) 0).getD .skip
def prime_Factor.d0 : Fm := [.v 0 (.int .i64), .v 5 (.int .i64), .arr 26 177 (.pair (.int .i64) (.pair (.int .i64) (.unit))), .own 4 26]
def prime_Factor.x0 : Xs := [(.exit 0, [.arr 26 177 (.pair (.int .i64) (.pair (.int .i64) (.unit))), .own 4 26]), (.exit 2, [.v 0 (.int .i64), .v 5 (.int .i64), .arr 26 177 (.pair (.int .i64) (.pair (.int .i64) (.unit))), .own 4 26])]
def prime_Factor.r0 (x : (Fm.ty prime_Factor.d0).den) : Option ((Fm.ty prime_Factor.d0).den ⊕ (Xs.T prime_Factor.x0)) := prime_Factor.s0 x.1 x.2.1 x.2.2.1
def prime_Factor.h1 : HT := .n
def prime_Factor.c1 : Code := (find (loops prime_Factor.c2 prime_Factor.h2) 1).getD .skip
def prime_Factor.d1 : Fm := [.v 0 (.int .i64), .v 5 (.int .i64), .v 6 (.int .i64), .arr 26 177 (.pair (.int .i64) (.pair (.int .i64) (.unit))), .own 4 26]
def prime_Factor.x1 : Xs := [(.exit 4, [.v 0 (.int .i64), .v 5 (.int .i64), .v 6 (.int .i64), .arr 26 177 (.pair (.int .i64) (.pair (.int .i64) (.unit))), .own 4 26])]
def prime_Factor.r1 (x : (Fm.ty prime_Factor.d1).den) : Option ((Fm.ty prime_Factor.d1).den ⊕ (Xs.T prime_Factor.x1)) := prime_Factor.s1 x.1 x.2.1 x.2.2.1 x.2.2.2.1
def prime_Factor.L : Lam := fun _ i s K => cond (Nat.beq i 0) (lamK prime_Factor.d0 prime_Factor.x0 prime_Factor.r0 s K) (cond (Nat.beq i 1) (lamK prime_Factor.d1 prime_Factor.x1 prime_Factor.r1 s K) (cond (Nat.beq i 2) (lamK prime_Factor.d2 prime_Factor.x2 prime_Factor.r2 s K) (none)))
theorem prime_Factor.hf0 (x) : roundK env (orc prime_Factor.o) (orcB prime_Factor.oB) 47 prime_Factor.L prime_Factor.c0 prime_Factor.h0 prime_Factor.d0 prime_Factor.x0 x = prime_Factor.r0 x := by kernel_rfl
theorem prime_Factor.hf1 (x) : roundK env (orc prime_Factor.o) (orcB prime_Factor.oB) 47 prime_Factor.L prime_Factor.c1 prime_Factor.h1 prime_Factor.d1 prime_Factor.x1 x = prime_Factor.r1 x := by kernel_rfl
theorem prime_Factor.hf2 (x) : roundK env (orc prime_Factor.o) (orcB prime_Factor.oB) 47 prime_Factor.L prime_Factor.c2 prime_Factor.h2 prime_Factor.d2 prime_Factor.x2 x = prime_Factor.r2 x := by kernel_rfl
theorem prime_Factor.os : AllOk prog prime_Factor.o := trivial
theorem prime_Factor.osB : AllBOk prog prime_Factor.oB := trivial
theorem prime_Factor.l0 {C : Ctx} (hC : C.n = 47) : LamAt prog C prime_Factor.L 0 prime_Factor.c0 := by
  intro R s K r hk
  refine loop_ok (D := prime_Factor.d0) (X := prime_Factor.x0) (h := prime_Factor.h0) (f := prime_Factor.r0) tabs (orc_ok _ prime_Factor.os) (orcB_ok _ prime_Factor.osB) (fun x => by rw [hC]; exact prime_Factor.hf0 x) (Λ := prime_Factor.L) ?_ (by kernel_rfl) (by kernel_rfl) (K := K) (s := s) (by exact hk)
  exact by
    have e : loops prime_Factor.c0 prime_Factor.h0 = [] := by kernel_rfl
    rw [e]
    exact LamOk.nil
theorem prime_Factor.l1 {C : Ctx} (hC : C.n = 47) : LamAt prog C prime_Factor.L 1 prime_Factor.c1 := by
  intro R s K r hk
  refine loop_ok (D := prime_Factor.d1) (X := prime_Factor.x1) (h := prime_Factor.h1) (f := prime_Factor.r1) tabs (orc_ok _ prime_Factor.os) (orcB_ok _ prime_Factor.osB) (fun x => by rw [hC]; exact prime_Factor.hf1 x) (Λ := prime_Factor.L) ?_ (by kernel_rfl) (by kernel_rfl) (K := K) (s := s) (by exact hk)
  exact by
    have e : loops prime_Factor.c1 prime_Factor.h1 = [] := by kernel_rfl
    rw [e]
    exact LamOk.nil
theorem prime_Factor.l2 {C : Ctx} (hC : C.n = 47) : LamAt prog C prime_Factor.L 2 prime_Factor.c2 := by
  intro R s K r hk
  refine loop_ok (D := prime_Factor.d2) (X := prime_Factor.x2) (h := prime_Factor.h2) (f := prime_Factor.r2) tabs (orc_ok _ prime_Factor.os) (orcB_ok _ prime_Factor.osB) (fun x => by rw [hC]; exact prime_Factor.hf2 x) (Λ := prime_Factor.L) ?_ (by kernel_rfl) (by kernel_rfl) (K := K) (s := s) (by exact hk)
  exact by
    have e : loops prime_Factor.c2 prime_Factor.h2 = [(0, prime_Factor.c0), (1, prime_Factor.c1)] := by kernel_rfl
    rw [e]
    exact LamOk.cons (prime_Factor.l0 hC) (LamOk.cons (prime_Factor.l1 hC) (LamOk.nil))
theorem prime_Factor.hk (x) : semK env (orc prime_Factor.o) (orcB prime_Factor.oB) 47 (prime_Factor.L _) prime_Factor.c prime_Factor.h (S.init (avs [.int .i64] x)) (fin env Tryz.f129 ⟨[.int .i64], .pair (.sl (.pair (.int .i64) (.pair (.int .i64) (.unit)))) (.pair (.int .i64) (.unit)), true, false⟩) = prime_Factor.en.g x := by kernel_rfl
theorem prime_Factor.ok : EnOk prog prime_Factor.en := by
  refine fun_ok (g := ⟨[.int .i64], .pair (.sl (.pair (.int .i64) (.pair (.int .i64) (.unit)))) (.pair (.int .i64) (.unit)), true, false⟩) (h := prime_Factor.h) (Λ := prime_Factor.L) tabs prime_Factor.os prime_Factor.osB Tryz.func129 (c := prime_Factor.c) (by kernel_rfl) (by decide +kernel) (by decide +kernel) (fun C hC => ?_) (fun x => prime_Factor.hk x)
  exact by
    have e : loops prime_Factor.c prime_Factor.h = [(2, prime_Factor.c2)] := by kernel_rfl
    rw [e]
    exact LamOk.cons (prime_Factor.l2 hC) (LamOk.nil)
def prime_Squarefree.j5 (t5 : Int) (t6 : Int) (t11 : Int) (t27 : List (Int × Int × Unit)) (t28 : Int) (t29 : Int) (b10_0 : Int) (b10_1 : Int) : Option ((Int × Int × Int × (List (Int × Int × Unit)) × Int × Int × (Int × Int × Unit) × Unit) ⊕ ((Int × Int × (List (Int × Int × Unit)) × Int × Int × Unit))) :=
  (some (.inl (t5, (IntKind.wrap .i64 (t6 * b10_0)), (IntKind.wrap .i64 (t11 + (1 : Int))), t27, t28, t29, (b10_0, (b10_1, ())), ())))
def prime_Squarefree.s0 (t5 : Int) (t6 : Int) (t11 : Int) (t27 : List (Int × Int × Unit)) (t28 : Int) (t29 : Int) (b10 : Int × Int × Unit) : Option ((Int × Int × Int × (List (Int × Int × Unit)) × Int × Int × (Int × Int × Unit) × Unit) ⊕ ((Int × Int × (List (Int × Int × Unit)) × Int × Int × Unit))) :=
  (cond ((decide (t11 < (IntKind.wrap .i64 (Int.tdiv b10.2.1 (2 : Int))))))
  ((prime_Squarefree.j5 t5 t6 t11 t27 t28 t29 b10.1 b10.2.1))
  ((some (.inr (t5, t6, t27, t28, t29, ())))))
def prime_Squarefree.k0 (t5 : Int) (t6 : Int) (t27 : List (Int × Int × Unit)) (t28 : Int) (t29 : Int) : Option ((Int × Int × (List (Int × Int × Unit)) × Int × Int × Unit) ⊕ ((Int × Int × Unit))) :=
  (some (.inl (t5, t6, t27, t28, (IntKind.wrap .i64 (t29 + (1 : Int))), ())))
def prime_Squarefree.j4 (t5 : Int) (t6 : Int) (t27 : List (Int × Int × Unit)) (t28 : Int) (t29 : Int) (b10_0 : Int) (b10_1 : Int) : Option ((Int × Int × (List (Int × Int × Unit)) × Int × Int × Unit) ⊕ ((Int × Int × Unit))) :=
  ((iterL (fun x : Int × Int × Int × (List (Int × Int × Unit)) × Int × Int × (Int × Int × Unit) × Unit => prime_Squarefree.s0 x.1 x.2.1 x.2.2.1 x.2.2.2.1 x.2.2.2.2.1 x.2.2.2.2.2.1 x.2.2.2.2.2.2.1) (t5, t6, (0 : Int), t27, t28, t29, (b10_0, (b10_1, ())), ())).bind fun y => prime_Squarefree.k0 y.1 y.2.1 y.2.2.1 y.2.2.2.1 y.2.2.2.2.1)
def prime_Squarefree.j3 (t5 : Int) (t6 : Int) (t27 : List (Int × Int × Unit)) (t28 : Int) (t29 : Int) : Option ((Int × Int × (List (Int × Int × Unit)) × Int × Int × Unit) ⊕ ((Int × Int × Unit))) :=
  (cond (inB t29 (List.length t27))
  ((cond (((Int.tmod (List.getD t27 (t29.toNat) ((0 : Int), ((0 : Int), ()))).2.1 (2 : Int)) == (1 : Int)))
  ((prime_Squarefree.j4 (IntKind.wrap .i64 (t5 * (List.getD t27 (t29.toNat) ((0 : Int), ((0 : Int), ()))).1)) t6 t27 t28 t29 (List.getD t27 (t29.toNat) ((0 : Int), ((0 : Int), ()))).1 (List.getD t27 (t29.toNat) ((0 : Int), ((0 : Int), ()))).2.1))
  ((prime_Squarefree.j4 t5 t6 t27 t28 t29 (List.getD t27 (t29.toNat) ((0 : Int), ((0 : Int), ()))).1 (List.getD t27 (t29.toNat) ((0 : Int), ((0 : Int), ()))).2.1))))
  none)
def prime_Squarefree.s1 (t5 : Int) (t6 : Int) (t27 : List (Int × Int × Unit)) (t28 : Int) (t29 : Int) : Option ((Int × Int × (List (Int × Int × Unit)) × Int × Int × Unit) ⊕ ((Int × Int × Unit))) :=
  (cond ((decide (t29 < t28)))
  ((prime_Squarefree.j3 t5 t6 t27 t28 t29))
  ((some (.inr (t5, t6, ())))))
def prime_Squarefree.k1 (t5 : Int) (t6 : Int) : Option (Int × Int × Int × Unit) :=
  (some (t5, (t6, ((0 : Int), ()))))
def prime_Squarefree.j2 (t0 : Int) : Option (Int × Int × Int × Unit) :=
  ((prime_Factor t0).bind fun y2 =>
  ((iterL (fun x : Int × Int × (List (Int × Int × Unit)) × Int × Int × Unit => prime_Squarefree.s1 x.1 x.2.1 x.2.2.1 x.2.2.2.1 x.2.2.2.2.1) ((-1 : Int), (1 : Int), y2.1, ((List.length y2.1 : Nat) : Int), (0 : Int), ())).bind fun y => prime_Squarefree.k1 y.1 y.2.1))
def prime_Squarefree.j6 (t0 : Int) : Option (Int × Int × Int × Unit) :=
  ((prime_Factor t0).bind fun y6 =>
  ((iterL (fun x : Int × Int × (List (Int × Int × Unit)) × Int × Int × Unit => prime_Squarefree.s1 x.1 x.2.1 x.2.2.1 x.2.2.2.1 x.2.2.2.2.1) ((1 : Int), (1 : Int), y6.1, ((List.length y6.1 : Nat) : Int), (0 : Int), ())).bind fun y => prime_Squarefree.k1 y.1 y.2.1))
def prime_Squarefree.j1 (t0 : Int) : Option (Int × Int × Int × Unit) :=
  (cond ((decide (t0 < (0 : Int))))
  ((prime_Squarefree.j2 (IntKind.wrap .i64 (0 - t0))))
  ((prime_Squarefree.j6 t0)))
def prime_Squarefree (t0 : Int) : Option (Int × Int × Int × Unit) :=
  (cond ((t0 == (0 : Int)))
  ((some ((0 : Int), ((0 : Int), ((1 : Int), ())))))
  (((prime_beyond t0).bind fun y1 =>
  (cond (y1)
  ((some ((0 : Int), ((0 : Int), ((1 : Int), ())))))
  ((prime_Squarefree.j1 t0))))))
def prime_Squarefree.en : En := ⟨126, [.int .i64], .pair (.int .i64) (.pair (.int .i64) (.pair (.int .i64) (.unit))), true, fun x => prime_Squarefree x.1⟩
def prime_Squarefree.o : List En := [prime_beyond.en, prime_Factor.en]
def prime_Squarefree.oB : List EnB := []
def prime_Squarefree.h : HT := .two (.n) (.two (.n) (.two (.n) (.two (.n) (.two (.n) (.two (.two (.n) (.lp 1)) (.n))))))
def prime_Squarefree.c : Code := Tryz.f126.body.getD .skip
def prime_Squarefree.h1 : HT := .two (.n) (.two (.n) (.two (.two (.n) (.two (.n) (.two (.n) (.lp 0)))) (.n)))
def prime_Squarefree.c1 : Code := (find (loops prime_Squarefree.c prime_Squarefree.h) 1).getD .skip
def prime_Squarefree.d1 : Fm := [.v 5 (.int .i64), .v 6 (.int .i64), .v 27 (.sl (.pair (.int .i64) (.pair (.int .i64) (.unit)))), .v 28 (.int .i64), .v 29 (.int .i64)]
def prime_Squarefree.x1 : Xs := [(.exit 0, [.v 5 (.int .i64), .v 6 (.int .i64)])]
def prime_Squarefree.r1 (x : (Fm.ty prime_Squarefree.d1).den) : Option ((Fm.ty prime_Squarefree.d1).den ⊕ (Xs.T prime_Squarefree.x1)) := prime_Squarefree.s1 x.1 x.2.1 x.2.2.1 x.2.2.2.1 x.2.2.2.2.1
def prime_Squarefree.h0 : HT := .n
def prime_Squarefree.c0 : Code := (find (loops prime_Squarefree.c1 prime_Squarefree.h1) 0).getD .skip
def prime_Squarefree.d0 : Fm := [.v 5 (.int .i64), .v 6 (.int .i64), .v 11 (.int .i64), .v 27 (.sl (.pair (.int .i64) (.pair (.int .i64) (.unit)))), .v 28 (.int .i64), .v 29 (.int .i64), .box 10 (.pair (.int .i64) (.pair (.int .i64) (.unit))), .ptr 10 10]
def prime_Squarefree.x0 : Xs := [(.exit 2, [.v 5 (.int .i64), .v 6 (.int .i64), .v 27 (.sl (.pair (.int .i64) (.pair (.int .i64) (.unit)))), .v 28 (.int .i64), .v 29 (.int .i64)])]
def prime_Squarefree.r0 (x : (Fm.ty prime_Squarefree.d0).den) : Option ((Fm.ty prime_Squarefree.d0).den ⊕ (Xs.T prime_Squarefree.x0)) := prime_Squarefree.s0 x.1 x.2.1 x.2.2.1 x.2.2.2.1 x.2.2.2.2.1 x.2.2.2.2.2.1 x.2.2.2.2.2.2.1
def prime_Squarefree.L : Lam := fun _ i s K => cond (Nat.beq i 0) (lamK prime_Squarefree.d0 prime_Squarefree.x0 prime_Squarefree.r0 s K) (cond (Nat.beq i 1) (lamK prime_Squarefree.d1 prime_Squarefree.x1 prime_Squarefree.r1 s K) (none))
theorem prime_Squarefree.hf0 (x) : roundK env (orc prime_Squarefree.o) (orcB prime_Squarefree.oB) 55 prime_Squarefree.L prime_Squarefree.c0 prime_Squarefree.h0 prime_Squarefree.d0 prime_Squarefree.x0 x = prime_Squarefree.r0 x := by kernel_rfl
theorem prime_Squarefree.hf1 (x) : roundK env (orc prime_Squarefree.o) (orcB prime_Squarefree.oB) 55 prime_Squarefree.L prime_Squarefree.c1 prime_Squarefree.h1 prime_Squarefree.d1 prime_Squarefree.x1 x = prime_Squarefree.r1 x := by kernel_rfl
theorem prime_Squarefree.os : AllOk prog prime_Squarefree.o := ⟨prime_beyond.ok, prime_Factor.ok, trivial⟩
theorem prime_Squarefree.osB : AllBOk prog prime_Squarefree.oB := trivial
theorem prime_Squarefree.l0 {C : Ctx} (hC : C.n = 55) : LamAt prog C prime_Squarefree.L 0 prime_Squarefree.c0 := by
  intro R s K r hk
  refine loop_ok (D := prime_Squarefree.d0) (X := prime_Squarefree.x0) (h := prime_Squarefree.h0) (f := prime_Squarefree.r0) tabs (orc_ok _ prime_Squarefree.os) (orcB_ok _ prime_Squarefree.osB) (fun x => by rw [hC]; exact prime_Squarefree.hf0 x) (Λ := prime_Squarefree.L) ?_ (by kernel_rfl) (by kernel_rfl) (K := K) (s := s) (by exact hk)
  exact by
    have e : loops prime_Squarefree.c0 prime_Squarefree.h0 = [] := by kernel_rfl
    rw [e]
    exact LamOk.nil
theorem prime_Squarefree.l1 {C : Ctx} (hC : C.n = 55) : LamAt prog C prime_Squarefree.L 1 prime_Squarefree.c1 := by
  intro R s K r hk
  refine loop_ok (D := prime_Squarefree.d1) (X := prime_Squarefree.x1) (h := prime_Squarefree.h1) (f := prime_Squarefree.r1) tabs (orc_ok _ prime_Squarefree.os) (orcB_ok _ prime_Squarefree.osB) (fun x => by rw [hC]; exact prime_Squarefree.hf1 x) (Λ := prime_Squarefree.L) ?_ (by kernel_rfl) (by kernel_rfl) (K := K) (s := s) (by exact hk)
  exact by
    have e : loops prime_Squarefree.c1 prime_Squarefree.h1 = [(0, prime_Squarefree.c0)] := by kernel_rfl
    rw [e]
    exact LamOk.cons (prime_Squarefree.l0 hC) (LamOk.nil)
theorem prime_Squarefree.hk (x) : semK env (orc prime_Squarefree.o) (orcB prime_Squarefree.oB) 55 (prime_Squarefree.L _) prime_Squarefree.c prime_Squarefree.h (S.init (avs [.int .i64] x)) (fin env Tryz.f126 ⟨[.int .i64], .pair (.int .i64) (.pair (.int .i64) (.pair (.int .i64) (.unit))), true, false⟩) = prime_Squarefree.en.g x := by kernel_rfl
theorem prime_Squarefree.ok : EnOk prog prime_Squarefree.en := by
  refine fun_ok (g := ⟨[.int .i64], .pair (.int .i64) (.pair (.int .i64) (.pair (.int .i64) (.unit))), true, false⟩) (h := prime_Squarefree.h) (Λ := prime_Squarefree.L) tabs prime_Squarefree.os prime_Squarefree.osB Tryz.func126 (c := prime_Squarefree.c) (by kernel_rfl) (by decide +kernel) (by decide +kernel) (fun C hC => ?_) (fun x => prime_Squarefree.hk x)
  exact by
    have e : loops prime_Squarefree.c prime_Squarefree.h = [(1, prime_Squarefree.c1)] := by kernel_rfl
    rw [e]
    exact LamOk.cons (prime_Squarefree.l1 hC) (LamOk.nil)
def prime_residue.j1 (t5 : Int) : Option (Int) :=
  (some t5)
def prime_residue (t0 : Int) (t1 : Int) : Option (Int) :=
  (cond (decide (t1 = 0))
  none
  ((cond ((decide ((Int.tmod t0 t1) < (0 : Int))))
  ((prime_residue.j1 (IntKind.wrap .i64 ((Int.tmod t0 t1) + t1))))
  ((prime_residue.j1 (Int.tmod t0 t1))))))
def prime_residue.en : En := ⟨127, [.int .i64, .int .i64], .int .i64, false, fun x => prime_residue x.1 x.2.1⟩
def prime_residue.o : List En := []
def prime_residue.oB : List EnB := []
def prime_residue.h : HT := .n
def prime_residue.c : Code := Tryz.f127.body.getD .skip
def prime_residue.L : Lam := fun _ i s K => none
theorem prime_residue.os : AllOk prog prime_residue.o := trivial
theorem prime_residue.osB : AllBOk prog prime_residue.oB := trivial
theorem prime_residue.hk (x) : semK env (orc prime_residue.o) (orcB prime_residue.oB) 15 (prime_residue.L _) prime_residue.c prime_residue.h (S.init (avs [.int .i64, .int .i64] x)) (fin env Tryz.f127 ⟨[.int .i64, .int .i64], .int .i64, false, false⟩) = prime_residue.en.g x := by kernel_rfl
theorem prime_residue.ok : EnOk prog prime_residue.en := by
  refine fun_ok (g := ⟨[.int .i64, .int .i64], .int .i64, false, false⟩) (h := prime_residue.h) (Λ := prime_residue.L) tabs prime_residue.os prime_residue.osB Tryz.func127 (c := prime_residue.c) (by kernel_rfl) (by decide +kernel) (by decide +kernel) (fun C hC => ?_) (fun x => prime_residue.hk x)
  exact by
    have e : loops prime_residue.c prime_residue.h = [] := by kernel_rfl
    rw [e]
    exact LamOk.nil
def prime_Discriminant.j2 (t4 : Int) : Option (Int × Int × Unit) :=
  (some ((IntKind.wrap .i64 ((4 : Int) * t4)), ((0 : Int), ())))
def prime_Discriminant.j1 (t4 : Int) : Option (Int × Int × Unit) :=
  ((prime_residue t4 (4 : Int)).bind fun y2 =>
  (cond ((y2 == (1 : Int)))
  ((some (t4, ((0 : Int), ()))))
  ((prime_Discriminant.j2 t4))))
def prime_Discriminant (t0 : Int) : Option (Int × Int × Unit) :=
  ((prime_Squarefree t0).bind fun y1 =>
  (cond ((y1.2.2.1 != (0 : Int)))
  ((some ((0 : Int), (y1.2.2.1, ()))))
  ((prime_Discriminant.j1 y1.1))))
def prime_Discriminant.en : En := ⟨56, [.int .i64], .pair (.int .i64) (.pair (.int .i64) (.unit)), true, fun x => prime_Discriminant x.1⟩
def prime_Discriminant.o : List En := [prime_Squarefree.en, prime_residue.en]
def prime_Discriminant.oB : List EnB := []
def prime_Discriminant.h : HT := .n
def prime_Discriminant.c : Code := Tryz.f56.body.getD .skip
def prime_Discriminant.L : Lam := fun _ i s K => none
theorem prime_Discriminant.os : AllOk prog prime_Discriminant.o := ⟨prime_Squarefree.ok, prime_residue.ok, trivial⟩
theorem prime_Discriminant.osB : AllBOk prog prime_Discriminant.oB := trivial
theorem prime_Discriminant.hk (x) : semK env (orc prime_Discriminant.o) (orcB prime_Discriminant.oB) 22 (prime_Discriminant.L _) prime_Discriminant.c prime_Discriminant.h (S.init (avs [.int .i64] x)) (fin env Tryz.f56 ⟨[.int .i64], .pair (.int .i64) (.pair (.int .i64) (.unit)), true, false⟩) = prime_Discriminant.en.g x := by kernel_rfl
theorem prime_Discriminant.ok : EnOk prog prime_Discriminant.en := by
  refine fun_ok (g := ⟨[.int .i64], .pair (.int .i64) (.pair (.int .i64) (.unit)), true, false⟩) (h := prime_Discriminant.h) (Λ := prime_Discriminant.L) tabs prime_Discriminant.os prime_Discriminant.osB Tryz.func56 (c := prime_Discriminant.c) (by kernel_rfl) (by decide +kernel) (by decide +kernel) (fun C hC => ?_) (fun x => prime_Discriminant.hk x)
  exact by
    have e : loops prime_Discriminant.c prime_Discriminant.h = [] := by kernel_rfl
    rw [e]
    exact LamOk.nil
def prime_symbol.j4  : Option (Int) :=
  (some (0 : Int))
def prime_symbol.j3  : Option (Int) :=
  (prime_symbol.j4)
def prime_symbol.j2 (t14 : Bool) : Option (Int) :=
  (cond (t14)
  ((some (-1 : Int)))
  ((prime_symbol.j3)))
def prime_symbol.j1 (t10 : Int) (t11 : Bool) : Option (Int) :=
  (cond (t11)
  ((some (1 : Int)))
  ((cond ((t10 == (3 : Int)))
  ((prime_symbol.j2 (t10 == (3 : Int))))
  ((prime_symbol.j2 (t10 == (5 : Int)))))))
def prime_symbol.j8 (t0 : Int) (t1 : Int) (t5 : Int) (t6 : Int) : Option ((Int × Int × Int × Int × Unit) ⊕ ((Int × Unit))) :=
  (cond (decide (t1 = 0))
  none
  ((some (.inl ((Int.tmod (IntKind.wrap .i64 (t0 * t0)) t1), t1, t5, (IntKind.wrap .i64 (Int.tdiv t6 (2 : Int))), ())))))
def prime_symbol.j7 (t0 : Int) (t1 : Int) (t5 : Int) (t6 : Int) : Option ((Int × Int × Int × Int × Unit) ⊕ ((Int × Unit))) :=
  (cond (((Int.tmod t6 (2 : Int)) == (1 : Int)))
  ((cond (decide (t1 = 0))
  none
  ((prime_symbol.j8 t0 t1 (Int.tmod (IntKind.wrap .i64 (t5 * t0)) t1) t6))))
  ((prime_symbol.j8 t0 t1 t5 t6)))
def prime_symbol.s0 (t0 : Int) (t1 : Int) (t5 : Int) (t6 : Int) : Option ((Int × Int × Int × Int × Unit) ⊕ ((Int × Unit))) :=
  (cond ((decide (t6 > (0 : Int))))
  ((prime_symbol.j7 t0 t1 t5 t6))
  ((some (.inr (t5, ())))))
def prime_symbol.j9  : Option (Int) :=
  (some (-1 : Int))
def prime_symbol.k0 (t5 : Int) : Option (Int) :=
  (cond ((t5 == (1 : Int)))
  ((some (1 : Int)))
  ((prime_symbol.j9)))
def prime_symbol.j6 (t0 : Int) (t1 : Int) : Option (Int) :=
  ((iterL (fun x : Int × Int × Int × Int × Unit => prime_symbol.s0 x.1 x.2.1 x.2.2.1 x.2.2.2.1) (t0, t1, (1 : Int), (IntKind.wrap .i64 (Int.tdiv (IntKind.wrap .i64 (t1 - (1 : Int))) (2 : Int))), ())).bind fun y => prime_symbol.k0 y.1)
def prime_symbol.j5 (t0 : Int) (t1 : Int) : Option (Int) :=
  ((prime_residue t0 t1).bind fun y2 =>
  (cond ((y2 == (0 : Int)))
  ((some (0 : Int)))
  ((prime_symbol.j6 y2 t1))))
def prime_symbol (t0 : Int) (t1 : Int) : Option (Int) :=
  (cond ((t1 == (2 : Int)))
  (((prime_residue t0 (8 : Int)).bind fun y1 =>
  (cond ((y1 == (1 : Int)))
  ((prime_symbol.j1 y1 (y1 == (1 : Int))))
  ((prime_symbol.j1 y1 (y1 == (7 : Int)))))))
  ((prime_symbol.j5 t0 t1)))
def prime_symbol.en : En := ⟨130, [.int .i64, .int .i64], .int .i64, false, fun x => prime_symbol x.1 x.2.1⟩
def prime_symbol.o : List En := [prime_residue.en]
def prime_symbol.oB : List EnB := []
def prime_symbol.h : HT := .two (.n) (.two (.n) (.two (.n) (.two (.n) (.two (.n) (.two (.two (.n) (.lp 0)) (.n))))))
def prime_symbol.c : Code := Tryz.f130.body.getD .skip
def prime_symbol.h0 : HT := .n
def prime_symbol.c0 : Code := (find (loops prime_symbol.c prime_symbol.h) 0).getD .skip
def prime_symbol.d0 : Fm := [.v 0 (.int .i64), .v 1 (.int .i64), .v 5 (.int .i64), .v 6 (.int .i64)]
def prime_symbol.x0 : Xs := [(.exit 1, [.v 5 (.int .i64)])]
def prime_symbol.r0 (x : (Fm.ty prime_symbol.d0).den) : Option ((Fm.ty prime_symbol.d0).den ⊕ (Xs.T prime_symbol.x0)) := prime_symbol.s0 x.1 x.2.1 x.2.2.1 x.2.2.2.1
def prime_symbol.L : Lam := fun _ i s K => cond (Nat.beq i 0) (lamK prime_symbol.d0 prime_symbol.x0 prime_symbol.r0 s K) (none)
theorem prime_symbol.hf0 (x) : roundK env (orc prime_symbol.o) (orcB prime_symbol.oB) 44 prime_symbol.L prime_symbol.c0 prime_symbol.h0 prime_symbol.d0 prime_symbol.x0 x = prime_symbol.r0 x := by kernel_rfl
theorem prime_symbol.os : AllOk prog prime_symbol.o := ⟨prime_residue.ok, trivial⟩
theorem prime_symbol.osB : AllBOk prog prime_symbol.oB := trivial
theorem prime_symbol.l0 {C : Ctx} (hC : C.n = 44) : LamAt prog C prime_symbol.L 0 prime_symbol.c0 := by
  intro R s K r hk
  refine loop_ok (D := prime_symbol.d0) (X := prime_symbol.x0) (h := prime_symbol.h0) (f := prime_symbol.r0) tabs (orc_ok _ prime_symbol.os) (orcB_ok _ prime_symbol.osB) (fun x => by rw [hC]; exact prime_symbol.hf0 x) (Λ := prime_symbol.L) ?_ (by kernel_rfl) (by kernel_rfl) (K := K) (s := s) (by exact hk)
  exact by
    have e : loops prime_symbol.c0 prime_symbol.h0 = [] := by kernel_rfl
    rw [e]
    exact LamOk.nil
theorem prime_symbol.hk (x) : semK env (orc prime_symbol.o) (orcB prime_symbol.oB) 44 (prime_symbol.L _) prime_symbol.c prime_symbol.h (S.init (avs [.int .i64, .int .i64] x)) (fin env Tryz.f130 ⟨[.int .i64, .int .i64], .int .i64, false, false⟩) = prime_symbol.en.g x := by kernel_rfl
theorem prime_symbol.ok : EnOk prog prime_symbol.en := by
  refine fun_ok (g := ⟨[.int .i64, .int .i64], .int .i64, false, false⟩) (h := prime_symbol.h) (Λ := prime_symbol.L) tabs prime_symbol.os prime_symbol.osB Tryz.func130 (c := prime_symbol.c) (by kernel_rfl) (by decide +kernel) (by decide +kernel) (fun C hC => ?_) (fun x => prime_symbol.hk x)
  exact by
    have e : loops prime_symbol.c prime_symbol.h = [(0, prime_symbol.c0)] := by kernel_rfl
    rw [e]
    exact LamOk.cons (prime_symbol.l0 hC) (LamOk.nil)
end
end Go.Proofs.YtgbndganadelpaaGreatDoor.E
