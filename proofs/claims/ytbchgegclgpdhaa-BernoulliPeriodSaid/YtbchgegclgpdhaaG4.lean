/- Functions of the program as functions on values, without fuel, and that the evaluator computes them (printed by gen.py). -/
import Derived.Test.YtbchgegclgpdhaaG3
namespace Go.Proofs.Ytbchgegclgpdhaa.E
open Go
set_option linter.unusedVariables false
set_option maxRecDepth 100000
noncomputable def quadformlaw31_BernoulliSums.j1 (t1 : Int) (t5 : Int) (t7 : Int) (t9 : Int) (t11 : Int) (b6_0 : Bool) (b6_1 : List Int) (b6_2 : Bool) (b6_3 : List Int) (b8_0 : Bool) (b8_1 : List Int) (b8_2 : Bool) (b8_3 : List Int) (b10_0 : Bool) (b10_1 : List Int) (b10_2 : Bool) (b10_3 : List Int) : Option ((Int × Int × Int × Int × Int × ((Bool × List Int × Unit) × (Bool × List Int × Unit) × Unit) × ((Bool × List Int × Unit) × (Bool × List Int × Unit) × Unit) × ((Bool × List Int × Unit) × (Bool × List Int × Unit) × Unit) × Unit) ⊕ ((Int × Int × Int × ((Bool × List Int × Unit) × (Bool × List Int × Unit) × Unit) × ((Bool × List Int × Unit) × (Bool × List Int × Unit) × Unit) × ((Bool × List Int × Unit) × (Bool × List Int × Unit) × Unit) × Unit))) :=
  ((quadformref02_Small t11).bind fun y6 =>
  ((quadformref02_Pow y6 t5).bind fun y7 =>
  ((quadformref02_Add ((b10_0, (b10_1, ())), ((b10_2, (b10_3, ())), ())) ((y7.1.1.1, (y7.1.1.2.1, ())), ((y7.1.2.1.1, (y7.1.2.1.2.1, ())), ()))).bind fun y8 =>
  (some (.inl (t1, t5, t7, t9, (IntKind.wrap .i64 (t11 + (1 : Int))), ((b6_0, (b6_1, ())), ((b6_2, (b6_3, ())), ())), ((b8_0, (b8_1, ())), ((b8_2, (b8_3, ())), ())), ((y8.1.1, (y8.1.2.1, ())), ((y8.2.1.1, (y8.2.1.2.1, ())), ())), ()))))))
noncomputable def quadformlaw31_BernoulliSums.s0 (t1 : Int) (t5 : Int) (t7 : Int) (t9 : Int) (t11 : Int) (b6 : (Bool × List Int × Unit) × (Bool × List Int × Unit) × Unit) (b8 : (Bool × List Int × Unit) × (Bool × List Int × Unit) × Unit) (b10 : (Bool × List Int × Unit) × (Bool × List Int × Unit) × Unit) : Option ((Int × Int × Int × Int × Int × ((Bool × List Int × Unit) × (Bool × List Int × Unit) × Unit) × ((Bool × List Int × Unit) × (Bool × List Int × Unit) × Unit) × ((Bool × List Int × Unit) × (Bool × List Int × Unit) × Unit) × Unit) ⊕ ((Int × Int × Int × ((Bool × List Int × Unit) × (Bool × List Int × Unit) × Unit) × ((Bool × List Int × Unit) × (Bool × List Int × Unit) × Unit) × ((Bool × List Int × Unit) × (Bool × List Int × Unit) × Unit) × Unit))) :=
  (cond ((decide (t11 < (IntKind.wrap .i64 t1))))
  ((quadformlaw31_BernoulliSums.j1 t1 t5 t7 t9 t11 b6.1.1 b6.1.2.1 b6.2.1.1 b6.2.1.2.1 b8.1.1 b8.1.2.1 b8.2.1.1 b8.2.1.2.1 b10.1.1 b10.1.2.1 b10.2.1.1 b10.2.1.2.1))
  ((some (.inr (t5, t7, t9, ((b6.1.1, (b6.1.2.1, ())), ((b6.2.1.1, (b6.2.1.2.1, ())), ())), ((b8.1.1, (b8.1.2.1, ())), ((b8.2.1.1, (b8.2.1.2.1, ())), ())), ((b10.1.1, (b10.1.2.1, ())), ((b10.2.1.1, (b10.2.1.2.1, ())), ())), ())))))
noncomputable def quadformlaw31_BernoulliSums.k0 (t5 : Int) (t7 : Int) (t9 : Int) (b6 : (Bool × List Int × Unit) × (Bool × List Int × Unit) × Unit) (b8 : (Bool × List Int × Unit) × (Bool × List Int × Unit) × Unit) (b10 : (Bool × List Int × Unit) × (Bool × List Int × Unit) × Unit) : Option (Bool) :=
  (cond ((t7 == (0 : Int)))
  ((cond ((t9 == (0 : Int)))
  (((rational_Sub ((b6.1.1, (b6.1.2.1, ())), ((b6.2.1.1, (b6.2.1.2.1, ())), ())) ((b8.1.1, (b8.1.2.1, ())), ((b8.2.1.1, (b8.2.1.2.1, ())), ()))).bind fun y9 =>
  ((quadformref02_Small (IntKind.wrap .i64 (t5 + (1 : Int)))).bind fun y10 =>
  ((quadformref02_Mul ((b10.1.1, (b10.1.2.1, ())), ((b10.2.1.1, (b10.2.1.2.1, ())), ())) y10).bind fun y11 =>
  ((quadformref02_Cmp y9 y11).bind fun y12 =>
  (cond ((y12 == (0 : Int)))
  (((quadformlaw31_awake).bind fun y13 =>
  (some y13)))
  ((some false))))))))
  ((some false))))
  ((some false)))
noncomputable def quadformlaw31_BernoulliSums (t0 : Int) (t1 : Int) : Option (Bool) :=
  let x1 := (Int.tmod (IntKind.wrap .i64 t0) (12 : Int))
  ((quadformref02_Small (IntKind.wrap .i64 t1)).bind fun y2 =>
  ((bernoulli_Poly (IntKind.wrap .i64 (x1 + (1 : Int))) y2).bind fun y3 =>
  ((bernoulli_Number (IntKind.wrap .i64 (x1 + (1 : Int)))).bind fun y4 =>
  ((quadformref02_Small (0 : Int)).bind fun y5 =>
  ((iterL (fun x : Int × Int × Int × Int × Int × ((Bool × List Int × Unit) × (Bool × List Int × Unit) × Unit) × ((Bool × List Int × Unit) × (Bool × List Int × Unit) × Unit) × ((Bool × List Int × Unit) × (Bool × List Int × Unit) × Unit) × Unit => quadformlaw31_BernoulliSums.s0 x.1 x.2.1 x.2.2.1 x.2.2.2.1 x.2.2.2.2.1 x.2.2.2.2.2.1 x.2.2.2.2.2.2.1 x.2.2.2.2.2.2.2.1) (t1, x1, y3.2.1, y4.2.1, (0 : Int), ((y3.1.1.1, (y3.1.1.2.1, ())), ((y3.1.2.1.1, (y3.1.2.1.2.1, ())), ())), ((y4.1.1.1, (y4.1.1.2.1, ())), ((y4.1.2.1.1, (y4.1.2.1.2.1, ())), ())), ((y5.1.1, (y5.1.2.1, ())), ((y5.2.1.1, (y5.2.1.2.1, ())), ())), ())).bind fun y => quadformlaw31_BernoulliSums.k0 y.1 y.2.1 y.2.2.1 y.2.2.2.1 y.2.2.2.2.1 y.2.2.2.2.2.1)))))
noncomputable def quadformlaw31_BernoulliSums.en : En := ⟨11, [.int .u8, .int .u8], .bool, false, fun x => quadformlaw31_BernoulliSums x.1 x.2.1⟩
noncomputable def quadformlaw31_BernoulliSums.o : List En := [bernoulli_Number.en, quadformlaw31_awake.en, quadformref02_Cmp.en, quadformref02_Small.en, bernoulli_Poly.en, quadformref02_Add.en, quadformref02_Pow.en, rational_Sub.en, quadformref02_Mul.en]
noncomputable def quadformlaw31_BernoulliSums.oB : List EnB := []
def quadformlaw31_BernoulliSums.h : HT := .two (.n) (.two (.n) (.two (.n) (.two (.n) (.two (.n) (.two (.two (.n) (.lp 0)) (.n))))))
noncomputable def quadformlaw31_BernoulliSums.c : Code := Try.f11.body.getD .skip
def quadformlaw31_BernoulliSums.h0 : HT := .n
noncomputable def quadformlaw31_BernoulliSums.c0 : Code := (find (loops quadformlaw31_BernoulliSums.c quadformlaw31_BernoulliSums.h) 0).getD .skip
def quadformlaw31_BernoulliSums.d0 : Fm := [.v 1 (.int .u8), .v 5 (.int .i64), .v 7 (.int .i64), .v 9 (.int .i64), .v 11 (.int .i64), .box 6 (.pair (.pair (.bool) (.pair (.sl (.int .u32)) (.unit))) (.pair (.pair (.bool) (.pair (.sl (.int .u32)) (.unit))) (.unit))), .box 8 (.pair (.pair (.bool) (.pair (.sl (.int .u32)) (.unit))) (.pair (.pair (.bool) (.pair (.sl (.int .u32)) (.unit))) (.unit))), .box 10 (.pair (.pair (.bool) (.pair (.sl (.int .u32)) (.unit))) (.pair (.pair (.bool) (.pair (.sl (.int .u32)) (.unit))) (.unit))), .ptr 6 6, .ptr 8 8, .ptr 10 10]
def quadformlaw31_BernoulliSums.x0 : Xs := [(.exit 0, [.v 5 (.int .i64), .v 7 (.int .i64), .v 9 (.int .i64), .box 6 (.pair (.pair (.bool) (.pair (.sl (.int .u32)) (.unit))) (.pair (.pair (.bool) (.pair (.sl (.int .u32)) (.unit))) (.unit))), .box 8 (.pair (.pair (.bool) (.pair (.sl (.int .u32)) (.unit))) (.pair (.pair (.bool) (.pair (.sl (.int .u32)) (.unit))) (.unit))), .box 10 (.pair (.pair (.bool) (.pair (.sl (.int .u32)) (.unit))) (.pair (.pair (.bool) (.pair (.sl (.int .u32)) (.unit))) (.unit))), .ptr 6 6, .ptr 8 8, .ptr 10 10])]
noncomputable def quadformlaw31_BernoulliSums.r0 (x : (Fm.ty quadformlaw31_BernoulliSums.d0).den) : Option ((Fm.ty quadformlaw31_BernoulliSums.d0).den ⊕ (Xs.T quadformlaw31_BernoulliSums.x0)) := quadformlaw31_BernoulliSums.s0 x.1 x.2.1 x.2.2.1 x.2.2.2.1 x.2.2.2.2.1 x.2.2.2.2.2.1 x.2.2.2.2.2.2.1 x.2.2.2.2.2.2.2.1
noncomputable def quadformlaw31_BernoulliSums.L : Lam := fun _ i s K => cond (Nat.beq i 0) (lamK quadformlaw31_BernoulliSums.d0 quadformlaw31_BernoulliSums.x0 quadformlaw31_BernoulliSums.r0 s K) (none)
theorem quadformlaw31_BernoulliSums.hf0 (x) : roundK env (orc quadformlaw31_BernoulliSums.o) (orcB quadformlaw31_BernoulliSums.oB) 70 quadformlaw31_BernoulliSums.L quadformlaw31_BernoulliSums.c0 quadformlaw31_BernoulliSums.h0 quadformlaw31_BernoulliSums.d0 quadformlaw31_BernoulliSums.x0 x = quadformlaw31_BernoulliSums.r0 x := by kernel_rfl
theorem quadformlaw31_BernoulliSums.os : AllOk prog quadformlaw31_BernoulliSums.o := ⟨bernoulli_Number.ok, quadformlaw31_awake.ok, quadformref02_Cmp.ok, quadformref02_Small.ok, bernoulli_Poly.ok, quadformref02_Add.ok, quadformref02_Pow.ok, rational_Sub.ok, quadformref02_Mul.ok, trivial⟩
theorem quadformlaw31_BernoulliSums.osB : AllBOk prog quadformlaw31_BernoulliSums.oB := trivial
theorem quadformlaw31_BernoulliSums.l0 {C : Ctx} (hC : C.n = 70) : LamAt prog C quadformlaw31_BernoulliSums.L 0 quadformlaw31_BernoulliSums.c0 := by
  intro R s K r hk
  refine loop_ok (D := quadformlaw31_BernoulliSums.d0) (X := quadformlaw31_BernoulliSums.x0) (h := quadformlaw31_BernoulliSums.h0) (f := quadformlaw31_BernoulliSums.r0) tabs (orc_ok _ quadformlaw31_BernoulliSums.os) (orcB_ok _ quadformlaw31_BernoulliSums.osB) (fun x => by rw [hC]; exact quadformlaw31_BernoulliSums.hf0 x) (Λ := quadformlaw31_BernoulliSums.L) ?_ (by kernel_rfl) (by kernel_rfl) (K := K) (s := s) (by exact hk)
  exact by
    have e : loops quadformlaw31_BernoulliSums.c0 quadformlaw31_BernoulliSums.h0 = [] := by kernel_rfl
    rw [e]
    exact LamOk.nil
theorem quadformlaw31_BernoulliSums.hk (x) : semK env (orc quadformlaw31_BernoulliSums.o) (orcB quadformlaw31_BernoulliSums.oB) 70 (quadformlaw31_BernoulliSums.L _) quadformlaw31_BernoulliSums.c quadformlaw31_BernoulliSums.h (S.init (avs [.int .u8, .int .u8] x)) (fin env Try.f11 ⟨[.int .u8, .int .u8], .bool, false, false⟩) = quadformlaw31_BernoulliSums.en.g x := by kernel_rfl
theorem quadformlaw31_BernoulliSums.ok : EnOk prog quadformlaw31_BernoulliSums.en := by
  refine fun_ok (g := ⟨[.int .u8, .int .u8], .bool, false, false⟩) (h := quadformlaw31_BernoulliSums.h) (Λ := quadformlaw31_BernoulliSums.L) tabs quadformlaw31_BernoulliSums.os quadformlaw31_BernoulliSums.osB Try.func11 (c := quadformlaw31_BernoulliSums.c) (by kernel_rfl) (by decide +kernel) (by decide +kernel) (fun C hC => ?_) (fun x => quadformlaw31_BernoulliSums.hk x)
  exact by
    have e : loops quadformlaw31_BernoulliSums.c quadformlaw31_BernoulliSums.h = [(0, quadformlaw31_BernoulliSums.c0)] := by kernel_rfl
    rw [e]
    exact LamOk.cons (quadformlaw31_BernoulliSums.l0 hC) (LamOk.nil)
noncomputable def integer_Cmp.j1  : Option (Int) :=
  (some (1 : Int))
noncomputable def integer_Cmp.j2 (t5 : Int) (b2_0 : Bool) (b2_1 : List Int) (b3_0 : Bool) (b3_1 : List Int) : Option (Int) :=
  ((integer_magnitude (b2_0, (b2_1, ()))).bind fun y3 =>
  ((integer_magnitude (b3_0, (b3_1, ()))).bind fun y4 =>
  ((integer_compare y3 y4).bind fun y5 =>
  (some (IntKind.wrap .i64 (t5 * y5))))))
noncomputable def integer_Cmp (t0 : Bool × List Int × Unit) (t1 : Bool × List Int × Unit) : Option (Int) :=
  ((integer_Sign (t0.1, (t0.2.1, ()))).bind fun y1 =>
  ((integer_Sign (t1.1, (t1.2.1, ()))).bind fun y2 =>
  (cond ((y1 != y2))
  ((cond ((decide (y1 < y2)))
  ((some (-1 : Int)))
  ((integer_Cmp.j1))))
  ((integer_Cmp.j2 y1 t0.1 t0.2.1 t1.1 t1.2.1)))))
noncomputable def integer_Cmp.en : En := ⟨107, [.pair (.bool) (.pair (.sl (.int .u32)) (.unit)), .pair (.bool) (.pair (.sl (.int .u32)) (.unit))], .int .i64, false, fun x => integer_Cmp x.1 x.2.1⟩
noncomputable def integer_Cmp.o : List En := [integer_Sign.en, integer_magnitude.en, integer_compare.en]
noncomputable def integer_Cmp.oB : List EnB := []
def integer_Cmp.h : HT := .n
noncomputable def integer_Cmp.c : Code := Try.f107.body.getD .skip
noncomputable def integer_Cmp.L : Lam := fun _ i s K => none
theorem integer_Cmp.os : AllOk prog integer_Cmp.o := ⟨integer_Sign.ok, integer_magnitude.ok, integer_compare.ok, trivial⟩
theorem integer_Cmp.osB : AllBOk prog integer_Cmp.oB := trivial
theorem integer_Cmp.hk (x) : semK env (orc integer_Cmp.o) (orcB integer_Cmp.oB) 24 (integer_Cmp.L _) integer_Cmp.c integer_Cmp.h (S.init (avs [.pair (.bool) (.pair (.sl (.int .u32)) (.unit)), .pair (.bool) (.pair (.sl (.int .u32)) (.unit))] x)) (fin env Try.f107 ⟨[.pair (.bool) (.pair (.sl (.int .u32)) (.unit)), .pair (.bool) (.pair (.sl (.int .u32)) (.unit))], .int .i64, false, false⟩) = integer_Cmp.en.g x := by kernel_rfl
theorem integer_Cmp.ok : EnOk prog integer_Cmp.en := by
  refine fun_ok (g := ⟨[.pair (.bool) (.pair (.sl (.int .u32)) (.unit)), .pair (.bool) (.pair (.sl (.int .u32)) (.unit))], .int .i64, false, false⟩) (h := integer_Cmp.h) (Λ := integer_Cmp.L) tabs integer_Cmp.os integer_Cmp.osB Try.func107 (c := integer_Cmp.c) (by kernel_rfl) (by decide +kernel) (by decide +kernel) (fun C hC => ?_) (fun x => integer_Cmp.hk x)
  exact by
    have e : loops integer_Cmp.c integer_Cmp.h = [] := by kernel_rfl
    rw [e]
    exact LamOk.nil
noncomputable def rational_fraction__compare (t0 : (Bool × List Int × Unit) × (Bool × List Int × Unit) × Unit) (t1 : (Bool × List Int × Unit) × (Bool × List Int × Unit) × Unit) : Option (Int) :=
  ((rational_product ([(t0.1.1, (t0.1.2.1, ())), (t1.2.1.1, (t1.2.1.2.1, ()))] : List (Bool × List Int × Unit))).bind fun y1 =>
  ((rational_product ([(t1.1.1, (t1.1.2.1, ())), (t0.2.1.1, (t0.2.1.2.1, ()))] : List (Bool × List Int × Unit))).bind fun y2 =>
  ((integer_Cmp y1 y2).bind fun y3 =>
  (some y3))))
noncomputable def rational_fraction__compare.en : En := ⟨72, [.pair (.pair (.bool) (.pair (.sl (.int .u32)) (.unit))) (.pair (.pair (.bool) (.pair (.sl (.int .u32)) (.unit))) (.unit)), .pair (.pair (.bool) (.pair (.sl (.int .u32)) (.unit))) (.pair (.pair (.bool) (.pair (.sl (.int .u32)) (.unit))) (.unit))], .int .i64, false, fun x => rational_fraction__compare x.1 x.2.1⟩
noncomputable def rational_fraction__compare.o : List En := [rational_product.en, integer_Cmp.en]
noncomputable def rational_fraction__compare.oB : List EnB := []
def rational_fraction__compare.h : HT := .n
noncomputable def rational_fraction__compare.c : Code := Try.f72.body.getD .skip
noncomputable def rational_fraction__compare.L : Lam := fun _ i s K => none
theorem rational_fraction__compare.os : AllOk prog rational_fraction__compare.o := ⟨rational_product.ok, integer_Cmp.ok, trivial⟩
theorem rational_fraction__compare.osB : AllBOk prog rational_fraction__compare.oB := trivial
theorem rational_fraction__compare.hk (x) : semK env (orc rational_fraction__compare.o) (orcB rational_fraction__compare.oB) 18 (rational_fraction__compare.L _) rational_fraction__compare.c rational_fraction__compare.h (S.init (avs [.pair (.pair (.bool) (.pair (.sl (.int .u32)) (.unit))) (.pair (.pair (.bool) (.pair (.sl (.int .u32)) (.unit))) (.unit)), .pair (.pair (.bool) (.pair (.sl (.int .u32)) (.unit))) (.pair (.pair (.bool) (.pair (.sl (.int .u32)) (.unit))) (.unit))] x)) (fin env Try.f72 ⟨[.pair (.pair (.bool) (.pair (.sl (.int .u32)) (.unit))) (.pair (.pair (.bool) (.pair (.sl (.int .u32)) (.unit))) (.unit)), .pair (.pair (.bool) (.pair (.sl (.int .u32)) (.unit))) (.pair (.pair (.bool) (.pair (.sl (.int .u32)) (.unit))) (.unit))], .int .i64, false, false⟩) = rational_fraction__compare.en.g x := by kernel_rfl
theorem rational_fraction__compare.ok : EnOk prog rational_fraction__compare.en := by
  refine fun_ok (g := ⟨[.pair (.pair (.bool) (.pair (.sl (.int .u32)) (.unit))) (.pair (.pair (.bool) (.pair (.sl (.int .u32)) (.unit))) (.unit)), .pair (.pair (.bool) (.pair (.sl (.int .u32)) (.unit))) (.pair (.pair (.bool) (.pair (.sl (.int .u32)) (.unit))) (.unit))], .int .i64, false, false⟩) (h := rational_fraction__compare.h) (Λ := rational_fraction__compare.L) tabs rational_fraction__compare.os rational_fraction__compare.osB Try.func72 (c := rational_fraction__compare.c) (by kernel_rfl) (by decide +kernel) (by decide +kernel) (fun C hC => ?_) (fun x => rational_fraction__compare.hk x)
  exact by
    have e : loops rational_fraction__compare.c rational_fraction__compare.h = [] := by kernel_rfl
    rw [e]
    exact LamOk.nil
noncomputable def rational_Cmp (t0 : (Bool × List Int × Unit) × (Bool × List Int × Unit) × Unit) (t1 : (Bool × List Int × Unit) × (Bool × List Int × Unit) × Unit) : Option (Int) :=
  ((rational_of ((t0.1.1, (t0.1.2.1, ())), ((t0.2.1.1, (t0.2.1.2.1, ())), ()))).bind fun y1 =>
  ((rational_of ((t1.1.1, (t1.1.2.1, ())), ((t1.2.1.1, (t1.2.1.2.1, ())), ()))).bind fun y2 =>
  ((rational_fraction__compare y1 y2).bind fun y3 =>
  (some y3))))
noncomputable def rational_Cmp.en : En := ⟨37, [.pair (.pair (.bool) (.pair (.sl (.int .u32)) (.unit))) (.pair (.pair (.bool) (.pair (.sl (.int .u32)) (.unit))) (.unit)), .pair (.pair (.bool) (.pair (.sl (.int .u32)) (.unit))) (.pair (.pair (.bool) (.pair (.sl (.int .u32)) (.unit))) (.unit))], .int .i64, false, fun x => rational_Cmp x.1 x.2.1⟩
noncomputable def rational_Cmp.o : List En := [rational_of.en, rational_fraction__compare.en]
noncomputable def rational_Cmp.oB : List EnB := []
def rational_Cmp.h : HT := .n
noncomputable def rational_Cmp.c : Code := Try.f37.body.getD .skip
noncomputable def rational_Cmp.L : Lam := fun _ i s K => none
theorem rational_Cmp.os : AllOk prog rational_Cmp.o := ⟨rational_of.ok, rational_fraction__compare.ok, trivial⟩
theorem rational_Cmp.osB : AllBOk prog rational_Cmp.oB := trivial
theorem rational_Cmp.hk (x) : semK env (orc rational_Cmp.o) (orcB rational_Cmp.oB) 12 (rational_Cmp.L _) rational_Cmp.c rational_Cmp.h (S.init (avs [.pair (.pair (.bool) (.pair (.sl (.int .u32)) (.unit))) (.pair (.pair (.bool) (.pair (.sl (.int .u32)) (.unit))) (.unit)), .pair (.pair (.bool) (.pair (.sl (.int .u32)) (.unit))) (.pair (.pair (.bool) (.pair (.sl (.int .u32)) (.unit))) (.unit))] x)) (fin env Try.f37 ⟨[.pair (.pair (.bool) (.pair (.sl (.int .u32)) (.unit))) (.pair (.pair (.bool) (.pair (.sl (.int .u32)) (.unit))) (.unit)), .pair (.pair (.bool) (.pair (.sl (.int .u32)) (.unit))) (.pair (.pair (.bool) (.pair (.sl (.int .u32)) (.unit))) (.unit))], .int .i64, false, false⟩) = rational_Cmp.en.g x := by kernel_rfl
theorem rational_Cmp.ok : EnOk prog rational_Cmp.en := by
  refine fun_ok (g := ⟨[.pair (.pair (.bool) (.pair (.sl (.int .u32)) (.unit))) (.pair (.pair (.bool) (.pair (.sl (.int .u32)) (.unit))) (.unit)), .pair (.pair (.bool) (.pair (.sl (.int .u32)) (.unit))) (.pair (.pair (.bool) (.pair (.sl (.int .u32)) (.unit))) (.unit))], .int .i64, false, false⟩) (h := rational_Cmp.h) (Λ := rational_Cmp.L) tabs rational_Cmp.os rational_Cmp.osB Try.func37 (c := rational_Cmp.c) (by kernel_rfl) (by decide +kernel) (by decide +kernel) (fun C hC => ?_) (fun x => rational_Cmp.hk x)
  exact by
    have e : loops rational_Cmp.c rational_Cmp.h = [] := by kernel_rfl
    rw [e]
    exact LamOk.nil
noncomputable def quadformlaw31_BernoulliSymmetry.j1 (t10 : Int) (t12 : Int) (b9_0 : Bool) (b9_1 : List Int) (b9_2 : Bool) (b9_3 : List Int) (b11_0 : Bool) (b11_1 : List Int) (b11_2 : Bool) (b11_3 : List Int) : Option (Bool) :=
  (cond ((t10 == (0 : Int)))
  ((cond ((t12 == (0 : Int)))
  (((rational_Cmp ((b9_0, (b9_1, ())), ((b9_2, (b9_3, ())), ())) ((b11_0, (b11_1, ())), ((b11_2, (b11_3, ())), ()))).bind fun y9 =>
  (cond ((y9 == (0 : Int)))
  (((quadformlaw31_awake).bind fun y10 =>
  (some y10)))
  ((some false)))))
  ((some false))))
  ((some false)))
noncomputable def quadformlaw31_BernoulliSymmetry (t0 : Int) (t1 : Int) (t2 : Int) : Option (Bool) :=
  let x1 := (Int.tmod (IntKind.wrap .i64 t0) (21 : Int))
  ((quadformref31_Ratio (IntKind.wrap .i64 t1) (IntKind.wrap .i64 ((1 : Int) + (IntKind.wrap .i64 t2)))).bind fun y3 =>
  ((quadformref02_Small (1 : Int)).bind fun y4 =>
  ((quadformref02_Sub y4 ((y3.1.1, (y3.1.2.1, ())), ((y3.2.1.1, (y3.2.1.2.1, ())), ()))).bind fun y5 =>
  ((bernoulli_Poly x1 y5).bind fun y6 =>
  ((bernoulli_Poly x1 ((y3.1.1, (y3.1.2.1, ())), ((y3.2.1.1, (y3.2.1.2.1, ())), ()))).bind fun y7 =>
  (cond (((Int.tmod x1 (2 : Int)) == (1 : Int)))
  (((rational_Neg ((y7.1.1.1, (y7.1.1.2.1, ())), ((y7.1.2.1.1, (y7.1.2.1.2.1, ())), ()))).bind fun y8 =>
  (quadformlaw31_BernoulliSymmetry.j1 y6.2.1 y7.2.1 y6.1.1.1 y6.1.1.2.1 y6.1.2.1.1 y6.1.2.1.2.1 y8.1.1 y8.1.2.1 y8.2.1.1 y8.2.1.2.1)))
  ((quadformlaw31_BernoulliSymmetry.j1 y6.2.1 y7.2.1 y6.1.1.1 y6.1.1.2.1 y6.1.2.1.1 y6.1.2.1.2.1 y7.1.1.1 y7.1.1.2.1 y7.1.2.1.1 y7.1.2.1.2.1))))))))
noncomputable def quadformlaw31_BernoulliSymmetry.en : En := ⟨12, [.int .u8, .int .i16, .int .u8], .bool, false, fun x => quadformlaw31_BernoulliSymmetry x.1 x.2.1 x.2.2.1⟩
noncomputable def quadformlaw31_BernoulliSymmetry.o : List En := [quadformlaw31_awake.en, quadformref02_Small.en, quadformref31_Ratio.en, bernoulli_Poly.en, quadformref02_Sub.en, rational_Neg.en, rational_Cmp.en]
noncomputable def quadformlaw31_BernoulliSymmetry.oB : List EnB := []
def quadformlaw31_BernoulliSymmetry.h : HT := .n
noncomputable def quadformlaw31_BernoulliSymmetry.c : Code := Try.f12.body.getD .skip
noncomputable def quadformlaw31_BernoulliSymmetry.L : Lam := fun _ i s K => none
theorem quadformlaw31_BernoulliSymmetry.os : AllOk prog quadformlaw31_BernoulliSymmetry.o := ⟨quadformlaw31_awake.ok, quadformref02_Small.ok, quadformref31_Ratio.ok, bernoulli_Poly.ok, quadformref02_Sub.ok, rational_Neg.ok, rational_Cmp.ok, trivial⟩
theorem quadformlaw31_BernoulliSymmetry.osB : AllBOk prog quadformlaw31_BernoulliSymmetry.oB := trivial
theorem quadformlaw31_BernoulliSymmetry.hk (x) : semK env (orc quadformlaw31_BernoulliSymmetry.o) (orcB quadformlaw31_BernoulliSymmetry.oB) 56 (quadformlaw31_BernoulliSymmetry.L _) quadformlaw31_BernoulliSymmetry.c quadformlaw31_BernoulliSymmetry.h (S.init (avs [.int .u8, .int .i16, .int .u8] x)) (fin env Try.f12 ⟨[.int .u8, .int .i16, .int .u8], .bool, false, false⟩) = quadformlaw31_BernoulliSymmetry.en.g x := by kernel_rfl
theorem quadformlaw31_BernoulliSymmetry.ok : EnOk prog quadformlaw31_BernoulliSymmetry.en := by
  refine fun_ok (g := ⟨[.int .u8, .int .i16, .int .u8], .bool, false, false⟩) (h := quadformlaw31_BernoulliSymmetry.h) (Λ := quadformlaw31_BernoulliSymmetry.L) tabs quadformlaw31_BernoulliSymmetry.os quadformlaw31_BernoulliSymmetry.osB Try.func12 (c := quadformlaw31_BernoulliSymmetry.c) (by kernel_rfl) (by decide +kernel) (by decide +kernel) (fun C hC => ?_) (fun x => quadformlaw31_BernoulliSymmetry.hk x)
  exact by
    have e : loops quadformlaw31_BernoulliSymmetry.c quadformlaw31_BernoulliSymmetry.h = [] := by kernel_rfl
    rw [e]
    exact LamOk.nil
end Go.Proofs.Ytbchgegclgpdhaa.E
