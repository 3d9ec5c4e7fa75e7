/- Functions of the program as_ functions on values, without fuel, and that the evaluator computes them (printed by gen.py). -/
import Derived.Test.YtbchgegclgpdhaaYBernoulliClasses8
namespace Go.Proofs.Ytbchgegclgpdhaa.E
open Go
set_option linter.unusedVariables false
set_option maxRecDepth 100000
noncomputable def integer_Add.j2 (t5 : List Int) (t6 : List Int) (b3_0 : Bool) (b3_1 : List Int) (b4_1 : List Int) : Option (Bool × List Int × Unit) :=
  ((integer_minus t6 t5).bind fun y8 =>
  ((integer_signed b3_0 y8).bind fun y9 =>
  (some (y9.1, (y9.2.1, ())))))
noncomputable def integer_Add.j1 (t5 : List Int) (t6 : List Int) (b2_0 : Bool) (b2_1 : List Int) (b3_0 : Bool) (b3_1 : List Int) (b4_1 : List Int) : Option (Bool × List Int × Unit) :=
  ((integer_compare t5 t6).bind fun y5 =>
  (cond ((decide (y5 ≥ (0 : Int))))
  (((integer_minus t5 t6).bind fun y6 =>
  ((integer_signed b2_0 y6).bind fun y7 =>
  (some (y7.1, (y7.2.1, ()))))))
  ((integer_Add.j2 t5 t6 b3_0 b3_1 b4_1))))
noncomputable def integer_Add (t0 : Bool × List Int × Unit) (t1 : Bool × List Int × Unit) : Option (Bool × List Int × Unit) :=
  ((integer_magnitude (t0.1, (t0.2.1, ()))).bind fun y1 =>
  ((integer_magnitude (t1.1, (t1.2.1, ()))).bind fun y2 =>
  (cond ((t0.1 == t1.1))
  (((integer_plus y1 y2).bind fun y3 =>
  ((integer_signed t0.1 y3).bind fun y4 =>
  (some (y4.1, (y4.2.1, ()))))))
  ((integer_Add.j1 y1 y2 t0.1 t0.2.1 t1.1 t1.2.1 ([] : List Int))))))
noncomputable def integer_Add.en : En := ⟨50, [.pair (.bool) (.pair (.sl (.int .u32)) (.unit)), .pair (.bool) (.pair (.sl (.int .u32)) (.unit))], .pair (.bool) (.pair (.sl (.int .u32)) (.unit)), false, fun x => integer_Add x.1 x.2.1⟩
noncomputable def integer_Add.o : List En := [integer_signed.en, integer_magnitude.en, integer_plus.en, integer_compare.en, integer_minus.en]
noncomputable def integer_Add.oB : List EnB := []
def integer_Add.h : HT := .n
noncomputable def integer_Add.c : Code := Try.f50.body.getD .skip
noncomputable def integer_Add.L : Lam := fun _ i s K => none
theorem integer_Add.os : AllOk prog integer_Add.o := ⟨integer_signed.ok, integer_magnitude.ok, integer_plus.ok, integer_compare.ok, integer_minus.ok, trivial⟩
theorem integer_Add.osB : AllBOk prog integer_Add.oB := trivial
theorem integer_Add.hk (x) : semK env (orc integer_Add.o) (orcB integer_Add.oB) 38 (integer_Add.L _) integer_Add.c integer_Add.h (S.init (avs [.pair (.bool) (.pair (.sl (.int .u32)) (.unit)), .pair (.bool) (.pair (.sl (.int .u32)) (.unit))] x)) (fin env Try.f50 ⟨[.pair (.bool) (.pair (.sl (.int .u32)) (.unit)), .pair (.bool) (.pair (.sl (.int .u32)) (.unit))], .pair (.bool) (.pair (.sl (.int .u32)) (.unit)), false, false⟩) = integer_Add.en.g x := by kernel_rfl
theorem integer_Add.ok : EnOk prog integer_Add.en := by
  refine fun_ok (g := ⟨[.pair (.bool) (.pair (.sl (.int .u32)) (.unit)), .pair (.bool) (.pair (.sl (.int .u32)) (.unit))], .pair (.bool) (.pair (.sl (.int .u32)) (.unit)), false, false⟩) (h := integer_Add.h) (Λ := integer_Add.L) tabs integer_Add.os integer_Add.osB Try.func50 (c := integer_Add.c) (by kernel_rfl) (by decide +kernel) (by decide +kernel) (fun C hC => ?_) (fun x => integer_Add.hk x)
  exact by
    have e : loops integer_Add.c integer_Add.h = [] := by kernel_rfl
    rw [e]
    exact LamOk.nil
noncomputable def rational_sum.j1 (t6 : List (Bool × List Int × Unit)) (t7 : Int) (t8 : Int) (b2_0 : Bool) (b2_1 : List Int) (b3_0 : Bool) (b3_1 : List Int) : Option (((List (Bool × List Int × Unit)) × Int × Int × (Bool × List Int × Unit) × (Bool × List Int × Unit) × Unit) ⊕ (((Bool × List Int × Unit) × (Bool × List Int × Unit) × Unit))) :=
  (cond (inB t8 (List.length t6))
  (((integer_Add (b3_0, (b3_1, ())) ((List.getD t6 (t8.toNat) (false, (([] : List Int), ()))).1, ((List.getD t6 (t8.toNat) (false, (([] : List Int), ()))).2.1, ()))).bind fun y1 =>
  (some (.inl (t6, t7, (IntKind.wrap .i64 (t8 + (1 : Int))), (b2_0, (b2_1, ())), (y1.1, (y1.2.1, ())), ())))))
  none)
noncomputable def rational_sum.s0 (t6 : List (Bool × List Int × Unit)) (t7 : Int) (t8 : Int) (b2 : Bool × List Int × Unit) (b3 : Bool × List Int × Unit) : Option (((List (Bool × List Int × Unit)) × Int × Int × (Bool × List Int × Unit) × (Bool × List Int × Unit) × Unit) ⊕ (((Bool × List Int × Unit) × (Bool × List Int × Unit) × Unit))) :=
  (cond ((decide (t8 < t7)))
  ((rational_sum.j1 t6 t7 t8 b2.1 b2.2.1 b3.1 b3.2.1))
  ((some (.inr ((b2.1, (b2.2.1, ())), (b3.1, (b3.2.1, ())), ())))))
noncomputable def rational_sum.k0 (b2 : Bool × List Int × Unit) (b3 : Bool × List Int × Unit) : Option (Bool × List Int × Unit) :=
  (some (b3.1, (b3.2.1, ())))
noncomputable def rational_sum (t0 : List (Bool × List Int × Unit)) : Option (Bool × List Int × Unit) :=
  ((iterL (fun x : (List (Bool × List Int × Unit)) × Int × Int × (Bool × List Int × Unit) × (Bool × List Int × Unit) × Unit => rational_sum.s0 x.1 x.2.1 x.2.2.1 x.2.2.2.1 x.2.2.2.2.1) (t0, ((List.length t0 : Nat) : Int), (0 : Int), (false, (([] : List Int), ())), (false, (([] : List Int), ())), ())).bind fun y => rational_sum.k0 y.1 y.2.1)
noncomputable def rational_sum.en : En := ⟨95, [.sl (.pair (.bool) (.pair (.sl (.int .u32)) (.unit)))], .pair (.bool) (.pair (.sl (.int .u32)) (.unit)), false, fun x => rational_sum x.1⟩
noncomputable def rational_sum.o : List En := [integer_Add.en]
noncomputable def rational_sum.oB : List EnB := []
def rational_sum.h : HT := .two (.n) (.two (.n) (.two (.two (.n) (.lp 0)) (.n)))
noncomputable def rational_sum.c : Code := Try.f95.body.getD .skip
def rational_sum.h0 : HT := .n
noncomputable def rational_sum.c0 : Code := (find (loops rational_sum.c rational_sum.h) 0).getD .skip
def rational_sum.d0 : Fm := [.v 6 (.sl (.pair (.bool) (.pair (.sl (.int .u32)) (.unit)))), .v 7 (.int .i64), .v 8 (.int .i64), .box 2 (.pair (.bool) (.pair (.sl (.int .u32)) (.unit))), .box 3 (.pair (.bool) (.pair (.sl (.int .u32)) (.unit))), .ptr 2 2, .ptr 3 3]
def rational_sum.x0 : Xs := [(.exit 0, [.box 2 (.pair (.bool) (.pair (.sl (.int .u32)) (.unit))), .box 3 (.pair (.bool) (.pair (.sl (.int .u32)) (.unit))), .ptr 2 2, .ptr 3 3])]
noncomputable def rational_sum.r0 (x : (Fm.ty rational_sum.d0).den) : Option ((Fm.ty rational_sum.d0).den ⊕ (Xs.T rational_sum.x0)) := rational_sum.s0 x.1 x.2.1 x.2.2.1 x.2.2.2.1 x.2.2.2.2.1
noncomputable def rational_sum.L : Lam := fun _ i s K => cond (Nat.beq i 0) (lamK rational_sum.d0 rational_sum.x0 rational_sum.r0 s K) (none)
theorem rational_sum.hf0 (x) : roundK env (orc rational_sum.o) (orcB rational_sum.oB) 17 rational_sum.L rational_sum.c0 rational_sum.h0 rational_sum.d0 rational_sum.x0 x = rational_sum.r0 x := by kernel_rfl
theorem rational_sum.os : AllOk prog rational_sum.o := ⟨integer_Add.ok, trivial⟩
theorem rational_sum.osB : AllBOk prog rational_sum.oB := trivial
theorem rational_sum.l0 {C : Ctx} (hC : C.n = 17) : LamAt prog C rational_sum.L 0 rational_sum.c0 := by
  intro R s K r hk
  refine loop_ok (D := rational_sum.d0) (X := rational_sum.x0) (h := rational_sum.h0) (f := rational_sum.r0) tabs (orc_ok _ rational_sum.os) (orcB_ok _ rational_sum.osB) (fun x => by rw [hC]; exact rational_sum.hf0 x) (Λ := rational_sum.L) ?_ (by kernel_rfl) (by kernel_rfl) (K := K) (s := s) (by exact hk)
  exact by
    have e : loops rational_sum.c0 rational_sum.h0 = [] := by kernel_rfl
    rw [e]
    exact LamOk.nil
theorem rational_sum.hk (x) : semK env (orc rational_sum.o) (orcB rational_sum.oB) 17 (rational_sum.L _) rational_sum.c rational_sum.h (S.init (avs [.sl (.pair (.bool) (.pair (.sl (.int .u32)) (.unit)))] x)) (fin env Try.f95 ⟨[.sl (.pair (.bool) (.pair (.sl (.int .u32)) (.unit)))], .pair (.bool) (.pair (.sl (.int .u32)) (.unit)), false, false⟩) = rational_sum.en.g x := by kernel_rfl
theorem rational_sum.ok : EnOk prog rational_sum.en := by
  refine fun_ok (g := ⟨[.sl (.pair (.bool) (.pair (.sl (.int .u32)) (.unit)))], .pair (.bool) (.pair (.sl (.int .u32)) (.unit)), false, false⟩) (h := rational_sum.h) (Λ := rational_sum.L) tabs rational_sum.os rational_sum.osB Try.func95 (c := rational_sum.c) (by kernel_rfl) (by decide +kernel) (by decide +kernel) (fun C hC => ?_) (fun x => rational_sum.hk x)
  exact by
    have e : loops rational_sum.c rational_sum.h = [(0, rational_sum.c0)] := by kernel_rfl
    rw [e]
    exact LamOk.cons (rational_sum.l0 hC) (LamOk.nil)
noncomputable def rational_Add (t0 : (Bool × List Int × Unit) × (Bool × List Int × Unit) × Unit) (t1 : (Bool × List Int × Unit) × (Bool × List Int × Unit) × Unit) : Option ((Bool × List Int × Unit) × (Bool × List Int × Unit) × Unit) :=
  ((rational_of ((t0.1.1, (t0.1.2.1, ())), ((t0.2.1.1, (t0.2.1.2.1, ())), ()))).bind fun y1 =>
  ((rational_of ((t1.1.1, (t1.1.2.1, ())), ((t1.2.1.1, (t1.2.1.2.1, ())), ()))).bind fun y2 =>
  ((rational_product ([(y1.1.1, (y1.1.2.1, ())), (y2.2.1.1, (y2.2.1.2.1, ()))] : List (Bool × List Int × Unit))).bind fun y3 =>
  ((rational_product ([(y2.1.1, (y2.1.2.1, ())), (y1.2.1.1, (y1.2.1.2.1, ()))] : List (Bool × List Int × Unit))).bind fun y4 =>
  ((rational_sum ([y3, y4] : List (Bool × List Int × Unit))).bind fun y5 =>
  ((rational_product ([(y1.2.1.1, (y1.2.1.2.1, ())), (y2.2.1.1, (y2.2.1.2.1, ()))] : List (Bool × List Int × Unit))).bind fun y6 =>
  ((rational_fraction__rat ((y5.1, (y5.2.1, ())), ((y6.1, (y6.2.1, ())), ()))).bind fun y7 =>
  (some ((y7.1.1, (y7.1.2.1, ())), ((y7.2.1.1, (y7.2.1.2.1, ())), ()))))))))))
noncomputable def rational_Add.en : En := ⟨57, [.pair (.pair (.bool) (.pair (.sl (.int .u32)) (.unit))) (.pair (.pair (.bool) (.pair (.sl (.int .u32)) (.unit))) (.unit)), .pair (.pair (.bool) (.pair (.sl (.int .u32)) (.unit))) (.pair (.pair (.bool) (.pair (.sl (.int .u32)) (.unit))) (.unit))], .pair (.pair (.bool) (.pair (.sl (.int .u32)) (.unit))) (.pair (.pair (.bool) (.pair (.sl (.int .u32)) (.unit))) (.unit)), false, fun x => rational_Add x.1 x.2.1⟩
noncomputable def rational_Add.o : List En := [rational_of.en, rational_fraction__rat.en, rational_product.en, rational_sum.en]
noncomputable def rational_Add.oB : List EnB := []
def rational_Add.h : HT := .n
noncomputable def rational_Add.c : Code := Try.f57.body.getD .skip
noncomputable def rational_Add.L : Lam := fun _ i s K => none
theorem rational_Add.os : AllOk prog rational_Add.o := ⟨rational_of.ok, rational_fraction__rat.ok, rational_product.ok, rational_sum.ok, trivial⟩
theorem rational_Add.osB : AllBOk prog rational_Add.oB := trivial
theorem rational_Add.hk (x) : semK env (orc rational_Add.o) (orcB rational_Add.oB) 33 (rational_Add.L _) rational_Add.c rational_Add.h (S.init (avs [.pair (.pair (.bool) (.pair (.sl (.int .u32)) (.unit))) (.pair (.pair (.bool) (.pair (.sl (.int .u32)) (.unit))) (.unit)), .pair (.pair (.bool) (.pair (.sl (.int .u32)) (.unit))) (.pair (.pair (.bool) (.pair (.sl (.int .u32)) (.unit))) (.unit))] x)) (fin env Try.f57 ⟨[.pair (.pair (.bool) (.pair (.sl (.int .u32)) (.unit))) (.pair (.pair (.bool) (.pair (.sl (.int .u32)) (.unit))) (.unit)), .pair (.pair (.bool) (.pair (.sl (.int .u32)) (.unit))) (.pair (.pair (.bool) (.pair (.sl (.int .u32)) (.unit))) (.unit))], .pair (.pair (.bool) (.pair (.sl (.int .u32)) (.unit))) (.pair (.pair (.bool) (.pair (.sl (.int .u32)) (.unit))) (.unit)), false, false⟩) = rational_Add.en.g x := by kernel_rfl
theorem rational_Add.ok : EnOk prog rational_Add.en := by
  refine fun_ok (g := ⟨[.pair (.pair (.bool) (.pair (.sl (.int .u32)) (.unit))) (.pair (.pair (.bool) (.pair (.sl (.int .u32)) (.unit))) (.unit)), .pair (.pair (.bool) (.pair (.sl (.int .u32)) (.unit))) (.pair (.pair (.bool) (.pair (.sl (.int .u32)) (.unit))) (.unit))], .pair (.pair (.bool) (.pair (.sl (.int .u32)) (.unit))) (.pair (.pair (.bool) (.pair (.sl (.int .u32)) (.unit))) (.unit)), false, false⟩) (h := rational_Add.h) (Λ := rational_Add.L) tabs rational_Add.os rational_Add.osB Try.func57 (c := rational_Add.c) (by kernel_rfl) (by decide +kernel) (by decide +kernel) (fun C hC => ?_) (fun x => rational_Add.hk x)
  exact by
    have e : loops rational_Add.c rational_Add.h = [] := by kernel_rfl
    rw [e]
    exact LamOk.nil
noncomputable def rational_Normalize (t0 : (Bool × List Int × Unit) × (Bool × List Int × Unit) × Unit) : Option ((Bool × List Int × Unit) × (Bool × List Int × Unit) × Unit) :=
  ((rational_of ((t0.1.1, (t0.1.2.1, ())), ((t0.2.1.1, (t0.2.1.2.1, ())), ()))).bind fun y1 =>
  ((rational_fraction__rat y1).bind fun y2 =>
  (some ((y2.1.1, (y2.1.2.1, ())), ((y2.2.1.1, (y2.2.1.2.1, ())), ())))))
noncomputable def rational_Normalize.en : En := ⟨108, [.pair (.pair (.bool) (.pair (.sl (.int .u32)) (.unit))) (.pair (.pair (.bool) (.pair (.sl (.int .u32)) (.unit))) (.unit))], .pair (.pair (.bool) (.pair (.sl (.int .u32)) (.unit))) (.pair (.pair (.bool) (.pair (.sl (.int .u32)) (.unit))) (.unit)), false, fun x => rational_Normalize x.1⟩
noncomputable def rational_Normalize.o : List En := [rational_of.en, rational_fraction__rat.en]
noncomputable def rational_Normalize.oB : List EnB := []
def rational_Normalize.h : HT := .n
noncomputable def rational_Normalize.c : Code := Try.f108.body.getD .skip
noncomputable def rational_Normalize.L : Lam := fun _ i s K => none
theorem rational_Normalize.os : AllOk prog rational_Normalize.o := ⟨rational_of.ok, rational_fraction__rat.ok, trivial⟩
theorem rational_Normalize.osB : AllBOk prog rational_Normalize.oB := trivial
theorem rational_Normalize.hk (x) : semK env (orc rational_Normalize.o) (orcB rational_Normalize.oB) 6 (rational_Normalize.L _) rational_Normalize.c rational_Normalize.h (S.init (avs [.pair (.pair (.bool) (.pair (.sl (.int .u32)) (.unit))) (.pair (.pair (.bool) (.pair (.sl (.int .u32)) (.unit))) (.unit))] x)) (fin env Try.f108 ⟨[.pair (.pair (.bool) (.pair (.sl (.int .u32)) (.unit))) (.pair (.pair (.bool) (.pair (.sl (.int .u32)) (.unit))) (.unit))], .pair (.pair (.bool) (.pair (.sl (.int .u32)) (.unit))) (.pair (.pair (.bool) (.pair (.sl (.int .u32)) (.unit))) (.unit)), false, false⟩) = rational_Normalize.en.g x := by kernel_rfl
theorem rational_Normalize.ok : EnOk prog rational_Normalize.en := by
  refine fun_ok (g := ⟨[.pair (.pair (.bool) (.pair (.sl (.int .u32)) (.unit))) (.pair (.pair (.bool) (.pair (.sl (.int .u32)) (.unit))) (.unit))], .pair (.pair (.bool) (.pair (.sl (.int .u32)) (.unit))) (.pair (.pair (.bool) (.pair (.sl (.int .u32)) (.unit))) (.unit)), false, false⟩) (h := rational_Normalize.h) (Λ := rational_Normalize.L) tabs rational_Normalize.os rational_Normalize.osB Try.func108 (c := rational_Normalize.c) (by kernel_rfl) (by decide +kernel) (by decide +kernel) (fun C hC => ?_) (fun x => rational_Normalize.hk x)
  exact by
    have e : loops rational_Normalize.c rational_Normalize.h = [] := by kernel_rfl
    rw [e]
    exact LamOk.nil
noncomputable def rational_New.j1 (b2_0 : Bool) (b2_1 : List Int) (b3_0 : Bool) (b3_1 : List Int) (b4_1 : List Int) (b4_3 : List Int) : Option (((Bool × List Int × Unit) × (Bool × List Int × Unit) × Unit) × Bool × Unit) :=
  ((rational_Normalize ((b2_0, (b2_1, ())), ((b3_0, (b3_1, ())), ()))).bind fun y2 =>
  (some (((y2.1.1, (y2.1.2.1, ())), ((y2.2.1.1, (y2.2.1.2.1, ())), ())), (true, ()))))
noncomputable def rational_New (t0 : Bool × List Int × Unit) (t1 : Bool × List Int × Unit) : Option (((Bool × List Int × Unit) × (Bool × List Int × Unit) × Unit) × Bool × Unit) :=
  ((integer_Sign (t1.1, (t1.2.1, ()))).bind fun y1 =>
  (cond ((y1 == (0 : Int)))
  ((some (((false, (([] : List Int), ())), ((false, (([] : List Int), ())), ())), (false, ()))))
  ((rational_New.j1 t0.1 t0.2.1 t1.1 t1.2.1 ([] : List Int) ([] : List Int)))))
noncomputable def rational_New.en : En := ⟨92, [.pair (.bool) (.pair (.sl (.int .u32)) (.unit)), .pair (.bool) (.pair (.sl (.int .u32)) (.unit))], .pair (.pair (.pair (.bool) (.pair (.sl (.int .u32)) (.unit))) (.pair (.pair (.bool) (.pair (.sl (.int .u32)) (.unit))) (.unit))) (.pair (.bool) (.unit)), true, fun x => rational_New x.1 x.2.1⟩
noncomputable def rational_New.o : List En := [integer_Sign.en, rational_Normalize.en]
noncomputable def rational_New.oB : List EnB := []
def rational_New.h : HT := .n
noncomputable def rational_New.c : Code := Try.f92.body.getD .skip
noncomputable def rational_New.L : Lam := fun _ i s K => none
theorem rational_New.os : AllOk prog rational_New.o := ⟨integer_Sign.ok, rational_Normalize.ok, trivial⟩
theorem rational_New.osB : AllBOk prog rational_New.oB := trivial
theorem rational_New.hk (x) : semK env (orc rational_New.o) (orcB rational_New.oB) 14 (rational_New.L _) rational_New.c rational_New.h (S.init (avs [.pair (.bool) (.pair (.sl (.int .u32)) (.unit)), .pair (.bool) (.pair (.sl (.int .u32)) (.unit))] x)) (fin env Try.f92 ⟨[.pair (.bool) (.pair (.sl (.int .u32)) (.unit)), .pair (.bool) (.pair (.sl (.int .u32)) (.unit))], .pair (.pair (.pair (.bool) (.pair (.sl (.int .u32)) (.unit))) (.pair (.pair (.bool) (.pair (.sl (.int .u32)) (.unit))) (.unit))) (.pair (.bool) (.unit)), true, false⟩) = rational_New.en.g x := by kernel_rfl
theorem rational_New.ok : EnOk prog rational_New.en := by
  refine fun_ok (g := ⟨[.pair (.bool) (.pair (.sl (.int .u32)) (.unit)), .pair (.bool) (.pair (.sl (.int .u32)) (.unit))], .pair (.pair (.pair (.bool) (.pair (.sl (.int .u32)) (.unit))) (.pair (.pair (.bool) (.pair (.sl (.int .u32)) (.unit))) (.unit))) (.pair (.bool) (.unit)), true, false⟩) (h := rational_New.h) (Λ := rational_New.L) tabs rational_New.os rational_New.osB Try.func92 (c := rational_New.c) (by kernel_rfl) (by decide +kernel) (by decide +kernel) (fun C hC => ?_) (fun x => rational_New.hk x)
  exact by
    have e : loops rational_New.c rational_New.h = [] := by kernel_rfl
    rw [e]
    exact LamOk.nil
noncomputable def rational_Quo (t0 : (Bool × List Int × Unit) × (Bool × List Int × Unit) × Unit) (t1 : (Bool × List Int × Unit) × (Bool × List Int × Unit) × Unit) : Option (((Bool × List Int × Unit) × (Bool × List Int × Unit) × Unit) × Bool × Unit) :=
  ((rational_of ((t0.1.1, (t0.1.2.1, ())), ((t0.2.1.1, (t0.2.1.2.1, ())), ()))).bind fun y1 =>
  ((rational_of ((t1.1.1, (t1.1.2.1, ())), ((t1.2.1.1, (t1.2.1.2.1, ())), ()))).bind fun y2 =>
  ((rational_product ([(y1.1.1, (y1.1.2.1, ())), (y2.2.1.1, (y2.2.1.2.1, ()))] : List (Bool × List Int × Unit))).bind fun y3 =>
  ((rational_product ([(y1.2.1.1, (y1.2.1.2.1, ())), (y2.1.1, (y2.1.2.1, ()))] : List (Bool × List Int × Unit))).bind fun y4 =>
  ((rational_New y3 y4).bind fun y5 =>
  (some (((y5.1.1.1, (y5.1.1.2.1, ())), ((y5.1.2.1.1, (y5.1.2.1.2.1, ())), ())), (y5.2.1, ()))))))))
noncomputable def rational_Quo.en : En := ⟨73, [.pair (.pair (.bool) (.pair (.sl (.int .u32)) (.unit))) (.pair (.pair (.bool) (.pair (.sl (.int .u32)) (.unit))) (.unit)), .pair (.pair (.bool) (.pair (.sl (.int .u32)) (.unit))) (.pair (.pair (.bool) (.pair (.sl (.int .u32)) (.unit))) (.unit))], .pair (.pair (.pair (.bool) (.pair (.sl (.int .u32)) (.unit))) (.pair (.pair (.bool) (.pair (.sl (.int .u32)) (.unit))) (.unit))) (.pair (.bool) (.unit)), true, fun x => rational_Quo x.1 x.2.1⟩
noncomputable def rational_Quo.o : List En := [rational_of.en, rational_New.en, rational_product.en]
noncomputable def rational_Quo.oB : List EnB := []
def rational_Quo.h : HT := .n
noncomputable def rational_Quo.c : Code := Try.f73.body.getD .skip
noncomputable def rational_Quo.L : Lam := fun _ i s K => none
theorem rational_Quo.os : AllOk prog rational_Quo.o := ⟨rational_of.ok, rational_New.ok, rational_product.ok, trivial⟩
theorem rational_Quo.osB : AllBOk prog rational_Quo.oB := trivial
theorem rational_Quo.hk (x) : semK env (orc rational_Quo.o) (orcB rational_Quo.oB) 27 (rational_Quo.L _) rational_Quo.c rational_Quo.h (S.init (avs [.pair (.pair (.bool) (.pair (.sl (.int .u32)) (.unit))) (.pair (.pair (.bool) (.pair (.sl (.int .u32)) (.unit))) (.unit)), .pair (.pair (.bool) (.pair (.sl (.int .u32)) (.unit))) (.pair (.pair (.bool) (.pair (.sl (.int .u32)) (.unit))) (.unit))] x)) (fin env Try.f73 ⟨[.pair (.pair (.bool) (.pair (.sl (.int .u32)) (.unit))) (.pair (.pair (.bool) (.pair (.sl (.int .u32)) (.unit))) (.unit)), .pair (.pair (.bool) (.pair (.sl (.int .u32)) (.unit))) (.pair (.pair (.bool) (.pair (.sl (.int .u32)) (.unit))) (.unit))], .pair (.pair (.pair (.bool) (.pair (.sl (.int .u32)) (.unit))) (.pair (.pair (.bool) (.pair (.sl (.int .u32)) (.unit))) (.unit))) (.pair (.bool) (.unit)), true, false⟩) = rational_Quo.en.g x := by kernel_rfl
theorem rational_Quo.ok : EnOk prog rational_Quo.en := by
  refine fun_ok (g := ⟨[.pair (.pair (.bool) (.pair (.sl (.int .u32)) (.unit))) (.pair (.pair (.bool) (.pair (.sl (.int .u32)) (.unit))) (.unit)), .pair (.pair (.bool) (.pair (.sl (.int .u32)) (.unit))) (.pair (.pair (.bool) (.pair (.sl (.int .u32)) (.unit))) (.unit))], .pair (.pair (.pair (.bool) (.pair (.sl (.int .u32)) (.unit))) (.pair (.pair (.bool) (.pair (.sl (.int .u32)) (.unit))) (.unit))) (.pair (.bool) (.unit)), true, false⟩) (h := rational_Quo.h) (Λ := rational_Quo.L) tabs rational_Quo.os rational_Quo.osB Try.func73 (c := rational_Quo.c) (by kernel_rfl) (by decide +kernel) (by decide +kernel) (fun C hC => ?_) (fun x => rational_Quo.hk x)
  exact by
    have e : loops rational_Quo.c rational_Quo.h = [] := by kernel_rfl
    rw [e]
    exact LamOk.nil
noncomputable def bernoulli_numbers.j2 (t0 : Int) (t4 : Int) (t22 : List Int) (t23 : Int) (t24 : Int) (a11 : List ((Bool × List Int × Unit) × (Bool × List Int × Unit) × Unit)) (b5_0 : Bool) (b5_1 : List Int) (b5_2 : Bool) (b5_3 : List Int) : Option ((Int × Int × List Int × Int × Int × (List ((Bool × List Int × Unit) × (Bool × List Int × Unit) × Unit)) × ((Bool × List Int × Unit) × (Bool × List Int × Unit) × Unit) × Unit) ⊕ ((Int × Int × (List ((Bool × List Int × Unit) × (Bool × List Int × Unit) × Unit)) × ((Bool × List Int × Unit) × (Bool × List Int × Unit) × Unit) × Unit))) :=
  (cond (inB t24 (List.length t22))
  (((bernoulli_whole (List.getD t22 (t24.toNat) (0 : Int))).bind fun y5 =>
  (cond (inB t24 (List.length a11))
  (((rational_Mul y5 (((List.getD a11 ((0 + t24.toNat)) ((false, (([] : List Int), ())), ((false, (([] : List Int), ())), ()))).1.1, ((List.getD a11 ((0 + t24.toNat)) ((false, (([] : List Int), ())), ((false, (([] : List Int), ())), ()))).1.2.1, ())), (((List.getD a11 ((0 + t24.toNat)) ((false, (([] : List Int), ())), ((false, (([] : List Int), ())), ()))).2.1.1, ((List.getD a11 ((0 + t24.toNat)) ((false, (([] : List Int), ())), ((false, (([] : List Int), ())), ()))).2.1.2.1, ())), ()))).bind fun y6 =>
  ((rational_Add ((b5_0, (b5_1, ())), ((b5_2, (b5_3, ())), ())) y6).bind fun y7 =>
  (some (.inl (t0, t4, t22, t23, (IntKind.wrap .i64 (t24 + (1 : Int))), a11, ((y7.1.1, (y7.1.2.1, ())), ((y7.2.1.1, (y7.2.1.2.1, ())), ())), ()))))))
  none)))
  none)
noncomputable def bernoulli_numbers.s0 (t0 : Int) (t4 : Int) (t22 : List Int) (t23 : Int) (t24 : Int) (a11 : List ((Bool × List Int × Unit) × (Bool × List Int × Unit) × Unit)) (b5 : (Bool × List Int × Unit) × (Bool × List Int × Unit) × Unit) : Option ((Int × Int × List Int × Int × Int × (List ((Bool × List Int × Unit) × (Bool × List Int × Unit) × Unit)) × ((Bool × List Int × Unit) × (Bool × List Int × Unit) × Unit) × Unit) ⊕ ((Int × Int × (List ((Bool × List Int × Unit) × (Bool × List Int × Unit) × Unit)) × ((Bool × List Int × Unit) × (Bool × List Int × Unit) × Unit) × Unit))) :=
  (cond ((decide (t24 < t23)))
  ((bernoulli_numbers.j2 t0 t4 t22 t23 t24 a11 b5.1.1 b5.1.2.1 b5.2.1.1 b5.2.1.2.1))
  ((some (.inr (t0, t4, a11, ((b5.1.1, (b5.1.2.1, ())), ((b5.2.1.1, (b5.2.1.2.1, ())), ())), ())))))
noncomputable def bernoulli_numbers.k0 (t0 : Int) (t4 : Int) (a11 : List ((Bool × List Int × Unit) × (Bool × List Int × Unit) × Unit)) (b5 : (Bool × List Int × Unit) × (Bool × List Int × Unit) × Unit) : Option ((Int × Int × (List ((Bool × List Int × Unit) × (Bool × List Int × Unit) × Unit)) × Unit) ⊕ (((List ((Bool × List Int × Unit) × (Bool × List Int × Unit) × Unit)) × Unit))) :=
  ((rational_Neg ((b5.1.1, (b5.1.2.1, ())), ((b5.2.1.1, (b5.2.1.2.1, ())), ()))).bind fun y8 =>
  ((bernoulli_whole (IntKind.wrap .i64 (t4 + (1 : Int)))).bind fun y9 =>
  ((rational_Quo y8 y9).bind fun y10 =>
  (cond (decide (List.length a11 + List.length ([((y10.1.1.1, (y10.1.1.2.1, ())), ((y10.1.2.1.1, (y10.1.2.1.2.1, ())), ()))] : List ((Bool × List Int × Unit) × (Bool × List Int × Unit) × Unit)) ≤ maxL))
  ((some (.inl (t0, (IntKind.wrap .i64 (t4 + (1 : Int))), (a11 ++ ([((y10.1.1.1, (y10.1.1.2.1, ())), ((y10.1.2.1.1, (y10.1.2.1.2.1, ())), ()))] : List ((Bool × List Int × Unit) × (Bool × List Int × Unit) × Unit))), ()))))
  none))))
noncomputable def bernoulli_numbers.j1 (t0 : Int) (t4 : Int) (a11 : List ((Bool × List Int × Unit) × (Bool × List Int × Unit) × Unit)) : Option ((Int × Int × (List ((Bool × List Int × Unit) × (Bool × List Int × Unit) × Unit)) × Unit) ⊕ (((List ((Bool × List Int × Unit) × (Bool × List Int × Unit) × Unit)) × Unit))) :=
  ((bernoulli_whole (0 : Int)).bind fun y2 =>
  ((bernoulli_row (IntKind.wrap .i64 (t4 + (1 : Int)))).bind fun y3 =>
  (cond (inC t4 (List.length y3))
  (((iterL (fun x : Int × Int × List Int × Int × Int × (List ((Bool × List Int × Unit) × (Bool × List Int × Unit) × Unit)) × ((Bool × List Int × Unit) × (Bool × List Int × Unit) × Unit) × Unit => bernoulli_numbers.s0 x.1 x.2.1 x.2.2.1 x.2.2.2.1 x.2.2.2.2.1 x.2.2.2.2.2.1 x.2.2.2.2.2.2.1) (t0, t4, (List.take (t4.toNat) y3), ((List.length (List.take (t4.toNat) y3) : Nat) : Int), (0 : Int), a11, ((y2.1.1, (y2.1.2.1, ())), ((y2.2.1.1, (y2.2.1.2.1, ())), ())), ())).bind fun y => bernoulli_numbers.k0 y.1 y.2.1 y.2.2.1 y.2.2.2.1))
  none)))
noncomputable def bernoulli_numbers.s1 (t0 : Int) (t4 : Int) (a11 : List ((Bool × List Int × Unit) × (Bool × List Int × Unit) × Unit)) : Option ((Int × Int × (List ((Bool × List Int × Unit) × (Bool × List Int × Unit) × Unit)) × Unit) ⊕ (((List ((Bool × List Int × Unit) × (Bool × List Int × Unit) × Unit)) × Unit))) :=
  (cond ((decide (t4 ≤ t0)))
  ((bernoulli_numbers.j1 t0 t4 a11))
  ((some (.inr (a11, ())))))
noncomputable def bernoulli_numbers.k1 (a11 : List ((Bool × List Int × Unit) × (Bool × List Int × Unit) × Unit)) : Option (List ((Bool × List Int × Unit) × (Bool × List Int × Unit) × Unit)) :=
  (some a11)
noncomputable def bernoulli_numbers (t0 : Int) : Option (List ((Bool × List Int × Unit) × (Bool × List Int × Unit) × Unit)) :=
  ((bernoulli_whole (1 : Int)).bind fun y1 =>
  ((iterL (fun x : Int × Int × (List ((Bool × List Int × Unit) × (Bool × List Int × Unit) × Unit)) × Unit => bernoulli_numbers.s1 x.1 x.2.1 x.2.2.1) (t0, (1 : Int), ([y1] : List ((Bool × List Int × Unit) × (Bool × List Int × Unit) × Unit)), ())).bind fun y => bernoulli_numbers.k1 y.1))
noncomputable def bernoulli_numbers.en : En := ⟨38, [.int .i64], .sl (.pair (.pair (.bool) (.pair (.sl (.int .u32)) (.unit))) (.pair (.pair (.bool) (.pair (.sl (.int .u32)) (.unit))) (.unit))), false, fun x => bernoulli_numbers x.1⟩
noncomputable def bernoulli_numbers.o : List En := [rational_Neg.en, bernoulli_whole.en, bernoulli_row.en, rational_Mul.en, rational_Add.en, rational_Quo.en]
noncomputable def bernoulli_numbers.oB : List EnB := []
def bernoulli_numbers.h : HT := .two (.n) (.two (.fr [] [11]) (.two (.two (.n) (.lp 1)) (.n)))
noncomputable def bernoulli_numbers.c : Code := Try.f38.body.getD .skip
def bernoulli_numbers.h1 : HT := .two (.n) (.two (.two (.n) (.two (.two (.n) (.lp 0)) (.n))) (.n))
noncomputable def bernoulli_numbers.c1 : Code := (find (loops bernoulli_numbers.c bernoulli_numbers.h) 1).getD .skip
def bernoulli_numbers.d1 : Fm := [.v 0 (.int .i64), .v 4 (.int .i64), .arr 11 26 (.pair (.pair (.bool) (.pair (.sl (.int .u32)) (.unit))) (.pair (.pair (.bool) (.pair (.sl (.int .u32)) (.unit))) (.unit))), .own 3 11]
def bernoulli_numbers.x1 : Xs := [(.exit 0, [.arr 11 26 (.pair (.pair (.bool) (.pair (.sl (.int .u32)) (.unit))) (.pair (.pair (.bool) (.pair (.sl (.int .u32)) (.unit))) (.unit))), .own 3 11])]
noncomputable def bernoulli_numbers.r1 (x : (Fm.ty bernoulli_numbers.d1).den) : Option ((Fm.ty bernoulli_numbers.d1).den ⊕ (Xs.T bernoulli_numbers.x1)) := bernoulli_numbers.s1 x.1 x.2.1 x.2.2.1
def bernoulli_numbers.h0 : HT := .n
noncomputable def bernoulli_numbers.c0 : Code := (find (loops bernoulli_numbers.c1 bernoulli_numbers.h1) 0).getD .skip
def bernoulli_numbers.d0 : Fm := [.v 0 (.int .i64), .v 4 (.int .i64), .v 22 (.sl (.int .i64)), .v 23 (.int .i64), .v 24 (.int .i64), .arr 11 26 (.pair (.pair (.bool) (.pair (.sl (.int .u32)) (.unit))) (.pair (.pair (.bool) (.pair (.sl (.int .u32)) (.unit))) (.unit))), .box 5 (.pair (.pair (.bool) (.pair (.sl (.int .u32)) (.unit))) (.pair (.pair (.bool) (.pair (.sl (.int .u32)) (.unit))) (.unit))), .own 3 11, .ptr 5 5]
def bernoulli_numbers.x0 : Xs := [(.exit 2, [.v 0 (.int .i64), .v 4 (.int .i64), .arr 11 26 (.pair (.pair (.bool) (.pair (.sl (.int .u32)) (.unit))) (.pair (.pair (.bool) (.pair (.sl (.int .u32)) (.unit))) (.unit))), .box 5 (.pair (.pair (.bool) (.pair (.sl (.int .u32)) (.unit))) (.pair (.pair (.bool) (.pair (.sl (.int .u32)) (.unit))) (.unit))), .own 3 11, .ptr 5 5])]
noncomputable def bernoulli_numbers.r0 (x : (Fm.ty bernoulli_numbers.d0).den) : Option ((Fm.ty bernoulli_numbers.d0).den ⊕ (Xs.T bernoulli_numbers.x0)) := bernoulli_numbers.s0 x.1 x.2.1 x.2.2.1 x.2.2.2.1 x.2.2.2.2.1 x.2.2.2.2.2.1 x.2.2.2.2.2.2.1
noncomputable def bernoulli_numbers.L : Lam := fun _ i s K => cond (Nat.beq i 0) (lamK bernoulli_numbers.d0 bernoulli_numbers.x0 bernoulli_numbers.r0 s K) (cond (Nat.beq i 1) (lamK bernoulli_numbers.d1 bernoulli_numbers.x1 bernoulli_numbers.r1 s K) (none))
theorem bernoulli_numbers.hf0 (x) : roundK env (orc bernoulli_numbers.o) (orcB bernoulli_numbers.oB) 53 bernoulli_numbers.L bernoulli_numbers.c0 bernoulli_numbers.h0 bernoulli_numbers.d0 bernoulli_numbers.x0 x = bernoulli_numbers.r0 x := by kernel_rfl
theorem bernoulli_numbers.hf1 (x) : roundK env (orc bernoulli_numbers.o) (orcB bernoulli_numbers.oB) 53 bernoulli_numbers.L bernoulli_numbers.c1 bernoulli_numbers.h1 bernoulli_numbers.d1 bernoulli_numbers.x1 x = bernoulli_numbers.r1 x := by kernel_rfl
theorem bernoulli_numbers.os : AllOk prog bernoulli_numbers.o := ⟨rational_Neg.ok, bernoulli_whole.ok, bernoulli_row.ok, rational_Mul.ok, rational_Add.ok, rational_Quo.ok, trivial⟩
theorem bernoulli_numbers.osB : AllBOk prog bernoulli_numbers.oB := trivial
theorem bernoulli_numbers.l0 {C : Ctx} (hC : C.n = 53) : LamAt prog C bernoulli_numbers.L 0 bernoulli_numbers.c0 := by
  intro R s K r hk
  refine loop_ok (D := bernoulli_numbers.d0) (X := bernoulli_numbers.x0) (h := bernoulli_numbers.h0) (f := bernoulli_numbers.r0) tabs (orc_ok _ bernoulli_numbers.os) (orcB_ok _ bernoulli_numbers.osB) (fun x => by rw [hC]; exact bernoulli_numbers.hf0 x) (Λ := bernoulli_numbers.L) ?_ (by kernel_rfl) (by kernel_rfl) (K := K) (s := s) (by exact hk)
  exact by
    have e : loops bernoulli_numbers.c0 bernoulli_numbers.h0 = [] := by kernel_rfl
    rw [e]
    exact LamOk.nil
theorem bernoulli_numbers.l1 {C : Ctx} (hC : C.n = 53) : LamAt prog C bernoulli_numbers.L 1 bernoulli_numbers.c1 := by
  intro R s K r hk
  refine loop_ok (D := bernoulli_numbers.d1) (X := bernoulli_numbers.x1) (h := bernoulli_numbers.h1) (f := bernoulli_numbers.r1) tabs (orc_ok _ bernoulli_numbers.os) (orcB_ok _ bernoulli_numbers.osB) (fun x => by rw [hC]; exact bernoulli_numbers.hf1 x) (Λ := bernoulli_numbers.L) ?_ (by kernel_rfl) (by kernel_rfl) (K := K) (s := s) (by exact hk)
  exact by
    have e : loops bernoulli_numbers.c1 bernoulli_numbers.h1 = [(0, bernoulli_numbers.c0)] := by kernel_rfl
    rw [e]
    exact LamOk.cons (bernoulli_numbers.l0 hC) (LamOk.nil)
theorem bernoulli_numbers.hk (x) : semK env (orc bernoulli_numbers.o) (orcB bernoulli_numbers.oB) 53 (bernoulli_numbers.L _) bernoulli_numbers.c bernoulli_numbers.h (S.init (avs [.int .i64] x)) (fin env Try.f38 ⟨[.int .i64], .sl (.pair (.pair (.bool) (.pair (.sl (.int .u32)) (.unit))) (.pair (.pair (.bool) (.pair (.sl (.int .u32)) (.unit))) (.unit))), false, false⟩) = bernoulli_numbers.en.g x := by kernel_rfl
theorem bernoulli_numbers.ok : EnOk prog bernoulli_numbers.en := by
  refine fun_ok (g := ⟨[.int .i64], .sl (.pair (.pair (.bool) (.pair (.sl (.int .u32)) (.unit))) (.pair (.pair (.bool) (.pair (.sl (.int .u32)) (.unit))) (.unit))), false, false⟩) (h := bernoulli_numbers.h) (Λ := bernoulli_numbers.L) tabs bernoulli_numbers.os bernoulli_numbers.osB Try.func38 (c := bernoulli_numbers.c) (by kernel_rfl) (by decide +kernel) (by decide +kernel) (fun C hC => ?_) (fun x => bernoulli_numbers.hk x)
  exact by
    have e : loops bernoulli_numbers.c bernoulli_numbers.h = [(1, bernoulli_numbers.c1)] := by kernel_rfl
    rw [e]
    exact LamOk.cons (bernoulli_numbers.l1 hC) (LamOk.nil)
noncomputable def bernoulli_Number.j1 (t0 : Int) (b2_1 : List Int) (b2_3 : List Int) : Option (((Bool × List Int × Unit) × (Bool × List Int × Unit) × Unit) × Int × Unit) :=
  ((bernoulli_numbers t0).bind fun y1 =>
  (cond (inB t0 (List.length y1))
  ((some ((((List.getD y1 (t0.toNat) ((false, (([] : List Int), ())), ((false, (([] : List Int), ())), ()))).1.1, ((List.getD y1 (t0.toNat) ((false, (([] : List Int), ())), ((false, (([] : List Int), ())), ()))).1.2.1, ())), (((List.getD y1 (t0.toNat) ((false, (([] : List Int), ())), ((false, (([] : List Int), ())), ()))).2.1.1, ((List.getD y1 (t0.toNat) ((false, (([] : List Int), ())), ((false, (([] : List Int), ())), ()))).2.1.2.1, ())), ())), ((0 : Int), ()))))
  none))
noncomputable def bernoulli_Number (t0 : Int) : Option (((Bool × List Int × Unit) × (Bool × List Int × Unit) × Unit) × Int × Unit) :=
  (cond ((decide (t0 < (0 : Int))))
  ((some (((false, (([] : List Int), ())), ((false, (([] : List Int), ())), ())), ((1 : Int), ()))))
  ((cond ((decide (t0 > (20 : Int))))
  ((some (((false, (([] : List Int), ())), ((false, (([] : List Int), ())), ())), ((1 : Int), ()))))
  ((bernoulli_Number.j1 t0 ([] : List Int) ([] : List Int))))))
noncomputable def bernoulli_Number.en : En := ⟨13, [.int .i64], .pair (.pair (.pair (.bool) (.pair (.sl (.int .u32)) (.unit))) (.pair (.pair (.bool) (.pair (.sl (.int .u32)) (.unit))) (.unit))) (.pair (.int .i64) (.unit)), true, fun x => bernoulli_Number x.1⟩
noncomputable def bernoulli_Number.o : List En := [bernoulli_numbers.en]
noncomputable def bernoulli_Number.oB : List EnB := []
def bernoulli_Number.h : HT := .n
noncomputable def bernoulli_Number.c : Code := Try.f13.body.getD .skip
noncomputable def bernoulli_Number.L : Lam := fun _ i s K => none
theorem bernoulli_Number.os : AllOk prog bernoulli_Number.o := ⟨bernoulli_numbers.ok, trivial⟩
theorem bernoulli_Number.osB : AllBOk prog bernoulli_Number.oB := trivial
theorem bernoulli_Number.hk (x) : semK env (orc bernoulli_Number.o) (orcB bernoulli_Number.oB) 16 (bernoulli_Number.L _) bernoulli_Number.c bernoulli_Number.h (S.init (avs [.int .i64] x)) (fin env Try.f13 ⟨[.int .i64], .pair (.pair (.pair (.bool) (.pair (.sl (.int .u32)) (.unit))) (.pair (.pair (.bool) (.pair (.sl (.int .u32)) (.unit))) (.unit))) (.pair (.int .i64) (.unit)), true, false⟩) = bernoulli_Number.en.g x := by kernel_rfl
theorem bernoulli_Number.ok : EnOk prog bernoulli_Number.en := by
  refine fun_ok (g := ⟨[.int .i64], .pair (.pair (.pair (.bool) (.pair (.sl (.int .u32)) (.unit))) (.pair (.pair (.bool) (.pair (.sl (.int .u32)) (.unit))) (.unit))) (.pair (.int .i64) (.unit)), true, false⟩) (h := bernoulli_Number.h) (Λ := bernoulli_Number.L) tabs bernoulli_Number.os bernoulli_Number.osB Try.func13 (c := bernoulli_Number.c) (by kernel_rfl) (by decide +kernel) (by decide +kernel) (fun C hC => ?_) (fun x => bernoulli_Number.hk x)
  exact by
    have e : loops bernoulli_Number.c bernoulli_Number.h = [] := by kernel_rfl
    rw [e]
    exact LamOk.nil
noncomputable def quadformref01_trim.j1 (t0 : List Int) (t3 : Int) : Option ((List Int × Int × Unit) ⊕ ((List Int × Int × Unit))) :=
  (some (.inl (t0, (IntKind.wrap .i64 (t3 - (1 : Int))), ())))
noncomputable def quadformref01_trim.s0 (t0 : List Int) (t3 : Int) : Option ((List Int × Int × Unit) ⊕ ((List Int × Int × Unit))) :=
  (cond ((decide (t3 > (0 : Int))))
  ((cond (inB (IntKind.wrap .i64 (t3 - (1 : Int))) (List.length t0))
  ((cond (((List.getD t0 (((IntKind.wrap .i64 (t3 - (1 : Int)))).toNat) (0 : Int)) == (0 : Int)))
  ((quadformref01_trim.j1 t0 t3))
  ((some (.inr (t0, t3, ()))))))
  none))
  ((some (.inr (t0, t3, ())))))
noncomputable def quadformref01_trim.k0 (t0 : List Int) (t3 : Int) : Option (List Int) :=
  (cond (inC t3 (List.length t0))
  ((cond (decide (List.length (List.take (t3.toNat) t0) ≤ maxL))
  ((some (List.take (t3.toNat) t0)))
  none))
  none)
noncomputable def quadformref01_trim (t0 : List Int) : Option (List Int) :=
  ((iterL (fun x : List Int × Int × Unit => quadformref01_trim.s0 x.1 x.2.1) (t0, ((List.length t0 : Nat) : Int), ())).bind fun y => quadformref01_trim.k0 y.1 y.2.1)
noncomputable def quadformref01_trim.en : En := ⟨44, [.sl (.int .u32)], .sl (.int .u32), false, fun x => quadformref01_trim x.1⟩
noncomputable def quadformref01_trim.o : List En := []
noncomputable def quadformref01_trim.oB : List EnB := []
def quadformref01_trim.h : HT := .two (.n) (.two (.n) (.two (.lp 0) (.n)))
noncomputable def quadformref01_trim.c : Code := Try.f44.body.getD .skip
def quadformref01_trim.h0 : HT := .n
noncomputable def quadformref01_trim.c0 : Code := (find (loops quadformref01_trim.c quadformref01_trim.h) 0).getD .skip
def quadformref01_trim.d0 : Fm := [.v 0 (.sl (.int .u32)), .v 3 (.int .i64)]
def quadformref01_trim.x0 : Xs := [(.exit 0, [.v 0 (.sl (.int .u32)), .v 3 (.int .i64)])]
noncomputable def quadformref01_trim.r0 (x : (Fm.ty quadformref01_trim.d0).den) : Option ((Fm.ty quadformref01_trim.d0).den ⊕ (Xs.T quadformref01_trim.x0)) := quadformref01_trim.s0 x.1 x.2.1
noncomputable def quadformref01_trim.L : Lam := fun _ i s K => cond (Nat.beq i 0) (lamK quadformref01_trim.d0 quadformref01_trim.x0 quadformref01_trim.r0 s K) (none)
theorem quadformref01_trim.hf0 (x) : roundK env (orc quadformref01_trim.o) (orcB quadformref01_trim.oB) 22 quadformref01_trim.L quadformref01_trim.c0 quadformref01_trim.h0 quadformref01_trim.d0 quadformref01_trim.x0 x = quadformref01_trim.r0 x := by kernel_rfl
theorem quadformref01_trim.os : AllOk prog quadformref01_trim.o := trivial
theorem quadformref01_trim.osB : AllBOk prog quadformref01_trim.oB := trivial
theorem quadformref01_trim.l0 {C : Ctx} (hC : C.n = 22) : LamAt prog C quadformref01_trim.L 0 quadformref01_trim.c0 := by
  intro R s K r hk
  refine loop_ok (D := quadformref01_trim.d0) (X := quadformref01_trim.x0) (h := quadformref01_trim.h0) (f := quadformref01_trim.r0) tabs (orc_ok _ quadformref01_trim.os) (orcB_ok _ quadformref01_trim.osB) (fun x => by rw [hC]; exact quadformref01_trim.hf0 x) (Λ := quadformref01_trim.L) ?_ (by kernel_rfl) (by kernel_rfl) (K := K) (s := s) (by exact hk)
  exact by
    have e : loops quadformref01_trim.c0 quadformref01_trim.h0 = [] := by kernel_rfl
    rw [e]
    exact LamOk.nil
theorem quadformref01_trim.hk (x) : semK env (orc quadformref01_trim.o) (orcB quadformref01_trim.oB) 22 (quadformref01_trim.L _) quadformref01_trim.c quadformref01_trim.h (S.init (avs [.sl (.int .u32)] x)) (fin env Try.f44 ⟨[.sl (.int .u32)], .sl (.int .u32), false, false⟩) = quadformref01_trim.en.g x := by kernel_rfl
theorem quadformref01_trim.ok : EnOk prog quadformref01_trim.en := by
  refine fun_ok (g := ⟨[.sl (.int .u32)], .sl (.int .u32), false, false⟩) (h := quadformref01_trim.h) (Λ := quadformref01_trim.L) tabs quadformref01_trim.os quadformref01_trim.osB Try.func44 (c := quadformref01_trim.c) (by kernel_rfl) (by decide +kernel) (by decide +kernel) (fun C hC => ?_) (fun x => quadformref01_trim.hk x)
  exact by
    have e : loops quadformref01_trim.c quadformref01_trim.h = [(0, quadformref01_trim.c0)] := by kernel_rfl
    rw [e]
    exact LamOk.cons (quadformref01_trim.l0 hC) (LamOk.nil)
noncomputable def quadformref01_Make (t0 : Bool) (t1 : List Int) : Option (Bool × List Int × Unit) :=
  ((quadformref01_trim t1).bind fun y1 =>
  (cond (t0)
  ((some ((decide (((List.length y1 : Nat) : Int) > (0 : Int))), (y1, ()))))
  ((some (false, (y1, ()))))))
noncomputable def quadformref01_Make.en : En := ⟨77, [.bool, .sl (.int .u32)], .pair (.bool) (.pair (.sl (.int .u32)) (.unit)), false, fun x => quadformref01_Make x.1 x.2.1⟩
noncomputable def quadformref01_Make.o : List En := [quadformref01_trim.en]
noncomputable def quadformref01_Make.oB : List EnB := []
def quadformref01_Make.h : HT := .n
noncomputable def quadformref01_Make.c : Code := Try.f77.body.getD .skip
noncomputable def quadformref01_Make.L : Lam := fun _ i s K => none
theorem quadformref01_Make.os : AllOk prog quadformref01_Make.o := ⟨quadformref01_trim.ok, trivial⟩
theorem quadformref01_Make.osB : AllBOk prog quadformref01_Make.oB := trivial
theorem quadformref01_Make.hk (x) : semK env (orc quadformref01_Make.o) (orcB quadformref01_Make.oB) 16 (quadformref01_Make.L _) quadformref01_Make.c quadformref01_Make.h (S.init (avs [.bool, .sl (.int .u32)] x)) (fin env Try.f77 ⟨[.bool, .sl (.int .u32)], .pair (.bool) (.pair (.sl (.int .u32)) (.unit)), false, false⟩) = quadformref01_Make.en.g x := by kernel_rfl
theorem quadformref01_Make.ok : EnOk prog quadformref01_Make.en := by
  refine fun_ok (g := ⟨[.bool, .sl (.int .u32)], .pair (.bool) (.pair (.sl (.int .u32)) (.unit)), false, false⟩) (h := quadformref01_Make.h) (Λ := quadformref01_Make.L) tabs quadformref01_Make.os quadformref01_Make.osB Try.func77 (c := quadformref01_Make.c) (by kernel_rfl) (by decide +kernel) (by decide +kernel) (fun C hC => ?_) (fun x => quadformref01_Make.hk x)
  exact by
    have e : loops quadformref01_Make.c quadformref01_Make.h = [] := by kernel_rfl
    rw [e]
    exact LamOk.nil
noncomputable def quadformref01_word (t0 : Bool) (t1 : Int) : Option (Bool × List Int × Unit) :=
  ((quadformref01_Make t0 ([(IntKind.wrap .u32 t1), (IntKind.wrap .u32 (shrI .u64 t1 (32 : Int)))] : List (Int))).bind fun y2 =>
  (some (y2.1, (y2.2.1, ()))))
noncomputable def quadformref01_word.en : En := ⟨45, [.bool, .int .u64], .pair (.bool) (.pair (.sl (.int .u32)) (.unit)), false, fun x => quadformref01_word x.1 x.2.1⟩
noncomputable def quadformref01_word.o : List En := [quadformref01_Make.en]
noncomputable def quadformref01_word.oB : List EnB := []
def quadformref01_word.h : HT := .n
noncomputable def quadformref01_word.c : Code := Try.f45.body.getD .skip
noncomputable def quadformref01_word.L : Lam := fun _ i s K => none
theorem quadformref01_word.os : AllOk prog quadformref01_word.o := ⟨quadformref01_Make.ok, trivial⟩
theorem quadformref01_word.osB : AllBOk prog quadformref01_word.oB := trivial
theorem quadformref01_word.hk (x) : semK env (orc quadformref01_word.o) (orcB quadformref01_word.oB) 13 (quadformref01_word.L _) quadformref01_word.c quadformref01_word.h (S.init (avs [.bool, .int .u64] x)) (fin env Try.f45 ⟨[.bool, .int .u64], .pair (.bool) (.pair (.sl (.int .u32)) (.unit)), false, false⟩) = quadformref01_word.en.g x := by kernel_rfl
theorem quadformref01_word.ok : EnOk prog quadformref01_word.en := by
  refine fun_ok (g := ⟨[.bool, .int .u64], .pair (.bool) (.pair (.sl (.int .u32)) (.unit)), false, false⟩) (h := quadformref01_word.h) (Λ := quadformref01_word.L) tabs quadformref01_word.os quadformref01_word.osB Try.func45 (c := quadformref01_word.c) (by kernel_rfl) (by decide +kernel) (by decide +kernel) (fun C hC => ?_) (fun x => quadformref01_word.hk x)
  exact by
    have e : loops quadformref01_word.c quadformref01_word.h = [] := by kernel_rfl
    rw [e]
    exact LamOk.nil
noncomputable def quadformref01_Small.j1 (t0 : Int) (b2_1 : List Int) : Option (Bool × List Int × Unit) :=
  ((quadformref01_word false (IntKind.wrap .u64 t0)).bind fun y3 =>
  (some (y3.1, (y3.2.1, ()))))
noncomputable def quadformref01_Small (t0 : Int) : Option (Bool × List Int × Unit) :=
  (cond ((decide (t0 < (0 : Int))))
  (((quadformref01_word true (IntKind.wrap .u64 (0 - (IntKind.wrap .u64 t0)))).bind fun y2 =>
  (some (y2.1, (y2.2.1, ())))))
  ((quadformref01_Small.j1 t0 ([] : List Int))))
noncomputable def quadformref01_Small.en : En := ⟨19, [.int .i64], .pair (.bool) (.pair (.sl (.int .u32)) (.unit)), false, fun x => quadformref01_Small x.1⟩
noncomputable def quadformref01_Small.o : List En := [quadformref01_word.en]
noncomputable def quadformref01_Small.oB : List EnB := []
def quadformref01_Small.h : HT := .n
noncomputable def quadformref01_Small.c : Code := Try.f19.body.getD .skip
noncomputable def quadformref01_Small.L : Lam := fun _ i s K => none
theorem quadformref01_Small.os : AllOk prog quadformref01_Small.o := ⟨quadformref01_word.ok, trivial⟩
theorem quadformref01_Small.osB : AllBOk prog quadformref01_Small.oB := trivial
theorem quadformref01_Small.hk (x) : semK env (orc quadformref01_Small.o) (orcB quadformref01_Small.oB) 12 (quadformref01_Small.L _) quadformref01_Small.c quadformref01_Small.h (S.init (avs [.int .i64] x)) (fin env Try.f19 ⟨[.int .i64], .pair (.bool) (.pair (.sl (.int .u32)) (.unit)), false, false⟩) = quadformref01_Small.en.g x := by kernel_rfl
theorem quadformref01_Small.ok : EnOk prog quadformref01_Small.en := by
  refine fun_ok (g := ⟨[.int .i64], .pair (.bool) (.pair (.sl (.int .u32)) (.unit)), false, false⟩) (h := quadformref01_Small.h) (Λ := quadformref01_Small.L) tabs quadformref01_Small.os quadformref01_Small.osB Try.func19 (c := quadformref01_Small.c) (by kernel_rfl) (by decide +kernel) (by decide +kernel) (fun C hC => ?_) (fun x => quadformref01_Small.hk x)
  exact by
    have e : loops quadformref01_Small.c quadformref01_Small.h = [] := by kernel_rfl
    rw [e]
    exact LamOk.nil
noncomputable def quadformref01_Normalize (t0 : Bool × List Int × Unit) : Option (Bool × List Int × Unit) :=
  ((quadformref01_Make t0.1 t0.2.1).bind fun y1 =>
  (some (y1.1, (y1.2.1, ()))))
noncomputable def quadformref01_Normalize.en : En := ⟨96, [.pair (.bool) (.pair (.sl (.int .u32)) (.unit))], .pair (.bool) (.pair (.sl (.int .u32)) (.unit)), false, fun x => quadformref01_Normalize x.1⟩
noncomputable def quadformref01_Normalize.o : List En := [quadformref01_Make.en]
noncomputable def quadformref01_Normalize.oB : List EnB := []
def quadformref01_Normalize.h : HT := .n
noncomputable def quadformref01_Normalize.c : Code := Try.f96.body.getD .skip
noncomputable def quadformref01_Normalize.L : Lam := fun _ i s K => none
theorem quadformref01_Normalize.os : AllOk prog quadformref01_Normalize.o := ⟨quadformref01_Make.ok, trivial⟩
theorem quadformref01_Normalize.osB : AllBOk prog quadformref01_Normalize.oB := trivial
theorem quadformref01_Normalize.hk (x) : semK env (orc quadformref01_Normalize.o) (orcB quadformref01_Normalize.oB) 8 (quadformref01_Normalize.L _) quadformref01_Normalize.c quadformref01_Normalize.h (S.init (avs [.pair (.bool) (.pair (.sl (.int .u32)) (.unit))] x)) (fin env Try.f96 ⟨[.pair (.bool) (.pair (.sl (.int .u32)) (.unit))], .pair (.bool) (.pair (.sl (.int .u32)) (.unit)), false, false⟩) = quadformref01_Normalize.en.g x := by kernel_rfl
theorem quadformref01_Normalize.ok : EnOk prog quadformref01_Normalize.en := by
  refine fun_ok (g := ⟨[.pair (.bool) (.pair (.sl (.int .u32)) (.unit))], .pair (.bool) (.pair (.sl (.int .u32)) (.unit)), false, false⟩) (h := quadformref01_Normalize.h) (Λ := quadformref01_Normalize.L) tabs quadformref01_Normalize.os quadformref01_Normalize.osB Try.func96 (c := quadformref01_Normalize.c) (by kernel_rfl) (by decide +kernel) (by decide +kernel) (fun C hC => ?_) (fun x => quadformref01_Normalize.hk x)
  exact by
    have e : loops quadformref01_Normalize.c quadformref01_Normalize.h = [] := by kernel_rfl
    rw [e]
    exact LamOk.nil
noncomputable def quadformref02_Whole (t0 : Bool × List Int × Unit) : Option ((Bool × List Int × Unit) × (Bool × List Int × Unit) × Unit) :=
  ((quadformref01_Normalize (t0.1, (t0.2.1, ()))).bind fun y1 =>
  ((quadformref01_Small (1 : Int)).bind fun y2 =>
  (some ((y1.1, (y1.2.1, ())), ((y2.1, (y2.2.1, ())), ())))))
noncomputable def quadformref02_Whole.en : En := ⟨59, [.pair (.bool) (.pair (.sl (.int .u32)) (.unit))], .pair (.pair (.bool) (.pair (.sl (.int .u32)) (.unit))) (.pair (.pair (.bool) (.pair (.sl (.int .u32)) (.unit))) (.unit)), false, fun x => quadformref02_Whole x.1⟩
noncomputable def quadformref02_Whole.o : List En := [quadformref01_Small.en, quadformref01_Normalize.en]
noncomputable def quadformref02_Whole.oB : List EnB := []
def quadformref02_Whole.h : HT := .n
noncomputable def quadformref02_Whole.c : Code := Try.f59.body.getD .skip
noncomputable def quadformref02_Whole.L : Lam := fun _ i s K => none
theorem quadformref02_Whole.os : AllOk prog quadformref02_Whole.o := ⟨quadformref01_Small.ok, quadformref01_Normalize.ok, trivial⟩
theorem quadformref02_Whole.osB : AllBOk prog quadformref02_Whole.oB := trivial
theorem quadformref02_Whole.hk (x) : semK env (orc quadformref02_Whole.o) (orcB quadformref02_Whole.oB) 7 (quadformref02_Whole.L _) quadformref02_Whole.c quadformref02_Whole.h (S.init (avs [.pair (.bool) (.pair (.sl (.int .u32)) (.unit))] x)) (fin env Try.f59 ⟨[.pair (.bool) (.pair (.sl (.int .u32)) (.unit))], .pair (.pair (.bool) (.pair (.sl (.int .u32)) (.unit))) (.pair (.pair (.bool) (.pair (.sl (.int .u32)) (.unit))) (.unit)), false, false⟩) = quadformref02_Whole.en.g x := by kernel_rfl
theorem quadformref02_Whole.ok : EnOk prog quadformref02_Whole.en := by
  refine fun_ok (g := ⟨[.pair (.bool) (.pair (.sl (.int .u32)) (.unit))], .pair (.pair (.bool) (.pair (.sl (.int .u32)) (.unit))) (.pair (.pair (.bool) (.pair (.sl (.int .u32)) (.unit))) (.unit)), false, false⟩) (h := quadformref02_Whole.h) (Λ := quadformref02_Whole.L) tabs quadformref02_Whole.os quadformref02_Whole.osB Try.func59 (c := quadformref02_Whole.c) (by kernel_rfl) (by decide +kernel) (by decide +kernel) (fun C hC => ?_) (fun x => quadformref02_Whole.hk x)
  exact by
    have e : loops quadformref02_Whole.c quadformref02_Whole.h = [] := by kernel_rfl
    rw [e]
    exact LamOk.nil
noncomputable def quadformref02_Small (t0 : Int) : Option ((Bool × List Int × Unit) × (Bool × List Int × Unit) × Unit) :=
  ((quadformref01_Small t0).bind fun y1 =>
  ((quadformref02_Whole y1).bind fun y2 =>
  (some ((y2.1.1, (y2.1.2.1, ())), ((y2.2.1.1, (y2.2.1.2.1, ())), ())))))
noncomputable def quadformref02_Small.en : En := ⟨25, [.int .i64], .pair (.pair (.bool) (.pair (.sl (.int .u32)) (.unit))) (.pair (.pair (.bool) (.pair (.sl (.int .u32)) (.unit))) (.unit)), false, fun x => quadformref02_Small x.1⟩
noncomputable def quadformref02_Small.o : List En := [quadformref01_Small.en, quadformref02_Whole.en]
noncomputable def quadformref02_Small.oB : List EnB := []
def quadformref02_Small.h : HT := .n
noncomputable def quadformref02_Small.c : Code := Try.f25.body.getD .skip
noncomputable def quadformref02_Small.L : Lam := fun _ i s K => none
theorem quadformref02_Small.os : AllOk prog quadformref02_Small.o := ⟨quadformref01_Small.ok, quadformref02_Whole.ok, trivial⟩
theorem quadformref02_Small.osB : AllBOk prog quadformref02_Small.oB := trivial
theorem quadformref02_Small.hk (x) : semK env (orc quadformref02_Small.o) (orcB quadformref02_Small.oB) 6 (quadformref02_Small.L _) quadformref02_Small.c quadformref02_Small.h (S.init (avs [.int .i64] x)) (fin env Try.f25 ⟨[.int .i64], .pair (.pair (.bool) (.pair (.sl (.int .u32)) (.unit))) (.pair (.pair (.bool) (.pair (.sl (.int .u32)) (.unit))) (.unit)), false, false⟩) = quadformref02_Small.en.g x := by kernel_rfl
theorem quadformref02_Small.ok : EnOk prog quadformref02_Small.en := by
  refine fun_ok (g := ⟨[.int .i64], .pair (.pair (.bool) (.pair (.sl (.int .u32)) (.unit))) (.pair (.pair (.bool) (.pair (.sl (.int .u32)) (.unit))) (.unit)), false, false⟩) (h := quadformref02_Small.h) (Λ := quadformref02_Small.L) tabs quadformref02_Small.os quadformref02_Small.osB Try.func25 (c := quadformref02_Small.c) (by kernel_rfl) (by decide +kernel) (by decide +kernel) (fun C hC => ?_) (fun x => quadformref02_Small.hk x)
  exact by
    have e : loops quadformref02_Small.c quadformref02_Small.h = [] := by kernel_rfl
    rw [e]
    exact LamOk.nil
noncomputable def quadformref01_Sign.j2  : Option (Int) :=
  (some (1 : Int))
noncomputable def quadformref01_Sign.j1  : Option (Int) :=
  (quadformref01_Sign.j2)
noncomputable def quadformref01_Sign (t0 : Bool × List Int × Unit) : Option (Int) :=
  ((quadformref01_trim t0.2.1).bind fun y1 =>
  (cond ((((List.length y1 : Nat) : Int) == (0 : Int)))
  ((some (0 : Int)))
  ((cond (t0.1)
  ((some (-1 : Int)))
  ((quadformref01_Sign.j1))))))
noncomputable def quadformref01_Sign.en : En := ⟨42, [.pair (.bool) (.pair (.sl (.int .u32)) (.unit))], .int .i64, false, fun x => quadformref01_Sign x.1⟩
noncomputable def quadformref01_Sign.o : List En := [quadformref01_trim.en]
noncomputable def quadformref01_Sign.oB : List EnB := []
def quadformref01_Sign.h : HT := .n
noncomputable def quadformref01_Sign.c : Code := Try.f42.body.getD .skip
noncomputable def quadformref01_Sign.L : Lam := fun _ i s K => none
theorem quadformref01_Sign.os : AllOk prog quadformref01_Sign.o := ⟨quadformref01_trim.ok, trivial⟩
theorem quadformref01_Sign.osB : AllBOk prog quadformref01_Sign.oB := trivial
theorem quadformref01_Sign.hk (x) : semK env (orc quadformref01_Sign.o) (orcB quadformref01_Sign.oB) 12 (quadformref01_Sign.L _) quadformref01_Sign.c quadformref01_Sign.h (S.init (avs [.pair (.bool) (.pair (.sl (.int .u32)) (.unit))] x)) (fin env Try.f42 ⟨[.pair (.bool) (.pair (.sl (.int .u32)) (.unit))], .int .i64, false, false⟩) = quadformref01_Sign.en.g x := by kernel_rfl
theorem quadformref01_Sign.ok : EnOk prog quadformref01_Sign.en := by
  refine fun_ok (g := ⟨[.pair (.bool) (.pair (.sl (.int .u32)) (.unit))], .int .i64, false, false⟩) (h := quadformref01_Sign.h) (Λ := quadformref01_Sign.L) tabs quadformref01_Sign.os quadformref01_Sign.osB Try.func42 (c := quadformref01_Sign.c) (by kernel_rfl) (by decide +kernel) (by decide +kernel) (fun C hC => ?_) (fun x => quadformref01_Sign.hk x)
  exact by
    have e : loops quadformref01_Sign.c quadformref01_Sign.h = [] := by kernel_rfl
    rw [e]
    exact LamOk.nil
noncomputable def quadformref01_Neg (t0 : Bool × List Int × Unit) : Option (Bool × List Int × Unit) :=
  ((quadformref01_Make (!t0.1) t0.2.1).bind fun y1 =>
  (some (y1.1, (y1.2.1, ()))))
noncomputable def quadformref01_Neg.en : En := ⟨100, [.pair (.bool) (.pair (.sl (.int .u32)) (.unit))], .pair (.bool) (.pair (.sl (.int .u32)) (.unit)), false, fun x => quadformref01_Neg x.1⟩
noncomputable def quadformref01_Neg.o : List En := [quadformref01_Make.en]
noncomputable def quadformref01_Neg.oB : List EnB := []
def quadformref01_Neg.h : HT := .n
noncomputable def quadformref01_Neg.c : Code := Try.f100.body.getD .skip
noncomputable def quadformref01_Neg.L : Lam := fun _ i s K => none
theorem quadformref01_Neg.os : AllOk prog quadformref01_Neg.o := ⟨quadformref01_Make.ok, trivial⟩
theorem quadformref01_Neg.osB : AllBOk prog quadformref01_Neg.oB := trivial
theorem quadformref01_Neg.hk (x) : semK env (orc quadformref01_Neg.o) (orcB quadformref01_Neg.oB) 9 (quadformref01_Neg.L _) quadformref01_Neg.c quadformref01_Neg.h (S.init (avs [.pair (.bool) (.pair (.sl (.int .u32)) (.unit))] x)) (fin env Try.f100 ⟨[.pair (.bool) (.pair (.sl (.int .u32)) (.unit))], .pair (.bool) (.pair (.sl (.int .u32)) (.unit)), false, false⟩) = quadformref01_Neg.en.g x := by kernel_rfl
theorem quadformref01_Neg.ok : EnOk prog quadformref01_Neg.en := by
  refine fun_ok (g := ⟨[.pair (.bool) (.pair (.sl (.int .u32)) (.unit))], .pair (.bool) (.pair (.sl (.int .u32)) (.unit)), false, false⟩) (h := quadformref01_Neg.h) (Λ := quadformref01_Neg.L) tabs quadformref01_Neg.os quadformref01_Neg.osB Try.func100 (c := quadformref01_Neg.c) (by kernel_rfl) (by decide +kernel) (by decide +kernel) (fun C hC => ?_) (fun x => quadformref01_Neg.hk x)
  exact by
    have e : loops quadformref01_Neg.c quadformref01_Neg.h = [] := by kernel_rfl
    rw [e]
    exact LamOk.nil
noncomputable def quadformref01_Abs (t0 : Bool × List Int × Unit) : Option (Bool × List Int × Unit) :=
  ((quadformref01_Make false t0.2.1).bind fun y1 =>
  (some (y1.1, (y1.2.1, ()))))
noncomputable def quadformref01_Abs.en : En := ⟨114, [.pair (.bool) (.pair (.sl (.int .u32)) (.unit))], .pair (.bool) (.pair (.sl (.int .u32)) (.unit)), false, fun x => quadformref01_Abs x.1⟩
noncomputable def quadformref01_Abs.o : List En := [quadformref01_Make.en]
noncomputable def quadformref01_Abs.oB : List EnB := []
def quadformref01_Abs.h : HT := .n
noncomputable def quadformref01_Abs.c : Code := Try.f114.body.getD .skip
noncomputable def quadformref01_Abs.L : Lam := fun _ i s K => none
theorem quadformref01_Abs.os : AllOk prog quadformref01_Abs.o := ⟨quadformref01_Make.ok, trivial⟩
theorem quadformref01_Abs.osB : AllBOk prog quadformref01_Abs.oB := trivial
theorem quadformref01_Abs.hk (x) : semK env (orc quadformref01_Abs.o) (orcB quadformref01_Abs.oB) 6 (quadformref01_Abs.L _) quadformref01_Abs.c quadformref01_Abs.h (S.init (avs [.pair (.bool) (.pair (.sl (.int .u32)) (.unit))] x)) (fin env Try.f114 ⟨[.pair (.bool) (.pair (.sl (.int .u32)) (.unit))], .pair (.bool) (.pair (.sl (.int .u32)) (.unit)), false, false⟩) = quadformref01_Abs.en.g x := by kernel_rfl
theorem quadformref01_Abs.ok : EnOk prog quadformref01_Abs.en := by
  refine fun_ok (g := ⟨[.pair (.bool) (.pair (.sl (.int .u32)) (.unit))], .pair (.bool) (.pair (.sl (.int .u32)) (.unit)), false, false⟩) (h := quadformref01_Abs.h) (Λ := quadformref01_Abs.L) tabs quadformref01_Abs.os quadformref01_Abs.osB Try.func114 (c := quadformref01_Abs.c) (by kernel_rfl) (by decide +kernel) (by decide +kernel) (fun C hC => ?_) (fun x => quadformref01_Abs.hk x)
  exact by
    have e : loops quadformref01_Abs.c quadformref01_Abs.h = [] := by kernel_rfl
    rw [e]
    exact LamOk.nil
noncomputable def quadformref01_cmp.j1  : Option (Int) :=
  (some (1 : Int))
noncomputable def quadformref01_cmp.j4  : Option ((List Int × List Int × Int × Unit) ⊕ ((Unit) ⊕ (Int × Unit))) :=
  (some (.inr (.inr ((1 : Int), ()))))
noncomputable def quadformref01_cmp.j5 (t0 : List Int) (t1 : List Int) (t5 : Int) : Option ((List Int × List Int × Int × Unit) ⊕ ((Unit) ⊕ (Int × Unit))) :=
  (some (.inl (t0, t1, (IntKind.wrap .i64 (t5 - (1 : Int))), ())))
noncomputable def quadformref01_cmp.j3 (t0 : List Int) (t1 : List Int) (t5 : Int) : Option ((List Int × List Int × Int × Unit) ⊕ ((Unit) ⊕ (Int × Unit))) :=
  (cond (inB t5 (List.length t0))
  ((cond (inB t5 (List.length t1))
  ((cond (((List.getD t0 (t5.toNat) (0 : Int)) != (List.getD t1 (t5.toNat) (0 : Int))))
  ((cond (inB t5 (List.length t0))
  ((cond (inB t5 (List.length t1))
  ((cond ((decide ((List.getD t0 (t5.toNat) (0 : Int)) < (List.getD t1 (t5.toNat) (0 : Int)))))
  ((some (.inr (.inr ((-1 : Int), ())))))
  ((quadformref01_cmp.j4))))
  none))
  none))
  ((quadformref01_cmp.j5 t0 t1 t5))))
  none))
  none)
noncomputable def quadformref01_cmp.s0 (t0 : List Int) (t1 : List Int) (t5 : Int) : Option ((List Int × List Int × Int × Unit) ⊕ ((Unit) ⊕ (Int × Unit))) :=
  (cond ((decide (t5 ≥ (0 : Int))))
  ((quadformref01_cmp.j3 t0 t1 t5))
  ((some (.inr (.inl ())))))
noncomputable def quadformref01_cmp.k0_0  : Option (Int) :=
  (some (0 : Int))
noncomputable def quadformref01_cmp.k0_1 (t4 : Int) : Option (Int) :=
  (some t4)
noncomputable def quadformref01_cmp.j2 (t0 : List Int) (t1 : List Int) : Option (Int) :=
  ((iterL (fun x : List Int × List Int × Int × Unit => quadformref01_cmp.s0 x.1 x.2.1 x.2.2.1) (t0, t1, (IntKind.wrap .i64 (((List.length t0 : Nat) : Int) - (1 : Int))), ())).bind fun z => Sum.casesOn z (fun y => quadformref01_cmp.k0_0) (fun z => quadformref01_cmp.k0_1 z.1))
noncomputable def quadformref01_cmp (t0 : List Int) (t1 : List Int) : Option (Int) :=
  (cond ((((List.length t0 : Nat) : Int) != ((List.length t1 : Nat) : Int)))
  ((cond ((decide (((List.length t0 : Nat) : Int) < ((List.length t1 : Nat) : Int))))
  ((some (-1 : Int)))
  ((quadformref01_cmp.j1))))
  ((quadformref01_cmp.j2 t0 t1)))
noncomputable def quadformref01_cmp.en : En := ⟨43, [.sl (.int .u32), .sl (.int .u32)], .int .i64, false, fun x => quadformref01_cmp x.1 x.2.1⟩
noncomputable def quadformref01_cmp.o : List En := []
noncomputable def quadformref01_cmp.oB : List EnB := []
def quadformref01_cmp.h : HT := .two (.n) (.two (.n) (.two (.two (.n) (.lp 0)) (.n)))
noncomputable def quadformref01_cmp.c : Code := Try.f43.body.getD .skip
def quadformref01_cmp.h0 : HT := .n
noncomputable def quadformref01_cmp.c0 : Code := (find (loops quadformref01_cmp.c quadformref01_cmp.h) 0).getD .skip
def quadformref01_cmp.d0 : Fm := [.v 0 (.sl (.int .u32)), .v 1 (.sl (.int .u32)), .v 5 (.int .i64)]
def quadformref01_cmp.x0 : Xs := [(.exit 0, []), (.ret, [.v 4 (.int .i64)])]
noncomputable def quadformref01_cmp.r0 (x : (Fm.ty quadformref01_cmp.d0).den) : Option ((Fm.ty quadformref01_cmp.d0).den ⊕ (Xs.T quadformref01_cmp.x0)) := quadformref01_cmp.s0 x.1 x.2.1 x.2.2.1
noncomputable def quadformref01_cmp.L : Lam := fun _ i s K => cond (Nat.beq i 0) (lamK quadformref01_cmp.d0 quadformref01_cmp.x0 quadformref01_cmp.r0 s K) (none)
theorem quadformref01_cmp.hf0 (x) : roundK env (orc quadformref01_cmp.o) (orcB quadformref01_cmp.oB) 41 quadformref01_cmp.L quadformref01_cmp.c0 quadformref01_cmp.h0 quadformref01_cmp.d0 quadformref01_cmp.x0 x = quadformref01_cmp.r0 x := by kernel_rfl
theorem quadformref01_cmp.os : AllOk prog quadformref01_cmp.o := trivial
theorem quadformref01_cmp.osB : AllBOk prog quadformref01_cmp.oB := trivial
theorem quadformref01_cmp.l0 {C : Ctx} (hC : C.n = 41) : LamAt prog C quadformref01_cmp.L 0 quadformref01_cmp.c0 := by
  intro R s K r hk
  refine loop_ok (D := quadformref01_cmp.d0) (X := quadformref01_cmp.x0) (h := quadformref01_cmp.h0) (f := quadformref01_cmp.r0) tabs (orc_ok _ quadformref01_cmp.os) (orcB_ok _ quadformref01_cmp.osB) (fun x => by rw [hC]; exact quadformref01_cmp.hf0 x) (Λ := quadformref01_cmp.L) ?_ (by kernel_rfl) (by kernel_rfl) (K := K) (s := s) (by exact hk)
  exact by
    have e : loops quadformref01_cmp.c0 quadformref01_cmp.h0 = [] := by kernel_rfl
    rw [e]
    exact LamOk.nil
theorem quadformref01_cmp.hk (x) : semK env (orc quadformref01_cmp.o) (orcB quadformref01_cmp.oB) 41 (quadformref01_cmp.L _) quadformref01_cmp.c quadformref01_cmp.h (S.init (avs [.sl (.int .u32), .sl (.int .u32)] x)) (fin env Try.f43 ⟨[.sl (.int .u32), .sl (.int .u32)], .int .i64, false, false⟩) = quadformref01_cmp.en.g x := by kernel_rfl
theorem quadformref01_cmp.ok : EnOk prog quadformref01_cmp.en := by
  refine fun_ok (g := ⟨[.sl (.int .u32), .sl (.int .u32)], .int .i64, false, false⟩) (h := quadformref01_cmp.h) (Λ := quadformref01_cmp.L) tabs quadformref01_cmp.os quadformref01_cmp.osB Try.func43 (c := quadformref01_cmp.c) (by kernel_rfl) (by decide +kernel) (by decide +kernel) (fun C hC => ?_) (fun x => quadformref01_cmp.hk x)
  exact by
    have e : loops quadformref01_cmp.c quadformref01_cmp.h = [(0, quadformref01_cmp.c0)] := by kernel_rfl
    rw [e]
    exact LamOk.cons (quadformref01_cmp.l0 hC) (LamOk.nil)
noncomputable def quadformref01_sum.j2 (t0 : List Int) (t1 : List Int) (t6 : Int) (t7 : Int) (a46 : List (Int)) : Option ((List Int × List Int × Int × Int × List Int × Unit) ⊕ ((Int × List Int × Unit))) :=
  (cond (decide (List.length a46 + List.length ([(IntKind.wrap .u32 t6)] : List (Int)) ≤ maxL))
  ((some (.inl (t0, t1, (shrI .u64 t6 (32 : Int)), (IntKind.wrap .i64 (t7 + (1 : Int))), (a46 ++ ([(IntKind.wrap .u32 t6)] : List (Int))), ()))))
  none)
noncomputable def quadformref01_sum.j1 (t0 : List Int) (t1 : List Int) (t6 : Int) (t7 : Int) (a46 : List (Int)) : Option ((List Int × List Int × Int × Int × List Int × Unit) ⊕ ((Int × List Int × Unit))) :=
  (cond ((decide (t7 < ((List.length t1 : Nat) : Int))))
  ((cond (inB t7 (List.length t1))
  ((quadformref01_sum.j2 t0 t1 (IntKind.wrap .u64 (t6 + (IntKind.wrap .u64 (List.getD t1 (t7.toNat) (0 : Int))))) t7 a46))
  none))
  ((quadformref01_sum.j2 t0 t1 t6 t7 a46)))
noncomputable def quadformref01_sum.j3 (t0 : List Int) (t1 : List Int) (t6 : Int) (t7 : Int) (a46 : List (Int)) : Option ((List Int × List Int × Int × Int × List Int × Unit) ⊕ ((Int × List Int × Unit))) :=
  (cond ((decide (t7 < ((List.length t0 : Nat) : Int))))
  ((cond (inB t7 (List.length t0))
  ((quadformref01_sum.j1 t0 t1 (IntKind.wrap .u64 (t6 + (IntKind.wrap .u64 (List.getD t0 (t7.toNat) (0 : Int))))) t7 a46))
  none))
  ((quadformref01_sum.j1 t0 t1 t6 t7 a46)))
noncomputable def quadformref01_sum.s0 (t0 : List Int) (t1 : List Int) (t6 : Int) (t7 : Int) (a46 : List (Int)) : Option ((List Int × List Int × Int × Int × List Int × Unit) ⊕ ((Int × List Int × Unit))) :=
  (cond ((decide (t7 < ((List.length t0 : Nat) : Int))))
  ((cond ((decide (t7 < ((List.length t0 : Nat) : Int))))
  ((cond (inB t7 (List.length t0))
  ((quadformref01_sum.j1 t0 t1 (IntKind.wrap .u64 (t6 + (IntKind.wrap .u64 (List.getD t0 (t7.toNat) (0 : Int))))) t7 a46))
  none))
  ((quadformref01_sum.j1 t0 t1 t6 t7 a46))))
  ((cond ((decide (t7 < ((List.length t1 : Nat) : Int))))
  ((quadformref01_sum.j3 t0 t1 t6 t7 a46))
  ((some (.inr (t6, a46, ())))))))
noncomputable def quadformref01_sum.k0 (t6 : Int) (a46 : List (Int)) : Option (List Int) :=
  (cond (decide (List.length a46 + List.length ([(IntKind.wrap .u32 t6)] : List (Int)) ≤ maxL))
  ((some (a46 ++ ([(IntKind.wrap .u32 t6)] : List (Int)))))
  none)
noncomputable def quadformref01_sum (t0 : List Int) (t1 : List Int) : Option (List Int) :=
  ((iterL (fun x : List Int × List Int × Int × Int × List Int × Unit => quadformref01_sum.s0 x.1 x.2.1 x.2.2.1 x.2.2.2.1 x.2.2.2.2.1) (t0, t1, (0 : Int), (0 : Int), ([] : List (Int)), ())).bind fun y => quadformref01_sum.k0 y.1 y.2.1)
noncomputable def quadformref01_sum.en : En := ⟨103, [.sl (.int .u32), .sl (.int .u32)], .sl (.int .u32), false, fun x => quadformref01_sum x.1 x.2.1⟩
noncomputable def quadformref01_sum.o : List En := []
noncomputable def quadformref01_sum.oB : List EnB := []
def quadformref01_sum.h : HT := .two (.n) (.two (.n) (.two (.n) (.two (.two (.n) (.lp 0)) (.n))))
noncomputable def quadformref01_sum.c : Code := Try.f103.body.getD .skip
def quadformref01_sum.h0 : HT := .n
noncomputable def quadformref01_sum.c0 : Code := (find (loops quadformref01_sum.c quadformref01_sum.h) 0).getD .skip
def quadformref01_sum.d0 : Fm := [.v 0 (.sl (.int .u32)), .v 1 (.sl (.int .u32)), .v 6 (.int .u64), .v 7 (.int .i64), .arr 46 89 (.int .u32), .own 5 46]
def quadformref01_sum.x0 : Xs := [(.exit 0, [.v 6 (.int .u64), .arr 46 89 (.int .u32), .own 5 46])]
noncomputable def quadformref01_sum.r0 (x : (Fm.ty quadformref01_sum.d0).den) : Option ((Fm.ty quadformref01_sum.d0).den ⊕ (Xs.T quadformref01_sum.x0)) := quadformref01_sum.s0 x.1 x.2.1 x.2.2.1 x.2.2.2.1 x.2.2.2.2.1
noncomputable def quadformref01_sum.L : Lam := fun _ i s K => cond (Nat.beq i 0) (lamK quadformref01_sum.d0 quadformref01_sum.x0 quadformref01_sum.r0 s K) (none)
theorem quadformref01_sum.hf0 (x) : roundK env (orc quadformref01_sum.o) (orcB quadformref01_sum.oB) 54 quadformref01_sum.L quadformref01_sum.c0 quadformref01_sum.h0 quadformref01_sum.d0 quadformref01_sum.x0 x = quadformref01_sum.r0 x := by kernel_rfl
theorem quadformref01_sum.os : AllOk prog quadformref01_sum.o := trivial
theorem quadformref01_sum.osB : AllBOk prog quadformref01_sum.oB := trivial
theorem quadformref01_sum.l0 {C : Ctx} (hC : C.n = 54) : LamAt prog C quadformref01_sum.L 0 quadformref01_sum.c0 := by
  intro R s K r hk
  refine loop_ok (D := quadformref01_sum.d0) (X := quadformref01_sum.x0) (h := quadformref01_sum.h0) (f := quadformref01_sum.r0) tabs (orc_ok _ quadformref01_sum.os) (orcB_ok _ quadformref01_sum.osB) (fun x => by rw [hC]; exact quadformref01_sum.hf0 x) (Λ := quadformref01_sum.L) ?_ (by kernel_rfl) (by kernel_rfl) (K := K) (s := s) (by exact hk)
  exact by
    have e : loops quadformref01_sum.c0 quadformref01_sum.h0 = [] := by kernel_rfl
    rw [e]
    exact LamOk.nil
theorem quadformref01_sum.hk (x) : semK env (orc quadformref01_sum.o) (orcB quadformref01_sum.oB) 54 (quadformref01_sum.L _) quadformref01_sum.c quadformref01_sum.h (S.init (avs [.sl (.int .u32), .sl (.int .u32)] x)) (fin env Try.f103 ⟨[.sl (.int .u32), .sl (.int .u32)], .sl (.int .u32), false, false⟩) = quadformref01_sum.en.g x := by kernel_rfl
theorem quadformref01_sum.ok : EnOk prog quadformref01_sum.en := by
  refine fun_ok (g := ⟨[.sl (.int .u32), .sl (.int .u32)], .sl (.int .u32), false, false⟩) (h := quadformref01_sum.h) (Λ := quadformref01_sum.L) tabs quadformref01_sum.os quadformref01_sum.osB Try.func103 (c := quadformref01_sum.c) (by kernel_rfl) (by decide +kernel) (by decide +kernel) (fun C hC => ?_) (fun x => quadformref01_sum.hk x)
  exact by
    have e : loops quadformref01_sum.c quadformref01_sum.h = [(0, quadformref01_sum.c0)] := by kernel_rfl
    rw [e]
    exact LamOk.cons (quadformref01_sum.l0 hC) (LamOk.nil)
noncomputable def quadformref01_difference.j3 (t0 : List Int) (t1 : List Int) (t7 : Int) (a37 : List (Int)) : Option ((List Int × List Int × Int × Int × List Int × Unit) ⊕ ((List Int × Unit))) :=
  (some (.inl (t0, t1, (1 : Int), (IntKind.wrap .i64 (t7 + (1 : Int))), a37, ())))
noncomputable def quadformref01_difference.j4 (t0 : List Int) (t1 : List Int) (t7 : Int) (a37 : List (Int)) : Option ((List Int × List Int × Int × Int × List Int × Unit) ⊕ ((List Int × Unit))) :=
  (some (.inl (t0, t1, (0 : Int), (IntKind.wrap .i64 (t7 + (1 : Int))), a37, ())))
noncomputable def quadformref01_difference.j2 (t0 : List Int) (t1 : List Int) (t7 : Int) (t8 : Int) (a37 : List (Int)) : Option ((List Int × List Int × Int × Int × List Int × Unit) ⊕ ((List Int × Unit))) :=
  (cond (inB t7 (List.length t0))
  (let x5 := (IntKind.wrap .u32 (IntKind.wrap .u64 ((IntKind.wrap .u64 (List.getD t0 (t7.toNat) (0 : Int))) - t8)))
  (cond (decide (List.length a37 + List.length ([x5] : List (Int)) ≤ maxL))
  ((cond (inB t7 (List.length t0))
  ((cond ((decide ((IntKind.wrap .u64 (List.getD t0 (t7.toNat) (0 : Int))) < t8)))
  ((quadformref01_difference.j3 t0 t1 t7 (a37 ++ ([x5] : List (Int)))))
  ((quadformref01_difference.j4 t0 t1 t7 (a37 ++ ([x5] : List (Int)))))))
  none))
  none))
  none)
noncomputable def quadformref01_difference.j1 (t0 : List Int) (t1 : List Int) (t6 : Int) (t7 : Int) (a37 : List (Int)) : Option ((List Int × List Int × Int × Int × List Int × Unit) ⊕ ((List Int × Unit))) :=
  (cond ((decide (t7 < ((List.length t1 : Nat) : Int))))
  ((cond (inB t7 (List.length t1))
  ((quadformref01_difference.j2 t0 t1 t7 (IntKind.wrap .u64 (t6 + (IntKind.wrap .u64 (List.getD t1 (t7.toNat) (0 : Int))))) a37))
  none))
  ((quadformref01_difference.j2 t0 t1 t7 t6 a37)))
noncomputable def quadformref01_difference.s0 (t0 : List Int) (t1 : List Int) (t6 : Int) (t7 : Int) (a37 : List (Int)) : Option ((List Int × List Int × Int × Int × List Int × Unit) ⊕ ((List Int × Unit))) :=
  (cond ((decide (t7 < ((List.length t0 : Nat) : Int))))
  ((quadformref01_difference.j1 t0 t1 t6 t7 a37))
  ((some (.inr (a37, ())))))
noncomputable def quadformref01_difference.k0 (a37 : List (Int)) : Option (List Int) :=
  (some a37)
noncomputable def quadformref01_difference (t0 : List Int) (t1 : List Int) : Option (List Int) :=
  ((iterL (fun x : List Int × List Int × Int × Int × List Int × Unit => quadformref01_difference.s0 x.1 x.2.1 x.2.2.1 x.2.2.2.1 x.2.2.2.2.1) (t0, t1, (0 : Int), (0 : Int), ([] : List (Int)), ())).bind fun y => quadformref01_difference.k0 y.1)
noncomputable def quadformref01_difference.en : En := ⟨104, [.sl (.int .u32), .sl (.int .u32)], .sl (.int .u32), false, fun x => quadformref01_difference x.1 x.2.1⟩
noncomputable def quadformref01_difference.o : List En := []
noncomputable def quadformref01_difference.oB : List EnB := []
def quadformref01_difference.h : HT := .two (.n) (.two (.n) (.two (.n) (.two (.two (.n) (.lp 0)) (.n))))
noncomputable def quadformref01_difference.c : Code := Try.f104.body.getD .skip
def quadformref01_difference.h0 : HT := .n
noncomputable def quadformref01_difference.c0 : Code := (find (loops quadformref01_difference.c quadformref01_difference.h) 0).getD .skip
def quadformref01_difference.d0 : Fm := [.v 0 (.sl (.int .u32)), .v 1 (.sl (.int .u32)), .v 6 (.int .u64), .v 7 (.int .i64), .arr 37 89 (.int .u32), .own 5 37]
def quadformref01_difference.x0 : Xs := [(.exit 0, [.arr 37 89 (.int .u32), .own 5 37])]
noncomputable def quadformref01_difference.r0 (x : (Fm.ty quadformref01_difference.d0).den) : Option ((Fm.ty quadformref01_difference.d0).den ⊕ (Xs.T quadformref01_difference.x0)) := quadformref01_difference.s0 x.1 x.2.1 x.2.2.1 x.2.2.2.1 x.2.2.2.2.1
noncomputable def quadformref01_difference.L : Lam := fun _ i s K => cond (Nat.beq i 0) (lamK quadformref01_difference.d0 quadformref01_difference.x0 quadformref01_difference.r0 s K) (none)
theorem quadformref01_difference.hf0 (x) : roundK env (orc quadformref01_difference.o) (orcB quadformref01_difference.oB) 46 quadformref01_difference.L quadformref01_difference.c0 quadformref01_difference.h0 quadformref01_difference.d0 quadformref01_difference.x0 x = quadformref01_difference.r0 x := by kernel_rfl
theorem quadformref01_difference.os : AllOk prog quadformref01_difference.o := trivial
theorem quadformref01_difference.osB : AllBOk prog quadformref01_difference.oB := trivial
theorem quadformref01_difference.l0 {C : Ctx} (hC : C.n = 46) : LamAt prog C quadformref01_difference.L 0 quadformref01_difference.c0 := by
  intro R s K r hk
  refine loop_ok (D := quadformref01_difference.d0) (X := quadformref01_difference.x0) (h := quadformref01_difference.h0) (f := quadformref01_difference.r0) tabs (orc_ok _ quadformref01_difference.os) (orcB_ok _ quadformref01_difference.osB) (fun x => by rw [hC]; exact quadformref01_difference.hf0 x) (Λ := quadformref01_difference.L) ?_ (by kernel_rfl) (by kernel_rfl) (K := K) (s := s) (by exact hk)
  exact by
    have e : loops quadformref01_difference.c0 quadformref01_difference.h0 = [] := by kernel_rfl
    rw [e]
    exact LamOk.nil
theorem quadformref01_difference.hk (x) : semK env (orc quadformref01_difference.o) (orcB quadformref01_difference.oB) 46 (quadformref01_difference.L _) quadformref01_difference.c quadformref01_difference.h (S.init (avs [.sl (.int .u32), .sl (.int .u32)] x)) (fin env Try.f104 ⟨[.sl (.int .u32), .sl (.int .u32)], .sl (.int .u32), false, false⟩) = quadformref01_difference.en.g x := by kernel_rfl
theorem quadformref01_difference.ok : EnOk prog quadformref01_difference.en := by
  refine fun_ok (g := ⟨[.sl (.int .u32), .sl (.int .u32)], .sl (.int .u32), false, false⟩) (h := quadformref01_difference.h) (Λ := quadformref01_difference.L) tabs quadformref01_difference.os quadformref01_difference.osB Try.func104 (c := quadformref01_difference.c) (by kernel_rfl) (by decide +kernel) (by decide +kernel) (fun C hC => ?_) (fun x => quadformref01_difference.hk x)
  exact by
    have e : loops quadformref01_difference.c quadformref01_difference.h = [(0, quadformref01_difference.c0)] := by kernel_rfl
    rw [e]
    exact LamOk.cons (quadformref01_difference.l0 hC) (LamOk.nil)
noncomputable def quadformref01_Add.j2 (t5 : List Int) (t6 : List Int) (b3_0 : Bool) (b3_1 : List Int) (b4_1 : List Int) : Option (Bool × List Int × Unit) :=
  ((quadformref01_difference t6 t5).bind fun y8 =>
  ((quadformref01_Make b3_0 y8).bind fun y9 =>
  (some (y9.1, (y9.2.1, ())))))
noncomputable def quadformref01_Add.j1 (t5 : List Int) (t6 : List Int) (b2_0 : Bool) (b2_1 : List Int) (b3_0 : Bool) (b3_1 : List Int) (b4_1 : List Int) : Option (Bool × List Int × Unit) :=
  ((quadformref01_cmp t5 t6).bind fun y5 =>
  (cond ((decide (y5 ≥ (0 : Int))))
  (((quadformref01_difference t5 t6).bind fun y6 =>
  ((quadformref01_Make b2_0 y6).bind fun y7 =>
  (some (y7.1, (y7.2.1, ()))))))
  ((quadformref01_Add.j2 t5 t6 b3_0 b3_1 b4_1))))
noncomputable def quadformref01_Add (t0 : Bool × List Int × Unit) (t1 : Bool × List Int × Unit) : Option (Bool × List Int × Unit) :=
  ((quadformref01_trim t0.2.1).bind fun y1 =>
  ((quadformref01_trim t1.2.1).bind fun y2 =>
  (cond ((t0.1 == t1.1))
  (((quadformref01_sum y1 y2).bind fun y3 =>
  ((quadformref01_Make t0.1 y3).bind fun y4 =>
  (some (y4.1, (y4.2.1, ()))))))
  ((quadformref01_Add.j1 y1 y2 t0.1 t0.2.1 t1.1 t1.2.1 ([] : List Int))))))
noncomputable def quadformref01_Add.en : En := ⟨65, [.pair (.bool) (.pair (.sl (.int .u32)) (.unit)), .pair (.bool) (.pair (.sl (.int .u32)) (.unit))], .pair (.bool) (.pair (.sl (.int .u32)) (.unit)), false, fun x => quadformref01_Add x.1 x.2.1⟩
noncomputable def quadformref01_Add.o : List En := [quadformref01_cmp.en, quadformref01_trim.en, quadformref01_Make.en, quadformref01_sum.en, quadformref01_difference.en]
noncomputable def quadformref01_Add.oB : List EnB := []
def quadformref01_Add.h : HT := .n
noncomputable def quadformref01_Add.c : Code := Try.f65.body.getD .skip
noncomputable def quadformref01_Add.L : Lam := fun _ i s K => none
theorem quadformref01_Add.os : AllOk prog quadformref01_Add.o := ⟨quadformref01_cmp.ok, quadformref01_trim.ok, quadformref01_Make.ok, quadformref01_sum.ok, quadformref01_difference.ok, trivial⟩
theorem quadformref01_Add.osB : AllBOk prog quadformref01_Add.oB := trivial
theorem quadformref01_Add.hk (x) : semK env (orc quadformref01_Add.o) (orcB quadformref01_Add.oB) 40 (quadformref01_Add.L _) quadformref01_Add.c quadformref01_Add.h (S.init (avs [.pair (.bool) (.pair (.sl (.int .u32)) (.unit)), .pair (.bool) (.pair (.sl (.int .u32)) (.unit))] x)) (fin env Try.f65 ⟨[.pair (.bool) (.pair (.sl (.int .u32)) (.unit)), .pair (.bool) (.pair (.sl (.int .u32)) (.unit))], .pair (.bool) (.pair (.sl (.int .u32)) (.unit)), false, false⟩) = quadformref01_Add.en.g x := by kernel_rfl
theorem quadformref01_Add.ok : EnOk prog quadformref01_Add.en := by
  refine fun_ok (g := ⟨[.pair (.bool) (.pair (.sl (.int .u32)) (.unit)), .pair (.bool) (.pair (.sl (.int .u32)) (.unit))], .pair (.bool) (.pair (.sl (.int .u32)) (.unit)), false, false⟩) (h := quadformref01_Add.h) (Λ := quadformref01_Add.L) tabs quadformref01_Add.os quadformref01_Add.osB Try.func65 (c := quadformref01_Add.c) (by kernel_rfl) (by decide +kernel) (by decide +kernel) (fun C hC => ?_) (fun x => quadformref01_Add.hk x)
  exact by
    have e : loops quadformref01_Add.c quadformref01_Add.h = [] := by kernel_rfl
    rw [e]
    exact LamOk.nil
noncomputable def quadformref01_low.j1 (t0 : List Int) (t3 : Int) (t4 : Int) : Option ((List Int × Int × Int × Unit) ⊕ ((Int × Unit))) :=
  (cond (inB t4 (List.length t0))
  ((cond (decide ((IntKind.wrap .i64 ((32 : Int) * t4)) < 0))
  none
  ((some (.inl (t0, (orI .u64 t3 (shlI .u64 (IntKind.wrap .u64 (List.getD t0 (t4.toNat) (0 : Int))) (IntKind.wrap .i64 ((32 : Int) * t4)))), (IntKind.wrap .i64 (t4 + (1 : Int))), ()))))))
  none)
noncomputable def quadformref01_low.s0 (t0 : List Int) (t3 : Int) (t4 : Int) : Option ((List Int × Int × Int × Unit) ⊕ ((Int × Unit))) :=
  (cond ((decide (t4 < ((List.length t0 : Nat) : Int))))
  ((cond ((decide (t4 < (2 : Int))))
  ((quadformref01_low.j1 t0 t3 t4))
  ((some (.inr (t3, ()))))))
  ((some (.inr (t3, ())))))
noncomputable def quadformref01_low.k0 (t3 : Int) : Option (Int) :=
  (some t3)
noncomputable def quadformref01_low (t0 : List Int) : Option (Int) :=
  ((iterL (fun x : List Int × Int × Int × Unit => quadformref01_low.s0 x.1 x.2.1 x.2.2.1) (t0, (0 : Int), (0 : Int), ())).bind fun y => quadformref01_low.k0 y.1)
noncomputable def quadformref01_low.en : En := ⟨125, [.sl (.int .u32)], .int .u64, false, fun x => quadformref01_low x.1⟩
noncomputable def quadformref01_low.o : List En := []
noncomputable def quadformref01_low.oB : List EnB := []
def quadformref01_low.h : HT := .two (.n) (.two (.n) (.two (.two (.n) (.lp 0)) (.n)))
noncomputable def quadformref01_low.c : Code := Try.f125.body.getD .skip
def quadformref01_low.h0 : HT := .n
noncomputable def quadformref01_low.c0 : Code := (find (loops quadformref01_low.c quadformref01_low.h) 0).getD .skip
def quadformref01_low.d0 : Fm := [.v 0 (.sl (.int .u32)), .v 3 (.int .u64), .v 4 (.int .i64)]
def quadformref01_low.x0 : Xs := [(.exit 0, [.v 3 (.int .u64)])]
noncomputable def quadformref01_low.r0 (x : (Fm.ty quadformref01_low.d0).den) : Option ((Fm.ty quadformref01_low.d0).den ⊕ (Xs.T quadformref01_low.x0)) := quadformref01_low.s0 x.1 x.2.1 x.2.2.1
noncomputable def quadformref01_low.L : Lam := fun _ i s K => cond (Nat.beq i 0) (lamK quadformref01_low.d0 quadformref01_low.x0 quadformref01_low.r0 s K) (none)
theorem quadformref01_low.hf0 (x) : roundK env (orc quadformref01_low.o) (orcB quadformref01_low.oB) 26 quadformref01_low.L quadformref01_low.c0 quadformref01_low.h0 quadformref01_low.d0 quadformref01_low.x0 x = quadformref01_low.r0 x := by kernel_rfl
theorem quadformref01_low.os : AllOk prog quadformref01_low.o := trivial
theorem quadformref01_low.osB : AllBOk prog quadformref01_low.oB := trivial
theorem quadformref01_low.l0 {C : Ctx} (hC : C.n = 26) : LamAt prog C quadformref01_low.L 0 quadformref01_low.c0 := by
  intro R s K r hk
  refine loop_ok (D := quadformref01_low.d0) (X := quadformref01_low.x0) (h := quadformref01_low.h0) (f := quadformref01_low.r0) tabs (orc_ok _ quadformref01_low.os) (orcB_ok _ quadformref01_low.osB) (fun x => by rw [hC]; exact quadformref01_low.hf0 x) (Λ := quadformref01_low.L) ?_ (by kernel_rfl) (by kernel_rfl) (K := K) (s := s) (by exact hk)
  exact by
    have e : loops quadformref01_low.c0 quadformref01_low.h0 = [] := by kernel_rfl
    rw [e]
    exact LamOk.nil
theorem quadformref01_low.hk (x) : semK env (orc quadformref01_low.o) (orcB quadformref01_low.oB) 26 (quadformref01_low.L _) quadformref01_low.c quadformref01_low.h (S.init (avs [.sl (.int .u32)] x)) (fin env Try.f125 ⟨[.sl (.int .u32)], .int .u64, false, false⟩) = quadformref01_low.en.g x := by kernel_rfl
theorem quadformref01_low.ok : EnOk prog quadformref01_low.en := by
  refine fun_ok (g := ⟨[.sl (.int .u32)], .int .u64, false, false⟩) (h := quadformref01_low.h) (Λ := quadformref01_low.L) tabs quadformref01_low.os quadformref01_low.osB Try.func125 (c := quadformref01_low.c) (by kernel_rfl) (by decide +kernel) (by decide +kernel) (fun C hC => ?_) (fun x => quadformref01_low.hk x)
  exact by
    have e : loops quadformref01_low.c quadformref01_low.h = [(0, quadformref01_low.c0)] := by kernel_rfl
    rw [e]
    exact LamOk.cons (quadformref01_low.l0 hC) (LamOk.nil)
noncomputable def quadformref01_double.j1 (t1 : Int) (t8 : List Int) (t9 : Int) (t10 : Int) (a20 : List (Int)) : Option ((Int × List Int × Int × Int × List Int × Unit) ⊕ ((Int × List Int × Unit))) :=
  (cond (inB t10 (List.length t8))
  (let x1 := (shlI .u32 (List.getD t8 (t10.toNat) (0 : Int)) (1 : Int))
  (cond (decide (List.length a20 + List.length ([(orI .u32 x1 t1)] : List (Int)) ≤ maxL))
  ((some (.inl ((shrI .u32 (List.getD t8 (t10.toNat) (0 : Int)) (31 : Int)), t8, t9, (IntKind.wrap .i64 (t10 + (1 : Int))), (a20 ++ ([(orI .u32 x1 t1)] : List (Int))), ()))))
  none))
  none)
noncomputable def quadformref01_double.s0 (t1 : Int) (t8 : List Int) (t9 : Int) (t10 : Int) (a20 : List (Int)) : Option ((Int × List Int × Int × Int × List Int × Unit) ⊕ ((Int × List Int × Unit))) :=
  (cond ((decide (t10 < t9)))
  ((quadformref01_double.j1 t1 t8 t9 t10 a20))
  ((some (.inr (t1, a20, ())))))
noncomputable def quadformref01_double.k0 (t1 : Int) (a20 : List (Int)) : Option (List Int) :=
  (cond (decide (List.length a20 + List.length ([t1] : List (Int)) ≤ maxL))
  ((some (a20 ++ ([t1] : List (Int)))))
  none)
noncomputable def quadformref01_double (t0 : List Int) (t1 : Int) : Option (List Int) :=
  ((iterL (fun x : Int × List Int × Int × Int × List Int × Unit => quadformref01_double.s0 x.1 x.2.1 x.2.2.1 x.2.2.2.1 x.2.2.2.2.1) (t1, t0, ((List.length t0 : Nat) : Int), (0 : Int), ([] : List (Int)), ())).bind fun y => quadformref01_double.k0 y.1 y.2.1)
noncomputable def quadformref01_double.en : En := ⟨126, [.sl (.int .u32), .int .u32], .sl (.int .u32), false, fun x => quadformref01_double x.1 x.2.1⟩
noncomputable def quadformref01_double.o : List En := []
noncomputable def quadformref01_double.oB : List EnB := []
def quadformref01_double.h : HT := .two (.n) (.two (.n) (.two (.two (.n) (.lp 0)) (.n)))
noncomputable def quadformref01_double.c : Code := Try.f126.body.getD .skip
def quadformref01_double.h0 : HT := .n
noncomputable def quadformref01_double.c0 : Code := (find (loops quadformref01_double.c quadformref01_double.h) 0).getD .skip
def quadformref01_double.d0 : Fm := [.v 1 (.int .u32), .v 8 (.sl (.int .u32)), .v 9 (.int .i64), .v 10 (.int .i64), .arr 20 89 (.int .u32), .own 5 20]
def quadformref01_double.x0 : Xs := [(.exit 0, [.v 1 (.int .u32), .arr 20 89 (.int .u32), .own 5 20])]
noncomputable def quadformref01_double.r0 (x : (Fm.ty quadformref01_double.d0).den) : Option ((Fm.ty quadformref01_double.d0).den ⊕ (Xs.T quadformref01_double.x0)) := quadformref01_double.s0 x.1 x.2.1 x.2.2.1 x.2.2.2.1 x.2.2.2.2.1
noncomputable def quadformref01_double.L : Lam := fun _ i s K => cond (Nat.beq i 0) (lamK quadformref01_double.d0 quadformref01_double.x0 quadformref01_double.r0 s K) (none)
theorem quadformref01_double.hf0 (x) : roundK env (orc quadformref01_double.o) (orcB quadformref01_double.oB) 28 quadformref01_double.L quadformref01_double.c0 quadformref01_double.h0 quadformref01_double.d0 quadformref01_double.x0 x = quadformref01_double.r0 x := by kernel_rfl
theorem quadformref01_double.os : AllOk prog quadformref01_double.o := trivial
theorem quadformref01_double.osB : AllBOk prog quadformref01_double.oB := trivial
theorem quadformref01_double.l0 {C : Ctx} (hC : C.n = 28) : LamAt prog C quadformref01_double.L 0 quadformref01_double.c0 := by
  intro R s K r hk
  refine loop_ok (D := quadformref01_double.d0) (X := quadformref01_double.x0) (h := quadformref01_double.h0) (f := quadformref01_double.r0) tabs (orc_ok _ quadformref01_double.os) (orcB_ok _ quadformref01_double.osB) (fun x => by rw [hC]; exact quadformref01_double.hf0 x) (Λ := quadformref01_double.L) ?_ (by kernel_rfl) (by kernel_rfl) (K := K) (s := s) (by exact hk)
  exact by
    have e : loops quadformref01_double.c0 quadformref01_double.h0 = [] := by kernel_rfl
    rw [e]
    exact LamOk.nil
theorem quadformref01_double.hk (x) : semK env (orc quadformref01_double.o) (orcB quadformref01_double.oB) 28 (quadformref01_double.L _) quadformref01_double.c quadformref01_double.h (S.init (avs [.sl (.int .u32), .int .u32] x)) (fin env Try.f126 ⟨[.sl (.int .u32), .int .u32], .sl (.int .u32), false, false⟩) = quadformref01_double.en.g x := by kernel_rfl
theorem quadformref01_double.ok : EnOk prog quadformref01_double.en := by
  refine fun_ok (g := ⟨[.sl (.int .u32), .int .u32], .sl (.int .u32), false, false⟩) (h := quadformref01_double.h) (Λ := quadformref01_double.L) tabs quadformref01_double.os quadformref01_double.osB Try.func126 (c := quadformref01_double.c) (by kernel_rfl) (by decide +kernel) (by decide +kernel) (fun C hC => ?_) (fun x => quadformref01_double.hk x)
  exact by
    have e : loops quadformref01_double.c quadformref01_double.h = [(0, quadformref01_double.c0)] := by kernel_rfl
    rw [e]
    exact LamOk.cons (quadformref01_double.l0 hC) (LamOk.nil)
noncomputable def quadformref01_divide.j3 (t0 : List Int) (t1 : List Int) (t5 : List Int) (t8 : Int) (a33 : List (Int)) : Option ((List Int × List Int × List Int × Int × List Int × Unit) ⊕ ((List Int × List Int × Unit))) :=
  (some (.inl (t0, t1, t5, (IntKind.wrap .i64 (t8 - (1 : Int))), a33, ())))
noncomputable def quadformref01_divide.j2 (t0 : List Int) (t1 : List Int) (t5 : List Int) (t8 : Int) (a33 : List (Int)) : Option ((List Int × List Int × List Int × Int × List Int × Unit) ⊕ ((List Int × List Int × Unit))) :=
  let x8 := (IntKind.wrap .i64 (Int.tdiv t8 (32 : Int)))
  (cond (inB x8 (List.length t0))
  ((cond (decide ((Int.tmod t8 (32 : Int)) < 0))
  none
  (((quadformref01_double t5 (andI .u32 (shrI .u32 (List.getD t0 (x8.toNat) (0 : Int)) (Int.tmod t8 (32 : Int))) (1 : Int))).bind fun y10 =>
  ((quadformref01_trim y10).bind fun y11 =>
  ((quadformref01_cmp y11 t1).bind fun y12 =>
  (cond ((decide (y12 ≥ (0 : Int))))
  (((quadformref01_difference y11 t1).bind fun y13 =>
  ((quadformref01_trim y13).bind fun y14 =>
  let x15 := (IntKind.wrap .i64 (Int.tdiv t8 (32 : Int)))
  (cond (inB x15 (List.length a33))
  ((cond (decide ((Int.tmod t8 (32 : Int)) < 0))
  none
  ((cond (inB x15 (List.length a33))
  ((quadformref01_divide.j3 t0 t1 y14 t8 (List.set a33 ((0 + x15.toNat)) (orI .u32 (List.getD a33 ((0 + x15.toNat)) (0 : Int)) (shlI .u32 (1 : Int) (Int.tmod t8 (32 : Int)))))))
  none))))
  none))))
  ((quadformref01_divide.j3 t0 t1 y11 t8 a33)))))))))
  none)
noncomputable def quadformref01_divide.s0 (t0 : List Int) (t1 : List Int) (t5 : List Int) (t8 : Int) (a33 : List (Int)) : Option ((List Int × List Int × List Int × Int × List Int × Unit) ⊕ ((List Int × List Int × Unit))) :=
  (cond ((decide (t8 ≥ (0 : Int))))
  ((quadformref01_divide.j2 t0 t1 t5 t8 a33))
  ((some (.inr (t5, a33, ())))))
noncomputable def quadformref01_divide.k0 (t5 : List Int) (a33 : List (Int)) : Option (List Int × List Int × Unit) :=
  ((quadformref01_trim a33).bind fun y19 =>
  (some (y19, (t5, ()))))
noncomputable def quadformref01_divide.j1 (t0 : List Int) (t1 : List Int) : Option (List Int × List Int × Unit) :=
  (cond (inC ((List.length t0 : Nat) : Int) maxL)
  (((iterL (fun x : List Int × List Int × List Int × Int × List Int × Unit => quadformref01_divide.s0 x.1 x.2.1 x.2.2.1 x.2.2.2.1 x.2.2.2.2.1) (t0, t1, ([] : List Int), (IntKind.wrap .i64 ((IntKind.wrap .i64 ((32 : Int) * ((List.length t0 : Nat) : Int))) - (1 : Int))), (List.replicate ((((List.length t0 : Nat) : Int)).toNat) ((0 : Int) : Int)), ())).bind fun y => quadformref01_divide.k0 y.1 y.2.1))
  none)
noncomputable def quadformref01_divide (t0 : List Int) (t1 : List Int) : Option (List Int × List Int × Unit) :=
  (cond ((decide (((List.length t0 : Nat) : Int) ≤ (2 : Int))))
  ((cond ((decide (((List.length t1 : Nat) : Int) ≤ (2 : Int))))
  (((quadformref01_low t0).bind fun y3 =>
  ((quadformref01_low t1).bind fun y4 =>
  (cond (decide (y4 = 0))
  none
  (((quadformref01_word false (IntKind.wrap .u64 (Int.tdiv y3 y4))).bind fun y5 =>
  (cond (decide (y4 = 0))
  none
  (((quadformref01_word false (Int.tmod y3 y4)).bind fun y6 =>
  (some (y5.2.1, (y6.2.1, ()))))))))))))
  ((quadformref01_divide.j1 t0 t1))))
  ((cond (inC ((List.length t0 : Nat) : Int) maxL)
  (((iterL (fun x : List Int × List Int × List Int × Int × List Int × Unit => quadformref01_divide.s0 x.1 x.2.1 x.2.2.1 x.2.2.2.1 x.2.2.2.2.1) (t0, t1, ([] : List Int), (IntKind.wrap .i64 ((IntKind.wrap .i64 ((32 : Int) * ((List.length t0 : Nat) : Int))) - (1 : Int))), (List.replicate ((((List.length t0 : Nat) : Int)).toNat) ((0 : Int) : Int)), ())).bind fun y => quadformref01_divide.k0 y.1 y.2.1))
  none)))
noncomputable def quadformref01_divide.en : En := ⟨119, [.sl (.int .u32), .sl (.int .u32)], .pair (.sl (.int .u32)) (.pair (.sl (.int .u32)) (.unit)), true, fun x => quadformref01_divide x.1 x.2.1⟩
noncomputable def quadformref01_divide.o : List En := [quadformref01_cmp.en, quadformref01_trim.en, quadformref01_word.en, quadformref01_difference.en, quadformref01_low.en, quadformref01_double.en]
noncomputable def quadformref01_divide.oB : List EnB := []
def quadformref01_divide.h : HT := .two (.n) (.two (.n) (.two (.n) (.two (.two (.n) (.lp 0)) (.two (.fr [33] []) (.n)))))
noncomputable def quadformref01_divide.c : Code := Try.f119.body.getD .skip
def quadformref01_divide.h0 : HT := .n
noncomputable def quadformref01_divide.c0 : Code := (find (loops quadformref01_divide.c quadformref01_divide.h) 0).getD .skip
def quadformref01_divide.d0 : Fm := [.v 0 (.sl (.int .u32)), .v 1 (.sl (.int .u32)), .v 5 (.sl (.int .u32)), .v 8 (.int .i64), .arr 33 89 (.int .u32), .own 4 33]
def quadformref01_divide.x0 : Xs := [(.exit 0, [.v 5 (.sl (.int .u32)), .arr 33 89 (.int .u32), .own 4 33])]
noncomputable def quadformref01_divide.r0 (x : (Fm.ty quadformref01_divide.d0).den) : Option ((Fm.ty quadformref01_divide.d0).den ⊕ (Xs.T quadformref01_divide.x0)) := quadformref01_divide.s0 x.1 x.2.1 x.2.2.1 x.2.2.2.1 x.2.2.2.2.1
noncomputable def quadformref01_divide.L : Lam := fun _ i s K => cond (Nat.beq i 0) (lamK quadformref01_divide.d0 quadformref01_divide.x0 quadformref01_divide.r0 s K) (none)
theorem quadformref01_divide.hf0 (x) : roundK env (orc quadformref01_divide.o) (orcB quadformref01_divide.oB) 75 quadformref01_divide.L quadformref01_divide.c0 quadformref01_divide.h0 quadformref01_divide.d0 quadformref01_divide.x0 x = quadformref01_divide.r0 x := by kernel_rfl
theorem quadformref01_divide.os : AllOk prog quadformref01_divide.o := ⟨quadformref01_cmp.ok, quadformref01_trim.ok, quadformref01_word.ok, quadformref01_difference.ok, quadformref01_low.ok, quadformref01_double.ok, trivial⟩
theorem quadformref01_divide.osB : AllBOk prog quadformref01_divide.oB := trivial
theorem quadformref01_divide.l0 {C : Ctx} (hC : C.n = 75) : LamAt prog C quadformref01_divide.L 0 quadformref01_divide.c0 := by
  intro R s K r hk
  refine loop_ok (D := quadformref01_divide.d0) (X := quadformref01_divide.x0) (h := quadformref01_divide.h0) (f := quadformref01_divide.r0) tabs (orc_ok _ quadformref01_divide.os) (orcB_ok _ quadformref01_divide.osB) (fun x => by rw [hC]; exact quadformref01_divide.hf0 x) (Λ := quadformref01_divide.L) ?_ (by kernel_rfl) (by kernel_rfl) (K := K) (s := s) (by exact hk)
  exact by
    have e : loops quadformref01_divide.c0 quadformref01_divide.h0 = [] := by kernel_rfl
    rw [e]
    exact LamOk.nil
theorem quadformref01_divide.hk (x) : semK env (orc quadformref01_divide.o) (orcB quadformref01_divide.oB) 75 (quadformref01_divide.L _) quadformref01_divide.c quadformref01_divide.h (S.init (avs [.sl (.int .u32), .sl (.int .u32)] x)) (fin env Try.f119 ⟨[.sl (.int .u32), .sl (.int .u32)], .pair (.sl (.int .u32)) (.pair (.sl (.int .u32)) (.unit)), true, false⟩) = quadformref01_divide.en.g x := by kernel_rfl
theorem quadformref01_divide.ok : EnOk prog quadformref01_divide.en := by
  refine fun_ok (g := ⟨[.sl (.int .u32), .sl (.int .u32)], .pair (.sl (.int .u32)) (.pair (.sl (.int .u32)) (.unit)), true, false⟩) (h := quadformref01_divide.h) (Λ := quadformref01_divide.L) tabs quadformref01_divide.os quadformref01_divide.osB Try.func119 (c := quadformref01_divide.c) (by kernel_rfl) (by decide +kernel) (by decide +kernel) (fun C hC => ?_) (fun x => quadformref01_divide.hk x)
  exact by
    have e : loops quadformref01_divide.c quadformref01_divide.h = [(0, quadformref01_divide.c0)] := by kernel_rfl
    rw [e]
    exact LamOk.cons (quadformref01_divide.l0 hC) (LamOk.nil)
noncomputable def quadformref01_Sub (t0 : Bool × List Int × Unit) (t1 : Bool × List Int × Unit) : Option (Bool × List Int × Unit) :=
  ((quadformref01_Neg (t1.1, (t1.2.1, ()))).bind fun y1 =>
  ((quadformref01_Add (t0.1, (t0.2.1, ())) y1).bind fun y2 =>
  (some (y2.1, (y2.2.1, ())))))
noncomputable def quadformref01_Sub.en : En := ⟨120, [.pair (.bool) (.pair (.sl (.int .u32)) (.unit)), .pair (.bool) (.pair (.sl (.int .u32)) (.unit))], .pair (.bool) (.pair (.sl (.int .u32)) (.unit)), false, fun x => quadformref01_Sub x.1 x.2.1⟩
noncomputable def quadformref01_Sub.o : List En := [quadformref01_Add.en, quadformref01_Neg.en]
noncomputable def quadformref01_Sub.oB : List EnB := []
def quadformref01_Sub.h : HT := .n
noncomputable def quadformref01_Sub.c : Code := Try.f120.body.getD .skip
noncomputable def quadformref01_Sub.L : Lam := fun _ i s K => none
theorem quadformref01_Sub.os : AllOk prog quadformref01_Sub.o := ⟨quadformref01_Add.ok, quadformref01_Neg.ok, trivial⟩
theorem quadformref01_Sub.osB : AllBOk prog quadformref01_Sub.oB := trivial
theorem quadformref01_Sub.hk (x) : semK env (orc quadformref01_Sub.o) (orcB quadformref01_Sub.oB) 9 (quadformref01_Sub.L _) quadformref01_Sub.c quadformref01_Sub.h (S.init (avs [.pair (.bool) (.pair (.sl (.int .u32)) (.unit)), .pair (.bool) (.pair (.sl (.int .u32)) (.unit))] x)) (fin env Try.f120 ⟨[.pair (.bool) (.pair (.sl (.int .u32)) (.unit)), .pair (.bool) (.pair (.sl (.int .u32)) (.unit))], .pair (.bool) (.pair (.sl (.int .u32)) (.unit)), false, false⟩) = quadformref01_Sub.en.g x := by kernel_rfl
theorem quadformref01_Sub.ok : EnOk prog quadformref01_Sub.en := by
  refine fun_ok (g := ⟨[.pair (.bool) (.pair (.sl (.int .u32)) (.unit)), .pair (.bool) (.pair (.sl (.int .u32)) (.unit))], .pair (.bool) (.pair (.sl (.int .u32)) (.unit)), false, false⟩) (h := quadformref01_Sub.h) (Λ := quadformref01_Sub.L) tabs quadformref01_Sub.os quadformref01_Sub.osB Try.func120 (c := quadformref01_Sub.c) (by kernel_rfl) (by decide +kernel) (by decide +kernel) (fun C hC => ?_) (fun x => quadformref01_Sub.hk x)
  exact by
    have e : loops quadformref01_Sub.c quadformref01_Sub.h = [] := by kernel_rfl
    rw [e]
    exact LamOk.nil
noncomputable def quadformref01_DivMod.j2 (b4_1 : List Int) (b5_1 : List Int) (b11_0 : Bool) (b11_1 : List Int) (b12_0 : Bool) (b12_1 : List Int) : Option ((Bool × List Int × Unit) × (Bool × List Int × Unit) × Bool × Unit) :=
  ((quadformref01_Small (1 : Int)).bind fun y13 =>
  ((quadformref01_Sub (b11_0, (b11_1, ())) y13).bind fun y14 =>
  (some ((y14.1, (y14.2.1, ())), ((b12_0, (b12_1, ())), (true, ()))))))
noncomputable def quadformref01_DivMod.j3 (b4_1 : List Int) (b5_1 : List Int) (b11_0 : Bool) (b11_1 : List Int) (b12_0 : Bool) (b12_1 : List Int) : Option ((Bool × List Int × Unit) × (Bool × List Int × Unit) × Bool × Unit) :=
  (some ((b11_0, (b11_1, ())), ((b12_0, (b12_1, ())), (true, ()))))
noncomputable def quadformref01_DivMod.j1 (t7 : List Int) (t8 : List Int) (b2_0 : Bool) (b2_1 : List Int) (b3_0 : Bool) (b3_1 : List Int) (b4_1 : List Int) (b5_1 : List Int) : Option ((Bool × List Int × Unit) × (Bool × List Int × Unit) × Bool × Unit) :=
  ((quadformref01_divide t7 t8).bind fun y4 =>
  ((quadformref01_Make (!(b2_0 == b3_0)) y4.1).bind fun y5 =>
  ((quadformref01_Make b2_0 y4.2.1).bind fun y6 =>
  ((quadformref01_Sign (y6.1, (y6.2.1, ()))).bind fun y7 =>
  (cond ((decide (y7 < (0 : Int))))
  (((quadformref01_Make false t8).bind fun y8 =>
  ((quadformref01_Add (y6.1, (y6.2.1, ())) y8).bind fun y9 =>
  ((quadformref01_Sign (b3_0, (b3_1, ()))).bind fun y10 =>
  (cond ((decide (y10 < (0 : Int))))
  (((quadformref01_Small (1 : Int)).bind fun y11 =>
  ((quadformref01_Add (y5.1, (y5.2.1, ())) y11).bind fun y12 =>
  (some ((y12.1, (y12.2.1, ())), ((y9.1, (y9.2.1, ())), (true, ())))))))
  ((quadformref01_DivMod.j2 b4_1 b5_1 y5.1 y5.2.1 y9.1 y9.2.1)))))))
  ((quadformref01_DivMod.j3 b4_1 b5_1 y5.1 y5.2.1 y6.1 y6.2.1)))))))
noncomputable def quadformref01_DivMod (t0 : Bool × List Int × Unit) (t1 : Bool × List Int × Unit) : Option ((Bool × List Int × Unit) × (Bool × List Int × Unit) × Bool × Unit) :=
  ((quadformref01_trim t0.2.1).bind fun y1 =>
  ((quadformref01_trim t1.2.1).bind fun y2 =>
  (cond ((((List.length y2 : Nat) : Int) == (0 : Int)))
  ((some ((false, (([] : List Int), ())), ((false, (([] : List Int), ())), (false, ())))))
  ((quadformref01_DivMod.j1 y1 y2 t0.1 t0.2.1 t1.1 t1.2.1 ([] : List Int) ([] : List Int))))))
noncomputable def quadformref01_DivMod.en : En := ⟨116, [.pair (.bool) (.pair (.sl (.int .u32)) (.unit)), .pair (.bool) (.pair (.sl (.int .u32)) (.unit))], .pair (.pair (.bool) (.pair (.sl (.int .u32)) (.unit))) (.pair (.pair (.bool) (.pair (.sl (.int .u32)) (.unit))) (.pair (.bool) (.unit))), true, fun x => quadformref01_DivMod x.1 x.2.1⟩
noncomputable def quadformref01_DivMod.o : List En := [quadformref01_Small.en, quadformref01_Sign.en, quadformref01_trim.en, quadformref01_Add.en, quadformref01_Make.en, quadformref01_divide.en, quadformref01_Sub.en]
noncomputable def quadformref01_DivMod.oB : List EnB := []
def quadformref01_DivMod.h : HT := .n
noncomputable def quadformref01_DivMod.c : Code := Try.f116.body.getD .skip
noncomputable def quadformref01_DivMod.L : Lam := fun _ i s K => none
theorem quadformref01_DivMod.os : AllOk prog quadformref01_DivMod.o := ⟨quadformref01_Small.ok, quadformref01_Sign.ok, quadformref01_trim.ok, quadformref01_Add.ok, quadformref01_Make.ok, quadformref01_divide.ok, quadformref01_Sub.ok, trivial⟩
theorem quadformref01_DivMod.osB : AllBOk prog quadformref01_DivMod.oB := trivial
theorem quadformref01_DivMod.hk (x) : semK env (orc quadformref01_DivMod.o) (orcB quadformref01_DivMod.oB) 61 (quadformref01_DivMod.L _) quadformref01_DivMod.c quadformref01_DivMod.h (S.init (avs [.pair (.bool) (.pair (.sl (.int .u32)) (.unit)), .pair (.bool) (.pair (.sl (.int .u32)) (.unit))] x)) (fin env Try.f116 ⟨[.pair (.bool) (.pair (.sl (.int .u32)) (.unit)), .pair (.bool) (.pair (.sl (.int .u32)) (.unit))], .pair (.pair (.bool) (.pair (.sl (.int .u32)) (.unit))) (.pair (.pair (.bool) (.pair (.sl (.int .u32)) (.unit))) (.pair (.bool) (.unit))), true, false⟩) = quadformref01_DivMod.en.g x := by kernel_rfl
theorem quadformref01_DivMod.ok : EnOk prog quadformref01_DivMod.en := by
  refine fun_ok (g := ⟨[.pair (.bool) (.pair (.sl (.int .u32)) (.unit)), .pair (.bool) (.pair (.sl (.int .u32)) (.unit))], .pair (.pair (.bool) (.pair (.sl (.int .u32)) (.unit))) (.pair (.pair (.bool) (.pair (.sl (.int .u32)) (.unit))) (.pair (.bool) (.unit))), true, false⟩) (h := quadformref01_DivMod.h) (Λ := quadformref01_DivMod.L) tabs quadformref01_DivMod.os quadformref01_DivMod.osB Try.func116 (c := quadformref01_DivMod.c) (by kernel_rfl) (by decide +kernel) (by decide +kernel) (fun C hC => ?_) (fun x => quadformref01_DivMod.hk x)
  exact by
    have e : loops quadformref01_DivMod.c quadformref01_DivMod.h = [] := by kernel_rfl
    rw [e]
    exact LamOk.nil
noncomputable def quadformref01_Rem (t0 : Bool × List Int × Unit) (t1 : Bool × List Int × Unit) : Option (Bool × List Int × Unit) :=
  ((quadformref01_DivMod (t0.1, (t0.2.1, ())) (t1.1, (t1.2.1, ()))).bind fun y1 =>
  (some (y1.2.1.1, (y1.2.1.2.1, ()))))
noncomputable def quadformref01_Rem.en : En := ⟨115, [.pair (.bool) (.pair (.sl (.int .u32)) (.unit)), .pair (.bool) (.pair (.sl (.int .u32)) (.unit))], .pair (.bool) (.pair (.sl (.int .u32)) (.unit)), false, fun x => quadformref01_Rem x.1 x.2.1⟩
noncomputable def quadformref01_Rem.o : List En := [quadformref01_DivMod.en]
noncomputable def quadformref01_Rem.oB : List EnB := []
def quadformref01_Rem.h : HT := .n
noncomputable def quadformref01_Rem.c : Code := Try.f115.body.getD .skip
noncomputable def quadformref01_Rem.L : Lam := fun _ i s K => none
theorem quadformref01_Rem.os : AllOk prog quadformref01_Rem.o := ⟨quadformref01_DivMod.ok, trivial⟩
theorem quadformref01_Rem.osB : AllBOk prog quadformref01_Rem.oB := trivial
theorem quadformref01_Rem.hk (x) : semK env (orc quadformref01_Rem.o) (orcB quadformref01_Rem.oB) 16 (quadformref01_Rem.L _) quadformref01_Rem.c quadformref01_Rem.h (S.init (avs [.pair (.bool) (.pair (.sl (.int .u32)) (.unit)), .pair (.bool) (.pair (.sl (.int .u32)) (.unit))] x)) (fin env Try.f115 ⟨[.pair (.bool) (.pair (.sl (.int .u32)) (.unit)), .pair (.bool) (.pair (.sl (.int .u32)) (.unit))], .pair (.bool) (.pair (.sl (.int .u32)) (.unit)), false, false⟩) = quadformref01_Rem.en.g x := by kernel_rfl
theorem quadformref01_Rem.ok : EnOk prog quadformref01_Rem.en := by
  refine fun_ok (g := ⟨[.pair (.bool) (.pair (.sl (.int .u32)) (.unit)), .pair (.bool) (.pair (.sl (.int .u32)) (.unit))], .pair (.bool) (.pair (.sl (.int .u32)) (.unit)), false, false⟩) (h := quadformref01_Rem.h) (Λ := quadformref01_Rem.L) tabs quadformref01_Rem.os quadformref01_Rem.osB Try.func115 (c := quadformref01_Rem.c) (by kernel_rfl) (by decide +kernel) (by decide +kernel) (fun C hC => ?_) (fun x => quadformref01_Rem.hk x)
  exact by
    have e : loops quadformref01_Rem.c quadformref01_Rem.h = [] := by kernel_rfl
    rw [e]
    exact LamOk.nil
noncomputable def quadformref01_Gcd.j1 (b4_0 : Bool) (b4_1 : List Int) (b5_0 : Bool) (b5_1 : List Int) (b6_0 : Bool) (b6_1 : List Int) : Option (((Bool × List Int × Unit) × (Bool × List Int × Unit) × (Bool × List Int × Unit) × Unit) ⊕ (((Bool × List Int × Unit) × (Bool × List Int × Unit) × Unit))) :=
  ((quadformref01_Rem (b5_0, (b5_1, ())) (b6_0, (b6_1, ()))).bind fun y4 =>
  (some (.inl ((b4_0, (b4_1, ())), (b6_0, (b6_1, ())), (y4.1, (y4.2.1, ())), ()))))
noncomputable def quadformref01_Gcd.s0 (b4 : Bool × List Int × Unit) (b5 : Bool × List Int × Unit) (b6 : Bool × List Int × Unit) : Option (((Bool × List Int × Unit) × (Bool × List Int × Unit) × (Bool × List Int × Unit) × Unit) ⊕ (((Bool × List Int × Unit) × (Bool × List Int × Unit) × Unit))) :=
  ((quadformref01_Sign (b6.1, (b6.2.1, ()))).bind fun y3 =>
  (cond ((y3 != (0 : Int)))
  ((quadformref01_Gcd.j1 b4.1 b4.2.1 b5.1 b5.2.1 b6.1 b6.2.1))
  ((some (.inr ((b4.1, (b4.2.1, ())), (b5.1, (b5.2.1, ())), ()))))))
noncomputable def quadformref01_Gcd.k0 (b4 : Bool × List Int × Unit) (b5 : Bool × List Int × Unit) : Option (Bool × List Int × Unit) :=
  (some (b5.1, (b5.2.1, ())))
noncomputable def quadformref01_Gcd (t0 : Bool × List Int × Unit) (t1 : Bool × List Int × Unit) : Option (Bool × List Int × Unit) :=
  ((quadformref01_Abs (t0.1, (t0.2.1, ()))).bind fun y1 =>
  ((quadformref01_Abs (t1.1, (t1.2.1, ()))).bind fun y2 =>
  ((iterL (fun x : (Bool × List Int × Unit) × (Bool × List Int × Unit) × (Bool × List Int × Unit) × Unit => quadformref01_Gcd.s0 x.1 x.2.1 x.2.2.1) ((false, (([] : List Int), ())), (y1.1, (y1.2.1, ())), (y2.1, (y2.2.1, ())), ())).bind fun y => quadformref01_Gcd.k0 y.1 y.2.1)))
noncomputable def quadformref01_Gcd.en : En := ⟨101, [.pair (.bool) (.pair (.sl (.int .u32)) (.unit)), .pair (.bool) (.pair (.sl (.int .u32)) (.unit))], .pair (.bool) (.pair (.sl (.int .u32)) (.unit)), false, fun x => quadformref01_Gcd x.1 x.2.1⟩
noncomputable def quadformref01_Gcd.o : List En := [quadformref01_Sign.en, quadformref01_Abs.en, quadformref01_Rem.en]
noncomputable def quadformref01_Gcd.oB : List EnB := []
def quadformref01_Gcd.h : HT := .two (.n) (.two (.n) (.two (.lp 0) (.n)))
noncomputable def quadformref01_Gcd.c : Code := Try.f101.body.getD .skip
def quadformref01_Gcd.h0 : HT := .n
noncomputable def quadformref01_Gcd.c0 : Code := (find (loops quadformref01_Gcd.c quadformref01_Gcd.h) 0).getD .skip
def quadformref01_Gcd.d0 : Fm := [.box 4 (.pair (.bool) (.pair (.sl (.int .u32)) (.unit))), .box 5 (.pair (.bool) (.pair (.sl (.int .u32)) (.unit))), .box 6 (.pair (.bool) (.pair (.sl (.int .u32)) (.unit))), .ptr 4 4, .ptr 5 5, .ptr 6 6]
def quadformref01_Gcd.x0 : Xs := [(.exit 0, [.box 4 (.pair (.bool) (.pair (.sl (.int .u32)) (.unit))), .box 5 (.pair (.bool) (.pair (.sl (.int .u32)) (.unit))), .ptr 4 4, .ptr 5 5])]
noncomputable def quadformref01_Gcd.r0 (x : (Fm.ty quadformref01_Gcd.d0).den) : Option ((Fm.ty quadformref01_Gcd.d0).den ⊕ (Xs.T quadformref01_Gcd.x0)) := quadformref01_Gcd.s0 x.1 x.2.1 x.2.2.1
noncomputable def quadformref01_Gcd.L : Lam := fun _ i s K => cond (Nat.beq i 0) (lamK quadformref01_Gcd.d0 quadformref01_Gcd.x0 quadformref01_Gcd.r0 s K) (none)
theorem quadformref01_Gcd.hf0 (x) : roundK env (orc quadformref01_Gcd.o) (orcB quadformref01_Gcd.oB) 19 quadformref01_Gcd.L quadformref01_Gcd.c0 quadformref01_Gcd.h0 quadformref01_Gcd.d0 quadformref01_Gcd.x0 x = quadformref01_Gcd.r0 x := by kernel_rfl
theorem quadformref01_Gcd.os : AllOk prog quadformref01_Gcd.o := ⟨quadformref01_Sign.ok, quadformref01_Abs.ok, quadformref01_Rem.ok, trivial⟩
theorem quadformref01_Gcd.osB : AllBOk prog quadformref01_Gcd.oB := trivial
theorem quadformref01_Gcd.l0 {C : Ctx} (hC : C.n = 19) : LamAt prog C quadformref01_Gcd.L 0 quadformref01_Gcd.c0 := by
  intro R s K r hk
  refine loop_ok (D := quadformref01_Gcd.d0) (X := quadformref01_Gcd.x0) (h := quadformref01_Gcd.h0) (f := quadformref01_Gcd.r0) tabs (orc_ok _ quadformref01_Gcd.os) (orcB_ok _ quadformref01_Gcd.osB) (fun x => by rw [hC]; exact quadformref01_Gcd.hf0 x) (Λ := quadformref01_Gcd.L) ?_ (by kernel_rfl) (by kernel_rfl) (K := K) (s := s) (by exact hk)
  exact by
    have e : loops quadformref01_Gcd.c0 quadformref01_Gcd.h0 = [] := by kernel_rfl
    rw [e]
    exact LamOk.nil
theorem quadformref01_Gcd.hk (x) : semK env (orc quadformref01_Gcd.o) (orcB quadformref01_Gcd.oB) 19 (quadformref01_Gcd.L _) quadformref01_Gcd.c quadformref01_Gcd.h (S.init (avs [.pair (.bool) (.pair (.sl (.int .u32)) (.unit)), .pair (.bool) (.pair (.sl (.int .u32)) (.unit))] x)) (fin env Try.f101 ⟨[.pair (.bool) (.pair (.sl (.int .u32)) (.unit)), .pair (.bool) (.pair (.sl (.int .u32)) (.unit))], .pair (.bool) (.pair (.sl (.int .u32)) (.unit)), false, false⟩) = quadformref01_Gcd.en.g x := by kernel_rfl
theorem quadformref01_Gcd.ok : EnOk prog quadformref01_Gcd.en := by
  refine fun_ok (g := ⟨[.pair (.bool) (.pair (.sl (.int .u32)) (.unit)), .pair (.bool) (.pair (.sl (.int .u32)) (.unit))], .pair (.bool) (.pair (.sl (.int .u32)) (.unit)), false, false⟩) (h := quadformref01_Gcd.h) (Λ := quadformref01_Gcd.L) tabs quadformref01_Gcd.os quadformref01_Gcd.osB Try.func101 (c := quadformref01_Gcd.c) (by kernel_rfl) (by decide +kernel) (by decide +kernel) (fun C hC => ?_) (fun x => quadformref01_Gcd.hk x)
  exact by
    have e : loops quadformref01_Gcd.c quadformref01_Gcd.h = [(0, quadformref01_Gcd.c0)] := by kernel_rfl
    rw [e]
    exact LamOk.cons (quadformref01_Gcd.l0 hC) (LamOk.nil)
noncomputable def quadformref01_Quo (t0 : Bool × List Int × Unit) (t1 : Bool × List Int × Unit) : Option (Bool × List Int × Unit) :=
  ((quadformref01_DivMod (t0.1, (t0.2.1, ())) (t1.1, (t1.2.1, ()))).bind fun y1 =>
  (some (y1.1.1, (y1.1.2.1, ()))))
noncomputable def quadformref01_Quo.en : En := ⟨102, [.pair (.bool) (.pair (.sl (.int .u32)) (.unit)), .pair (.bool) (.pair (.sl (.int .u32)) (.unit))], .pair (.bool) (.pair (.sl (.int .u32)) (.unit)), false, fun x => quadformref01_Quo x.1 x.2.1⟩
noncomputable def quadformref01_Quo.o : List En := [quadformref01_DivMod.en]
noncomputable def quadformref01_Quo.oB : List EnB := []
def quadformref01_Quo.h : HT := .n
noncomputable def quadformref01_Quo.c : Code := Try.f102.body.getD .skip
noncomputable def quadformref01_Quo.L : Lam := fun _ i s K => none
theorem quadformref01_Quo.os : AllOk prog quadformref01_Quo.o := ⟨quadformref01_DivMod.ok, trivial⟩
theorem quadformref01_Quo.osB : AllBOk prog quadformref01_Quo.oB := trivial
theorem quadformref01_Quo.hk (x) : semK env (orc quadformref01_Quo.o) (orcB quadformref01_Quo.oB) 16 (quadformref01_Quo.L _) quadformref01_Quo.c quadformref01_Quo.h (S.init (avs [.pair (.bool) (.pair (.sl (.int .u32)) (.unit)), .pair (.bool) (.pair (.sl (.int .u32)) (.unit))] x)) (fin env Try.f102 ⟨[.pair (.bool) (.pair (.sl (.int .u32)) (.unit)), .pair (.bool) (.pair (.sl (.int .u32)) (.unit))], .pair (.bool) (.pair (.sl (.int .u32)) (.unit)), false, false⟩) = quadformref01_Quo.en.g x := by kernel_rfl
theorem quadformref01_Quo.ok : EnOk prog quadformref01_Quo.en := by
  refine fun_ok (g := ⟨[.pair (.bool) (.pair (.sl (.int .u32)) (.unit)), .pair (.bool) (.pair (.sl (.int .u32)) (.unit))], .pair (.bool) (.pair (.sl (.int .u32)) (.unit)), false, false⟩) (h := quadformref01_Quo.h) (Λ := quadformref01_Quo.L) tabs quadformref01_Quo.os quadformref01_Quo.osB Try.func102 (c := quadformref01_Quo.c) (by kernel_rfl) (by decide +kernel) (by decide +kernel) (fun C hC => ?_) (fun x => quadformref01_Quo.hk x)
  exact by
    have e : loops quadformref01_Quo.c quadformref01_Quo.h = [] := by kernel_rfl
    rw [e]
    exact LamOk.nil
end Go.Proofs.Ytbchgegclgpdhaa.E
