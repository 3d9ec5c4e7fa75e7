/- Functions of the program as_ functions on values, without fuel, and that the evaluator computes them (printed by gen.py). -/
import Derived.Test.YtbchgegclgpdhaaYBernoulliParity8
namespace Go.Proofs.Ytbchgegclgpdhaa.E
open Go
set_option linter.unusedVariables false
set_option maxRecDepth 100000
noncomputable def integer_Add.j2 (t5 : List Int) (t6 : List Int) (b3_0 : Bool) (b3_1 : List Int) (b4_1 : List Int) : Option (Bool × List Int × Unit) :=
  ((integer_minus t6 t5).bind fun y8 =>
  ((integer_signed b3_0 y8).bind fun y9 =>
  (some (y9.1, (y9.2.1, ())))))
noncomputable def integer_Add.j1 (t5 : List Int) (t6 : List Int) (b2_0 : Bool) (b2_1 : List Int) (b3_0 : Bool) (b3_1 : List Int) (b4_1 : List Int) : Option (Bool × List Int × Unit) :=
  ((integer_compare t5 t6).bind fun y5 =>
  (cond ((decide (y5 ≥ (0 : Int))))
  (((integer_minus t5 t6).bind fun y6 =>
  ((integer_signed b2_0 y6).bind fun y7 =>
  (some (y7.1, (y7.2.1, ()))))))
  ((integer_Add.j2 t5 t6 b3_0 b3_1 b4_1))))
noncomputable def integer_Add (t0 : Bool × List Int × Unit) (t1 : Bool × List Int × Unit) : Option (Bool × List Int × Unit) :=
  ((integer_magnitude (t0.1, (t0.2.1, ()))).bind fun y1 =>
  ((integer_magnitude (t1.1, (t1.2.1, ()))).bind fun y2 =>
  (cond ((t0.1 == t1.1))
  (((integer_plus y1 y2).bind fun y3 =>
  ((integer_signed t0.1 y3).bind fun y4 =>
  (some (y4.1, (y4.2.1, ()))))))
  ((integer_Add.j1 y1 y2 t0.1 t0.2.1 t1.1 t1.2.1 ([] : List Int))))))
noncomputable def integer_Add.en : En := ⟨50, [.pair (.bool) (.pair (.sl (.int .u32)) (.unit)), .pair (.bool) (.pair (.sl (.int .u32)) (.unit))], .pair (.bool) (.pair (.sl (.int .u32)) (.unit)), false, fun x => integer_Add x.1 x.2.1⟩
noncomputable def integer_Add.o : List En := [integer_signed.en, integer_magnitude.en, integer_plus.en, integer_compare.en, integer_minus.en]
noncomputable def integer_Add.oB : List EnB := []
def integer_Add.h : HT := .n
noncomputable def integer_Add.c : Code := Try.f50.body.getD .skip
noncomputable def integer_Add.L : Lam := fun _ i s K => none
theorem integer_Add.os : AllOk prog integer_Add.o := ⟨integer_signed.ok, integer_magnitude.ok, integer_plus.ok, integer_compare.ok, integer_minus.ok, trivial⟩
theorem integer_Add.osB : AllBOk prog integer_Add.oB := trivial
theorem integer_Add.hk (x) : semK env (orc integer_Add.o) (orcB integer_Add.oB) 38 (integer_Add.L _) integer_Add.c integer_Add.h (S.init (avs [.pair (.bool) (.pair (.sl (.int .u32)) (.unit)), .pair (.bool) (.pair (.sl (.int .u32)) (.unit))] x)) (fin env Try.f50 ⟨[.pair (.bool) (.pair (.sl (.int .u32)) (.unit)), .pair (.bool) (.pair (.sl (.int .u32)) (.unit))], .pair (.bool) (.pair (.sl (.int .u32)) (.unit)), false, false⟩) = integer_Add.en.g x := by kernel_rfl
theorem integer_Add.ok : EnOk prog integer_Add.en := by
  refine fun_ok (g := ⟨[.pair (.bool) (.pair (.sl (.int .u32)) (.unit)), .pair (.bool) (.pair (.sl (.int .u32)) (.unit))], .pair (.bool) (.pair (.sl (.int .u32)) (.unit)), false, false⟩) (h := integer_Add.h) (Λ := integer_Add.L) tabs integer_Add.os integer_Add.osB Try.func50 (c := integer_Add.c) (by kernel_rfl) (by decide +kernel) (by decide +kernel) (fun C hC => ?_) (fun x => integer_Add.hk x)
  exact by
    have e : loops integer_Add.c integer_Add.h = [] := by kernel_rfl
    rw [e]
    exact LamOk.nil
noncomputable def rational_sum.j1 (t6 : List (Bool × List Int × Unit)) (t7 : Int) (t8 : Int) (b2_0 : Bool) (b2_1 : List Int) (b3_0 : Bool) (b3_1 : List Int) : Option (((List (Bool × List Int × Unit)) × Int × Int × (Bool × List Int × Unit) × (Bool × List Int × Unit) × Unit) ⊕ (((Bool × List Int × Unit) × (Bool × List Int × Unit) × Unit))) :=
  (cond (inB t8 (List.length t6))
  (((integer_Add (b3_0, (b3_1, ())) ((List.getD t6 (t8.toNat) (false, (([] : List Int), ()))).1, ((List.getD t6 (t8.toNat) (false, (([] : List Int), ()))).2.1, ()))).bind fun y1 =>
  (some (.inl (t6, t7, (IntKind.wrap .i64 (t8 + (1 : Int))), (b2_0, (b2_1, ())), (y1.1, (y1.2.1, ())), ())))))
  none)
noncomputable def rational_sum.s0 (t6 : List (Bool × List Int × Unit)) (t7 : Int) (t8 : Int) (b2 : Bool × List Int × Unit) (b3 : Bool × List Int × Unit) : Option (((List (Bool × List Int × Unit)) × Int × Int × (Bool × List Int × Unit) × (Bool × List Int × Unit) × Unit) ⊕ (((Bool × List Int × Unit) × (Bool × List Int × Unit) × Unit))) :=
  (cond ((decide (t8 < t7)))
  ((rational_sum.j1 t6 t7 t8 b2.1 b2.2.1 b3.1 b3.2.1))
  ((some (.inr ((b2.1, (b2.2.1, ())), (b3.1, (b3.2.1, ())), ())))))
noncomputable def rational_sum.k0 (b2 : Bool × List Int × Unit) (b3 : Bool × List Int × Unit) : Option (Bool × List Int × Unit) :=
  (some (b3.1, (b3.2.1, ())))
noncomputable def rational_sum (t0 : List (Bool × List Int × Unit)) : Option (Bool × List Int × Unit) :=
  ((iterL (fun x : (List (Bool × List Int × Unit)) × Int × Int × (Bool × List Int × Unit) × (Bool × List Int × Unit) × Unit => rational_sum.s0 x.1 x.2.1 x.2.2.1 x.2.2.2.1 x.2.2.2.2.1) (t0, ((List.length t0 : Nat) : Int), (0 : Int), (false, (([] : List Int), ())), (false, (([] : List Int), ())), ())).bind fun y => rational_sum.k0 y.1 y.2.1)
noncomputable def rational_sum.en : En := ⟨95, [.sl (.pair (.bool) (.pair (.sl (.int .u32)) (.unit)))], .pair (.bool) (.pair (.sl (.int .u32)) (.unit)), false, fun x => rational_sum x.1⟩
noncomputable def rational_sum.o : List En := [integer_Add.en]
noncomputable def rational_sum.oB : List EnB := []
def rational_sum.h : HT := .two (.n) (.two (.n) (.two (.two (.n) (.lp 0)) (.n)))
noncomputable def rational_sum.c : Code := Try.f95.body.getD .skip
def rational_sum.h0 : HT := .n
noncomputable def rational_sum.c0 : Code := (find (loops rational_sum.c rational_sum.h) 0).getD .skip
def rational_sum.d0 : Fm := [.v 6 (.sl (.pair (.bool) (.pair (.sl (.int .u32)) (.unit)))), .v 7 (.int .i64), .v 8 (.int .i64), .box 2 (.pair (.bool) (.pair (.sl (.int .u32)) (.unit))), .box 3 (.pair (.bool) (.pair (.sl (.int .u32)) (.unit))), .ptr 2 2, .ptr 3 3]
def rational_sum.x0 : Xs := [(.exit 0, [.box 2 (.pair (.bool) (.pair (.sl (.int .u32)) (.unit))), .box 3 (.pair (.bool) (.pair (.sl (.int .u32)) (.unit))), .ptr 2 2, .ptr 3 3])]
noncomputable def rational_sum.r0 (x : (Fm.ty rational_sum.d0).den) : Option ((Fm.ty rational_sum.d0).den ⊕ (Xs.T rational_sum.x0)) := rational_sum.s0 x.1 x.2.1 x.2.2.1 x.2.2.2.1 x.2.2.2.2.1
noncomputable def rational_sum.L : Lam := fun _ i s K => cond (Nat.beq i 0) (lamK rational_sum.d0 rational_sum.x0 rational_sum.r0 s K) (none)
theorem rational_sum.hf0 (x) : roundK env (orc rational_sum.o) (orcB rational_sum.oB) 17 rational_sum.L rational_sum.c0 rational_sum.h0 rational_sum.d0 rational_sum.x0 x = rational_sum.r0 x := by kernel_rfl
theorem rational_sum.os : AllOk prog rational_sum.o := ⟨integer_Add.ok, trivial⟩
theorem rational_sum.osB : AllBOk prog rational_sum.oB := trivial
theorem rational_sum.l0 {C : Ctx} (hC : C.n = 17) : LamAt prog C rational_sum.L 0 rational_sum.c0 := by
  intro R s K r hk
  refine loop_ok (D := rational_sum.d0) (X := rational_sum.x0) (h := rational_sum.h0) (f := rational_sum.r0) tabs (orc_ok _ rational_sum.os) (orcB_ok _ rational_sum.osB) (fun x => by rw [hC]; exact rational_sum.hf0 x) (Λ := rational_sum.L) ?_ (by kernel_rfl) (by kernel_rfl) (K := K) (s := s) (by exact hk)
  exact by
    have e : loops rational_sum.c0 rational_sum.h0 = [] := by kernel_rfl
    rw [e]
    exact LamOk.nil
theorem rational_sum.hk (x) : semK env (orc rational_sum.o) (orcB rational_sum.oB) 17 (rational_sum.L _) rational_sum.c rational_sum.h (S.init (avs [.sl (.pair (.bool) (.pair (.sl (.int .u32)) (.unit)))] x)) (fin env Try.f95 ⟨[.sl (.pair (.bool) (.pair (.sl (.int .u32)) (.unit)))], .pair (.bool) (.pair (.sl (.int .u32)) (.unit)), false, false⟩) = rational_sum.en.g x := by kernel_rfl
theorem rational_sum.ok : EnOk prog rational_sum.en := by
  refine fun_ok (g := ⟨[.sl (.pair (.bool) (.pair (.sl (.int .u32)) (.unit)))], .pair (.bool) (.pair (.sl (.int .u32)) (.unit)), false, false⟩) (h := rational_sum.h) (Λ := rational_sum.L) tabs rational_sum.os rational_sum.osB Try.func95 (c := rational_sum.c) (by kernel_rfl) (by decide +kernel) (by decide +kernel) (fun C hC => ?_) (fun x => rational_sum.hk x)
  exact by
    have e : loops rational_sum.c rational_sum.h = [(0, rational_sum.c0)] := by kernel_rfl
    rw [e]
    exact LamOk.cons (rational_sum.l0 hC) (LamOk.nil)
noncomputable def rational_Add (t0 : (Bool × List Int × Unit) × (Bool × List Int × Unit) × Unit) (t1 : (Bool × List Int × Unit) × (Bool × List Int × Unit) × Unit) : Option ((Bool × List Int × Unit) × (Bool × List Int × Unit) × Unit) :=
  ((rational_of ((t0.1.1, (t0.1.2.1, ())), ((t0.2.1.1, (t0.2.1.2.1, ())), ()))).bind fun y1 =>
  ((rational_of ((t1.1.1, (t1.1.2.1, ())), ((t1.2.1.1, (t1.2.1.2.1, ())), ()))).bind fun y2 =>
  ((rational_product ([(y1.1.1, (y1.1.2.1, ())), (y2.2.1.1, (y2.2.1.2.1, ()))] : List (Bool × List Int × Unit))).bind fun y3 =>
  ((rational_product ([(y2.1.1, (y2.1.2.1, ())), (y1.2.1.1, (y1.2.1.2.1, ()))] : List (Bool × List Int × Unit))).bind fun y4 =>
  ((rational_sum ([y3, y4] : List (Bool × List Int × Unit))).bind fun y5 =>
  ((rational_product ([(y1.2.1.1, (y1.2.1.2.1, ())), (y2.2.1.1, (y2.2.1.2.1, ()))] : List (Bool × List Int × Unit))).bind fun y6 =>
  ((rational_fraction__rat ((y5.1, (y5.2.1, ())), ((y6.1, (y6.2.1, ())), ()))).bind fun y7 =>
  (some ((y7.1.1, (y7.1.2.1, ())), ((y7.2.1.1, (y7.2.1.2.1, ())), ()))))))))))
noncomputable def rational_Add.en : En := ⟨57, [.pair (.pair (.bool) (.pair (.sl (.int .u32)) (.unit))) (.pair (.pair (.bool) (.pair (.sl (.int .u32)) (.unit))) (.unit)), .pair (.pair (.bool) (.pair (.sl (.int .u32)) (.unit))) (.pair (.pair (.bool) (.pair (.sl (.int .u32)) (.unit))) (.unit))], .pair (.pair (.bool) (.pair (.sl (.int .u32)) (.unit))) (.pair (.pair (.bool) (.pair (.sl (.int .u32)) (.unit))) (.unit)), false, fun x => rational_Add x.1 x.2.1⟩
noncomputable def rational_Add.o : List En := [rational_of.en, rational_fraction__rat.en, rational_product.en, rational_sum.en]
noncomputable def rational_Add.oB : List EnB := []
def rational_Add.h : HT := .n
noncomputable def rational_Add.c : Code := Try.f57.body.getD .skip
noncomputable def rational_Add.L : Lam := fun _ i s K => none
theorem rational_Add.os : AllOk prog rational_Add.o := ⟨rational_of.ok, rational_fraction__rat.ok, rational_product.ok, rational_sum.ok, trivial⟩
theorem rational_Add.osB : AllBOk prog rational_Add.oB := trivial
theorem rational_Add.hk (x) : semK env (orc rational_Add.o) (orcB rational_Add.oB) 33 (rational_Add.L _) rational_Add.c rational_Add.h (S.init (avs [.pair (.pair (.bool) (.pair (.sl (.int .u32)) (.unit))) (.pair (.pair (.bool) (.pair (.sl (.int .u32)) (.unit))) (.unit)), .pair (.pair (.bool) (.pair (.sl (.int .u32)) (.unit))) (.pair (.pair (.bool) (.pair (.sl (.int .u32)) (.unit))) (.unit))] x)) (fin env Try.f57 ⟨[.pair (.pair (.bool) (.pair (.sl (.int .u32)) (.unit))) (.pair (.pair (.bool) (.pair (.sl (.int .u32)) (.unit))) (.unit)), .pair (.pair (.bool) (.pair (.sl (.int .u32)) (.unit))) (.pair (.pair (.bool) (.pair (.sl (.int .u32)) (.unit))) (.unit))], .pair (.pair (.bool) (.pair (.sl (.int .u32)) (.unit))) (.pair (.pair (.bool) (.pair (.sl (.int .u32)) (.unit))) (.unit)), false, false⟩) = rational_Add.en.g x := by kernel_rfl
theorem rational_Add.ok : EnOk prog rational_Add.en := by
  refine fun_ok (g := ⟨[.pair (.pair (.bool) (.pair (.sl (.int .u32)) (.unit))) (.pair (.pair (.bool) (.pair (.sl (.int .u32)) (.unit))) (.unit)), .pair (.pair (.bool) (.pair (.sl (.int .u32)) (.unit))) (.pair (.pair (.bool) (.pair (.sl (.int .u32)) (.unit))) (.unit))], .pair (.pair (.bool) (.pair (.sl (.int .u32)) (.unit))) (.pair (.pair (.bool) (.pair (.sl (.int .u32)) (.unit))) (.unit)), false, false⟩) (h := rational_Add.h) (Λ := rational_Add.L) tabs rational_Add.os rational_Add.osB Try.func57 (c := rational_Add.c) (by kernel_rfl) (by decide +kernel) (by decide +kernel) (fun C hC => ?_) (fun x => rational_Add.hk x)
  exact by
    have e : loops rational_Add.c rational_Add.h = [] := by kernel_rfl
    rw [e]
    exact LamOk.nil
noncomputable def rational_Normalize (t0 : (Bool × List Int × Unit) × (Bool × List Int × Unit) × Unit) : Option ((Bool × List Int × Unit) × (Bool × List Int × Unit) × Unit) :=
  ((rational_of ((t0.1.1, (t0.1.2.1, ())), ((t0.2.1.1, (t0.2.1.2.1, ())), ()))).bind fun y1 =>
  ((rational_fraction__rat y1).bind fun y2 =>
  (some ((y2.1.1, (y2.1.2.1, ())), ((y2.2.1.1, (y2.2.1.2.1, ())), ())))))
noncomputable def rational_Normalize.en : En := ⟨108, [.pair (.pair (.bool) (.pair (.sl (.int .u32)) (.unit))) (.pair (.pair (.bool) (.pair (.sl (.int .u32)) (.unit))) (.unit))], .pair (.pair (.bool) (.pair (.sl (.int .u32)) (.unit))) (.pair (.pair (.bool) (.pair (.sl (.int .u32)) (.unit))) (.unit)), false, fun x => rational_Normalize x.1⟩
noncomputable def rational_Normalize.o : List En := [rational_of.en, rational_fraction__rat.en]
noncomputable def rational_Normalize.oB : List EnB := []
def rational_Normalize.h : HT := .n
noncomputable def rational_Normalize.c : Code := Try.f108.body.getD .skip
noncomputable def rational_Normalize.L : Lam := fun _ i s K => none
theorem rational_Normalize.os : AllOk prog rational_Normalize.o := ⟨rational_of.ok, rational_fraction__rat.ok, trivial⟩
theorem rational_Normalize.osB : AllBOk prog rational_Normalize.oB := trivial
theorem rational_Normalize.hk (x) : semK env (orc rational_Normalize.o) (orcB rational_Normalize.oB) 6 (rational_Normalize.L _) rational_Normalize.c rational_Normalize.h (S.init (avs [.pair (.pair (.bool) (.pair (.sl (.int .u32)) (.unit))) (.pair (.pair (.bool) (.pair (.sl (.int .u32)) (.unit))) (.unit))] x)) (fin env Try.f108 ⟨[.pair (.pair (.bool) (.pair (.sl (.int .u32)) (.unit))) (.pair (.pair (.bool) (.pair (.sl (.int .u32)) (.unit))) (.unit))], .pair (.pair (.bool) (.pair (.sl (.int .u32)) (.unit))) (.pair (.pair (.bool) (.pair (.sl (.int .u32)) (.unit))) (.unit)), false, false⟩) = rational_Normalize.en.g x := by kernel_rfl
theorem rational_Normalize.ok : EnOk prog rational_Normalize.en := by
  refine fun_ok (g := ⟨[.pair (.pair (.bool) (.pair (.sl (.int .u32)) (.unit))) (.pair (.pair (.bool) (.pair (.sl (.int .u32)) (.unit))) (.unit))], .pair (.pair (.bool) (.pair (.sl (.int .u32)) (.unit))) (.pair (.pair (.bool) (.pair (.sl (.int .u32)) (.unit))) (.unit)), false, false⟩) (h := rational_Normalize.h) (Λ := rational_Normalize.L) tabs rational_Normalize.os rational_Normalize.osB Try.func108 (c := rational_Normalize.c) (by kernel_rfl) (by decide +kernel) (by decide +kernel) (fun C hC => ?_) (fun x => rational_Normalize.hk x)
  exact by
    have e : loops rational_Normalize.c rational_Normalize.h = [] := by kernel_rfl
    rw [e]
    exact LamOk.nil
noncomputable def rational_New.j1 (b2_0 : Bool) (b2_1 : List Int) (b3_0 : Bool) (b3_1 : List Int) (b4_1 : List Int) (b4_3 : List Int) : Option (((Bool × List Int × Unit) × (Bool × List Int × Unit) × Unit) × Bool × Unit) :=
  ((rational_Normalize ((b2_0, (b2_1, ())), ((b3_0, (b3_1, ())), ()))).bind fun y2 =>
  (some (((y2.1.1, (y2.1.2.1, ())), ((y2.2.1.1, (y2.2.1.2.1, ())), ())), (true, ()))))
noncomputable def rational_New (t0 : Bool × List Int × Unit) (t1 : Bool × List Int × Unit) : Option (((Bool × List Int × Unit) × (Bool × List Int × Unit) × Unit) × Bool × Unit) :=
  ((integer_Sign (t1.1, (t1.2.1, ()))).bind fun y1 =>
  (cond ((y1 == (0 : Int)))
  ((some (((false, (([] : List Int), ())), ((false, (([] : List Int), ())), ())), (false, ()))))
  ((rational_New.j1 t0.1 t0.2.1 t1.1 t1.2.1 ([] : List Int) ([] : List Int)))))
noncomputable def rational_New.en : En := ⟨92, [.pair (.bool) (.pair (.sl (.int .u32)) (.unit)), .pair (.bool) (.pair (.sl (.int .u32)) (.unit))], .pair (.pair (.pair (.bool) (.pair (.sl (.int .u32)) (.unit))) (.pair (.pair (.bool) (.pair (.sl (.int .u32)) (.unit))) (.unit))) (.pair (.bool) (.unit)), true, fun x => rational_New x.1 x.2.1⟩
noncomputable def rational_New.o : List En := [integer_Sign.en, rational_Normalize.en]
noncomputable def rational_New.oB : List EnB := []
def rational_New.h : HT := .n
noncomputable def rational_New.c : Code := Try.f92.body.getD .skip
noncomputable def rational_New.L : Lam := fun _ i s K => none
theorem rational_New.os : AllOk prog rational_New.o := ⟨integer_Sign.ok, rational_Normalize.ok, trivial⟩
theorem rational_New.osB : AllBOk prog rational_New.oB := trivial
theorem rational_New.hk (x) : semK env (orc rational_New.o) (orcB rational_New.oB) 14 (rational_New.L _) rational_New.c rational_New.h (S.init (avs [.pair (.bool) (.pair (.sl (.int .u32)) (.unit)), .pair (.bool) (.pair (.sl (.int .u32)) (.unit))] x)) (fin env Try.f92 ⟨[.pair (.bool) (.pair (.sl (.int .u32)) (.unit)), .pair (.bool) (.pair (.sl (.int .u32)) (.unit))], .pair (.pair (.pair (.bool) (.pair (.sl (.int .u32)) (.unit))) (.pair (.pair (.bool) (.pair (.sl (.int .u32)) (.unit))) (.unit))) (.pair (.bool) (.unit)), true, false⟩) = rational_New.en.g x := by kernel_rfl
theorem rational_New.ok : EnOk prog rational_New.en := by
  refine fun_ok (g := ⟨[.pair (.bool) (.pair (.sl (.int .u32)) (.unit)), .pair (.bool) (.pair (.sl (.int .u32)) (.unit))], .pair (.pair (.pair (.bool) (.pair (.sl (.int .u32)) (.unit))) (.pair (.pair (.bool) (.pair (.sl (.int .u32)) (.unit))) (.unit))) (.pair (.bool) (.unit)), true, false⟩) (h := rational_New.h) (Λ := rational_New.L) tabs rational_New.os rational_New.osB Try.func92 (c := rational_New.c) (by kernel_rfl) (by decide +kernel) (by decide +kernel) (fun C hC => ?_) (fun x => rational_New.hk x)
  exact by
    have e : loops rational_New.c rational_New.h = [] := by kernel_rfl
    rw [e]
    exact LamOk.nil
noncomputable def rational_Quo (t0 : (Bool × List Int × Unit) × (Bool × List Int × Unit) × Unit) (t1 : (Bool × List Int × Unit) × (Bool × List Int × Unit) × Unit) : Option (((Bool × List Int × Unit) × (Bool × List Int × Unit) × Unit) × Bool × Unit) :=
  ((rational_of ((t0.1.1, (t0.1.2.1, ())), ((t0.2.1.1, (t0.2.1.2.1, ())), ()))).bind fun y1 =>
  ((rational_of ((t1.1.1, (t1.1.2.1, ())), ((t1.2.1.1, (t1.2.1.2.1, ())), ()))).bind fun y2 =>
  ((rational_product ([(y1.1.1, (y1.1.2.1, ())), (y2.2.1.1, (y2.2.1.2.1, ()))] : List (Bool × List Int × Unit))).bind fun y3 =>
  ((rational_product ([(y1.2.1.1, (y1.2.1.2.1, ())), (y2.1.1, (y2.1.2.1, ()))] : List (Bool × List Int × Unit))).bind fun y4 =>
  ((rational_New y3 y4).bind fun y5 =>
  (some (((y5.1.1.1, (y5.1.1.2.1, ())), ((y5.1.2.1.1, (y5.1.2.1.2.1, ())), ())), (y5.2.1, ()))))))))
noncomputable def rational_Quo.en : En := ⟨73, [.pair (.pair (.bool) (.pair (.sl (.int .u32)) (.unit))) (.pair (.pair (.bool) (.pair (.sl (.int .u32)) (.unit))) (.unit)), .pair (.pair (.bool) (.pair (.sl (.int .u32)) (.unit))) (.pair (.pair (.bool) (.pair (.sl (.int .u32)) (.unit))) (.unit))], .pair (.pair (.pair (.bool) (.pair (.sl (.int .u32)) (.unit))) (.pair (.pair (.bool) (.pair (.sl (.int .u32)) (.unit))) (.unit))) (.pair (.bool) (.unit)), true, fun x => rational_Quo x.1 x.2.1⟩
noncomputable def rational_Quo.o : List En := [rational_of.en, rational_New.en, rational_product.en]
noncomputable def rational_Quo.oB : List EnB := []
def rational_Quo.h : HT := .n
noncomputable def rational_Quo.c : Code := Try.f73.body.getD .skip
noncomputable def rational_Quo.L : Lam := fun _ i s K => none
theorem rational_Quo.os : AllOk prog rational_Quo.o := ⟨rational_of.ok, rational_New.ok, rational_product.ok, trivial⟩
theorem rational_Quo.osB : AllBOk prog rational_Quo.oB := trivial
theorem rational_Quo.hk (x) : semK env (orc rational_Quo.o) (orcB rational_Quo.oB) 27 (rational_Quo.L _) rational_Quo.c rational_Quo.h (S.init (avs [.pair (.pair (.bool) (.pair (.sl (.int .u32)) (.unit))) (.pair (.pair (.bool) (.pair (.sl (.int .u32)) (.unit))) (.unit)), .pair (.pair (.bool) (.pair (.sl (.int .u32)) (.unit))) (.pair (.pair (.bool) (.pair (.sl (.int .u32)) (.unit))) (.unit))] x)) (fin env Try.f73 ⟨[.pair (.pair (.bool) (.pair (.sl (.int .u32)) (.unit))) (.pair (.pair (.bool) (.pair (.sl (.int .u32)) (.unit))) (.unit)), .pair (.pair (.bool) (.pair (.sl (.int .u32)) (.unit))) (.pair (.pair (.bool) (.pair (.sl (.int .u32)) (.unit))) (.unit))], .pair (.pair (.pair (.bool) (.pair (.sl (.int .u32)) (.unit))) (.pair (.pair (.bool) (.pair (.sl (.int .u32)) (.unit))) (.unit))) (.pair (.bool) (.unit)), true, false⟩) = rational_Quo.en.g x := by kernel_rfl
theorem rational_Quo.ok : EnOk prog rational_Quo.en := by
  refine fun_ok (g := ⟨[.pair (.pair (.bool) (.pair (.sl (.int .u32)) (.unit))) (.pair (.pair (.bool) (.pair (.sl (.int .u32)) (.unit))) (.unit)), .pair (.pair (.bool) (.pair (.sl (.int .u32)) (.unit))) (.pair (.pair (.bool) (.pair (.sl (.int .u32)) (.unit))) (.unit))], .pair (.pair (.pair (.bool) (.pair (.sl (.int .u32)) (.unit))) (.pair (.pair (.bool) (.pair (.sl (.int .u32)) (.unit))) (.unit))) (.pair (.bool) (.unit)), true, false⟩) (h := rational_Quo.h) (Λ := rational_Quo.L) tabs rational_Quo.os rational_Quo.osB Try.func73 (c := rational_Quo.c) (by kernel_rfl) (by decide +kernel) (by decide +kernel) (fun C hC => ?_) (fun x => rational_Quo.hk x)
  exact by
    have e : loops rational_Quo.c rational_Quo.h = [] := by kernel_rfl
    rw [e]
    exact LamOk.nil
noncomputable def bernoulli_numbers.j2 (t0 : Int) (t4 : Int) (t22 : List Int) (t23 : Int) (t24 : Int) (a11 : List ((Bool × List Int × Unit) × (Bool × List Int × Unit) × Unit)) (b5_0 : Bool) (b5_1 : List Int) (b5_2 : Bool) (b5_3 : List Int) : Option ((Int × Int × List Int × Int × Int × (List ((Bool × List Int × Unit) × (Bool × List Int × Unit) × Unit)) × ((Bool × List Int × Unit) × (Bool × List Int × Unit) × Unit) × Unit) ⊕ ((Int × Int × (List ((Bool × List Int × Unit) × (Bool × List Int × Unit) × Unit)) × ((Bool × List Int × Unit) × (Bool × List Int × Unit) × Unit) × Unit))) :=
  (cond (inB t24 (List.length t22))
  (((bernoulli_whole (List.getD t22 (t24.toNat) (0 : Int))).bind fun y5 =>
  (cond (inB t24 (List.length a11))
  (((rational_Mul y5 (((List.getD a11 ((0 + t24.toNat)) ((false, (([] : List Int), ())), ((false, (([] : List Int), ())), ()))).1.1, ((List.getD a11 ((0 + t24.toNat)) ((false, (([] : List Int), ())), ((false, (([] : List Int), ())), ()))).1.2.1, ())), (((List.getD a11 ((0 + t24.toNat)) ((false, (([] : List Int), ())), ((false, (([] : List Int), ())), ()))).2.1.1, ((List.getD a11 ((0 + t24.toNat)) ((false, (([] : List Int), ())), ((false, (([] : List Int), ())), ()))).2.1.2.1, ())), ()))).bind fun y6 =>
  ((rational_Add ((b5_0, (b5_1, ())), ((b5_2, (b5_3, ())), ())) y6).bind fun y7 =>
  (some (.inl (t0, t4, t22, t23, (IntKind.wrap .i64 (t24 + (1 : Int))), a11, ((y7.1.1, (y7.1.2.1, ())), ((y7.2.1.1, (y7.2.1.2.1, ())), ())), ()))))))
  none)))
  none)
noncomputable def bernoulli_numbers.s0 (t0 : Int) (t4 : Int) (t22 : List Int) (t23 : Int) (t24 : Int) (a11 : List ((Bool × List Int × Unit) × (Bool × List Int × Unit) × Unit)) (b5 : (Bool × List Int × Unit) × (Bool × List Int × Unit) × Unit) : Option ((Int × Int × List Int × Int × Int × (List ((Bool × List Int × Unit) × (Bool × List Int × Unit) × Unit)) × ((Bool × List Int × Unit) × (Bool × List Int × Unit) × Unit) × Unit) ⊕ ((Int × Int × (List ((Bool × List Int × Unit) × (Bool × List Int × Unit) × Unit)) × ((Bool × List Int × Unit) × (Bool × List Int × Unit) × Unit) × Unit))) :=
  (cond ((decide (t24 < t23)))
  ((bernoulli_numbers.j2 t0 t4 t22 t23 t24 a11 b5.1.1 b5.1.2.1 b5.2.1.1 b5.2.1.2.1))
  ((some (.inr (t0, t4, a11, ((b5.1.1, (b5.1.2.1, ())), ((b5.2.1.1, (b5.2.1.2.1, ())), ())), ())))))
noncomputable def bernoulli_numbers.k0 (t0 : Int) (t4 : Int) (a11 : List ((Bool × List Int × Unit) × (Bool × List Int × Unit) × Unit)) (b5 : (Bool × List Int × Unit) × (Bool × List Int × Unit) × Unit) : Option ((Int × Int × (List ((Bool × List Int × Unit) × (Bool × List Int × Unit) × Unit)) × Unit) ⊕ (((List ((Bool × List Int × Unit) × (Bool × List Int × Unit) × Unit)) × Unit))) :=
  ((rational_Neg ((b5.1.1, (b5.1.2.1, ())), ((b5.2.1.1, (b5.2.1.2.1, ())), ()))).bind fun y8 =>
  ((bernoulli_whole (IntKind.wrap .i64 (t4 + (1 : Int)))).bind fun y9 =>
  ((rational_Quo y8 y9).bind fun y10 =>
  (cond (decide (List.length a11 + List.length ([((y10.1.1.1, (y10.1.1.2.1, ())), ((y10.1.2.1.1, (y10.1.2.1.2.1, ())), ()))] : List ((Bool × List Int × Unit) × (Bool × List Int × Unit) × Unit)) ≤ maxL))
  ((some (.inl (t0, (IntKind.wrap .i64 (t4 + (1 : Int))), (a11 ++ ([((y10.1.1.1, (y10.1.1.2.1, ())), ((y10.1.2.1.1, (y10.1.2.1.2.1, ())), ()))] : List ((Bool × List Int × Unit) × (Bool × List Int × Unit) × Unit))), ()))))
  none))))
noncomputable def bernoulli_numbers.j1 (t0 : Int) (t4 : Int) (a11 : List ((Bool × List Int × Unit) × (Bool × List Int × Unit) × Unit)) : Option ((Int × Int × (List ((Bool × List Int × Unit) × (Bool × List Int × Unit) × Unit)) × Unit) ⊕ (((List ((Bool × List Int × Unit) × (Bool × List Int × Unit) × Unit)) × Unit))) :=
  ((bernoulli_whole (0 : Int)).bind fun y2 =>
  ((bernoulli_row (IntKind.wrap .i64 (t4 + (1 : Int)))).bind fun y3 =>
  (cond (inC t4 (List.length y3))
  (((iterL (fun x : Int × Int × List Int × Int × Int × (List ((Bool × List Int × Unit) × (Bool × List Int × Unit) × Unit)) × ((Bool × List Int × Unit) × (Bool × List Int × Unit) × Unit) × Unit => bernoulli_numbers.s0 x.1 x.2.1 x.2.2.1 x.2.2.2.1 x.2.2.2.2.1 x.2.2.2.2.2.1 x.2.2.2.2.2.2.1) (t0, t4, (List.take (t4.toNat) y3), ((List.length (List.take (t4.toNat) y3) : Nat) : Int), (0 : Int), a11, ((y2.1.1, (y2.1.2.1, ())), ((y2.2.1.1, (y2.2.1.2.1, ())), ())), ())).bind fun y => bernoulli_numbers.k0 y.1 y.2.1 y.2.2.1 y.2.2.2.1))
  none)))
noncomputable def bernoulli_numbers.s1 (t0 : Int) (t4 : Int) (a11 : List ((Bool × List Int × Unit) × (Bool × List Int × Unit) × Unit)) : Option ((Int × Int × (List ((Bool × List Int × Unit) × (Bool × List Int × Unit) × Unit)) × Unit) ⊕ (((List ((Bool × List Int × Unit) × (Bool × List Int × Unit) × Unit)) × Unit))) :=
  (cond ((decide (t4 ≤ t0)))
  ((bernoulli_numbers.j1 t0 t4 a11))
  ((some (.inr (a11, ())))))
noncomputable def bernoulli_numbers.k1 (a11 : List ((Bool × List Int × Unit) × (Bool × List Int × Unit) × Unit)) : Option (List ((Bool × List Int × Unit) × (Bool × List Int × Unit) × Unit)) :=
  (some a11)
noncomputable def bernoulli_numbers (t0 : Int) : Option (List ((Bool × List Int × Unit) × (Bool × List Int × Unit) × Unit)) :=
  ((bernoulli_whole (1 : Int)).bind fun y1 =>
  ((iterL (fun x : Int × Int × (List ((Bool × List Int × Unit) × (Bool × List Int × Unit) × Unit)) × Unit => bernoulli_numbers.s1 x.1 x.2.1 x.2.2.1) (t0, (1 : Int), ([y1] : List ((Bool × List Int × Unit) × (Bool × List Int × Unit) × Unit)), ())).bind fun y => bernoulli_numbers.k1 y.1))
noncomputable def bernoulli_numbers.en : En := ⟨38, [.int .i64], .sl (.pair (.pair (.bool) (.pair (.sl (.int .u32)) (.unit))) (.pair (.pair (.bool) (.pair (.sl (.int .u32)) (.unit))) (.unit))), false, fun x => bernoulli_numbers x.1⟩
noncomputable def bernoulli_numbers.o : List En := [rational_Neg.en, bernoulli_whole.en, bernoulli_row.en, rational_Mul.en, rational_Add.en, rational_Quo.en]
noncomputable def bernoulli_numbers.oB : List EnB := []
def bernoulli_numbers.h : HT := .two (.n) (.two (.fr [] [11]) (.two (.two (.n) (.lp 1)) (.n)))
noncomputable def bernoulli_numbers.c : Code := Try.f38.body.getD .skip
def bernoulli_numbers.h1 : HT := .two (.n) (.two (.two (.n) (.two (.two (.n) (.lp 0)) (.n))) (.n))
noncomputable def bernoulli_numbers.c1 : Code := (find (loops bernoulli_numbers.c bernoulli_numbers.h) 1).getD .skip
def bernoulli_numbers.d1 : Fm := [.v 0 (.int .i64), .v 4 (.int .i64), .arr 11 26 (.pair (.pair (.bool) (.pair (.sl (.int .u32)) (.unit))) (.pair (.pair (.bool) (.pair (.sl (.int .u32)) (.unit))) (.unit))), .own 3 11]
def bernoulli_numbers.x1 : Xs := [(.exit 0, [.arr 11 26 (.pair (.pair (.bool) (.pair (.sl (.int .u32)) (.unit))) (.pair (.pair (.bool) (.pair (.sl (.int .u32)) (.unit))) (.unit))), .own 3 11])]
noncomputable def bernoulli_numbers.r1 (x : (Fm.ty bernoulli_numbers.d1).den) : Option ((Fm.ty bernoulli_numbers.d1).den ⊕ (Xs.T bernoulli_numbers.x1)) := bernoulli_numbers.s1 x.1 x.2.1 x.2.2.1
def bernoulli_numbers.h0 : HT := .n
noncomputable def bernoulli_numbers.c0 : Code := (find (loops bernoulli_numbers.c1 bernoulli_numbers.h1) 0).getD .skip
def bernoulli_numbers.d0 : Fm := [.v 0 (.int .i64), .v 4 (.int .i64), .v 22 (.sl (.int .i64)), .v 23 (.int .i64), .v 24 (.int .i64), .arr 11 26 (.pair (.pair (.bool) (.pair (.sl (.int .u32)) (.unit))) (.pair (.pair (.bool) (.pair (.sl (.int .u32)) (.unit))) (.unit))), .box 5 (.pair (.pair (.bool) (.pair (.sl (.int .u32)) (.unit))) (.pair (.pair (.bool) (.pair (.sl (.int .u32)) (.unit))) (.unit))), .own 3 11, .ptr 5 5]
def bernoulli_numbers.x0 : Xs := [(.exit 2, [.v 0 (.int .i64), .v 4 (.int .i64), .arr 11 26 (.pair (.pair (.bool) (.pair (.sl (.int .u32)) (.unit))) (.pair (.pair (.bool) (.pair (.sl (.int .u32)) (.unit))) (.unit))), .box 5 (.pair (.pair (.bool) (.pair (.sl (.int .u32)) (.unit))) (.pair (.pair (.bool) (.pair (.sl (.int .u32)) (.unit))) (.unit))), .own 3 11, .ptr 5 5])]
noncomputable def bernoulli_numbers.r0 (x : (Fm.ty bernoulli_numbers.d0).den) : Option ((Fm.ty bernoulli_numbers.d0).den ⊕ (Xs.T bernoulli_numbers.x0)) := bernoulli_numbers.s0 x.1 x.2.1 x.2.2.1 x.2.2.2.1 x.2.2.2.2.1 x.2.2.2.2.2.1 x.2.2.2.2.2.2.1
noncomputable def bernoulli_numbers.L : Lam := fun _ i s K => cond (Nat.beq i 0) (lamK bernoulli_numbers.d0 bernoulli_numbers.x0 bernoulli_numbers.r0 s K) (cond (Nat.beq i 1) (lamK bernoulli_numbers.d1 bernoulli_numbers.x1 bernoulli_numbers.r1 s K) (none))
theorem bernoulli_numbers.hf0 (x) : roundK env (orc bernoulli_numbers.o) (orcB bernoulli_numbers.oB) 53 bernoulli_numbers.L bernoulli_numbers.c0 bernoulli_numbers.h0 bernoulli_numbers.d0 bernoulli_numbers.x0 x = bernoulli_numbers.r0 x := by kernel_rfl
theorem bernoulli_numbers.hf1 (x) : roundK env (orc bernoulli_numbers.o) (orcB bernoulli_numbers.oB) 53 bernoulli_numbers.L bernoulli_numbers.c1 bernoulli_numbers.h1 bernoulli_numbers.d1 bernoulli_numbers.x1 x = bernoulli_numbers.r1 x := by kernel_rfl
theorem bernoulli_numbers.os : AllOk prog bernoulli_numbers.o := ⟨rational_Neg.ok, bernoulli_whole.ok, bernoulli_row.ok, rational_Mul.ok, rational_Add.ok, rational_Quo.ok, trivial⟩
theorem bernoulli_numbers.osB : AllBOk prog bernoulli_numbers.oB := trivial
theorem bernoulli_numbers.l0 {C : Ctx} (hC : C.n = 53) : LamAt prog C bernoulli_numbers.L 0 bernoulli_numbers.c0 := by
  intro R s K r hk
  refine loop_ok (D := bernoulli_numbers.d0) (X := bernoulli_numbers.x0) (h := bernoulli_numbers.h0) (f := bernoulli_numbers.r0) tabs (orc_ok _ bernoulli_numbers.os) (orcB_ok _ bernoulli_numbers.osB) (fun x => by rw [hC]; exact bernoulli_numbers.hf0 x) (Λ := bernoulli_numbers.L) ?_ (by kernel_rfl) (by kernel_rfl) (K := K) (s := s) (by exact hk)
  exact by
    have e : loops bernoulli_numbers.c0 bernoulli_numbers.h0 = [] := by kernel_rfl
    rw [e]
    exact LamOk.nil
theorem bernoulli_numbers.l1 {C : Ctx} (hC : C.n = 53) : LamAt prog C bernoulli_numbers.L 1 bernoulli_numbers.c1 := by
  intro R s K r hk
  refine loop_ok (D := bernoulli_numbers.d1) (X := bernoulli_numbers.x1) (h := bernoulli_numbers.h1) (f := bernoulli_numbers.r1) tabs (orc_ok _ bernoulli_numbers.os) (orcB_ok _ bernoulli_numbers.osB) (fun x => by rw [hC]; exact bernoulli_numbers.hf1 x) (Λ := bernoulli_numbers.L) ?_ (by kernel_rfl) (by kernel_rfl) (K := K) (s := s) (by exact hk)
  exact by
    have e : loops bernoulli_numbers.c1 bernoulli_numbers.h1 = [(0, bernoulli_numbers.c0)] := by kernel_rfl
    rw [e]
    exact LamOk.cons (bernoulli_numbers.l0 hC) (LamOk.nil)
theorem bernoulli_numbers.hk (x) : semK env (orc bernoulli_numbers.o) (orcB bernoulli_numbers.oB) 53 (bernoulli_numbers.L _) bernoulli_numbers.c bernoulli_numbers.h (S.init (avs [.int .i64] x)) (fin env Try.f38 ⟨[.int .i64], .sl (.pair (.pair (.bool) (.pair (.sl (.int .u32)) (.unit))) (.pair (.pair (.bool) (.pair (.sl (.int .u32)) (.unit))) (.unit))), false, false⟩) = bernoulli_numbers.en.g x := by kernel_rfl
theorem bernoulli_numbers.ok : EnOk prog bernoulli_numbers.en := by
  refine fun_ok (g := ⟨[.int .i64], .sl (.pair (.pair (.bool) (.pair (.sl (.int .u32)) (.unit))) (.pair (.pair (.bool) (.pair (.sl (.int .u32)) (.unit))) (.unit))), false, false⟩) (h := bernoulli_numbers.h) (Λ := bernoulli_numbers.L) tabs bernoulli_numbers.os bernoulli_numbers.osB Try.func38 (c := bernoulli_numbers.c) (by kernel_rfl) (by decide +kernel) (by decide +kernel) (fun C hC => ?_) (fun x => bernoulli_numbers.hk x)
  exact by
    have e : loops bernoulli_numbers.c bernoulli_numbers.h = [(1, bernoulli_numbers.c1)] := by kernel_rfl
    rw [e]
    exact LamOk.cons (bernoulli_numbers.l1 hC) (LamOk.nil)
noncomputable def bernoulli_Number.j1 (t0 : Int) (b2_1 : List Int) (b2_3 : List Int) : Option (((Bool × List Int × Unit) × (Bool × List Int × Unit) × Unit) × Int × Unit) :=
  ((bernoulli_numbers t0).bind fun y1 =>
  (cond (inB t0 (List.length y1))
  ((some ((((List.getD y1 (t0.toNat) ((false, (([] : List Int), ())), ((false, (([] : List Int), ())), ()))).1.1, ((List.getD y1 (t0.toNat) ((false, (([] : List Int), ())), ((false, (([] : List Int), ())), ()))).1.2.1, ())), (((List.getD y1 (t0.toNat) ((false, (([] : List Int), ())), ((false, (([] : List Int), ())), ()))).2.1.1, ((List.getD y1 (t0.toNat) ((false, (([] : List Int), ())), ((false, (([] : List Int), ())), ()))).2.1.2.1, ())), ())), ((0 : Int), ()))))
  none))
noncomputable def bernoulli_Number (t0 : Int) : Option (((Bool × List Int × Unit) × (Bool × List Int × Unit) × Unit) × Int × Unit) :=
  (cond ((decide (t0 < (0 : Int))))
  ((some (((false, (([] : List Int), ())), ((false, (([] : List Int), ())), ())), ((1 : Int), ()))))
  ((cond ((decide (t0 > (20 : Int))))
  ((some (((false, (([] : List Int), ())), ((false, (([] : List Int), ())), ())), ((1 : Int), ()))))
  ((bernoulli_Number.j1 t0 ([] : List Int) ([] : List Int))))))
noncomputable def bernoulli_Number.en : En := ⟨13, [.int .i64], .pair (.pair (.pair (.bool) (.pair (.sl (.int .u32)) (.unit))) (.pair (.pair (.bool) (.pair (.sl (.int .u32)) (.unit))) (.unit))) (.pair (.int .i64) (.unit)), true, fun x => bernoulli_Number x.1⟩
noncomputable def bernoulli_Number.o : List En := [bernoulli_numbers.en]
noncomputable def bernoulli_Number.oB : List EnB := []
def bernoulli_Number.h : HT := .n
noncomputable def bernoulli_Number.c : Code := Try.f13.body.getD .skip
noncomputable def bernoulli_Number.L : Lam := fun _ i s K => none
theorem bernoulli_Number.os : AllOk prog bernoulli_Number.o := ⟨bernoulli_numbers.ok, trivial⟩
theorem bernoulli_Number.osB : AllBOk prog bernoulli_Number.oB := trivial
theorem bernoulli_Number.hk (x) : semK env (orc bernoulli_Number.o) (orcB bernoulli_Number.oB) 16 (bernoulli_Number.L _) bernoulli_Number.c bernoulli_Number.h (S.init (avs [.int .i64] x)) (fin env Try.f13 ⟨[.int .i64], .pair (.pair (.pair (.bool) (.pair (.sl (.int .u32)) (.unit))) (.pair (.pair (.bool) (.pair (.sl (.int .u32)) (.unit))) (.unit))) (.pair (.int .i64) (.unit)), true, false⟩) = bernoulli_Number.en.g x := by kernel_rfl
theorem bernoulli_Number.ok : EnOk prog bernoulli_Number.en := by
  refine fun_ok (g := ⟨[.int .i64], .pair (.pair (.pair (.bool) (.pair (.sl (.int .u32)) (.unit))) (.pair (.pair (.bool) (.pair (.sl (.int .u32)) (.unit))) (.unit))) (.pair (.int .i64) (.unit)), true, false⟩) (h := bernoulli_Number.h) (Λ := bernoulli_Number.L) tabs bernoulli_Number.os bernoulli_Number.osB Try.func13 (c := bernoulli_Number.c) (by kernel_rfl) (by decide +kernel) (by decide +kernel) (fun C hC => ?_) (fun x => bernoulli_Number.hk x)
  exact by
    have e : loops bernoulli_Number.c bernoulli_Number.h = [] := by kernel_rfl
    rw [e]
    exact LamOk.nil
noncomputable def quadformref01_trim.j1 (t0 : List Int) (t3 : Int) : Option ((List Int × Int × Unit) ⊕ ((List Int × Int × Unit))) :=
  (some (.inl (t0, (IntKind.wrap .i64 (t3 - (1 : Int))), ())))
noncomputable def quadformref01_trim.s0 (t0 : List Int) (t3 : Int) : Option ((List Int × Int × Unit) ⊕ ((List Int × Int × Unit))) :=
  (cond ((decide (t3 > (0 : Int))))
  ((cond (inB (IntKind.wrap .i64 (t3 - (1 : Int))) (List.length t0))
  ((cond (((List.getD t0 (((IntKind.wrap .i64 (t3 - (1 : Int)))).toNat) (0 : Int)) == (0 : Int)))
  ((quadformref01_trim.j1 t0 t3))
  ((some (.inr (t0, t3, ()))))))
  none))
  ((some (.inr (t0, t3, ())))))
noncomputable def quadformref01_trim.k0 (t0 : List Int) (t3 : Int) : Option (List Int) :=
  (cond (inC t3 (List.length t0))
  ((cond (decide (List.length (List.take (t3.toNat) t0) ≤ maxL))
  ((some (List.take (t3.toNat) t0)))
  none))
  none)
noncomputable def quadformref01_trim (t0 : List Int) : Option (List Int) :=
  ((iterL (fun x : List Int × Int × Unit => quadformref01_trim.s0 x.1 x.2.1) (t0, ((List.length t0 : Nat) : Int), ())).bind fun y => quadformref01_trim.k0 y.1 y.2.1)
noncomputable def quadformref01_trim.en : En := ⟨44, [.sl (.int .u32)], .sl (.int .u32), false, fun x => quadformref01_trim x.1⟩
noncomputable def quadformref01_trim.o : List En := []
noncomputable def quadformref01_trim.oB : List EnB := []
def quadformref01_trim.h : HT := .two (.n) (.two (.n) (.two (.lp 0) (.n)))
noncomputable def quadformref01_trim.c : Code := Try.f44.body.getD .skip
def quadformref01_trim.h0 : HT := .n
noncomputable def quadformref01_trim.c0 : Code := (find (loops quadformref01_trim.c quadformref01_trim.h) 0).getD .skip
def quadformref01_trim.d0 : Fm := [.v 0 (.sl (.int .u32)), .v 3 (.int .i64)]
def quadformref01_trim.x0 : Xs := [(.exit 0, [.v 0 (.sl (.int .u32)), .v 3 (.int .i64)])]
noncomputable def quadformref01_trim.r0 (x : (Fm.ty quadformref01_trim.d0).den) : Option ((Fm.ty quadformref01_trim.d0).den ⊕ (Xs.T quadformref01_trim.x0)) := quadformref01_trim.s0 x.1 x.2.1
noncomputable def quadformref01_trim.L : Lam := fun _ i s K => cond (Nat.beq i 0) (lamK quadformref01_trim.d0 quadformref01_trim.x0 quadformref01_trim.r0 s K) (none)
theorem quadformref01_trim.hf0 (x) : roundK env (orc quadformref01_trim.o) (orcB quadformref01_trim.oB) 22 quadformref01_trim.L quadformref01_trim.c0 quadformref01_trim.h0 quadformref01_trim.d0 quadformref01_trim.x0 x = quadformref01_trim.r0 x := by kernel_rfl
theorem quadformref01_trim.os : AllOk prog quadformref01_trim.o := trivial
theorem quadformref01_trim.osB : AllBOk prog quadformref01_trim.oB := trivial
theorem quadformref01_trim.l0 {C : Ctx} (hC : C.n = 22) : LamAt prog C quadformref01_trim.L 0 quadformref01_trim.c0 := by
  intro R s K r hk
  refine loop_ok (D := quadformref01_trim.d0) (X := quadformref01_trim.x0) (h := quadformref01_trim.h0) (f := quadformref01_trim.r0) tabs (orc_ok _ quadformref01_trim.os) (orcB_ok _ quadformref01_trim.osB) (fun x => by rw [hC]; exact quadformref01_trim.hf0 x) (Λ := quadformref01_trim.L) ?_ (by kernel_rfl) (by kernel_rfl) (K := K) (s := s) (by exact hk)
  exact by
    have e : loops quadformref01_trim.c0 quadformref01_trim.h0 = [] := by kernel_rfl
    rw [e]
    exact LamOk.nil
theorem quadformref01_trim.hk (x) : semK env (orc quadformref01_trim.o) (orcB quadformref01_trim.oB) 22 (quadformref01_trim.L _) quadformref01_trim.c quadformref01_trim.h (S.init (avs [.sl (.int .u32)] x)) (fin env Try.f44 ⟨[.sl (.int .u32)], .sl (.int .u32), false, false⟩) = quadformref01_trim.en.g x := by kernel_rfl
theorem quadformref01_trim.ok : EnOk prog quadformref01_trim.en := by
  refine fun_ok (g := ⟨[.sl (.int .u32)], .sl (.int .u32), false, false⟩) (h := quadformref01_trim.h) (Λ := quadformref01_trim.L) tabs quadformref01_trim.os quadformref01_trim.osB Try.func44 (c := quadformref01_trim.c) (by kernel_rfl) (by decide +kernel) (by decide +kernel) (fun C hC => ?_) (fun x => quadformref01_trim.hk x)
  exact by
    have e : loops quadformref01_trim.c quadformref01_trim.h = [(0, quadformref01_trim.c0)] := by kernel_rfl
    rw [e]
    exact LamOk.cons (quadformref01_trim.l0 hC) (LamOk.nil)
noncomputable def quadformref01_Make (t0 : Bool) (t1 : List Int) : Option (Bool × List Int × Unit) :=
  ((quadformref01_trim t1).bind fun y1 =>
  (cond (t0)
  ((some ((decide (((List.length y1 : Nat) : Int) > (0 : Int))), (y1, ()))))
  ((some (false, (y1, ()))))))
noncomputable def quadformref01_Make.en : En := ⟨77, [.bool, .sl (.int .u32)], .pair (.bool) (.pair (.sl (.int .u32)) (.unit)), false, fun x => quadformref01_Make x.1 x.2.1⟩
noncomputable def quadformref01_Make.o : List En := [quadformref01_trim.en]
noncomputable def quadformref01_Make.oB : List EnB := []
def quadformref01_Make.h : HT := .n
noncomputable def quadformref01_Make.c : Code := Try.f77.body.getD .skip
noncomputable def quadformref01_Make.L : Lam := fun _ i s K => none
theorem quadformref01_Make.os : AllOk prog quadformref01_Make.o := ⟨quadformref01_trim.ok, trivial⟩
theorem quadformref01_Make.osB : AllBOk prog quadformref01_Make.oB := trivial
theorem quadformref01_Make.hk (x) : semK env (orc quadformref01_Make.o) (orcB quadformref01_Make.oB) 16 (quadformref01_Make.L _) quadformref01_Make.c quadformref01_Make.h (S.init (avs [.bool, .sl (.int .u32)] x)) (fin env Try.f77 ⟨[.bool, .sl (.int .u32)], .pair (.bool) (.pair (.sl (.int .u32)) (.unit)), false, false⟩) = quadformref01_Make.en.g x := by kernel_rfl
theorem quadformref01_Make.ok : EnOk prog quadformref01_Make.en := by
  refine fun_ok (g := ⟨[.bool, .sl (.int .u32)], .pair (.bool) (.pair (.sl (.int .u32)) (.unit)), false, false⟩) (h := quadformref01_Make.h) (Λ := quadformref01_Make.L) tabs quadformref01_Make.os quadformref01_Make.osB Try.func77 (c := quadformref01_Make.c) (by kernel_rfl) (by decide +kernel) (by decide +kernel) (fun C hC => ?_) (fun x => quadformref01_Make.hk x)
  exact by
    have e : loops quadformref01_Make.c quadformref01_Make.h = [] := by kernel_rfl
    rw [e]
    exact LamOk.nil
end Go.Proofs.Ytbchgegclgpdhaa.E
