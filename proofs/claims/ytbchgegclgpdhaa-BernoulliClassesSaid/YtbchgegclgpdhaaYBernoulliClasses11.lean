/- Functions of the program as_ functions on values, without fuel, and that the evaluator computes them (printed by gen.py). -/
import Derived.Test.YtbchgegclgpdhaaYBernoulliClasses10
import Derived.Test.YtbchgegclgpdhaaYBernoulliClasses8
import Derived.Test.YtbchgegclgpdhaaYBernoulliClasses9
import Derived.Test.YtbchgegclgpdhaaYBernoulliClasses0
namespace Go.Proofs.Ytbchgegclgpdhaa.E
open Go
set_option linter.unusedVariables false
set_option maxRecDepth 100000
noncomputable def quadformref22_Squarefree.j2 (t0 : Int) (t5 : Int) (t6 : Int) : Option ((Int × Int × Int × Unit) ⊕ ((Int × Int × Int × Unit))) :=
  (cond (decide ((IntKind.wrap .i64 (t6 * t6)) = 0))
  none
  ((some (.inl ((IntKind.wrap .i64 (Int.tdiv t0 (IntKind.wrap .i64 (t6 * t6)))), (IntKind.wrap .i64 (t5 * t6)), t6, ())))))
noncomputable def quadformref22_Squarefree.s0 (t0 : Int) (t5 : Int) (t6 : Int) : Option ((Int × Int × Int × Unit) ⊕ ((Int × Int × Int × Unit))) :=
  (cond (decide ((IntKind.wrap .i64 (t6 * t6)) = 0))
  none
  ((cond (((Int.tmod t0 (IntKind.wrap .i64 (t6 * t6))) == (0 : Int)))
  ((quadformref22_Squarefree.j2 t0 t5 t6))
  ((some (.inr (t0, t5, t6, ())))))))
noncomputable def quadformref22_Squarefree.k0 (t0 : Int) (t5 : Int) (t6 : Int) : Option ((Int × Int × Int × Unit) ⊕ ((Int × Int × Unit))) :=
  (some (.inl (t0, t5, (IntKind.wrap .i64 (t6 + (1 : Int))), ())))
noncomputable def quadformref22_Squarefree.j3 (t0 : Int) (t5 : Int) (t6 : Int) : Option ((Int × Int × Int × Unit) ⊕ ((Int × Int × Unit))) :=
  ((iterL (fun x : Int × Int × Int × Unit => quadformref22_Squarefree.s0 x.1 x.2.1 x.2.2.1) (t0, t5, t6, ())).bind fun y => quadformref22_Squarefree.k0 y.1 y.2.1 y.2.2.1)
noncomputable def quadformref22_Squarefree.s1 (t0 : Int) (t5 : Int) (t6 : Int) : Option ((Int × Int × Int × Unit) ⊕ ((Int × Int × Unit))) :=
  (cond ((decide ((IntKind.wrap .i64 (t6 * t6)) ≤ t0)))
  (((iterL (fun x : Int × Int × Int × Unit => quadformref22_Squarefree.s0 x.1 x.2.1 x.2.2.1) (t0, t5, t6, ())).bind fun y => quadformref22_Squarefree.k0 y.1 y.2.1 y.2.2.1))
  ((cond ((decide ((IntKind.wrap .i64 (t6 * t6)) ≤ (IntKind.wrap .i64 (0 - t0)))))
  ((quadformref22_Squarefree.j3 t0 t5 t6))
  ((some (.inr (t0, t5, ())))))))
noncomputable def quadformref22_Squarefree.k1 (t0 : Int) (t5 : Int) : Option (Int × Int × Int × Unit) :=
  (some (t0, (t5, ((0 : Int), ()))))
noncomputable def quadformref22_Squarefree.j1 (t0 : Int) : Option (Int × Int × Int × Unit) :=
  ((iterL (fun x : Int × Int × Int × Unit => quadformref22_Squarefree.s1 x.1 x.2.1 x.2.2.1) (t0, (1 : Int), (2 : Int), ())).bind fun y => quadformref22_Squarefree.k1 y.1 y.2.1)
noncomputable def quadformref22_Squarefree (t0 : Int) : Option (Int × Int × Int × Unit) :=
  (cond ((t0 == (0 : Int)))
  ((some ((0 : Int), ((0 : Int), ((1 : Int), ())))))
  ((cond ((decide (t0 < (-2147483647 : Int))))
  ((some ((0 : Int), ((0 : Int), ((1 : Int), ())))))
  ((cond ((decide (t0 > (2147483647 : Int))))
  ((some ((0 : Int), ((0 : Int), ((1 : Int), ())))))
  ((quadformref22_Squarefree.j1 t0)))))))
noncomputable def quadformref22_Squarefree.en : En := ⟨80, [.int .i64], .pair (.int .i64) (.pair (.int .i64) (.pair (.int .i64) (.unit))), true, fun x => quadformref22_Squarefree x.1⟩
noncomputable def quadformref22_Squarefree.o : List En := []
noncomputable def quadformref22_Squarefree.oB : List EnB := []
def quadformref22_Squarefree.h : HT := .two (.n) (.two (.n) (.two (.n) (.two (.two (.n) (.lp 1)) (.n))))
noncomputable def quadformref22_Squarefree.c : Code := Try.f80.body.getD .skip
def quadformref22_Squarefree.h1 : HT := .two (.n) (.two (.lp 0) (.n))
noncomputable def quadformref22_Squarefree.c1 : Code := (find (loops quadformref22_Squarefree.c quadformref22_Squarefree.h) 1).getD .skip
def quadformref22_Squarefree.d1 : Fm := [.v 0 (.int .i64), .v 5 (.int .i64), .v 6 (.int .i64)]
def quadformref22_Squarefree.x1 : Xs := [(.exit 0, [.v 0 (.int .i64), .v 5 (.int .i64)])]
noncomputable def quadformref22_Squarefree.r1 (x : (Fm.ty quadformref22_Squarefree.d1).den) : Option ((Fm.ty quadformref22_Squarefree.d1).den ⊕ (Xs.T quadformref22_Squarefree.x1)) := quadformref22_Squarefree.s1 x.1 x.2.1 x.2.2.1
def quadformref22_Squarefree.h0 : HT := .n
noncomputable def quadformref22_Squarefree.c0 : Code := (find (loops quadformref22_Squarefree.c1 quadformref22_Squarefree.h1) 0).getD .skip
def quadformref22_Squarefree.d0 : Fm := [.v 0 (.int .i64), .v 5 (.int .i64), .v 6 (.int .i64)]
def quadformref22_Squarefree.x0 : Xs := [(.exit 2, [.v 0 (.int .i64), .v 5 (.int .i64), .v 6 (.int .i64)])]
noncomputable def quadformref22_Squarefree.r0 (x : (Fm.ty quadformref22_Squarefree.d0).den) : Option ((Fm.ty quadformref22_Squarefree.d0).den ⊕ (Xs.T quadformref22_Squarefree.x0)) := quadformref22_Squarefree.s0 x.1 x.2.1 x.2.2.1
noncomputable def quadformref22_Squarefree.L : Lam := fun _ i s K => cond (Nat.beq i 0) (lamK quadformref22_Squarefree.d0 quadformref22_Squarefree.x0 quadformref22_Squarefree.r0 s K) (cond (Nat.beq i 1) (lamK quadformref22_Squarefree.d1 quadformref22_Squarefree.x1 quadformref22_Squarefree.r1 s K) (none))
theorem quadformref22_Squarefree.hf0 (x) : roundK env (orc quadformref22_Squarefree.o) (orcB quadformref22_Squarefree.oB) 48 quadformref22_Squarefree.L quadformref22_Squarefree.c0 quadformref22_Squarefree.h0 quadformref22_Squarefree.d0 quadformref22_Squarefree.x0 x = quadformref22_Squarefree.r0 x := by kernel_rfl
theorem quadformref22_Squarefree.hf1 (x) : roundK env (orc quadformref22_Squarefree.o) (orcB quadformref22_Squarefree.oB) 48 quadformref22_Squarefree.L quadformref22_Squarefree.c1 quadformref22_Squarefree.h1 quadformref22_Squarefree.d1 quadformref22_Squarefree.x1 x = quadformref22_Squarefree.r1 x := by kernel_rfl
theorem quadformref22_Squarefree.os : AllOk prog quadformref22_Squarefree.o := trivial
theorem quadformref22_Squarefree.osB : AllBOk prog quadformref22_Squarefree.oB := trivial
theorem quadformref22_Squarefree.l0 {C : Ctx} (hC : C.n = 48) : LamAt prog C quadformref22_Squarefree.L 0 quadformref22_Squarefree.c0 := by
  intro R s K r hk
  refine loop_ok (D := quadformref22_Squarefree.d0) (X := quadformref22_Squarefree.x0) (h := quadformref22_Squarefree.h0) (f := quadformref22_Squarefree.r0) tabs (orc_ok _ quadformref22_Squarefree.os) (orcB_ok _ quadformref22_Squarefree.osB) (fun x => by rw [hC]; exact quadformref22_Squarefree.hf0 x) (Λ := quadformref22_Squarefree.L) ?_ (by kernel_rfl) (by kernel_rfl) (K := K) (s := s) (by exact hk)
  exact by
    have e : loops quadformref22_Squarefree.c0 quadformref22_Squarefree.h0 = [] := by kernel_rfl
    rw [e]
    exact LamOk.nil
theorem quadformref22_Squarefree.l1 {C : Ctx} (hC : C.n = 48) : LamAt prog C quadformref22_Squarefree.L 1 quadformref22_Squarefree.c1 := by
  intro R s K r hk
  refine loop_ok (D := quadformref22_Squarefree.d1) (X := quadformref22_Squarefree.x1) (h := quadformref22_Squarefree.h1) (f := quadformref22_Squarefree.r1) tabs (orc_ok _ quadformref22_Squarefree.os) (orcB_ok _ quadformref22_Squarefree.osB) (fun x => by rw [hC]; exact quadformref22_Squarefree.hf1 x) (Λ := quadformref22_Squarefree.L) ?_ (by kernel_rfl) (by kernel_rfl) (K := K) (s := s) (by exact hk)
  exact by
    have e : loops quadformref22_Squarefree.c1 quadformref22_Squarefree.h1 = [(0, quadformref22_Squarefree.c0)] := by kernel_rfl
    rw [e]
    exact LamOk.cons (quadformref22_Squarefree.l0 hC) (LamOk.nil)
theorem quadformref22_Squarefree.hk (x) : semK env (orc quadformref22_Squarefree.o) (orcB quadformref22_Squarefree.oB) 48 (quadformref22_Squarefree.L _) quadformref22_Squarefree.c quadformref22_Squarefree.h (S.init (avs [.int .i64] x)) (fin env Try.f80 ⟨[.int .i64], .pair (.int .i64) (.pair (.int .i64) (.pair (.int .i64) (.unit))), true, false⟩) = quadformref22_Squarefree.en.g x := by kernel_rfl
theorem quadformref22_Squarefree.ok : EnOk prog quadformref22_Squarefree.en := by
  refine fun_ok (g := ⟨[.int .i64], .pair (.int .i64) (.pair (.int .i64) (.pair (.int .i64) (.unit))), true, false⟩) (h := quadformref22_Squarefree.h) (Λ := quadformref22_Squarefree.L) tabs quadformref22_Squarefree.os quadformref22_Squarefree.osB Try.func80 (c := quadformref22_Squarefree.c) (by kernel_rfl) (by decide +kernel) (by decide +kernel) (fun C hC => ?_) (fun x => quadformref22_Squarefree.hk x)
  exact by
    have e : loops quadformref22_Squarefree.c quadformref22_Squarefree.h = [(1, quadformref22_Squarefree.c1)] := by kernel_rfl
    rw [e]
    exact LamOk.cons (quadformref22_Squarefree.l1 hC) (LamOk.nil)
noncomputable def quadformref22_Mod.j1 (t5 : Int) : Option (Int) :=
  (some t5)
noncomputable def quadformref22_Mod (t0 : Int) (t1 : Int) : Option (Int) :=
  (cond (decide (t1 = 0))
  none
  ((cond ((decide ((Int.tmod t0 t1) < (0 : Int))))
  ((quadformref22_Mod.j1 (IntKind.wrap .i64 ((Int.tmod t0 t1) + t1))))
  ((quadformref22_Mod.j1 (Int.tmod t0 t1))))))
noncomputable def quadformref22_Mod.en : En := ⟨81, [.int .i64, .int .i64], .int .i64, false, fun x => quadformref22_Mod x.1 x.2.1⟩
noncomputable def quadformref22_Mod.o : List En := []
noncomputable def quadformref22_Mod.oB : List EnB := []
def quadformref22_Mod.h : HT := .n
noncomputable def quadformref22_Mod.c : Code := Try.f81.body.getD .skip
noncomputable def quadformref22_Mod.L : Lam := fun _ i s K => none
theorem quadformref22_Mod.os : AllOk prog quadformref22_Mod.o := trivial
theorem quadformref22_Mod.osB : AllBOk prog quadformref22_Mod.oB := trivial
theorem quadformref22_Mod.hk (x) : semK env (orc quadformref22_Mod.o) (orcB quadformref22_Mod.oB) 15 (quadformref22_Mod.L _) quadformref22_Mod.c quadformref22_Mod.h (S.init (avs [.int .i64, .int .i64] x)) (fin env Try.f81 ⟨[.int .i64, .int .i64], .int .i64, false, false⟩) = quadformref22_Mod.en.g x := by kernel_rfl
theorem quadformref22_Mod.ok : EnOk prog quadformref22_Mod.en := by
  refine fun_ok (g := ⟨[.int .i64, .int .i64], .int .i64, false, false⟩) (h := quadformref22_Mod.h) (Λ := quadformref22_Mod.L) tabs quadformref22_Mod.os quadformref22_Mod.osB Try.func81 (c := quadformref22_Mod.c) (by kernel_rfl) (by decide +kernel) (by decide +kernel) (fun C hC => ?_) (fun x => quadformref22_Mod.hk x)
  exact by
    have e : loops quadformref22_Mod.c quadformref22_Mod.h = [] := by kernel_rfl
    rw [e]
    exact LamOk.nil
noncomputable def quadformref22_Discriminant.j2 (t4 : Int) : Option (Int × Int × Unit) :=
  (some ((IntKind.wrap .i64 ((4 : Int) * t4)), ((0 : Int), ())))
noncomputable def quadformref22_Discriminant.j1 (t4 : Int) : Option (Int × Int × Unit) :=
  ((quadformref22_Mod t4 (4 : Int)).bind fun y2 =>
  (cond ((y2 == (1 : Int)))
  ((some (t4, ((0 : Int), ()))))
  ((quadformref22_Discriminant.j2 t4))))
noncomputable def quadformref22_Discriminant (t0 : Int) : Option (Int × Int × Unit) :=
  ((quadformref22_Squarefree t0).bind fun y1 =>
  (cond ((y1.2.2.1 != (0 : Int)))
  ((some ((0 : Int), (y1.2.2.1, ()))))
  ((quadformref22_Discriminant.j1 y1.1))))
noncomputable def quadformref22_Discriminant.en : En := ⟨47, [.int .i64], .pair (.int .i64) (.pair (.int .i64) (.unit)), true, fun x => quadformref22_Discriminant x.1⟩
noncomputable def quadformref22_Discriminant.o : List En := [quadformref22_Squarefree.en, quadformref22_Mod.en]
noncomputable def quadformref22_Discriminant.oB : List EnB := []
def quadformref22_Discriminant.h : HT := .n
noncomputable def quadformref22_Discriminant.c : Code := Try.f47.body.getD .skip
noncomputable def quadformref22_Discriminant.L : Lam := fun _ i s K => none
theorem quadformref22_Discriminant.os : AllOk prog quadformref22_Discriminant.o := ⟨quadformref22_Squarefree.ok, quadformref22_Mod.ok, trivial⟩
theorem quadformref22_Discriminant.osB : AllBOk prog quadformref22_Discriminant.oB := trivial
theorem quadformref22_Discriminant.hk (x) : semK env (orc quadformref22_Discriminant.o) (orcB quadformref22_Discriminant.oB) 22 (quadformref22_Discriminant.L _) quadformref22_Discriminant.c quadformref22_Discriminant.h (S.init (avs [.int .i64] x)) (fin env Try.f47 ⟨[.int .i64], .pair (.int .i64) (.pair (.int .i64) (.unit)), true, false⟩) = quadformref22_Discriminant.en.g x := by kernel_rfl
theorem quadformref22_Discriminant.ok : EnOk prog quadformref22_Discriminant.en := by
  refine fun_ok (g := ⟨[.int .i64], .pair (.int .i64) (.pair (.int .i64) (.unit)), true, false⟩) (h := quadformref22_Discriminant.h) (Λ := quadformref22_Discriminant.L) tabs quadformref22_Discriminant.os quadformref22_Discriminant.osB Try.func47 (c := quadformref22_Discriminant.c) (by kernel_rfl) (by decide +kernel) (by decide +kernel) (fun C hC => ?_) (fun x => quadformref22_Discriminant.hk x)
  exact by
    have e : loops quadformref22_Discriminant.c quadformref22_Discriminant.h = [] := by kernel_rfl
    rw [e]
    exact LamOk.nil
noncomputable def quadformlaw31_discriminant (t0 : Int) : Option (Int) :=
  ((quadformref22_Discriminant (IntKind.wrap .i64 ((IntKind.wrap .i64 (Int.tmod t0 (100 : Int))) + (IntKind.wrap .i64 ((101 : Int) * (IntKind.wrap .i64 ((1 : Int) - (IntKind.wrap .i64 ((2 : Int) * (Int.tmod (IntKind.wrap .i64 (Int.tdiv (IntKind.wrap .i64 (IntKind.wrap .u16 t0)) (256 : Int))) (2 : Int))))))))))).bind fun y6 =>
  (some y6.1))
noncomputable def quadformlaw31_discriminant.en : En := ⟨22, [.int .i16], .int .i64, false, fun x => quadformlaw31_discriminant x.1⟩
noncomputable def quadformlaw31_discriminant.o : List En := [quadformref22_Discriminant.en]
noncomputable def quadformlaw31_discriminant.oB : List EnB := []
def quadformlaw31_discriminant.h : HT := .n
noncomputable def quadformlaw31_discriminant.c : Code := Try.f22.body.getD .skip
noncomputable def quadformlaw31_discriminant.L : Lam := fun _ i s K => none
theorem quadformlaw31_discriminant.os : AllOk prog quadformlaw31_discriminant.o := ⟨quadformref22_Discriminant.ok, trivial⟩
theorem quadformlaw31_discriminant.osB : AllBOk prog quadformlaw31_discriminant.oB := trivial
theorem quadformlaw31_discriminant.hk (x) : semK env (orc quadformlaw31_discriminant.o) (orcB quadformlaw31_discriminant.oB) 22 (quadformlaw31_discriminant.L _) quadformlaw31_discriminant.c quadformlaw31_discriminant.h (S.init (avs [.int .i16] x)) (fin env Try.f22 ⟨[.int .i16], .int .i64, false, false⟩) = quadformlaw31_discriminant.en.g x := by kernel_rfl
theorem quadformlaw31_discriminant.ok : EnOk prog quadformlaw31_discriminant.en := by
  refine fun_ok (g := ⟨[.int .i16], .int .i64, false, false⟩) (h := quadformlaw31_discriminant.h) (Λ := quadformlaw31_discriminant.L) tabs quadformlaw31_discriminant.os quadformlaw31_discriminant.osB Try.func22 (c := quadformlaw31_discriminant.c) (by kernel_rfl) (by decide +kernel) (by decide +kernel) (fun C hC => ?_) (fun x => quadformlaw31_discriminant.hk x)
  exact by
    have e : loops quadformlaw31_discriminant.c quadformlaw31_discriminant.h = [] := by kernel_rfl
    rw [e]
    exact LamOk.nil
noncomputable def quadformref02_Sub (t0 : (Bool × List Int × Unit) × (Bool × List Int × Unit) × Unit) (t1 : (Bool × List Int × Unit) × (Bool × List Int × Unit) × Unit) : Option ((Bool × List Int × Unit) × (Bool × List Int × Unit) × Unit) :=
  ((quadformref02_Neg ((t1.1.1, (t1.1.2.1, ())), ((t1.2.1.1, (t1.2.1.2.1, ())), ()))).bind fun y1 =>
  ((quadformref02_Add ((t0.1.1, (t0.1.2.1, ())), ((t0.2.1.1, (t0.2.1.2.1, ())), ())) y1).bind fun y2 =>
  (some ((y2.1.1, (y2.1.2.1, ())), ((y2.2.1.1, (y2.2.1.2.1, ())), ())))))
noncomputable def quadformref02_Sub.en : En := ⟨35, [.pair (.pair (.bool) (.pair (.sl (.int .u32)) (.unit))) (.pair (.pair (.bool) (.pair (.sl (.int .u32)) (.unit))) (.unit)), .pair (.pair (.bool) (.pair (.sl (.int .u32)) (.unit))) (.pair (.pair (.bool) (.pair (.sl (.int .u32)) (.unit))) (.unit))], .pair (.pair (.bool) (.pair (.sl (.int .u32)) (.unit))) (.pair (.pair (.bool) (.pair (.sl (.int .u32)) (.unit))) (.unit)), false, fun x => quadformref02_Sub x.1 x.2.1⟩
noncomputable def quadformref02_Sub.o : List En := [quadformref02_Add.en, quadformref02_Neg.en]
noncomputable def quadformref02_Sub.oB : List EnB := []
def quadformref02_Sub.h : HT := .n
noncomputable def quadformref02_Sub.c : Code := Try.f35.body.getD .skip
noncomputable def quadformref02_Sub.L : Lam := fun _ i s K => none
theorem quadformref02_Sub.os : AllOk prog quadformref02_Sub.o := ⟨quadformref02_Add.ok, quadformref02_Neg.ok, trivial⟩
theorem quadformref02_Sub.osB : AllBOk prog quadformref02_Sub.oB := trivial
theorem quadformref02_Sub.hk (x) : semK env (orc quadformref02_Sub.o) (orcB quadformref02_Sub.oB) 9 (quadformref02_Sub.L _) quadformref02_Sub.c quadformref02_Sub.h (S.init (avs [.pair (.pair (.bool) (.pair (.sl (.int .u32)) (.unit))) (.pair (.pair (.bool) (.pair (.sl (.int .u32)) (.unit))) (.unit)), .pair (.pair (.bool) (.pair (.sl (.int .u32)) (.unit))) (.pair (.pair (.bool) (.pair (.sl (.int .u32)) (.unit))) (.unit))] x)) (fin env Try.f35 ⟨[.pair (.pair (.bool) (.pair (.sl (.int .u32)) (.unit))) (.pair (.pair (.bool) (.pair (.sl (.int .u32)) (.unit))) (.unit)), .pair (.pair (.bool) (.pair (.sl (.int .u32)) (.unit))) (.pair (.pair (.bool) (.pair (.sl (.int .u32)) (.unit))) (.unit))], .pair (.pair (.bool) (.pair (.sl (.int .u32)) (.unit))) (.pair (.pair (.bool) (.pair (.sl (.int .u32)) (.unit))) (.unit)), false, false⟩) = quadformref02_Sub.en.g x := by kernel_rfl
theorem quadformref02_Sub.ok : EnOk prog quadformref02_Sub.en := by
  refine fun_ok (g := ⟨[.pair (.pair (.bool) (.pair (.sl (.int .u32)) (.unit))) (.pair (.pair (.bool) (.pair (.sl (.int .u32)) (.unit))) (.unit)), .pair (.pair (.bool) (.pair (.sl (.int .u32)) (.unit))) (.pair (.pair (.bool) (.pair (.sl (.int .u32)) (.unit))) (.unit))], .pair (.pair (.bool) (.pair (.sl (.int .u32)) (.unit))) (.pair (.pair (.bool) (.pair (.sl (.int .u32)) (.unit))) (.unit)), false, false⟩) (h := quadformref02_Sub.h) (Λ := quadformref02_Sub.L) tabs quadformref02_Sub.os quadformref02_Sub.osB Try.func35 (c := quadformref02_Sub.c) (by kernel_rfl) (by decide +kernel) (by decide +kernel) (fun C hC => ?_) (fun x => quadformref02_Sub.hk x)
  exact by
    have e : loops quadformref02_Sub.c quadformref02_Sub.h = [] := by kernel_rfl
    rw [e]
    exact LamOk.nil
noncomputable def quadformref02_Sign (t0 : (Bool × List Int × Unit) × (Bool × List Int × Unit) × Unit) : Option (Int) :=
  ((quadformref02_Normalize ((t0.1.1, (t0.1.2.1, ())), ((t0.2.1.1, (t0.2.1.2.1, ())), ()))).bind fun y1 =>
  ((quadformref01_Sign (y1.1.1, (y1.1.2.1, ()))).bind fun y2 =>
  (some y2)))
noncomputable def quadformref02_Sign.en : En := ⟨58, [.pair (.pair (.bool) (.pair (.sl (.int .u32)) (.unit))) (.pair (.pair (.bool) (.pair (.sl (.int .u32)) (.unit))) (.unit))], .int .i64, false, fun x => quadformref02_Sign x.1⟩
noncomputable def quadformref02_Sign.o : List En := [quadformref01_Sign.en, quadformref02_Normalize.en]
noncomputable def quadformref02_Sign.oB : List EnB := []
def quadformref02_Sign.h : HT := .n
noncomputable def quadformref02_Sign.c : Code := Try.f58.body.getD .skip
noncomputable def quadformref02_Sign.L : Lam := fun _ i s K => none
theorem quadformref02_Sign.os : AllOk prog quadformref02_Sign.o := ⟨quadformref01_Sign.ok, quadformref02_Normalize.ok, trivial⟩
theorem quadformref02_Sign.osB : AllBOk prog quadformref02_Sign.oB := trivial
theorem quadformref02_Sign.hk (x) : semK env (orc quadformref02_Sign.o) (orcB quadformref02_Sign.oB) 7 (quadformref02_Sign.L _) quadformref02_Sign.c quadformref02_Sign.h (S.init (avs [.pair (.pair (.bool) (.pair (.sl (.int .u32)) (.unit))) (.pair (.pair (.bool) (.pair (.sl (.int .u32)) (.unit))) (.unit))] x)) (fin env Try.f58 ⟨[.pair (.pair (.bool) (.pair (.sl (.int .u32)) (.unit))) (.pair (.pair (.bool) (.pair (.sl (.int .u32)) (.unit))) (.unit))], .int .i64, false, false⟩) = quadformref02_Sign.en.g x := by kernel_rfl
theorem quadformref02_Sign.ok : EnOk prog quadformref02_Sign.en := by
  refine fun_ok (g := ⟨[.pair (.pair (.bool) (.pair (.sl (.int .u32)) (.unit))) (.pair (.pair (.bool) (.pair (.sl (.int .u32)) (.unit))) (.unit))], .int .i64, false, false⟩) (h := quadformref02_Sign.h) (Λ := quadformref02_Sign.L) tabs quadformref02_Sign.os quadformref02_Sign.osB Try.func58 (c := quadformref02_Sign.c) (by kernel_rfl) (by decide +kernel) (by decide +kernel) (fun C hC => ?_) (fun x => quadformref02_Sign.hk x)
  exact by
    have e : loops quadformref02_Sign.c quadformref02_Sign.h = [] := by kernel_rfl
    rw [e]
    exact LamOk.nil
noncomputable def quadformref02_Cmp (t0 : (Bool × List Int × Unit) × (Bool × List Int × Unit) × Unit) (t1 : (Bool × List Int × Unit) × (Bool × List Int × Unit) × Unit) : Option (Int) :=
  ((quadformref02_Sub ((t0.1.1, (t0.1.2.1, ())), ((t0.2.1.1, (t0.2.1.2.1, ())), ())) ((t1.1.1, (t1.1.2.1, ())), ((t1.2.1.1, (t1.2.1.2.1, ())), ()))).bind fun y1 =>
  ((quadformref02_Sign y1).bind fun y2 =>
  (some y2)))
noncomputable def quadformref02_Cmp.en : En := ⟨24, [.pair (.pair (.bool) (.pair (.sl (.int .u32)) (.unit))) (.pair (.pair (.bool) (.pair (.sl (.int .u32)) (.unit))) (.unit)), .pair (.pair (.bool) (.pair (.sl (.int .u32)) (.unit))) (.pair (.pair (.bool) (.pair (.sl (.int .u32)) (.unit))) (.unit))], .int .i64, false, fun x => quadformref02_Cmp x.1 x.2.1⟩
noncomputable def quadformref02_Cmp.o : List En := [quadformref02_Sub.en, quadformref02_Sign.en]
noncomputable def quadformref02_Cmp.oB : List EnB := []
def quadformref02_Cmp.h : HT := .n
noncomputable def quadformref02_Cmp.c : Code := Try.f24.body.getD .skip
noncomputable def quadformref02_Cmp.L : Lam := fun _ i s K => none
theorem quadformref02_Cmp.os : AllOk prog quadformref02_Cmp.o := ⟨quadformref02_Sub.ok, quadformref02_Sign.ok, trivial⟩
theorem quadformref02_Cmp.osB : AllBOk prog quadformref02_Cmp.oB := trivial
theorem quadformref02_Cmp.hk (x) : semK env (orc quadformref02_Cmp.o) (orcB quadformref02_Cmp.oB) 9 (quadformref02_Cmp.L _) quadformref02_Cmp.c quadformref02_Cmp.h (S.init (avs [.pair (.pair (.bool) (.pair (.sl (.int .u32)) (.unit))) (.pair (.pair (.bool) (.pair (.sl (.int .u32)) (.unit))) (.unit)), .pair (.pair (.bool) (.pair (.sl (.int .u32)) (.unit))) (.pair (.pair (.bool) (.pair (.sl (.int .u32)) (.unit))) (.unit))] x)) (fin env Try.f24 ⟨[.pair (.pair (.bool) (.pair (.sl (.int .u32)) (.unit))) (.pair (.pair (.bool) (.pair (.sl (.int .u32)) (.unit))) (.unit)), .pair (.pair (.bool) (.pair (.sl (.int .u32)) (.unit))) (.pair (.pair (.bool) (.pair (.sl (.int .u32)) (.unit))) (.unit))], .int .i64, false, false⟩) = quadformref02_Cmp.en.g x := by kernel_rfl
theorem quadformref02_Cmp.ok : EnOk prog quadformref02_Cmp.en := by
  refine fun_ok (g := ⟨[.pair (.pair (.bool) (.pair (.sl (.int .u32)) (.unit))) (.pair (.pair (.bool) (.pair (.sl (.int .u32)) (.unit))) (.unit)), .pair (.pair (.bool) (.pair (.sl (.int .u32)) (.unit))) (.pair (.pair (.bool) (.pair (.sl (.int .u32)) (.unit))) (.unit))], .int .i64, false, false⟩) (h := quadformref02_Cmp.h) (Λ := quadformref02_Cmp.L) tabs quadformref02_Cmp.os quadformref02_Cmp.osB Try.func24 (c := quadformref02_Cmp.c) (by kernel_rfl) (by decide +kernel) (by decide +kernel) (fun C hC => ?_) (fun x => quadformref02_Cmp.hk x)
  exact by
    have e : loops quadformref02_Cmp.c quadformref02_Cmp.h = [] := by kernel_rfl
    rw [e]
    exact LamOk.nil
noncomputable def quadformlaw31_BernoulliClasses.j5 (t3 : Int) (t4 : Int) (t5 : Int) (t6 : Int) : Option ((Int × Int × Int × Int × Unit) ⊕ ((Int × Int × Int × Unit))) :=
  (some (.inl (t3, t4, t5, (IntKind.wrap .i64 (t6 + (1 : Int))), ())))
noncomputable def quadformlaw31_BernoulliClasses.j4 (t3 : Int) (t4 : Int) (t5 : Int) (t6 : Int) : Option ((Int × Int × Int × Int × Unit) ⊕ ((Int × Int × Int × Unit))) :=
  (cond (decide ((IntKind.wrap .i64 ((4 : Int) * t5)) = 0))
  none
  (let x8 := (IntKind.wrap .i64 (Int.tdiv (IntKind.wrap .i64 ((IntKind.wrap .i64 (t6 * t6)) - t3)) (IntKind.wrap .i64 ((4 : Int) * t5))))
  (cond ((decide (x8 > t5)))
  ((some (.inl (t3, (IntKind.wrap .i64 (t4 + (1 : Int))), t5, (IntKind.wrap .i64 (t6 + (1 : Int))), ()))))
  ((cond ((x8 == t5))
  ((cond ((decide (t6 ≥ (0 : Int))))
  ((quadformlaw31_BernoulliClasses.j5 t3 (IntKind.wrap .i64 (t4 + (1 : Int))) t5 t6))
  ((quadformlaw31_BernoulliClasses.j5 t3 t4 t5 t6))))
  ((some (.inl (t3, t4, t5, (IntKind.wrap .i64 (t6 + (1 : Int))), ())))))))))
noncomputable def quadformlaw31_BernoulliClasses.j3 (t3 : Int) (t4 : Int) (t5 : Int) (t6 : Int) : Option ((Int × Int × Int × Int × Unit) ⊕ ((Int × Int × Int × Unit))) :=
  (cond (decide ((IntKind.wrap .i64 ((4 : Int) * t5)) = 0))
  none
  ((cond (((Int.tmod (IntKind.wrap .i64 ((IntKind.wrap .i64 (t6 * t6)) - t3)) (IntKind.wrap .i64 ((4 : Int) * t5))) != (0 : Int)))
  ((some (.inl (t3, t4, t5, (IntKind.wrap .i64 (t6 + (1 : Int))), ()))))
  ((quadformlaw31_BernoulliClasses.j4 t3 t4 t5 t6)))))
noncomputable def quadformlaw31_BernoulliClasses.s0 (t3 : Int) (t4 : Int) (t5 : Int) (t6 : Int) : Option ((Int × Int × Int × Int × Unit) ⊕ ((Int × Int × Int × Unit))) :=
  (cond ((decide (t6 ≤ t5)))
  ((quadformlaw31_BernoulliClasses.j3 t3 t4 t5 t6))
  ((some (.inr (t3, t4, t5, ())))))
noncomputable def quadformlaw31_BernoulliClasses.k0 (t3 : Int) (t4 : Int) (t5 : Int) : Option ((Int × Int × Int × Unit) ⊕ ((Int × Int × Unit))) :=
  (some (.inl (t3, t4, (IntKind.wrap .i64 (t5 + (1 : Int))), ())))
noncomputable def quadformlaw31_BernoulliClasses.j2 (t3 : Int) (t4 : Int) (t5 : Int) : Option ((Int × Int × Int × Unit) ⊕ ((Int × Int × Unit))) :=
  ((iterL (fun x : Int × Int × Int × Int × Unit => quadformlaw31_BernoulliClasses.s0 x.1 x.2.1 x.2.2.1 x.2.2.2.1) (t3, t4, t5, (IntKind.wrap .i64 ((1 : Int) - t5)), ())).bind fun y => quadformlaw31_BernoulliClasses.k0 y.1 y.2.1 y.2.2.1)
noncomputable def quadformlaw31_BernoulliClasses.s1 (t3 : Int) (t4 : Int) (t5 : Int) : Option ((Int × Int × Int × Unit) ⊕ ((Int × Int × Unit))) :=
  (cond ((decide ((IntKind.wrap .i64 ((IntKind.wrap .i64 ((3 : Int) * t5)) * t5)) ≤ (IntKind.wrap .i64 (0 - t3)))))
  ((quadformlaw31_BernoulliClasses.j2 t3 t4 t5))
  ((some (.inr (t3, t4, ())))))
noncomputable def quadformlaw31_BernoulliClasses.k1 (t3 : Int) (t4 : Int) : Option (Bool) :=
  ((bernoulli_Generalized (1 : Int) t3).bind fun y9 =>
  (cond ((y9.2.1 == (0 : Int)))
  (((quadformref02_Small (IntKind.wrap .i64 (0 - t4))).bind fun y10 =>
  ((quadformref02_Cmp ((y9.1.1.1, (y9.1.1.2.1, ())), ((y9.1.2.1.1, (y9.1.2.1.2.1, ())), ())) y10).bind fun y11 =>
  (cond ((y11 == (0 : Int)))
  (((quadformlaw31_awake).bind fun y12 =>
  (some y12)))
  ((some false))))))
  ((some false))))
noncomputable def quadformlaw31_BernoulliClasses.j1 (t3 : Int) : Option (Bool) :=
  ((iterL (fun x : Int × Int × Int × Unit => quadformlaw31_BernoulliClasses.s1 x.1 x.2.1 x.2.2.1) (t3, (0 : Int), (1 : Int), ())).bind fun y => quadformlaw31_BernoulliClasses.k1 y.1 y.2.1)
noncomputable def quadformlaw31_BernoulliClasses (t0 : Int) : Option (Bool) :=
  ((quadformlaw31_discriminant t0).bind fun y1 =>
  (cond ((decide (y1 ≥ (-4 : Int))))
  (((quadformlaw31_awake).bind fun y2 =>
  (some y2)))
  ((quadformlaw31_BernoulliClasses.j1 y1))))
noncomputable def quadformlaw31_BernoulliClasses.en : En := ⟨6, [.int .i16], .bool, false, fun x => quadformlaw31_BernoulliClasses x.1⟩
noncomputable def quadformlaw31_BernoulliClasses.o : List En := [quadformlaw31_awake.en, quadformlaw31_discriminant.en, bernoulli_Generalized.en, quadformref02_Cmp.en, quadformref02_Small.en]
noncomputable def quadformlaw31_BernoulliClasses.oB : List EnB := []
def quadformlaw31_BernoulliClasses.h : HT := .two (.n) (.two (.n) (.two (.n) (.two (.n) (.two (.two (.n) (.lp 1)) (.n)))))
noncomputable def quadformlaw31_BernoulliClasses.c : Code := Try.f6.body.getD .skip
def quadformlaw31_BernoulliClasses.h1 : HT := .two (.n) (.two (.two (.n) (.lp 0)) (.n))
noncomputable def quadformlaw31_BernoulliClasses.c1 : Code := (find (loops quadformlaw31_BernoulliClasses.c quadformlaw31_BernoulliClasses.h) 1).getD .skip
def quadformlaw31_BernoulliClasses.d1 : Fm := [.v 3 (.int .i64), .v 4 (.int .i64), .v 5 (.int .i64)]
def quadformlaw31_BernoulliClasses.x1 : Xs := [(.exit 0, [.v 3 (.int .i64), .v 4 (.int .i64)])]
noncomputable def quadformlaw31_BernoulliClasses.r1 (x : (Fm.ty quadformlaw31_BernoulliClasses.d1).den) : Option ((Fm.ty quadformlaw31_BernoulliClasses.d1).den ⊕ (Xs.T quadformlaw31_BernoulliClasses.x1)) := quadformlaw31_BernoulliClasses.s1 x.1 x.2.1 x.2.2.1
def quadformlaw31_BernoulliClasses.h0 : HT := .n
noncomputable def quadformlaw31_BernoulliClasses.c0 : Code := (find (loops quadformlaw31_BernoulliClasses.c1 quadformlaw31_BernoulliClasses.h1) 0).getD .skip
def quadformlaw31_BernoulliClasses.d0 : Fm := [.v 3 (.int .i64), .v 4 (.int .i64), .v 5 (.int .i64), .v 6 (.int .i64)]
def quadformlaw31_BernoulliClasses.x0 : Xs := [(.exit 2, [.v 3 (.int .i64), .v 4 (.int .i64), .v 5 (.int .i64)])]
noncomputable def quadformlaw31_BernoulliClasses.r0 (x : (Fm.ty quadformlaw31_BernoulliClasses.d0).den) : Option ((Fm.ty quadformlaw31_BernoulliClasses.d0).den ⊕ (Xs.T quadformlaw31_BernoulliClasses.x0)) := quadformlaw31_BernoulliClasses.s0 x.1 x.2.1 x.2.2.1 x.2.2.2.1
noncomputable def quadformlaw31_BernoulliClasses.L : Lam := fun _ i s K => cond (Nat.beq i 0) (lamK quadformlaw31_BernoulliClasses.d0 quadformlaw31_BernoulliClasses.x0 quadformlaw31_BernoulliClasses.r0 s K) (cond (Nat.beq i 1) (lamK quadformlaw31_BernoulliClasses.d1 quadformlaw31_BernoulliClasses.x1 quadformlaw31_BernoulliClasses.r1 s K) (none))
theorem quadformlaw31_BernoulliClasses.hf0 (x) : roundK env (orc quadformlaw31_BernoulliClasses.o) (orcB quadformlaw31_BernoulliClasses.oB) 80 quadformlaw31_BernoulliClasses.L quadformlaw31_BernoulliClasses.c0 quadformlaw31_BernoulliClasses.h0 quadformlaw31_BernoulliClasses.d0 quadformlaw31_BernoulliClasses.x0 x = quadformlaw31_BernoulliClasses.r0 x := by kernel_rfl
theorem quadformlaw31_BernoulliClasses.hf1 (x) : roundK env (orc quadformlaw31_BernoulliClasses.o) (orcB quadformlaw31_BernoulliClasses.oB) 80 quadformlaw31_BernoulliClasses.L quadformlaw31_BernoulliClasses.c1 quadformlaw31_BernoulliClasses.h1 quadformlaw31_BernoulliClasses.d1 quadformlaw31_BernoulliClasses.x1 x = quadformlaw31_BernoulliClasses.r1 x := by kernel_rfl
theorem quadformlaw31_BernoulliClasses.os : AllOk prog quadformlaw31_BernoulliClasses.o := ⟨quadformlaw31_awake.ok, quadformlaw31_discriminant.ok, bernoulli_Generalized.ok, quadformref02_Cmp.ok, quadformref02_Small.ok, trivial⟩
theorem quadformlaw31_BernoulliClasses.osB : AllBOk prog quadformlaw31_BernoulliClasses.oB := trivial
theorem quadformlaw31_BernoulliClasses.l0 {C : Ctx} (hC : C.n = 80) : LamAt prog C quadformlaw31_BernoulliClasses.L 0 quadformlaw31_BernoulliClasses.c0 := by
  intro R s K r hk
  refine loop_ok (D := quadformlaw31_BernoulliClasses.d0) (X := quadformlaw31_BernoulliClasses.x0) (h := quadformlaw31_BernoulliClasses.h0) (f := quadformlaw31_BernoulliClasses.r0) tabs (orc_ok _ quadformlaw31_BernoulliClasses.os) (orcB_ok _ quadformlaw31_BernoulliClasses.osB) (fun x => by rw [hC]; exact quadformlaw31_BernoulliClasses.hf0 x) (Λ := quadformlaw31_BernoulliClasses.L) ?_ (by kernel_rfl) (by kernel_rfl) (K := K) (s := s) (by exact hk)
  exact by
    have e : loops quadformlaw31_BernoulliClasses.c0 quadformlaw31_BernoulliClasses.h0 = [] := by kernel_rfl
    rw [e]
    exact LamOk.nil
theorem quadformlaw31_BernoulliClasses.l1 {C : Ctx} (hC : C.n = 80) : LamAt prog C quadformlaw31_BernoulliClasses.L 1 quadformlaw31_BernoulliClasses.c1 := by
  intro R s K r hk
  refine loop_ok (D := quadformlaw31_BernoulliClasses.d1) (X := quadformlaw31_BernoulliClasses.x1) (h := quadformlaw31_BernoulliClasses.h1) (f := quadformlaw31_BernoulliClasses.r1) tabs (orc_ok _ quadformlaw31_BernoulliClasses.os) (orcB_ok _ quadformlaw31_BernoulliClasses.osB) (fun x => by rw [hC]; exact quadformlaw31_BernoulliClasses.hf1 x) (Λ := quadformlaw31_BernoulliClasses.L) ?_ (by kernel_rfl) (by kernel_rfl) (K := K) (s := s) (by exact hk)
  exact by
    have e : loops quadformlaw31_BernoulliClasses.c1 quadformlaw31_BernoulliClasses.h1 = [(0, quadformlaw31_BernoulliClasses.c0)] := by kernel_rfl
    rw [e]
    exact LamOk.cons (quadformlaw31_BernoulliClasses.l0 hC) (LamOk.nil)
theorem quadformlaw31_BernoulliClasses.hk (x) : semK env (orc quadformlaw31_BernoulliClasses.o) (orcB quadformlaw31_BernoulliClasses.oB) 80 (quadformlaw31_BernoulliClasses.L _) quadformlaw31_BernoulliClasses.c quadformlaw31_BernoulliClasses.h (S.init (avs [.int .i16] x)) (fin env Try.f6 ⟨[.int .i16], .bool, false, false⟩) = quadformlaw31_BernoulliClasses.en.g x := by kernel_rfl
theorem quadformlaw31_BernoulliClasses.ok : EnOk prog quadformlaw31_BernoulliClasses.en := by
  refine fun_ok (g := ⟨[.int .i16], .bool, false, false⟩) (h := quadformlaw31_BernoulliClasses.h) (Λ := quadformlaw31_BernoulliClasses.L) tabs quadformlaw31_BernoulliClasses.os quadformlaw31_BernoulliClasses.osB Try.func6 (c := quadformlaw31_BernoulliClasses.c) (by kernel_rfl) (by decide +kernel) (by decide +kernel) (fun C hC => ?_) (fun x => quadformlaw31_BernoulliClasses.hk x)
  exact by
    have e : loops quadformlaw31_BernoulliClasses.c quadformlaw31_BernoulliClasses.h = [(1, quadformlaw31_BernoulliClasses.c1)] := by kernel_rfl
    rw [e]
    exact LamOk.cons (quadformlaw31_BernoulliClasses.l1 hC) (LamOk.nil)
end Go.Proofs.Ytbchgegclgpdhaa.E
/- Functions of the program as_ functions on values, without fuel, and that the evaluator computes them (printed by gen.py). -/
namespace Go.Proofs.Ytbchgegclgpdhaa.E
open Go
set_option linter.unusedVariables false
set_option maxRecDepth 100000
end Go.Proofs.Ytbchgegclgpdhaa.E
/- All functions. -/
/- Laws of the functions on values: words for all; trim, signs, small numbers, comparison. -/
namespace Go.Proofs.Ytbchgegclgpdhaa.V
open Go Go.Proofs.Ytbchgegclgpdhaa.E Go.Proofs.Ytbchgegclgpdhaa.LI
set_option linter.unusedVariables false
set_option linter.unusedSimpArgs false
theorem wi64 {x : Int} (h : -9223372036854775808 ≤ x) (h' : x ≤ 9223372036854775807) : IntKind.wrap .i64 x = x := by
  simp [IntKind.wrap, IntKind.bits, IntKind.signed]; omega
theorem wu64 (x : Int) : IntKind.wrap .u64 x = x % 18446744073709551616 := by simp [IntKind.wrap, IntKind.bits, IntKind.signed]
theorem wu32 (x : Int) : IntKind.wrap .u32 x = x % 4294967296 := by simp [IntKind.wrap, IntKind.bits, IntKind.signed]
theorem wu64' {x : Int} (h : 0 ≤ x) (h' : x < 18446744073709551616) : IntKind.wrap .u64 x = x := by rw [wu64]; omega
theorem wu32' {x : Int} (h : 0 ≤ x) (h' : x < 4294967296) : IntKind.wrap .u32 x = x := by rw [wu32]; omega
theorem cite {α : Type} (c : Bool) (a b : α) : cond c a b = if c = true then a else b := by cases c <;> rfl
theorem inB_t (i : Int) (n : Nat) : (inB i n = true) = (0 ≤ i ∧ i < n) := by simp [inB]
theorem inC_t (i : Int) (n : Nat) : (inC i n = true) = (0 ≤ i ∧ i ≤ n) := by simp [inC]
theorem up {i : Nat} (h : i < 9223372036854775807) : IntKind.wrap .i64 ((i : Int) + 1) = ((i + 1 : Nat) : Int) := by rw [wi64 (by omega) (by omega)]; rfl
theorem down {i : Nat} (h : i < 9223372036854775807) : IntKind.wrap .i64 (((i + 1 : Nat) : Int) - 1) = (i : Int) := by rw [wi64 (by omega) (by omega)]; omega
theorem gd {l : List Int} (h : Lim l) (i : Nat) : l.getD i 0 = ((dg l i : Nat) : Int) := (dg_int h i).symm
theorem maxL_eq : maxL = 1073741824 := rfl
theorem trim_s_same : quadformref01_trim.s0 = integer_trim.s0 := rfl
theorem trim_loop {l : List Int} (hl : Lim l) (hn : l.length < 17592186044416) : ∀ j, j ≤ l.length → lv (l.take j) = lv l →
    ∃ j' : Nat, j' ≤ l.length ∧ l.take j' = limbs (lv l) ∧ iterL (fun x : List Int × Int × Unit => integer_trim.s0 x.1 x.2.1) (l, (j : Int), ()) = some (l, (j' : Int), ()) := by
  intro j
  induction j with
  | zero =>
    intro _ h
    refine ⟨0, Nat.zero_le _, by rw [← h]; rfl, iterL_done ?_⟩
    simp only [integer_trim.s0, cite, decide_eq_true_eq]
    rw [if_neg (by omega)]
  | succ j ih =>
    intro hj h
    by_cases h0 : dg l j = 0
    · obtain ⟨j', h1, h2, h3⟩ := ih (by omega) (by rw [lv_take_succ, h0] at h; simpa using h)
      refine ⟨j', h1, h2, (iterL_next ?_).trans h3⟩
      simp only [integer_trim.s0, integer_trim.j1, cite, decide_eq_true_eq, inB_t, beq_iff_eq]
      rw [down (by omega), Int.toNat_natCast, gd hl, h0, if_pos (by omega), if_pos (by omega), if_pos (by omega)]
    · refine ⟨j + 1, hj, ?_, iterL_done ?_⟩
      · rw [← h, limbs_lv (hl.take _) (fun hne e => ?_)]
        apply h0
        rw [List.getLast_eq_getElem] at e
        simp only [List.getElem_take, List.length_take, Nat.min_eq_left hj, Nat.add_sub_cancel] at e
        simp only [dg, List.getD, List.getElem?_eq_getElem (show j < l.length by omega), Option.getD_some, e]
        rfl
      · simp only [integer_trim.s0, integer_trim.j1, cite, decide_eq_true_eq, inB_t, beq_iff_eq]
        rw [down (by omega), Int.toNat_natCast, gd hl, if_pos (by omega), if_pos (by omega), if_neg (by omega)]
theorem trim_ok {l : List Int} (hl : Lim l) (hn : l.length < 17592186044416) : integer_trim l = some (limbs (lv l)) := by
  obtain ⟨j, h1, h2, h3⟩ := trim_loop hl hn l.length (Nat.le_refl _) (by rw [List.take_length])
  unfold integer_trim
  rw [h3, Option.bind_some]
  simp only [integer_trim.k0, cite, inC_t, Bool.and_eq_true, decide_eq_true_eq]
  rw [if_pos (by omega), if_pos (by omega), Int.toNat_natCast, h2]
theorem rtrim_ok {l : List Int} (hl : Lim l) (hn : l.length ≤ 1073741824) : quadformref01_trim l = some (limbs (lv l)) := by
  obtain ⟨j, h1, h2, h3⟩ := trim_loop hl (by omega) l.length (Nat.le_refl _) (by rw [List.take_length])
  unfold quadformref01_trim
  rw [trim_s_same, h3, Option.bind_some]
  simp only [quadformref01_trim.k0, cite, inC_t, decide_eq_true_eq, maxL_eq]
  rw [if_pos (by omega), if_pos (by simp; omega), Int.toNat_natCast, h2]
theorem iv_t (l : List Int) : iv true l = -(lv l : Int) := rfl
theorem iv_f (l : List Int) : iv false l = (lv l : Int) := rfl
/-- An integer as_ the program holds it. -/
def mkI (z : Int) : Bool × List Int × Unit := (decide (z < 0), limbs z.natAbs, ())
theorem limbs_len0 (n : Nat) : (((limbs n).length : Int) = 0) = (n = 0) := by
  have := @limbs_len_pos n
  apply propext
  constructor
  · intro h; by_cases h0 : n = 0
    · exact h0
    · have := this.2 h0; omega
  · rintro rfl; rfl
theorem signed_ok {l : List Int} (neg : Bool) (hl : Lim l) (hn : l.length < 17592186044416) : integer_signed neg l = some (mkI (iv neg l)) := by
  unfold integer_signed
  rw [trim_ok hl hn, Option.bind_some]
  simp only [integer_signed.j1, cite, beq_iff_eq, limbs_len0]
  by_cases h : lv l = 0
  · rw [if_pos h]
    have : iv neg l = 0 := by unfold iv; cases neg <;> simp [h]
    rw [this]; rfl
  · rw [if_neg h]
    cases neg with
    | true =>
      have e : decide (iv true l < 0) = true := by simp only [iv, if_true, decide_eq_true_eq]; omega
      simp only [mkI, iv_natAbs, e]
    | false =>
      have e : decide (iv false l < 0) = false := by simp only [iv, decide_eq_false_iff_not]; simp
      simp only [mkI, iv_natAbs, e]
theorem magnitude_ok {l : List Int} (neg : Bool) (u : Unit) (hl : Lim l) (hn : l.length < 17592186044416) : integer_magnitude (neg, l, u) = some (limbs (lv l)) := by
  unfold integer_magnitude
  rw [trim_ok hl hn]; rfl
theorem sign_ok {l : List Int} (neg : Bool) (u : Unit) (hl : Lim l) (hn : l.length < 17592186044416) : integer_Sign (neg, l, u) = some (if iv neg l = 0 then 0 else if iv neg l < 0 then -1 else 1) := by
  unfold integer_Sign
  rw [magnitude_ok neg _ hl hn, Option.bind_some]
  simp only [integer_Sign.j1, integer_Sign.j2, cite, beq_iff_eq, limbs_len0]
  cases neg with
  | true =>
    rw [iv_t]
    by_cases h : lv l = 0
    · rw [if_pos h, if_pos (by omega)]
    · rw [if_neg h, if_pos rfl, if_neg (by omega), if_pos (by omega)]
  | false =>
    rw [iv_f]
    by_cases h : lv l = 0
    · rw [if_pos h, if_pos (by omega)]
    · rw [if_neg h, if_neg (by simp), if_neg (by omega), if_neg (by omega)]
theorem make_ok {l : List Int} (neg : Bool) (hl : Lim l) (hn : l.length ≤ 1073741824) : quadformref01_Make neg l = some (mkI (iv neg l)) := by
  unfold quadformref01_Make
  rw [rtrim_ok hl hn, Option.bind_some]
  have hp := @limbs_len_pos (lv l)
  cases neg with
  | true =>
    rw [show mkI (iv true l) = (decide (iv true l < 0), limbs (iv true l).natAbs, ()) from rfl, iv_natAbs, iv_t, cond_true]
    congr 2
    by_cases h : lv l = 0
    · have h2 : ¬ 0 < (limbs (lv l)).length := fun h3 => hp.1 h3 h
      rw [decide_eq_false (by omega), decide_eq_false (by omega)]
    · have h2 := hp.2 h
      rw [decide_eq_true (by omega), decide_eq_true (by omega)]
  | false =>
    rw [show mkI (iv false l) = (decide (iv false l < 0), limbs (iv false l).natAbs, ()) from rfl, iv_natAbs, iv_f, cond_false, decide_eq_false (by omega)]
theorem rsign_ok {l : List Int} (neg : Bool) (u : Unit) (hl : Lim l) (hn : l.length ≤ 1073741824) : quadformref01_Sign (neg, l, u) = some (if iv neg l = 0 then 0 else if iv neg l < 0 then -1 else 1) := by
  unfold quadformref01_Sign
  rw [rtrim_ok hl hn, Option.bind_some]
  simp only [quadformref01_Sign.j1, quadformref01_Sign.j2, cite, beq_iff_eq, limbs_len0]
  cases neg with
  | true =>
    rw [iv_t]
    by_cases h : lv l = 0
    · rw [if_pos h, if_pos (by omega)]
    · rw [if_neg h, if_pos rfl, if_neg (by omega), if_pos (by omega)]
  | false =>
    rw [iv_f]
    by_cases h : lv l = 0
    · rw [if_pos h, if_pos (by omega)]
    · rw [if_neg h, if_neg (by simp), if_neg (by omega), if_neg (by omega)]
theorem lv_two {u : Nat} (hu : u < 18446744073709551616) : lv [((u % 4294967296 : Nat) : Int), ((u / 4294967296 : Nat) : Int)] = u ∧ Lim [((u % 4294967296 : Nat) : Int), ((u / 4294967296 : Nat) : Int)] := by
  constructor
  · simp only [lv, Int.toNat_natCast]; omega
  · exact Lim.mk (by omega) (Lim.one (by omega))
theorem two_words {u : Nat} (hu : u < 18446744073709551616) : ([IntKind.wrap .u32 (u : Int), IntKind.wrap .u32 (shrI .u64 (u : Int) 32)] : List Int) = [((u % 4294967296 : Nat) : Int), ((u / 4294967296 : Nat) : Int)] := by
  have h1 : shrI .u64 (u : Int) 32 = ((u / 4294967296 : Nat) : Int) := by
    simp only [shrI, IntKind.bits]
    rw [show min (32 : Int).toNat 64 = 32 from rfl, show (2 : Int) ^ 32 = 4294967296 from rfl, Int.fdiv_eq_ediv_of_nonneg _ (by decide)]; omega
  rw [h1, wu32, wu32]
  congr 1
  congr 1
  omega
theorem word_ok (neg : Bool) {u : Nat} (hu : u < 18446744073709551616) : quadformref01_word neg (u : Int) = some (mkI (if neg = true then -(u : Int) else u)) := by
  obtain ⟨h1, h2⟩ := lv_two hu
  unfold quadformref01_word
  rw [two_words hu, make_ok neg h2 (by simp), Option.bind_some]
  have : iv neg [((u % 4294967296 : Nat) : Int), ((u / 4294967296 : Nat) : Int)] = if neg = true then -(u : Int) else u := by
    cases neg with
    | true => rw [iv_t, h1]; rfl
    | false => rw [iv_f, h1]; rfl
  rw [this]
theorem rsmall_ok {n : Int} (h : -9223372036854775808 ≤ n) (h' : n ≤ 9223372036854775807) : quadformref01_Small n = some (mkI n) := by
  unfold quadformref01_Small
  simp only [cite, decide_eq_true_eq]
  by_cases h0 : n < 0
  · rw [if_pos h0]
    have : IntKind.wrap .u64 (0 - IntKind.wrap .u64 n) = ((n.natAbs : Nat) : Int) := by rw [wu64, wu64]; omega
    rw [this, word_ok true (by omega), Option.bind_some, if_pos rfl, show -((n.natAbs : Nat) : Int) = n by omega]
  · rw [if_neg h0]
    have : IntKind.wrap .u64 n = ((n.natAbs : Nat) : Int) := by rw [wu64]; omega
    unfold quadformref01_Small.j1
    rw [this, word_ok false (by omega), Option.bind_some, if_neg (by decide), show ((n.natAbs : Nat) : Int) = n by omega]
theorem small_ok {n : Int} (h : -9223372036854775808 ≤ n) (h' : n ≤ 9223372036854775807) : integer_Small n = some (mkI n) := by
  unfold integer_Small
  simp only [cite, decide_eq_true_eq]
  have key : ∀ b : List Int, integer_Small.j1 n ((n.natAbs : Nat) : Int) b = some (mkI n) := fun b => by
    obtain ⟨h1, h2⟩ := lv_two (u := n.natAbs) (by omega)
    unfold integer_Small.j1
    rw [two_words (by omega), signed_ok _ h2 (by simp), Option.bind_some]
    have : iv (decide (n < 0)) [((n.natAbs % 4294967296 : Nat) : Int), ((n.natAbs / 4294967296 : Nat) : Int)] = n := by
      by_cases h0 : n < 0
      · rw [decide_eq_true h0, iv_t, h1]; omega
      · rw [decide_eq_false h0, iv_f, h1]; omega
    rw [this]
  by_cases h0 : n < 0
  · rw [if_pos h0, show IntKind.wrap .u64 (0 - IntKind.wrap .u64 n) = ((n.natAbs : Nat) : Int) by rw [wu64, wu64]; omega]
    exact key _
  · rw [if_neg h0, show IntKind.wrap .u64 n = ((n.natAbs : Nat) : Int) by rw [wu64]; omega]
    exact key _
end Go.Proofs.Ytbchgegclgpdhaa.V
/- Laws of integer: limb, plus, minus, compare, shortDivide. -/
namespace Go.Proofs.Ytbchgegclgpdhaa.V
open Go Go.Proofs.Ytbchgegclgpdhaa.E Go.Proofs.Ytbchgegclgpdhaa.LI
set_option linter.unusedVariables false
set_option linter.unusedSimpArgs false
theorem orI_nat (a b : Nat) (ha : a < 18446744073709551616) (hb : b < 18446744073709551616) : orI .u64 (a : Int) (b : Int) = ((a ||| b : Nat) : Int) := by
  have h0 : orI .u64 (a : Int) (b : Int) = IntKind.wrap .u64 (((BitVec.ofInt 64 (a : Int) ||| BitVec.ofInt 64 (b : Int)).toNat : Nat) : Int) := rfl
  rw [h0, wu64, BitVec.ofInt_natCast, BitVec.ofInt_natCast, BitVec.toNat_or, BitVec.toNat_ofNat, BitVec.toNat_ofNat, Nat.mod_eq_of_lt ha, Nat.mod_eq_of_lt hb]
  have : a ||| b < 2 ^ 64 := Nat.or_lt_two_pow ha hb
  omega
theorem or_add {a b i : Nat} (hb : b < 2 ^ i) (h : 2 ^ i * a + b < 18446744073709551616) : orI .u64 ((2 ^ i * a : Nat) : Int) (b : Int) = ((2 ^ i * a + b : Nat) : Int) := by
  rw [orI_nat _ _ (by omega) (by omega), ← Nat.two_pow_add_eq_or_of_lt hb]
theorem shl_nat {a i : Nat} (hi : i ≤ 64) (h : a * 2 ^ i < 18446744073709551616) : shlI .u64 (a : Int) (i : Int) = ((2 ^ i * a : Nat) : Int) := by
  unfold shlI
  rw [wu64, show min (i : Int).toNat IntKind.u64.bits = i by rw [Int.toNat_natCast]; exact Nat.min_eq_left hi]
  have : (a : Int) * 2 ^ i = ((a * 2 ^ i : Nat) : Int) := by push_cast; rfl
  rw [this, Nat.mul_comm]
  rw [Nat.mul_comm] at h
  omega
theorem shr_nat {a i : Nat} (hi : i ≤ 64) : shrI .u64 (a : Int) (i : Int) = ((a / 2 ^ i : Nat) : Int) := by
  unfold shrI
  rw [show min (i : Int).toNat IntKind.u64.bits = i by rw [Int.toNat_natCast]; exact Nat.min_eq_left hi]
  have : (2 : Int) ^ i = ((2 ^ i : Nat) : Int) := by push_cast; rfl
  rw [this, Int.fdiv_eq_ediv_of_nonneg _ (Int.natCast_nonneg _)]
  rfl
/-- Two words side by side. -/
theorem pack {a b : Nat} (ha : a < 4294967296) (hb : b < 4294967296) : orI .u64 (shlI .u64 (a : Int) 32) (IntKind.wrap .u64 (b : Int)) = ((4294967296 * a + b : Nat) : Int) := by
  have h1 := @shl_nat a 32 (by omega) (by omega)
  have h2 := @or_add a b 32 (by omega) (by omega)
  rw [show ((32 : Nat) : Int) = 32 from rfl] at h1
  rw [wu64' (by omega) (by omega), h1, h2]
theorem hi_word (a : Nat) : shrI .u64 (a : Int) 32 = ((a / 4294967296 : Nat) : Int) := @shr_nat a 32 (by omega)
theorem top_bit (a : Nat) : shrI .u64 (a : Int) 63 = ((a / 9223372036854775808 : Nat) : Int) := @shr_nat a 63 (by omega)
theorem drop_set (a : List Int) (k : Nat) (x : Int) (hk : k < a.length) : (a.set k x).drop k = x :: a.drop (k + 1) := by
  rw [List.drop_eq_getElem_cons (by simpa using hk), List.drop_set, if_pos (Nat.lt_succ_self k)]
  simp
theorem lv_cons (x : Nat) (l : List Int) : lv ((x : Int) :: l) = x + 4294967296 * lv l := by simp [lv]
theorem short_loop {l : List Int} (hl : Lim l) (hn : l.length < 17592186044416) {d : Nat} (hd : 0 < d) (hd2 : d < 4294967296) : ∀ k, k ≤ l.length → ∀ a : List Int, a.length = l.length → Lim a → lv (a.drop k) = lv (l.drop k) / d →
    ∃ a', iterL (fun x : List Int × Int × Int × Int × List Int × Unit => integer_shortDivide.s0 x.1 x.2.1 x.2.2.1 x.2.2.2.1 x.2.2.2.2.1) (l, (d : Int), ((lv (l.drop k) % d : Nat) : Int), (k : Int) - 1, a, ()) = some (((lv l % d : Nat) : Int), a', ()) ∧
      a'.length = l.length ∧ Lim a' ∧ lv a' = lv l / d := by
  intro k
  induction k with
  | zero =>
    intro _ a h1 h2 h3
    refine ⟨a, iterL_done ?_, h1, h2, by simpa using h3⟩
    simp only [integer_shortDivide.s0, cite, decide_eq_true_eq]
    rw [if_neg (by omega)]
    simp
  | succ k ih =>
    intro hk a h1 h2 h3
    have hr : lv (l.drop (k + 1)) % d < d := Nat.mod_lt _ hd
    have hx := dg_lt hl k
    have hq : (4294967296 * (lv (l.drop (k + 1)) % d) + dg l k) / d < 4294967296 := by
      rw [Nat.div_lt_iff_lt_mul hd]
      have : 4294967296 * (lv (l.drop (k + 1)) % d) + 4294967296 ≤ 4294967296 * d := by
        have : 4294967296 * (lv (l.drop (k + 1)) % d + 1) ≤ 4294967296 * d := Nat.mul_le_mul_left _ hr
        omega
      omega
    obtain ⟨a', g1, g2⟩ := ih (by omega) (a.set k (((4294967296 * (lv (l.drop (k + 1)) % d) + dg l k) / d : Nat) : Int)) (by simpa using h1) (h2.set k ⟨Int.natCast_nonneg _, Int.ofNat_lt.2 hq⟩) (by
      rw [drop_set a k _ (by omega), lv_cons, h3, drop_dg (show k < l.length by omega)]
      have e := Nat.div_add_mod (lv (l.drop (k + 1))) d
      have : dg l k + 4294967296 * lv (l.drop (k + 1)) = (4294967296 * (lv (l.drop (k + 1)) % d) + dg l k) + d * (4294967296 * (lv (l.drop (k + 1)) / d)) := by
        rw [Nat.mul_left_comm]; omega
      rw [this, Nat.add_mul_div_left _ _ hd])
    refine ⟨a', (iterL_next ?_).trans g1, g2⟩
    have e := Nat.div_add_mod (lv (l.drop (k + 1))) d
    have hmod : lv (l.drop k) % d = (4294967296 * (lv (l.drop (k + 1)) % d) + dg l k) % d := by
      rw [drop_dg (show k < l.length by omega)]
      have : dg l k + 4294967296 * lv (l.drop (k + 1)) = (4294967296 * (lv (l.drop (k + 1)) % d) + dg l k) + d * (4294967296 * (lv (l.drop (k + 1)) / d)) := by
        rw [Nat.mul_left_comm]; omega
      rw [this, Nat.add_mul_mod_self_left]
    simp only [integer_shortDivide.s0, integer_shortDivide.j1, cite, decide_eq_true_eq, inB_t, maxL_eq]
    rw [show ((k + 1 : Nat) : Int) - 1 = (k : Int) by omega, Int.toNat_natCast, gd hl, pack (by omega) hx, wu64' (x := (d : Int)) (by omega) (by omega)]
    rw [if_pos (by omega), if_pos (by omega), if_neg (by omega), if_pos (by omega), if_neg (by omega), Nat.zero_add, ← Int.ofNat_tmod, ← Int.ofNat_tdiv, wi64 (by omega) (by omega)]
    have hq0 := Int.natCast_nonneg ((4294967296 * (lv (l.drop (k + 1)) % d) + dg l k) / d)
    have hq1 : (((4294967296 * (lv (l.drop (k + 1)) % d) + dg l k) / d : Nat) : Int) < 4294967296 := Int.ofNat_lt.2 hq
    rw [wu64' hq0 (Int.lt_of_lt_of_le hq1 (by decide)), wu32' hq0 hq1, hmod]
theorem shortDivide_ok {l : List Int} (hl : Lim l) (hn : l.length ≤ 1073741824) {d : Nat} (hd : 0 < d) (hd2 : d < 4294967296) : integer_shortDivide l (d : Int) = some (limbs (lv l / d), ((lv l % d : Nat) : Int), ()) := by
  obtain ⟨a', g1, g2, g3, g4⟩ := short_loop hl (by omega) hd hd2 l.length (Nat.le_refl _) (List.replicate l.length 0) (by simp) (Lim.replicate _) (by rw [List.drop_eq_nil_of_le (by simp), List.drop_eq_nil_of_le (by simp)]; simp [lv])
  unfold integer_shortDivide
  simp only [cite, inC_t, maxL_eq]
  rw [if_pos (by omega), Int.toNat_natCast, wi64 (by omega) (by omega)]
  rw [List.drop_eq_nil_of_le (Nat.le_refl _)] at g1
  rw [show ((lv [] % d : Nat) : Int) = 0 by simp [lv]] at g1
  rw [g1, Option.bind_some]
  simp only [integer_shortDivide.k0]
  rw [trim_ok g3 (by omega), Option.bind_some, g4]
  have : lv l % d < d := Nat.mod_lt _ hd
  rw [wu32' (by omega) (by omega)]
end Go.Proofs.Ytbchgegclgpdhaa.V
