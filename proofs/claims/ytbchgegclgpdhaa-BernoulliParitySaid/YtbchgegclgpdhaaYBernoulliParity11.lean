/- Functions of the program as_ functions on values, without fuel, and that the evaluator computes them (printed by gen.py). -/
import Derived.Test.YtbchgegclgpdhaaYBernoulliParity10
import Derived.Test.YtbchgegclgpdhaaYBernoulliParity8
import Derived.Test.YtbchgegclgpdhaaYBernoulliParity9
import Derived.Test.YtbchgegclgpdhaaYBernoulliParity0
namespace Go.Proofs.Ytbchgegclgpdhaa.E
open Go
set_option linter.unusedVariables false
set_option maxRecDepth 100000
noncomputable def quadformref22_Squarefree.j2 (t0 : Int) (t5 : Int) (t6 : Int) : Option ((Int × Int × Int × Unit) ⊕ ((Int × Int × Int × Unit))) :=
  (cond (decide ((IntKind.wrap .i64 (t6 * t6)) = 0))
  none
  ((some (.inl ((IntKind.wrap .i64 (Int.tdiv t0 (IntKind.wrap .i64 (t6 * t6)))), (IntKind.wrap .i64 (t5 * t6)), t6, ())))))
noncomputable def quadformref22_Squarefree.s0 (t0 : Int) (t5 : Int) (t6 : Int) : Option ((Int × Int × Int × Unit) ⊕ ((Int × Int × Int × Unit))) :=
  (cond (decide ((IntKind.wrap .i64 (t6 * t6)) = 0))
  none
  ((cond (((Int.tmod t0 (IntKind.wrap .i64 (t6 * t6))) == (0 : Int)))
  ((quadformref22_Squarefree.j2 t0 t5 t6))
  ((some (.inr (t0, t5, t6, ())))))))
noncomputable def quadformref22_Squarefree.k0 (t0 : Int) (t5 : Int) (t6 : Int) : Option ((Int × Int × Int × Unit) ⊕ ((Int × Int × Unit))) :=
  (some (.inl (t0, t5, (IntKind.wrap .i64 (t6 + (1 : Int))), ())))
noncomputable def quadformref22_Squarefree.j3 (t0 : Int) (t5 : Int) (t6 : Int) : Option ((Int × Int × Int × Unit) ⊕ ((Int × Int × Unit))) :=
  ((iterL (fun x : Int × Int × Int × Unit => quadformref22_Squarefree.s0 x.1 x.2.1 x.2.2.1) (t0, t5, t6, ())).bind fun y => quadformref22_Squarefree.k0 y.1 y.2.1 y.2.2.1)
noncomputable def quadformref22_Squarefree.s1 (t0 : Int) (t5 : Int) (t6 : Int) : Option ((Int × Int × Int × Unit) ⊕ ((Int × Int × Unit))) :=
  (cond ((decide ((IntKind.wrap .i64 (t6 * t6)) ≤ t0)))
  (((iterL (fun x : Int × Int × Int × Unit => quadformref22_Squarefree.s0 x.1 x.2.1 x.2.2.1) (t0, t5, t6, ())).bind fun y => quadformref22_Squarefree.k0 y.1 y.2.1 y.2.2.1))
  ((cond ((decide ((IntKind.wrap .i64 (t6 * t6)) ≤ (IntKind.wrap .i64 (0 - t0)))))
  ((quadformref22_Squarefree.j3 t0 t5 t6))
  ((some (.inr (t0, t5, ())))))))
noncomputable def quadformref22_Squarefree.k1 (t0 : Int) (t5 : Int) : Option (Int × Int × Int × Unit) :=
  (some (t0, (t5, ((0 : Int), ()))))
noncomputable def quadformref22_Squarefree.j1 (t0 : Int) : Option (Int × Int × Int × Unit) :=
  ((iterL (fun x : Int × Int × Int × Unit => quadformref22_Squarefree.s1 x.1 x.2.1 x.2.2.1) (t0, (1 : Int), (2 : Int), ())).bind fun y => quadformref22_Squarefree.k1 y.1 y.2.1)
noncomputable def quadformref22_Squarefree (t0 : Int) : Option (Int × Int × Int × Unit) :=
  (cond ((t0 == (0 : Int)))
  ((some ((0 : Int), ((0 : Int), ((1 : Int), ())))))
  ((cond ((decide (t0 < (-2147483647 : Int))))
  ((some ((0 : Int), ((0 : Int), ((1 : Int), ())))))
  ((cond ((decide (t0 > (2147483647 : Int))))
  ((some ((0 : Int), ((0 : Int), ((1 : Int), ())))))
  ((quadformref22_Squarefree.j1 t0)))))))
noncomputable def quadformref22_Squarefree.en : En := ⟨80, [.int .i64], .pair (.int .i64) (.pair (.int .i64) (.pair (.int .i64) (.unit))), true, fun x => quadformref22_Squarefree x.1⟩
noncomputable def quadformref22_Squarefree.o : List En := []
noncomputable def quadformref22_Squarefree.oB : List EnB := []
def quadformref22_Squarefree.h : HT := .two (.n) (.two (.n) (.two (.n) (.two (.two (.n) (.lp 1)) (.n))))
noncomputable def quadformref22_Squarefree.c : Code := Try.f80.body.getD .skip
def quadformref22_Squarefree.h1 : HT := .two (.n) (.two (.lp 0) (.n))
noncomputable def quadformref22_Squarefree.c1 : Code := (find (loops quadformref22_Squarefree.c quadformref22_Squarefree.h) 1).getD .skip
def quadformref22_Squarefree.d1 : Fm := [.v 0 (.int .i64), .v 5 (.int .i64), .v 6 (.int .i64)]
def quadformref22_Squarefree.x1 : Xs := [(.exit 0, [.v 0 (.int .i64), .v 5 (.int .i64)])]
noncomputable def quadformref22_Squarefree.r1 (x : (Fm.ty quadformref22_Squarefree.d1).den) : Option ((Fm.ty quadformref22_Squarefree.d1).den ⊕ (Xs.T quadformref22_Squarefree.x1)) := quadformref22_Squarefree.s1 x.1 x.2.1 x.2.2.1
def quadformref22_Squarefree.h0 : HT := .n
noncomputable def quadformref22_Squarefree.c0 : Code := (find (loops quadformref22_Squarefree.c1 quadformref22_Squarefree.h1) 0).getD .skip
def quadformref22_Squarefree.d0 : Fm := [.v 0 (.int .i64), .v 5 (.int .i64), .v 6 (.int .i64)]
def quadformref22_Squarefree.x0 : Xs := [(.exit 2, [.v 0 (.int .i64), .v 5 (.int .i64), .v 6 (.int .i64)])]
noncomputable def quadformref22_Squarefree.r0 (x : (Fm.ty quadformref22_Squarefree.d0).den) : Option ((Fm.ty quadformref22_Squarefree.d0).den ⊕ (Xs.T quadformref22_Squarefree.x0)) := quadformref22_Squarefree.s0 x.1 x.2.1 x.2.2.1
noncomputable def quadformref22_Squarefree.L : Lam := fun _ i s K => cond (Nat.beq i 0) (lamK quadformref22_Squarefree.d0 quadformref22_Squarefree.x0 quadformref22_Squarefree.r0 s K) (cond (Nat.beq i 1) (lamK quadformref22_Squarefree.d1 quadformref22_Squarefree.x1 quadformref22_Squarefree.r1 s K) (none))
theorem quadformref22_Squarefree.hf0 (x) : roundK env (orc quadformref22_Squarefree.o) (orcB quadformref22_Squarefree.oB) 48 quadformref22_Squarefree.L quadformref22_Squarefree.c0 quadformref22_Squarefree.h0 quadformref22_Squarefree.d0 quadformref22_Squarefree.x0 x = quadformref22_Squarefree.r0 x := by kernel_rfl
theorem quadformref22_Squarefree.hf1 (x) : roundK env (orc quadformref22_Squarefree.o) (orcB quadformref22_Squarefree.oB) 48 quadformref22_Squarefree.L quadformref22_Squarefree.c1 quadformref22_Squarefree.h1 quadformref22_Squarefree.d1 quadformref22_Squarefree.x1 x = quadformref22_Squarefree.r1 x := by kernel_rfl
theorem quadformref22_Squarefree.os : AllOk prog quadformref22_Squarefree.o := trivial
theorem quadformref22_Squarefree.osB : AllBOk prog quadformref22_Squarefree.oB := trivial
theorem quadformref22_Squarefree.l0 {C : Ctx} (hC : C.n = 48) : LamAt prog C quadformref22_Squarefree.L 0 quadformref22_Squarefree.c0 := by
  intro R s K r hk
  refine loop_ok (D := quadformref22_Squarefree.d0) (X := quadformref22_Squarefree.x0) (h := quadformref22_Squarefree.h0) (f := quadformref22_Squarefree.r0) tabs (orc_ok _ quadformref22_Squarefree.os) (orcB_ok _ quadformref22_Squarefree.osB) (fun x => by rw [hC]; exact quadformref22_Squarefree.hf0 x) (Λ := quadformref22_Squarefree.L) ?_ (by kernel_rfl) (by kernel_rfl) (K := K) (s := s) (by exact hk)
  exact by
    have e : loops quadformref22_Squarefree.c0 quadformref22_Squarefree.h0 = [] := by kernel_rfl
    rw [e]
    exact LamOk.nil
theorem quadformref22_Squarefree.l1 {C : Ctx} (hC : C.n = 48) : LamAt prog C quadformref22_Squarefree.L 1 quadformref22_Squarefree.c1 := by
  intro R s K r hk
  refine loop_ok (D := quadformref22_Squarefree.d1) (X := quadformref22_Squarefree.x1) (h := quadformref22_Squarefree.h1) (f := quadformref22_Squarefree.r1) tabs (orc_ok _ quadformref22_Squarefree.os) (orcB_ok _ quadformref22_Squarefree.osB) (fun x => by rw [hC]; exact quadformref22_Squarefree.hf1 x) (Λ := quadformref22_Squarefree.L) ?_ (by kernel_rfl) (by kernel_rfl) (K := K) (s := s) (by exact hk)
  exact by
    have e : loops quadformref22_Squarefree.c1 quadformref22_Squarefree.h1 = [(0, quadformref22_Squarefree.c0)] := by kernel_rfl
    rw [e]
    exact LamOk.cons (quadformref22_Squarefree.l0 hC) (LamOk.nil)
theorem quadformref22_Squarefree.hk (x) : semK env (orc quadformref22_Squarefree.o) (orcB quadformref22_Squarefree.oB) 48 (quadformref22_Squarefree.L _) quadformref22_Squarefree.c quadformref22_Squarefree.h (S.init (avs [.int .i64] x)) (fin env Try.f80 ⟨[.int .i64], .pair (.int .i64) (.pair (.int .i64) (.pair (.int .i64) (.unit))), true, false⟩) = quadformref22_Squarefree.en.g x := by kernel_rfl
theorem quadformref22_Squarefree.ok : EnOk prog quadformref22_Squarefree.en := by
  refine fun_ok (g := ⟨[.int .i64], .pair (.int .i64) (.pair (.int .i64) (.pair (.int .i64) (.unit))), true, false⟩) (h := quadformref22_Squarefree.h) (Λ := quadformref22_Squarefree.L) tabs quadformref22_Squarefree.os quadformref22_Squarefree.osB Try.func80 (c := quadformref22_Squarefree.c) (by kernel_rfl) (by decide +kernel) (by decide +kernel) (fun C hC => ?_) (fun x => quadformref22_Squarefree.hk x)
  exact by
    have e : loops quadformref22_Squarefree.c quadformref22_Squarefree.h = [(1, quadformref22_Squarefree.c1)] := by kernel_rfl
    rw [e]
    exact LamOk.cons (quadformref22_Squarefree.l1 hC) (LamOk.nil)
noncomputable def quadformref22_Mod.j1 (t5 : Int) : Option (Int) :=
  (some t5)
noncomputable def quadformref22_Mod (t0 : Int) (t1 : Int) : Option (Int) :=
  (cond (decide (t1 = 0))
  none
  ((cond ((decide ((Int.tmod t0 t1) < (0 : Int))))
  ((quadformref22_Mod.j1 (IntKind.wrap .i64 ((Int.tmod t0 t1) + t1))))
  ((quadformref22_Mod.j1 (Int.tmod t0 t1))))))
noncomputable def quadformref22_Mod.en : En := ⟨81, [.int .i64, .int .i64], .int .i64, false, fun x => quadformref22_Mod x.1 x.2.1⟩
noncomputable def quadformref22_Mod.o : List En := []
noncomputable def quadformref22_Mod.oB : List EnB := []
def quadformref22_Mod.h : HT := .n
noncomputable def quadformref22_Mod.c : Code := Try.f81.body.getD .skip
noncomputable def quadformref22_Mod.L : Lam := fun _ i s K => none
theorem quadformref22_Mod.os : AllOk prog quadformref22_Mod.o := trivial
theorem quadformref22_Mod.osB : AllBOk prog quadformref22_Mod.oB := trivial
theorem quadformref22_Mod.hk (x) : semK env (orc quadformref22_Mod.o) (orcB quadformref22_Mod.oB) 15 (quadformref22_Mod.L _) quadformref22_Mod.c quadformref22_Mod.h (S.init (avs [.int .i64, .int .i64] x)) (fin env Try.f81 ⟨[.int .i64, .int .i64], .int .i64, false, false⟩) = quadformref22_Mod.en.g x := by kernel_rfl
theorem quadformref22_Mod.ok : EnOk prog quadformref22_Mod.en := by
  refine fun_ok (g := ⟨[.int .i64, .int .i64], .int .i64, false, false⟩) (h := quadformref22_Mod.h) (Λ := quadformref22_Mod.L) tabs quadformref22_Mod.os quadformref22_Mod.osB Try.func81 (c := quadformref22_Mod.c) (by kernel_rfl) (by decide +kernel) (by decide +kernel) (fun C hC => ?_) (fun x => quadformref22_Mod.hk x)
  exact by
    have e : loops quadformref22_Mod.c quadformref22_Mod.h = [] := by kernel_rfl
    rw [e]
    exact LamOk.nil
noncomputable def quadformref22_Discriminant.j2 (t4 : Int) : Option (Int × Int × Unit) :=
  (some ((IntKind.wrap .i64 ((4 : Int) * t4)), ((0 : Int), ())))
noncomputable def quadformref22_Discriminant.j1 (t4 : Int) : Option (Int × Int × Unit) :=
  ((quadformref22_Mod t4 (4 : Int)).bind fun y2 =>
  (cond ((y2 == (1 : Int)))
  ((some (t4, ((0 : Int), ()))))
  ((quadformref22_Discriminant.j2 t4))))
noncomputable def quadformref22_Discriminant (t0 : Int) : Option (Int × Int × Unit) :=
  ((quadformref22_Squarefree t0).bind fun y1 =>
  (cond ((y1.2.2.1 != (0 : Int)))
  ((some ((0 : Int), (y1.2.2.1, ()))))
  ((quadformref22_Discriminant.j1 y1.1))))
noncomputable def quadformref22_Discriminant.en : En := ⟨47, [.int .i64], .pair (.int .i64) (.pair (.int .i64) (.unit)), true, fun x => quadformref22_Discriminant x.1⟩
noncomputable def quadformref22_Discriminant.o : List En := [quadformref22_Squarefree.en, quadformref22_Mod.en]
noncomputable def quadformref22_Discriminant.oB : List EnB := []
def quadformref22_Discriminant.h : HT := .n
noncomputable def quadformref22_Discriminant.c : Code := Try.f47.body.getD .skip
noncomputable def quadformref22_Discriminant.L : Lam := fun _ i s K => none
theorem quadformref22_Discriminant.os : AllOk prog quadformref22_Discriminant.o := ⟨quadformref22_Squarefree.ok, quadformref22_Mod.ok, trivial⟩
theorem quadformref22_Discriminant.osB : AllBOk prog quadformref22_Discriminant.oB := trivial
theorem quadformref22_Discriminant.hk (x) : semK env (orc quadformref22_Discriminant.o) (orcB quadformref22_Discriminant.oB) 22 (quadformref22_Discriminant.L _) quadformref22_Discriminant.c quadformref22_Discriminant.h (S.init (avs [.int .i64] x)) (fin env Try.f47 ⟨[.int .i64], .pair (.int .i64) (.pair (.int .i64) (.unit)), true, false⟩) = quadformref22_Discriminant.en.g x := by kernel_rfl
theorem quadformref22_Discriminant.ok : EnOk prog quadformref22_Discriminant.en := by
  refine fun_ok (g := ⟨[.int .i64], .pair (.int .i64) (.pair (.int .i64) (.unit)), true, false⟩) (h := quadformref22_Discriminant.h) (Λ := quadformref22_Discriminant.L) tabs quadformref22_Discriminant.os quadformref22_Discriminant.osB Try.func47 (c := quadformref22_Discriminant.c) (by kernel_rfl) (by decide +kernel) (by decide +kernel) (fun C hC => ?_) (fun x => quadformref22_Discriminant.hk x)
  exact by
    have e : loops quadformref22_Discriminant.c quadformref22_Discriminant.h = [] := by kernel_rfl
    rw [e]
    exact LamOk.nil
noncomputable def quadformlaw31_discriminant (t0 : Int) : Option (Int) :=
  ((quadformref22_Discriminant (IntKind.wrap .i64 ((IntKind.wrap .i64 (Int.tmod t0 (100 : Int))) + (IntKind.wrap .i64 ((101 : Int) * (IntKind.wrap .i64 ((1 : Int) - (IntKind.wrap .i64 ((2 : Int) * (Int.tmod (IntKind.wrap .i64 (Int.tdiv (IntKind.wrap .i64 (IntKind.wrap .u16 t0)) (256 : Int))) (2 : Int))))))))))).bind fun y6 =>
  (some y6.1))
noncomputable def quadformlaw31_discriminant.en : En := ⟨22, [.int .i16], .int .i64, false, fun x => quadformlaw31_discriminant x.1⟩
noncomputable def quadformlaw31_discriminant.o : List En := [quadformref22_Discriminant.en]
noncomputable def quadformlaw31_discriminant.oB : List EnB := []
def quadformlaw31_discriminant.h : HT := .n
noncomputable def quadformlaw31_discriminant.c : Code := Try.f22.body.getD .skip
noncomputable def quadformlaw31_discriminant.L : Lam := fun _ i s K => none
theorem quadformlaw31_discriminant.os : AllOk prog quadformlaw31_discriminant.o := ⟨quadformref22_Discriminant.ok, trivial⟩
theorem quadformlaw31_discriminant.osB : AllBOk prog quadformlaw31_discriminant.oB := trivial
theorem quadformlaw31_discriminant.hk (x) : semK env (orc quadformlaw31_discriminant.o) (orcB quadformlaw31_discriminant.oB) 22 (quadformlaw31_discriminant.L _) quadformlaw31_discriminant.c quadformlaw31_discriminant.h (S.init (avs [.int .i16] x)) (fin env Try.f22 ⟨[.int .i16], .int .i64, false, false⟩) = quadformlaw31_discriminant.en.g x := by kernel_rfl
theorem quadformlaw31_discriminant.ok : EnOk prog quadformlaw31_discriminant.en := by
  refine fun_ok (g := ⟨[.int .i16], .int .i64, false, false⟩) (h := quadformlaw31_discriminant.h) (Λ := quadformlaw31_discriminant.L) tabs quadformlaw31_discriminant.os quadformlaw31_discriminant.osB Try.func22 (c := quadformlaw31_discriminant.c) (by kernel_rfl) (by decide +kernel) (by decide +kernel) (fun C hC => ?_) (fun x => quadformlaw31_discriminant.hk x)
  exact by
    have e : loops quadformlaw31_discriminant.c quadformlaw31_discriminant.h = [] := by kernel_rfl
    rw [e]
    exact LamOk.nil
noncomputable def rational_Sign (t0 : (Bool × List Int × Unit) × (Bool × List Int × Unit) × Unit) : Option (Int) :=
  ((rational_of ((t0.1.1, (t0.1.2.1, ())), ((t0.2.1.1, (t0.2.1.2.1, ())), ()))).bind fun y1 =>
  ((integer_Sign (y1.1.1, (y1.1.2.1, ()))).bind fun y2 =>
  (some y2)))
noncomputable def rational_Sign.en : En := ⟨26, [.pair (.pair (.bool) (.pair (.sl (.int .u32)) (.unit))) (.pair (.pair (.bool) (.pair (.sl (.int .u32)) (.unit))) (.unit))], .int .i64, false, fun x => rational_Sign x.1⟩
noncomputable def rational_Sign.o : List En := [integer_Sign.en, rational_of.en]
noncomputable def rational_Sign.oB : List EnB := []
def rational_Sign.h : HT := .n
noncomputable def rational_Sign.c : Code := Try.f26.body.getD .skip
noncomputable def rational_Sign.L : Lam := fun _ i s K => none
theorem rational_Sign.os : AllOk prog rational_Sign.o := ⟨integer_Sign.ok, rational_of.ok, trivial⟩
theorem rational_Sign.osB : AllBOk prog rational_Sign.oB := trivial
theorem rational_Sign.hk (x) : semK env (orc rational_Sign.o) (orcB rational_Sign.oB) 7 (rational_Sign.L _) rational_Sign.c rational_Sign.h (S.init (avs [.pair (.pair (.bool) (.pair (.sl (.int .u32)) (.unit))) (.pair (.pair (.bool) (.pair (.sl (.int .u32)) (.unit))) (.unit))] x)) (fin env Try.f26 ⟨[.pair (.pair (.bool) (.pair (.sl (.int .u32)) (.unit))) (.pair (.pair (.bool) (.pair (.sl (.int .u32)) (.unit))) (.unit))], .int .i64, false, false⟩) = rational_Sign.en.g x := by kernel_rfl
theorem rational_Sign.ok : EnOk prog rational_Sign.en := by
  refine fun_ok (g := ⟨[.pair (.pair (.bool) (.pair (.sl (.int .u32)) (.unit))) (.pair (.pair (.bool) (.pair (.sl (.int .u32)) (.unit))) (.unit))], .int .i64, false, false⟩) (h := rational_Sign.h) (Λ := rational_Sign.L) tabs rational_Sign.os rational_Sign.osB Try.func26 (c := rational_Sign.c) (by kernel_rfl) (by decide +kernel) (by decide +kernel) (fun C hC => ?_) (fun x => rational_Sign.hk x)
  exact by
    have e : loops rational_Sign.c rational_Sign.h = [] := by kernel_rfl
    rw [e]
    exact LamOk.nil
noncomputable def quadformlaw31_BernoulliParity (t0 : Int) (t1 : Int) : Option (Bool) :=
  ((quadformlaw31_discriminant t1).bind fun y1 =>
  let x2 := (Int.tmod (IntKind.wrap .i64 t0) (6 : Int))
  ((bernoulli_Generalized (IntKind.wrap .i64 ((1 : Int) + x2)) y1).bind fun y3 =>
  (cond ((((Int.tmod (IntKind.wrap .i64 ((1 : Int) + x2)) (2 : Int)) == (0 : Int)) == (decide (y1 > (0 : Int)))))
  ((cond ((y3.2.1 == (0 : Int)))
  (((rational_Sign ((y3.1.1.1, (y3.1.1.2.1, ())), ((y3.1.2.1.1, (y3.1.2.1.2.1, ())), ()))).bind fun y6 =>
  (cond (((y6 != (0 : Int)) == true))
  (((quadformlaw31_awake).bind fun y7 =>
  (some y7)))
  ((some false)))))
  ((some false))))
  ((cond ((y1 == (1 : Int)))
  ((cond ((y3.2.1 == (0 : Int)))
  (((rational_Sign ((y3.1.1.1, (y3.1.1.2.1, ())), ((y3.1.2.1.1, (y3.1.2.1.2.1, ())), ()))).bind fun y9 =>
  (cond (((y9 != (0 : Int)) == ((IntKind.wrap .i64 ((1 : Int) + x2)) == (1 : Int))))
  (((quadformlaw31_awake).bind fun y10 =>
  (some y10)))
  ((some false)))))
  ((some false))))
  ((cond ((y3.2.1 == (0 : Int)))
  (((rational_Sign ((y3.1.1.1, (y3.1.1.2.1, ())), ((y3.1.2.1.1, (y3.1.2.1.2.1, ())), ()))).bind fun y11 =>
  (cond (((y11 != (0 : Int)) == false))
  (((quadformlaw31_awake).bind fun y12 =>
  (some y12)))
  ((some false)))))
  ((some false)))))))))
noncomputable def quadformlaw31_BernoulliParity.en : En := ⟨7, [.int .u8, .int .i16], .bool, false, fun x => quadformlaw31_BernoulliParity x.1 x.2.1⟩
noncomputable def quadformlaw31_BernoulliParity.o : List En := [quadformlaw31_awake.en, quadformlaw31_discriminant.en, bernoulli_Generalized.en, rational_Sign.en]
noncomputable def quadformlaw31_BernoulliParity.oB : List EnB := []
def quadformlaw31_BernoulliParity.h : HT := .n
noncomputable def quadformlaw31_BernoulliParity.c : Code := Try.f7.body.getD .skip
noncomputable def quadformlaw31_BernoulliParity.L : Lam := fun _ i s K => none
theorem quadformlaw31_BernoulliParity.os : AllOk prog quadformlaw31_BernoulliParity.o := ⟨quadformlaw31_awake.ok, quadformlaw31_discriminant.ok, bernoulli_Generalized.ok, rational_Sign.ok, trivial⟩
theorem quadformlaw31_BernoulliParity.osB : AllBOk prog quadformlaw31_BernoulliParity.oB := trivial
theorem quadformlaw31_BernoulliParity.hk (x) : semK env (orc quadformlaw31_BernoulliParity.o) (orcB quadformlaw31_BernoulliParity.oB) 48 (quadformlaw31_BernoulliParity.L _) quadformlaw31_BernoulliParity.c quadformlaw31_BernoulliParity.h (S.init (avs [.int .u8, .int .i16] x)) (fin env Try.f7 ⟨[.int .u8, .int .i16], .bool, false, false⟩) = quadformlaw31_BernoulliParity.en.g x := by kernel_rfl
theorem quadformlaw31_BernoulliParity.ok : EnOk prog quadformlaw31_BernoulliParity.en := by
  refine fun_ok (g := ⟨[.int .u8, .int .i16], .bool, false, false⟩) (h := quadformlaw31_BernoulliParity.h) (Λ := quadformlaw31_BernoulliParity.L) tabs quadformlaw31_BernoulliParity.os quadformlaw31_BernoulliParity.osB Try.func7 (c := quadformlaw31_BernoulliParity.c) (by kernel_rfl) (by decide +kernel) (by decide +kernel) (fun C hC => ?_) (fun x => quadformlaw31_BernoulliParity.hk x)
  exact by
    have e : loops quadformlaw31_BernoulliParity.c quadformlaw31_BernoulliParity.h = [] := by kernel_rfl
    rw [e]
    exact LamOk.nil
end Go.Proofs.Ytbchgegclgpdhaa.E
/- Functions of the program as_ functions on values, without fuel, and that the evaluator computes them (printed by gen.py). -/
namespace Go.Proofs.Ytbchgegclgpdhaa.E
open Go
set_option linter.unusedVariables false
set_option maxRecDepth 100000
end Go.Proofs.Ytbchgegclgpdhaa.E
/- All functions. -/
/- Laws of the functions on values: words for all; trim, signs, small numbers, comparison. -/
namespace Go.Proofs.Ytbchgegclgpdhaa.V
open Go Go.Proofs.Ytbchgegclgpdhaa.E Go.Proofs.Ytbchgegclgpdhaa.LI
set_option linter.unusedVariables false
set_option linter.unusedSimpArgs false
theorem wi64 {x : Int} (h : -9223372036854775808 ≤ x) (h' : x ≤ 9223372036854775807) : IntKind.wrap .i64 x = x := by
  simp [IntKind.wrap, IntKind.bits, IntKind.signed]; omega
theorem wu64 (x : Int) : IntKind.wrap .u64 x = x % 18446744073709551616 := by simp [IntKind.wrap, IntKind.bits, IntKind.signed]
theorem wu32 (x : Int) : IntKind.wrap .u32 x = x % 4294967296 := by simp [IntKind.wrap, IntKind.bits, IntKind.signed]
theorem wu64' {x : Int} (h : 0 ≤ x) (h' : x < 18446744073709551616) : IntKind.wrap .u64 x = x := by rw [wu64]; omega
theorem wu32' {x : Int} (h : 0 ≤ x) (h' : x < 4294967296) : IntKind.wrap .u32 x = x := by rw [wu32]; omega
theorem cite {α : Type} (c : Bool) (a b : α) : cond c a b = if c = true then a else b := by cases c <;> rfl
theorem inB_t (i : Int) (n : Nat) : (inB i n = true) = (0 ≤ i ∧ i < n) := by simp [inB]
theorem inC_t (i : Int) (n : Nat) : (inC i n = true) = (0 ≤ i ∧ i ≤ n) := by simp [inC]
theorem up {i : Nat} (h : i < 9223372036854775807) : IntKind.wrap .i64 ((i : Int) + 1) = ((i + 1 : Nat) : Int) := by rw [wi64 (by omega) (by omega)]; rfl
theorem down {i : Nat} (h : i < 9223372036854775807) : IntKind.wrap .i64 (((i + 1 : Nat) : Int) - 1) = (i : Int) := by rw [wi64 (by omega) (by omega)]; omega
theorem gd {l : List Int} (h : Lim l) (i : Nat) : l.getD i 0 = ((dg l i : Nat) : Int) := (dg_int h i).symm
theorem maxL_eq : maxL = 1073741824 := rfl
theorem trim_s_same : quadformref01_trim.s0 = integer_trim.s0 := rfl
theorem trim_loop {l : List Int} (hl : Lim l) (hn : l.length < 17592186044416) : ∀ j, j ≤ l.length → lv (l.take j) = lv l →
    ∃ j' : Nat, j' ≤ l.length ∧ l.take j' = limbs (lv l) ∧ iterL (fun x : List Int × Int × Unit => integer_trim.s0 x.1 x.2.1) (l, (j : Int), ()) = some (l, (j' : Int), ()) := by
  intro j
  induction j with
  | zero =>
    intro _ h
    refine ⟨0, Nat.zero_le _, by rw [← h]; rfl, iterL_done ?_⟩
    simp only [integer_trim.s0, cite, decide_eq_true_eq]
    rw [if_neg (by omega)]
  | succ j ih =>
    intro hj h
    by_cases h0 : dg l j = 0
    · obtain ⟨j', h1, h2, h3⟩ := ih (by omega) (by rw [lv_take_succ, h0] at h; simpa using h)
      refine ⟨j', h1, h2, (iterL_next ?_).trans h3⟩
      simp only [integer_trim.s0, integer_trim.j1, cite, decide_eq_true_eq, inB_t, beq_iff_eq]
      rw [down (by omega), Int.toNat_natCast, gd hl, h0, if_pos (by omega), if_pos (by omega), if_pos (by omega)]
    · refine ⟨j + 1, hj, ?_, iterL_done ?_⟩
      · rw [← h, limbs_lv (hl.take _) (fun hne e => ?_)]
        apply h0
        rw [List.getLast_eq_getElem] at e
        simp only [List.getElem_take, List.length_take, Nat.min_eq_left hj, Nat.add_sub_cancel] at e
        simp only [dg, List.getD, List.getElem?_eq_getElem (show j < l.length by omega), Option.getD_some, e]
        rfl
      · simp only [integer_trim.s0, integer_trim.j1, cite, decide_eq_true_eq, inB_t, beq_iff_eq]
        rw [down (by omega), Int.toNat_natCast, gd hl, if_pos (by omega), if_pos (by omega), if_neg (by omega)]
theorem trim_ok {l : List Int} (hl : Lim l) (hn : l.length < 17592186044416) : integer_trim l = some (limbs (lv l)) := by
  obtain ⟨j, h1, h2, h3⟩ := trim_loop hl hn l.length (Nat.le_refl _) (by rw [List.take_length])
  unfold integer_trim
  rw [h3, Option.bind_some]
  simp only [integer_trim.k0, cite, inC_t, Bool.and_eq_true, decide_eq_true_eq]
  rw [if_pos (by omega), if_pos (by omega), Int.toNat_natCast, h2]
theorem rtrim_ok {l : List Int} (hl : Lim l) (hn : l.length ≤ 1073741824) : quadformref01_trim l = some (limbs (lv l)) := by
  obtain ⟨j, h1, h2, h3⟩ := trim_loop hl (by omega) l.length (Nat.le_refl _) (by rw [List.take_length])
  unfold quadformref01_trim
  rw [trim_s_same, h3, Option.bind_some]
  simp only [quadformref01_trim.k0, cite, inC_t, decide_eq_true_eq, maxL_eq]
  rw [if_pos (by omega), if_pos (by simp; omega), Int.toNat_natCast, h2]
theorem iv_t (l : List Int) : iv true l = -(lv l : Int) := rfl
theorem iv_f (l : List Int) : iv false l = (lv l : Int) := rfl
/-- An integer as_ the program holds it. -/
def mkI (z : Int) : Bool × List Int × Unit := (decide (z < 0), limbs z.natAbs, ())
theorem limbs_len0 (n : Nat) : (((limbs n).length : Int) = 0) = (n = 0) := by
  have := @limbs_len_pos n
  apply propext
  constructor
  · intro h; by_cases h0 : n = 0
    · exact h0
    · have := this.2 h0; omega
  · rintro rfl; rfl
theorem signed_ok {l : List Int} (neg : Bool) (hl : Lim l) (hn : l.length < 17592186044416) : integer_signed neg l = some (mkI (iv neg l)) := by
  unfold integer_signed
  rw [trim_ok hl hn, Option.bind_some]
  simp only [integer_signed.j1, cite, beq_iff_eq, limbs_len0]
  by_cases h : lv l = 0
  · rw [if_pos h]
    have : iv neg l = 0 := by unfold iv; cases neg <;> simp [h]
    rw [this]; rfl
  · rw [if_neg h]
    cases neg with
    | true =>
      have e : decide (iv true l < 0) = true := by simp only [iv, if_true, decide_eq_true_eq]; omega
      simp only [mkI, iv_natAbs, e]
    | false =>
      have e : decide (iv false l < 0) = false := by simp only [iv, decide_eq_false_iff_not]; simp
      simp only [mkI, iv_natAbs, e]
theorem magnitude_ok {l : List Int} (neg : Bool) (u : Unit) (hl : Lim l) (hn : l.length < 17592186044416) : integer_magnitude (neg, l, u) = some (limbs (lv l)) := by
  unfold integer_magnitude
  rw [trim_ok hl hn]; rfl
theorem sign_ok {l : List Int} (neg : Bool) (u : Unit) (hl : Lim l) (hn : l.length < 17592186044416) : integer_Sign (neg, l, u) = some (if iv neg l = 0 then 0 else if iv neg l < 0 then -1 else 1) := by
  unfold integer_Sign
  rw [magnitude_ok neg _ hl hn, Option.bind_some]
  simp only [integer_Sign.j1, integer_Sign.j2, cite, beq_iff_eq, limbs_len0]
  cases neg with
  | true =>
    rw [iv_t]
    by_cases h : lv l = 0
    · rw [if_pos h, if_pos (by omega)]
    · rw [if_neg h, if_pos rfl, if_neg (by omega), if_pos (by omega)]
  | false =>
    rw [iv_f]
    by_cases h : lv l = 0
    · rw [if_pos h, if_pos (by omega)]
    · rw [if_neg h, if_neg (by simp), if_neg (by omega), if_neg (by omega)]
theorem make_ok {l : List Int} (neg : Bool) (hl : Lim l) (hn : l.length ≤ 1073741824) : quadformref01_Make neg l = some (mkI (iv neg l)) := by
  unfold quadformref01_Make
  rw [rtrim_ok hl hn, Option.bind_some]
  have hp := @limbs_len_pos (lv l)
  cases neg with
  | true =>
    rw [show mkI (iv true l) = (decide (iv true l < 0), limbs (iv true l).natAbs, ()) from rfl, iv_natAbs, iv_t, cond_true]
    congr 2
    by_cases h : lv l = 0
    · have h2 : ¬ 0 < (limbs (lv l)).length := fun h3 => hp.1 h3 h
      rw [decide_eq_false (by omega), decide_eq_false (by omega)]
    · have h2 := hp.2 h
      rw [decide_eq_true (by omega), decide_eq_true (by omega)]
  | false =>
    rw [show mkI (iv false l) = (decide (iv false l < 0), limbs (iv false l).natAbs, ()) from rfl, iv_natAbs, iv_f, cond_false, decide_eq_false (by omega)]
theorem lv_two {u : Nat} (hu : u < 18446744073709551616) : lv [((u % 4294967296 : Nat) : Int), ((u / 4294967296 : Nat) : Int)] = u ∧ Lim [((u % 4294967296 : Nat) : Int), ((u / 4294967296 : Nat) : Int)] := by
  constructor
  · simp only [lv, Int.toNat_natCast]; omega
  · exact Lim.mk (by omega) (Lim.one (by omega))
theorem two_words {u : Nat} (hu : u < 18446744073709551616) : ([IntKind.wrap .u32 (u : Int), IntKind.wrap .u32 (shrI .u64 (u : Int) 32)] : List Int) = [((u % 4294967296 : Nat) : Int), ((u / 4294967296 : Nat) : Int)] := by
  have h1 : shrI .u64 (u : Int) 32 = ((u / 4294967296 : Nat) : Int) := by
    simp only [shrI, IntKind.bits]
    rw [show min (32 : Int).toNat 64 = 32 from rfl, show (2 : Int) ^ 32 = 4294967296 from rfl, Int.fdiv_eq_ediv_of_nonneg _ (by decide)]; omega
  rw [h1, wu32, wu32]
  congr 1
  congr 1
  omega
theorem small_ok {n : Int} (h : -9223372036854775808 ≤ n) (h' : n ≤ 9223372036854775807) : integer_Small n = some (mkI n) := by
  unfold integer_Small
  simp only [cite, decide_eq_true_eq]
  have key : ∀ b : List Int, integer_Small.j1 n ((n.natAbs : Nat) : Int) b = some (mkI n) := fun b => by
    obtain ⟨h1, h2⟩ := lv_two (u := n.natAbs) (by omega)
    unfold integer_Small.j1
    rw [two_words (by omega), signed_ok _ h2 (by simp), Option.bind_some]
    have : iv (decide (n < 0)) [((n.natAbs % 4294967296 : Nat) : Int), ((n.natAbs / 4294967296 : Nat) : Int)] = n := by
      by_cases h0 : n < 0
      · rw [decide_eq_true h0, iv_t, h1]; omega
      · rw [decide_eq_false h0, iv_f, h1]; omega
    rw [this]
  by_cases h0 : n < 0
  · rw [if_pos h0, show IntKind.wrap .u64 (0 - IntKind.wrap .u64 n) = ((n.natAbs : Nat) : Int) by rw [wu64, wu64]; omega]
    exact key _
  · rw [if_neg h0, show IntKind.wrap .u64 n = ((n.natAbs : Nat) : Int) by rw [wu64]; omega]
    exact key _
end Go.Proofs.Ytbchgegclgpdhaa.V
/- Laws of integer: limb, plus, minus, compare, shortDivide. -/
namespace Go.Proofs.Ytbchgegclgpdhaa.V
open Go Go.Proofs.Ytbchgegclgpdhaa.E Go.Proofs.Ytbchgegclgpdhaa.LI
set_option linter.unusedVariables false
set_option linter.unusedSimpArgs false
theorem orI_nat (a b : Nat) (ha : a < 18446744073709551616) (hb : b < 18446744073709551616) : orI .u64 (a : Int) (b : Int) = ((a ||| b : Nat) : Int) := by
  have h0 : orI .u64 (a : Int) (b : Int) = IntKind.wrap .u64 (((BitVec.ofInt 64 (a : Int) ||| BitVec.ofInt 64 (b : Int)).toNat : Nat) : Int) := rfl
  rw [h0, wu64, BitVec.ofInt_natCast, BitVec.ofInt_natCast, BitVec.toNat_or, BitVec.toNat_ofNat, BitVec.toNat_ofNat, Nat.mod_eq_of_lt ha, Nat.mod_eq_of_lt hb]
  have : a ||| b < 2 ^ 64 := Nat.or_lt_two_pow ha hb
  omega
theorem or_add {a b i : Nat} (hb : b < 2 ^ i) (h : 2 ^ i * a + b < 18446744073709551616) : orI .u64 ((2 ^ i * a : Nat) : Int) (b : Int) = ((2 ^ i * a + b : Nat) : Int) := by
  rw [orI_nat _ _ (by omega) (by omega), ← Nat.two_pow_add_eq_or_of_lt hb]
theorem shl_nat {a i : Nat} (hi : i ≤ 64) (h : a * 2 ^ i < 18446744073709551616) : shlI .u64 (a : Int) (i : Int) = ((2 ^ i * a : Nat) : Int) := by
  unfold shlI
  rw [wu64, show min (i : Int).toNat IntKind.u64.bits = i by rw [Int.toNat_natCast]; exact Nat.min_eq_left hi]
  have : (a : Int) * 2 ^ i = ((a * 2 ^ i : Nat) : Int) := by push_cast; rfl
  rw [this, Nat.mul_comm]
  rw [Nat.mul_comm] at h
  omega
theorem shr_nat {a i : Nat} (hi : i ≤ 64) : shrI .u64 (a : Int) (i : Int) = ((a / 2 ^ i : Nat) : Int) := by
  unfold shrI
  rw [show min (i : Int).toNat IntKind.u64.bits = i by rw [Int.toNat_natCast]; exact Nat.min_eq_left hi]
  have : (2 : Int) ^ i = ((2 ^ i : Nat) : Int) := by push_cast; rfl
  rw [this, Int.fdiv_eq_ediv_of_nonneg _ (Int.natCast_nonneg _)]
  rfl
/-- Two words side by side. -/
theorem pack {a b : Nat} (ha : a < 4294967296) (hb : b < 4294967296) : orI .u64 (shlI .u64 (a : Int) 32) (IntKind.wrap .u64 (b : Int)) = ((4294967296 * a + b : Nat) : Int) := by
  have h1 := @shl_nat a 32 (by omega) (by omega)
  have h2 := @or_add a b 32 (by omega) (by omega)
  rw [show ((32 : Nat) : Int) = 32 from rfl] at h1
  rw [wu64' (by omega) (by omega), h1, h2]
theorem hi_word (a : Nat) : shrI .u64 (a : Int) 32 = ((a / 4294967296 : Nat) : Int) := @shr_nat a 32 (by omega)
theorem top_bit (a : Nat) : shrI .u64 (a : Int) 63 = ((a / 9223372036854775808 : Nat) : Int) := @shr_nat a 63 (by omega)
theorem drop_set (a : List Int) (k : Nat) (x : Int) (hk : k < a.length) : (a.set k x).drop k = x :: a.drop (k + 1) := by
  rw [List.drop_eq_getElem_cons (by simpa using hk), List.drop_set, if_pos (Nat.lt_succ_self k)]
  simp
theorem lv_cons (x : Nat) (l : List Int) : lv ((x : Int) :: l) = x + 4294967296 * lv l := by simp [lv]
theorem short_loop {l : List Int} (hl : Lim l) (hn : l.length < 17592186044416) {d : Nat} (hd : 0 < d) (hd2 : d < 4294967296) : ∀ k, k ≤ l.length → ∀ a : List Int, a.length = l.length → Lim a → lv (a.drop k) = lv (l.drop k) / d →
    ∃ a', iterL (fun x : List Int × Int × Int × Int × List Int × Unit => integer_shortDivide.s0 x.1 x.2.1 x.2.2.1 x.2.2.2.1 x.2.2.2.2.1) (l, (d : Int), ((lv (l.drop k) % d : Nat) : Int), (k : Int) - 1, a, ()) = some (((lv l % d : Nat) : Int), a', ()) ∧
      a'.length = l.length ∧ Lim a' ∧ lv a' = lv l / d := by
  intro k
  induction k with
  | zero =>
    intro _ a h1 h2 h3
    refine ⟨a, iterL_done ?_, h1, h2, by simpa using h3⟩
    simp only [integer_shortDivide.s0, cite, decide_eq_true_eq]
    rw [if_neg (by omega)]
    simp
  | succ k ih =>
    intro hk a h1 h2 h3
    have hr : lv (l.drop (k + 1)) % d < d := Nat.mod_lt _ hd
    have hx := dg_lt hl k
    have hq : (4294967296 * (lv (l.drop (k + 1)) % d) + dg l k) / d < 4294967296 := by
      rw [Nat.div_lt_iff_lt_mul hd]
      have : 4294967296 * (lv (l.drop (k + 1)) % d) + 4294967296 ≤ 4294967296 * d := by
        have : 4294967296 * (lv (l.drop (k + 1)) % d + 1) ≤ 4294967296 * d := Nat.mul_le_mul_left _ hr
        omega
      omega
    obtain ⟨a', g1, g2⟩ := ih (by omega) (a.set k (((4294967296 * (lv (l.drop (k + 1)) % d) + dg l k) / d : Nat) : Int)) (by simpa using h1) (h2.set k ⟨Int.natCast_nonneg _, Int.ofNat_lt.2 hq⟩) (by
      rw [drop_set a k _ (by omega), lv_cons, h3, drop_dg (show k < l.length by omega)]
      have e := Nat.div_add_mod (lv (l.drop (k + 1))) d
      have : dg l k + 4294967296 * lv (l.drop (k + 1)) = (4294967296 * (lv (l.drop (k + 1)) % d) + dg l k) + d * (4294967296 * (lv (l.drop (k + 1)) / d)) := by
        rw [Nat.mul_left_comm]; omega
      rw [this, Nat.add_mul_div_left _ _ hd])
    refine ⟨a', (iterL_next ?_).trans g1, g2⟩
    have e := Nat.div_add_mod (lv (l.drop (k + 1))) d
    have hmod : lv (l.drop k) % d = (4294967296 * (lv (l.drop (k + 1)) % d) + dg l k) % d := by
      rw [drop_dg (show k < l.length by omega)]
      have : dg l k + 4294967296 * lv (l.drop (k + 1)) = (4294967296 * (lv (l.drop (k + 1)) % d) + dg l k) + d * (4294967296 * (lv (l.drop (k + 1)) / d)) := by
        rw [Nat.mul_left_comm]; omega
      rw [this, Nat.add_mul_mod_self_left]
    simp only [integer_shortDivide.s0, integer_shortDivide.j1, cite, decide_eq_true_eq, inB_t, maxL_eq]
    rw [show ((k + 1 : Nat) : Int) - 1 = (k : Int) by omega, Int.toNat_natCast, gd hl, pack (by omega) hx, wu64' (x := (d : Int)) (by omega) (by omega)]
    rw [if_pos (by omega), if_pos (by omega), if_neg (by omega), if_pos (by omega), if_neg (by omega), Nat.zero_add, ← Int.ofNat_tmod, ← Int.ofNat_tdiv, wi64 (by omega) (by omega)]
    have hq0 := Int.natCast_nonneg ((4294967296 * (lv (l.drop (k + 1)) % d) + dg l k) / d)
    have hq1 : (((4294967296 * (lv (l.drop (k + 1)) % d) + dg l k) / d : Nat) : Int) < 4294967296 := Int.ofNat_lt.2 hq
    rw [wu64' hq0 (Int.lt_of_lt_of_le hq1 (by decide)), wu32' hq0 hq1, hmod]
theorem shortDivide_ok {l : List Int} (hl : Lim l) (hn : l.length ≤ 1073741824) {d : Nat} (hd : 0 < d) (hd2 : d < 4294967296) : integer_shortDivide l (d : Int) = some (limbs (lv l / d), ((lv l % d : Nat) : Int), ()) := by
  obtain ⟨a', g1, g2, g3, g4⟩ := short_loop hl (by omega) hd hd2 l.length (Nat.le_refl _) (List.replicate l.length 0) (by simp) (Lim.replicate _) (by rw [List.drop_eq_nil_of_le (by simp), List.drop_eq_nil_of_le (by simp)]; simp [lv])
  unfold integer_shortDivide
  simp only [cite, inC_t, maxL_eq]
  rw [if_pos (by omega), Int.toNat_natCast, wi64 (by omega) (by omega)]
  rw [List.drop_eq_nil_of_le (Nat.le_refl _)] at g1
  rw [show ((lv [] % d : Nat) : Int) = 0 by simp [lv]] at g1
  rw [g1, Option.bind_some]
  simp only [integer_shortDivide.k0]
  rw [trim_ok g3 (by omega), Option.bind_some, g4]
  have : lv l % d < d := Nat.mod_lt _ hd
  rw [wu32' (by omega) (by omega)]
end Go.Proofs.Ytbchgegclgpdhaa.V
/- Laws: comparison; sums and differences, of the reference and of integer. -/
namespace Go.Proofs.Ytbchgegclgpdhaa.V
open Go Go.Proofs.Ytbchgegclgpdhaa.E Go.Proofs.Ytbchgegclgpdhaa.LI
set_option linter.unusedVariables false
set_option linter.unusedSimpArgs false
def cm (a b : Int) : Int := if a < b then -1 else if a = b then 0 else 1
theorem cm_lt {a b : Int} (h : a < b) : cm a b = -1 := if_pos h
theorem cm_gt {a b : Int} (h : b < a) : cm a b = 1 := by unfold cm; rw [if_neg (by omega), if_neg (by omega)]
theorem cm_eq {a b : Int} (h : a = b) : cm a b = 0 := by unfold cm; rw [if_neg (by omega), if_pos h]
theorem top_lt {m n : List Int} (hm : Lim m) {i : Nat} (h1 : i < m.length) (h2 : i < n.length) (hd : m.drop (i + 1) = n.drop (i + 1)) (h : dg m i < dg n i) : lv m < lv n := by
  rw [lv_split m i (by omega), lv_split n i (by omega), drop_dg h1, drop_dg h2, hd]
  have h3 := lv_lt (hm.take i)
  rw [List.length_take, Nat.min_eq_left (by omega)] at h3
  have h4 : 4294967296 ^ i * (dg m i + 1 + 4294967296 * lv (n.drop (i + 1))) ≤ 4294967296 ^ i * (dg n i + 4294967296 * lv (n.drop (i + 1))) := Nat.mul_le_mul_left _ (by omega)
  have h5 : 4294967296 ^ i * (dg m i + 1 + 4294967296 * lv (n.drop (i + 1))) = 4294967296 ^ i * (dg m i + 4294967296 * lv (n.drop (i + 1))) + 4294967296 ^ i := by
    rw [show dg m i + 1 + 4294967296 * lv (n.drop (i + 1)) = (dg m i + 4294967296 * lv (n.drop (i + 1))) + 1 from by omega, Nat.mul_add, Nat.mul_one]
  omega
theorem cmp_loop {m n : List Int} (hm : Lim m) (hn : Lim n) (hl : m.length = n.length) (hb : m.length < 17592186044416) : ∀ i, i ≤ m.length → m.drop i = n.drop i →
    ∃ z, iterL (fun x : List Int × List Int × Int × Unit => integer_compare.s0 x.1 x.2.1 x.2.2.1) (m, n, (i : Int) - 1, ()) = some z ∧ ((z = .inl () ∧ cm (lv m) (lv n) = 0) ∨ z = .inr (cm (lv m) (lv n), ())) := by
  intro i
  induction i with
  | zero =>
    intro _ h
    rw [List.drop_zero, List.drop_zero] at h
    refine ⟨_, iterL_done ?_, .inl ⟨rfl, cm_eq (by rw [h])⟩⟩
    simp only [integer_compare.s0, cite, decide_eq_true_eq]
    rw [if_neg (by omega)]
  | succ i ih =>
    intro hi h
    have hst : integer_compare.s0 m n (((i + 1 : Nat) : Int) - 1) = if (dg m i : Int) = dg n i then some (.inl (m, n, (i : Int) - 1, ())) else if (dg m i : Int) < dg n i then some (.inr (.inr (-1, ()))) else some (.inr (.inr (1, ()))) := by
      simp only [integer_compare.s0, integer_compare.j3, integer_compare.j4, integer_compare.j5, cite, decide_eq_true_eq, inB_t, bne_iff_ne]
      rw [show ((i + 1 : Nat) : Int) - 1 = (i : Int) from by omega, Int.toNat_natCast, gd hm, gd hn, if_pos (by omega), if_pos (by omega), if_pos (by omega)]
      by_cases h0 : (dg m i : Int) = dg n i
      · rw [if_neg (fun h => h h0), if_pos h0, wi64 (by omega) (by omega)]
      · rw [if_pos h0, if_neg h0, if_pos (by omega), if_pos (by omega)]
    by_cases h0 : dg m i = dg n i
    · obtain ⟨z, hz, hz2⟩ := ih (by omega) (by
        rw [List.drop_eq_getElem_cons (l := m) (i := i) (by omega), List.drop_eq_getElem_cons (l := n) (i := i) (by omega), h]
        congr 1
        have h1 := dg_int hm i
        have h2 := dg_int hn i
        rw [h0, h2] at h1
        simp only [List.getD, List.getElem?_eq_getElem (show i < m.length by omega), List.getElem?_eq_getElem (show i < n.length by omega), Option.getD_some] at h1
        exact h1.symm)
      exact ⟨z, (iterL_next (by simp only []; rw [hst, if_pos (by omega)])).trans hz, hz2⟩
    · by_cases h1 : dg m i < dg n i
      · have := top_lt hm (by omega) (by omega) h h1
        exact ⟨_, iterL_done (by simp only []; rw [hst, if_neg (by omega), if_pos (by omega)]), .inr (by rw [cm_lt (by omega)])⟩
      · have := top_lt hn (by omega) (by omega) h.symm (show dg n i < dg m i by omega)
        exact ⟨_, iterL_done (by simp only []; rw [hst, if_neg (by omega), if_neg (by omega)]), .inr (by rw [cm_gt (by omega)])⟩
theorem cmp_same {m n : List Int} (hm : Lim m) (hn : Lim n) (hl : m.length = n.length) (hb : m.length < 17592186044416) : integer_compare m n = some (cm (lv m) (lv n)) := by
  obtain ⟨z, h1, h2⟩ := cmp_loop hm hn hl hb m.length (Nat.le_refl _) (by rw [List.drop_length, hl, List.drop_length])
  unfold integer_compare
  simp only [integer_compare.j2, cite, bne_iff_ne]
  rw [if_neg (by simp [hl]), wi64 (by omega) (by omega), h1, Option.bind_some]
  rcases h2 with ⟨rfl, h2⟩ | rfl
  · simp only [integer_compare.k0_0, h2]
  · rfl
theorem compare_ok {a b : Nat} (ha : (limbs a).length < 17592186044416) : integer_compare (limbs a) (limbs b) = some (cm a b) := by
  by_cases h : (limbs a).length = (limbs b).length
  · have := cmp_same (lim_limbs a) (lim_limbs b) h ha
    rwa [lv_limbs, lv_limbs] at this
  · unfold integer_compare
    simp only [integer_compare.j1, cite, bne_iff_ne, decide_eq_true_eq]
    rw [if_pos (by omega)]
    by_cases h1 : (limbs a).length < (limbs b).length
    · have : ¬ b < 4294967296 ^ (limbs a).length := fun hc => by have := limbs_len.2 hc; omega
      have := limbs_len.1 (Nat.le_refl (limbs a).length)
      rw [if_pos (by omega), cm_lt (by omega)]
    · have : ¬ a < 4294967296 ^ (limbs b).length := fun hc => by have := limbs_len.2 hc; omega
      have := limbs_len.1 (Nat.le_refl (limbs b).length)
      rw [if_neg (by omega), cm_gt (by omega)]
theorem lv_snoc (l : List Int) (d : Nat) : lv (l ++ [(d : Int)]) = lv l + 4294967296 ^ l.length * d := by
  rw [lv_append, lv_one, Int.toNat_natCast]
theorem len_le {a b : Nat} (h : a ≤ b) : (limbs a).length ≤ (limbs b).length := limbs_len.2 (Nat.lt_of_le_of_lt h (limbs_len.1 (Nat.le_refl _)))
theorem len_lv {l : List Int} (h : Lim l) : (limbs (lv l)).length ≤ l.length := limbs_len.2 (lv_lt h)
theorem iv_mkI (z : Int) : iv (mkI z).1 (mkI z).2.1 = z := iv_mk z
theorem lim_mkI (z : Int) : Lim (mkI z).2.1 := lim_limbs _
theorem lv_mkI (z : Int) : lv (mkI z).2.1 = z.natAbs := lv_limbs _
end Go.Proofs.Ytbchgegclgpdhaa.V
/- Laws of the reference's divisions. -/
namespace Go.Proofs.Ytbchgegclgpdhaa.V
open Go Go.Proofs.Ytbchgegclgpdhaa.E Go.Proofs.Ytbchgegclgpdhaa.LI
set_option linter.unusedVariables false
set_option linter.unusedSimpArgs false
theorem or32_nat (a b : Nat) (ha : a < 4294967296) (hb : b < 4294967296) : orI .u32 (a : Int) (b : Int) = ((a ||| b : Nat) : Int) := by
  have h0 : orI .u32 (a : Int) (b : Int) = IntKind.wrap .u32 (((BitVec.ofInt 32 (a : Int) ||| BitVec.ofInt 32 (b : Int)).toNat : Nat) : Int) := rfl
  rw [h0, wu32, BitVec.ofInt_natCast, BitVec.ofInt_natCast, BitVec.toNat_or, BitVec.toNat_ofNat, BitVec.toNat_ofNat, Nat.mod_eq_of_lt ha, Nat.mod_eq_of_lt hb]
  have : a ||| b < 2 ^ 32 := Nat.or_lt_two_pow ha hb
  omega
theorem shr32 (a r : Nat) (hr : r ≤ 32) : shrI .u32 (a : Int) (r : Int) = ((a / 2 ^ r : Nat) : Int) := by
  unfold shrI
  rw [show min (r : Int).toNat IntKind.u32.bits = r by rw [Int.toNat_natCast]; exact Nat.min_eq_left hr]
  have : (2 : Int) ^ r = ((2 ^ r : Nat) : Int) := by push_cast; rfl
  rw [this, Int.fdiv_eq_ediv_of_nonneg _ (Int.natCast_nonneg _)]
  rfl
theorem ediv_of {a b Q R : Int} (h : R + b * Q = a) (h0 : 0 ≤ R) (h1 : R < b.natAbs) (hb : b ≠ 0) : a / b = Q ∧ a % b = R := by
  have e : a % b = R := by
    rw [← h, Int.add_mul_emod_self_left]
    by_cases hp : 0 < b
    · exact Int.emod_eq_of_lt h0 (by omega)
    · rw [← Int.emod_neg]
      exact Int.emod_eq_of_lt h0 (by omega)
  refine ⟨?_, e⟩
  have h2 := Int.mul_ediv_add_emod a b
  rw [e] at h2
  exact Int.eq_of_mul_eq_mul_left hb (by omega)
end Go.Proofs.Ytbchgegclgpdhaa.V
/- Laws: quotient and remainder; sums and differences of integer. -/
namespace Go.Proofs.Ytbchgegclgpdhaa.V
open Go Go.Proofs.Ytbchgegclgpdhaa.E Go.Proofs.Ytbchgegclgpdhaa.LI
set_option linter.unusedVariables false
set_option linter.unusedSimpArgs false
theorem len_mkI (z : Int) : (mkI z).2.1.length = (limbs z.natAbs).length := rfl
theorem limb_ok {l : List Int} (h : Lim l) (i : Nat) : integer_limb l (i : Int) = some ((dg l i : Nat) : Int) := by
  have hd := dg_lt h i
  simp only [integer_limb, integer_limb.j1, cite, decide_eq_true_eq, inB_t]
  by_cases h1 : i < l.length
  · rw [if_pos (by omega), if_pos (by omega), Int.toNat_natCast, gd h, wu64' (by omega) (by omega)]
  · rw [if_neg (by omega), dg_out (by omega)]; rfl
theorem take_set (a : List Int) (i : Nat) (x : Int) (h : i < a.length) : (a.set i x).take (i + 1) = a.take i ++ [x] := by
  rw [List.take_add_one]
  simp [List.take_set_of_le, h]
theorem plus_loop {m n : List Int} (hm : Lim m) (hn : Lim n) {L : Nat} (hL : L < 17592186044416) : ∀ (t i : Nat) (a : List Int) (c : Nat), L - i = t → i ≤ L → a.length = L + 1 → Lim a → c ≤ 1 → lv (a.take i) + 4294967296 ^ i * c = lv (m.take i) + lv (n.take i) →
    ∃ (a' : List Int) (c' : Nat), iterL (fun x : List Int × List Int × Int × Int × Int × Int × List Int × Unit => integer_plus.s0 x.1 x.2.1 x.2.2.1 x.2.2.2.1 x.2.2.2.2.1 x.2.2.2.2.2.1 x.2.2.2.2.2.2.1) (m, n, (L : Int), (c : Int), (L : Int), (i : Int), a, ()) = some ((L : Int), (c' : Int), a', ()) ∧
      a'.length = L + 1 ∧ Lim a' ∧ c' ≤ 1 ∧ lv (a'.take L) + 4294967296 ^ L * c' = lv (m.take L) + lv (n.take L) := by
  intro t
  induction t with
  | zero =>
    intro i a c ht hi hl ha hc he
    obtain rfl : i = L := by omega
    refine ⟨a, c, iterL_done ?_, hl, ha, hc, he⟩
    simp only [integer_plus.s0, cite, decide_eq_true_eq]
    rw [if_neg (by omega)]
  | succ t ih =>
    intro i a c ht hi hl ha hc he
    have hdm := dg_lt hm i
    have hdn := dg_lt hn i
    obtain ⟨a', c', h1, h2⟩ := ih (i + 1) (a.set i (((c + dg m i + dg n i) % 4294967296 : Nat) : Int)) ((c + dg m i + dg n i) / 4294967296) (by omega) (by omega) (by simpa using hl) (ha.set i (by omega)) (by omega) (by
      rw [take_set _ _ _ (by omega), lv_snoc, lv_take_succ, lv_take_succ, Nat.pow_succ, List.length_take, Nat.min_eq_left (by omega)]
      have h3 : 4294967296 ^ i * (c + dg m i + dg n i) = 4294967296 ^ i * ((c + dg m i + dg n i) % 4294967296) + 4294967296 ^ i * (4294967296 * ((c + dg m i + dg n i) / 4294967296)) := by
        rw [← Nat.mul_add, Nat.mod_add_div]
      rw [Nat.mul_add, Nat.mul_add] at h3
      rw [Nat.mul_assoc]
      omega)
    refine ⟨a', c', (iterL_next ?_).trans h1, h2⟩
    simp only [integer_plus.s0, integer_plus.j1, cite, decide_eq_true_eq, inB_t]
    have e : IntKind.wrap .u64 ((c : Int) + IntKind.wrap .u64 ((dg m i : Int) + (dg n i : Int))) = ((c + dg m i + dg n i : Nat) : Int) := by
      rw [wu64, wu64]; omega
    rw [if_pos (by omega), limb_ok hm, Option.bind_some, limb_ok hn, Option.bind_some, e, hi_word, Int.toNat_natCast, Nat.zero_add, if_pos (by omega), up (by omega), wu32, Int.natCast_emod]
    rfl
theorem plus_ok {m n : List Int} (hm : Lim m) (hn : Lim n) (hb : m.length < 1073741824) (hb' : n.length < 1073741824) : integer_plus m n = some (limbs (lv m + lv n)) := by
  have hmx : mx2 (m.length : Int) (n.length : Int) = ((max m.length n.length : Nat) : Int) := by unfold mx2; split <;> omega
  obtain ⟨a', c', h1, h2, h3, h4, h5⟩ := plus_loop hm hn (L := max m.length n.length) (by omega) _ 0 (List.replicate (max m.length n.length + 1) 0) 0 rfl (by omega) (by simp) (Lim.replicate _) (by omega) (by simp [lv])
  unfold integer_plus
  simp only [hmx, cite, inC_t, maxL_eq]
  rw [up (by omega), if_pos (by omega), Int.toNat_natCast]
  rw [show ((0 : Nat) : Int) = 0 from rfl] at h1
  rw [h1, Option.bind_some]
  simp only [integer_plus.k0, cite, inB_t]
  rw [if_pos (by omega), Int.toNat_natCast, Nat.zero_add, wu32' (by omega) (by omega), trim_ok (h3.set _ (by omega)) (by simp; omega), Option.bind_some]
  have e : lv (a'.set (max m.length n.length) (c' : Int)) = lv m + lv n := by
    have e1 : a'.set (max m.length n.length) (c' : Int) = (a'.set (max m.length n.length) (c' : Int)).take (max m.length n.length + 1) := by rw [List.take_of_length_le (by simp; omega)]
    rw [e1, take_set _ _ _ (by omega), lv_snoc, List.length_take, Nat.min_eq_left (by omega), h5, List.take_of_length_le (by omega), List.take_of_length_le (by omega)]
  rw [e]
theorem minus_loop {m n : List Int} (hm : Lim m) (hn : Lim n) (hb : m.length < 17592186044416) : ∀ (t i : Nat) (a : List Int) (c : Nat), m.length - i = t → i ≤ m.length → a.length = m.length → Lim a → c ≤ 1 → lv (m.take i) + 4294967296 ^ i * c = lv (a.take i) + lv (n.take i) →
    ∃ (a' : List Int) (c' : Nat), iterL (fun x : List Int × List Int × Int × Int × Int × List Int × Unit => integer_minus.s0 x.1 x.2.1 x.2.2.1 x.2.2.2.1 x.2.2.2.2.1 x.2.2.2.2.2.1) (m, n, (c : Int), (m.length : Int), (i : Int), a, ()) = some (a', ()) ∧
      a'.length = m.length ∧ Lim a' ∧ lv m + 4294967296 ^ m.length * c' = lv a' + lv (n.take m.length) := by
  intro t
  induction t with
  | zero =>
    intro i a c ht hi hl ha hc he
    obtain rfl : i = m.length := by omega
    refine ⟨a, c, iterL_done ?_, hl, ha, ?_⟩
    · simp only [integer_minus.s0, cite, decide_eq_true_eq]
      rw [if_neg (by omega)]
    · rw [List.take_length] at he
      rw [he, List.take_of_length_le (show a.length ≤ m.length by omega)]
  | succ t ih =>
    intro i a c ht hi hl ha hc he
    have hdm := dg_lt hm i
    have hdn := dg_lt hn i
    obtain ⟨d, c', hd, hc', h3⟩ : ∃ d c' : Nat, d < 4294967296 ∧ c' ≤ 1 ∧ dg m i + 4294967296 * c' = c + d + dg n i := by
      by_cases h : dg m i < c + dg n i
      · exact ⟨dg m i + 4294967296 - c - dg n i, 1, by omega, by omega, by omega⟩
      · exact ⟨dg m i - c - dg n i, 0, by omega, by omega, by omega⟩
    obtain ⟨a', cc, h1, h2⟩ := ih (i + 1) (a.set i (d : Int)) c' (by omega) (by omega) (by simpa using hl) (ha.set i (by omega)) hc' (by
      rw [take_set _ _ _ (by omega), lv_snoc, lv_take_succ, lv_take_succ, Nat.pow_succ, List.length_take, Nat.min_eq_left (by omega)]
      have h4 : 4294967296 ^ i * (dg m i + 4294967296 * c') = 4294967296 ^ i * (c + d + dg n i) := by rw [h3]
      rw [Nat.mul_add, Nat.mul_add, Nat.mul_add, ← Nat.mul_assoc] at h4
      omega)
    refine ⟨a', cc, (iterL_next ?_).trans h1, h2⟩
    simp only [integer_minus.s0, integer_minus.j1, cite, decide_eq_true_eq, inB_t]
    rw [if_pos (by omega), limb_ok hn, if_pos (by omega), Option.bind_some, Int.toNat_natCast, gd hm, Nat.zero_add]
    have e : IntKind.wrap .u64 (IntKind.wrap .u64 (IntKind.wrap .u64 (dg m i : Int) - (dg n i : Int)) - (c : Int)) = ((d + 18446744069414584320 * c' : Nat) : Int) := by
      rw [wu64, wu64, wu64]
      have : c' = 0 ∨ c' = 1 := by omega
      rcases this with rfl | rfl <;> omega
    rw [e, top_bit, if_pos (by omega), up (by omega), wu32]
    have e2 : ((d + 18446744069414584320 * c') / 9223372036854775808 : Nat) = c' := by
      have : c' = 0 ∨ c' = 1 := by omega
      rcases this with rfl | rfl <;> omega
    have e3 : ((d + 18446744069414584320 * c' : Nat) : Int) % 4294967296 = (d : Int) := by omega
    rw [e2, e3]
theorem minus_ok {m n : List Int} (hm : Lim m) (hn : Lim n) (hb : m.length ≤ 1073741824) (hl : n.length ≤ m.length) (h : lv n ≤ lv m) : integer_minus m n = some (limbs (lv m - lv n)) := by
  obtain ⟨a', c', h1, h2, h3, h4⟩ := minus_loop hm hn (by omega) _ 0 (List.replicate m.length 0) 0 rfl (by omega) (by simp) (Lim.replicate _) (by omega) (by simp [lv])
  unfold integer_minus
  simp only [cite, inC_t, maxL_eq]
  rw [show ((0 : Nat) : Int) = 0 from rfl] at h1
  rw [if_pos (by omega), Int.toNat_natCast, h1, Option.bind_some]
  simp only [integer_minus.k0]
  rw [trim_ok h3 (by omega), Option.bind_some]
  have e : lv a' = lv m - lv n := by
    rw [List.take_of_length_le hl] at h4
    have h5 := lv_lt h3
    rw [h2] at h5
    have : c' = 0 := by
      cases c' with
      | zero => rfl
      | succ c =>
        have : 4294967296 ^ m.length * 1 ≤ 4294967296 ^ m.length * (c + 1) := Nat.mul_le_mul_left _ (by omega)
        omega
    subst this
    omega
  rw [e]
end Go.Proofs.Ytbchgegclgpdhaa.V
/- Laws: quotient and remainder of integer (a divisor of one word), words of 64 bits, residues. -/
namespace Go.Proofs.Ytbchgegclgpdhaa.V
open Go Go.Proofs.Ytbchgegclgpdhaa.E Go.Proofs.Ytbchgegclgpdhaa.LI
set_option linter.unusedVariables false
set_option linter.unusedSimpArgs false
theorem limbs_one {N : Nat} (h : 0 < N) (h2 : N < 4294967296) : limbs N = [(N : Int)] := by
  rw [limbs_pos (by omega), Nat.mod_eq_of_lt h2, Nat.div_eq_of_lt h2, limbs_zero]
theorem divide_small {M N : Nat} (hM : (limbs M).length ≤ 1073741824) (h : M < N) : integer_divide (limbs M) (limbs N) = some (limbs (M / N), limbs (M % N), ()) := by
  unfold integer_divide
  rw [compare_ok (by omega), Option.bind_some]
  simp only [cite, decide_eq_true_eq]
  rw [cm_lt (by omega), if_pos (by decide), if_pos (show (limbs M).length ≤ maxL from hM), Nat.div_eq_of_lt h, Nat.mod_eq_of_lt h, limbs_zero]
theorem divide_one {M N : Nat} (hM : (limbs M).length ≤ 1073741824) (hN : 0 < N) (hN2 : N < 4294967296) : integer_divide (limbs M) (limbs N) = some (limbs (M / N), limbs (M % N), ()) := by
  by_cases h : M < N
  · exact divide_small hM h
  · unfold integer_divide
    rw [compare_ok (by omega), Option.bind_some]
    simp only [integer_divide.j1, cite, decide_eq_true_eq, inB_t, beq_iff_eq]
    have hr : M % N < N := Nat.mod_lt _ hN
    have hc : ¬ cm (M : Int) (N : Int) < 0 := by unfold cm; split <;> (try split) <;> omega
    have ht : integer_trim [((M % N : Nat) : Int)] = some (limbs (M % N)) := by
      have h1 : Lim [((M % N : Nat) : Int)] := Lim.one (by omega)
      rw [trim_ok h1 (by simp), lv_one, Int.toNat_natCast]
    have hs := shortDivide_ok (lim_limbs M) hM hN hN2
    rw [lv_limbs] at hs
    rw [if_neg hc, limbs_one hN hN2]
    simp only [List.length_singleton, List.getD_cons_zero]
    rw [if_pos (by decide), if_pos (by decide), hs, Option.bind_some, ht, Option.bind_some]
theorem divmod_of {l l' : List Int} (s s' : Bool) (u u' : Unit) (h : Lim l) (h' : Lim l') (hb : l.length < 33554432) (hb' : l'.length < 33554432) (h0 : iv s' l' ≠ 0)
    (hdv : integer_divide (limbs (lv l)) (limbs (lv l')) = some (limbs (lv l / lv l'), limbs (lv l % lv l'), ())) :
    integer_DivMod (s, l, u) (s', l', u') = some (mkI (iv s l / iv s' l'), mkI (iv s l % iv s' l'), true, ()) := by
  have hx := len_lv h
  have hy := len_lv h'
  have hN : 0 < lv l' := by unfold iv at h0; split at h0 <;> omega
  unfold integer_DivMod
  rw [magnitude_ok s' () h' (by omega), Option.bind_some]
  simp only [cite, beq_iff_eq, limbs_len0]
  rw [if_neg (by omega)]
  simp only [integer_DivMod.j1, integer_DivMod.j2, cite, decide_eq_true_eq]
  rw [magnitude_ok s () h (by omega), Option.bind_some, hdv, Option.bind_some]
  generalize hM' : lv l = M at *
  generalize hN' : lv l' = N at *
  have hqM : M / N ≤ M := Nat.div_le_self _ _
  have hrM : M % N < N := Nat.mod_lt _ hN
  have hdm := Nat.div_add_mod M N
  have hlq := len_le hqM
  have hlr := len_le (Nat.le_of_lt hrM)
  generalize M / N = q at *
  generalize M % N = r at *
  have hiv : iv s' l' = if s' = true then -(N : Int) else N := by unfold iv; rw [hN']
  have hia : iv s l = if s = true then -(M : Int) else M := by unfold iv; rw [hM']
  have hab : (iv s' l').natAbs = N := by rw [iv_natAbs, hN']
  have hdz : (N : Int) * (q : Int) + (r : Int) = M := by exact_mod_cast hdm
  have fin : ∀ (Q R : Nat), (limbs Q).length < 17592186044416 → (limbs R).length < 17592186044416 → iv (!(s == s')) (limbs Q) = iv s l / iv s' l' → (R : Int) = iv s l % iv s' l' →
      ((integer_signed (!(s == s')) (limbs Q)).bind fun y8 => (integer_signed false (limbs R)).bind fun y9 => some ((y8.1, (y8.2.1, ())), ((y9.1, (y9.2.1, ())), (true, ())))) = some (mkI (iv s l / iv s' l'), mkI (iv s l % iv s' l'), true, ()) := by
    intro Q R h1 h2 h3 h4
    rw [signed_ok _ (lim_limbs Q) h1, Option.bind_some, signed_ok _ (lim_limbs R) h2, Option.bind_some, h3, iv_f, lv_limbs, h4]
  cases hs : s with
  | true =>
    rw [if_pos rfl]
    rw [hs] at hia fin
    rw [if_pos rfl] at hia
    have hlen0 := limbs_len0 r
    by_cases hr0 : r = 0
    · rw [if_neg (by show ¬ (((limbs r).length : Nat) : Int) > 0; rw [hr0]; decide)]
      have := ediv_of (a := iv true l) (b := iv s' l') (Q := iv (!(true == s')) (limbs q)) (R := (r : Int)) (by
        rw [hia, hiv]; cases s'
        · rw [show (!(true == false)) = true from rfl, iv_t, lv_limbs]; simp only [Bool.false_eq_true, if_false, Int.mul_neg]; omega
        · rw [show (!(true == true)) = false from rfl, iv_f, lv_limbs]; simp only [if_true, Int.neg_mul]; omega) (by omega) (by rw [hab]; omega) h0
      exact fin q r (by omega) (by omega) this.1.symm this.2.symm
    · have hpl := limbs_len_pos.2 hr0
      have hp := plus_ok (lim_limbs q) (n := [1]) (Lim.one (by omega)) (by omega) (by simp)
      rw [lv_limbs, lv_one] at hp
      have hmn := minus_ok (lim_limbs N) (lim_limbs r) (by omega) hlr (by rw [lv_limbs, lv_limbs]; omega)
      rw [lv_limbs, lv_limbs] at hmn
      rw [if_pos (show (((limbs r).length : Nat) : Int) > 0 by omega), hp, Option.bind_some, hmn, Option.bind_some]
      have := ediv_of (a := iv true l) (b := iv s' l') (Q := iv (!(true == s')) (limbs (q + 1))) (R := ((N - r : Nat) : Int)) (by
        rw [hia, hiv]; cases s'
        · rw [show (!(true == false)) = true from rfl, iv_t, lv_limbs]; simp only [Bool.false_eq_true, if_false, Int.mul_neg, Int.natCast_add, Int.natCast_one, Int.mul_add, Int.mul_one]; omega
        · rw [show (!(true == true)) = false from rfl, iv_f, lv_limbs]; simp only [if_true, Int.neg_mul, Int.natCast_add, Int.natCast_one, Int.mul_add, Int.mul_one]; omega) (by omega) (by rw [hab]; omega) h0
      have hq1 : (limbs (q + 1)).length ≤ (limbs q).length + 1 := limbs_len.2 (by
        have := limbs_len.1 (Nat.le_refl (limbs q).length)
        rw [Nat.pow_succ]; omega)
      have hnr := len_le (show N - r ≤ N by omega)
      exact fin (q + 1) (N - r) (by omega) (by omega) this.1.symm this.2.symm
  | false =>
    rw [if_neg (by decide)]
    rw [hs] at hia fin
    rw [if_neg (by decide)] at hia
    have := ediv_of (a := iv false l) (b := iv s' l') (Q := iv (!(false == s')) (limbs q)) (R := (r : Int)) (by
        rw [hia, hiv]; cases s'
        · rw [show (!(false == false)) = false from rfl, iv_f, lv_limbs]; simp only [Bool.false_eq_true, if_false]; omega
        · rw [show (!(false == true)) = true from rfl, iv_t, lv_limbs]; simp only [if_true, Int.neg_mul, Int.mul_neg, Int.neg_neg]; omega) (by omega) (by rw [hab]; omega) h0
    exact fin q r (by omega) (by omega) this.1.symm this.2.symm
end Go.Proofs.Ytbchgegclgpdhaa.V
