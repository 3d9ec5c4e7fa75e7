/- Functions of the program as functions on values, without fuel, and that the evaluator computes them (printed by gen.py). -/
import Derived.Test.YtbchgegclgpdhaaG2
namespace Go.Proofs.Ytbchgegclgpdhaa.E
open Go
set_option linter.unusedVariables false
set_option maxRecDepth 100000
noncomputable def quadformref22_Is.j3 (t0 : Int) (t3 : Int) : Option ((Int × Int × Unit) ⊕ ((Unit) ⊕ (Bool × Unit))) :=
  (some (.inl (t0, (IntKind.wrap .i64 (t3 + (1 : Int))), ())))
noncomputable def quadformref22_Is.j2 (t0 : Int) (t3 : Int) : Option ((Int × Int × Unit) ⊕ ((Unit) ⊕ (Bool × Unit))) :=
  (cond (decide (t3 = 0))
  none
  ((cond (((Int.tmod t0 t3) == (0 : Int)))
  ((some (.inr (.inr (false, ())))))
  ((quadformref22_Is.j3 t0 t3)))))
noncomputable def quadformref22_Is.s0 (t0 : Int) (t3 : Int) : Option ((Int × Int × Unit) ⊕ ((Unit) ⊕ (Bool × Unit))) :=
  (cond ((decide ((IntKind.wrap .i64 (t3 * t3)) ≤ t0)))
  ((quadformref22_Is.j2 t0 t3))
  ((some (.inr (.inl ())))))
noncomputable def quadformref22_Is.k0_0  : Option (Bool) :=
  (some true)
noncomputable def quadformref22_Is.k0_1 (t2 : Bool) : Option (Bool) :=
  (some t2)
noncomputable def quadformref22_Is.j1 (t0 : Int) : Option (Bool) :=
  ((iterL (fun x : Int × Int × Unit => quadformref22_Is.s0 x.1 x.2.1) (t0, (2 : Int), ())).bind fun z => Sum.casesOn z (fun y => quadformref22_Is.k0_0) (fun z => quadformref22_Is.k0_1 z.1))
noncomputable def quadformref22_Is (t0 : Int) : Option (Bool) :=
  (cond ((decide (t0 < (2 : Int))))
  ((some false))
  ((cond ((decide (t0 > (2147483647 : Int))))
  ((some false))
  ((quadformref22_Is.j1 t0)))))
noncomputable def quadformref22_Is.en : En := ⟨17, [.int .i64], .bool, false, fun x => quadformref22_Is x.1⟩
noncomputable def quadformref22_Is.o : List En := []
noncomputable def quadformref22_Is.oB : List EnB := []
def quadformref22_Is.h : HT := .two (.n) (.two (.n) (.two (.two (.n) (.lp 0)) (.n)))
noncomputable def quadformref22_Is.c : Code := Try.f17.body.getD .skip
def quadformref22_Is.h0 : HT := .n
noncomputable def quadformref22_Is.c0 : Code := (find (loops quadformref22_Is.c quadformref22_Is.h) 0).getD .skip
def quadformref22_Is.d0 : Fm := [.v 0 (.int .i64), .v 3 (.int .i64)]
def quadformref22_Is.x0 : Xs := [(.exit 0, []), (.ret, [.v 2 (.bool)])]
noncomputable def quadformref22_Is.r0 (x : (Fm.ty quadformref22_Is.d0).den) : Option ((Fm.ty quadformref22_Is.d0).den ⊕ (Xs.T quadformref22_Is.x0)) := quadformref22_Is.s0 x.1 x.2.1
noncomputable def quadformref22_Is.L : Lam := fun _ i s K => cond (Nat.beq i 0) (lamK quadformref22_Is.d0 quadformref22_Is.x0 quadformref22_Is.r0 s K) (none)
theorem quadformref22_Is.hf0 (x) : roundK env (orc quadformref22_Is.o) (orcB quadformref22_Is.oB) 21 quadformref22_Is.L quadformref22_Is.c0 quadformref22_Is.h0 quadformref22_Is.d0 quadformref22_Is.x0 x = quadformref22_Is.r0 x := by kernel_rfl
theorem quadformref22_Is.os : AllOk prog quadformref22_Is.o := trivial
theorem quadformref22_Is.osB : AllBOk prog quadformref22_Is.oB := trivial
theorem quadformref22_Is.l0 {C : Ctx} (hC : C.n = 21) : LamAt prog C quadformref22_Is.L 0 quadformref22_Is.c0 := by
  intro R s K r hk
  refine loop_ok (D := quadformref22_Is.d0) (X := quadformref22_Is.x0) (h := quadformref22_Is.h0) (f := quadformref22_Is.r0) tabs (orc_ok _ quadformref22_Is.os) (orcB_ok _ quadformref22_Is.osB) (fun x => by rw [hC]; exact quadformref22_Is.hf0 x) (Λ := quadformref22_Is.L) ?_ (by kernel_rfl) (by kernel_rfl) (K := K) (s := s) (by exact hk)
  exact by
    have e : loops quadformref22_Is.c0 quadformref22_Is.h0 = [] := by kernel_rfl
    rw [e]
    exact LamOk.nil
theorem quadformref22_Is.hk (x) : semK env (orc quadformref22_Is.o) (orcB quadformref22_Is.oB) 21 (quadformref22_Is.L _) quadformref22_Is.c quadformref22_Is.h (S.init (avs [.int .i64] x)) (fin env Try.f17 ⟨[.int .i64], .bool, false, false⟩) = quadformref22_Is.en.g x := by kernel_rfl
theorem quadformref22_Is.ok : EnOk prog quadformref22_Is.en := by
  refine fun_ok (g := ⟨[.int .i64], .bool, false, false⟩) (h := quadformref22_Is.h) (Λ := quadformref22_Is.L) tabs quadformref22_Is.os quadformref22_Is.osB Try.func17 (c := quadformref22_Is.c) (by kernel_rfl) (by decide +kernel) (by decide +kernel) (fun C hC => ?_) (fun x => quadformref22_Is.hk x)
  exact by
    have e : loops quadformref22_Is.c quadformref22_Is.h = [(0, quadformref22_Is.c0)] := by kernel_rfl
    rw [e]
    exact LamOk.cons (quadformref22_Is.l0 hC) (LamOk.nil)
noncomputable def quadformref01_Cmp.j1  : Option (Int) :=
  (some (1 : Int))
noncomputable def quadformref01_Cmp.j2 (t5 : Int) (b2_0 : Bool) (b2_1 : List Int) (b3_0 : Bool) (b3_1 : List Int) : Option (Int) :=
  ((quadformref01_trim b2_1).bind fun y3 =>
  ((quadformref01_trim b3_1).bind fun y4 =>
  ((quadformref01_cmp y3 y4).bind fun y5 =>
  (some (IntKind.wrap .i64 (t5 * y5))))))
noncomputable def quadformref01_Cmp (t0 : Bool × List Int × Unit) (t1 : Bool × List Int × Unit) : Option (Int) :=
  ((quadformref01_Sign (t0.1, (t0.2.1, ()))).bind fun y1 =>
  ((quadformref01_Sign (t1.1, (t1.2.1, ()))).bind fun y2 =>
  (cond ((y1 != y2))
  ((cond ((decide (y1 < y2)))
  ((some (-1 : Int)))
  ((quadformref01_Cmp.j1))))
  ((quadformref01_Cmp.j2 y1 t0.1 t0.2.1 t1.1 t1.2.1)))))
noncomputable def quadformref01_Cmp.en : En := ⟨18, [.pair (.bool) (.pair (.sl (.int .u32)) (.unit)), .pair (.bool) (.pair (.sl (.int .u32)) (.unit))], .int .i64, false, fun x => quadformref01_Cmp x.1 x.2.1⟩
noncomputable def quadformref01_Cmp.o : List En := [quadformref01_Sign.en, quadformref01_cmp.en, quadformref01_trim.en]
noncomputable def quadformref01_Cmp.oB : List EnB := []
def quadformref01_Cmp.h : HT := .n
noncomputable def quadformref01_Cmp.c : Code := Try.f18.body.getD .skip
noncomputable def quadformref01_Cmp.L : Lam := fun _ i s K => none
theorem quadformref01_Cmp.os : AllOk prog quadformref01_Cmp.o := ⟨quadformref01_Sign.ok, quadformref01_cmp.ok, quadformref01_trim.ok, trivial⟩
theorem quadformref01_Cmp.osB : AllBOk prog quadformref01_Cmp.oB := trivial
theorem quadformref01_Cmp.hk (x) : semK env (orc quadformref01_Cmp.o) (orcB quadformref01_Cmp.oB) 26 (quadformref01_Cmp.L _) quadformref01_Cmp.c quadformref01_Cmp.h (S.init (avs [.pair (.bool) (.pair (.sl (.int .u32)) (.unit)), .pair (.bool) (.pair (.sl (.int .u32)) (.unit))] x)) (fin env Try.f18 ⟨[.pair (.bool) (.pair (.sl (.int .u32)) (.unit)), .pair (.bool) (.pair (.sl (.int .u32)) (.unit))], .int .i64, false, false⟩) = quadformref01_Cmp.en.g x := by kernel_rfl
theorem quadformref01_Cmp.ok : EnOk prog quadformref01_Cmp.en := by
  refine fun_ok (g := ⟨[.pair (.bool) (.pair (.sl (.int .u32)) (.unit)), .pair (.bool) (.pair (.sl (.int .u32)) (.unit))], .int .i64, false, false⟩) (h := quadformref01_Cmp.h) (Λ := quadformref01_Cmp.L) tabs quadformref01_Cmp.os quadformref01_Cmp.osB Try.func18 (c := quadformref01_Cmp.c) (by kernel_rfl) (by decide +kernel) (by decide +kernel) (fun C hC => ?_) (fun x => quadformref01_Cmp.hk x)
  exact by
    have e : loops quadformref01_Cmp.c quadformref01_Cmp.h = [] := by kernel_rfl
    rw [e]
    exact LamOk.nil
noncomputable def quadformlaw31_BernoulliDenominator.j2 (t3 : Int) (t5 : Int) (t6 : Int) (t7 : Int) (b4_0 : Bool) (b4_1 : List Int) (b4_2 : Bool) (b4_3 : List Int) : Option ((Int × Int × Int × Int × ((Bool × List Int × Unit) × (Bool × List Int × Unit) × Unit) × Unit) ⊕ ((Int × Int × ((Bool × List Int × Unit) × (Bool × List Int × Unit) × Unit) × Unit))) :=
  (some (.inl (t3, t5, t6, (IntKind.wrap .i64 (t7 + (1 : Int))), ((b4_0, (b4_1, ())), ((b4_2, (b4_3, ())), ())), ())))
noncomputable def quadformlaw31_BernoulliDenominator.j1 (t3 : Int) (t5 : Int) (t6 : Int) (t7 : Int) (b4_0 : Bool) (b4_1 : List Int) (b4_2 : Bool) (b4_3 : List Int) : Option ((Int × Int × Int × Int × ((Bool × List Int × Unit) × (Bool × List Int × Unit) × Unit) × Unit) ⊕ ((Int × Int × ((Bool × List Int × Unit) × (Bool × List Int × Unit) × Unit) × Unit))) :=
  ((quadformref22_Is t7).bind fun y5 =>
  (cond (y5)
  ((cond (decide ((IntKind.wrap .i64 (t7 - (1 : Int))) = 0))
  none
  ((cond (((Int.tmod t3 (IntKind.wrap .i64 (t7 - (1 : Int)))) == (0 : Int)))
  ((quadformlaw31_BernoulliDenominator.j2 t3 t5 (IntKind.wrap .i64 (t6 * t7)) t7 b4_0 b4_1 b4_2 b4_3))
  ((quadformlaw31_BernoulliDenominator.j2 t3 t5 t6 t7 b4_0 b4_1 b4_2 b4_3))))))
  ((some (.inl (t3, t5, t6, (IntKind.wrap .i64 (t7 + (1 : Int))), ((b4_0, (b4_1, ())), ((b4_2, (b4_3, ())), ())), ()))))))
noncomputable def quadformlaw31_BernoulliDenominator.s0 (t3 : Int) (t5 : Int) (t6 : Int) (t7 : Int) (b4 : (Bool × List Int × Unit) × (Bool × List Int × Unit) × Unit) : Option ((Int × Int × Int × Int × ((Bool × List Int × Unit) × (Bool × List Int × Unit) × Unit) × Unit) ⊕ ((Int × Int × ((Bool × List Int × Unit) × (Bool × List Int × Unit) × Unit) × Unit))) :=
  (cond ((decide (t7 ≤ (IntKind.wrap .i64 (t3 + (1 : Int))))))
  ((quadformlaw31_BernoulliDenominator.j1 t3 t5 t6 t7 b4.1.1 b4.1.2.1 b4.2.1.1 b4.2.1.2.1))
  ((some (.inr (t5, t6, ((b4.1.1, (b4.1.2.1, ())), ((b4.2.1.1, (b4.2.1.2.1, ())), ())), ())))))
noncomputable def quadformlaw31_BernoulliDenominator.k0 (t5 : Int) (t6 : Int) (b4 : (Bool × List Int × Unit) × (Bool × List Int × Unit) × Unit) : Option (Bool) :=
  (cond ((t5 == (0 : Int)))
  (((quadformref01_Small t6).bind fun y7 =>
  ((quadformref01_Cmp (b4.2.1.1, (b4.2.1.2.1, ())) y7).bind fun y8 =>
  (cond ((y8 == (0 : Int)))
  (((quadformlaw31_awake).bind fun y9 =>
  (some y9)))
  ((some false))))))
  ((some false)))
noncomputable def quadformlaw31_BernoulliDenominator (t0 : Int) : Option (Bool) :=
  let x2 := (IntKind.wrap .i64 ((2 : Int) + (IntKind.wrap .i64 ((2 : Int) * (Int.tmod (IntKind.wrap .i64 t0) (10 : Int))))))
  ((bernoulli_Number x2).bind fun y3 =>
  ((iterL (fun x : Int × Int × Int × Int × ((Bool × List Int × Unit) × (Bool × List Int × Unit) × Unit) × Unit => quadformlaw31_BernoulliDenominator.s0 x.1 x.2.1 x.2.2.1 x.2.2.2.1 x.2.2.2.2.1) (x2, y3.2.1, (1 : Int), (2 : Int), ((y3.1.1.1, (y3.1.1.2.1, ())), ((y3.1.2.1.1, (y3.1.2.1.2.1, ())), ())), ())).bind fun y => quadformlaw31_BernoulliDenominator.k0 y.1 y.2.1 y.2.2.1))
noncomputable def quadformlaw31_BernoulliDenominator.en : En := ⟨4, [.int .u8], .bool, false, fun x => quadformlaw31_BernoulliDenominator x.1⟩
noncomputable def quadformlaw31_BernoulliDenominator.o : List En := [bernoulli_Number.en, quadformlaw31_awake.en, quadformref22_Is.en, quadformref01_Cmp.en, quadformref01_Small.en]
noncomputable def quadformlaw31_BernoulliDenominator.oB : List EnB := []
def quadformlaw31_BernoulliDenominator.h : HT := .two (.n) (.two (.n) (.two (.n) (.two (.n) (.two (.two (.n) (.lp 0)) (.n)))))
noncomputable def quadformlaw31_BernoulliDenominator.c : Code := Try.f4.body.getD .skip
def quadformlaw31_BernoulliDenominator.h0 : HT := .n
noncomputable def quadformlaw31_BernoulliDenominator.c0 : Code := (find (loops quadformlaw31_BernoulliDenominator.c quadformlaw31_BernoulliDenominator.h) 0).getD .skip
def quadformlaw31_BernoulliDenominator.d0 : Fm := [.v 3 (.int .i64), .v 5 (.int .i64), .v 6 (.int .i64), .v 7 (.int .i64), .box 4 (.pair (.pair (.bool) (.pair (.sl (.int .u32)) (.unit))) (.pair (.pair (.bool) (.pair (.sl (.int .u32)) (.unit))) (.unit))), .ptr 4 4]
def quadformlaw31_BernoulliDenominator.x0 : Xs := [(.exit 0, [.v 5 (.int .i64), .v 6 (.int .i64), .box 4 (.pair (.pair (.bool) (.pair (.sl (.int .u32)) (.unit))) (.pair (.pair (.bool) (.pair (.sl (.int .u32)) (.unit))) (.unit))), .ptr 4 4])]
noncomputable def quadformlaw31_BernoulliDenominator.r0 (x : (Fm.ty quadformlaw31_BernoulliDenominator.d0).den) : Option ((Fm.ty quadformlaw31_BernoulliDenominator.d0).den ⊕ (Xs.T quadformlaw31_BernoulliDenominator.x0)) := quadformlaw31_BernoulliDenominator.s0 x.1 x.2.1 x.2.2.1 x.2.2.2.1 x.2.2.2.2.1
noncomputable def quadformlaw31_BernoulliDenominator.L : Lam := fun _ i s K => cond (Nat.beq i 0) (lamK quadformlaw31_BernoulliDenominator.d0 quadformlaw31_BernoulliDenominator.x0 quadformlaw31_BernoulliDenominator.r0 s K) (none)
theorem quadformlaw31_BernoulliDenominator.hf0 (x) : roundK env (orc quadformlaw31_BernoulliDenominator.o) (orcB quadformlaw31_BernoulliDenominator.oB) 49 quadformlaw31_BernoulliDenominator.L quadformlaw31_BernoulliDenominator.c0 quadformlaw31_BernoulliDenominator.h0 quadformlaw31_BernoulliDenominator.d0 quadformlaw31_BernoulliDenominator.x0 x = quadformlaw31_BernoulliDenominator.r0 x := by kernel_rfl
theorem quadformlaw31_BernoulliDenominator.os : AllOk prog quadformlaw31_BernoulliDenominator.o := ⟨bernoulli_Number.ok, quadformlaw31_awake.ok, quadformref22_Is.ok, quadformref01_Cmp.ok, quadformref01_Small.ok, trivial⟩
theorem quadformlaw31_BernoulliDenominator.osB : AllBOk prog quadformlaw31_BernoulliDenominator.oB := trivial
theorem quadformlaw31_BernoulliDenominator.l0 {C : Ctx} (hC : C.n = 49) : LamAt prog C quadformlaw31_BernoulliDenominator.L 0 quadformlaw31_BernoulliDenominator.c0 := by
  intro R s K r hk
  refine loop_ok (D := quadformlaw31_BernoulliDenominator.d0) (X := quadformlaw31_BernoulliDenominator.x0) (h := quadformlaw31_BernoulliDenominator.h0) (f := quadformlaw31_BernoulliDenominator.r0) tabs (orc_ok _ quadformlaw31_BernoulliDenominator.os) (orcB_ok _ quadformlaw31_BernoulliDenominator.osB) (fun x => by rw [hC]; exact quadformlaw31_BernoulliDenominator.hf0 x) (Λ := quadformlaw31_BernoulliDenominator.L) ?_ (by kernel_rfl) (by kernel_rfl) (K := K) (s := s) (by exact hk)
  exact by
    have e : loops quadformlaw31_BernoulliDenominator.c0 quadformlaw31_BernoulliDenominator.h0 = [] := by kernel_rfl
    rw [e]
    exact LamOk.nil
theorem quadformlaw31_BernoulliDenominator.hk (x) : semK env (orc quadformlaw31_BernoulliDenominator.o) (orcB quadformlaw31_BernoulliDenominator.oB) 49 (quadformlaw31_BernoulliDenominator.L _) quadformlaw31_BernoulliDenominator.c quadformlaw31_BernoulliDenominator.h (S.init (avs [.int .u8] x)) (fin env Try.f4 ⟨[.int .u8], .bool, false, false⟩) = quadformlaw31_BernoulliDenominator.en.g x := by kernel_rfl
theorem quadformlaw31_BernoulliDenominator.ok : EnOk prog quadformlaw31_BernoulliDenominator.en := by
  refine fun_ok (g := ⟨[.int .u8], .bool, false, false⟩) (h := quadformlaw31_BernoulliDenominator.h) (Λ := quadformlaw31_BernoulliDenominator.L) tabs quadformlaw31_BernoulliDenominator.os quadformlaw31_BernoulliDenominator.osB Try.func4 (c := quadformlaw31_BernoulliDenominator.c) (by kernel_rfl) (by decide +kernel) (by decide +kernel) (fun C hC => ?_) (fun x => quadformlaw31_BernoulliDenominator.hk x)
  exact by
    have e : loops quadformlaw31_BernoulliDenominator.c quadformlaw31_BernoulliDenominator.h = [(0, quadformlaw31_BernoulliDenominator.c0)] := by kernel_rfl
    rw [e]
    exact LamOk.cons (quadformlaw31_BernoulliDenominator.l0 hC) (LamOk.nil)
noncomputable def quadformref22_Squarefree.j2 (t0 : Int) (t5 : Int) (t6 : Int) : Option ((Int × Int × Int × Unit) ⊕ ((Int × Int × Int × Unit))) :=
  (cond (decide ((IntKind.wrap .i64 (t6 * t6)) = 0))
  none
  ((some (.inl ((IntKind.wrap .i64 (Int.tdiv t0 (IntKind.wrap .i64 (t6 * t6)))), (IntKind.wrap .i64 (t5 * t6)), t6, ())))))
noncomputable def quadformref22_Squarefree.s0 (t0 : Int) (t5 : Int) (t6 : Int) : Option ((Int × Int × Int × Unit) ⊕ ((Int × Int × Int × Unit))) :=
  (cond (decide ((IntKind.wrap .i64 (t6 * t6)) = 0))
  none
  ((cond (((Int.tmod t0 (IntKind.wrap .i64 (t6 * t6))) == (0 : Int)))
  ((quadformref22_Squarefree.j2 t0 t5 t6))
  ((some (.inr (t0, t5, t6, ())))))))
noncomputable def quadformref22_Squarefree.k0 (t0 : Int) (t5 : Int) (t6 : Int) : Option ((Int × Int × Int × Unit) ⊕ ((Int × Int × Unit))) :=
  (some (.inl (t0, t5, (IntKind.wrap .i64 (t6 + (1 : Int))), ())))
noncomputable def quadformref22_Squarefree.j3 (t0 : Int) (t5 : Int) (t6 : Int) : Option ((Int × Int × Int × Unit) ⊕ ((Int × Int × Unit))) :=
  ((iterL (fun x : Int × Int × Int × Unit => quadformref22_Squarefree.s0 x.1 x.2.1 x.2.2.1) (t0, t5, t6, ())).bind fun y => quadformref22_Squarefree.k0 y.1 y.2.1 y.2.2.1)
noncomputable def quadformref22_Squarefree.s1 (t0 : Int) (t5 : Int) (t6 : Int) : Option ((Int × Int × Int × Unit) ⊕ ((Int × Int × Unit))) :=
  (cond ((decide ((IntKind.wrap .i64 (t6 * t6)) ≤ t0)))
  (((iterL (fun x : Int × Int × Int × Unit => quadformref22_Squarefree.s0 x.1 x.2.1 x.2.2.1) (t0, t5, t6, ())).bind fun y => quadformref22_Squarefree.k0 y.1 y.2.1 y.2.2.1))
  ((cond ((decide ((IntKind.wrap .i64 (t6 * t6)) ≤ (IntKind.wrap .i64 (0 - t0)))))
  ((quadformref22_Squarefree.j3 t0 t5 t6))
  ((some (.inr (t0, t5, ())))))))
noncomputable def quadformref22_Squarefree.k1 (t0 : Int) (t5 : Int) : Option (Int × Int × Int × Unit) :=
  (some (t0, (t5, ((0 : Int), ()))))
noncomputable def quadformref22_Squarefree.j1 (t0 : Int) : Option (Int × Int × Int × Unit) :=
  ((iterL (fun x : Int × Int × Int × Unit => quadformref22_Squarefree.s1 x.1 x.2.1 x.2.2.1) (t0, (1 : Int), (2 : Int), ())).bind fun y => quadformref22_Squarefree.k1 y.1 y.2.1)
noncomputable def quadformref22_Squarefree (t0 : Int) : Option (Int × Int × Int × Unit) :=
  (cond ((t0 == (0 : Int)))
  ((some ((0 : Int), ((0 : Int), ((1 : Int), ())))))
  ((cond ((decide (t0 < (-2147483647 : Int))))
  ((some ((0 : Int), ((0 : Int), ((1 : Int), ())))))
  ((cond ((decide (t0 > (2147483647 : Int))))
  ((some ((0 : Int), ((0 : Int), ((1 : Int), ())))))
  ((quadformref22_Squarefree.j1 t0)))))))
noncomputable def quadformref22_Squarefree.en : En := ⟨80, [.int .i64], .pair (.int .i64) (.pair (.int .i64) (.pair (.int .i64) (.unit))), true, fun x => quadformref22_Squarefree x.1⟩
noncomputable def quadformref22_Squarefree.o : List En := []
noncomputable def quadformref22_Squarefree.oB : List EnB := []
def quadformref22_Squarefree.h : HT := .two (.n) (.two (.n) (.two (.n) (.two (.two (.n) (.lp 1)) (.n))))
noncomputable def quadformref22_Squarefree.c : Code := Try.f80.body.getD .skip
def quadformref22_Squarefree.h1 : HT := .two (.n) (.two (.lp 0) (.n))
noncomputable def quadformref22_Squarefree.c1 : Code := (find (loops quadformref22_Squarefree.c quadformref22_Squarefree.h) 1).getD .skip
def quadformref22_Squarefree.d1 : Fm := [.v 0 (.int .i64), .v 5 (.int .i64), .v 6 (.int .i64)]
def quadformref22_Squarefree.x1 : Xs := [(.exit 0, [.v 0 (.int .i64), .v 5 (.int .i64)])]
noncomputable def quadformref22_Squarefree.r1 (x : (Fm.ty quadformref22_Squarefree.d1).den) : Option ((Fm.ty quadformref22_Squarefree.d1).den ⊕ (Xs.T quadformref22_Squarefree.x1)) := quadformref22_Squarefree.s1 x.1 x.2.1 x.2.2.1
def quadformref22_Squarefree.h0 : HT := .n
noncomputable def quadformref22_Squarefree.c0 : Code := (find (loops quadformref22_Squarefree.c1 quadformref22_Squarefree.h1) 0).getD .skip
def quadformref22_Squarefree.d0 : Fm := [.v 0 (.int .i64), .v 5 (.int .i64), .v 6 (.int .i64)]
def quadformref22_Squarefree.x0 : Xs := [(.exit 2, [.v 0 (.int .i64), .v 5 (.int .i64), .v 6 (.int .i64)])]
noncomputable def quadformref22_Squarefree.r0 (x : (Fm.ty quadformref22_Squarefree.d0).den) : Option ((Fm.ty quadformref22_Squarefree.d0).den ⊕ (Xs.T quadformref22_Squarefree.x0)) := quadformref22_Squarefree.s0 x.1 x.2.1 x.2.2.1
noncomputable def quadformref22_Squarefree.L : Lam := fun _ i s K => cond (Nat.beq i 0) (lamK quadformref22_Squarefree.d0 quadformref22_Squarefree.x0 quadformref22_Squarefree.r0 s K) (cond (Nat.beq i 1) (lamK quadformref22_Squarefree.d1 quadformref22_Squarefree.x1 quadformref22_Squarefree.r1 s K) (none))
theorem quadformref22_Squarefree.hf0 (x) : roundK env (orc quadformref22_Squarefree.o) (orcB quadformref22_Squarefree.oB) 48 quadformref22_Squarefree.L quadformref22_Squarefree.c0 quadformref22_Squarefree.h0 quadformref22_Squarefree.d0 quadformref22_Squarefree.x0 x = quadformref22_Squarefree.r0 x := by kernel_rfl
theorem quadformref22_Squarefree.hf1 (x) : roundK env (orc quadformref22_Squarefree.o) (orcB quadformref22_Squarefree.oB) 48 quadformref22_Squarefree.L quadformref22_Squarefree.c1 quadformref22_Squarefree.h1 quadformref22_Squarefree.d1 quadformref22_Squarefree.x1 x = quadformref22_Squarefree.r1 x := by kernel_rfl
theorem quadformref22_Squarefree.os : AllOk prog quadformref22_Squarefree.o := trivial
theorem quadformref22_Squarefree.osB : AllBOk prog quadformref22_Squarefree.oB := trivial
theorem quadformref22_Squarefree.l0 {C : Ctx} (hC : C.n = 48) : LamAt prog C quadformref22_Squarefree.L 0 quadformref22_Squarefree.c0 := by
  intro R s K r hk
  refine loop_ok (D := quadformref22_Squarefree.d0) (X := quadformref22_Squarefree.x0) (h := quadformref22_Squarefree.h0) (f := quadformref22_Squarefree.r0) tabs (orc_ok _ quadformref22_Squarefree.os) (orcB_ok _ quadformref22_Squarefree.osB) (fun x => by rw [hC]; exact quadformref22_Squarefree.hf0 x) (Λ := quadformref22_Squarefree.L) ?_ (by kernel_rfl) (by kernel_rfl) (K := K) (s := s) (by exact hk)
  exact by
    have e : loops quadformref22_Squarefree.c0 quadformref22_Squarefree.h0 = [] := by kernel_rfl
    rw [e]
    exact LamOk.nil
theorem quadformref22_Squarefree.l1 {C : Ctx} (hC : C.n = 48) : LamAt prog C quadformref22_Squarefree.L 1 quadformref22_Squarefree.c1 := by
  intro R s K r hk
  refine loop_ok (D := quadformref22_Squarefree.d1) (X := quadformref22_Squarefree.x1) (h := quadformref22_Squarefree.h1) (f := quadformref22_Squarefree.r1) tabs (orc_ok _ quadformref22_Squarefree.os) (orcB_ok _ quadformref22_Squarefree.osB) (fun x => by rw [hC]; exact quadformref22_Squarefree.hf1 x) (Λ := quadformref22_Squarefree.L) ?_ (by kernel_rfl) (by kernel_rfl) (K := K) (s := s) (by exact hk)
  exact by
    have e : loops quadformref22_Squarefree.c1 quadformref22_Squarefree.h1 = [(0, quadformref22_Squarefree.c0)] := by kernel_rfl
    rw [e]
    exact LamOk.cons (quadformref22_Squarefree.l0 hC) (LamOk.nil)
theorem quadformref22_Squarefree.hk (x) : semK env (orc quadformref22_Squarefree.o) (orcB quadformref22_Squarefree.oB) 48 (quadformref22_Squarefree.L _) quadformref22_Squarefree.c quadformref22_Squarefree.h (S.init (avs [.int .i64] x)) (fin env Try.f80 ⟨[.int .i64], .pair (.int .i64) (.pair (.int .i64) (.pair (.int .i64) (.unit))), true, false⟩) = quadformref22_Squarefree.en.g x := by kernel_rfl
theorem quadformref22_Squarefree.ok : EnOk prog quadformref22_Squarefree.en := by
  refine fun_ok (g := ⟨[.int .i64], .pair (.int .i64) (.pair (.int .i64) (.pair (.int .i64) (.unit))), true, false⟩) (h := quadformref22_Squarefree.h) (Λ := quadformref22_Squarefree.L) tabs quadformref22_Squarefree.os quadformref22_Squarefree.osB Try.func80 (c := quadformref22_Squarefree.c) (by kernel_rfl) (by decide +kernel) (by decide +kernel) (fun C hC => ?_) (fun x => quadformref22_Squarefree.hk x)
  exact by
    have e : loops quadformref22_Squarefree.c quadformref22_Squarefree.h = [(1, quadformref22_Squarefree.c1)] := by kernel_rfl
    rw [e]
    exact LamOk.cons (quadformref22_Squarefree.l1 hC) (LamOk.nil)
noncomputable def quadformref22_Mod.j1 (t5 : Int) : Option (Int) :=
  (some t5)
noncomputable def quadformref22_Mod (t0 : Int) (t1 : Int) : Option (Int) :=
  (cond (decide (t1 = 0))
  none
  ((cond ((decide ((Int.tmod t0 t1) < (0 : Int))))
  ((quadformref22_Mod.j1 (IntKind.wrap .i64 ((Int.tmod t0 t1) + t1))))
  ((quadformref22_Mod.j1 (Int.tmod t0 t1))))))
noncomputable def quadformref22_Mod.en : En := ⟨81, [.int .i64, .int .i64], .int .i64, false, fun x => quadformref22_Mod x.1 x.2.1⟩
noncomputable def quadformref22_Mod.o : List En := []
noncomputable def quadformref22_Mod.oB : List EnB := []
def quadformref22_Mod.h : HT := .n
noncomputable def quadformref22_Mod.c : Code := Try.f81.body.getD .skip
noncomputable def quadformref22_Mod.L : Lam := fun _ i s K => none
theorem quadformref22_Mod.os : AllOk prog quadformref22_Mod.o := trivial
theorem quadformref22_Mod.osB : AllBOk prog quadformref22_Mod.oB := trivial
theorem quadformref22_Mod.hk (x) : semK env (orc quadformref22_Mod.o) (orcB quadformref22_Mod.oB) 15 (quadformref22_Mod.L _) quadformref22_Mod.c quadformref22_Mod.h (S.init (avs [.int .i64, .int .i64] x)) (fin env Try.f81 ⟨[.int .i64, .int .i64], .int .i64, false, false⟩) = quadformref22_Mod.en.g x := by kernel_rfl
theorem quadformref22_Mod.ok : EnOk prog quadformref22_Mod.en := by
  refine fun_ok (g := ⟨[.int .i64, .int .i64], .int .i64, false, false⟩) (h := quadformref22_Mod.h) (Λ := quadformref22_Mod.L) tabs quadformref22_Mod.os quadformref22_Mod.osB Try.func81 (c := quadformref22_Mod.c) (by kernel_rfl) (by decide +kernel) (by decide +kernel) (fun C hC => ?_) (fun x => quadformref22_Mod.hk x)
  exact by
    have e : loops quadformref22_Mod.c quadformref22_Mod.h = [] := by kernel_rfl
    rw [e]
    exact LamOk.nil
noncomputable def quadformref22_Discriminant.j2 (t4 : Int) : Option (Int × Int × Unit) :=
  (some ((IntKind.wrap .i64 ((4 : Int) * t4)), ((0 : Int), ())))
noncomputable def quadformref22_Discriminant.j1 (t4 : Int) : Option (Int × Int × Unit) :=
  ((quadformref22_Mod t4 (4 : Int)).bind fun y2 =>
  (cond ((y2 == (1 : Int)))
  ((some (t4, ((0 : Int), ()))))
  ((quadformref22_Discriminant.j2 t4))))
noncomputable def quadformref22_Discriminant (t0 : Int) : Option (Int × Int × Unit) :=
  ((quadformref22_Squarefree t0).bind fun y1 =>
  (cond ((y1.2.2.1 != (0 : Int)))
  ((some ((0 : Int), (y1.2.2.1, ()))))
  ((quadformref22_Discriminant.j1 y1.1))))
noncomputable def quadformref22_Discriminant.en : En := ⟨47, [.int .i64], .pair (.int .i64) (.pair (.int .i64) (.unit)), true, fun x => quadformref22_Discriminant x.1⟩
noncomputable def quadformref22_Discriminant.o : List En := [quadformref22_Squarefree.en, quadformref22_Mod.en]
noncomputable def quadformref22_Discriminant.oB : List EnB := []
def quadformref22_Discriminant.h : HT := .n
noncomputable def quadformref22_Discriminant.c : Code := Try.f47.body.getD .skip
noncomputable def quadformref22_Discriminant.L : Lam := fun _ i s K => none
theorem quadformref22_Discriminant.os : AllOk prog quadformref22_Discriminant.o := ⟨quadformref22_Squarefree.ok, quadformref22_Mod.ok, trivial⟩
theorem quadformref22_Discriminant.osB : AllBOk prog quadformref22_Discriminant.oB := trivial
theorem quadformref22_Discriminant.hk (x) : semK env (orc quadformref22_Discriminant.o) (orcB quadformref22_Discriminant.oB) 22 (quadformref22_Discriminant.L _) quadformref22_Discriminant.c quadformref22_Discriminant.h (S.init (avs [.int .i64] x)) (fin env Try.f47 ⟨[.int .i64], .pair (.int .i64) (.pair (.int .i64) (.unit)), true, false⟩) = quadformref22_Discriminant.en.g x := by kernel_rfl
theorem quadformref22_Discriminant.ok : EnOk prog quadformref22_Discriminant.en := by
  refine fun_ok (g := ⟨[.int .i64], .pair (.int .i64) (.pair (.int .i64) (.unit)), true, false⟩) (h := quadformref22_Discriminant.h) (Λ := quadformref22_Discriminant.L) tabs quadformref22_Discriminant.os quadformref22_Discriminant.osB Try.func47 (c := quadformref22_Discriminant.c) (by kernel_rfl) (by decide +kernel) (by decide +kernel) (fun C hC => ?_) (fun x => quadformref22_Discriminant.hk x)
  exact by
    have e : loops quadformref22_Discriminant.c quadformref22_Discriminant.h = [] := by kernel_rfl
    rw [e]
    exact LamOk.nil
noncomputable def quadformref31_Fundamental.j1 (t0 : Int) : Option (Bool) :=
  ((quadformref22_Discriminant t0).bind fun y1 =>
  (some (y1.1 == t0)))
noncomputable def quadformref31_Fundamental (t0 : Int) : Option (Bool) :=
  (cond ((t0 == (0 : Int)))
  ((some false))
  ((cond ((decide (t0 < (-40000 : Int))))
  ((some false))
  ((cond ((decide (t0 > (40000 : Int))))
  ((some false))
  ((quadformref31_Fundamental.j1 t0)))))))
noncomputable def quadformref31_Fundamental.en : En := ⟨21, [.int .i64], .bool, false, fun x => quadformref31_Fundamental x.1⟩
noncomputable def quadformref31_Fundamental.o : List En := [quadformref22_Discriminant.en]
noncomputable def quadformref31_Fundamental.oB : List EnB := []
def quadformref31_Fundamental.h : HT := .n
noncomputable def quadformref31_Fundamental.c : Code := Try.f21.body.getD .skip
noncomputable def quadformref31_Fundamental.L : Lam := fun _ i s K => none
theorem quadformref31_Fundamental.os : AllOk prog quadformref31_Fundamental.o := ⟨quadformref22_Discriminant.ok, trivial⟩
theorem quadformref31_Fundamental.osB : AllBOk prog quadformref31_Fundamental.oB := trivial
theorem quadformref31_Fundamental.hk (x) : semK env (orc quadformref31_Fundamental.o) (orcB quadformref31_Fundamental.oB) 23 (quadformref31_Fundamental.L _) quadformref31_Fundamental.c quadformref31_Fundamental.h (S.init (avs [.int .i64] x)) (fin env Try.f21 ⟨[.int .i64], .bool, false, false⟩) = quadformref31_Fundamental.en.g x := by kernel_rfl
theorem quadformref31_Fundamental.ok : EnOk prog quadformref31_Fundamental.en := by
  refine fun_ok (g := ⟨[.int .i64], .bool, false, false⟩) (h := quadformref31_Fundamental.h) (Λ := quadformref31_Fundamental.L) tabs quadformref31_Fundamental.os quadformref31_Fundamental.osB Try.func21 (c := quadformref31_Fundamental.c) (by kernel_rfl) (by decide +kernel) (by decide +kernel) (fun C hC => ?_) (fun x => quadformref31_Fundamental.hk x)
  exact by
    have e : loops quadformref31_Fundamental.c quadformref31_Fundamental.h = [] := by kernel_rfl
    rw [e]
    exact LamOk.nil
noncomputable def quadformlaw31_BernoulliFundamental.j1 (t0 : Int) : Option (Bool) :=
  ((bernoulli_Fundamental t0).bind fun y1 =>
  ((quadformref31_Fundamental t0).bind fun y2 =>
  (cond ((y1 == y2))
  (((quadformlaw31_awake).bind fun y3 =>
  (some y3)))
  ((some false)))))
noncomputable def quadformlaw31_BernoulliFundamental (t0 : Int) (t1 : Bool) : Option (Bool) :=
  (cond (t1)
  ((quadformlaw31_BernoulliFundamental.j1 (Int.tmod t0 (50000 : Int))))
  ((quadformlaw31_BernoulliFundamental.j1 t0)))
noncomputable def quadformlaw31_BernoulliFundamental.en : En := ⟨5, [.int .i64, .bool], .bool, false, fun x => quadformlaw31_BernoulliFundamental x.1 x.2.1⟩
noncomputable def quadformlaw31_BernoulliFundamental.o : List En := [quadformlaw31_awake.en, bernoulli_Fundamental.en, quadformref31_Fundamental.en]
noncomputable def quadformlaw31_BernoulliFundamental.oB : List EnB := []
def quadformlaw31_BernoulliFundamental.h : HT := .n
noncomputable def quadformlaw31_BernoulliFundamental.c : Code := Try.f5.body.getD .skip
noncomputable def quadformlaw31_BernoulliFundamental.L : Lam := fun _ i s K => none
theorem quadformlaw31_BernoulliFundamental.os : AllOk prog quadformlaw31_BernoulliFundamental.o := ⟨quadformlaw31_awake.ok, bernoulli_Fundamental.ok, quadformref31_Fundamental.ok, trivial⟩
theorem quadformlaw31_BernoulliFundamental.osB : AllBOk prog quadformlaw31_BernoulliFundamental.oB := trivial
theorem quadformlaw31_BernoulliFundamental.hk (x) : semK env (orc quadformlaw31_BernoulliFundamental.o) (orcB quadformlaw31_BernoulliFundamental.oB) 16 (quadformlaw31_BernoulliFundamental.L _) quadformlaw31_BernoulliFundamental.c quadformlaw31_BernoulliFundamental.h (S.init (avs [.int .i64, .bool] x)) (fin env Try.f5 ⟨[.int .i64, .bool], .bool, false, false⟩) = quadformlaw31_BernoulliFundamental.en.g x := by kernel_rfl
theorem quadformlaw31_BernoulliFundamental.ok : EnOk prog quadformlaw31_BernoulliFundamental.en := by
  refine fun_ok (g := ⟨[.int .i64, .bool], .bool, false, false⟩) (h := quadformlaw31_BernoulliFundamental.h) (Λ := quadformlaw31_BernoulliFundamental.L) tabs quadformlaw31_BernoulliFundamental.os quadformlaw31_BernoulliFundamental.osB Try.func5 (c := quadformlaw31_BernoulliFundamental.c) (by kernel_rfl) (by decide +kernel) (by decide +kernel) (fun C hC => ?_) (fun x => quadformlaw31_BernoulliFundamental.hk x)
  exact by
    have e : loops quadformlaw31_BernoulliFundamental.c quadformlaw31_BernoulliFundamental.h = [] := by kernel_rfl
    rw [e]
    exact LamOk.nil
noncomputable def quadformlaw31_discriminant (t0 : Int) : Option (Int) :=
  ((quadformref22_Discriminant (IntKind.wrap .i64 ((IntKind.wrap .i64 (Int.tmod t0 (100 : Int))) + (IntKind.wrap .i64 ((101 : Int) * (IntKind.wrap .i64 ((1 : Int) - (IntKind.wrap .i64 ((2 : Int) * (Int.tmod (IntKind.wrap .i64 (Int.tdiv (IntKind.wrap .i64 (IntKind.wrap .u16 t0)) (256 : Int))) (2 : Int))))))))))).bind fun y6 =>
  (some y6.1))
noncomputable def quadformlaw31_discriminant.en : En := ⟨22, [.int .i16], .int .i64, false, fun x => quadformlaw31_discriminant x.1⟩
noncomputable def quadformlaw31_discriminant.o : List En := [quadformref22_Discriminant.en]
noncomputable def quadformlaw31_discriminant.oB : List EnB := []
def quadformlaw31_discriminant.h : HT := .n
noncomputable def quadformlaw31_discriminant.c : Code := Try.f22.body.getD .skip
noncomputable def quadformlaw31_discriminant.L : Lam := fun _ i s K => none
theorem quadformlaw31_discriminant.os : AllOk prog quadformlaw31_discriminant.o := ⟨quadformref22_Discriminant.ok, trivial⟩
theorem quadformlaw31_discriminant.osB : AllBOk prog quadformlaw31_discriminant.oB := trivial
theorem quadformlaw31_discriminant.hk (x) : semK env (orc quadformlaw31_discriminant.o) (orcB quadformlaw31_discriminant.oB) 22 (quadformlaw31_discriminant.L _) quadformlaw31_discriminant.c quadformlaw31_discriminant.h (S.init (avs [.int .i16] x)) (fin env Try.f22 ⟨[.int .i16], .int .i64, false, false⟩) = quadformlaw31_discriminant.en.g x := by kernel_rfl
theorem quadformlaw31_discriminant.ok : EnOk prog quadformlaw31_discriminant.en := by
  refine fun_ok (g := ⟨[.int .i16], .int .i64, false, false⟩) (h := quadformlaw31_discriminant.h) (Λ := quadformlaw31_discriminant.L) tabs quadformlaw31_discriminant.os quadformlaw31_discriminant.osB Try.func22 (c := quadformlaw31_discriminant.c) (by kernel_rfl) (by decide +kernel) (by decide +kernel) (fun C hC => ?_) (fun x => quadformlaw31_discriminant.hk x)
  exact by
    have e : loops quadformlaw31_discriminant.c quadformlaw31_discriminant.h = [] := by kernel_rfl
    rw [e]
    exact LamOk.nil
noncomputable def quadformref02_Sub (t0 : (Bool × List Int × Unit) × (Bool × List Int × Unit) × Unit) (t1 : (Bool × List Int × Unit) × (Bool × List Int × Unit) × Unit) : Option ((Bool × List Int × Unit) × (Bool × List Int × Unit) × Unit) :=
  ((quadformref02_Neg ((t1.1.1, (t1.1.2.1, ())), ((t1.2.1.1, (t1.2.1.2.1, ())), ()))).bind fun y1 =>
  ((quadformref02_Add ((t0.1.1, (t0.1.2.1, ())), ((t0.2.1.1, (t0.2.1.2.1, ())), ())) y1).bind fun y2 =>
  (some ((y2.1.1, (y2.1.2.1, ())), ((y2.2.1.1, (y2.2.1.2.1, ())), ())))))
noncomputable def quadformref02_Sub.en : En := ⟨35, [.pair (.pair (.bool) (.pair (.sl (.int .u32)) (.unit))) (.pair (.pair (.bool) (.pair (.sl (.int .u32)) (.unit))) (.unit)), .pair (.pair (.bool) (.pair (.sl (.int .u32)) (.unit))) (.pair (.pair (.bool) (.pair (.sl (.int .u32)) (.unit))) (.unit))], .pair (.pair (.bool) (.pair (.sl (.int .u32)) (.unit))) (.pair (.pair (.bool) (.pair (.sl (.int .u32)) (.unit))) (.unit)), false, fun x => quadformref02_Sub x.1 x.2.1⟩
noncomputable def quadformref02_Sub.o : List En := [quadformref02_Add.en, quadformref02_Neg.en]
noncomputable def quadformref02_Sub.oB : List EnB := []
def quadformref02_Sub.h : HT := .n
noncomputable def quadformref02_Sub.c : Code := Try.f35.body.getD .skip
noncomputable def quadformref02_Sub.L : Lam := fun _ i s K => none
theorem quadformref02_Sub.os : AllOk prog quadformref02_Sub.o := ⟨quadformref02_Add.ok, quadformref02_Neg.ok, trivial⟩
theorem quadformref02_Sub.osB : AllBOk prog quadformref02_Sub.oB := trivial
theorem quadformref02_Sub.hk (x) : semK env (orc quadformref02_Sub.o) (orcB quadformref02_Sub.oB) 9 (quadformref02_Sub.L _) quadformref02_Sub.c quadformref02_Sub.h (S.init (avs [.pair (.pair (.bool) (.pair (.sl (.int .u32)) (.unit))) (.pair (.pair (.bool) (.pair (.sl (.int .u32)) (.unit))) (.unit)), .pair (.pair (.bool) (.pair (.sl (.int .u32)) (.unit))) (.pair (.pair (.bool) (.pair (.sl (.int .u32)) (.unit))) (.unit))] x)) (fin env Try.f35 ⟨[.pair (.pair (.bool) (.pair (.sl (.int .u32)) (.unit))) (.pair (.pair (.bool) (.pair (.sl (.int .u32)) (.unit))) (.unit)), .pair (.pair (.bool) (.pair (.sl (.int .u32)) (.unit))) (.pair (.pair (.bool) (.pair (.sl (.int .u32)) (.unit))) (.unit))], .pair (.pair (.bool) (.pair (.sl (.int .u32)) (.unit))) (.pair (.pair (.bool) (.pair (.sl (.int .u32)) (.unit))) (.unit)), false, false⟩) = quadformref02_Sub.en.g x := by kernel_rfl
theorem quadformref02_Sub.ok : EnOk prog quadformref02_Sub.en := by
  refine fun_ok (g := ⟨[.pair (.pair (.bool) (.pair (.sl (.int .u32)) (.unit))) (.pair (.pair (.bool) (.pair (.sl (.int .u32)) (.unit))) (.unit)), .pair (.pair (.bool) (.pair (.sl (.int .u32)) (.unit))) (.pair (.pair (.bool) (.pair (.sl (.int .u32)) (.unit))) (.unit))], .pair (.pair (.bool) (.pair (.sl (.int .u32)) (.unit))) (.pair (.pair (.bool) (.pair (.sl (.int .u32)) (.unit))) (.unit)), false, false⟩) (h := quadformref02_Sub.h) (Λ := quadformref02_Sub.L) tabs quadformref02_Sub.os quadformref02_Sub.osB Try.func35 (c := quadformref02_Sub.c) (by kernel_rfl) (by decide +kernel) (by decide +kernel) (fun C hC => ?_) (fun x => quadformref02_Sub.hk x)
  exact by
    have e : loops quadformref02_Sub.c quadformref02_Sub.h = [] := by kernel_rfl
    rw [e]
    exact LamOk.nil
noncomputable def quadformref02_Sign (t0 : (Bool × List Int × Unit) × (Bool × List Int × Unit) × Unit) : Option (Int) :=
  ((quadformref02_Normalize ((t0.1.1, (t0.1.2.1, ())), ((t0.2.1.1, (t0.2.1.2.1, ())), ()))).bind fun y1 =>
  ((quadformref01_Sign (y1.1.1, (y1.1.2.1, ()))).bind fun y2 =>
  (some y2)))
noncomputable def quadformref02_Sign.en : En := ⟨58, [.pair (.pair (.bool) (.pair (.sl (.int .u32)) (.unit))) (.pair (.pair (.bool) (.pair (.sl (.int .u32)) (.unit))) (.unit))], .int .i64, false, fun x => quadformref02_Sign x.1⟩
noncomputable def quadformref02_Sign.o : List En := [quadformref01_Sign.en, quadformref02_Normalize.en]
noncomputable def quadformref02_Sign.oB : List EnB := []
def quadformref02_Sign.h : HT := .n
noncomputable def quadformref02_Sign.c : Code := Try.f58.body.getD .skip
noncomputable def quadformref02_Sign.L : Lam := fun _ i s K => none
theorem quadformref02_Sign.os : AllOk prog quadformref02_Sign.o := ⟨quadformref01_Sign.ok, quadformref02_Normalize.ok, trivial⟩
theorem quadformref02_Sign.osB : AllBOk prog quadformref02_Sign.oB := trivial
theorem quadformref02_Sign.hk (x) : semK env (orc quadformref02_Sign.o) (orcB quadformref02_Sign.oB) 7 (quadformref02_Sign.L _) quadformref02_Sign.c quadformref02_Sign.h (S.init (avs [.pair (.pair (.bool) (.pair (.sl (.int .u32)) (.unit))) (.pair (.pair (.bool) (.pair (.sl (.int .u32)) (.unit))) (.unit))] x)) (fin env Try.f58 ⟨[.pair (.pair (.bool) (.pair (.sl (.int .u32)) (.unit))) (.pair (.pair (.bool) (.pair (.sl (.int .u32)) (.unit))) (.unit))], .int .i64, false, false⟩) = quadformref02_Sign.en.g x := by kernel_rfl
theorem quadformref02_Sign.ok : EnOk prog quadformref02_Sign.en := by
  refine fun_ok (g := ⟨[.pair (.pair (.bool) (.pair (.sl (.int .u32)) (.unit))) (.pair (.pair (.bool) (.pair (.sl (.int .u32)) (.unit))) (.unit))], .int .i64, false, false⟩) (h := quadformref02_Sign.h) (Λ := quadformref02_Sign.L) tabs quadformref02_Sign.os quadformref02_Sign.osB Try.func58 (c := quadformref02_Sign.c) (by kernel_rfl) (by decide +kernel) (by decide +kernel) (fun C hC => ?_) (fun x => quadformref02_Sign.hk x)
  exact by
    have e : loops quadformref02_Sign.c quadformref02_Sign.h = [] := by kernel_rfl
    rw [e]
    exact LamOk.nil
noncomputable def quadformref02_Cmp (t0 : (Bool × List Int × Unit) × (Bool × List Int × Unit) × Unit) (t1 : (Bool × List Int × Unit) × (Bool × List Int × Unit) × Unit) : Option (Int) :=
  ((quadformref02_Sub ((t0.1.1, (t0.1.2.1, ())), ((t0.2.1.1, (t0.2.1.2.1, ())), ())) ((t1.1.1, (t1.1.2.1, ())), ((t1.2.1.1, (t1.2.1.2.1, ())), ()))).bind fun y1 =>
  ((quadformref02_Sign y1).bind fun y2 =>
  (some y2)))
noncomputable def quadformref02_Cmp.en : En := ⟨24, [.pair (.pair (.bool) (.pair (.sl (.int .u32)) (.unit))) (.pair (.pair (.bool) (.pair (.sl (.int .u32)) (.unit))) (.unit)), .pair (.pair (.bool) (.pair (.sl (.int .u32)) (.unit))) (.pair (.pair (.bool) (.pair (.sl (.int .u32)) (.unit))) (.unit))], .int .i64, false, fun x => quadformref02_Cmp x.1 x.2.1⟩
noncomputable def quadformref02_Cmp.o : List En := [quadformref02_Sub.en, quadformref02_Sign.en]
noncomputable def quadformref02_Cmp.oB : List EnB := []
def quadformref02_Cmp.h : HT := .n
noncomputable def quadformref02_Cmp.c : Code := Try.f24.body.getD .skip
noncomputable def quadformref02_Cmp.L : Lam := fun _ i s K => none
theorem quadformref02_Cmp.os : AllOk prog quadformref02_Cmp.o := ⟨quadformref02_Sub.ok, quadformref02_Sign.ok, trivial⟩
theorem quadformref02_Cmp.osB : AllBOk prog quadformref02_Cmp.oB := trivial
theorem quadformref02_Cmp.hk (x) : semK env (orc quadformref02_Cmp.o) (orcB quadformref02_Cmp.oB) 9 (quadformref02_Cmp.L _) quadformref02_Cmp.c quadformref02_Cmp.h (S.init (avs [.pair (.pair (.bool) (.pair (.sl (.int .u32)) (.unit))) (.pair (.pair (.bool) (.pair (.sl (.int .u32)) (.unit))) (.unit)), .pair (.pair (.bool) (.pair (.sl (.int .u32)) (.unit))) (.pair (.pair (.bool) (.pair (.sl (.int .u32)) (.unit))) (.unit))] x)) (fin env Try.f24 ⟨[.pair (.pair (.bool) (.pair (.sl (.int .u32)) (.unit))) (.pair (.pair (.bool) (.pair (.sl (.int .u32)) (.unit))) (.unit)), .pair (.pair (.bool) (.pair (.sl (.int .u32)) (.unit))) (.pair (.pair (.bool) (.pair (.sl (.int .u32)) (.unit))) (.unit))], .int .i64, false, false⟩) = quadformref02_Cmp.en.g x := by kernel_rfl
theorem quadformref02_Cmp.ok : EnOk prog quadformref02_Cmp.en := by
  refine fun_ok (g := ⟨[.pair (.pair (.bool) (.pair (.sl (.int .u32)) (.unit))) (.pair (.pair (.bool) (.pair (.sl (.int .u32)) (.unit))) (.unit)), .pair (.pair (.bool) (.pair (.sl (.int .u32)) (.unit))) (.pair (.pair (.bool) (.pair (.sl (.int .u32)) (.unit))) (.unit))], .int .i64, false, false⟩) (h := quadformref02_Cmp.h) (Λ := quadformref02_Cmp.L) tabs quadformref02_Cmp.os quadformref02_Cmp.osB Try.func24 (c := quadformref02_Cmp.c) (by kernel_rfl) (by decide +kernel) (by decide +kernel) (fun C hC => ?_) (fun x => quadformref02_Cmp.hk x)
  exact by
    have e : loops quadformref02_Cmp.c quadformref02_Cmp.h = [] := by kernel_rfl
    rw [e]
    exact LamOk.nil
noncomputable def quadformlaw31_BernoulliClasses.j5 (t3 : Int) (t4 : Int) (t5 : Int) (t6 : Int) : Option ((Int × Int × Int × Int × Unit) ⊕ ((Int × Int × Int × Unit))) :=
  (some (.inl (t3, t4, t5, (IntKind.wrap .i64 (t6 + (1 : Int))), ())))
noncomputable def quadformlaw31_BernoulliClasses.j4 (t3 : Int) (t4 : Int) (t5 : Int) (t6 : Int) : Option ((Int × Int × Int × Int × Unit) ⊕ ((Int × Int × Int × Unit))) :=
  (cond (decide ((IntKind.wrap .i64 ((4 : Int) * t5)) = 0))
  none
  (let x8 := (IntKind.wrap .i64 (Int.tdiv (IntKind.wrap .i64 ((IntKind.wrap .i64 (t6 * t6)) - t3)) (IntKind.wrap .i64 ((4 : Int) * t5))))
  (cond ((decide (x8 > t5)))
  ((some (.inl (t3, (IntKind.wrap .i64 (t4 + (1 : Int))), t5, (IntKind.wrap .i64 (t6 + (1 : Int))), ()))))
  ((cond ((x8 == t5))
  ((cond ((decide (t6 ≥ (0 : Int))))
  ((quadformlaw31_BernoulliClasses.j5 t3 (IntKind.wrap .i64 (t4 + (1 : Int))) t5 t6))
  ((quadformlaw31_BernoulliClasses.j5 t3 t4 t5 t6))))
  ((some (.inl (t3, t4, t5, (IntKind.wrap .i64 (t6 + (1 : Int))), ())))))))))
noncomputable def quadformlaw31_BernoulliClasses.j3 (t3 : Int) (t4 : Int) (t5 : Int) (t6 : Int) : Option ((Int × Int × Int × Int × Unit) ⊕ ((Int × Int × Int × Unit))) :=
  (cond (decide ((IntKind.wrap .i64 ((4 : Int) * t5)) = 0))
  none
  ((cond (((Int.tmod (IntKind.wrap .i64 ((IntKind.wrap .i64 (t6 * t6)) - t3)) (IntKind.wrap .i64 ((4 : Int) * t5))) != (0 : Int)))
  ((some (.inl (t3, t4, t5, (IntKind.wrap .i64 (t6 + (1 : Int))), ()))))
  ((quadformlaw31_BernoulliClasses.j4 t3 t4 t5 t6)))))
noncomputable def quadformlaw31_BernoulliClasses.s0 (t3 : Int) (t4 : Int) (t5 : Int) (t6 : Int) : Option ((Int × Int × Int × Int × Unit) ⊕ ((Int × Int × Int × Unit))) :=
  (cond ((decide (t6 ≤ t5)))
  ((quadformlaw31_BernoulliClasses.j3 t3 t4 t5 t6))
  ((some (.inr (t3, t4, t5, ())))))
noncomputable def quadformlaw31_BernoulliClasses.k0 (t3 : Int) (t4 : Int) (t5 : Int) : Option ((Int × Int × Int × Unit) ⊕ ((Int × Int × Unit))) :=
  (some (.inl (t3, t4, (IntKind.wrap .i64 (t5 + (1 : Int))), ())))
noncomputable def quadformlaw31_BernoulliClasses.j2 (t3 : Int) (t4 : Int) (t5 : Int) : Option ((Int × Int × Int × Unit) ⊕ ((Int × Int × Unit))) :=
  ((iterL (fun x : Int × Int × Int × Int × Unit => quadformlaw31_BernoulliClasses.s0 x.1 x.2.1 x.2.2.1 x.2.2.2.1) (t3, t4, t5, (IntKind.wrap .i64 ((1 : Int) - t5)), ())).bind fun y => quadformlaw31_BernoulliClasses.k0 y.1 y.2.1 y.2.2.1)
noncomputable def quadformlaw31_BernoulliClasses.s1 (t3 : Int) (t4 : Int) (t5 : Int) : Option ((Int × Int × Int × Unit) ⊕ ((Int × Int × Unit))) :=
  (cond ((decide ((IntKind.wrap .i64 ((IntKind.wrap .i64 ((3 : Int) * t5)) * t5)) ≤ (IntKind.wrap .i64 (0 - t3)))))
  ((quadformlaw31_BernoulliClasses.j2 t3 t4 t5))
  ((some (.inr (t3, t4, ())))))
noncomputable def quadformlaw31_BernoulliClasses.k1 (t3 : Int) (t4 : Int) : Option (Bool) :=
  ((bernoulli_Generalized (1 : Int) t3).bind fun y9 =>
  (cond ((y9.2.1 == (0 : Int)))
  (((quadformref02_Small (IntKind.wrap .i64 (0 - t4))).bind fun y10 =>
  ((quadformref02_Cmp ((y9.1.1.1, (y9.1.1.2.1, ())), ((y9.1.2.1.1, (y9.1.2.1.2.1, ())), ())) y10).bind fun y11 =>
  (cond ((y11 == (0 : Int)))
  (((quadformlaw31_awake).bind fun y12 =>
  (some y12)))
  ((some false))))))
  ((some false))))
noncomputable def quadformlaw31_BernoulliClasses.j1 (t3 : Int) : Option (Bool) :=
  ((iterL (fun x : Int × Int × Int × Unit => quadformlaw31_BernoulliClasses.s1 x.1 x.2.1 x.2.2.1) (t3, (0 : Int), (1 : Int), ())).bind fun y => quadformlaw31_BernoulliClasses.k1 y.1 y.2.1)
noncomputable def quadformlaw31_BernoulliClasses (t0 : Int) : Option (Bool) :=
  ((quadformlaw31_discriminant t0).bind fun y1 =>
  (cond ((decide (y1 ≥ (-4 : Int))))
  (((quadformlaw31_awake).bind fun y2 =>
  (some y2)))
  ((quadformlaw31_BernoulliClasses.j1 y1))))
noncomputable def quadformlaw31_BernoulliClasses.en : En := ⟨6, [.int .i16], .bool, false, fun x => quadformlaw31_BernoulliClasses x.1⟩
noncomputable def quadformlaw31_BernoulliClasses.o : List En := [quadformlaw31_awake.en, quadformlaw31_discriminant.en, bernoulli_Generalized.en, quadformref02_Cmp.en, quadformref02_Small.en]
noncomputable def quadformlaw31_BernoulliClasses.oB : List EnB := []
def quadformlaw31_BernoulliClasses.h : HT := .two (.n) (.two (.n) (.two (.n) (.two (.n) (.two (.two (.n) (.lp 1)) (.n)))))
noncomputable def quadformlaw31_BernoulliClasses.c : Code := Try.f6.body.getD .skip
def quadformlaw31_BernoulliClasses.h1 : HT := .two (.n) (.two (.two (.n) (.lp 0)) (.n))
noncomputable def quadformlaw31_BernoulliClasses.c1 : Code := (find (loops quadformlaw31_BernoulliClasses.c quadformlaw31_BernoulliClasses.h) 1).getD .skip
def quadformlaw31_BernoulliClasses.d1 : Fm := [.v 3 (.int .i64), .v 4 (.int .i64), .v 5 (.int .i64)]
def quadformlaw31_BernoulliClasses.x1 : Xs := [(.exit 0, [.v 3 (.int .i64), .v 4 (.int .i64)])]
noncomputable def quadformlaw31_BernoulliClasses.r1 (x : (Fm.ty quadformlaw31_BernoulliClasses.d1).den) : Option ((Fm.ty quadformlaw31_BernoulliClasses.d1).den ⊕ (Xs.T quadformlaw31_BernoulliClasses.x1)) := quadformlaw31_BernoulliClasses.s1 x.1 x.2.1 x.2.2.1
def quadformlaw31_BernoulliClasses.h0 : HT := .n
noncomputable def quadformlaw31_BernoulliClasses.c0 : Code := (find (loops quadformlaw31_BernoulliClasses.c1 quadformlaw31_BernoulliClasses.h1) 0).getD .skip
def quadformlaw31_BernoulliClasses.d0 : Fm := [.v 3 (.int .i64), .v 4 (.int .i64), .v 5 (.int .i64), .v 6 (.int .i64)]
def quadformlaw31_BernoulliClasses.x0 : Xs := [(.exit 2, [.v 3 (.int .i64), .v 4 (.int .i64), .v 5 (.int .i64)])]
noncomputable def quadformlaw31_BernoulliClasses.r0 (x : (Fm.ty quadformlaw31_BernoulliClasses.d0).den) : Option ((Fm.ty quadformlaw31_BernoulliClasses.d0).den ⊕ (Xs.T quadformlaw31_BernoulliClasses.x0)) := quadformlaw31_BernoulliClasses.s0 x.1 x.2.1 x.2.2.1 x.2.2.2.1
noncomputable def quadformlaw31_BernoulliClasses.L : Lam := fun _ i s K => cond (Nat.beq i 0) (lamK quadformlaw31_BernoulliClasses.d0 quadformlaw31_BernoulliClasses.x0 quadformlaw31_BernoulliClasses.r0 s K) (cond (Nat.beq i 1) (lamK quadformlaw31_BernoulliClasses.d1 quadformlaw31_BernoulliClasses.x1 quadformlaw31_BernoulliClasses.r1 s K) (none))
theorem quadformlaw31_BernoulliClasses.hf0 (x) : roundK env (orc quadformlaw31_BernoulliClasses.o) (orcB quadformlaw31_BernoulliClasses.oB) 80 quadformlaw31_BernoulliClasses.L quadformlaw31_BernoulliClasses.c0 quadformlaw31_BernoulliClasses.h0 quadformlaw31_BernoulliClasses.d0 quadformlaw31_BernoulliClasses.x0 x = quadformlaw31_BernoulliClasses.r0 x := by kernel_rfl
theorem quadformlaw31_BernoulliClasses.hf1 (x) : roundK env (orc quadformlaw31_BernoulliClasses.o) (orcB quadformlaw31_BernoulliClasses.oB) 80 quadformlaw31_BernoulliClasses.L quadformlaw31_BernoulliClasses.c1 quadformlaw31_BernoulliClasses.h1 quadformlaw31_BernoulliClasses.d1 quadformlaw31_BernoulliClasses.x1 x = quadformlaw31_BernoulliClasses.r1 x := by kernel_rfl
theorem quadformlaw31_BernoulliClasses.os : AllOk prog quadformlaw31_BernoulliClasses.o := ⟨quadformlaw31_awake.ok, quadformlaw31_discriminant.ok, bernoulli_Generalized.ok, quadformref02_Cmp.ok, quadformref02_Small.ok, trivial⟩
theorem quadformlaw31_BernoulliClasses.osB : AllBOk prog quadformlaw31_BernoulliClasses.oB := trivial
theorem quadformlaw31_BernoulliClasses.l0 {C : Ctx} (hC : C.n = 80) : LamAt prog C quadformlaw31_BernoulliClasses.L 0 quadformlaw31_BernoulliClasses.c0 := by
  intro R s K r hk
  refine loop_ok (D := quadformlaw31_BernoulliClasses.d0) (X := quadformlaw31_BernoulliClasses.x0) (h := quadformlaw31_BernoulliClasses.h0) (f := quadformlaw31_BernoulliClasses.r0) tabs (orc_ok _ quadformlaw31_BernoulliClasses.os) (orcB_ok _ quadformlaw31_BernoulliClasses.osB) (fun x => by rw [hC]; exact quadformlaw31_BernoulliClasses.hf0 x) (Λ := quadformlaw31_BernoulliClasses.L) ?_ (by kernel_rfl) (by kernel_rfl) (K := K) (s := s) (by exact hk)
  exact by
    have e : loops quadformlaw31_BernoulliClasses.c0 quadformlaw31_BernoulliClasses.h0 = [] := by kernel_rfl
    rw [e]
    exact LamOk.nil
theorem quadformlaw31_BernoulliClasses.l1 {C : Ctx} (hC : C.n = 80) : LamAt prog C quadformlaw31_BernoulliClasses.L 1 quadformlaw31_BernoulliClasses.c1 := by
  intro R s K r hk
  refine loop_ok (D := quadformlaw31_BernoulliClasses.d1) (X := quadformlaw31_BernoulliClasses.x1) (h := quadformlaw31_BernoulliClasses.h1) (f := quadformlaw31_BernoulliClasses.r1) tabs (orc_ok _ quadformlaw31_BernoulliClasses.os) (orcB_ok _ quadformlaw31_BernoulliClasses.osB) (fun x => by rw [hC]; exact quadformlaw31_BernoulliClasses.hf1 x) (Λ := quadformlaw31_BernoulliClasses.L) ?_ (by kernel_rfl) (by kernel_rfl) (K := K) (s := s) (by exact hk)
  exact by
    have e : loops quadformlaw31_BernoulliClasses.c1 quadformlaw31_BernoulliClasses.h1 = [(0, quadformlaw31_BernoulliClasses.c0)] := by kernel_rfl
    rw [e]
    exact LamOk.cons (quadformlaw31_BernoulliClasses.l0 hC) (LamOk.nil)
theorem quadformlaw31_BernoulliClasses.hk (x) : semK env (orc quadformlaw31_BernoulliClasses.o) (orcB quadformlaw31_BernoulliClasses.oB) 80 (quadformlaw31_BernoulliClasses.L _) quadformlaw31_BernoulliClasses.c quadformlaw31_BernoulliClasses.h (S.init (avs [.int .i16] x)) (fin env Try.f6 ⟨[.int .i16], .bool, false, false⟩) = quadformlaw31_BernoulliClasses.en.g x := by kernel_rfl
theorem quadformlaw31_BernoulliClasses.ok : EnOk prog quadformlaw31_BernoulliClasses.en := by
  refine fun_ok (g := ⟨[.int .i16], .bool, false, false⟩) (h := quadformlaw31_BernoulliClasses.h) (Λ := quadformlaw31_BernoulliClasses.L) tabs quadformlaw31_BernoulliClasses.os quadformlaw31_BernoulliClasses.osB Try.func6 (c := quadformlaw31_BernoulliClasses.c) (by kernel_rfl) (by decide +kernel) (by decide +kernel) (fun C hC => ?_) (fun x => quadformlaw31_BernoulliClasses.hk x)
  exact by
    have e : loops quadformlaw31_BernoulliClasses.c quadformlaw31_BernoulliClasses.h = [(1, quadformlaw31_BernoulliClasses.c1)] := by kernel_rfl
    rw [e]
    exact LamOk.cons (quadformlaw31_BernoulliClasses.l1 hC) (LamOk.nil)
noncomputable def rational_Sign (t0 : (Bool × List Int × Unit) × (Bool × List Int × Unit) × Unit) : Option (Int) :=
  ((rational_of ((t0.1.1, (t0.1.2.1, ())), ((t0.2.1.1, (t0.2.1.2.1, ())), ()))).bind fun y1 =>
  ((integer_Sign (y1.1.1, (y1.1.2.1, ()))).bind fun y2 =>
  (some y2)))
noncomputable def rational_Sign.en : En := ⟨26, [.pair (.pair (.bool) (.pair (.sl (.int .u32)) (.unit))) (.pair (.pair (.bool) (.pair (.sl (.int .u32)) (.unit))) (.unit))], .int .i64, false, fun x => rational_Sign x.1⟩
noncomputable def rational_Sign.o : List En := [integer_Sign.en, rational_of.en]
noncomputable def rational_Sign.oB : List EnB := []
def rational_Sign.h : HT := .n
noncomputable def rational_Sign.c : Code := Try.f26.body.getD .skip
noncomputable def rational_Sign.L : Lam := fun _ i s K => none
theorem rational_Sign.os : AllOk prog rational_Sign.o := ⟨integer_Sign.ok, rational_of.ok, trivial⟩
theorem rational_Sign.osB : AllBOk prog rational_Sign.oB := trivial
theorem rational_Sign.hk (x) : semK env (orc rational_Sign.o) (orcB rational_Sign.oB) 7 (rational_Sign.L _) rational_Sign.c rational_Sign.h (S.init (avs [.pair (.pair (.bool) (.pair (.sl (.int .u32)) (.unit))) (.pair (.pair (.bool) (.pair (.sl (.int .u32)) (.unit))) (.unit))] x)) (fin env Try.f26 ⟨[.pair (.pair (.bool) (.pair (.sl (.int .u32)) (.unit))) (.pair (.pair (.bool) (.pair (.sl (.int .u32)) (.unit))) (.unit))], .int .i64, false, false⟩) = rational_Sign.en.g x := by kernel_rfl
theorem rational_Sign.ok : EnOk prog rational_Sign.en := by
  refine fun_ok (g := ⟨[.pair (.pair (.bool) (.pair (.sl (.int .u32)) (.unit))) (.pair (.pair (.bool) (.pair (.sl (.int .u32)) (.unit))) (.unit))], .int .i64, false, false⟩) (h := rational_Sign.h) (Λ := rational_Sign.L) tabs rational_Sign.os rational_Sign.osB Try.func26 (c := rational_Sign.c) (by kernel_rfl) (by decide +kernel) (by decide +kernel) (fun C hC => ?_) (fun x => rational_Sign.hk x)
  exact by
    have e : loops rational_Sign.c rational_Sign.h = [] := by kernel_rfl
    rw [e]
    exact LamOk.nil
noncomputable def quadformlaw31_BernoulliParity (t0 : Int) (t1 : Int) : Option (Bool) :=
  ((quadformlaw31_discriminant t1).bind fun y1 =>
  let x2 := (Int.tmod (IntKind.wrap .i64 t0) (6 : Int))
  ((bernoulli_Generalized (IntKind.wrap .i64 ((1 : Int) + x2)) y1).bind fun y3 =>
  (cond ((((Int.tmod (IntKind.wrap .i64 ((1 : Int) + x2)) (2 : Int)) == (0 : Int)) == (decide (y1 > (0 : Int)))))
  ((cond ((y3.2.1 == (0 : Int)))
  (((rational_Sign ((y3.1.1.1, (y3.1.1.2.1, ())), ((y3.1.2.1.1, (y3.1.2.1.2.1, ())), ()))).bind fun y6 =>
  (cond (((y6 != (0 : Int)) == true))
  (((quadformlaw31_awake).bind fun y7 =>
  (some y7)))
  ((some false)))))
  ((some false))))
  ((cond ((y1 == (1 : Int)))
  ((cond ((y3.2.1 == (0 : Int)))
  (((rational_Sign ((y3.1.1.1, (y3.1.1.2.1, ())), ((y3.1.2.1.1, (y3.1.2.1.2.1, ())), ()))).bind fun y9 =>
  (cond (((y9 != (0 : Int)) == ((IntKind.wrap .i64 ((1 : Int) + x2)) == (1 : Int))))
  (((quadformlaw31_awake).bind fun y10 =>
  (some y10)))
  ((some false)))))
  ((some false))))
  ((cond ((y3.2.1 == (0 : Int)))
  (((rational_Sign ((y3.1.1.1, (y3.1.1.2.1, ())), ((y3.1.2.1.1, (y3.1.2.1.2.1, ())), ()))).bind fun y11 =>
  (cond (((y11 != (0 : Int)) == false))
  (((quadformlaw31_awake).bind fun y12 =>
  (some y12)))
  ((some false)))))
  ((some false)))))))))
noncomputable def quadformlaw31_BernoulliParity.en : En := ⟨7, [.int .u8, .int .i16], .bool, false, fun x => quadformlaw31_BernoulliParity x.1 x.2.1⟩
noncomputable def quadformlaw31_BernoulliParity.o : List En := [quadformlaw31_awake.en, quadformlaw31_discriminant.en, bernoulli_Generalized.en, rational_Sign.en]
noncomputable def quadformlaw31_BernoulliParity.oB : List EnB := []
def quadformlaw31_BernoulliParity.h : HT := .n
noncomputable def quadformlaw31_BernoulliParity.c : Code := Try.f7.body.getD .skip
noncomputable def quadformlaw31_BernoulliParity.L : Lam := fun _ i s K => none
theorem quadformlaw31_BernoulliParity.os : AllOk prog quadformlaw31_BernoulliParity.o := ⟨quadformlaw31_awake.ok, quadformlaw31_discriminant.ok, bernoulli_Generalized.ok, rational_Sign.ok, trivial⟩
theorem quadformlaw31_BernoulliParity.osB : AllBOk prog quadformlaw31_BernoulliParity.oB := trivial
theorem quadformlaw31_BernoulliParity.hk (x) : semK env (orc quadformlaw31_BernoulliParity.o) (orcB quadformlaw31_BernoulliParity.oB) 48 (quadformlaw31_BernoulliParity.L _) quadformlaw31_BernoulliParity.c quadformlaw31_BernoulliParity.h (S.init (avs [.int .u8, .int .i16] x)) (fin env Try.f7 ⟨[.int .u8, .int .i16], .bool, false, false⟩) = quadformlaw31_BernoulliParity.en.g x := by kernel_rfl
theorem quadformlaw31_BernoulliParity.ok : EnOk prog quadformlaw31_BernoulliParity.en := by
  refine fun_ok (g := ⟨[.int .u8, .int .i16], .bool, false, false⟩) (h := quadformlaw31_BernoulliParity.h) (Λ := quadformlaw31_BernoulliParity.L) tabs quadformlaw31_BernoulliParity.os quadformlaw31_BernoulliParity.osB Try.func7 (c := quadformlaw31_BernoulliParity.c) (by kernel_rfl) (by decide +kernel) (by decide +kernel) (fun C hC => ?_) (fun x => quadformlaw31_BernoulliParity.hk x)
  exact by
    have e : loops quadformlaw31_BernoulliParity.c quadformlaw31_BernoulliParity.h = [] := by kernel_rfl
    rw [e]
    exact LamOk.nil
noncomputable def bernoulli_Character.j1 (t0 : Int) (t1 : Int) : Option (Int × Int × Unit) :=
  ((prime_Kronecker t0 t1).bind fun y2 =>
  (some (y2.1, (y2.2.1, ()))))
noncomputable def bernoulli_Character (t0 : Int) (t1 : Int) : Option (Int × Int × Unit) :=
  ((bernoulli_Fundamental t0).bind fun y1 =>
  (cond ((!y1))
  ((some ((0 : Int), ((1 : Int), ()))))
  ((bernoulli_Character.j1 t0 t1))))
noncomputable def bernoulli_Character.en : En := ⟨27, [.int .i64, .int .i64], .pair (.int .i64) (.pair (.int .i64) (.unit)), true, fun x => bernoulli_Character x.1 x.2.1⟩
noncomputable def bernoulli_Character.o : List En := [bernoulli_Fundamental.en, prime_Kronecker.en]
noncomputable def bernoulli_Character.oB : List EnB := []
def bernoulli_Character.h : HT := .n
noncomputable def bernoulli_Character.c : Code := Try.f27.body.getD .skip
noncomputable def bernoulli_Character.L : Lam := fun _ i s K => none
theorem bernoulli_Character.os : AllOk prog bernoulli_Character.o := ⟨bernoulli_Fundamental.ok, prime_Kronecker.ok, trivial⟩
theorem bernoulli_Character.osB : AllBOk prog bernoulli_Character.oB := trivial
theorem bernoulli_Character.hk (x) : semK env (orc bernoulli_Character.o) (orcB bernoulli_Character.oB) 14 (bernoulli_Character.L _) bernoulli_Character.c bernoulli_Character.h (S.init (avs [.int .i64, .int .i64] x)) (fin env Try.f27 ⟨[.int .i64, .int .i64], .pair (.int .i64) (.pair (.int .i64) (.unit)), true, false⟩) = bernoulli_Character.en.g x := by kernel_rfl
theorem bernoulli_Character.ok : EnOk prog bernoulli_Character.en := by
  refine fun_ok (g := ⟨[.int .i64, .int .i64], .pair (.int .i64) (.pair (.int .i64) (.unit)), true, false⟩) (h := bernoulli_Character.h) (Λ := bernoulli_Character.L) tabs bernoulli_Character.os bernoulli_Character.osB Try.func27 (c := bernoulli_Character.c) (by kernel_rfl) (by decide +kernel) (by decide +kernel) (fun C hC => ?_) (fun x => bernoulli_Character.hk x)
  exact by
    have e : loops bernoulli_Character.c bernoulli_Character.h = [] := by kernel_rfl
    rw [e]
    exact LamOk.nil
noncomputable def quadformref22_Factor.j3 (t0 : Int) (t5 : Int) (t6 : Int) (a36 : List (Int × Int × Unit)) : Option ((Int × Int × Int × (List (Int × Int × Unit)) × Unit) ⊕ ((Int × Int × Int × (List (Int × Int × Unit)) × Unit))) :=
  (cond (decide (t5 = 0))
  none
  ((some (.inl ((IntKind.wrap .i64 (Int.tdiv t0 t5)), t5, (IntKind.wrap .i64 (t6 + (1 : Int))), a36, ())))))
noncomputable def quadformref22_Factor.s0 (t0 : Int) (t5 : Int) (t6 : Int) (a36 : List (Int × Int × Unit)) : Option ((Int × Int × Int × (List (Int × Int × Unit)) × Unit) ⊕ ((Int × Int × Int × (List (Int × Int × Unit)) × Unit))) :=
  (cond (decide (t5 = 0))
  none
  ((cond (((Int.tmod t0 t5) == (0 : Int)))
  ((quadformref22_Factor.j3 t0 t5 t6 a36))
  ((some (.inr (t0, t5, t6, a36, ())))))))
noncomputable def quadformref22_Factor.j4 (t0 : Int) (t5 : Int) (a36 : List (Int × Int × Unit)) : Option ((Int × Int × (List (Int × Int × Unit)) × Unit) ⊕ ((Int × (List (Int × Int × Unit)) × Unit))) :=
  (some (.inl (t0, (IntKind.wrap .i64 (t5 + (1 : Int))), a36, ())))
noncomputable def quadformref22_Factor.k0 (t0 : Int) (t5 : Int) (t6 : Int) (a36 : List (Int × Int × Unit)) : Option ((Int × Int × (List (Int × Int × Unit)) × Unit) ⊕ ((Int × (List (Int × Int × Unit)) × Unit))) :=
  (cond ((decide (t6 > (0 : Int))))
  ((cond (decide (List.length a36 + List.length ([(t5, (t6, ()))] : List (Int × Int × Unit)) ≤ maxL))
  ((quadformref22_Factor.j4 t0 t5 (a36 ++ ([(t5, (t6, ()))] : List (Int × Int × Unit)))))
  none))
  ((quadformref22_Factor.j4 t0 t5 a36)))
noncomputable def quadformref22_Factor.j2 (t0 : Int) (t5 : Int) (a36 : List (Int × Int × Unit)) : Option ((Int × Int × (List (Int × Int × Unit)) × Unit) ⊕ ((Int × (List (Int × Int × Unit)) × Unit))) :=
  ((iterL (fun x : Int × Int × Int × (List (Int × Int × Unit)) × Unit => quadformref22_Factor.s0 x.1 x.2.1 x.2.2.1 x.2.2.2.1) (t0, t5, (0 : Int), a36, ())).bind fun y => quadformref22_Factor.k0 y.1 y.2.1 y.2.2.1 y.2.2.2.1)
noncomputable def quadformref22_Factor.s1 (t0 : Int) (t5 : Int) (a36 : List (Int × Int × Unit)) : Option ((Int × Int × (List (Int × Int × Unit)) × Unit) ⊕ ((Int × (List (Int × Int × Unit)) × Unit))) :=
  (cond ((decide ((IntKind.wrap .i64 (t5 * t5)) ≤ t0)))
  ((quadformref22_Factor.j2 t0 t5 a36))
  ((some (.inr (t0, a36, ())))))
noncomputable def quadformref22_Factor.j5 (a36 : List (Int × Int × Unit)) : Option ((List (Int × Int × Unit)) × Int × Unit) :=
  (some (a36, ((0 : Int), ())))
noncomputable def quadformref22_Factor.k1 (t0 : Int) (a36 : List (Int × Int × Unit)) : Option ((List (Int × Int × Unit)) × Int × Unit) :=
  (cond ((decide (t0 > (1 : Int))))
  ((cond (decide (List.length a36 + List.length ([(t0, ((1 : Int), ()))] : List (Int × Int × Unit)) ≤ maxL))
  ((quadformref22_Factor.j5 (a36 ++ ([(t0, ((1 : Int), ()))] : List (Int × Int × Unit)))))
  none))
  ((quadformref22_Factor.j5 a36)))
noncomputable def quadformref22_Factor.j1 (t0 : Int) : Option ((List (Int × Int × Unit)) × Int × Unit) :=
  ((iterL (fun x : Int × Int × (List (Int × Int × Unit)) × Unit => quadformref22_Factor.s1 x.1 x.2.1 x.2.2.1) (t0, (2 : Int), ([] : List (Int × Int × Unit)), ())).bind fun y => quadformref22_Factor.k1 y.1 y.2.1)
noncomputable def quadformref22_Factor (t0 : Int) : Option ((List (Int × Int × Unit)) × Int × Unit) :=
  (cond ((decide (t0 < (1 : Int))))
  ((some (([] : List (Int × Int × Unit)), ((1 : Int), ()))))
  ((cond ((decide (t0 > (2147483647 : Int))))
  ((some (([] : List (Int × Int × Unit)), ((1 : Int), ()))))
  ((quadformref22_Factor.j1 t0)))))
noncomputable def quadformref22_Factor.en : En := ⟨97, [.int .i64], .pair (.sl (.pair (.int .i64) (.pair (.int .i64) (.unit)))) (.pair (.int .i64) (.unit)), true, fun x => quadformref22_Factor x.1⟩
noncomputable def quadformref22_Factor.o : List En := []
noncomputable def quadformref22_Factor.oB : List EnB := []
def quadformref22_Factor.h : HT := .two (.n) (.two (.n) (.two (.n) (.two (.two (.n) (.lp 1)) (.n))))
noncomputable def quadformref22_Factor.c : Code := Try.f97.body.getD .skip
def quadformref22_Factor.h1 : HT := .two (.n) (.two (.two (.n) (.two (.lp 0) (.n))) (.n))
noncomputable def quadformref22_Factor.c1 : Code := (find (loops quadformref22_Factor.c quadformref22_Factor.h) 1).getD .skip
def quadformref22_Factor.d1 : Fm := [.v 0 (.int .i64), .v 5 (.int .i64), .arr 36 99 (.pair (.int .i64) (.pair (.int .i64) (.unit))), .own 4 36]
def quadformref22_Factor.x1 : Xs := [(.exit 0, [.v 0 (.int .i64), .arr 36 99 (.pair (.int .i64) (.pair (.int .i64) (.unit))), .own 4 36])]
noncomputable def quadformref22_Factor.r1 (x : (Fm.ty quadformref22_Factor.d1).den) : Option ((Fm.ty quadformref22_Factor.d1).den ⊕ (Xs.T quadformref22_Factor.x1)) := quadformref22_Factor.s1 x.1 x.2.1 x.2.2.1
def quadformref22_Factor.h0 : HT := .n
noncomputable def quadformref22_Factor.c0 : Code := (find (loops quadformref22_Factor.c1 quadformref22_Factor.h1) 0).getD .skip
def quadformref22_Factor.d0 : Fm := [.v 0 (.int .i64), .v 5 (.int .i64), .v 6 (.int .i64), .arr 36 99 (.pair (.int .i64) (.pair (.int .i64) (.unit))), .own 4 36]
def quadformref22_Factor.x0 : Xs := [(.exit 2, [.v 0 (.int .i64), .v 5 (.int .i64), .v 6 (.int .i64), .arr 36 99 (.pair (.int .i64) (.pair (.int .i64) (.unit))), .own 4 36])]
noncomputable def quadformref22_Factor.r0 (x : (Fm.ty quadformref22_Factor.d0).den) : Option ((Fm.ty quadformref22_Factor.d0).den ⊕ (Xs.T quadformref22_Factor.x0)) := quadformref22_Factor.s0 x.1 x.2.1 x.2.2.1 x.2.2.2.1
noncomputable def quadformref22_Factor.L : Lam := fun _ i s K => cond (Nat.beq i 0) (lamK quadformref22_Factor.d0 quadformref22_Factor.x0 quadformref22_Factor.r0 s K) (cond (Nat.beq i 1) (lamK quadformref22_Factor.d1 quadformref22_Factor.x1 quadformref22_Factor.r1 s K) (none))
theorem quadformref22_Factor.hf0 (x) : roundK env (orc quadformref22_Factor.o) (orcB quadformref22_Factor.oB) 45 quadformref22_Factor.L quadformref22_Factor.c0 quadformref22_Factor.h0 quadformref22_Factor.d0 quadformref22_Factor.x0 x = quadformref22_Factor.r0 x := by kernel_rfl
theorem quadformref22_Factor.hf1 (x) : roundK env (orc quadformref22_Factor.o) (orcB quadformref22_Factor.oB) 45 quadformref22_Factor.L quadformref22_Factor.c1 quadformref22_Factor.h1 quadformref22_Factor.d1 quadformref22_Factor.x1 x = quadformref22_Factor.r1 x := by kernel_rfl
theorem quadformref22_Factor.os : AllOk prog quadformref22_Factor.o := trivial
theorem quadformref22_Factor.osB : AllBOk prog quadformref22_Factor.oB := trivial
theorem quadformref22_Factor.l0 {C : Ctx} (hC : C.n = 45) : LamAt prog C quadformref22_Factor.L 0 quadformref22_Factor.c0 := by
  intro R s K r hk
  refine loop_ok (D := quadformref22_Factor.d0) (X := quadformref22_Factor.x0) (h := quadformref22_Factor.h0) (f := quadformref22_Factor.r0) tabs (orc_ok _ quadformref22_Factor.os) (orcB_ok _ quadformref22_Factor.osB) (fun x => by rw [hC]; exact quadformref22_Factor.hf0 x) (Λ := quadformref22_Factor.L) ?_ (by kernel_rfl) (by kernel_rfl) (K := K) (s := s) (by exact hk)
  exact by
    have e : loops quadformref22_Factor.c0 quadformref22_Factor.h0 = [] := by kernel_rfl
    rw [e]
    exact LamOk.nil
theorem quadformref22_Factor.l1 {C : Ctx} (hC : C.n = 45) : LamAt prog C quadformref22_Factor.L 1 quadformref22_Factor.c1 := by
  intro R s K r hk
  refine loop_ok (D := quadformref22_Factor.d1) (X := quadformref22_Factor.x1) (h := quadformref22_Factor.h1) (f := quadformref22_Factor.r1) tabs (orc_ok _ quadformref22_Factor.os) (orcB_ok _ quadformref22_Factor.osB) (fun x => by rw [hC]; exact quadformref22_Factor.hf1 x) (Λ := quadformref22_Factor.L) ?_ (by kernel_rfl) (by kernel_rfl) (K := K) (s := s) (by exact hk)
  exact by
    have e : loops quadformref22_Factor.c1 quadformref22_Factor.h1 = [(0, quadformref22_Factor.c0)] := by kernel_rfl
    rw [e]
    exact LamOk.cons (quadformref22_Factor.l0 hC) (LamOk.nil)
theorem quadformref22_Factor.hk (x) : semK env (orc quadformref22_Factor.o) (orcB quadformref22_Factor.oB) 45 (quadformref22_Factor.L _) quadformref22_Factor.c quadformref22_Factor.h (S.init (avs [.int .i64] x)) (fin env Try.f97 ⟨[.int .i64], .pair (.sl (.pair (.int .i64) (.pair (.int .i64) (.unit)))) (.pair (.int .i64) (.unit)), true, false⟩) = quadformref22_Factor.en.g x := by kernel_rfl
theorem quadformref22_Factor.ok : EnOk prog quadformref22_Factor.en := by
  refine fun_ok (g := ⟨[.int .i64], .pair (.sl (.pair (.int .i64) (.pair (.int .i64) (.unit)))) (.pair (.int .i64) (.unit)), true, false⟩) (h := quadformref22_Factor.h) (Λ := quadformref22_Factor.L) tabs quadformref22_Factor.os quadformref22_Factor.osB Try.func97 (c := quadformref22_Factor.c) (by kernel_rfl) (by decide +kernel) (by decide +kernel) (fun C hC => ?_) (fun x => quadformref22_Factor.hk x)
  exact by
    have e : loops quadformref22_Factor.c quadformref22_Factor.h = [(1, quadformref22_Factor.c1)] := by kernel_rfl
    rw [e]
    exact LamOk.cons (quadformref22_Factor.l1 hC) (LamOk.nil)
noncomputable def quadformref22_two.j4  : Option (Int) :=
  (some (0 : Int))
noncomputable def quadformref22_two.j3  : Option (Int) :=
  (quadformref22_two.j4)
noncomputable def quadformref22_two.j2 (t8 : Bool) : Option (Int) :=
  (cond (t8)
  ((some (-1 : Int)))
  ((quadformref22_two.j3)))
noncomputable def quadformref22_two.j1 (t4 : Int) (t5 : Bool) : Option (Int) :=
  (cond (t5)
  ((some (1 : Int)))
  ((cond ((t4 == (3 : Int)))
  ((quadformref22_two.j2 (t4 == (3 : Int))))
  ((quadformref22_two.j2 (t4 == (5 : Int)))))))
noncomputable def quadformref22_two (t0 : Int) : Option (Int) :=
  ((quadformref22_Mod t0 (8 : Int)).bind fun y1 =>
  (cond ((y1 == (1 : Int)))
  ((quadformref22_two.j1 y1 (y1 == (1 : Int))))
  ((quadformref22_two.j1 y1 (y1 == (7 : Int))))))
noncomputable def quadformref22_two.en : En := ⟨98, [.int .i64], .int .i64, false, fun x => quadformref22_two x.1⟩
noncomputable def quadformref22_two.o : List En := [quadformref22_Mod.en]
noncomputable def quadformref22_two.oB : List EnB := []
def quadformref22_two.h : HT := .n
noncomputable def quadformref22_two.c : Code := Try.f98.body.getD .skip
noncomputable def quadformref22_two.L : Lam := fun _ i s K => none
theorem quadformref22_two.os : AllOk prog quadformref22_two.o := ⟨quadformref22_Mod.ok, trivial⟩
theorem quadformref22_two.osB : AllBOk prog quadformref22_two.oB := trivial
theorem quadformref22_two.hk (x) : semK env (orc quadformref22_two.o) (orcB quadformref22_two.oB) 11 (quadformref22_two.L _) quadformref22_two.c quadformref22_two.h (S.init (avs [.int .i64] x)) (fin env Try.f98 ⟨[.int .i64], .int .i64, false, false⟩) = quadformref22_two.en.g x := by kernel_rfl
theorem quadformref22_two.ok : EnOk prog quadformref22_two.en := by
  refine fun_ok (g := ⟨[.int .i64], .int .i64, false, false⟩) (h := quadformref22_two.h) (Λ := quadformref22_two.L) tabs quadformref22_two.os quadformref22_two.osB Try.func98 (c := quadformref22_two.c) (by kernel_rfl) (by decide +kernel) (by decide +kernel) (fun C hC => ?_) (fun x => quadformref22_two.hk x)
  exact by
    have e : loops quadformref22_two.c quadformref22_two.h = [] := by kernel_rfl
    rw [e]
    exact LamOk.nil
noncomputable def quadformref22_ModPow.j2 (t0 : Int) (t1 : Int) (t2 : Int) (t7 : Int) : Option ((Int × Int × Int × Int × Unit) ⊕ ((Int × Unit))) :=
  (cond (decide (t2 = 0))
  none
  ((some (.inl ((Int.tmod (IntKind.wrap .i64 (t0 * t0)) t2), (IntKind.wrap .i64 (Int.tdiv t1 (2 : Int))), t2, t7, ())))))
noncomputable def quadformref22_ModPow.j1 (t0 : Int) (t1 : Int) (t2 : Int) (t7 : Int) : Option ((Int × Int × Int × Int × Unit) ⊕ ((Int × Unit))) :=
  (cond (((Int.tmod t1 (2 : Int)) == (1 : Int)))
  ((cond (decide (t2 = 0))
  none
  ((quadformref22_ModPow.j2 t0 t1 t2 (Int.tmod (IntKind.wrap .i64 (t7 * t0)) t2)))))
  ((quadformref22_ModPow.j2 t0 t1 t2 t7)))
noncomputable def quadformref22_ModPow.s0 (t0 : Int) (t1 : Int) (t2 : Int) (t7 : Int) : Option ((Int × Int × Int × Int × Unit) ⊕ ((Int × Unit))) :=
  (cond ((decide (t1 > (0 : Int))))
  ((quadformref22_ModPow.j1 t0 t1 t2 t7))
  ((some (.inr (t7, ())))))
noncomputable def quadformref22_ModPow.k0 (t7 : Int) : Option (Int) :=
  (some t7)
noncomputable def quadformref22_ModPow (t0 : Int) (t1 : Int) (t2 : Int) : Option (Int) :=
  (cond (decide (t2 = 0))
  none
  (((quadformref22_Mod t0 t2).bind fun y1 =>
  ((iterL (fun x : Int × Int × Int × Int × Unit => quadformref22_ModPow.s0 x.1 x.2.1 x.2.2.1 x.2.2.2.1) (y1, t1, t2, (Int.tmod (1 : Int) t2), ())).bind fun y => quadformref22_ModPow.k0 y.1))))
noncomputable def quadformref22_ModPow.en : En := ⟨113, [.int .i64, .int .i64, .int .i64], .int .i64, false, fun x => quadformref22_ModPow x.1 x.2.1 x.2.2.1⟩
noncomputable def quadformref22_ModPow.o : List En := [quadformref22_Mod.en]
noncomputable def quadformref22_ModPow.oB : List EnB := []
def quadformref22_ModPow.h : HT := .two (.n) (.two (.n) (.two (.two (.n) (.lp 0)) (.n)))
noncomputable def quadformref22_ModPow.c : Code := Try.f113.body.getD .skip
def quadformref22_ModPow.h0 : HT := .n
noncomputable def quadformref22_ModPow.c0 : Code := (find (loops quadformref22_ModPow.c quadformref22_ModPow.h) 0).getD .skip
def quadformref22_ModPow.d0 : Fm := [.v 0 (.int .i64), .v 1 (.int .i64), .v 2 (.int .i64), .v 7 (.int .i64)]
def quadformref22_ModPow.x0 : Xs := [(.exit 0, [.v 7 (.int .i64)])]
noncomputable def quadformref22_ModPow.r0 (x : (Fm.ty quadformref22_ModPow.d0).den) : Option ((Fm.ty quadformref22_ModPow.d0).den ⊕ (Xs.T quadformref22_ModPow.x0)) := quadformref22_ModPow.s0 x.1 x.2.1 x.2.2.1 x.2.2.2.1
noncomputable def quadformref22_ModPow.L : Lam := fun _ i s K => cond (Nat.beq i 0) (lamK quadformref22_ModPow.d0 quadformref22_ModPow.x0 quadformref22_ModPow.r0 s K) (none)
theorem quadformref22_ModPow.hf0 (x) : roundK env (orc quadformref22_ModPow.o) (orcB quadformref22_ModPow.oB) 31 quadformref22_ModPow.L quadformref22_ModPow.c0 quadformref22_ModPow.h0 quadformref22_ModPow.d0 quadformref22_ModPow.x0 x = quadformref22_ModPow.r0 x := by kernel_rfl
theorem quadformref22_ModPow.os : AllOk prog quadformref22_ModPow.o := ⟨quadformref22_Mod.ok, trivial⟩
theorem quadformref22_ModPow.osB : AllBOk prog quadformref22_ModPow.oB := trivial
theorem quadformref22_ModPow.l0 {C : Ctx} (hC : C.n = 31) : LamAt prog C quadformref22_ModPow.L 0 quadformref22_ModPow.c0 := by
  intro R s K r hk
  refine loop_ok (D := quadformref22_ModPow.d0) (X := quadformref22_ModPow.x0) (h := quadformref22_ModPow.h0) (f := quadformref22_ModPow.r0) tabs (orc_ok _ quadformref22_ModPow.os) (orcB_ok _ quadformref22_ModPow.osB) (fun x => by rw [hC]; exact quadformref22_ModPow.hf0 x) (Λ := quadformref22_ModPow.L) ?_ (by kernel_rfl) (by kernel_rfl) (K := K) (s := s) (by exact hk)
  exact by
    have e : loops quadformref22_ModPow.c0 quadformref22_ModPow.h0 = [] := by kernel_rfl
    rw [e]
    exact LamOk.nil
theorem quadformref22_ModPow.hk (x) : semK env (orc quadformref22_ModPow.o) (orcB quadformref22_ModPow.oB) 31 (quadformref22_ModPow.L _) quadformref22_ModPow.c quadformref22_ModPow.h (S.init (avs [.int .i64, .int .i64, .int .i64] x)) (fin env Try.f113 ⟨[.int .i64, .int .i64, .int .i64], .int .i64, false, false⟩) = quadformref22_ModPow.en.g x := by kernel_rfl
theorem quadformref22_ModPow.ok : EnOk prog quadformref22_ModPow.en := by
  refine fun_ok (g := ⟨[.int .i64, .int .i64, .int .i64], .int .i64, false, false⟩) (h := quadformref22_ModPow.h) (Λ := quadformref22_ModPow.L) tabs quadformref22_ModPow.os quadformref22_ModPow.osB Try.func113 (c := quadformref22_ModPow.c) (by kernel_rfl) (by decide +kernel) (by decide +kernel) (fun C hC => ?_) (fun x => quadformref22_ModPow.hk x)
  exact by
    have e : loops quadformref22_ModPow.c quadformref22_ModPow.h = [(0, quadformref22_ModPow.c0)] := by kernel_rfl
    rw [e]
    exact LamOk.cons (quadformref22_ModPow.l0 hC) (LamOk.nil)
noncomputable def quadformref22_Legendre.j2  : Option (Int) :=
  (some (-1 : Int))
noncomputable def quadformref22_Legendre.j1  : Option (Int) :=
  (quadformref22_Legendre.j2)
noncomputable def quadformref22_Legendre (t0 : Int) (t1 : Int) : Option (Int) :=
  ((quadformref22_ModPow t0 (IntKind.wrap .i64 (Int.tdiv (IntKind.wrap .i64 (t1 - (1 : Int))) (2 : Int))) t1).bind fun y2 =>
  (cond ((y2 == (0 : Int)))
  ((some (0 : Int)))
  ((cond ((y2 == (1 : Int)))
  ((some (1 : Int)))
  ((quadformref22_Legendre.j1))))))
noncomputable def quadformref22_Legendre.en : En := ⟨99, [.int .i64, .int .i64], .int .i64, false, fun x => quadformref22_Legendre x.1 x.2.1⟩
noncomputable def quadformref22_Legendre.o : List En := [quadformref22_ModPow.en]
noncomputable def quadformref22_Legendre.oB : List EnB := []
def quadformref22_Legendre.h : HT := .n
noncomputable def quadformref22_Legendre.c : Code := Try.f99.body.getD .skip
noncomputable def quadformref22_Legendre.L : Lam := fun _ i s K => none
theorem quadformref22_Legendre.os : AllOk prog quadformref22_Legendre.o := ⟨quadformref22_ModPow.ok, trivial⟩
theorem quadformref22_Legendre.osB : AllBOk prog quadformref22_Legendre.oB := trivial
theorem quadformref22_Legendre.hk (x) : semK env (orc quadformref22_Legendre.o) (orcB quadformref22_Legendre.oB) 15 (quadformref22_Legendre.L _) quadformref22_Legendre.c quadformref22_Legendre.h (S.init (avs [.int .i64, .int .i64] x)) (fin env Try.f99 ⟨[.int .i64, .int .i64], .int .i64, false, false⟩) = quadformref22_Legendre.en.g x := by kernel_rfl
theorem quadformref22_Legendre.ok : EnOk prog quadformref22_Legendre.en := by
  refine fun_ok (g := ⟨[.int .i64, .int .i64], .int .i64, false, false⟩) (h := quadformref22_Legendre.h) (Λ := quadformref22_Legendre.L) tabs quadformref22_Legendre.os quadformref22_Legendre.osB Try.func99 (c := quadformref22_Legendre.c) (by kernel_rfl) (by decide +kernel) (by decide +kernel) (fun C hC => ?_) (fun x => quadformref22_Legendre.hk x)
  exact by
    have e : loops quadformref22_Legendre.c quadformref22_Legendre.h = [] := by kernel_rfl
    rw [e]
    exact LamOk.nil
noncomputable def quadformref22_Symbol.j1  : Option (Int) :=
  (some (0 : Int))
noncomputable def quadformref22_Symbol.j7 (t0 : Int) (t5 : Int) (t10 : Int) (t30 : List (Int × Int × Unit)) (t31 : Int) (t32 : Int) (b9_0 : Int) (b9_1 : Int) : Option ((Int × Int × Int × (List (Int × Int × Unit)) × Int × Int × (Int × Int × Unit) × Unit) ⊕ ((Int × Int × (List (Int × Int × Unit)) × Int × Int × Unit))) :=
  (some (.inl (t0, t5, (IntKind.wrap .i64 (t10 + (1 : Int))), t30, t31, t32, (b9_0, (b9_1, ())), ())))
noncomputable def quadformref22_Symbol.j6 (t0 : Int) (t5 : Int) (t10 : Int) (t30 : List (Int × Int × Unit)) (t31 : Int) (t32 : Int) (b9_0 : Int) (b9_1 : Int) : Option ((Int × Int × Int × (List (Int × Int × Unit)) × Int × Int × (Int × Int × Unit) × Unit) ⊕ ((Int × Int × (List (Int × Int × Unit)) × Int × Int × Unit))) :=
  (cond ((b9_0 == (2 : Int)))
  (((quadformref22_two t0).bind fun y2 =>
  (quadformref22_Symbol.j7 t0 (IntKind.wrap .i64 (t5 * y2)) t10 t30 t31 t32 b9_0 b9_1)))
  (((quadformref22_Legendre t0 b9_0).bind fun y3 =>
  (quadformref22_Symbol.j7 t0 (IntKind.wrap .i64 (t5 * y3)) t10 t30 t31 t32 b9_0 b9_1))))
noncomputable def quadformref22_Symbol.s0 (t0 : Int) (t5 : Int) (t10 : Int) (t30 : List (Int × Int × Unit)) (t31 : Int) (t32 : Int) (b9 : Int × Int × Unit) : Option ((Int × Int × Int × (List (Int × Int × Unit)) × Int × Int × (Int × Int × Unit) × Unit) ⊕ ((Int × Int × (List (Int × Int × Unit)) × Int × Int × Unit))) :=
  (cond ((decide (t10 < b9.2.1)))
  ((quadformref22_Symbol.j6 t0 t5 t10 t30 t31 t32 b9.1 b9.2.1))
  ((some (.inr (t0, t5, t30, t31, t32, ())))))
noncomputable def quadformref22_Symbol.k0 (t0 : Int) (t5 : Int) (t30 : List (Int × Int × Unit)) (t31 : Int) (t32 : Int) : Option ((Int × Int × (List (Int × Int × Unit)) × Int × Int × Unit) ⊕ ((Int × Unit))) :=
  (some (.inl (t0, t5, t30, t31, (IntKind.wrap .i64 (t32 + (1 : Int))), ())))
noncomputable def quadformref22_Symbol.j5 (t0 : Int) (t5 : Int) (t30 : List (Int × Int × Unit)) (t31 : Int) (t32 : Int) : Option ((Int × Int × (List (Int × Int × Unit)) × Int × Int × Unit) ⊕ ((Int × Unit))) :=
  (cond (inB t32 (List.length t30))
  (((iterL (fun x : Int × Int × Int × (List (Int × Int × Unit)) × Int × Int × (Int × Int × Unit) × Unit => quadformref22_Symbol.s0 x.1 x.2.1 x.2.2.1 x.2.2.2.1 x.2.2.2.2.1 x.2.2.2.2.2.1 x.2.2.2.2.2.2.1) (t0, t5, (0 : Int), t30, t31, t32, ((List.getD t30 (t32.toNat) ((0 : Int), ((0 : Int), ()))).1, ((List.getD t30 (t32.toNat) ((0 : Int), ((0 : Int), ()))).2.1, ())), ())).bind fun y => quadformref22_Symbol.k0 y.1 y.2.1 y.2.2.1 y.2.2.2.1 y.2.2.2.2.1))
  none)
noncomputable def quadformref22_Symbol.s1 (t0 : Int) (t5 : Int) (t30 : List (Int × Int × Unit)) (t31 : Int) (t32 : Int) : Option ((Int × Int × (List (Int × Int × Unit)) × Int × Int × Unit) ⊕ ((Int × Unit))) :=
  (cond ((decide (t32 < t31)))
  ((quadformref22_Symbol.j5 t0 t5 t30 t31 t32))
  ((some (.inr (t5, ())))))
noncomputable def quadformref22_Symbol.k1 (t5 : Int) : Option (Int) :=
  (some t5)
noncomputable def quadformref22_Symbol.j4 (t0 : Int) (t1 : Int) : Option (Int) :=
  ((quadformref22_Factor t1).bind fun y1 =>
  ((iterL (fun x : Int × Int × (List (Int × Int × Unit)) × Int × Int × Unit => quadformref22_Symbol.s1 x.1 x.2.1 x.2.2.1 x.2.2.2.1 x.2.2.2.2.1) (t0, (-1 : Int), y1.1, ((List.length y1.1 : Nat) : Int), (0 : Int), ())).bind fun y => quadformref22_Symbol.k1 y.1))
noncomputable def quadformref22_Symbol.j3 (t0 : Int) (t1 : Int) : Option (Int) :=
  (quadformref22_Symbol.j4 t0 t1)
noncomputable def quadformref22_Symbol.j9 (t0 : Int) (t1 : Int) : Option (Int) :=
  ((quadformref22_Factor t1).bind fun y4 =>
  ((iterL (fun x : Int × Int × (List (Int × Int × Unit)) × Int × Int × Unit => quadformref22_Symbol.s1 x.1 x.2.1 x.2.2.1 x.2.2.2.1 x.2.2.2.2.1) (t0, (1 : Int), y4.1, ((List.length y4.1 : Nat) : Int), (0 : Int), ())).bind fun y => quadformref22_Symbol.k1 y.1))
noncomputable def quadformref22_Symbol.j8 (t0 : Int) (t1 : Int) : Option (Int) :=
  (quadformref22_Symbol.j9 t0 t1)
noncomputable def quadformref22_Symbol.j2 (t0 : Int) (t1 : Int) : Option (Int) :=
  (cond ((decide (t1 < (0 : Int))))
  ((cond ((decide (t0 < (0 : Int))))
  ((quadformref22_Symbol.j3 t0 (IntKind.wrap .i64 (0 - t1))))
  ((quadformref22_Symbol.j8 t0 (IntKind.wrap .i64 (0 - t1))))))
  ((quadformref22_Symbol.j9 t0 t1)))
noncomputable def quadformref22_Symbol (t0 : Int) (t1 : Int) : Option (Int) :=
  (cond ((t1 == (0 : Int)))
  ((cond ((t0 == (1 : Int)))
  ((some (1 : Int)))
  ((cond ((t0 == (-1 : Int)))
  ((some (1 : Int)))
  ((quadformref22_Symbol.j1))))))
  ((quadformref22_Symbol.j2 t0 t1)))
noncomputable def quadformref22_Symbol.en : En := ⟨62, [.int .i64, .int .i64], .int .i64, false, fun x => quadformref22_Symbol x.1 x.2.1⟩
noncomputable def quadformref22_Symbol.o : List En := [quadformref22_Factor.en, quadformref22_two.en, quadformref22_Legendre.en]
noncomputable def quadformref22_Symbol.oB : List EnB := []
def quadformref22_Symbol.h : HT := .two (.n) (.two (.n) (.two (.n) (.two (.n) (.two (.n) (.two (.two (.n) (.lp 1)) (.n))))))
noncomputable def quadformref22_Symbol.c : Code := Try.f62.body.getD .skip
def quadformref22_Symbol.h1 : HT := .two (.n) (.two (.n) (.two (.two (.n) (.two (.n) (.lp 0))) (.n)))
noncomputable def quadformref22_Symbol.c1 : Code := (find (loops quadformref22_Symbol.c quadformref22_Symbol.h) 1).getD .skip
def quadformref22_Symbol.d1 : Fm := [.v 0 (.int .i64), .v 5 (.int .i64), .v 30 (.sl (.pair (.int .i64) (.pair (.int .i64) (.unit)))), .v 31 (.int .i64), .v 32 (.int .i64)]
def quadformref22_Symbol.x1 : Xs := [(.exit 0, [.v 5 (.int .i64)])]
noncomputable def quadformref22_Symbol.r1 (x : (Fm.ty quadformref22_Symbol.d1).den) : Option ((Fm.ty quadformref22_Symbol.d1).den ⊕ (Xs.T quadformref22_Symbol.x1)) := quadformref22_Symbol.s1 x.1 x.2.1 x.2.2.1 x.2.2.2.1 x.2.2.2.2.1
def quadformref22_Symbol.h0 : HT := .n
noncomputable def quadformref22_Symbol.c0 : Code := (find (loops quadformref22_Symbol.c1 quadformref22_Symbol.h1) 0).getD .skip
def quadformref22_Symbol.d0 : Fm := [.v 0 (.int .i64), .v 5 (.int .i64), .v 10 (.int .i64), .v 30 (.sl (.pair (.int .i64) (.pair (.int .i64) (.unit)))), .v 31 (.int .i64), .v 32 (.int .i64), .box 9 (.pair (.int .i64) (.pair (.int .i64) (.unit))), .ptr 9 9]
def quadformref22_Symbol.x0 : Xs := [(.exit 2, [.v 0 (.int .i64), .v 5 (.int .i64), .v 30 (.sl (.pair (.int .i64) (.pair (.int .i64) (.unit)))), .v 31 (.int .i64), .v 32 (.int .i64)])]
noncomputable def quadformref22_Symbol.r0 (x : (Fm.ty quadformref22_Symbol.d0).den) : Option ((Fm.ty quadformref22_Symbol.d0).den ⊕ (Xs.T quadformref22_Symbol.x0)) := quadformref22_Symbol.s0 x.1 x.2.1 x.2.2.1 x.2.2.2.1 x.2.2.2.2.1 x.2.2.2.2.2.1 x.2.2.2.2.2.2.1
noncomputable def quadformref22_Symbol.L : Lam := fun _ i s K => cond (Nat.beq i 0) (lamK quadformref22_Symbol.d0 quadformref22_Symbol.x0 quadformref22_Symbol.r0 s K) (cond (Nat.beq i 1) (lamK quadformref22_Symbol.d1 quadformref22_Symbol.x1 quadformref22_Symbol.r1 s K) (none))
theorem quadformref22_Symbol.hf0 (x) : roundK env (orc quadformref22_Symbol.o) (orcB quadformref22_Symbol.oB) 57 quadformref22_Symbol.L quadformref22_Symbol.c0 quadformref22_Symbol.h0 quadformref22_Symbol.d0 quadformref22_Symbol.x0 x = quadformref22_Symbol.r0 x := by kernel_rfl
theorem quadformref22_Symbol.hf1 (x) : roundK env (orc quadformref22_Symbol.o) (orcB quadformref22_Symbol.oB) 57 quadformref22_Symbol.L quadformref22_Symbol.c1 quadformref22_Symbol.h1 quadformref22_Symbol.d1 quadformref22_Symbol.x1 x = quadformref22_Symbol.r1 x := by kernel_rfl
theorem quadformref22_Symbol.os : AllOk prog quadformref22_Symbol.o := ⟨quadformref22_Factor.ok, quadformref22_two.ok, quadformref22_Legendre.ok, trivial⟩
theorem quadformref22_Symbol.osB : AllBOk prog quadformref22_Symbol.oB := trivial
theorem quadformref22_Symbol.l0 {C : Ctx} (hC : C.n = 57) : LamAt prog C quadformref22_Symbol.L 0 quadformref22_Symbol.c0 := by
  intro R s K r hk
  refine loop_ok (D := quadformref22_Symbol.d0) (X := quadformref22_Symbol.x0) (h := quadformref22_Symbol.h0) (f := quadformref22_Symbol.r0) tabs (orc_ok _ quadformref22_Symbol.os) (orcB_ok _ quadformref22_Symbol.osB) (fun x => by rw [hC]; exact quadformref22_Symbol.hf0 x) (Λ := quadformref22_Symbol.L) ?_ (by kernel_rfl) (by kernel_rfl) (K := K) (s := s) (by exact hk)
  exact by
    have e : loops quadformref22_Symbol.c0 quadformref22_Symbol.h0 = [] := by kernel_rfl
    rw [e]
    exact LamOk.nil
theorem quadformref22_Symbol.l1 {C : Ctx} (hC : C.n = 57) : LamAt prog C quadformref22_Symbol.L 1 quadformref22_Symbol.c1 := by
  intro R s K r hk
  refine loop_ok (D := quadformref22_Symbol.d1) (X := quadformref22_Symbol.x1) (h := quadformref22_Symbol.h1) (f := quadformref22_Symbol.r1) tabs (orc_ok _ quadformref22_Symbol.os) (orcB_ok _ quadformref22_Symbol.osB) (fun x => by rw [hC]; exact quadformref22_Symbol.hf1 x) (Λ := quadformref22_Symbol.L) ?_ (by kernel_rfl) (by kernel_rfl) (K := K) (s := s) (by exact hk)
  exact by
    have e : loops quadformref22_Symbol.c1 quadformref22_Symbol.h1 = [(0, quadformref22_Symbol.c0)] := by kernel_rfl
    rw [e]
    exact LamOk.cons (quadformref22_Symbol.l0 hC) (LamOk.nil)
theorem quadformref22_Symbol.hk (x) : semK env (orc quadformref22_Symbol.o) (orcB quadformref22_Symbol.oB) 57 (quadformref22_Symbol.L _) quadformref22_Symbol.c quadformref22_Symbol.h (S.init (avs [.int .i64, .int .i64] x)) (fin env Try.f62 ⟨[.int .i64, .int .i64], .int .i64, false, false⟩) = quadformref22_Symbol.en.g x := by kernel_rfl
theorem quadformref22_Symbol.ok : EnOk prog quadformref22_Symbol.en := by
  refine fun_ok (g := ⟨[.int .i64, .int .i64], .int .i64, false, false⟩) (h := quadformref22_Symbol.h) (Λ := quadformref22_Symbol.L) tabs quadformref22_Symbol.os quadformref22_Symbol.osB Try.func62 (c := quadformref22_Symbol.c) (by kernel_rfl) (by decide +kernel) (by decide +kernel) (fun C hC => ?_) (fun x => quadformref22_Symbol.hk x)
  exact by
    have e : loops quadformref22_Symbol.c quadformref22_Symbol.h = [(1, quadformref22_Symbol.c1)] := by kernel_rfl
    rw [e]
    exact LamOk.cons (quadformref22_Symbol.l1 hC) (LamOk.nil)
noncomputable def quadformref31_Character.j1 (t0 : Int) (t1 : Int) : Option (Int × Int × Unit) :=
  ((quadformref22_Symbol t0 t1).bind fun y2 =>
  (some (y2, ((0 : Int), ()))))
noncomputable def quadformref31_Character (t0 : Int) (t1 : Int) : Option (Int × Int × Unit) :=
  ((quadformref31_Fundamental t0).bind fun y1 =>
  (cond ((!y1))
  ((some ((0 : Int), ((1 : Int), ()))))
  ((cond ((decide (t1 < (-2147483647 : Int))))
  ((some ((0 : Int), ((1 : Int), ()))))
  ((cond ((decide (t1 > (2147483647 : Int))))
  ((some ((0 : Int), ((1 : Int), ()))))
  ((quadformref31_Character.j1 t0 t1))))))))
noncomputable def quadformref31_Character.en : En := ⟨28, [.int .i64, .int .i64], .pair (.int .i64) (.pair (.int .i64) (.unit)), true, fun x => quadformref31_Character x.1 x.2.1⟩
noncomputable def quadformref31_Character.o : List En := [quadformref31_Fundamental.en, quadformref22_Symbol.en]
noncomputable def quadformref31_Character.oB : List EnB := []
def quadformref31_Character.h : HT := .n
noncomputable def quadformref31_Character.c : Code := Try.f28.body.getD .skip
noncomputable def quadformref31_Character.L : Lam := fun _ i s K => none
theorem quadformref31_Character.os : AllOk prog quadformref31_Character.o := ⟨quadformref31_Fundamental.ok, quadformref22_Symbol.ok, trivial⟩
theorem quadformref31_Character.osB : AllBOk prog quadformref31_Character.oB := trivial
theorem quadformref31_Character.hk (x) : semK env (orc quadformref31_Character.o) (orcB quadformref31_Character.oB) 20 (quadformref31_Character.L _) quadformref31_Character.c quadformref31_Character.h (S.init (avs [.int .i64, .int .i64] x)) (fin env Try.f28 ⟨[.int .i64, .int .i64], .pair (.int .i64) (.pair (.int .i64) (.unit)), true, false⟩) = quadformref31_Character.en.g x := by kernel_rfl
theorem quadformref31_Character.ok : EnOk prog quadformref31_Character.en := by
  refine fun_ok (g := ⟨[.int .i64, .int .i64], .pair (.int .i64) (.pair (.int .i64) (.unit)), true, false⟩) (h := quadformref31_Character.h) (Λ := quadformref31_Character.L) tabs quadformref31_Character.os quadformref31_Character.osB Try.func28 (c := quadformref31_Character.c) (by kernel_rfl) (by decide +kernel) (by decide +kernel) (fun C hC => ?_) (fun x => quadformref31_Character.hk x)
  exact by
    have e : loops quadformref31_Character.c quadformref31_Character.h = [] := by kernel_rfl
    rw [e]
    exact LamOk.nil
noncomputable def quadformlaw31_BernoulliCharacter.j1 (t0 : Int) (t1 : Int) : Option (Bool) :=
  ((bernoulli_Character t0 t1).bind fun y1 =>
  ((quadformref31_Character t0 t1).bind fun y2 =>
  (cond ((y1.1 == y2.1))
  ((cond ((y1.2.1 == y2.2.1))
  (((quadformlaw31_awake).bind fun y3 =>
  (some y3)))
  ((some false))))
  ((some false)))))
noncomputable def quadformlaw31_BernoulliCharacter (t0 : Int) (t1 : Int) (t2 : Bool) : Option (Bool) :=
  (cond (t2)
  ((quadformlaw31_BernoulliCharacter.j1 (Int.tmod t0 (200 : Int)) (Int.tmod t1 (1000 : Int))))
  ((quadformlaw31_BernoulliCharacter.j1 t0 t1)))
noncomputable def quadformlaw31_BernoulliCharacter.en : En := ⟨8, [.int .i64, .int .i64, .bool], .bool, false, fun x => quadformlaw31_BernoulliCharacter x.1 x.2.1 x.2.2.1⟩
noncomputable def quadformlaw31_BernoulliCharacter.o : List En := [quadformlaw31_awake.en, bernoulli_Character.en, quadformref31_Character.en]
noncomputable def quadformlaw31_BernoulliCharacter.oB : List EnB := []
def quadformlaw31_BernoulliCharacter.h : HT := .n
noncomputable def quadformlaw31_BernoulliCharacter.c : Code := Try.f8.body.getD .skip
noncomputable def quadformlaw31_BernoulliCharacter.L : Lam := fun _ i s K => none
theorem quadformlaw31_BernoulliCharacter.os : AllOk prog quadformlaw31_BernoulliCharacter.o := ⟨quadformlaw31_awake.ok, bernoulli_Character.ok, quadformref31_Character.ok, trivial⟩
theorem quadformlaw31_BernoulliCharacter.osB : AllBOk prog quadformlaw31_BernoulliCharacter.oB := trivial
theorem quadformlaw31_BernoulliCharacter.hk (x) : semK env (orc quadformlaw31_BernoulliCharacter.o) (orcB quadformlaw31_BernoulliCharacter.oB) 39 (quadformlaw31_BernoulliCharacter.L _) quadformlaw31_BernoulliCharacter.c quadformlaw31_BernoulliCharacter.h (S.init (avs [.int .i64, .int .i64, .bool] x)) (fin env Try.f8 ⟨[.int .i64, .int .i64, .bool], .bool, false, false⟩) = quadformlaw31_BernoulliCharacter.en.g x := by kernel_rfl
theorem quadformlaw31_BernoulliCharacter.ok : EnOk prog quadformlaw31_BernoulliCharacter.en := by
  refine fun_ok (g := ⟨[.int .i64, .int .i64, .bool], .bool, false, false⟩) (h := quadformlaw31_BernoulliCharacter.h) (Λ := quadformlaw31_BernoulliCharacter.L) tabs quadformlaw31_BernoulliCharacter.os quadformlaw31_BernoulliCharacter.osB Try.func8 (c := quadformlaw31_BernoulliCharacter.c) (by kernel_rfl) (by decide +kernel) (by decide +kernel) (fun C hC => ?_) (fun x => quadformlaw31_BernoulliCharacter.hk x)
  exact by
    have e : loops quadformlaw31_BernoulliCharacter.c quadformlaw31_BernoulliCharacter.h = [] := by kernel_rfl
    rw [e]
    exact LamOk.nil
noncomputable def quadformlaw31_BernoulliPeriod.j1 (t9 : Int) (t10 : Int) (t11 : Int) (t12 : Int) (t13 : Int) (t14 : Int) (t15 : Int) (t16 : Int) (t17 : Int) (t18 : Int) : Option (Bool) :=
  (cond ((t10 == (0 : Int)))
  ((cond ((t12 == (0 : Int)))
  ((cond ((t14 == (0 : Int)))
  ((cond ((t16 == (0 : Int)))
  ((cond ((t18 == (0 : Int)))
  ((cond ((t9 == t11))
  ((cond ((t15 == (IntKind.wrap .i64 (t9 * t13))))
  ((cond ((t17 == (-1 : Int)))
  (((quadformlaw31_awake).bind fun y13 =>
  (some y13)))
  ((some false))))
  ((some false))))
  ((some false))))
  ((some false))))
  ((some false))))
  ((some false))))
  ((some false))))
  ((some false)))
noncomputable def quadformlaw31_BernoulliPeriod.j2 (t9 : Int) (t10 : Int) (t11 : Int) (t12 : Int) (t13 : Int) (t14 : Int) (t15 : Int) (t16 : Int) (t17 : Int) (t18 : Int) : Option (Bool) :=
  (cond ((t10 == (0 : Int)))
  ((cond ((t12 == (0 : Int)))
  ((cond ((t14 == (0 : Int)))
  ((cond ((t16 == (0 : Int)))
  ((cond ((t18 == (0 : Int)))
  ((cond ((t9 == t11))
  ((cond ((t15 == (IntKind.wrap .i64 (t9 * t13))))
  ((cond ((t17 == (1 : Int)))
  (((quadformlaw31_awake).bind fun y14 =>
  (some y14)))
  ((some false))))
  ((some false))))
  ((some false))))
  ((some false))))
  ((some false))))
  ((some false))))
  ((some false))))
  ((some false)))
noncomputable def quadformlaw31_BernoulliPeriod (t0 : Int) (t1 : Int) (t2 : Int) : Option (Bool) :=
  ((quadformlaw31_discriminant t0).bind fun y1 =>
  ((bernoulli_Character y1 (IntKind.wrap .i64 ((1 : Int) + (IntKind.wrap .i64 t1)))).bind fun y3 =>
  ((bernoulli_Character y1 (IntKind.wrap .i64 ((IntKind.wrap .i64 ((1 : Int) + (IntKind.wrap .i64 t1))) + (mx2 y1 (IntKind.wrap .i64 (0 - y1)))))).bind fun y6 =>
  ((bernoulli_Character y1 (IntKind.wrap .i64 ((1 : Int) + (IntKind.wrap .i64 t2)))).bind fun y8 =>
  ((bernoulli_Character y1 (IntKind.wrap .i64 ((IntKind.wrap .i64 ((1 : Int) + (IntKind.wrap .i64 t1))) * (IntKind.wrap .i64 ((1 : Int) + (IntKind.wrap .i64 t2)))))).bind fun y11 =>
  ((bernoulli_Character y1 (-1 : Int)).bind fun y12 =>
  (cond ((decide (y1 < (0 : Int))))
  ((quadformlaw31_BernoulliPeriod.j1 y3.1 y3.2.1 y6.1 y6.2.1 y8.1 y8.2.1 y11.1 y11.2.1 y12.1 y12.2.1))
  ((quadformlaw31_BernoulliPeriod.j2 y3.1 y3.2.1 y6.1 y6.2.1 y8.1 y8.2.1 y11.1 y11.2.1 y12.1 y12.2.1)))))))))
noncomputable def quadformlaw31_BernoulliPeriod.en : En := ⟨9, [.int .i16, .int .u8, .int .u8], .bool, false, fun x => quadformlaw31_BernoulliPeriod x.1 x.2.1 x.2.2.1⟩
noncomputable def quadformlaw31_BernoulliPeriod.o : List En := [quadformlaw31_awake.en, quadformlaw31_discriminant.en, bernoulli_Character.en]
noncomputable def quadformlaw31_BernoulliPeriod.oB : List EnB := []
def quadformlaw31_BernoulliPeriod.h : HT := .n
noncomputable def quadformlaw31_BernoulliPeriod.c : Code := Try.f9.body.getD .skip
noncomputable def quadformlaw31_BernoulliPeriod.L : Lam := fun _ i s K => none
theorem quadformlaw31_BernoulliPeriod.os : AllOk prog quadformlaw31_BernoulliPeriod.o := ⟨quadformlaw31_awake.ok, quadformlaw31_discriminant.ok, bernoulli_Character.ok, trivial⟩
theorem quadformlaw31_BernoulliPeriod.osB : AllBOk prog quadformlaw31_BernoulliPeriod.oB := trivial
theorem quadformlaw31_BernoulliPeriod.hk (x) : semK env (orc quadformlaw31_BernoulliPeriod.o) (orcB quadformlaw31_BernoulliPeriod.oB) 109 (quadformlaw31_BernoulliPeriod.L _) quadformlaw31_BernoulliPeriod.c quadformlaw31_BernoulliPeriod.h (S.init (avs [.int .i16, .int .u8, .int .u8] x)) (fin env Try.f9 ⟨[.int .i16, .int .u8, .int .u8], .bool, false, false⟩) = quadformlaw31_BernoulliPeriod.en.g x := by kernel_rfl
theorem quadformlaw31_BernoulliPeriod.ok : EnOk prog quadformlaw31_BernoulliPeriod.en := by
  refine fun_ok (g := ⟨[.int .i16, .int .u8, .int .u8], .bool, false, false⟩) (h := quadformlaw31_BernoulliPeriod.h) (Λ := quadformlaw31_BernoulliPeriod.L) tabs quadformlaw31_BernoulliPeriod.os quadformlaw31_BernoulliPeriod.osB Try.func9 (c := quadformlaw31_BernoulliPeriod.c) (by kernel_rfl) (by decide +kernel) (by decide +kernel) (fun C hC => ?_) (fun x => quadformlaw31_BernoulliPeriod.hk x)
  exact by
    have e : loops quadformlaw31_BernoulliPeriod.c quadformlaw31_BernoulliPeriod.h = [] := by kernel_rfl
    rw [e]
    exact LamOk.nil
noncomputable def quadformref31_Ratio (t0 : Int) (t1 : Int) : Option ((Bool × List Int × Unit) × (Bool × List Int × Unit) × Unit) :=
  ((quadformref01_Small t0).bind fun y1 =>
  ((quadformref01_Small t1).bind fun y2 =>
  ((quadformref02_New y1 y2).bind fun y3 =>
  (some ((y3.1.1.1, (y3.1.1.2.1, ())), ((y3.1.2.1.1, (y3.1.2.1.2.1, ())), ()))))))
noncomputable def quadformref31_Ratio.en : En := ⟨29, [.int .i64, .int .i64], .pair (.pair (.bool) (.pair (.sl (.int .u32)) (.unit))) (.pair (.pair (.bool) (.pair (.sl (.int .u32)) (.unit))) (.unit)), false, fun x => quadformref31_Ratio x.1 x.2.1⟩
noncomputable def quadformref31_Ratio.o : List En := [quadformref01_Small.en, quadformref02_New.en]
noncomputable def quadformref31_Ratio.oB : List EnB := []
def quadformref31_Ratio.h : HT := .n
noncomputable def quadformref31_Ratio.c : Code := Try.f29.body.getD .skip
noncomputable def quadformref31_Ratio.L : Lam := fun _ i s K => none
theorem quadformref31_Ratio.os : AllOk prog quadformref31_Ratio.o := ⟨quadformref01_Small.ok, quadformref02_New.ok, trivial⟩
theorem quadformref31_Ratio.osB : AllBOk prog quadformref31_Ratio.oB := trivial
theorem quadformref31_Ratio.hk (x) : semK env (orc quadformref31_Ratio.o) (orcB quadformref31_Ratio.oB) 16 (quadformref31_Ratio.L _) quadformref31_Ratio.c quadformref31_Ratio.h (S.init (avs [.int .i64, .int .i64] x)) (fin env Try.f29 ⟨[.int .i64, .int .i64], .pair (.pair (.bool) (.pair (.sl (.int .u32)) (.unit))) (.pair (.pair (.bool) (.pair (.sl (.int .u32)) (.unit))) (.unit)), false, false⟩) = quadformref31_Ratio.en.g x := by kernel_rfl
theorem quadformref31_Ratio.ok : EnOk prog quadformref31_Ratio.en := by
  refine fun_ok (g := ⟨[.int .i64, .int .i64], .pair (.pair (.bool) (.pair (.sl (.int .u32)) (.unit))) (.pair (.pair (.bool) (.pair (.sl (.int .u32)) (.unit))) (.unit)), false, false⟩) (h := quadformref31_Ratio.h) (Λ := quadformref31_Ratio.L) tabs quadformref31_Ratio.os quadformref31_Ratio.osB Try.func29 (c := quadformref31_Ratio.c) (by kernel_rfl) (by decide +kernel) (by decide +kernel) (fun C hC => ?_) (fun x => quadformref31_Ratio.hk x)
  exact by
    have e : loops quadformref31_Ratio.c quadformref31_Ratio.h = [] := by kernel_rfl
    rw [e]
    exact LamOk.nil
noncomputable def bernoulli_Poly.j2 (t0 : Int) (t21 : Int) (t22 : Int) (b3_0 : Bool) (b3_1 : List Int) (b3_2 : Bool) (b3_3 : List Int) (b4_0 : Bool) (b4_1 : List Int) (b4_2 : Bool) (b4_3 : List Int) (a20 : List ((Bool × List Int × Unit) × (Bool × List Int × Unit) × Unit)) : Option ((Int × Int × Int × (List ((Bool × List Int × Unit) × (Bool × List Int × Unit) × Unit)) × ((Bool × List Int × Unit) × (Bool × List Int × Unit) × Unit) × ((Bool × List Int × Unit) × (Bool × List Int × Unit) × Unit) × Unit) ⊕ ((Int × (List ((Bool × List Int × Unit) × (Bool × List Int × Unit) × Unit)) × ((Bool × List Int × Unit) × (Bool × List Int × Unit) × Unit) × Unit))) :=
  (cond (inB t22 (List.length a20))
  (((rational_Mul (((List.getD a20 ((0 + t22.toNat)) ((false, (([] : List Int), ())), ((false, (([] : List Int), ())), ()))).1.1, ((List.getD a20 ((0 + t22.toNat)) ((false, (([] : List Int), ())), ((false, (([] : List Int), ())), ()))).1.2.1, ())), (((List.getD a20 ((0 + t22.toNat)) ((false, (([] : List Int), ())), ((false, (([] : List Int), ())), ()))).2.1.1, ((List.getD a20 ((0 + t22.toNat)) ((false, (([] : List Int), ())), ((false, (([] : List Int), ())), ()))).2.1.2.1, ())), ())) ((b3_0, (b3_1, ())), ((b3_2, (b3_3, ())), ()))).bind fun y2 =>
  (cond (decide (List.length a20 + List.length ([y2] : List ((Bool × List Int × Unit) × (Bool × List Int × Unit) × Unit)) ≤ maxL))
  ((some (.inl (t0, t21, (IntKind.wrap .i64 (t22 + (1 : Int))), (a20 ++ ([y2] : List ((Bool × List Int × Unit) × (Bool × List Int × Unit) × Unit))), ((b3_0, (b3_1, ())), ((b3_2, (b3_3, ())), ())), ((b4_0, (b4_1, ())), ((b4_2, (b4_3, ())), ())), ()))))
  none)))
  none)
noncomputable def bernoulli_Poly.s0 (t0 : Int) (t21 : Int) (t22 : Int) (a20 : List ((Bool × List Int × Unit) × (Bool × List Int × Unit) × Unit)) (b3 : (Bool × List Int × Unit) × (Bool × List Int × Unit) × Unit) (b4 : (Bool × List Int × Unit) × (Bool × List Int × Unit) × Unit) : Option ((Int × Int × Int × (List ((Bool × List Int × Unit) × (Bool × List Int × Unit) × Unit)) × ((Bool × List Int × Unit) × (Bool × List Int × Unit) × Unit) × ((Bool × List Int × Unit) × (Bool × List Int × Unit) × Unit) × Unit) ⊕ ((Int × (List ((Bool × List Int × Unit) × (Bool × List Int × Unit) × Unit)) × ((Bool × List Int × Unit) × (Bool × List Int × Unit) × Unit) × Unit))) :=
  (cond ((decide (t22 < t21)))
  ((bernoulli_Poly.j2 t0 t21 t22 b3.1.1 b3.1.2.1 b3.2.1.1 b3.2.1.2.1 b4.1.1 b4.1.2.1 b4.2.1.1 b4.2.1.2.1 a20))
  ((some (.inr (t0, a20, ((b4.1.1, (b4.1.2.1, ())), ((b4.2.1.1, (b4.2.1.2.1, ())), ())), ())))))
noncomputable def bernoulli_Poly.j3 (t0 : Int) (t8 : List ((Bool × List Int × Unit) × (Bool × List Int × Unit) × Unit)) (t39 : List Int) (t40 : Int) (t41 : Int) (b4_0 : Bool) (b4_1 : List Int) (b4_2 : Bool) (b4_3 : List Int) (a20 : List ((Bool × List Int × Unit) × (Bool × List Int × Unit) × Unit)) (b9_0 : Bool) (b9_1 : List Int) (b9_2 : Bool) (b9_3 : List Int) : Option ((Int × (List ((Bool × List Int × Unit) × (Bool × List Int × Unit) × Unit)) × List Int × Int × Int × (List ((Bool × List Int × Unit) × (Bool × List Int × Unit) × Unit)) × ((Bool × List Int × Unit) × (Bool × List Int × Unit) × Unit) × ((Bool × List Int × Unit) × (Bool × List Int × Unit) × Unit) × Unit) ⊕ ((((Bool × List Int × Unit) × (Bool × List Int × Unit) × Unit) × ((Bool × List Int × Unit) × (Bool × List Int × Unit) × Unit) × Unit))) :=
  (cond (inB t41 (List.length t39))
  (((bernoulli_whole (List.getD t39 (t41.toNat) (0 : Int))).bind fun y7 =>
  (cond (inB t41 (List.length t8))
  ((cond (inB (IntKind.wrap .i64 (t0 - t41)) (List.length a20))
  (((rational_Mul (((List.getD t8 (t41.toNat) ((false, (([] : List Int), ())), ((false, (([] : List Int), ())), ()))).1.1, ((List.getD t8 (t41.toNat) ((false, (([] : List Int), ())), ((false, (([] : List Int), ())), ()))).1.2.1, ())), (((List.getD t8 (t41.toNat) ((false, (([] : List Int), ())), ((false, (([] : List Int), ())), ()))).2.1.1, ((List.getD t8 (t41.toNat) ((false, (([] : List Int), ())), ((false, (([] : List Int), ())), ()))).2.1.2.1, ())), ())) (((List.getD a20 ((0 + (((IntKind.wrap .i64 (t0 - t41))).toNat))) ((false, (([] : List Int), ())), ((false, (([] : List Int), ())), ()))).1.1, ((List.getD a20 ((0 + (((IntKind.wrap .i64 (t0 - t41))).toNat))) ((false, (([] : List Int), ())), ((false, (([] : List Int), ())), ()))).1.2.1, ())), (((List.getD a20 ((0 + (((IntKind.wrap .i64 (t0 - t41))).toNat))) ((false, (([] : List Int), ())), ((false, (([] : List Int), ())), ()))).2.1.1, ((List.getD a20 ((0 + (((IntKind.wrap .i64 (t0 - t41))).toNat))) ((false, (([] : List Int), ())), ((false, (([] : List Int), ())), ()))).2.1.2.1, ())), ()))).bind fun y8 =>
  ((rational_Mul y7 y8).bind fun y9 =>
  ((rational_Add ((b9_0, (b9_1, ())), ((b9_2, (b9_3, ())), ())) y9).bind fun y10 =>
  (some (.inl (t0, t8, t39, t40, (IntKind.wrap .i64 (t41 + (1 : Int))), a20, ((b4_0, (b4_1, ())), ((b4_2, (b4_3, ())), ())), ((y10.1.1, (y10.1.2.1, ())), ((y10.2.1.1, (y10.2.1.2.1, ())), ())), ())))))))
  none))
  none)))
  none)
noncomputable def bernoulli_Poly.s1 (t0 : Int) (t8 : List ((Bool × List Int × Unit) × (Bool × List Int × Unit) × Unit)) (t39 : List Int) (t40 : Int) (t41 : Int) (a20 : List ((Bool × List Int × Unit) × (Bool × List Int × Unit) × Unit)) (b4 : (Bool × List Int × Unit) × (Bool × List Int × Unit) × Unit) (b9 : (Bool × List Int × Unit) × (Bool × List Int × Unit) × Unit) : Option ((Int × (List ((Bool × List Int × Unit) × (Bool × List Int × Unit) × Unit)) × List Int × Int × Int × (List ((Bool × List Int × Unit) × (Bool × List Int × Unit) × Unit)) × ((Bool × List Int × Unit) × (Bool × List Int × Unit) × Unit) × ((Bool × List Int × Unit) × (Bool × List Int × Unit) × Unit) × Unit) ⊕ ((((Bool × List Int × Unit) × (Bool × List Int × Unit) × Unit) × ((Bool × List Int × Unit) × (Bool × List Int × Unit) × Unit) × Unit))) :=
  (cond ((decide (t41 < t40)))
  ((bernoulli_Poly.j3 t0 t8 t39 t40 t41 b4.1.1 b4.1.2.1 b4.2.1.1 b4.2.1.2.1 a20 b9.1.1 b9.1.2.1 b9.2.1.1 b9.2.1.2.1))
  ((some (.inr (((b4.1.1, (b4.1.2.1, ())), ((b4.2.1.1, (b4.2.1.2.1, ())), ())), ((b9.1.1, (b9.1.2.1, ())), ((b9.2.1.1, (b9.2.1.2.1, ())), ())), ())))))
noncomputable def bernoulli_Poly.k1 (b4 : (Bool × List Int × Unit) × (Bool × List Int × Unit) × Unit) (b9 : (Bool × List Int × Unit) × (Bool × List Int × Unit) × Unit) : Option (((Bool × List Int × Unit) × (Bool × List Int × Unit) × Unit) × Int × Unit) :=
  (some (((b9.1.1, (b9.1.2.1, ())), ((b9.2.1.1, (b9.2.1.2.1, ())), ())), ((0 : Int), ())))
noncomputable def bernoulli_Poly.k0 (t0 : Int) (a20 : List ((Bool × List Int × Unit) × (Bool × List Int × Unit) × Unit)) (b4 : (Bool × List Int × Unit) × (Bool × List Int × Unit) × Unit) : Option (((Bool × List Int × Unit) × (Bool × List Int × Unit) × Unit) × Int × Unit) :=
  ((bernoulli_numbers t0).bind fun y4 =>
  ((bernoulli_whole (0 : Int)).bind fun y5 =>
  ((bernoulli_row t0).bind fun y6 =>
  ((iterL (fun x : Int × (List ((Bool × List Int × Unit) × (Bool × List Int × Unit) × Unit)) × List Int × Int × Int × (List ((Bool × List Int × Unit) × (Bool × List Int × Unit) × Unit)) × ((Bool × List Int × Unit) × (Bool × List Int × Unit) × Unit) × ((Bool × List Int × Unit) × (Bool × List Int × Unit) × Unit) × Unit => bernoulli_Poly.s1 x.1 x.2.1 x.2.2.1 x.2.2.2.1 x.2.2.2.2.1 x.2.2.2.2.2.1 x.2.2.2.2.2.2.1 x.2.2.2.2.2.2.2.1) (t0, y4, y6, ((List.length y6 : Nat) : Int), (0 : Int), a20, ((b4.1.1, (b4.1.2.1, ())), ((b4.2.1.1, (b4.2.1.2.1, ())), ())), ((y5.1.1, (y5.1.2.1, ())), ((y5.2.1.1, (y5.2.1.2.1, ())), ())), ())).bind fun y => bernoulli_Poly.k1 y.1 y.2.1))))
noncomputable def bernoulli_Poly.j1 (t0 : Int) (b3_0 : Bool) (b3_1 : List Int) (b3_2 : Bool) (b3_3 : List Int) (b4_1 : List Int) (b4_3 : List Int) : Option (((Bool × List Int × Unit) × (Bool × List Int × Unit) × Unit) × Int × Unit) :=
  ((bernoulli_whole (1 : Int)).bind fun y1 =>
  ((iterL (fun x : Int × Int × Int × (List ((Bool × List Int × Unit) × (Bool × List Int × Unit) × Unit)) × ((Bool × List Int × Unit) × (Bool × List Int × Unit) × Unit) × ((Bool × List Int × Unit) × (Bool × List Int × Unit) × Unit) × Unit => bernoulli_Poly.s0 x.1 x.2.1 x.2.2.1 x.2.2.2.1 x.2.2.2.2.1 x.2.2.2.2.2.1) (t0, t0, (0 : Int), ([y1] : List ((Bool × List Int × Unit) × (Bool × List Int × Unit) × Unit)), ((b3_0, (b3_1, ())), ((b3_2, (b3_3, ())), ())), ((false, (b4_1, ())), ((false, (b4_3, ())), ())), ())).bind fun y => bernoulli_Poly.k0 y.1 y.2.1 y.2.2.1))
noncomputable def bernoulli_Poly (t0 : Int) (t1 : (Bool × List Int × Unit) × (Bool × List Int × Unit) × Unit) : Option (((Bool × List Int × Unit) × (Bool × List Int × Unit) × Unit) × Int × Unit) :=
  (cond ((decide (t0 < (0 : Int))))
  ((some (((false, (([] : List Int), ())), ((false, (([] : List Int), ())), ())), ((1 : Int), ()))))
  ((cond ((decide (t0 > (20 : Int))))
  ((some (((false, (([] : List Int), ())), ((false, (([] : List Int), ())), ())), ((1 : Int), ()))))
  ((bernoulli_Poly.j1 t0 t1.1.1 t1.1.2.1 t1.2.1.1 t1.2.1.2.1 ([] : List Int) ([] : List Int))))))
noncomputable def bernoulli_Poly.en : En := ⟨30, [.int .i64, .pair (.pair (.bool) (.pair (.sl (.int .u32)) (.unit))) (.pair (.pair (.bool) (.pair (.sl (.int .u32)) (.unit))) (.unit))], .pair (.pair (.pair (.bool) (.pair (.sl (.int .u32)) (.unit))) (.pair (.pair (.bool) (.pair (.sl (.int .u32)) (.unit))) (.unit))) (.pair (.int .i64) (.unit)), true, fun x => bernoulli_Poly x.1 x.2.1⟩
noncomputable def bernoulli_Poly.o : List En := [bernoulli_numbers.en, bernoulli_whole.en, bernoulli_row.en, rational_Mul.en, rational_Add.en]
noncomputable def bernoulli_Poly.oB : List EnB := []
def bernoulli_Poly.h : HT := .two (.n) (.two (.n) (.two (.fr [] [20]) (.two (.two (.n) (.lp 0)) (.two (.n) (.two (.two (.n) (.lp 1)) (.n))))))
noncomputable def bernoulli_Poly.c : Code := Try.f30.body.getD .skip
def bernoulli_Poly.h0 : HT := .n
noncomputable def bernoulli_Poly.c0 : Code := (find (loops bernoulli_Poly.c bernoulli_Poly.h) 0).getD .skip
def bernoulli_Poly.d0 : Fm := [.v 0 (.int .i64), .v 21 (.int .i64), .v 22 (.int .i64), .arr 20 26 (.pair (.pair (.bool) (.pair (.sl (.int .u32)) (.unit))) (.pair (.pair (.bool) (.pair (.sl (.int .u32)) (.unit))) (.unit))), .box 3 (.pair (.pair (.bool) (.pair (.sl (.int .u32)) (.unit))) (.pair (.pair (.bool) (.pair (.sl (.int .u32)) (.unit))) (.unit))), .box 4 (.pair (.pair (.bool) (.pair (.sl (.int .u32)) (.unit))) (.pair (.pair (.bool) (.pair (.sl (.int .u32)) (.unit))) (.unit))), .own 6 20, .ptr 3 3, .ptr 4 4]
def bernoulli_Poly.x0 : Xs := [(.exit 0, [.v 0 (.int .i64), .arr 20 26 (.pair (.pair (.bool) (.pair (.sl (.int .u32)) (.unit))) (.pair (.pair (.bool) (.pair (.sl (.int .u32)) (.unit))) (.unit))), .box 4 (.pair (.pair (.bool) (.pair (.sl (.int .u32)) (.unit))) (.pair (.pair (.bool) (.pair (.sl (.int .u32)) (.unit))) (.unit))), .own 6 20, .ptr 4 4])]
noncomputable def bernoulli_Poly.r0 (x : (Fm.ty bernoulli_Poly.d0).den) : Option ((Fm.ty bernoulli_Poly.d0).den ⊕ (Xs.T bernoulli_Poly.x0)) := bernoulli_Poly.s0 x.1 x.2.1 x.2.2.1 x.2.2.2.1 x.2.2.2.2.1 x.2.2.2.2.2.1
def bernoulli_Poly.h1 : HT := .n
noncomputable def bernoulli_Poly.c1 : Code := (find (loops bernoulli_Poly.c bernoulli_Poly.h) 1).getD .skip
def bernoulli_Poly.d1 : Fm := [.v 0 (.int .i64), .v 8 (.sl (.pair (.pair (.bool) (.pair (.sl (.int .u32)) (.unit))) (.pair (.pair (.bool) (.pair (.sl (.int .u32)) (.unit))) (.unit)))), .v 39 (.sl (.int .i64)), .v 40 (.int .i64), .v 41 (.int .i64), .arr 20 26 (.pair (.pair (.bool) (.pair (.sl (.int .u32)) (.unit))) (.pair (.pair (.bool) (.pair (.sl (.int .u32)) (.unit))) (.unit))), .box 4 (.pair (.pair (.bool) (.pair (.sl (.int .u32)) (.unit))) (.pair (.pair (.bool) (.pair (.sl (.int .u32)) (.unit))) (.unit))), .box 9 (.pair (.pair (.bool) (.pair (.sl (.int .u32)) (.unit))) (.pair (.pair (.bool) (.pair (.sl (.int .u32)) (.unit))) (.unit))), .own 6 20, .ptr 4 4, .ptr 9 9]
def bernoulli_Poly.x1 : Xs := [(.exit 2, [.box 4 (.pair (.pair (.bool) (.pair (.sl (.int .u32)) (.unit))) (.pair (.pair (.bool) (.pair (.sl (.int .u32)) (.unit))) (.unit))), .box 9 (.pair (.pair (.bool) (.pair (.sl (.int .u32)) (.unit))) (.pair (.pair (.bool) (.pair (.sl (.int .u32)) (.unit))) (.unit))), .ptr 4 4, .ptr 9 9])]
noncomputable def bernoulli_Poly.r1 (x : (Fm.ty bernoulli_Poly.d1).den) : Option ((Fm.ty bernoulli_Poly.d1).den ⊕ (Xs.T bernoulli_Poly.x1)) := bernoulli_Poly.s1 x.1 x.2.1 x.2.2.1 x.2.2.2.1 x.2.2.2.2.1 x.2.2.2.2.2.1 x.2.2.2.2.2.2.1 x.2.2.2.2.2.2.2.1
noncomputable def bernoulli_Poly.L : Lam := fun _ i s K => cond (Nat.beq i 0) (lamK bernoulli_Poly.d0 bernoulli_Poly.x0 bernoulli_Poly.r0 s K) (cond (Nat.beq i 1) (lamK bernoulli_Poly.d1 bernoulli_Poly.x1 bernoulli_Poly.r1 s K) (none))
theorem bernoulli_Poly.hf0 (x) : roundK env (orc bernoulli_Poly.o) (orcB bernoulli_Poly.oB) 64 bernoulli_Poly.L bernoulli_Poly.c0 bernoulli_Poly.h0 bernoulli_Poly.d0 bernoulli_Poly.x0 x = bernoulli_Poly.r0 x := by kernel_rfl
theorem bernoulli_Poly.hf1 (x) : roundK env (orc bernoulli_Poly.o) (orcB bernoulli_Poly.oB) 64 bernoulli_Poly.L bernoulli_Poly.c1 bernoulli_Poly.h1 bernoulli_Poly.d1 bernoulli_Poly.x1 x = bernoulli_Poly.r1 x := by kernel_rfl
theorem bernoulli_Poly.os : AllOk prog bernoulli_Poly.o := ⟨bernoulli_numbers.ok, bernoulli_whole.ok, bernoulli_row.ok, rational_Mul.ok, rational_Add.ok, trivial⟩
theorem bernoulli_Poly.osB : AllBOk prog bernoulli_Poly.oB := trivial
theorem bernoulli_Poly.l0 {C : Ctx} (hC : C.n = 64) : LamAt prog C bernoulli_Poly.L 0 bernoulli_Poly.c0 := by
  intro R s K r hk
  refine loop_ok (D := bernoulli_Poly.d0) (X := bernoulli_Poly.x0) (h := bernoulli_Poly.h0) (f := bernoulli_Poly.r0) tabs (orc_ok _ bernoulli_Poly.os) (orcB_ok _ bernoulli_Poly.osB) (fun x => by rw [hC]; exact bernoulli_Poly.hf0 x) (Λ := bernoulli_Poly.L) ?_ (by kernel_rfl) (by kernel_rfl) (K := K) (s := s) (by exact hk)
  exact by
    have e : loops bernoulli_Poly.c0 bernoulli_Poly.h0 = [] := by kernel_rfl
    rw [e]
    exact LamOk.nil
theorem bernoulli_Poly.l1 {C : Ctx} (hC : C.n = 64) : LamAt prog C bernoulli_Poly.L 1 bernoulli_Poly.c1 := by
  intro R s K r hk
  refine loop_ok (D := bernoulli_Poly.d1) (X := bernoulli_Poly.x1) (h := bernoulli_Poly.h1) (f := bernoulli_Poly.r1) tabs (orc_ok _ bernoulli_Poly.os) (orcB_ok _ bernoulli_Poly.osB) (fun x => by rw [hC]; exact bernoulli_Poly.hf1 x) (Λ := bernoulli_Poly.L) ?_ (by kernel_rfl) (by kernel_rfl) (K := K) (s := s) (by exact hk)
  exact by
    have e : loops bernoulli_Poly.c1 bernoulli_Poly.h1 = [] := by kernel_rfl
    rw [e]
    exact LamOk.nil
theorem bernoulli_Poly.hk (x) : semK env (orc bernoulli_Poly.o) (orcB bernoulli_Poly.oB) 64 (bernoulli_Poly.L _) bernoulli_Poly.c bernoulli_Poly.h (S.init (avs [.int .i64, .pair (.pair (.bool) (.pair (.sl (.int .u32)) (.unit))) (.pair (.pair (.bool) (.pair (.sl (.int .u32)) (.unit))) (.unit))] x)) (fin env Try.f30 ⟨[.int .i64, .pair (.pair (.bool) (.pair (.sl (.int .u32)) (.unit))) (.pair (.pair (.bool) (.pair (.sl (.int .u32)) (.unit))) (.unit))], .pair (.pair (.pair (.bool) (.pair (.sl (.int .u32)) (.unit))) (.pair (.pair (.bool) (.pair (.sl (.int .u32)) (.unit))) (.unit))) (.pair (.int .i64) (.unit)), true, false⟩) = bernoulli_Poly.en.g x := by kernel_rfl
theorem bernoulli_Poly.ok : EnOk prog bernoulli_Poly.en := by
  refine fun_ok (g := ⟨[.int .i64, .pair (.pair (.bool) (.pair (.sl (.int .u32)) (.unit))) (.pair (.pair (.bool) (.pair (.sl (.int .u32)) (.unit))) (.unit))], .pair (.pair (.pair (.bool) (.pair (.sl (.int .u32)) (.unit))) (.pair (.pair (.bool) (.pair (.sl (.int .u32)) (.unit))) (.unit))) (.pair (.int .i64) (.unit)), true, false⟩) (h := bernoulli_Poly.h) (Λ := bernoulli_Poly.L) tabs bernoulli_Poly.os bernoulli_Poly.osB Try.func30 (c := bernoulli_Poly.c) (by kernel_rfl) (by decide +kernel) (by decide +kernel) (fun C hC => ?_) (fun x => bernoulli_Poly.hk x)
  exact by
    have e : loops bernoulli_Poly.c bernoulli_Poly.h = [(0, bernoulli_Poly.c0), (1, bernoulli_Poly.c1)] := by kernel_rfl
    rw [e]
    exact LamOk.cons (bernoulli_Poly.l0 hC) (LamOk.cons (bernoulli_Poly.l1 hC) (LamOk.nil))
noncomputable def quadformref01_Pow.j2 (t1 : Int) (t7 : Int) (b2_0 : Bool) (b2_1 : List Int) (b4_0 : Bool) (b4_1 : List Int) (b6_0 : Bool) (b6_1 : List Int) : Option ((Int × Int × (Bool × List Int × Unit) × (Bool × List Int × Unit) × (Bool × List Int × Unit) × Unit) ⊕ (((Bool × List Int × Unit) × (Bool × List Int × Unit) × Unit))) :=
  ((quadformref01_Mul (b6_0, (b6_1, ())) (b2_0, (b2_1, ()))).bind fun y2 =>
  (some (.inl (t1, (IntKind.wrap .i64 (t7 + (1 : Int))), (b2_0, (b2_1, ())), (b4_0, (b4_1, ())), (y2.1, (y2.2.1, ())), ()))))
noncomputable def quadformref01_Pow.s0 (t1 : Int) (t7 : Int) (b2 : Bool × List Int × Unit) (b4 : Bool × List Int × Unit) (b6 : Bool × List Int × Unit) : Option ((Int × Int × (Bool × List Int × Unit) × (Bool × List Int × Unit) × (Bool × List Int × Unit) × Unit) ⊕ (((Bool × List Int × Unit) × (Bool × List Int × Unit) × Unit))) :=
  (cond ((decide (t7 < t1)))
  ((quadformref01_Pow.j2 t1 t7 b2.1 b2.2.1 b4.1 b4.2.1 b6.1 b6.2.1))
  ((some (.inr ((b4.1, (b4.2.1, ())), (b6.1, (b6.2.1, ())), ())))))
noncomputable def quadformref01_Pow.k0 (b4 : Bool × List Int × Unit) (b6 : Bool × List Int × Unit) : Option ((Bool × List Int × Unit) × Bool × Unit) :=
  (some ((b6.1, (b6.2.1, ())), (true, ())))
noncomputable def quadformref01_Pow.j1 (t1 : Int) (b2_0 : Bool) (b2_1 : List Int) (b4_1 : List Int) : Option ((Bool × List Int × Unit) × Bool × Unit) :=
  ((quadformref01_Small (1 : Int)).bind fun y1 =>
  ((iterL (fun x : Int × Int × (Bool × List Int × Unit) × (Bool × List Int × Unit) × (Bool × List Int × Unit) × Unit => quadformref01_Pow.s0 x.1 x.2.1 x.2.2.1 x.2.2.2.1 x.2.2.2.2.1) (t1, (0 : Int), (b2_0, (b2_1, ())), (false, (b4_1, ())), (y1.1, (y1.2.1, ())), ())).bind fun y => quadformref01_Pow.k0 y.1 y.2.1))
noncomputable def quadformref01_Pow (t0 : Bool × List Int × Unit) (t1 : Int) : Option ((Bool × List Int × Unit) × Bool × Unit) :=
  (cond ((decide (t1 < (0 : Int))))
  ((some ((false, (([] : List Int), ())), (false, ()))))
  ((cond ((decide (t1 > (64 : Int))))
  ((some ((false, (([] : List Int), ())), (false, ()))))
  ((quadformref01_Pow.j1 t1 t0.1 t0.2.1 ([] : List Int))))))
noncomputable def quadformref01_Pow.en : En := ⟨68, [.pair (.bool) (.pair (.sl (.int .u32)) (.unit)), .int .i64], .pair (.pair (.bool) (.pair (.sl (.int .u32)) (.unit))) (.pair (.bool) (.unit)), true, fun x => quadformref01_Pow x.1 x.2.1⟩
noncomputable def quadformref01_Pow.o : List En := [quadformref01_Small.en, quadformref01_Mul.en]
noncomputable def quadformref01_Pow.oB : List EnB := []
def quadformref01_Pow.h : HT := .two (.n) (.two (.n) (.two (.n) (.two (.two (.n) (.lp 0)) (.n))))
noncomputable def quadformref01_Pow.c : Code := Try.f68.body.getD .skip
def quadformref01_Pow.h0 : HT := .n
noncomputable def quadformref01_Pow.c0 : Code := (find (loops quadformref01_Pow.c quadformref01_Pow.h) 0).getD .skip
def quadformref01_Pow.d0 : Fm := [.v 1 (.int .i64), .v 7 (.int .i64), .box 2 (.pair (.bool) (.pair (.sl (.int .u32)) (.unit))), .box 4 (.pair (.bool) (.pair (.sl (.int .u32)) (.unit))), .box 6 (.pair (.bool) (.pair (.sl (.int .u32)) (.unit))), .ptr 2 2, .ptr 4 4, .ptr 6 6]
def quadformref01_Pow.x0 : Xs := [(.exit 0, [.box 4 (.pair (.bool) (.pair (.sl (.int .u32)) (.unit))), .box 6 (.pair (.bool) (.pair (.sl (.int .u32)) (.unit))), .ptr 4 4, .ptr 6 6])]
noncomputable def quadformref01_Pow.r0 (x : (Fm.ty quadformref01_Pow.d0).den) : Option ((Fm.ty quadformref01_Pow.d0).den ⊕ (Xs.T quadformref01_Pow.x0)) := quadformref01_Pow.s0 x.1 x.2.1 x.2.2.1 x.2.2.2.1 x.2.2.2.2.1
noncomputable def quadformref01_Pow.L : Lam := fun _ i s K => cond (Nat.beq i 0) (lamK quadformref01_Pow.d0 quadformref01_Pow.x0 quadformref01_Pow.r0 s K) (none)
theorem quadformref01_Pow.hf0 (x) : roundK env (orc quadformref01_Pow.o) (orcB quadformref01_Pow.oB) 25 quadformref01_Pow.L quadformref01_Pow.c0 quadformref01_Pow.h0 quadformref01_Pow.d0 quadformref01_Pow.x0 x = quadformref01_Pow.r0 x := by kernel_rfl
theorem quadformref01_Pow.os : AllOk prog quadformref01_Pow.o := ⟨quadformref01_Small.ok, quadformref01_Mul.ok, trivial⟩
theorem quadformref01_Pow.osB : AllBOk prog quadformref01_Pow.oB := trivial
theorem quadformref01_Pow.l0 {C : Ctx} (hC : C.n = 25) : LamAt prog C quadformref01_Pow.L 0 quadformref01_Pow.c0 := by
  intro R s K r hk
  refine loop_ok (D := quadformref01_Pow.d0) (X := quadformref01_Pow.x0) (h := quadformref01_Pow.h0) (f := quadformref01_Pow.r0) tabs (orc_ok _ quadformref01_Pow.os) (orcB_ok _ quadformref01_Pow.osB) (fun x => by rw [hC]; exact quadformref01_Pow.hf0 x) (Λ := quadformref01_Pow.L) ?_ (by kernel_rfl) (by kernel_rfl) (K := K) (s := s) (by exact hk)
  exact by
    have e : loops quadformref01_Pow.c0 quadformref01_Pow.h0 = [] := by kernel_rfl
    rw [e]
    exact LamOk.nil
theorem quadformref01_Pow.hk (x) : semK env (orc quadformref01_Pow.o) (orcB quadformref01_Pow.oB) 25 (quadformref01_Pow.L _) quadformref01_Pow.c quadformref01_Pow.h (S.init (avs [.pair (.bool) (.pair (.sl (.int .u32)) (.unit)), .int .i64] x)) (fin env Try.f68 ⟨[.pair (.bool) (.pair (.sl (.int .u32)) (.unit)), .int .i64], .pair (.pair (.bool) (.pair (.sl (.int .u32)) (.unit))) (.pair (.bool) (.unit)), true, false⟩) = quadformref01_Pow.en.g x := by kernel_rfl
theorem quadformref01_Pow.ok : EnOk prog quadformref01_Pow.en := by
  refine fun_ok (g := ⟨[.pair (.bool) (.pair (.sl (.int .u32)) (.unit)), .int .i64], .pair (.pair (.bool) (.pair (.sl (.int .u32)) (.unit))) (.pair (.bool) (.unit)), true, false⟩) (h := quadformref01_Pow.h) (Λ := quadformref01_Pow.L) tabs quadformref01_Pow.os quadformref01_Pow.osB Try.func68 (c := quadformref01_Pow.c) (by kernel_rfl) (by decide +kernel) (by decide +kernel) (fun C hC => ?_) (fun x => quadformref01_Pow.hk x)
  exact by
    have e : loops quadformref01_Pow.c quadformref01_Pow.h = [(0, quadformref01_Pow.c0)] := by kernel_rfl
    rw [e]
    exact LamOk.cons (quadformref01_Pow.l0 hC) (LamOk.nil)
noncomputable def quadformref02_Pow.j3 (t1 : Int) (b4_1 : List Int) (b4_3 : List Int) (b6_0 : Bool) (b6_1 : List Int) (b6_2 : Bool) (b6_3 : List Int) : Option (((Bool × List Int × Unit) × (Bool × List Int × Unit) × Unit) × Bool × Unit) :=
  ((quadformref01_Pow (b6_0, (b6_1, ())) t1).bind fun y4 =>
  ((quadformref01_Pow (b6_2, (b6_3, ())) t1).bind fun y5 =>
  (some (((y4.1.1, (y4.1.2.1, ())), ((y5.1.1, (y5.1.2.1, ())), ())), (true, ())))))
noncomputable def quadformref02_Pow.j2 (t1 : Int) (b4_1 : List Int) (b4_3 : List Int) (b6_0 : Bool) (b6_1 : List Int) (b6_2 : Bool) (b6_3 : List Int) (b7_0 : Bool) (b7_1 : List Int) (b7_2 : Bool) (b7_3 : List Int) : Option (((Bool × List Int × Unit) × (Bool × List Int × Unit) × Unit) × Bool × Unit) :=
  (quadformref02_Pow.j3 (IntKind.wrap .i64 (0 - t1)) b4_1 b4_3 b7_0 b7_1 b7_2 b7_3)
noncomputable def quadformref02_Pow.j1 (t1 : Int) (b2_0 : Bool) (b2_1 : List Int) (b2_2 : Bool) (b2_3 : List Int) (b4_1 : List Int) (b4_3 : List Int) : Option (((Bool × List Int × Unit) × (Bool × List Int × Unit) × Unit) × Bool × Unit) :=
  ((quadformref02_Normalize ((b2_0, (b2_1, ())), ((b2_2, (b2_3, ())), ()))).bind fun y1 =>
  (cond ((decide (t1 < (0 : Int))))
  (((quadformref02_Small (1 : Int)).bind fun y2 =>
  ((quadformref02_Quo y2 ((y1.1.1, (y1.1.2.1, ())), ((y1.2.1.1, (y1.2.1.2.1, ())), ()))).bind fun y3 =>
  (cond ((!y3.2.1))
  ((some (((false, (([] : List Int), ())), ((false, (([] : List Int), ())), ())), (false, ()))))
  ((quadformref02_Pow.j2 t1 b4_1 b4_3 y1.1.1 y1.1.2.1 y1.2.1.1 y1.2.1.2.1 y3.1.1.1 y3.1.1.2.1 y3.1.2.1.1 y3.1.2.1.2.1))))))
  ((quadformref02_Pow.j3 t1 b4_1 b4_3 y1.1.1 y1.1.2.1 y1.2.1.1 y1.2.1.2.1))))
noncomputable def quadformref02_Pow (t0 : (Bool × List Int × Unit) × (Bool × List Int × Unit) × Unit) (t1 : Int) : Option (((Bool × List Int × Unit) × (Bool × List Int × Unit) × Unit) × Bool × Unit) :=
  (cond ((decide (t1 < (-64 : Int))))
  ((some (((false, (([] : List Int), ())), ((false, (([] : List Int), ())), ())), (false, ()))))
  ((cond ((decide (t1 > (64 : Int))))
  ((some (((false, (([] : List Int), ())), ((false, (([] : List Int), ())), ())), (false, ()))))
  ((quadformref02_Pow.j1 t1 t0.1.1 t0.1.2.1 t0.2.1.1 t0.2.1.2.1 ([] : List Int) ([] : List Int))))))
noncomputable def quadformref02_Pow.en : En := ⟨32, [.pair (.pair (.bool) (.pair (.sl (.int .u32)) (.unit))) (.pair (.pair (.bool) (.pair (.sl (.int .u32)) (.unit))) (.unit)), .int .i64], .pair (.pair (.pair (.bool) (.pair (.sl (.int .u32)) (.unit))) (.pair (.pair (.bool) (.pair (.sl (.int .u32)) (.unit))) (.unit))) (.pair (.bool) (.unit)), true, fun x => quadformref02_Pow x.1 x.2.1⟩
noncomputable def quadformref02_Pow.o : List En := [quadformref02_Small.en, quadformref02_Normalize.en, quadformref02_Quo.en, quadformref01_Pow.en]
noncomputable def quadformref02_Pow.oB : List EnB := []
def quadformref02_Pow.h : HT := .n
noncomputable def quadformref02_Pow.c : Code := Try.f32.body.getD .skip
noncomputable def quadformref02_Pow.L : Lam := fun _ i s K => none
theorem quadformref02_Pow.os : AllOk prog quadformref02_Pow.o := ⟨quadformref02_Small.ok, quadformref02_Normalize.ok, quadformref02_Quo.ok, quadformref01_Pow.ok, trivial⟩
theorem quadformref02_Pow.osB : AllBOk prog quadformref02_Pow.oB := trivial
theorem quadformref02_Pow.hk (x) : semK env (orc quadformref02_Pow.o) (orcB quadformref02_Pow.oB) 53 (quadformref02_Pow.L _) quadformref02_Pow.c quadformref02_Pow.h (S.init (avs [.pair (.pair (.bool) (.pair (.sl (.int .u32)) (.unit))) (.pair (.pair (.bool) (.pair (.sl (.int .u32)) (.unit))) (.unit)), .int .i64] x)) (fin env Try.f32 ⟨[.pair (.pair (.bool) (.pair (.sl (.int .u32)) (.unit))) (.pair (.pair (.bool) (.pair (.sl (.int .u32)) (.unit))) (.unit)), .int .i64], .pair (.pair (.pair (.bool) (.pair (.sl (.int .u32)) (.unit))) (.pair (.pair (.bool) (.pair (.sl (.int .u32)) (.unit))) (.unit))) (.pair (.bool) (.unit)), true, false⟩) = quadformref02_Pow.en.g x := by kernel_rfl
theorem quadformref02_Pow.ok : EnOk prog quadformref02_Pow.en := by
  refine fun_ok (g := ⟨[.pair (.pair (.bool) (.pair (.sl (.int .u32)) (.unit))) (.pair (.pair (.bool) (.pair (.sl (.int .u32)) (.unit))) (.unit)), .int .i64], .pair (.pair (.pair (.bool) (.pair (.sl (.int .u32)) (.unit))) (.pair (.pair (.bool) (.pair (.sl (.int .u32)) (.unit))) (.unit))) (.pair (.bool) (.unit)), true, false⟩) (h := quadformref02_Pow.h) (Λ := quadformref02_Pow.L) tabs quadformref02_Pow.os quadformref02_Pow.osB Try.func32 (c := quadformref02_Pow.c) (by kernel_rfl) (by decide +kernel) (by decide +kernel) (fun C hC => ?_) (fun x => quadformref02_Pow.hk x)
  exact by
    have e : loops quadformref02_Pow.c quadformref02_Pow.h = [] := by kernel_rfl
    rw [e]
    exact LamOk.nil
noncomputable def rational_Sub (t0 : (Bool × List Int × Unit) × (Bool × List Int × Unit) × Unit) (t1 : (Bool × List Int × Unit) × (Bool × List Int × Unit) × Unit) : Option ((Bool × List Int × Unit) × (Bool × List Int × Unit) × Unit) :=
  ((rational_Neg ((t1.1.1, (t1.1.2.1, ())), ((t1.2.1.1, (t1.2.1.2.1, ())), ()))).bind fun y1 =>
  ((rational_Add ((t0.1.1, (t0.1.2.1, ())), ((t0.2.1.1, (t0.2.1.2.1, ())), ())) y1).bind fun y2 =>
  (some ((y2.1.1, (y2.1.2.1, ())), ((y2.2.1.1, (y2.2.1.2.1, ())), ())))))
noncomputable def rational_Sub.en : En := ⟨33, [.pair (.pair (.bool) (.pair (.sl (.int .u32)) (.unit))) (.pair (.pair (.bool) (.pair (.sl (.int .u32)) (.unit))) (.unit)), .pair (.pair (.bool) (.pair (.sl (.int .u32)) (.unit))) (.pair (.pair (.bool) (.pair (.sl (.int .u32)) (.unit))) (.unit))], .pair (.pair (.bool) (.pair (.sl (.int .u32)) (.unit))) (.pair (.pair (.bool) (.pair (.sl (.int .u32)) (.unit))) (.unit)), false, fun x => rational_Sub x.1 x.2.1⟩
noncomputable def rational_Sub.o : List En := [rational_Neg.en, rational_Add.en]
noncomputable def rational_Sub.oB : List EnB := []
def rational_Sub.h : HT := .n
noncomputable def rational_Sub.c : Code := Try.f33.body.getD .skip
noncomputable def rational_Sub.L : Lam := fun _ i s K => none
theorem rational_Sub.os : AllOk prog rational_Sub.o := ⟨rational_Neg.ok, rational_Add.ok, trivial⟩
theorem rational_Sub.osB : AllBOk prog rational_Sub.oB := trivial
theorem rational_Sub.hk (x) : semK env (orc rational_Sub.o) (orcB rational_Sub.oB) 9 (rational_Sub.L _) rational_Sub.c rational_Sub.h (S.init (avs [.pair (.pair (.bool) (.pair (.sl (.int .u32)) (.unit))) (.pair (.pair (.bool) (.pair (.sl (.int .u32)) (.unit))) (.unit)), .pair (.pair (.bool) (.pair (.sl (.int .u32)) (.unit))) (.pair (.pair (.bool) (.pair (.sl (.int .u32)) (.unit))) (.unit))] x)) (fin env Try.f33 ⟨[.pair (.pair (.bool) (.pair (.sl (.int .u32)) (.unit))) (.pair (.pair (.bool) (.pair (.sl (.int .u32)) (.unit))) (.unit)), .pair (.pair (.bool) (.pair (.sl (.int .u32)) (.unit))) (.pair (.pair (.bool) (.pair (.sl (.int .u32)) (.unit))) (.unit))], .pair (.pair (.bool) (.pair (.sl (.int .u32)) (.unit))) (.pair (.pair (.bool) (.pair (.sl (.int .u32)) (.unit))) (.unit)), false, false⟩) = rational_Sub.en.g x := by kernel_rfl
theorem rational_Sub.ok : EnOk prog rational_Sub.en := by
  refine fun_ok (g := ⟨[.pair (.pair (.bool) (.pair (.sl (.int .u32)) (.unit))) (.pair (.pair (.bool) (.pair (.sl (.int .u32)) (.unit))) (.unit)), .pair (.pair (.bool) (.pair (.sl (.int .u32)) (.unit))) (.pair (.pair (.bool) (.pair (.sl (.int .u32)) (.unit))) (.unit))], .pair (.pair (.bool) (.pair (.sl (.int .u32)) (.unit))) (.pair (.pair (.bool) (.pair (.sl (.int .u32)) (.unit))) (.unit)), false, false⟩) (h := rational_Sub.h) (Λ := rational_Sub.L) tabs rational_Sub.os rational_Sub.osB Try.func33 (c := rational_Sub.c) (by kernel_rfl) (by decide +kernel) (by decide +kernel) (fun C hC => ?_) (fun x => rational_Sub.hk x)
  exact by
    have e : loops rational_Sub.c rational_Sub.h = [] := by kernel_rfl
    rw [e]
    exact LamOk.nil
noncomputable def quadformlaw31_BernoulliSteps (t0 : Int) (t1 : Int) (t2 : Int) : Option (Bool) :=
  let x1 := (Int.tmod (IntKind.wrap .i64 t0) (20 : Int))
  ((quadformref31_Ratio (IntKind.wrap .i64 t1) (IntKind.wrap .i64 ((1 : Int) + (IntKind.wrap .i64 t2)))).bind fun y3 =>
  ((quadformref02_Small (1 : Int)).bind fun y4 =>
  ((quadformref02_Add ((y3.1.1, (y3.1.2.1, ())), ((y3.2.1.1, (y3.2.1.2.1, ())), ())) y4).bind fun y5 =>
  ((bernoulli_Poly (IntKind.wrap .i64 ((1 : Int) + x1)) y5).bind fun y6 =>
  ((bernoulli_Poly (IntKind.wrap .i64 ((1 : Int) + x1)) ((y3.1.1, (y3.1.2.1, ())), ((y3.2.1.1, (y3.2.1.2.1, ())), ()))).bind fun y7 =>
  ((quadformref02_Pow ((y3.1.1, (y3.1.2.1, ())), ((y3.2.1.1, (y3.2.1.2.1, ())), ())) (IntKind.wrap .i64 ((IntKind.wrap .i64 ((1 : Int) + x1)) - (1 : Int)))).bind fun y9 =>
  (cond ((y6.2.1 == (0 : Int)))
  ((cond ((y7.2.1 == (0 : Int)))
  (((rational_Sub ((y6.1.1.1, (y6.1.1.2.1, ())), ((y6.1.2.1.1, (y6.1.2.1.2.1, ())), ())) ((y7.1.1.1, (y7.1.1.2.1, ())), ((y7.1.2.1.1, (y7.1.2.1.2.1, ())), ()))).bind fun y10 =>
  ((quadformref02_Small (IntKind.wrap .i64 ((1 : Int) + x1))).bind fun y11 =>
  ((quadformref02_Mul y11 ((y9.1.1.1, (y9.1.1.2.1, ())), ((y9.1.2.1.1, (y9.1.2.1.2.1, ())), ()))).bind fun y12 =>
  ((quadformref02_Cmp y10 y12).bind fun y13 =>
  (cond ((y13 == (0 : Int)))
  (((quadformlaw31_awake).bind fun y14 =>
  (some y14)))
  ((some false))))))))
  ((some false))))
  ((some false)))))))))
noncomputable def quadformlaw31_BernoulliSteps.en : En := ⟨10, [.int .u8, .int .i16, .int .u8], .bool, false, fun x => quadformlaw31_BernoulliSteps x.1 x.2.1 x.2.2.1⟩
noncomputable def quadformlaw31_BernoulliSteps.o : List En := [quadformlaw31_awake.en, quadformref02_Cmp.en, quadformref02_Small.en, quadformref31_Ratio.en, bernoulli_Poly.en, quadformref02_Add.en, quadformref02_Pow.en, rational_Sub.en, quadformref02_Mul.en]
noncomputable def quadformlaw31_BernoulliSteps.oB : List EnB := []
def quadformlaw31_BernoulliSteps.h : HT := .n
noncomputable def quadformlaw31_BernoulliSteps.c : Code := Try.f10.body.getD .skip
noncomputable def quadformlaw31_BernoulliSteps.L : Lam := fun _ i s K => none
theorem quadformlaw31_BernoulliSteps.os : AllOk prog quadformlaw31_BernoulliSteps.o := ⟨quadformlaw31_awake.ok, quadformref02_Cmp.ok, quadformref02_Small.ok, quadformref31_Ratio.ok, bernoulli_Poly.ok, quadformref02_Add.ok, quadformref02_Pow.ok, rational_Sub.ok, quadformref02_Mul.ok, trivial⟩
theorem quadformlaw31_BernoulliSteps.osB : AllBOk prog quadformlaw31_BernoulliSteps.oB := trivial
theorem quadformlaw31_BernoulliSteps.hk (x) : semK env (orc quadformlaw31_BernoulliSteps.o) (orcB quadformlaw31_BernoulliSteps.oB) 66 (quadformlaw31_BernoulliSteps.L _) quadformlaw31_BernoulliSteps.c quadformlaw31_BernoulliSteps.h (S.init (avs [.int .u8, .int .i16, .int .u8] x)) (fin env Try.f10 ⟨[.int .u8, .int .i16, .int .u8], .bool, false, false⟩) = quadformlaw31_BernoulliSteps.en.g x := by kernel_rfl
theorem quadformlaw31_BernoulliSteps.ok : EnOk prog quadformlaw31_BernoulliSteps.en := by
  refine fun_ok (g := ⟨[.int .u8, .int .i16, .int .u8], .bool, false, false⟩) (h := quadformlaw31_BernoulliSteps.h) (Λ := quadformlaw31_BernoulliSteps.L) tabs quadformlaw31_BernoulliSteps.os quadformlaw31_BernoulliSteps.osB Try.func10 (c := quadformlaw31_BernoulliSteps.c) (by kernel_rfl) (by decide +kernel) (by decide +kernel) (fun C hC => ?_) (fun x => quadformlaw31_BernoulliSteps.hk x)
  exact by
    have e : loops quadformlaw31_BernoulliSteps.c quadformlaw31_BernoulliSteps.h = [] := by kernel_rfl
    rw [e]
    exact LamOk.nil
end Go.Proofs.Ytbchgegclgpdhaa.E
