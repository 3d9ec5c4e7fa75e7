/- Functions of the program as functions on values, without fuel, and that the evaluator computes them (printed by gen.py). -/
import Derived.Test.YtcjhbjfkcmncpabT
namespace Go.Proofs.Ytcjhbjfkcmncpab.E
open Go
set_option linter.unusedVariables false
set_option maxRecDepth 100000
noncomputable def quadformlaw22_long (t0 : Bool × List Int × Unit) : Option (Bool) :=
  (some (decide (((List.length t0.2.1 : Nat) : Int) > (20 : Int))))
noncomputable def quadformlaw22_long.en : En := ⟨6, [.pair (.bool) (.pair (.sl (.int .u32)) (.unit))], .bool, false, fun x => quadformlaw22_long x.1⟩
noncomputable def quadformlaw22_long.o : List En := []
noncomputable def quadformlaw22_long.oB : List EnB := []
def quadformlaw22_long.h : HT := .n
noncomputable def quadformlaw22_long.c : Code := Try.f6.body.getD .skip
noncomputable def quadformlaw22_long.L : Lam := fun _ i s K => none
theorem quadformlaw22_long.os : AllOk prog quadformlaw22_long.o := trivial
theorem quadformlaw22_long.osB : AllBOk prog quadformlaw22_long.oB := trivial
theorem quadformlaw22_long.hk (x) : semK env (orc quadformlaw22_long.o) (orcB quadformlaw22_long.oB) 7 (quadformlaw22_long.L _) quadformlaw22_long.c quadformlaw22_long.h (S.init (avs [.pair (.bool) (.pair (.sl (.int .u32)) (.unit))] x)) (fin env Try.f6 ⟨[.pair (.bool) (.pair (.sl (.int .u32)) (.unit))], .bool, false, false⟩) = quadformlaw22_long.en.g x := by kernel_rfl
theorem quadformlaw22_long.ok : EnOk prog quadformlaw22_long.en := by
  refine fun_ok (g := ⟨[.pair (.bool) (.pair (.sl (.int .u32)) (.unit))], .bool, false, false⟩) (h := quadformlaw22_long.h) (Λ := quadformlaw22_long.L) tabs quadformlaw22_long.os quadformlaw22_long.osB Try.func6 (c := quadformlaw22_long.c) (by kernel_rfl) (by decide +kernel) (by decide +kernel) (fun C hC => ?_) (fun x => quadformlaw22_long.hk x)
  exact by
    have e : loops quadformlaw22_long.c quadformlaw22_long.h = [] := by kernel_rfl
    rw [e]
    exact LamOk.nil
noncomputable def prime_Factor.j4 (t0 : Int) (t5 : Int) (a26 : List (Int × Int × Unit)) : Option ((Int × Int × (List (Int × Int × Unit)) × Unit) ⊕ (((List (Int × Int × Unit)) × Unit) ⊕ (Int × Int × (List (Int × Int × Unit)) × Unit))) :=
  (some (.inl (t0, (IntKind.wrap .i64 (t5 + (1 : Int))), a26, ())))
noncomputable def prime_Factor.j3 (t0 : Int) (t5 : Int) (a26 : List (Int × Int × Unit)) : Option ((Int × Int × (List (Int × Int × Unit)) × Unit) ⊕ (((List (Int × Int × Unit)) × Unit) ⊕ (Int × Int × (List (Int × Int × Unit)) × Unit))) :=
  (cond (decide (t5 = 0))
  none
  ((cond (((Int.tmod t0 t5) == (0 : Int)))
  ((some (.inr (.inr (t0, t5, a26, ())))))
  ((prime_Factor.j4 t0 t5 a26)))))
noncomputable def prime_Factor.s0 (t0 : Int) (t5 : Int) (a26 : List (Int × Int × Unit)) : Option ((Int × Int × (List (Int × Int × Unit)) × Unit) ⊕ (((List (Int × Int × Unit)) × Unit) ⊕ (Int × Int × (List (Int × Int × Unit)) × Unit))) :=
  (cond ((decide ((IntKind.wrap .i64 (t5 * t5)) > t0)))
  ((cond (decide (List.length a26 + List.length ([(t0, ((1 : Int), ()))] : List (Int × Int × Unit)) ≤ maxL))
  ((some (.inr (.inl ((a26 ++ ([(t0, ((1 : Int), ()))] : List (Int × Int × Unit))), ())))))
  none))
  ((prime_Factor.j3 t0 t5 a26)))
noncomputable def prime_Factor.k0_0 (a26 : List (Int × Int × Unit)) : Option ((Int × Int × (List (Int × Int × Unit)) × Unit) ⊕ (((List (Int × Int × Unit)) × Unit))) :=
  (some (.inr (a26, ())))
noncomputable def prime_Factor.j5 (t0 : Int) (t5 : Int) (t6 : Int) (a26 : List (Int × Int × Unit)) : Option ((Int × Int × Int × (List (Int × Int × Unit)) × Unit) ⊕ ((Int × Int × Int × (List (Int × Int × Unit)) × Unit))) :=
  (cond (decide (t5 = 0))
  none
  ((some (.inl ((IntKind.wrap .i64 (Int.tdiv t0 t5)), t5, (IntKind.wrap .i64 (t6 + (1 : Int))), a26, ())))))
noncomputable def prime_Factor.s1 (t0 : Int) (t5 : Int) (t6 : Int) (a26 : List (Int × Int × Unit)) : Option ((Int × Int × Int × (List (Int × Int × Unit)) × Unit) ⊕ ((Int × Int × Int × (List (Int × Int × Unit)) × Unit))) :=
  (cond (decide (t5 = 0))
  none
  ((cond (((Int.tmod t0 t5) == (0 : Int)))
  ((prime_Factor.j5 t0 t5 t6 a26))
  ((some (.inr (t0, t5, t6, a26, ())))))))
noncomputable def prime_Factor.k1 (t0 : Int) (t5 : Int) (t6 : Int) (a26 : List (Int × Int × Unit)) : Option ((Int × Int × (List (Int × Int × Unit)) × Unit) ⊕ (((List (Int × Int × Unit)) × Unit))) :=
  (cond (decide (List.length a26 + List.length ([(t5, (t6, ()))] : List (Int × Int × Unit)) ≤ maxL))
  ((some (.inl (t0, t5, (a26 ++ ([(t5, (t6, ()))] : List (Int × Int × Unit))), ()))))
  none)
noncomputable def prime_Factor.k0_1 (t0 : Int) (t5 : Int) (a26 : List (Int × Int × Unit)) : Option ((Int × Int × (List (Int × Int × Unit)) × Unit) ⊕ (((List (Int × Int × Unit)) × Unit))) :=
  ((iterL (fun x : Int × Int × Int × (List (Int × Int × Unit)) × Unit => prime_Factor.s1 x.1 x.2.1 x.2.2.1 x.2.2.2.1) (t0, t5, (0 : Int), a26, ())).bind fun y => prime_Factor.k1 y.1 y.2.1 y.2.2.1 y.2.2.2.1)
noncomputable def prime_Factor.j2 (t0 : Int) (t5 : Int) (a26 : List (Int × Int × Unit)) : Option ((Int × Int × (List (Int × Int × Unit)) × Unit) ⊕ (((List (Int × Int × Unit)) × Unit))) :=
  ((iterL (fun x : Int × Int × (List (Int × Int × Unit)) × Unit => prime_Factor.s0 x.1 x.2.1 x.2.2.1) (t0, t5, a26, ())).bind fun z => Sum.casesOn z (fun y => prime_Factor.k0_0 y.1) (fun z => prime_Factor.k0_1 z.1 z.2.1 z.2.2.1))
noncomputable def prime_Factor.s2 (t0 : Int) (t5 : Int) (a26 : List (Int × Int × Unit)) : Option ((Int × Int × (List (Int × Int × Unit)) × Unit) ⊕ (((List (Int × Int × Unit)) × Unit))) :=
  (cond ((decide (t0 > (1 : Int))))
  ((prime_Factor.j2 t0 t5 a26))
  ((some (.inr (a26, ())))))
noncomputable def prime_Factor.k2 (a26 : List (Int × Int × Unit)) : Option ((List (Int × Int × Unit)) × Int × Unit) :=
  (some (a26, ((0 : Int), ())))
noncomputable def prime_Factor.j1 (t0 : Int) : Option ((List (Int × Int × Unit)) × Int × Unit) :=
  ((iterL (fun x : Int × Int × (List (Int × Int × Unit)) × Unit => prime_Factor.s2 x.1 x.2.1 x.2.2.1) (t0, (2 : Int), ([] : List (Int × Int × Unit)), ())).bind fun y => prime_Factor.k2 y.1)
noncomputable def prime_Factor (t0 : Int) : Option ((List (Int × Int × Unit)) × Int × Unit) :=
  (cond ((decide (t0 < (1 : Int))))
  ((some (([] : List (Int × Int × Unit)), ((1 : Int), ()))))
  ((cond ((decide (t0 > (2147483647 : Int))))
  ((some (([] : List (Int × Int × Unit)), ((1 : Int), ()))))
  ((prime_Factor.j1 t0)))))
noncomputable def prime_Factor.en : En := ⟨19, [.int .i64], .pair (.sl (.pair (.int .i64) (.pair (.int .i64) (.unit)))) (.pair (.int .i64) (.unit)), true, fun x => prime_Factor x.1⟩
noncomputable def prime_Factor.o : List En := []
noncomputable def prime_Factor.oB : List EnB := []
def prime_Factor.h : HT := .two (.n) (.two (.n) (.two (.n) (.two (.n) (.two (.n) (.two (.lp 2) (.n))))))
noncomputable def prime_Factor.c : Code := Try.f19.body.getD .skip
def prime_Factor.h2 : HT := .two (.n) (.two (.lp 0) (.two (.n) (.two (.lp 1) (.n))))
noncomputable def prime_Factor.c2 : Code := (find (loops prime_Factor.c prime_Factor.h) 2).getD .skip
def prime_Factor.d2 : Fm := [.v 0 (.int .i64), .v 5 (.int .i64), .arr 26 51 (.pair (.int .i64) (.pair (.int .i64) (.unit))), .own 4 26]
def prime_Factor.x2 : Xs := [(.exit 0, [.arr 26 51 (.pair (.int .i64) (.pair (.int .i64) (.unit))), .own 4 26])]
noncomputable def prime_Factor.r2 (x : (Fm.ty prime_Factor.d2).den) : Option ((Fm.ty prime_Factor.d2).den ⊕ (Xs.T prime_Factor.x2)) := prime_Factor.s2 x.1 x.2.1 x.2.2.1
def prime_Factor.h0 : HT := .n
noncomputable def prime_Factor.c0 : Code := (find (loops prime_Factor.c2 prime_Factor.h2) 0).getD .skip
def prime_Factor.d0 : Fm := [.v 0 (.int .i64), .v 5 (.int .i64), .arr 26 51 (.pair (.int .i64) (.pair (.int .i64) (.unit))), .own 4 26]
def prime_Factor.x0 : Xs := [(.exit 0, [.arr 26 51 (.pair (.int .i64) (.pair (.int .i64) (.unit))), .own 4 26]), (.exit 2, [.v 0 (.int .i64), .v 5 (.int .i64), .arr 26 51 (.pair (.int .i64) (.pair (.int .i64) (.unit))), .own 4 26])]
noncomputable def prime_Factor.r0 (x : (Fm.ty prime_Factor.d0).den) : Option ((Fm.ty prime_Factor.d0).den ⊕ (Xs.T prime_Factor.x0)) := prime_Factor.s0 x.1 x.2.1 x.2.2.1
def prime_Factor.h1 : HT := .n
noncomputable def prime_Factor.c1 : Code := (find (loops prime_Factor.c2 prime_Factor.h2) 1).getD .skip
def prime_Factor.d1 : Fm := [.v 0 (.int .i64), .v 5 (.int .i64), .v 6 (.int .i64), .arr 26 51 (.pair (.int .i64) (.pair (.int .i64) (.unit))), .own 4 26]
def prime_Factor.x1 : Xs := [(.exit 4, [.v 0 (.int .i64), .v 5 (.int .i64), .v 6 (.int .i64), .arr 26 51 (.pair (.int .i64) (.pair (.int .i64) (.unit))), .own 4 26])]
noncomputable def prime_Factor.r1 (x : (Fm.ty prime_Factor.d1).den) : Option ((Fm.ty prime_Factor.d1).den ⊕ (Xs.T prime_Factor.x1)) := prime_Factor.s1 x.1 x.2.1 x.2.2.1 x.2.2.2.1
noncomputable def prime_Factor.L : Lam := fun _ i s K => cond (Nat.beq i 0) (lamK prime_Factor.d0 prime_Factor.x0 prime_Factor.r0 s K) (cond (Nat.beq i 1) (lamK prime_Factor.d1 prime_Factor.x1 prime_Factor.r1 s K) (cond (Nat.beq i 2) (lamK prime_Factor.d2 prime_Factor.x2 prime_Factor.r2 s K) (none)))
theorem prime_Factor.hf0 (x) : roundK env (orc prime_Factor.o) (orcB prime_Factor.oB) 47 prime_Factor.L prime_Factor.c0 prime_Factor.h0 prime_Factor.d0 prime_Factor.x0 x = prime_Factor.r0 x := by kernel_rfl
theorem prime_Factor.hf1 (x) : roundK env (orc prime_Factor.o) (orcB prime_Factor.oB) 47 prime_Factor.L prime_Factor.c1 prime_Factor.h1 prime_Factor.d1 prime_Factor.x1 x = prime_Factor.r1 x := by kernel_rfl
theorem prime_Factor.hf2 (x) : roundK env (orc prime_Factor.o) (orcB prime_Factor.oB) 47 prime_Factor.L prime_Factor.c2 prime_Factor.h2 prime_Factor.d2 prime_Factor.x2 x = prime_Factor.r2 x := by kernel_rfl
theorem prime_Factor.os : AllOk prog prime_Factor.o := trivial
theorem prime_Factor.osB : AllBOk prog prime_Factor.oB := trivial
theorem prime_Factor.l0 {C : Ctx} (hC : C.n = 47) : LamAt prog C prime_Factor.L 0 prime_Factor.c0 := by
  intro R s K r hk
  refine loop_ok (D := prime_Factor.d0) (X := prime_Factor.x0) (h := prime_Factor.h0) (f := prime_Factor.r0) tabs (orc_ok _ prime_Factor.os) (orcB_ok _ prime_Factor.osB) (fun x => by rw [hC]; exact prime_Factor.hf0 x) (Λ := prime_Factor.L) ?_ (by kernel_rfl) (by kernel_rfl) (K := K) (s := s) (by exact hk)
  exact by
    have e : loops prime_Factor.c0 prime_Factor.h0 = [] := by kernel_rfl
    rw [e]
    exact LamOk.nil
theorem prime_Factor.l1 {C : Ctx} (hC : C.n = 47) : LamAt prog C prime_Factor.L 1 prime_Factor.c1 := by
  intro R s K r hk
  refine loop_ok (D := prime_Factor.d1) (X := prime_Factor.x1) (h := prime_Factor.h1) (f := prime_Factor.r1) tabs (orc_ok _ prime_Factor.os) (orcB_ok _ prime_Factor.osB) (fun x => by rw [hC]; exact prime_Factor.hf1 x) (Λ := prime_Factor.L) ?_ (by kernel_rfl) (by kernel_rfl) (K := K) (s := s) (by exact hk)
  exact by
    have e : loops prime_Factor.c1 prime_Factor.h1 = [] := by kernel_rfl
    rw [e]
    exact LamOk.nil
theorem prime_Factor.l2 {C : Ctx} (hC : C.n = 47) : LamAt prog C prime_Factor.L 2 prime_Factor.c2 := by
  intro R s K r hk
  refine loop_ok (D := prime_Factor.d2) (X := prime_Factor.x2) (h := prime_Factor.h2) (f := prime_Factor.r2) tabs (orc_ok _ prime_Factor.os) (orcB_ok _ prime_Factor.osB) (fun x => by rw [hC]; exact prime_Factor.hf2 x) (Λ := prime_Factor.L) ?_ (by kernel_rfl) (by kernel_rfl) (K := K) (s := s) (by exact hk)
  exact by
    have e : loops prime_Factor.c2 prime_Factor.h2 = [(0, prime_Factor.c0), (1, prime_Factor.c1)] := by kernel_rfl
    rw [e]
    exact LamOk.cons (prime_Factor.l0 hC) (LamOk.cons (prime_Factor.l1 hC) (LamOk.nil))
theorem prime_Factor.hk (x) : semK env (orc prime_Factor.o) (orcB prime_Factor.oB) 47 (prime_Factor.L _) prime_Factor.c prime_Factor.h (S.init (avs [.int .i64] x)) (fin env Try.f19 ⟨[.int .i64], .pair (.sl (.pair (.int .i64) (.pair (.int .i64) (.unit)))) (.pair (.int .i64) (.unit)), true, false⟩) = prime_Factor.en.g x := by kernel_rfl
theorem prime_Factor.ok : EnOk prog prime_Factor.en := by
  refine fun_ok (g := ⟨[.int .i64], .pair (.sl (.pair (.int .i64) (.pair (.int .i64) (.unit)))) (.pair (.int .i64) (.unit)), true, false⟩) (h := prime_Factor.h) (Λ := prime_Factor.L) tabs prime_Factor.os prime_Factor.osB Try.func19 (c := prime_Factor.c) (by kernel_rfl) (by decide +kernel) (by decide +kernel) (fun C hC => ?_) (fun x => prime_Factor.hk x)
  exact by
    have e : loops prime_Factor.c prime_Factor.h = [(2, prime_Factor.c2)] := by kernel_rfl
    rw [e]
    exact LamOk.cons (prime_Factor.l2 hC) (LamOk.nil)
noncomputable def prime_residue.j1 (t5 : Int) : Option (Int) :=
  (some t5)
noncomputable def prime_residue (t0 : Int) (t1 : Int) : Option (Int) :=
  (cond (decide (t1 = 0))
  none
  ((cond ((decide ((Int.tmod t0 t1) < (0 : Int))))
  ((prime_residue.j1 (IntKind.wrap .i64 ((Int.tmod t0 t1) + t1))))
  ((prime_residue.j1 (Int.tmod t0 t1))))))
noncomputable def prime_residue.en : En := ⟨38, [.int .i64, .int .i64], .int .i64, false, fun x => prime_residue x.1 x.2.1⟩
noncomputable def prime_residue.o : List En := []
noncomputable def prime_residue.oB : List EnB := []
def prime_residue.h : HT := .n
noncomputable def prime_residue.c : Code := Try.f38.body.getD .skip
noncomputable def prime_residue.L : Lam := fun _ i s K => none
theorem prime_residue.os : AllOk prog prime_residue.o := trivial
theorem prime_residue.osB : AllBOk prog prime_residue.oB := trivial
theorem prime_residue.hk (x) : semK env (orc prime_residue.o) (orcB prime_residue.oB) 15 (prime_residue.L _) prime_residue.c prime_residue.h (S.init (avs [.int .i64, .int .i64] x)) (fin env Try.f38 ⟨[.int .i64, .int .i64], .int .i64, false, false⟩) = prime_residue.en.g x := by kernel_rfl
theorem prime_residue.ok : EnOk prog prime_residue.en := by
  refine fun_ok (g := ⟨[.int .i64, .int .i64], .int .i64, false, false⟩) (h := prime_residue.h) (Λ := prime_residue.L) tabs prime_residue.os prime_residue.osB Try.func38 (c := prime_residue.c) (by kernel_rfl) (by decide +kernel) (by decide +kernel) (fun C hC => ?_) (fun x => prime_residue.hk x)
  exact by
    have e : loops prime_residue.c prime_residue.h = [] := by kernel_rfl
    rw [e]
    exact LamOk.nil
noncomputable def prime_symbol.j4  : Option (Int) :=
  (some (0 : Int))
noncomputable def prime_symbol.j3  : Option (Int) :=
  (prime_symbol.j4)
noncomputable def prime_symbol.j2 (t14 : Bool) : Option (Int) :=
  (cond (t14)
  ((some (-1 : Int)))
  ((prime_symbol.j3)))
noncomputable def prime_symbol.j1 (t10 : Int) (t11 : Bool) : Option (Int) :=
  (cond (t11)
  ((some (1 : Int)))
  ((cond ((t10 == (3 : Int)))
  ((prime_symbol.j2 (t10 == (3 : Int))))
  ((prime_symbol.j2 (t10 == (5 : Int)))))))
noncomputable def prime_symbol.j8 (t0 : Int) (t1 : Int) (t5 : Int) (t6 : Int) : Option ((Int × Int × Int × Int × Unit) ⊕ ((Int × Unit))) :=
  (cond (decide (t1 = 0))
  none
  ((some (.inl ((Int.tmod (IntKind.wrap .i64 (t0 * t0)) t1), t1, t5, (IntKind.wrap .i64 (Int.tdiv t6 (2 : Int))), ())))))
noncomputable def prime_symbol.j7 (t0 : Int) (t1 : Int) (t5 : Int) (t6 : Int) : Option ((Int × Int × Int × Int × Unit) ⊕ ((Int × Unit))) :=
  (cond (((Int.tmod t6 (2 : Int)) == (1 : Int)))
  ((cond (decide (t1 = 0))
  none
  ((prime_symbol.j8 t0 t1 (Int.tmod (IntKind.wrap .i64 (t5 * t0)) t1) t6))))
  ((prime_symbol.j8 t0 t1 t5 t6)))
noncomputable def prime_symbol.s0 (t0 : Int) (t1 : Int) (t5 : Int) (t6 : Int) : Option ((Int × Int × Int × Int × Unit) ⊕ ((Int × Unit))) :=
  (cond ((decide (t6 > (0 : Int))))
  ((prime_symbol.j7 t0 t1 t5 t6))
  ((some (.inr (t5, ())))))
noncomputable def prime_symbol.j9  : Option (Int) :=
  (some (-1 : Int))
noncomputable def prime_symbol.k0 (t5 : Int) : Option (Int) :=
  (cond ((t5 == (1 : Int)))
  ((some (1 : Int)))
  ((prime_symbol.j9)))
noncomputable def prime_symbol.j6 (t0 : Int) (t1 : Int) : Option (Int) :=
  ((iterL (fun x : Int × Int × Int × Int × Unit => prime_symbol.s0 x.1 x.2.1 x.2.2.1 x.2.2.2.1) (t0, t1, (1 : Int), (IntKind.wrap .i64 (Int.tdiv (IntKind.wrap .i64 (t1 - (1 : Int))) (2 : Int))), ())).bind fun y => prime_symbol.k0 y.1)
noncomputable def prime_symbol.j5 (t0 : Int) (t1 : Int) : Option (Int) :=
  ((prime_residue t0 t1).bind fun y2 =>
  (cond ((y2 == (0 : Int)))
  ((some (0 : Int)))
  ((prime_symbol.j6 y2 t1))))
noncomputable def prime_symbol (t0 : Int) (t1 : Int) : Option (Int) :=
  (cond ((t1 == (2 : Int)))
  (((prime_residue t0 (8 : Int)).bind fun y1 =>
  (cond ((y1 == (1 : Int)))
  ((prime_symbol.j1 y1 (y1 == (1 : Int))))
  ((prime_symbol.j1 y1 (y1 == (7 : Int)))))))
  ((prime_symbol.j5 t0 t1)))
noncomputable def prime_symbol.en : En := ⟨24, [.int .i64, .int .i64], .int .i64, false, fun x => prime_symbol x.1 x.2.1⟩
noncomputable def prime_symbol.o : List En := [prime_residue.en]
noncomputable def prime_symbol.oB : List EnB := []
def prime_symbol.h : HT := .two (.n) (.two (.n) (.two (.n) (.two (.n) (.two (.n) (.two (.two (.n) (.lp 0)) (.n))))))
noncomputable def prime_symbol.c : Code := Try.f24.body.getD .skip
def prime_symbol.h0 : HT := .n
noncomputable def prime_symbol.c0 : Code := (find (loops prime_symbol.c prime_symbol.h) 0).getD .skip
def prime_symbol.d0 : Fm := [.v 0 (.int .i64), .v 1 (.int .i64), .v 5 (.int .i64), .v 6 (.int .i64)]
def prime_symbol.x0 : Xs := [(.exit 1, [.v 5 (.int .i64)])]
noncomputable def prime_symbol.r0 (x : (Fm.ty prime_symbol.d0).den) : Option ((Fm.ty prime_symbol.d0).den ⊕ (Xs.T prime_symbol.x0)) := prime_symbol.s0 x.1 x.2.1 x.2.2.1 x.2.2.2.1
noncomputable def prime_symbol.L : Lam := fun _ i s K => cond (Nat.beq i 0) (lamK prime_symbol.d0 prime_symbol.x0 prime_symbol.r0 s K) (none)
theorem prime_symbol.hf0 (x) : roundK env (orc prime_symbol.o) (orcB prime_symbol.oB) 44 prime_symbol.L prime_symbol.c0 prime_symbol.h0 prime_symbol.d0 prime_symbol.x0 x = prime_symbol.r0 x := by kernel_rfl
theorem prime_symbol.os : AllOk prog prime_symbol.o := ⟨prime_residue.ok, trivial⟩
theorem prime_symbol.osB : AllBOk prog prime_symbol.oB := trivial
theorem prime_symbol.l0 {C : Ctx} (hC : C.n = 44) : LamAt prog C prime_symbol.L 0 prime_symbol.c0 := by
  intro R s K r hk
  refine loop_ok (D := prime_symbol.d0) (X := prime_symbol.x0) (h := prime_symbol.h0) (f := prime_symbol.r0) tabs (orc_ok _ prime_symbol.os) (orcB_ok _ prime_symbol.osB) (fun x => by rw [hC]; exact prime_symbol.hf0 x) (Λ := prime_symbol.L) ?_ (by kernel_rfl) (by kernel_rfl) (K := K) (s := s) (by exact hk)
  exact by
    have e : loops prime_symbol.c0 prime_symbol.h0 = [] := by kernel_rfl
    rw [e]
    exact LamOk.nil
theorem prime_symbol.hk (x) : semK env (orc prime_symbol.o) (orcB prime_symbol.oB) 44 (prime_symbol.L _) prime_symbol.c prime_symbol.h (S.init (avs [.int .i64, .int .i64] x)) (fin env Try.f24 ⟨[.int .i64, .int .i64], .int .i64, false, false⟩) = prime_symbol.en.g x := by kernel_rfl
theorem prime_symbol.ok : EnOk prog prime_symbol.en := by
  refine fun_ok (g := ⟨[.int .i64, .int .i64], .int .i64, false, false⟩) (h := prime_symbol.h) (Λ := prime_symbol.L) tabs prime_symbol.os prime_symbol.osB Try.func24 (c := prime_symbol.c) (by kernel_rfl) (by decide +kernel) (by decide +kernel) (fun C hC => ?_) (fun x => prime_symbol.hk x)
  exact by
    have e : loops prime_symbol.c prime_symbol.h = [(0, prime_symbol.c0)] := by kernel_rfl
    rw [e]
    exact LamOk.cons (prime_symbol.l0 hC) (LamOk.nil)
noncomputable def prime_beyond (t0 : Int) : Option (Bool) :=
  (cond ((decide (t0 > (2147483647 : Int))))
  ((some true))
  ((some (decide (t0 < (-2147483647 : Int))))))
noncomputable def prime_beyond.en : En := ⟨36, [.int .i64], .bool, false, fun x => prime_beyond x.1⟩
noncomputable def prime_beyond.o : List En := []
noncomputable def prime_beyond.oB : List EnB := []
def prime_beyond.h : HT := .n
noncomputable def prime_beyond.c : Code := Try.f36.body.getD .skip
noncomputable def prime_beyond.L : Lam := fun _ i s K => none
theorem prime_beyond.os : AllOk prog prime_beyond.o := trivial
theorem prime_beyond.osB : AllBOk prog prime_beyond.oB := trivial
theorem prime_beyond.hk (x) : semK env (orc prime_beyond.o) (orcB prime_beyond.oB) 9 (prime_beyond.L _) prime_beyond.c prime_beyond.h (S.init (avs [.int .i64] x)) (fin env Try.f36 ⟨[.int .i64], .bool, false, false⟩) = prime_beyond.en.g x := by kernel_rfl
theorem prime_beyond.ok : EnOk prog prime_beyond.en := by
  refine fun_ok (g := ⟨[.int .i64], .bool, false, false⟩) (h := prime_beyond.h) (Λ := prime_beyond.L) tabs prime_beyond.os prime_beyond.osB Try.func36 (c := prime_beyond.c) (by kernel_rfl) (by decide +kernel) (by decide +kernel) (fun C hC => ?_) (fun x => prime_beyond.hk x)
  exact by
    have e : loops prime_beyond.c prime_beyond.h = [] := by kernel_rfl
    rw [e]
    exact LamOk.nil
noncomputable def prime_Kronecker.j2  : Option (Int × Int × Unit) :=
  (some ((0 : Int), ((0 : Int), ())))
noncomputable def prime_Kronecker.j8 (t0 : Int) (t6 : Int) (t37 : List (Int × Int × Unit)) (t38 : Int) (t39 : Int) : Option ((Int × Int × (List (Int × Int × Unit)) × Int × Int × Unit) ⊕ ((Int × Unit) ⊕ (Int × Int × Unit))) :=
  (some (.inl (t0, t6, t37, t38, (IntKind.wrap .i64 (t39 + (1 : Int))), ())))
noncomputable def prime_Kronecker.j7 (t0 : Int) (t6 : Int) (t11 : Int) (t37 : List (Int × Int × Unit)) (t38 : Int) (t39 : Int) (b10_0 : Int) (b10_1 : Int) : Option ((Int × Int × (List (Int × Int × Unit)) × Int × Int × Unit) ⊕ ((Int × Unit) ⊕ (Int × Int × Unit))) :=
  (cond (((Int.tmod b10_1 (2 : Int)) == (1 : Int)))
  ((prime_Kronecker.j8 t0 (IntKind.wrap .i64 (t6 * t11)) t37 t38 t39))
  ((prime_Kronecker.j8 t0 t6 t37 t38 t39)))
noncomputable def prime_Kronecker.j6 (t0 : Int) (t6 : Int) (t37 : List (Int × Int × Unit)) (t38 : Int) (t39 : Int) : Option ((Int × Int × (List (Int × Int × Unit)) × Int × Int × Unit) ⊕ ((Int × Unit) ⊕ (Int × Int × Unit))) :=
  (cond (inB t39 (List.length t37))
  (((prime_symbol t0 (List.getD t37 (t39.toNat) ((0 : Int), ((0 : Int), ()))).1).bind fun y5 =>
  (cond ((y5 == (0 : Int)))
  ((some (.inr (.inr ((0 : Int), (0 : Int), ())))))
  ((prime_Kronecker.j7 t0 t6 y5 t37 t38 t39 (List.getD t37 (t39.toNat) ((0 : Int), ((0 : Int), ()))).1 (List.getD t37 (t39.toNat) ((0 : Int), ((0 : Int), ()))).2.1)))))
  none)
noncomputable def prime_Kronecker.s0 (t0 : Int) (t6 : Int) (t37 : List (Int × Int × Unit)) (t38 : Int) (t39 : Int) : Option ((Int × Int × (List (Int × Int × Unit)) × Int × Int × Unit) ⊕ ((Int × Unit) ⊕ (Int × Int × Unit))) :=
  (cond ((decide (t39 < t38)))
  ((prime_Kronecker.j6 t0 t6 t37 t38 t39))
  ((some (.inr (.inl (t6, ()))))))
noncomputable def prime_Kronecker.k0_0 (t6 : Int) : Option (Int × Int × Unit) :=
  (some (t6, ((0 : Int), ())))
noncomputable def prime_Kronecker.k0_1 (t4 : Int) (t5 : Int) : Option (Int × Int × Unit) :=
  (some (t4, (t5, ())))
noncomputable def prime_Kronecker.j5 (t0 : Int) (t1 : Int) : Option (Int × Int × Unit) :=
  ((prime_Factor t1).bind fun y3 =>
  ((iterL (fun x : Int × Int × (List (Int × Int × Unit)) × Int × Int × Unit => prime_Kronecker.s0 x.1 x.2.1 x.2.2.1 x.2.2.2.1 x.2.2.2.2.1) (t0, (-1 : Int), y3.1, ((List.length y3.1 : Nat) : Int), (0 : Int), ())).bind fun z => Sum.casesOn z (fun y => prime_Kronecker.k0_0 y.1) (fun z => prime_Kronecker.k0_1 z.1 z.2.1)))
noncomputable def prime_Kronecker.j4 (t0 : Int) (t1 : Int) : Option (Int × Int × Unit) :=
  (prime_Kronecker.j5 t0 t1)
noncomputable def prime_Kronecker.j10 (t0 : Int) (t1 : Int) : Option (Int × Int × Unit) :=
  ((prime_Factor t1).bind fun y7 =>
  ((iterL (fun x : Int × Int × (List (Int × Int × Unit)) × Int × Int × Unit => prime_Kronecker.s0 x.1 x.2.1 x.2.2.1 x.2.2.2.1 x.2.2.2.2.1) (t0, (1 : Int), y7.1, ((List.length y7.1 : Nat) : Int), (0 : Int), ())).bind fun z => Sum.casesOn z (fun y => prime_Kronecker.k0_0 y.1) (fun z => prime_Kronecker.k0_1 z.1 z.2.1)))
noncomputable def prime_Kronecker.j9 (t0 : Int) (t1 : Int) : Option (Int × Int × Unit) :=
  (prime_Kronecker.j10 t0 t1)
noncomputable def prime_Kronecker.j3 (t0 : Int) (t1 : Int) : Option (Int × Int × Unit) :=
  (cond ((decide (t1 < (0 : Int))))
  ((cond ((decide (t0 < (0 : Int))))
  ((prime_Kronecker.j4 t0 (IntKind.wrap .i64 (0 - t1))))
  ((prime_Kronecker.j9 t0 (IntKind.wrap .i64 (0 - t1))))))
  ((prime_Kronecker.j10 t0 t1)))
noncomputable def prime_Kronecker.j1 (t0 : Int) (t1 : Int) : Option (Int × Int × Unit) :=
  (cond ((t1 == (0 : Int)))
  ((cond ((t0 == (1 : Int)))
  ((some ((1 : Int), ((0 : Int), ()))))
  ((cond ((t0 == (-1 : Int)))
  ((some ((1 : Int), ((0 : Int), ()))))
  ((prime_Kronecker.j2))))))
  ((prime_Kronecker.j3 t0 t1)))
noncomputable def prime_Kronecker (t0 : Int) (t1 : Int) : Option (Int × Int × Unit) :=
  ((prime_beyond t0).bind fun y1 =>
  (cond (y1)
  ((some ((0 : Int), ((1 : Int), ()))))
  (((prime_beyond t1).bind fun y2 =>
  (cond (y2)
  ((some ((0 : Int), ((1 : Int), ()))))
  ((prime_Kronecker.j1 t0 t1)))))))
noncomputable def prime_Kronecker.en : En := ⟨20, [.int .i64, .int .i64], .pair (.int .i64) (.pair (.int .i64) (.unit)), true, fun x => prime_Kronecker x.1 x.2.1⟩
noncomputable def prime_Kronecker.o : List En := [prime_Factor.en, prime_symbol.en, prime_beyond.en]
noncomputable def prime_Kronecker.oB : List EnB := []
def prime_Kronecker.h : HT := .two (.n) (.two (.n) (.two (.n) (.two (.n) (.two (.n) (.two (.n) (.two (.two (.n) (.lp 0)) (.n)))))))
noncomputable def prime_Kronecker.c : Code := Try.f20.body.getD .skip
def prime_Kronecker.h0 : HT := .n
noncomputable def prime_Kronecker.c0 : Code := (find (loops prime_Kronecker.c prime_Kronecker.h) 0).getD .skip
def prime_Kronecker.d0 : Fm := [.v 0 (.int .i64), .v 6 (.int .i64), .v 37 (.sl (.pair (.int .i64) (.pair (.int .i64) (.unit)))), .v 38 (.int .i64), .v 39 (.int .i64)]
def prime_Kronecker.x0 : Xs := [(.exit 0, [.v 6 (.int .i64)]), (.ret, [.v 4 (.int .i64), .v 5 (.int .i64)])]
noncomputable def prime_Kronecker.r0 (x : (Fm.ty prime_Kronecker.d0).den) : Option ((Fm.ty prime_Kronecker.d0).den ⊕ (Xs.T prime_Kronecker.x0)) := prime_Kronecker.s0 x.1 x.2.1 x.2.2.1 x.2.2.2.1 x.2.2.2.2.1
noncomputable def prime_Kronecker.L : Lam := fun _ i s K => cond (Nat.beq i 0) (lamK prime_Kronecker.d0 prime_Kronecker.x0 prime_Kronecker.r0 s K) (none)
theorem prime_Kronecker.hf0 (x) : roundK env (orc prime_Kronecker.o) (orcB prime_Kronecker.oB) 58 prime_Kronecker.L prime_Kronecker.c0 prime_Kronecker.h0 prime_Kronecker.d0 prime_Kronecker.x0 x = prime_Kronecker.r0 x := by kernel_rfl
theorem prime_Kronecker.os : AllOk prog prime_Kronecker.o := ⟨prime_Factor.ok, prime_symbol.ok, prime_beyond.ok, trivial⟩
theorem prime_Kronecker.osB : AllBOk prog prime_Kronecker.oB := trivial
theorem prime_Kronecker.l0 {C : Ctx} (hC : C.n = 58) : LamAt prog C prime_Kronecker.L 0 prime_Kronecker.c0 := by
  intro R s K r hk
  refine loop_ok (D := prime_Kronecker.d0) (X := prime_Kronecker.x0) (h := prime_Kronecker.h0) (f := prime_Kronecker.r0) tabs (orc_ok _ prime_Kronecker.os) (orcB_ok _ prime_Kronecker.osB) (fun x => by rw [hC]; exact prime_Kronecker.hf0 x) (Λ := prime_Kronecker.L) ?_ (by kernel_rfl) (by kernel_rfl) (K := K) (s := s) (by exact hk)
  exact by
    have e : loops prime_Kronecker.c0 prime_Kronecker.h0 = [] := by kernel_rfl
    rw [e]
    exact LamOk.nil
theorem prime_Kronecker.hk (x) : semK env (orc prime_Kronecker.o) (orcB prime_Kronecker.oB) 58 (prime_Kronecker.L _) prime_Kronecker.c prime_Kronecker.h (S.init (avs [.int .i64, .int .i64] x)) (fin env Try.f20 ⟨[.int .i64, .int .i64], .pair (.int .i64) (.pair (.int .i64) (.unit)), true, false⟩) = prime_Kronecker.en.g x := by kernel_rfl
theorem prime_Kronecker.ok : EnOk prog prime_Kronecker.en := by
  refine fun_ok (g := ⟨[.int .i64, .int .i64], .pair (.int .i64) (.pair (.int .i64) (.unit)), true, false⟩) (h := prime_Kronecker.h) (Λ := prime_Kronecker.L) tabs prime_Kronecker.os prime_Kronecker.osB Try.func20 (c := prime_Kronecker.c) (by kernel_rfl) (by decide +kernel) (by decide +kernel) (fun C hC => ?_) (fun x => prime_Kronecker.hk x)
  exact by
    have e : loops prime_Kronecker.c prime_Kronecker.h = [(0, prime_Kronecker.c0)] := by kernel_rfl
    rw [e]
    exact LamOk.cons (prime_Kronecker.l0 hC) (LamOk.nil)
noncomputable def prime_Squarefree.j5 (t5 : Int) (t6 : Int) (t11 : Int) (t27 : List (Int × Int × Unit)) (t28 : Int) (t29 : Int) (b10_0 : Int) (b10_1 : Int) : Option ((Int × Int × Int × (List (Int × Int × Unit)) × Int × Int × (Int × Int × Unit) × Unit) ⊕ ((Int × Int × (List (Int × Int × Unit)) × Int × Int × Unit))) :=
  (some (.inl (t5, (IntKind.wrap .i64 (t6 * b10_0)), (IntKind.wrap .i64 (t11 + (1 : Int))), t27, t28, t29, (b10_0, (b10_1, ())), ())))
noncomputable def prime_Squarefree.s0 (t5 : Int) (t6 : Int) (t11 : Int) (t27 : List (Int × Int × Unit)) (t28 : Int) (t29 : Int) (b10 : Int × Int × Unit) : Option ((Int × Int × Int × (List (Int × Int × Unit)) × Int × Int × (Int × Int × Unit) × Unit) ⊕ ((Int × Int × (List (Int × Int × Unit)) × Int × Int × Unit))) :=
  (cond ((decide (t11 < (IntKind.wrap .i64 (Int.tdiv b10.2.1 (2 : Int))))))
  ((prime_Squarefree.j5 t5 t6 t11 t27 t28 t29 b10.1 b10.2.1))
  ((some (.inr (t5, t6, t27, t28, t29, ())))))
noncomputable def prime_Squarefree.k0 (t5 : Int) (t6 : Int) (t27 : List (Int × Int × Unit)) (t28 : Int) (t29 : Int) : Option ((Int × Int × (List (Int × Int × Unit)) × Int × Int × Unit) ⊕ ((Int × Int × Unit))) :=
  (some (.inl (t5, t6, t27, t28, (IntKind.wrap .i64 (t29 + (1 : Int))), ())))
noncomputable def prime_Squarefree.j4 (t5 : Int) (t6 : Int) (t27 : List (Int × Int × Unit)) (t28 : Int) (t29 : Int) (b10_0 : Int) (b10_1 : Int) : Option ((Int × Int × (List (Int × Int × Unit)) × Int × Int × Unit) ⊕ ((Int × Int × Unit))) :=
  ((iterL (fun x : Int × Int × Int × (List (Int × Int × Unit)) × Int × Int × (Int × Int × Unit) × Unit => prime_Squarefree.s0 x.1 x.2.1 x.2.2.1 x.2.2.2.1 x.2.2.2.2.1 x.2.2.2.2.2.1 x.2.2.2.2.2.2.1) (t5, t6, (0 : Int), t27, t28, t29, (b10_0, (b10_1, ())), ())).bind fun y => prime_Squarefree.k0 y.1 y.2.1 y.2.2.1 y.2.2.2.1 y.2.2.2.2.1)
noncomputable def prime_Squarefree.j3 (t5 : Int) (t6 : Int) (t27 : List (Int × Int × Unit)) (t28 : Int) (t29 : Int) : Option ((Int × Int × (List (Int × Int × Unit)) × Int × Int × Unit) ⊕ ((Int × Int × Unit))) :=
  (cond (inB t29 (List.length t27))
  ((cond (((Int.tmod (List.getD t27 (t29.toNat) ((0 : Int), ((0 : Int), ()))).2.1 (2 : Int)) == (1 : Int)))
  ((prime_Squarefree.j4 (IntKind.wrap .i64 (t5 * (List.getD t27 (t29.toNat) ((0 : Int), ((0 : Int), ()))).1)) t6 t27 t28 t29 (List.getD t27 (t29.toNat) ((0 : Int), ((0 : Int), ()))).1 (List.getD t27 (t29.toNat) ((0 : Int), ((0 : Int), ()))).2.1))
  ((prime_Squarefree.j4 t5 t6 t27 t28 t29 (List.getD t27 (t29.toNat) ((0 : Int), ((0 : Int), ()))).1 (List.getD t27 (t29.toNat) ((0 : Int), ((0 : Int), ()))).2.1))))
  none)
noncomputable def prime_Squarefree.s1 (t5 : Int) (t6 : Int) (t27 : List (Int × Int × Unit)) (t28 : Int) (t29 : Int) : Option ((Int × Int × (List (Int × Int × Unit)) × Int × Int × Unit) ⊕ ((Int × Int × Unit))) :=
  (cond ((decide (t29 < t28)))
  ((prime_Squarefree.j3 t5 t6 t27 t28 t29))
  ((some (.inr (t5, t6, ())))))
noncomputable def prime_Squarefree.k1 (t5 : Int) (t6 : Int) : Option (Int × Int × Int × Unit) :=
  (some (t5, (t6, ((0 : Int), ()))))
noncomputable def prime_Squarefree.j2 (t0 : Int) : Option (Int × Int × Int × Unit) :=
  ((prime_Factor t0).bind fun y2 =>
  ((iterL (fun x : Int × Int × (List (Int × Int × Unit)) × Int × Int × Unit => prime_Squarefree.s1 x.1 x.2.1 x.2.2.1 x.2.2.2.1 x.2.2.2.2.1) ((-1 : Int), (1 : Int), y2.1, ((List.length y2.1 : Nat) : Int), (0 : Int), ())).bind fun y => prime_Squarefree.k1 y.1 y.2.1))
noncomputable def prime_Squarefree.j6 (t0 : Int) : Option (Int × Int × Int × Unit) :=
  ((prime_Factor t0).bind fun y6 =>
  ((iterL (fun x : Int × Int × (List (Int × Int × Unit)) × Int × Int × Unit => prime_Squarefree.s1 x.1 x.2.1 x.2.2.1 x.2.2.2.1 x.2.2.2.2.1) ((1 : Int), (1 : Int), y6.1, ((List.length y6.1 : Nat) : Int), (0 : Int), ())).bind fun y => prime_Squarefree.k1 y.1 y.2.1))
noncomputable def prime_Squarefree.j1 (t0 : Int) : Option (Int × Int × Int × Unit) :=
  (cond ((decide (t0 < (0 : Int))))
  ((prime_Squarefree.j2 (IntKind.wrap .i64 (0 - t0))))
  ((prime_Squarefree.j6 t0)))
noncomputable def prime_Squarefree (t0 : Int) : Option (Int × Int × Int × Unit) :=
  (cond ((t0 == (0 : Int)))
  ((some ((0 : Int), ((0 : Int), ((1 : Int), ())))))
  (((prime_beyond t0).bind fun y1 =>
  (cond (y1)
  ((some ((0 : Int), ((0 : Int), ((1 : Int), ())))))
  ((prime_Squarefree.j1 t0))))))
noncomputable def prime_Squarefree.en : En := ⟨37, [.int .i64], .pair (.int .i64) (.pair (.int .i64) (.pair (.int .i64) (.unit))), true, fun x => prime_Squarefree x.1⟩
noncomputable def prime_Squarefree.o : List En := [prime_Factor.en, prime_beyond.en]
noncomputable def prime_Squarefree.oB : List EnB := []
def prime_Squarefree.h : HT := .two (.n) (.two (.n) (.two (.n) (.two (.n) (.two (.n) (.two (.two (.n) (.lp 1)) (.n))))))
noncomputable def prime_Squarefree.c : Code := Try.f37.body.getD .skip
def prime_Squarefree.h1 : HT := .two (.n) (.two (.n) (.two (.two (.n) (.two (.n) (.two (.n) (.lp 0)))) (.n)))
noncomputable def prime_Squarefree.c1 : Code := (find (loops prime_Squarefree.c prime_Squarefree.h) 1).getD .skip
def prime_Squarefree.d1 : Fm := [.v 5 (.int .i64), .v 6 (.int .i64), .v 27 (.sl (.pair (.int .i64) (.pair (.int .i64) (.unit)))), .v 28 (.int .i64), .v 29 (.int .i64)]
def prime_Squarefree.x1 : Xs := [(.exit 0, [.v 5 (.int .i64), .v 6 (.int .i64)])]
noncomputable def prime_Squarefree.r1 (x : (Fm.ty prime_Squarefree.d1).den) : Option ((Fm.ty prime_Squarefree.d1).den ⊕ (Xs.T prime_Squarefree.x1)) := prime_Squarefree.s1 x.1 x.2.1 x.2.2.1 x.2.2.2.1 x.2.2.2.2.1
def prime_Squarefree.h0 : HT := .n
noncomputable def prime_Squarefree.c0 : Code := (find (loops prime_Squarefree.c1 prime_Squarefree.h1) 0).getD .skip
def prime_Squarefree.d0 : Fm := [.v 5 (.int .i64), .v 6 (.int .i64), .v 11 (.int .i64), .v 27 (.sl (.pair (.int .i64) (.pair (.int .i64) (.unit)))), .v 28 (.int .i64), .v 29 (.int .i64), .box 10 (.pair (.int .i64) (.pair (.int .i64) (.unit))), .ptr 10 10]
def prime_Squarefree.x0 : Xs := [(.exit 2, [.v 5 (.int .i64), .v 6 (.int .i64), .v 27 (.sl (.pair (.int .i64) (.pair (.int .i64) (.unit)))), .v 28 (.int .i64), .v 29 (.int .i64)])]
noncomputable def prime_Squarefree.r0 (x : (Fm.ty prime_Squarefree.d0).den) : Option ((Fm.ty prime_Squarefree.d0).den ⊕ (Xs.T prime_Squarefree.x0)) := prime_Squarefree.s0 x.1 x.2.1 x.2.2.1 x.2.2.2.1 x.2.2.2.2.1 x.2.2.2.2.2.1 x.2.2.2.2.2.2.1
noncomputable def prime_Squarefree.L : Lam := fun _ i s K => cond (Nat.beq i 0) (lamK prime_Squarefree.d0 prime_Squarefree.x0 prime_Squarefree.r0 s K) (cond (Nat.beq i 1) (lamK prime_Squarefree.d1 prime_Squarefree.x1 prime_Squarefree.r1 s K) (none))
theorem prime_Squarefree.hf0 (x) : roundK env (orc prime_Squarefree.o) (orcB prime_Squarefree.oB) 55 prime_Squarefree.L prime_Squarefree.c0 prime_Squarefree.h0 prime_Squarefree.d0 prime_Squarefree.x0 x = prime_Squarefree.r0 x := by kernel_rfl
theorem prime_Squarefree.hf1 (x) : roundK env (orc prime_Squarefree.o) (orcB prime_Squarefree.oB) 55 prime_Squarefree.L prime_Squarefree.c1 prime_Squarefree.h1 prime_Squarefree.d1 prime_Squarefree.x1 x = prime_Squarefree.r1 x := by kernel_rfl
theorem prime_Squarefree.os : AllOk prog prime_Squarefree.o := ⟨prime_Factor.ok, prime_beyond.ok, trivial⟩
theorem prime_Squarefree.osB : AllBOk prog prime_Squarefree.oB := trivial
theorem prime_Squarefree.l0 {C : Ctx} (hC : C.n = 55) : LamAt prog C prime_Squarefree.L 0 prime_Squarefree.c0 := by
  intro R s K r hk
  refine loop_ok (D := prime_Squarefree.d0) (X := prime_Squarefree.x0) (h := prime_Squarefree.h0) (f := prime_Squarefree.r0) tabs (orc_ok _ prime_Squarefree.os) (orcB_ok _ prime_Squarefree.osB) (fun x => by rw [hC]; exact prime_Squarefree.hf0 x) (Λ := prime_Squarefree.L) ?_ (by kernel_rfl) (by kernel_rfl) (K := K) (s := s) (by exact hk)
  exact by
    have e : loops prime_Squarefree.c0 prime_Squarefree.h0 = [] := by kernel_rfl
    rw [e]
    exact LamOk.nil
theorem prime_Squarefree.l1 {C : Ctx} (hC : C.n = 55) : LamAt prog C prime_Squarefree.L 1 prime_Squarefree.c1 := by
  intro R s K r hk
  refine loop_ok (D := prime_Squarefree.d1) (X := prime_Squarefree.x1) (h := prime_Squarefree.h1) (f := prime_Squarefree.r1) tabs (orc_ok _ prime_Squarefree.os) (orcB_ok _ prime_Squarefree.osB) (fun x => by rw [hC]; exact prime_Squarefree.hf1 x) (Λ := prime_Squarefree.L) ?_ (by kernel_rfl) (by kernel_rfl) (K := K) (s := s) (by exact hk)
  exact by
    have e : loops prime_Squarefree.c1 prime_Squarefree.h1 = [(0, prime_Squarefree.c0)] := by kernel_rfl
    rw [e]
    exact LamOk.cons (prime_Squarefree.l0 hC) (LamOk.nil)
theorem prime_Squarefree.hk (x) : semK env (orc prime_Squarefree.o) (orcB prime_Squarefree.oB) 55 (prime_Squarefree.L _) prime_Squarefree.c prime_Squarefree.h (S.init (avs [.int .i64] x)) (fin env Try.f37 ⟨[.int .i64], .pair (.int .i64) (.pair (.int .i64) (.pair (.int .i64) (.unit))), true, false⟩) = prime_Squarefree.en.g x := by kernel_rfl
theorem prime_Squarefree.ok : EnOk prog prime_Squarefree.en := by
  refine fun_ok (g := ⟨[.int .i64], .pair (.int .i64) (.pair (.int .i64) (.pair (.int .i64) (.unit))), true, false⟩) (h := prime_Squarefree.h) (Λ := prime_Squarefree.L) tabs prime_Squarefree.os prime_Squarefree.osB Try.func37 (c := prime_Squarefree.c) (by kernel_rfl) (by decide +kernel) (by decide +kernel) (fun C hC => ?_) (fun x => prime_Squarefree.hk x)
  exact by
    have e : loops prime_Squarefree.c prime_Squarefree.h = [(1, prime_Squarefree.c1)] := by kernel_rfl
    rw [e]
    exact LamOk.cons (prime_Squarefree.l1 hC) (LamOk.nil)
noncomputable def prime_Discriminant.j2 (t4 : Int) : Option (Int × Int × Unit) :=
  (some ((IntKind.wrap .i64 ((4 : Int) * t4)), ((0 : Int), ())))
noncomputable def prime_Discriminant.j1 (t4 : Int) : Option (Int × Int × Unit) :=
  ((prime_residue t4 (4 : Int)).bind fun y2 =>
  (cond ((y2 == (1 : Int)))
  ((some (t4, ((0 : Int), ()))))
  ((prime_Discriminant.j2 t4))))
noncomputable def prime_Discriminant (t0 : Int) : Option (Int × Int × Unit) :=
  ((prime_Squarefree t0).bind fun y1 =>
  (cond ((y1.2.2.1 != (0 : Int)))
  ((some ((0 : Int), (y1.2.2.1, ()))))
  ((prime_Discriminant.j1 y1.1))))
noncomputable def prime_Discriminant.en : En := ⟨21, [.int .i64], .pair (.int .i64) (.pair (.int .i64) (.unit)), true, fun x => prime_Discriminant x.1⟩
noncomputable def prime_Discriminant.o : List En := [prime_Squarefree.en, prime_residue.en]
noncomputable def prime_Discriminant.oB : List EnB := []
def prime_Discriminant.h : HT := .n
noncomputable def prime_Discriminant.c : Code := Try.f21.body.getD .skip
noncomputable def prime_Discriminant.L : Lam := fun _ i s K => none
theorem prime_Discriminant.os : AllOk prog prime_Discriminant.o := ⟨prime_Squarefree.ok, prime_residue.ok, trivial⟩
theorem prime_Discriminant.osB : AllBOk prog prime_Discriminant.oB := trivial
theorem prime_Discriminant.hk (x) : semK env (orc prime_Discriminant.o) (orcB prime_Discriminant.oB) 22 (prime_Discriminant.L _) prime_Discriminant.c prime_Discriminant.h (S.init (avs [.int .i64] x)) (fin env Try.f21 ⟨[.int .i64], .pair (.int .i64) (.pair (.int .i64) (.unit)), true, false⟩) = prime_Discriminant.en.g x := by kernel_rfl
theorem prime_Discriminant.ok : EnOk prog prime_Discriminant.en := by
  refine fun_ok (g := ⟨[.int .i64], .pair (.int .i64) (.pair (.int .i64) (.unit)), true, false⟩) (h := prime_Discriminant.h) (Λ := prime_Discriminant.L) tabs prime_Discriminant.os prime_Discriminant.osB Try.func21 (c := prime_Discriminant.c) (by kernel_rfl) (by decide +kernel) (by decide +kernel) (fun C hC => ?_) (fun x => prime_Discriminant.hk x)
  exact by
    have e : loops prime_Discriminant.c prime_Discriminant.h = [] := by kernel_rfl
    rw [e]
    exact LamOk.nil
noncomputable def prime_Is.j3 (t0 : Int) (t3 : Int) : Option ((Int × Int × Unit) ⊕ ((Unit) ⊕ (Bool × Unit))) :=
  (some (.inl (t0, (IntKind.wrap .i64 (t3 + (1 : Int))), ())))
noncomputable def prime_Is.j2 (t0 : Int) (t3 : Int) : Option ((Int × Int × Unit) ⊕ ((Unit) ⊕ (Bool × Unit))) :=
  (cond (decide (t3 = 0))
  none
  ((cond (((Int.tmod t0 t3) == (0 : Int)))
  ((some (.inr (.inr (false, ())))))
  ((prime_Is.j3 t0 t3)))))
noncomputable def prime_Is.s0 (t0 : Int) (t3 : Int) : Option ((Int × Int × Unit) ⊕ ((Unit) ⊕ (Bool × Unit))) :=
  (cond ((decide ((IntKind.wrap .i64 (t3 * t3)) ≤ t0)))
  ((prime_Is.j2 t0 t3))
  ((some (.inr (.inl ())))))
noncomputable def prime_Is.k0_0  : Option (Bool) :=
  (some true)
noncomputable def prime_Is.k0_1 (t2 : Bool) : Option (Bool) :=
  (some t2)
noncomputable def prime_Is.j1 (t0 : Int) : Option (Bool) :=
  ((iterL (fun x : Int × Int × Unit => prime_Is.s0 x.1 x.2.1) (t0, (2 : Int), ())).bind fun z => Sum.casesOn z (fun y => prime_Is.k0_0) (fun z => prime_Is.k0_1 z.1))
noncomputable def prime_Is (t0 : Int) : Option (Bool) :=
  (cond ((decide (t0 < (2 : Int))))
  ((some false))
  ((cond ((decide (t0 > (2147483647 : Int))))
  ((some false))
  ((prime_Is.j1 t0)))))
noncomputable def prime_Is.en : En := ⟨22, [.int .i64], .bool, false, fun x => prime_Is x.1⟩
noncomputable def prime_Is.o : List En := []
noncomputable def prime_Is.oB : List EnB := []
def prime_Is.h : HT := .two (.n) (.two (.n) (.two (.two (.n) (.lp 0)) (.n)))
noncomputable def prime_Is.c : Code := Try.f22.body.getD .skip
def prime_Is.h0 : HT := .n
noncomputable def prime_Is.c0 : Code := (find (loops prime_Is.c prime_Is.h) 0).getD .skip
def prime_Is.d0 : Fm := [.v 0 (.int .i64), .v 3 (.int .i64)]
def prime_Is.x0 : Xs := [(.exit 0, []), (.ret, [.v 2 (.bool)])]
noncomputable def prime_Is.r0 (x : (Fm.ty prime_Is.d0).den) : Option ((Fm.ty prime_Is.d0).den ⊕ (Xs.T prime_Is.x0)) := prime_Is.s0 x.1 x.2.1
noncomputable def prime_Is.L : Lam := fun _ i s K => cond (Nat.beq i 0) (lamK prime_Is.d0 prime_Is.x0 prime_Is.r0 s K) (none)
theorem prime_Is.hf0 (x) : roundK env (orc prime_Is.o) (orcB prime_Is.oB) 21 prime_Is.L prime_Is.c0 prime_Is.h0 prime_Is.d0 prime_Is.x0 x = prime_Is.r0 x := by kernel_rfl
theorem prime_Is.os : AllOk prog prime_Is.o := trivial
theorem prime_Is.osB : AllBOk prog prime_Is.oB := trivial
theorem prime_Is.l0 {C : Ctx} (hC : C.n = 21) : LamAt prog C prime_Is.L 0 prime_Is.c0 := by
  intro R s K r hk
  refine loop_ok (D := prime_Is.d0) (X := prime_Is.x0) (h := prime_Is.h0) (f := prime_Is.r0) tabs (orc_ok _ prime_Is.os) (orcB_ok _ prime_Is.osB) (fun x => by rw [hC]; exact prime_Is.hf0 x) (Λ := prime_Is.L) ?_ (by kernel_rfl) (by kernel_rfl) (K := K) (s := s) (by exact hk)
  exact by
    have e : loops prime_Is.c0 prime_Is.h0 = [] := by kernel_rfl
    rw [e]
    exact LamOk.nil
theorem prime_Is.hk (x) : semK env (orc prime_Is.o) (orcB prime_Is.oB) 21 (prime_Is.L _) prime_Is.c prime_Is.h (S.init (avs [.int .i64] x)) (fin env Try.f22 ⟨[.int .i64], .bool, false, false⟩) = prime_Is.en.g x := by kernel_rfl
theorem prime_Is.ok : EnOk prog prime_Is.en := by
  refine fun_ok (g := ⟨[.int .i64], .bool, false, false⟩) (h := prime_Is.h) (Λ := prime_Is.L) tabs prime_Is.os prime_Is.osB Try.func22 (c := prime_Is.c) (by kernel_rfl) (by decide +kernel) (by decide +kernel) (fun C hC => ?_) (fun x => prime_Is.hk x)
  exact by
    have e : loops prime_Is.c prime_Is.h = [(0, prime_Is.c0)] := by kernel_rfl
    rw [e]
    exact LamOk.cons (prime_Is.l0 hC) (LamOk.nil)
noncomputable def quadformlaw22_awake  : Option (Bool) :=
  ((prime_Factor (360 : Int)).bind fun y1 =>
  ((prime_Kronecker (5 : Int) (6 : Int)).bind fun y2 =>
  ((prime_Discriminant (-12 : Int)).bind fun y3 =>
  (cond ((y1.2.1 == (0 : Int)))
  ((cond ((y2.2.1 == (0 : Int)))
  ((cond ((y3.2.1 == (0 : Int)))
  ((cond ((((List.length y1.1 : Nat) : Int) == (3 : Int)))
  ((cond (inB (0 : Int) (List.length y1.1))
  ((cond ((eqT (.pair (.int .i64) (.pair (.int .i64) (.unit))) ((List.getD y1.1 (0) ((0 : Int), ((0 : Int), ()))).1, ((List.getD y1.1 (0) ((0 : Int), ((0 : Int), ()))).2.1, ())) ((2 : Int), ((3 : Int), ()))))
  ((cond ((y2.1 == (1 : Int)))
  ((cond ((y3.1 == (-3 : Int)))
  (((prime_Is (7 : Int)).bind fun y6 =>
  (cond (y6)
  (((prime_Is (9 : Int)).bind fun y7 =>
  (some (!y7))))
  ((some false)))))
  ((some false))))
  ((some false))))
  ((some false))))
  none))
  ((some false))))
  ((some false))))
  ((some false))))
  ((some false))))))
noncomputable def quadformlaw22_awake.en : En := ⟨7, [], .bool, false, fun x => quadformlaw22_awake⟩
noncomputable def quadformlaw22_awake.o : List En := [prime_Factor.en, prime_Kronecker.en, prime_Discriminant.en, prime_Is.en]
noncomputable def quadformlaw22_awake.oB : List EnB := []
def quadformlaw22_awake.h : HT := .n
noncomputable def quadformlaw22_awake.c : Code := Try.f7.body.getD .skip
noncomputable def quadformlaw22_awake.L : Lam := fun _ i s K => none
theorem quadformlaw22_awake.os : AllOk prog quadformlaw22_awake.o := ⟨prime_Factor.ok, prime_Kronecker.ok, prime_Discriminant.ok, prime_Is.ok, trivial⟩
theorem quadformlaw22_awake.osB : AllBOk prog quadformlaw22_awake.oB := trivial
theorem quadformlaw22_awake.hk (x) : semK env (orc quadformlaw22_awake.o) (orcB quadformlaw22_awake.oB) 56 (quadformlaw22_awake.L _) quadformlaw22_awake.c quadformlaw22_awake.h (S.init (avs [] x)) (fin env Try.f7 ⟨[], .bool, false, false⟩) = quadformlaw22_awake.en.g x := by kernel_rfl
theorem quadformlaw22_awake.ok : EnOk prog quadformlaw22_awake.en := by
  refine fun_ok (g := ⟨[], .bool, false, false⟩) (h := quadformlaw22_awake.h) (Λ := quadformlaw22_awake.L) tabs quadformlaw22_awake.os quadformlaw22_awake.osB Try.func7 (c := quadformlaw22_awake.c) (by kernel_rfl) (by decide +kernel) (by decide +kernel) (fun C hC => ?_) (fun x => quadformlaw22_awake.hk x)
  exact by
    have e : loops quadformlaw22_awake.c quadformlaw22_awake.h = [] := by kernel_rfl
    rw [e]
    exact LamOk.nil
noncomputable def quadformscene_Prime (t0 : Int) : Option (Int) :=
  let x1 := ((List.length ([(2 : Int), (3 : Int), (5 : Int), (7 : Int), (2 : Int), (3 : Int), (5 : Int), (11 : Int), (13 : Int), (17 : Int), (19 : Int), (23 : Int), (3 : Int), (2 : Int), (9973 : Int), (10007 : Int), (1 : Int), (4 : Int), (9 : Int), (-3 : Int)] : List (Int)) : Nat) : Int)
  (cond (decide (x1 = 0))
  none
  ((cond (inB (Int.tmod (IntKind.wrap .i64 t0) x1) (List.length ([(2 : Int), (3 : Int), (5 : Int), (7 : Int), (2 : Int), (3 : Int), (5 : Int), (11 : Int), (13 : Int), (17 : Int), (19 : Int), (23 : Int), (3 : Int), (2 : Int), (9973 : Int), (10007 : Int), (1 : Int), (4 : Int), (9 : Int), (-3 : Int)] : List (Int))))
  ((some (List.getD ([(2 : Int), (3 : Int), (5 : Int), (7 : Int), (2 : Int), (3 : Int), (5 : Int), (11 : Int), (13 : Int), (17 : Int), (19 : Int), (23 : Int), (3 : Int), (2 : Int), (9973 : Int), (10007 : Int), (1 : Int), (4 : Int), (9 : Int), (-3 : Int)] : List (Int)) (((Int.tmod (IntKind.wrap .i64 t0) x1)).toNat) (0 : Int))))
  none)))
noncomputable def quadformscene_Prime.en : En := ⟨8, [.int .u8], .int .i64, false, fun x => quadformscene_Prime x.1⟩
noncomputable def quadformscene_Prime.o : List En := []
noncomputable def quadformscene_Prime.oB : List EnB := []
def quadformscene_Prime.h : HT := .n
noncomputable def quadformscene_Prime.c : Code := Try.f8.body.getD .skip
noncomputable def quadformscene_Prime.L : Lam := fun _ i s K => none
theorem quadformscene_Prime.os : AllOk prog quadformscene_Prime.o := trivial
theorem quadformscene_Prime.osB : AllBOk prog quadformscene_Prime.oB := trivial
theorem quadformscene_Prime.hk (x) : semK env (orc quadformscene_Prime.o) (orcB quadformscene_Prime.oB) 13 (quadformscene_Prime.L _) quadformscene_Prime.c quadformscene_Prime.h (S.init (avs [.int .u8] x)) (fin env Try.f8 ⟨[.int .u8], .int .i64, false, false⟩) = quadformscene_Prime.en.g x := by kernel_rfl
theorem quadformscene_Prime.ok : EnOk prog quadformscene_Prime.en := by
  refine fun_ok (g := ⟨[.int .u8], .int .i64, false, false⟩) (h := quadformscene_Prime.h) (Λ := quadformscene_Prime.L) tabs quadformscene_Prime.os quadformscene_Prime.osB Try.func8 (c := quadformscene_Prime.c) (by kernel_rfl) (by decide +kernel) (by decide +kernel) (fun C hC => ?_) (fun x => quadformscene_Prime.hk x)
  exact by
    have e : loops quadformscene_Prime.c quadformscene_Prime.h = [] := by kernel_rfl
    rw [e]
    exact LamOk.nil
noncomputable def integer_trim.j1 (t0 : List Int) (t3 : Int) : Option ((List Int × Int × Unit) ⊕ ((List Int × Int × Unit))) :=
  (some (.inl (t0, (IntKind.wrap .i64 (t3 - (1 : Int))), ())))
noncomputable def integer_trim.s0 (t0 : List Int) (t3 : Int) : Option ((List Int × Int × Unit) ⊕ ((List Int × Int × Unit))) :=
  (cond ((decide (t3 > (0 : Int))))
  ((cond (inB (IntKind.wrap .i64 (t3 - (1 : Int))) (List.length t0))
  ((cond (((List.getD t0 (((IntKind.wrap .i64 (t3 - (1 : Int)))).toNat) (0 : Int)) == (0 : Int)))
  ((integer_trim.j1 t0 t3))
  ((some (.inr (t0, t3, ()))))))
  none))
  ((some (.inr (t0, t3, ())))))
noncomputable def integer_trim.k0 (t0 : List Int) (t3 : Int) : Option (List Int) :=
  (cond (inC t3 (List.length t0))
  (cond (decide (0 ≤ t3) && decide (t3 ≤ t3))
  ((some (List.take (t3.toNat) t0)))
  none)
  none)
noncomputable def integer_trim (t0 : List Int) : Option (List Int) :=
  ((iterL (fun x : List Int × Int × Unit => integer_trim.s0 x.1 x.2.1) (t0, ((List.length t0 : Nat) : Int), ())).bind fun y => integer_trim.k0 y.1 y.2.1)
noncomputable def integer_trim.en : En := ⟨44, [.sl (.int .u32)], .sl (.int .u32), false, fun x => integer_trim x.1⟩
noncomputable def integer_trim.o : List En := []
noncomputable def integer_trim.oB : List EnB := []
def integer_trim.h : HT := .two (.n) (.two (.n) (.two (.lp 0) (.n)))
noncomputable def integer_trim.c : Code := Try.f44.body.getD .skip
def integer_trim.h0 : HT := .n
noncomputable def integer_trim.c0 : Code := (find (loops integer_trim.c integer_trim.h) 0).getD .skip
def integer_trim.d0 : Fm := [.v 0 (.sl (.int .u32)), .v 3 (.int .i64)]
def integer_trim.x0 : Xs := [(.exit 0, [.v 0 (.sl (.int .u32)), .v 3 (.int .i64)])]
noncomputable def integer_trim.r0 (x : (Fm.ty integer_trim.d0).den) : Option ((Fm.ty integer_trim.d0).den ⊕ (Xs.T integer_trim.x0)) := integer_trim.s0 x.1 x.2.1
noncomputable def integer_trim.L : Lam := fun _ i s K => cond (Nat.beq i 0) (lamK integer_trim.d0 integer_trim.x0 integer_trim.r0 s K) (none)
theorem integer_trim.hf0 (x) : roundK env (orc integer_trim.o) (orcB integer_trim.oB) 22 integer_trim.L integer_trim.c0 integer_trim.h0 integer_trim.d0 integer_trim.x0 x = integer_trim.r0 x := by kernel_rfl
theorem integer_trim.os : AllOk prog integer_trim.o := trivial
theorem integer_trim.osB : AllBOk prog integer_trim.oB := trivial
theorem integer_trim.l0 {C : Ctx} (hC : C.n = 22) : LamAt prog C integer_trim.L 0 integer_trim.c0 := by
  intro R s K r hk
  refine loop_ok (D := integer_trim.d0) (X := integer_trim.x0) (h := integer_trim.h0) (f := integer_trim.r0) tabs (orc_ok _ integer_trim.os) (orcB_ok _ integer_trim.osB) (fun x => by rw [hC]; exact integer_trim.hf0 x) (Λ := integer_trim.L) ?_ (by kernel_rfl) (by kernel_rfl) (K := K) (s := s) (by exact hk)
  exact by
    have e : loops integer_trim.c0 integer_trim.h0 = [] := by kernel_rfl
    rw [e]
    exact LamOk.nil
theorem integer_trim.hk (x) : semK env (orc integer_trim.o) (orcB integer_trim.oB) 22 (integer_trim.L _) integer_trim.c integer_trim.h (S.init (avs [.sl (.int .u32)] x)) (fin env Try.f44 ⟨[.sl (.int .u32)], .sl (.int .u32), false, false⟩) = integer_trim.en.g x := by kernel_rfl
theorem integer_trim.ok : EnOk prog integer_trim.en := by
  refine fun_ok (g := ⟨[.sl (.int .u32)], .sl (.int .u32), false, false⟩) (h := integer_trim.h) (Λ := integer_trim.L) tabs integer_trim.os integer_trim.osB Try.func44 (c := integer_trim.c) (by kernel_rfl) (by decide +kernel) (by decide +kernel) (fun C hC => ?_) (fun x => integer_trim.hk x)
  exact by
    have e : loops integer_trim.c integer_trim.h = [(0, integer_trim.c0)] := by kernel_rfl
    rw [e]
    exact LamOk.cons (integer_trim.l0 hC) (LamOk.nil)
noncomputable def integer_signed.j1 (t0 : Bool) (t1 : List Int) (b4_1 : List Int) : Option (Bool × List Int × Unit) :=
  (some (t0, (t1, ())))
noncomputable def integer_signed (t0 : Bool) (t1 : List Int) : Option (Bool × List Int × Unit) :=
  ((integer_trim t1).bind fun y1 =>
  (cond ((((List.length y1 : Nat) : Int) == (0 : Int)))
  ((some (false, (([] : List Int), ()))))
  ((integer_signed.j1 t0 y1 ([] : List Int)))))
noncomputable def integer_signed.en : En := ⟨28, [.bool, .sl (.int .u32)], .pair (.bool) (.pair (.sl (.int .u32)) (.unit)), false, fun x => integer_signed x.1 x.2.1⟩
noncomputable def integer_signed.o : List En := [integer_trim.en]
noncomputable def integer_signed.oB : List EnB := []
def integer_signed.h : HT := .n
noncomputable def integer_signed.c : Code := Try.f28.body.getD .skip
noncomputable def integer_signed.L : Lam := fun _ i s K => none
theorem integer_signed.os : AllOk prog integer_signed.o := ⟨integer_trim.ok, trivial⟩
theorem integer_signed.osB : AllBOk prog integer_signed.oB := trivial
theorem integer_signed.hk (x) : semK env (orc integer_signed.o) (orcB integer_signed.oB) 14 (integer_signed.L _) integer_signed.c integer_signed.h (S.init (avs [.bool, .sl (.int .u32)] x)) (fin env Try.f28 ⟨[.bool, .sl (.int .u32)], .pair (.bool) (.pair (.sl (.int .u32)) (.unit)), false, false⟩) = integer_signed.en.g x := by kernel_rfl
theorem integer_signed.ok : EnOk prog integer_signed.en := by
  refine fun_ok (g := ⟨[.bool, .sl (.int .u32)], .pair (.bool) (.pair (.sl (.int .u32)) (.unit)), false, false⟩) (h := integer_signed.h) (Λ := integer_signed.L) tabs integer_signed.os integer_signed.osB Try.func28 (c := integer_signed.c) (by kernel_rfl) (by decide +kernel) (by decide +kernel) (fun C hC => ?_) (fun x => integer_signed.hk x)
  exact by
    have e : loops integer_signed.c integer_signed.h = [] := by kernel_rfl
    rw [e]
    exact LamOk.nil
noncomputable def integer_Small.j1 (t0 : Int) (t3 : Int) (b2_1 : List Int) : Option (Bool × List Int × Unit) :=
  ((integer_signed (decide (t0 < (0 : Int))) ([(IntKind.wrap .u32 t3), (IntKind.wrap .u32 (shrI .u64 t3 (32 : Int)))] : List (Int))).bind fun y3 =>
  (some (y3.1, (y3.2.1, ()))))
noncomputable def integer_Small (t0 : Int) : Option (Bool × List Int × Unit) :=
  (cond ((decide (t0 < (0 : Int))))
  ((integer_Small.j1 t0 (IntKind.wrap .u64 (0 - (IntKind.wrap .u64 t0))) ([] : List Int)))
  ((integer_Small.j1 t0 (IntKind.wrap .u64 t0) ([] : List Int))))
noncomputable def integer_Small.en : En := ⟨12, [.int .i64], .pair (.bool) (.pair (.sl (.int .u32)) (.unit)), false, fun x => integer_Small x.1⟩
noncomputable def integer_Small.o : List En := [integer_signed.en]
noncomputable def integer_Small.oB : List EnB := []
def integer_Small.h : HT := .n
noncomputable def integer_Small.c : Code := Try.f12.body.getD .skip
noncomputable def integer_Small.L : Lam := fun _ i s K => none
theorem integer_Small.os : AllOk prog integer_Small.o := ⟨integer_signed.ok, trivial⟩
theorem integer_Small.osB : AllBOk prog integer_Small.oB := trivial
theorem integer_Small.hk (x) : semK env (orc integer_Small.o) (orcB integer_Small.oB) 19 (integer_Small.L _) integer_Small.c integer_Small.h (S.init (avs [.int .i64] x)) (fin env Try.f12 ⟨[.int .i64], .pair (.bool) (.pair (.sl (.int .u32)) (.unit)), false, false⟩) = integer_Small.en.g x := by kernel_rfl
theorem integer_Small.ok : EnOk prog integer_Small.en := by
  refine fun_ok (g := ⟨[.int .i64], .pair (.bool) (.pair (.sl (.int .u32)) (.unit)), false, false⟩) (h := integer_Small.h) (Λ := integer_Small.L) tabs integer_Small.os integer_Small.osB Try.func12 (c := integer_Small.c) (by kernel_rfl) (by decide +kernel) (by decide +kernel) (fun C hC => ?_) (fun x => integer_Small.hk x)
  exact by
    have e : loops integer_Small.c integer_Small.h = [] := by kernel_rfl
    rw [e]
    exact LamOk.nil
noncomputable def integer_magnitude (t0 : Bool × List Int × Unit) : Option (List Int) :=
  ((integer_trim t0.2.1).bind fun y1 =>
  (some y1))
noncomputable def integer_magnitude.en : En := ⟨30, [.pair (.bool) (.pair (.sl (.int .u32)) (.unit))], .sl (.int .u32), false, fun x => integer_magnitude x.1⟩
noncomputable def integer_magnitude.o : List En := [integer_trim.en]
noncomputable def integer_magnitude.oB : List EnB := []
def integer_magnitude.h : HT := .n
noncomputable def integer_magnitude.c : Code := Try.f30.body.getD .skip
noncomputable def integer_magnitude.L : Lam := fun _ i s K => none
theorem integer_magnitude.os : AllOk prog integer_magnitude.o := ⟨integer_trim.ok, trivial⟩
theorem integer_magnitude.osB : AllBOk prog integer_magnitude.oB := trivial
theorem integer_magnitude.hk (x) : semK env (orc integer_magnitude.o) (orcB integer_magnitude.oB) 6 (integer_magnitude.L _) integer_magnitude.c integer_magnitude.h (S.init (avs [.pair (.bool) (.pair (.sl (.int .u32)) (.unit))] x)) (fin env Try.f30 ⟨[.pair (.bool) (.pair (.sl (.int .u32)) (.unit))], .sl (.int .u32), false, false⟩) = integer_magnitude.en.g x := by kernel_rfl
theorem integer_magnitude.ok : EnOk prog integer_magnitude.en := by
  refine fun_ok (g := ⟨[.pair (.bool) (.pair (.sl (.int .u32)) (.unit))], .sl (.int .u32), false, false⟩) (h := integer_magnitude.h) (Λ := integer_magnitude.L) tabs integer_magnitude.os integer_magnitude.osB Try.func30 (c := integer_magnitude.c) (by kernel_rfl) (by decide +kernel) (by decide +kernel) (fun C hC => ?_) (fun x => integer_magnitude.hk x)
  exact by
    have e : loops integer_magnitude.c integer_magnitude.h = [] := by kernel_rfl
    rw [e]
    exact LamOk.nil
noncomputable def integer_compare.j1  : Option (Int) :=
  (some (1 : Int))
noncomputable def integer_compare.j4  : Option ((List Int × List Int × Int × Unit) ⊕ ((Unit) ⊕ (Int × Unit))) :=
  (some (.inr (.inr ((1 : Int), ()))))
noncomputable def integer_compare.j5 (t0 : List Int) (t1 : List Int) (t5 : Int) : Option ((List Int × List Int × Int × Unit) ⊕ ((Unit) ⊕ (Int × Unit))) :=
  (some (.inl (t0, t1, (IntKind.wrap .i64 (t5 - (1 : Int))), ())))
noncomputable def integer_compare.j3 (t0 : List Int) (t1 : List Int) (t5 : Int) : Option ((List Int × List Int × Int × Unit) ⊕ ((Unit) ⊕ (Int × Unit))) :=
  (cond (inB t5 (List.length t0))
  ((cond (inB t5 (List.length t1))
  ((cond (((List.getD t0 (t5.toNat) (0 : Int)) != (List.getD t1 (t5.toNat) (0 : Int))))
  ((cond (inB t5 (List.length t0))
  ((cond (inB t5 (List.length t1))
  ((cond ((decide ((List.getD t0 (t5.toNat) (0 : Int)) < (List.getD t1 (t5.toNat) (0 : Int)))))
  ((some (.inr (.inr ((-1 : Int), ())))))
  ((integer_compare.j4))))
  none))
  none))
  ((integer_compare.j5 t0 t1 t5))))
  none))
  none)
noncomputable def integer_compare.s0 (t0 : List Int) (t1 : List Int) (t5 : Int) : Option ((List Int × List Int × Int × Unit) ⊕ ((Unit) ⊕ (Int × Unit))) :=
  (cond ((decide (t5 ≥ (0 : Int))))
  ((integer_compare.j3 t0 t1 t5))
  ((some (.inr (.inl ())))))
noncomputable def integer_compare.k0_0  : Option (Int) :=
  (some (0 : Int))
noncomputable def integer_compare.k0_1 (t4 : Int) : Option (Int) :=
  (some t4)
noncomputable def integer_compare.j2 (t0 : List Int) (t1 : List Int) : Option (Int) :=
  ((iterL (fun x : List Int × List Int × Int × Unit => integer_compare.s0 x.1 x.2.1 x.2.2.1) (t0, t1, (IntKind.wrap .i64 (((List.length t0 : Nat) : Int) - (1 : Int))), ())).bind fun z => Sum.casesOn z (fun y => integer_compare.k0_0) (fun z => integer_compare.k0_1 z.1))
noncomputable def integer_compare (t0 : List Int) (t1 : List Int) : Option (Int) :=
  (cond ((((List.length t0 : Nat) : Int) != ((List.length t1 : Nat) : Int)))
  ((cond ((decide (((List.length t0 : Nat) : Int) < ((List.length t1 : Nat) : Int))))
  ((some (-1 : Int)))
  ((integer_compare.j1))))
  ((integer_compare.j2 t0 t1)))
noncomputable def integer_compare.en : En := ⟨35, [.sl (.int .u32), .sl (.int .u32)], .int .i64, false, fun x => integer_compare x.1 x.2.1⟩
noncomputable def integer_compare.o : List En := []
noncomputable def integer_compare.oB : List EnB := []
def integer_compare.h : HT := .two (.n) (.two (.n) (.two (.two (.n) (.lp 0)) (.n)))
noncomputable def integer_compare.c : Code := Try.f35.body.getD .skip
def integer_compare.h0 : HT := .n
noncomputable def integer_compare.c0 : Code := (find (loops integer_compare.c integer_compare.h) 0).getD .skip
def integer_compare.d0 : Fm := [.v 0 (.sl (.int .u32)), .v 1 (.sl (.int .u32)), .v 5 (.int .i64)]
def integer_compare.x0 : Xs := [(.exit 0, []), (.ret, [.v 4 (.int .i64)])]
noncomputable def integer_compare.r0 (x : (Fm.ty integer_compare.d0).den) : Option ((Fm.ty integer_compare.d0).den ⊕ (Xs.T integer_compare.x0)) := integer_compare.s0 x.1 x.2.1 x.2.2.1
noncomputable def integer_compare.L : Lam := fun _ i s K => cond (Nat.beq i 0) (lamK integer_compare.d0 integer_compare.x0 integer_compare.r0 s K) (none)
theorem integer_compare.hf0 (x) : roundK env (orc integer_compare.o) (orcB integer_compare.oB) 41 integer_compare.L integer_compare.c0 integer_compare.h0 integer_compare.d0 integer_compare.x0 x = integer_compare.r0 x := by kernel_rfl
theorem integer_compare.os : AllOk prog integer_compare.o := trivial
theorem integer_compare.osB : AllBOk prog integer_compare.oB := trivial
theorem integer_compare.l0 {C : Ctx} (hC : C.n = 41) : LamAt prog C integer_compare.L 0 integer_compare.c0 := by
  intro R s K r hk
  refine loop_ok (D := integer_compare.d0) (X := integer_compare.x0) (h := integer_compare.h0) (f := integer_compare.r0) tabs (orc_ok _ integer_compare.os) (orcB_ok _ integer_compare.osB) (fun x => by rw [hC]; exact integer_compare.hf0 x) (Λ := integer_compare.L) ?_ (by kernel_rfl) (by kernel_rfl) (K := K) (s := s) (by exact hk)
  exact by
    have e : loops integer_compare.c0 integer_compare.h0 = [] := by kernel_rfl
    rw [e]
    exact LamOk.nil
theorem integer_compare.hk (x) : semK env (orc integer_compare.o) (orcB integer_compare.oB) 41 (integer_compare.L _) integer_compare.c integer_compare.h (S.init (avs [.sl (.int .u32), .sl (.int .u32)] x)) (fin env Try.f35 ⟨[.sl (.int .u32), .sl (.int .u32)], .int .i64, false, false⟩) = integer_compare.en.g x := by kernel_rfl
theorem integer_compare.ok : EnOk prog integer_compare.en := by
  refine fun_ok (g := ⟨[.sl (.int .u32), .sl (.int .u32)], .int .i64, false, false⟩) (h := integer_compare.h) (Λ := integer_compare.L) tabs integer_compare.os integer_compare.osB Try.func35 (c := integer_compare.c) (by kernel_rfl) (by decide +kernel) (by decide +kernel) (fun C hC => ?_) (fun x => integer_compare.hk x)
  exact by
    have e : loops integer_compare.c integer_compare.h = [(0, integer_compare.c0)] := by kernel_rfl
    rw [e]
    exact LamOk.cons (integer_compare.l0 hC) (LamOk.nil)
noncomputable def integer_shortDivide.j1 (t0 : List Int) (t1 : Int) (t7 : Int) (t8 : Int) (a11 : List (Int)) : Option ((List Int × Int × Int × Int × List Int × Unit) ⊕ ((Int × List Int × Unit))) :=
  (cond (inB t8 (List.length t0))
  (let x2 := (IntKind.wrap .u64 (List.getD t0 (t8.toNat) (0 : Int)))
  (cond (decide ((IntKind.wrap .u64 t1) = 0))
  none
  ((cond (inB t8 (List.length a11))
  ((cond (decide ((IntKind.wrap .u64 t1) = 0))
  none
  ((some (.inl (t0, t1, (Int.tmod (orI .u64 (shlI .u64 t7 (32 : Int)) x2) (IntKind.wrap .u64 t1)), (IntKind.wrap .i64 (t8 - (1 : Int))), (List.set a11 ((0 + t8.toNat)) (IntKind.wrap .u32 (IntKind.wrap .u64 (Int.tdiv (orI .u64 (shlI .u64 t7 (32 : Int)) x2) (IntKind.wrap .u64 t1))))), ()))))))
  none))))
  none)
noncomputable def integer_shortDivide.s0 (t0 : List Int) (t1 : Int) (t7 : Int) (t8 : Int) (a11 : List (Int)) : Option ((List Int × Int × Int × Int × List Int × Unit) ⊕ ((Int × List Int × Unit))) :=
  (cond ((decide (t8 ≥ (0 : Int))))
  ((integer_shortDivide.j1 t0 t1 t7 t8 a11))
  ((some (.inr (t7, a11, ())))))
noncomputable def integer_shortDivide.k0 (t7 : Int) (a11 : List (Int)) : Option (List Int × Int × Unit) :=
  ((integer_trim a11).bind fun y6 =>
  (some (y6, ((IntKind.wrap .u32 t7), ()))))
noncomputable def integer_shortDivide (t0 : List Int) (t1 : Int) : Option (List Int × Int × Unit) :=
  (cond (inC ((List.length t0 : Nat) : Int) maxL)
  (((iterL (fun x : List Int × Int × Int × Int × List Int × Unit => integer_shortDivide.s0 x.1 x.2.1 x.2.2.1 x.2.2.2.1 x.2.2.2.2.1) (t0, t1, (0 : Int), (IntKind.wrap .i64 (((List.length t0 : Nat) : Int) - (1 : Int))), (List.replicate ((((List.length t0 : Nat) : Int)).toNat) ((0 : Int) : Int)), ())).bind fun y => integer_shortDivide.k0 y.1 y.2.1))
  none)
noncomputable def integer_shortDivide.en : En := ⟨45, [.sl (.int .u32), .int .u32], .pair (.sl (.int .u32)) (.pair (.int .u32) (.unit)), true, fun x => integer_shortDivide x.1 x.2.1⟩
noncomputable def integer_shortDivide.o : List En := [integer_trim.en]
noncomputable def integer_shortDivide.oB : List EnB := []
def integer_shortDivide.h : HT := .two (.n) (.two (.n) (.two (.n) (.two (.two (.n) (.lp 0)) (.two (.fr [11] []) (.n)))))
noncomputable def integer_shortDivide.c : Code := Try.f45.body.getD .skip
def integer_shortDivide.h0 : HT := .n
noncomputable def integer_shortDivide.c0 : Code := (find (loops integer_shortDivide.c integer_shortDivide.h) 0).getD .skip
def integer_shortDivide.d0 : Fm := [.v 0 (.sl (.int .u32)), .v 1 (.int .u32), .v 7 (.int .u64), .v 8 (.int .i64), .arr 11 60 (.int .u32), .own 6 11]
def integer_shortDivide.x0 : Xs := [(.exit 0, [.v 7 (.int .u64), .arr 11 60 (.int .u32), .own 6 11])]
noncomputable def integer_shortDivide.r0 (x : (Fm.ty integer_shortDivide.d0).den) : Option ((Fm.ty integer_shortDivide.d0).den ⊕ (Xs.T integer_shortDivide.x0)) := integer_shortDivide.s0 x.1 x.2.1 x.2.2.1 x.2.2.2.1 x.2.2.2.2.1
noncomputable def integer_shortDivide.L : Lam := fun _ i s K => cond (Nat.beq i 0) (lamK integer_shortDivide.d0 integer_shortDivide.x0 integer_shortDivide.r0 s K) (none)
theorem integer_shortDivide.hf0 (x) : roundK env (orc integer_shortDivide.o) (orcB integer_shortDivide.oB) 43 integer_shortDivide.L integer_shortDivide.c0 integer_shortDivide.h0 integer_shortDivide.d0 integer_shortDivide.x0 x = integer_shortDivide.r0 x := by kernel_rfl
theorem integer_shortDivide.os : AllOk prog integer_shortDivide.o := ⟨integer_trim.ok, trivial⟩
theorem integer_shortDivide.osB : AllBOk prog integer_shortDivide.oB := trivial
theorem integer_shortDivide.l0 {C : Ctx} (hC : C.n = 43) : LamAt prog C integer_shortDivide.L 0 integer_shortDivide.c0 := by
  intro R s K r hk
  refine loop_ok (D := integer_shortDivide.d0) (X := integer_shortDivide.x0) (h := integer_shortDivide.h0) (f := integer_shortDivide.r0) tabs (orc_ok _ integer_shortDivide.os) (orcB_ok _ integer_shortDivide.osB) (fun x => by rw [hC]; exact integer_shortDivide.hf0 x) (Λ := integer_shortDivide.L) ?_ (by kernel_rfl) (by kernel_rfl) (K := K) (s := s) (by exact hk)
  exact by
    have e : loops integer_shortDivide.c0 integer_shortDivide.h0 = [] := by kernel_rfl
    rw [e]
    exact LamOk.nil
theorem integer_shortDivide.hk (x) : semK env (orc integer_shortDivide.o) (orcB integer_shortDivide.oB) 43 (integer_shortDivide.L _) integer_shortDivide.c integer_shortDivide.h (S.init (avs [.sl (.int .u32), .int .u32] x)) (fin env Try.f45 ⟨[.sl (.int .u32), .int .u32], .pair (.sl (.int .u32)) (.pair (.int .u32) (.unit)), true, false⟩) = integer_shortDivide.en.g x := by kernel_rfl
theorem integer_shortDivide.ok : EnOk prog integer_shortDivide.en := by
  refine fun_ok (g := ⟨[.sl (.int .u32), .int .u32], .pair (.sl (.int .u32)) (.pair (.int .u32) (.unit)), true, false⟩) (h := integer_shortDivide.h) (Λ := integer_shortDivide.L) tabs integer_shortDivide.os integer_shortDivide.osB Try.func45 (c := integer_shortDivide.c) (by kernel_rfl) (by decide +kernel) (by decide +kernel) (fun C hC => ?_) (fun x => integer_shortDivide.hk x)
  exact by
    have e : loops integer_shortDivide.c integer_shortDivide.h = [(0, integer_shortDivide.c0)] := by kernel_rfl
    rw [e]
    exact LamOk.cons (integer_shortDivide.l0 hC) (LamOk.nil)
noncomputable def bits_Len32.j2 (t0 : Int) (t2 : Int) : Option (Int) :=
  (cond (inB (IntKind.wrap .u8 t0) (ByteArray.size (⟨#[0, 1, 2, 2, 3, 3, 3, 3, 4, 4, 4, 4, 4, 4, 4, 4, 5, 5, 5, 5, 5, 5, 5, 5, 5, 5, 5, 5, 5, 5, 5, 5, 6, 6, 6, 6, 6, 6, 6, 6, 6, 6, 6, 6, 6, 6, 6, 6, 6, 6, 6, 6, 6, 6, 6, 6, 6, 6, 6, 6, 6, 6, 6, 6, 7, 7, 7, 7, 7, 7, 7, 7, 7, 7, 7, 7, 7, 7, 7, 7, 7, 7, 7, 7, 7, 7, 7, 7, 7, 7, 7, 7, 7, 7, 7, 7, 7, 7, 7, 7, 7, 7, 7, 7, 7, 7, 7, 7, 7, 7, 7, 7, 7, 7, 7, 7, 7, 7, 7, 7, 7, 7, 7, 7, 7, 7, 7, 7, 8, 8, 8, 8, 8, 8, 8, 8, 8, 8, 8, 8, 8, 8, 8, 8, 8, 8, 8, 8, 8, 8, 8, 8, 8, 8, 8, 8, 8, 8, 8, 8, 8, 8, 8, 8, 8, 8, 8, 8, 8, 8, 8, 8, 8, 8, 8, 8, 8, 8, 8, 8, 8, 8, 8, 8, 8, 8, 8, 8, 8, 8, 8, 8, 8, 8, 8, 8, 8, 8, 8, 8, 8, 8, 8, 8, 8, 8, 8, 8, 8, 8, 8, 8, 8, 8, 8, 8, 8, 8, 8, 8, 8, 8, 8, 8, 8, 8, 8, 8, 8, 8, 8, 8, 8, 8, 8, 8, 8, 8, 8, 8, 8, 8, 8, 8, 8, 8, 8, 8, 8, 8, 8, 8, 8, 8, 8, 8]⟩ : ByteArray)))
  ((some (IntKind.wrap .i64 (t2 + (IntKind.wrap .i64 (((ByteArray.get! (⟨#[0, 1, 2, 2, 3, 3, 3, 3, 4, 4, 4, 4, 4, 4, 4, 4, 5, 5, 5, 5, 5, 5, 5, 5, 5, 5, 5, 5, 5, 5, 5, 5, 6, 6, 6, 6, 6, 6, 6, 6, 6, 6, 6, 6, 6, 6, 6, 6, 6, 6, 6, 6, 6, 6, 6, 6, 6, 6, 6, 6, 6, 6, 6, 6, 7, 7, 7, 7, 7, 7, 7, 7, 7, 7, 7, 7, 7, 7, 7, 7, 7, 7, 7, 7, 7, 7, 7, 7, 7, 7, 7, 7, 7, 7, 7, 7, 7, 7, 7, 7, 7, 7, 7, 7, 7, 7, 7, 7, 7, 7, 7, 7, 7, 7, 7, 7, 7, 7, 7, 7, 7, 7, 7, 7, 7, 7, 7, 7, 8, 8, 8, 8, 8, 8, 8, 8, 8, 8, 8, 8, 8, 8, 8, 8, 8, 8, 8, 8, 8, 8, 8, 8, 8, 8, 8, 8, 8, 8, 8, 8, 8, 8, 8, 8, 8, 8, 8, 8, 8, 8, 8, 8, 8, 8, 8, 8, 8, 8, 8, 8, 8, 8, 8, 8, 8, 8, 8, 8, 8, 8, 8, 8, 8, 8, 8, 8, 8, 8, 8, 8, 8, 8, 8, 8, 8, 8, 8, 8, 8, 8, 8, 8, 8, 8, 8, 8, 8, 8, 8, 8, 8, 8, 8, 8, 8, 8, 8, 8, 8, 8, 8, 8, 8, 8, 8, 8, 8, 8, 8, 8, 8, 8, 8, 8, 8, 8, 8, 8, 8, 8, 8, 8, 8, 8, 8, 8]⟩ : ByteArray) (((IntKind.wrap .u8 t0)).toNat)).toNat : Nat) : Int))))))
  none)
noncomputable def bits_Len32.j3 (t0 : Int) : Option (Int) :=
  (cond (inB (IntKind.wrap .u8 t0) (ByteArray.size (⟨#[0, 1, 2, 2, 3, 3, 3, 3, 4, 4, 4, 4, 4, 4, 4, 4, 5, 5, 5, 5, 5, 5, 5, 5, 5, 5, 5, 5, 5, 5, 5, 5, 6, 6, 6, 6, 6, 6, 6, 6, 6, 6, 6, 6, 6, 6, 6, 6, 6, 6, 6, 6, 6, 6, 6, 6, 6, 6, 6, 6, 6, 6, 6, 6, 7, 7, 7, 7, 7, 7, 7, 7, 7, 7, 7, 7, 7, 7, 7, 7, 7, 7, 7, 7, 7, 7, 7, 7, 7, 7, 7, 7, 7, 7, 7, 7, 7, 7, 7, 7, 7, 7, 7, 7, 7, 7, 7, 7, 7, 7, 7, 7, 7, 7, 7, 7, 7, 7, 7, 7, 7, 7, 7, 7, 7, 7, 7, 7, 8, 8, 8, 8, 8, 8, 8, 8, 8, 8, 8, 8, 8, 8, 8, 8, 8, 8, 8, 8, 8, 8, 8, 8, 8, 8, 8, 8, 8, 8, 8, 8, 8, 8, 8, 8, 8, 8, 8, 8, 8, 8, 8, 8, 8, 8, 8, 8, 8, 8, 8, 8, 8, 8, 8, 8, 8, 8, 8, 8, 8, 8, 8, 8, 8, 8, 8, 8, 8, 8, 8, 8, 8, 8, 8, 8, 8, 8, 8, 8, 8, 8, 8, 8, 8, 8, 8, 8, 8, 8, 8, 8, 8, 8, 8, 8, 8, 8, 8, 8, 8, 8, 8, 8, 8, 8, 8, 8, 8, 8, 8, 8, 8, 8, 8, 8, 8, 8, 8, 8, 8, 8, 8, 8, 8, 8, 8, 8]⟩ : ByteArray)))
  ((some (IntKind.wrap .i64 ((16 : Int) + (IntKind.wrap .i64 (((ByteArray.get! (⟨#[0, 1, 2, 2, 3, 3, 3, 3, 4, 4, 4, 4, 4, 4, 4, 4, 5, 5, 5, 5, 5, 5, 5, 5, 5, 5, 5, 5, 5, 5, 5, 5, 6, 6, 6, 6, 6, 6, 6, 6, 6, 6, 6, 6, 6, 6, 6, 6, 6, 6, 6, 6, 6, 6, 6, 6, 6, 6, 6, 6, 6, 6, 6, 6, 7, 7, 7, 7, 7, 7, 7, 7, 7, 7, 7, 7, 7, 7, 7, 7, 7, 7, 7, 7, 7, 7, 7, 7, 7, 7, 7, 7, 7, 7, 7, 7, 7, 7, 7, 7, 7, 7, 7, 7, 7, 7, 7, 7, 7, 7, 7, 7, 7, 7, 7, 7, 7, 7, 7, 7, 7, 7, 7, 7, 7, 7, 7, 7, 8, 8, 8, 8, 8, 8, 8, 8, 8, 8, 8, 8, 8, 8, 8, 8, 8, 8, 8, 8, 8, 8, 8, 8, 8, 8, 8, 8, 8, 8, 8, 8, 8, 8, 8, 8, 8, 8, 8, 8, 8, 8, 8, 8, 8, 8, 8, 8, 8, 8, 8, 8, 8, 8, 8, 8, 8, 8, 8, 8, 8, 8, 8, 8, 8, 8, 8, 8, 8, 8, 8, 8, 8, 8, 8, 8, 8, 8, 8, 8, 8, 8, 8, 8, 8, 8, 8, 8, 8, 8, 8, 8, 8, 8, 8, 8, 8, 8, 8, 8, 8, 8, 8, 8, 8, 8, 8, 8, 8, 8, 8, 8, 8, 8, 8, 8, 8, 8, 8, 8, 8, 8, 8, 8, 8, 8, 8, 8]⟩ : ByteArray) (((IntKind.wrap .u8 t0)).toNat)).toNat : Nat) : Int))))))
  none)
noncomputable def bits_Len32.j1 (t0 : Int) : Option (Int) :=
  (cond ((decide (t0 ≥ (256 : Int))))
  ((bits_Len32.j2 (shrI .u32 t0 (8 : Int)) (IntKind.wrap .i64 ((16 : Int) + (8 : Int)))))
  ((bits_Len32.j3 t0)))
noncomputable def bits_Len32.j5 (t0 : Int) : Option (Int) :=
  (cond (inB (IntKind.wrap .u8 t0) (ByteArray.size (⟨#[0, 1, 2, 2, 3, 3, 3, 3, 4, 4, 4, 4, 4, 4, 4, 4, 5, 5, 5, 5, 5, 5, 5, 5, 5, 5, 5, 5, 5, 5, 5, 5, 6, 6, 6, 6, 6, 6, 6, 6, 6, 6, 6, 6, 6, 6, 6, 6, 6, 6, 6, 6, 6, 6, 6, 6, 6, 6, 6, 6, 6, 6, 6, 6, 7, 7, 7, 7, 7, 7, 7, 7, 7, 7, 7, 7, 7, 7, 7, 7, 7, 7, 7, 7, 7, 7, 7, 7, 7, 7, 7, 7, 7, 7, 7, 7, 7, 7, 7, 7, 7, 7, 7, 7, 7, 7, 7, 7, 7, 7, 7, 7, 7, 7, 7, 7, 7, 7, 7, 7, 7, 7, 7, 7, 7, 7, 7, 7, 8, 8, 8, 8, 8, 8, 8, 8, 8, 8, 8, 8, 8, 8, 8, 8, 8, 8, 8, 8, 8, 8, 8, 8, 8, 8, 8, 8, 8, 8, 8, 8, 8, 8, 8, 8, 8, 8, 8, 8, 8, 8, 8, 8, 8, 8, 8, 8, 8, 8, 8, 8, 8, 8, 8, 8, 8, 8, 8, 8, 8, 8, 8, 8, 8, 8, 8, 8, 8, 8, 8, 8, 8, 8, 8, 8, 8, 8, 8, 8, 8, 8, 8, 8, 8, 8, 8, 8, 8, 8, 8, 8, 8, 8, 8, 8, 8, 8, 8, 8, 8, 8, 8, 8, 8, 8, 8, 8, 8, 8, 8, 8, 8, 8, 8, 8, 8, 8, 8, 8, 8, 8, 8, 8, 8, 8, 8, 8]⟩ : ByteArray)))
  ((some (IntKind.wrap .i64 ((0 : Int) + (IntKind.wrap .i64 (((ByteArray.get! (⟨#[0, 1, 2, 2, 3, 3, 3, 3, 4, 4, 4, 4, 4, 4, 4, 4, 5, 5, 5, 5, 5, 5, 5, 5, 5, 5, 5, 5, 5, 5, 5, 5, 6, 6, 6, 6, 6, 6, 6, 6, 6, 6, 6, 6, 6, 6, 6, 6, 6, 6, 6, 6, 6, 6, 6, 6, 6, 6, 6, 6, 6, 6, 6, 6, 7, 7, 7, 7, 7, 7, 7, 7, 7, 7, 7, 7, 7, 7, 7, 7, 7, 7, 7, 7, 7, 7, 7, 7, 7, 7, 7, 7, 7, 7, 7, 7, 7, 7, 7, 7, 7, 7, 7, 7, 7, 7, 7, 7, 7, 7, 7, 7, 7, 7, 7, 7, 7, 7, 7, 7, 7, 7, 7, 7, 7, 7, 7, 7, 8, 8, 8, 8, 8, 8, 8, 8, 8, 8, 8, 8, 8, 8, 8, 8, 8, 8, 8, 8, 8, 8, 8, 8, 8, 8, 8, 8, 8, 8, 8, 8, 8, 8, 8, 8, 8, 8, 8, 8, 8, 8, 8, 8, 8, 8, 8, 8, 8, 8, 8, 8, 8, 8, 8, 8, 8, 8, 8, 8, 8, 8, 8, 8, 8, 8, 8, 8, 8, 8, 8, 8, 8, 8, 8, 8, 8, 8, 8, 8, 8, 8, 8, 8, 8, 8, 8, 8, 8, 8, 8, 8, 8, 8, 8, 8, 8, 8, 8, 8, 8, 8, 8, 8, 8, 8, 8, 8, 8, 8, 8, 8, 8, 8, 8, 8, 8, 8, 8, 8, 8, 8, 8, 8, 8, 8, 8, 8]⟩ : ByteArray) (((IntKind.wrap .u8 t0)).toNat)).toNat : Nat) : Int))))))
  none)
noncomputable def bits_Len32.j4 (t0 : Int) : Option (Int) :=
  (cond ((decide (t0 ≥ (256 : Int))))
  ((bits_Len32.j2 (shrI .u32 t0 (8 : Int)) (IntKind.wrap .i64 ((0 : Int) + (8 : Int)))))
  ((bits_Len32.j5 t0)))
noncomputable def bits_Len32 (t0 : Int) : Option (Int) :=
  (cond ((decide (t0 ≥ (65536 : Int))))
  ((bits_Len32.j1 (shrI .u32 t0 (16 : Int))))
  ((bits_Len32.j4 t0)))
noncomputable def bits_Len32.en : En := ⟨56, [.int .u32], .int .i64, false, fun x => bits_Len32 x.1⟩
noncomputable def bits_Len32.o : List En := []
noncomputable def bits_Len32.oB : List EnB := []
def bits_Len32.h : HT := .n
noncomputable def bits_Len32.c : Code := Try.f56.body.getD .skip
noncomputable def bits_Len32.L : Lam := fun _ i s K => none
theorem bits_Len32.os : AllOk prog bits_Len32.o := trivial
theorem bits_Len32.osB : AllBOk prog bits_Len32.oB := trivial
theorem bits_Len32.hk (x) : semK env (orc bits_Len32.o) (orcB bits_Len32.oB) 19 (bits_Len32.L _) bits_Len32.c bits_Len32.h (S.init (avs [.int .u32] x)) (fin env Try.f56 ⟨[.int .u32], .int .i64, false, false⟩) = bits_Len32.en.g x := by kernel_rfl
theorem bits_Len32.ok : EnOk prog bits_Len32.en := by
  refine fun_ok (g := ⟨[.int .u32], .int .i64, false, false⟩) (h := bits_Len32.h) (Λ := bits_Len32.L) tabs bits_Len32.os bits_Len32.osB Try.func56 (c := bits_Len32.c) (by kernel_rfl) (by decide +kernel) (by decide +kernel) (fun C hC => ?_) (fun x => bits_Len32.hk x)
  exact by
    have e : loops bits_Len32.c bits_Len32.h = [] := by kernel_rfl
    rw [e]
    exact LamOk.nil
noncomputable def bits_LeadingZeros32 (t0 : Int) : Option (Int) :=
  ((bits_Len32 t0).bind fun y1 =>
  (some (IntKind.wrap .i64 ((32 : Int) - y1))))
noncomputable def bits_LeadingZeros32.en : En := ⟨46, [.int .u32], .int .i64, false, fun x => bits_LeadingZeros32 x.1⟩
noncomputable def bits_LeadingZeros32.o : List En := [bits_Len32.en]
noncomputable def bits_LeadingZeros32.oB : List EnB := []
def bits_LeadingZeros32.h : HT := .n
noncomputable def bits_LeadingZeros32.c : Code := Try.f46.body.getD .skip
noncomputable def bits_LeadingZeros32.L : Lam := fun _ i s K => none
theorem bits_LeadingZeros32.os : AllOk prog bits_LeadingZeros32.o := ⟨bits_Len32.ok, trivial⟩
theorem bits_LeadingZeros32.osB : AllBOk prog bits_LeadingZeros32.oB := trivial
theorem bits_LeadingZeros32.hk (x) : semK env (orc bits_LeadingZeros32.o) (orcB bits_LeadingZeros32.oB) 6 (bits_LeadingZeros32.L _) bits_LeadingZeros32.c bits_LeadingZeros32.h (S.init (avs [.int .u32] x)) (fin env Try.f46 ⟨[.int .u32], .int .i64, false, false⟩) = bits_LeadingZeros32.en.g x := by kernel_rfl
theorem bits_LeadingZeros32.ok : EnOk prog bits_LeadingZeros32.en := by
  refine fun_ok (g := ⟨[.int .u32], .int .i64, false, false⟩) (h := bits_LeadingZeros32.h) (Λ := bits_LeadingZeros32.L) tabs bits_LeadingZeros32.os bits_LeadingZeros32.osB Try.func46 (c := bits_LeadingZeros32.c) (by kernel_rfl) (by decide +kernel) (by decide +kernel) (fun C hC => ?_) (fun x => bits_LeadingZeros32.hk x)
  exact by
    have e : loops bits_LeadingZeros32.c bits_LeadingZeros32.h = [] := by kernel_rfl
    rw [e]
    exact LamOk.nil
noncomputable def integer_shift.j1 (t0 : List Int) (t1 : Int) (t13 : Int) (t14 : Int) (a11 : List (Int)) : Option ((List Int × Int × Int × Int × List Int × Unit) ⊕ ((List Int × Unit))) :=
  (cond (inB t14 (List.length t0))
  (let x2 := (IntKind.wrap .u64 (List.getD t0 (t14.toNat) (0 : Int)))
  (cond (decide (t1 < 0))
  none
  ((cond (inB t14 (List.length a11))
  (let x4 := (orI .u32 (List.getD a11 ((0 + t14.toNat)) (0 : Int)) (IntKind.wrap .u32 (shlI .u64 x2 t1)))
  (cond (inB t14 (List.length a11))
  ((cond (inB (IntKind.wrap .i64 (t14 + (1 : Int))) (List.length (List.set a11 ((0 + t14.toNat)) x4)))
  ((some (.inl (t0, t1, t13, (IntKind.wrap .i64 (t14 + (1 : Int))), (List.set (List.set a11 ((0 + t14.toNat)) x4) ((0 + (((IntKind.wrap .i64 (t14 + (1 : Int)))).toNat))) (IntKind.wrap .u32 (shrI .u64 (shlI .u64 x2 t1) (32 : Int)))), ()))))
  none))
  none))
  none))))
  none)
noncomputable def integer_shift.s0 (t0 : List Int) (t1 : Int) (t13 : Int) (t14 : Int) (a11 : List (Int)) : Option ((List Int × Int × Int × Int × List Int × Unit) ⊕ ((List Int × Unit))) :=
  (cond ((decide (t14 < t13)))
  ((integer_shift.j1 t0 t1 t13 t14 a11))
  ((some (.inr (a11, ())))))
noncomputable def integer_shift.k0 (a11 : List (Int)) : Option (List Int) :=
  (some a11)
noncomputable def integer_shift (t0 : List Int) (t1 : Int) : Option (List Int) :=
  let x1 := (IntKind.wrap .i64 (((List.length t0 : Nat) : Int) + (1 : Int)))
  (cond (inC x1 maxL)
  (((iterL (fun x : List Int × Int × Int × Int × List Int × Unit => integer_shift.s0 x.1 x.2.1 x.2.2.1 x.2.2.2.1 x.2.2.2.2.1) (t0, t1, ((List.length t0 : Nat) : Int), (0 : Int), (List.replicate (x1.toNat) ((0 : Int) : Int)), ())).bind fun y => integer_shift.k0 y.1))
  none)
noncomputable def integer_shift.en : En := ⟨47, [.sl (.int .u32), .int .u64], .sl (.int .u32), true, fun x => integer_shift x.1 x.2.1⟩
noncomputable def integer_shift.o : List En := []
noncomputable def integer_shift.oB : List EnB := []
def integer_shift.h : HT := .two (.n) (.two (.n) (.two (.two (.n) (.lp 0)) (.n)))
noncomputable def integer_shift.c : Code := Try.f47.body.getD .skip
def integer_shift.h0 : HT := .n
noncomputable def integer_shift.c0 : Code := (find (loops integer_shift.c integer_shift.h) 0).getD .skip
def integer_shift.d0 : Fm := [.v 0 (.sl (.int .u32)), .v 1 (.int .u64), .v 13 (.int .i64), .v 14 (.int .i64), .arr 11 60 (.int .u32), .own 5 11]
def integer_shift.x0 : Xs := [(.exit 0, [.arr 11 60 (.int .u32), .own 5 11])]
noncomputable def integer_shift.r0 (x : (Fm.ty integer_shift.d0).den) : Option ((Fm.ty integer_shift.d0).den ⊕ (Xs.T integer_shift.x0)) := integer_shift.s0 x.1 x.2.1 x.2.2.1 x.2.2.2.1 x.2.2.2.2.1
noncomputable def integer_shift.L : Lam := fun _ i s K => cond (Nat.beq i 0) (lamK integer_shift.d0 integer_shift.x0 integer_shift.r0 s K) (none)
theorem integer_shift.hf0 (x) : roundK env (orc integer_shift.o) (orcB integer_shift.oB) 41 integer_shift.L integer_shift.c0 integer_shift.h0 integer_shift.d0 integer_shift.x0 x = integer_shift.r0 x := by kernel_rfl
theorem integer_shift.os : AllOk prog integer_shift.o := trivial
theorem integer_shift.osB : AllBOk prog integer_shift.oB := trivial
theorem integer_shift.l0 {C : Ctx} (hC : C.n = 41) : LamAt prog C integer_shift.L 0 integer_shift.c0 := by
  intro R s K r hk
  refine loop_ok (D := integer_shift.d0) (X := integer_shift.x0) (h := integer_shift.h0) (f := integer_shift.r0) tabs (orc_ok _ integer_shift.os) (orcB_ok _ integer_shift.osB) (fun x => by rw [hC]; exact integer_shift.hf0 x) (Λ := integer_shift.L) ?_ (by kernel_rfl) (by kernel_rfl) (K := K) (s := s) (by exact hk)
  exact by
    have e : loops integer_shift.c0 integer_shift.h0 = [] := by kernel_rfl
    rw [e]
    exact LamOk.nil
theorem integer_shift.hk (x) : semK env (orc integer_shift.o) (orcB integer_shift.oB) 41 (integer_shift.L _) integer_shift.c integer_shift.h (S.init (avs [.sl (.int .u32), .int .u64] x)) (finN Try.f47 (.int .u32)) = integer_shift.en.g x := by kernel_rfl
theorem integer_shift.ok : EnOk prog integer_shift.en := by
  refine funN_ok (ki := .u32) (g := ⟨[.sl (.int .u32), .int .u64], .sl (.int .u32), true, false⟩) (h := integer_shift.h) (Λ := integer_shift.L) tabs integer_shift.os integer_shift.osB Try.func47 (c := integer_shift.c) (by kernel_rfl) (by decide +kernel) (by decide +kernel) (fun C hC => ?_) (fun x => integer_shift.hk x)
  exact by
    have e : loops integer_shift.c integer_shift.h = [(0, integer_shift.c0)] := by kernel_rfl
    rw [e]
    exact LamOk.cons (integer_shift.l0 hC) (LamOk.nil)
noncomputable def integer_digit.j1 (t1 : List Int) (t5 : Int) (t7 : Int) (t8 : Int) (a1000000 : List (Int)) : Option ((List Int × Int × Int × Int × List Int × Unit) ⊕ ((List Int × Int × Int × List Int × Unit))) :=
  (cond (inB (IntKind.wrap .i64 (t5 - (1 : Int))) (List.length t1))
  ((some (.inl (t1, t5, (IntKind.wrap .u64 (t7 - (1 : Int))), (IntKind.wrap .u64 (t8 + (IntKind.wrap .u64 (List.getD t1 (((IntKind.wrap .i64 (t5 - (1 : Int)))).toNat) (0 : Int))))), a1000000, ()))))
  none)
noncomputable def integer_digit.s0 (t1 : List Int) (t5 : Int) (t7 : Int) (t8 : Int) (a1000000 : List (Int)) : Option ((List Int × Int × Int × Int × List Int × Unit) ⊕ ((List Int × Int × Int × List Int × Unit))) :=
  (cond ((decide (t8 < (4294967296 : Int))))
  ((cond (inB (IntKind.wrap .i64 (t5 - (2 : Int))) (List.length t1))
  ((cond (inB (IntKind.wrap .i64 (t5 - (2 : Int))) (List.length a1000000))
  ((cond ((decide ((IntKind.wrap .u64 (t7 * (IntKind.wrap .u64 (List.getD t1 (((IntKind.wrap .i64 (t5 - (2 : Int)))).toNat) (0 : Int))))) > (orI .u64 (shlI .u64 t8 (32 : Int)) (IntKind.wrap .u64 (List.getD a1000000 ((0 + (((IntKind.wrap .i64 (t5 - (2 : Int)))).toNat))) (0 : Int)))))))
  ((integer_digit.j1 t1 t5 t7 t8 a1000000))
  ((some (.inr (t1, t5, t7, a1000000, ()))))))
  none))
  none))
  ((some (.inr (t1, t5, t7, a1000000, ())))))
noncomputable def integer_digit.j2 (t1 : List Int) (t5 : Int) (t7 : Int) (t9 : Int) (t10 : Int) (t81 : Int) (t82 : Int) (a1000000 : List (Int)) : Option ((List Int × Int × Int × Int × Int × Int × Int × List Int × Unit) ⊕ ((List Int × Int × Int × Int × Int × List Int × Unit))) :=
  (cond (inB t82 (List.length t1))
  (let x19 := (IntKind.wrap .u64 (t10 + (IntKind.wrap .u64 (t7 * (IntKind.wrap .u64 (List.getD t1 (t82.toNat) (0 : Int)))))))
  (cond (inB t82 (List.length a1000000))
  (let x21 := (IntKind.wrap .u64 ((IntKind.wrap .u64 (List.getD a1000000 ((0 + t82.toNat)) (0 : Int))) - (andI .u64 x19 (4294967295 : Int))))
  (cond (inB t82 (List.length a1000000))
  ((some (.inl (t1, t5, t7, (shrI .u64 (IntKind.wrap .u64 (x21 - t9)) (63 : Int)), (shrI .u64 x19 (32 : Int)), t81, (IntKind.wrap .i64 (t82 + (1 : Int))), (List.set a1000000 ((0 + t82.toNat)) (IntKind.wrap .u32 (IntKind.wrap .u64 (x21 - t9)))), ()))))
  none))
  none))
  none)
noncomputable def integer_digit.s1 (t1 : List Int) (t5 : Int) (t7 : Int) (t9 : Int) (t10 : Int) (t81 : Int) (t82 : Int) (a1000000 : List (Int)) : Option ((List Int × Int × Int × Int × Int × Int × Int × List Int × Unit) ⊕ ((List Int × Int × Int × Int × Int × List Int × Unit))) :=
  (cond ((decide (t82 < t81)))
  ((integer_digit.j2 t1 t5 t7 t9 t10 t81 t82 a1000000))
  ((some (.inr (t1, t5, t7, t9, t10, a1000000, ())))))
noncomputable def integer_digit.j4 (t1 : List Int) (t5 : Int) (t7 : Int) (t10 : Int) (t133 : Int) (t134 : Int) (a1000000 : List (Int)) : Option ((List Int × Int × Int × Int × Int × Int × List Int × Unit) ⊕ ((Int × Int × Int × List Int × Unit))) :=
  (cond (inB t134 (List.length a1000000))
  ((cond (inB t134 (List.length t1))
  (let x31 := (IntKind.wrap .u64 ((IntKind.wrap .u64 (List.getD a1000000 ((0 + t134.toNat)) (0 : Int))) + (IntKind.wrap .u64 (List.getD t1 (t134.toNat) (0 : Int)))))
  (cond (inB t134 (List.length a1000000))
  ((some (.inl (t1, t5, t7, (shrI .u64 (IntKind.wrap .u64 (t10 + x31)) (32 : Int)), t133, (IntKind.wrap .i64 (t134 + (1 : Int))), (List.set a1000000 ((0 + t134.toNat)) (IntKind.wrap .u32 (IntKind.wrap .u64 (t10 + x31)))), ()))))
  none))
  none))
  none)
noncomputable def integer_digit.s2 (t1 : List Int) (t5 : Int) (t7 : Int) (t10 : Int) (t133 : Int) (t134 : Int) (a1000000 : List (Int)) : Option ((List Int × Int × Int × Int × Int × Int × List Int × Unit) ⊕ ((Int × Int × Int × List Int × Unit))) :=
  (cond ((decide (t134 < t133)))
  ((integer_digit.j4 t1 t5 t7 t10 t133 t134 a1000000))
  ((some (.inr (t5, t7, t10, a1000000, ())))))
noncomputable def integer_digit.k2 (z0 : List (Int)) (t5 : Int) (t7 : Int) (t10 : Int) (a1000000 : List (Int)) : Option ((Int) × List (Int)) :=
  (cond (inB t5 (List.length a1000000))
  (let x36 := (IntKind.wrap .u32 ((List.getD a1000000 ((0 + t5.toNat)) (0 : Int)) + (IntKind.wrap .u32 t10)))
  (cond (inB t5 (List.length a1000000))
  ((cond (Nat.beq (List.length ((List.set a1000000 ((0 + t5.toNat)) x36))) (List.length z0)) (some ((IntKind.wrap .u32 (IntKind.wrap .u64 (t7 - (1 : Int)))), (List.set a1000000 ((0 + t5.toNat)) x36))) none))
  none))
  none)
noncomputable def integer_digit.j3 (z0 : List (Int)) (t1 : List Int) (t5 : Int) (t7 : Int) (a1000000 : List (Int)) : Option ((Int) × List (Int)) :=
  ((iterL (fun x : List Int × Int × Int × Int × Int × Int × List Int × Unit => integer_digit.s2 x.1 x.2.1 x.2.2.1 x.2.2.2.1 x.2.2.2.2.1 x.2.2.2.2.2.1 x.2.2.2.2.2.2.1) (t1, t5, t7, (0 : Int), t5, (0 : Int), a1000000, ())).bind fun y => integer_digit.k2 z0 y.1 y.2.1 y.2.2.1 y.2.2.2.1)
noncomputable def integer_digit.k1 (z0 : List (Int)) (t1 : List Int) (t5 : Int) (t7 : Int) (t9 : Int) (t10 : Int) (a1000000 : List (Int)) : Option ((Int) × List (Int)) :=
  (cond (inB t5 (List.length a1000000))
  (let x26 := (IntKind.wrap .u64 ((IntKind.wrap .u64 (List.getD a1000000 ((0 + t5.toNat)) (0 : Int))) - t10))
  let x27 := (IntKind.wrap .u32 (IntKind.wrap .u64 (x26 - t9)))
  (cond (inB t5 (List.length a1000000))
  ((cond (((shrI .u64 (IntKind.wrap .u64 (x26 - t9)) (63 : Int)) == (0 : Int)))
  ((cond (Nat.beq (List.length ((List.set a1000000 ((0 + t5.toNat)) x27))) (List.length z0)) (some ((IntKind.wrap .u32 t7), (List.set a1000000 ((0 + t5.toNat)) x27))) none))
  ((integer_digit.j3 z0 t1 t5 t7 (List.set a1000000 ((0 + t5.toNat)) x27)))))
  none))
  none)
noncomputable def integer_digit.k0 (z0 : List (Int)) (t1 : List Int) (t5 : Int) (t7 : Int) (a1000000 : List (Int)) : Option ((Int) × List (Int)) :=
  ((iterL (fun x : List Int × Int × Int × Int × Int × Int × Int × List Int × Unit => integer_digit.s1 x.1 x.2.1 x.2.2.1 x.2.2.2.1 x.2.2.2.2.1 x.2.2.2.2.2.1 x.2.2.2.2.2.2.1 x.2.2.2.2.2.2.2.1) (t1, t5, t7, (0 : Int), (0 : Int), t5, (0 : Int), a1000000, ())).bind fun y => integer_digit.k1 z0 y.1 y.2.1 y.2.2.1 y.2.2.2.1 y.2.2.2.2.1 y.2.2.2.2.2.1)
noncomputable def integer_digit (z0 : List Int) (t1 : List Int) : Option ((Int) × List (Int)) :=
  (cond (inB ((List.length t1 : Nat) : Int) (List.length z0))
  (let x2 := (shlI .u64 (IntKind.wrap .u64 (List.getD z0 ((0 + ((((List.length t1 : Nat) : Int)).toNat))) (0 : Int))) (32 : Int))
  let x3 := (IntKind.wrap .i64 (((List.length t1 : Nat) : Int) - (1 : Int)))
  (cond (inB x3 (List.length z0))
  (let x4 := (List.getD z0 ((0 + x3.toNat)) (0 : Int))
  let x5 := (IntKind.wrap .i64 (((List.length t1 : Nat) : Int) - (1 : Int)))
  (cond (inB x5 (List.length t1))
  (let x6 := (IntKind.wrap .u64 (List.getD t1 (x5.toNat) (0 : Int)))
  (cond (decide (x6 = 0))
  none
  (let x7 := (IntKind.wrap .u64 (Int.tdiv (orI .u64 x2 (IntKind.wrap .u64 x4)) x6))
  let x8 := (IntKind.wrap .i64 (((List.length t1 : Nat) : Int) - (1 : Int)))
  (cond (inB x8 (List.length t1))
  (((iterL (fun x : List Int × Int × Int × Int × List Int × Unit => integer_digit.s0 x.1 x.2.1 x.2.2.1 x.2.2.2.1 x.2.2.2.2.1) (t1, ((List.length t1 : Nat) : Int), (mn2 x7 (4294967295 : Int)), (IntKind.wrap .u64 ((orI .u64 x2 (IntKind.wrap .u64 x4)) - (IntKind.wrap .u64 ((mn2 x7 (4294967295 : Int)) * (IntKind.wrap .u64 (List.getD t1 (x8.toNat) (0 : Int))))))), z0, ())).bind fun y => integer_digit.k0 z0 y.1 y.2.1 y.2.2.1 y.2.2.2.1))
  none))))
  none))
  none))
  none)
noncomputable def integer_digit.en : EnB := ⟨48, .int .u32, [.sl (.int .u32)], .int .u32, false, fun l x => integer_digit l x.1⟩
noncomputable def integer_digit.o : List En := []
noncomputable def integer_digit.oB : List EnB := []
def integer_digit.h : HT := .two (.n) (.two (.n) (.two (.n) (.two (.n) (.two (.two (.n) (.lp 0)) (.two (.n) (.two (.two (.n) (.lp 1)) (.two (.n) (.two (.n) (.two (.n) (.two (.n) (.two (.two (.n) (.lp 2)) (.n))))))))))))
noncomputable def integer_digit.c : Code := Try.f48.body.getD .skip
def integer_digit.h0 : HT := .n
noncomputable def integer_digit.c0 : Code := (find (loops integer_digit.c integer_digit.h) 0).getD .skip
def integer_digit.d0 : Fm := [.v 1 (.sl (.int .u32)), .v 5 (.int .i64), .v 7 (.int .u64), .v 8 (.int .u64), .arr 1000000 0 (.int .u32), .own 0 1000000]
def integer_digit.x0 : Xs := [(.exit 0, [.v 1 (.sl (.int .u32)), .v 5 (.int .i64), .v 7 (.int .u64), .arr 1000000 0 (.int .u32), .own 0 1000000])]
noncomputable def integer_digit.r0 (x : (Fm.ty integer_digit.d0).den) : Option ((Fm.ty integer_digit.d0).den ⊕ (Xs.T integer_digit.x0)) := integer_digit.s0 x.1 x.2.1 x.2.2.1 x.2.2.2.1 x.2.2.2.2.1
def integer_digit.h1 : HT := .n
noncomputable def integer_digit.c1 : Code := (find (loops integer_digit.c integer_digit.h) 1).getD .skip
def integer_digit.d1 : Fm := [.v 1 (.sl (.int .u32)), .v 5 (.int .i64), .v 7 (.int .u64), .v 9 (.int .u64), .v 10 (.int .u64), .v 81 (.int .i64), .v 82 (.int .i64), .arr 1000000 0 (.int .u32), .own 0 1000000]
def integer_digit.x1 : Xs := [(.exit 2, [.v 1 (.sl (.int .u32)), .v 5 (.int .i64), .v 7 (.int .u64), .v 9 (.int .u64), .v 10 (.int .u64), .arr 1000000 0 (.int .u32), .own 0 1000000])]
noncomputable def integer_digit.r1 (x : (Fm.ty integer_digit.d1).den) : Option ((Fm.ty integer_digit.d1).den ⊕ (Xs.T integer_digit.x1)) := integer_digit.s1 x.1 x.2.1 x.2.2.1 x.2.2.2.1 x.2.2.2.2.1 x.2.2.2.2.2.1 x.2.2.2.2.2.2.1 x.2.2.2.2.2.2.2.1
def integer_digit.h2 : HT := .n
noncomputable def integer_digit.c2 : Code := (find (loops integer_digit.c integer_digit.h) 2).getD .skip
def integer_digit.d2 : Fm := [.v 1 (.sl (.int .u32)), .v 5 (.int .i64), .v 7 (.int .u64), .v 10 (.int .u64), .v 133 (.int .i64), .v 134 (.int .i64), .arr 1000000 0 (.int .u32), .own 0 1000000]
def integer_digit.x2 : Xs := [(.exit 4, [.v 5 (.int .i64), .v 7 (.int .u64), .v 10 (.int .u64), .arr 1000000 0 (.int .u32), .own 0 1000000])]
noncomputable def integer_digit.r2 (x : (Fm.ty integer_digit.d2).den) : Option ((Fm.ty integer_digit.d2).den ⊕ (Xs.T integer_digit.x2)) := integer_digit.s2 x.1 x.2.1 x.2.2.1 x.2.2.2.1 x.2.2.2.2.1 x.2.2.2.2.2.1 x.2.2.2.2.2.2.1
noncomputable def integer_digit.L : Lam := fun _ i s K => cond (Nat.beq i 0) (lamK integer_digit.d0 integer_digit.x0 integer_digit.r0 s K) (cond (Nat.beq i 1) (lamK integer_digit.d1 integer_digit.x1 integer_digit.r1 s K) (cond (Nat.beq i 2) (lamK integer_digit.d2 integer_digit.x2 integer_digit.r2 s K) (none)))
theorem integer_digit.hf0 (x) : roundK env (orc integer_digit.o) (orcB integer_digit.oB) 169 integer_digit.L integer_digit.c0 integer_digit.h0 integer_digit.d0 integer_digit.x0 x = integer_digit.r0 x := by kernel_rfl
theorem integer_digit.hf1 (x) : roundK env (orc integer_digit.o) (orcB integer_digit.oB) 169 integer_digit.L integer_digit.c1 integer_digit.h1 integer_digit.d1 integer_digit.x1 x = integer_digit.r1 x := by kernel_rfl
theorem integer_digit.hf2 (x) : roundK env (orc integer_digit.o) (orcB integer_digit.oB) 169 integer_digit.L integer_digit.c2 integer_digit.h2 integer_digit.d2 integer_digit.x2 x = integer_digit.r2 x := by kernel_rfl
theorem integer_digit.os : AllOk prog integer_digit.o := trivial
theorem integer_digit.osB : AllBOk prog integer_digit.oB := trivial
theorem integer_digit.l0 {C : Ctx} (hC : C.n = 169) : LamAt prog C integer_digit.L 0 integer_digit.c0 := by
  intro R s K r hk
  refine loop_ok (D := integer_digit.d0) (X := integer_digit.x0) (h := integer_digit.h0) (f := integer_digit.r0) tabs (orc_ok _ integer_digit.os) (orcB_ok _ integer_digit.osB) (fun x => by rw [hC]; exact integer_digit.hf0 x) (Λ := integer_digit.L) ?_ (by kernel_rfl) (by kernel_rfl) (K := K) (s := s) (by exact hk)
  exact by
    have e : loops integer_digit.c0 integer_digit.h0 = [] := by kernel_rfl
    rw [e]
    exact LamOk.nil
theorem integer_digit.l1 {C : Ctx} (hC : C.n = 169) : LamAt prog C integer_digit.L 1 integer_digit.c1 := by
  intro R s K r hk
  refine loop_ok (D := integer_digit.d1) (X := integer_digit.x1) (h := integer_digit.h1) (f := integer_digit.r1) tabs (orc_ok _ integer_digit.os) (orcB_ok _ integer_digit.osB) (fun x => by rw [hC]; exact integer_digit.hf1 x) (Λ := integer_digit.L) ?_ (by kernel_rfl) (by kernel_rfl) (K := K) (s := s) (by exact hk)
  exact by
    have e : loops integer_digit.c1 integer_digit.h1 = [] := by kernel_rfl
    rw [e]
    exact LamOk.nil
theorem integer_digit.l2 {C : Ctx} (hC : C.n = 169) : LamAt prog C integer_digit.L 2 integer_digit.c2 := by
  intro R s K r hk
  refine loop_ok (D := integer_digit.d2) (X := integer_digit.x2) (h := integer_digit.h2) (f := integer_digit.r2) tabs (orc_ok _ integer_digit.os) (orcB_ok _ integer_digit.osB) (fun x => by rw [hC]; exact integer_digit.hf2 x) (Λ := integer_digit.L) ?_ (by kernel_rfl) (by kernel_rfl) (K := K) (s := s) (by exact hk)
  exact by
    have e : loops integer_digit.c2 integer_digit.h2 = [] := by kernel_rfl
    rw [e]
    exact LamOk.nil
theorem integer_digit.hk (l x) : semK env (orc integer_digit.o) (orcB integer_digit.oB) 169 (integer_digit.L _) integer_digit.c integer_digit.h (S.initB (.int .u32) l (avs [.sl (.int .u32)] x)) (finB env Try.f48 ⟨[.sl (.int .u32), .sl (.int .u32)], .int .u32, false, true⟩ (.int .u32) l.length) = integer_digit.en.g l x := by kernel_rfl
theorem integer_digit.ok : EnBOk prog integer_digit.en := by
  refine funB_ok (g := ⟨[.sl (.int .u32), .sl (.int .u32)], .int .u32, false, true⟩) (h := integer_digit.h) (Λ := integer_digit.L) tabs integer_digit.os integer_digit.osB Try.func48 (c := integer_digit.c) (by kernel_rfl) (by decide +kernel) (by decide +kernel) (fun C hC => ?_) (fun l x => integer_digit.hk l x)
  exact by
    have e : loops integer_digit.c integer_digit.h = [(0, integer_digit.c0), (1, integer_digit.c1), (2, integer_digit.c2)] := by kernel_rfl
    rw [e]
    exact LamOk.cons (integer_digit.l0 hC) (LamOk.cons (integer_digit.l1 hC) (LamOk.cons (integer_digit.l2 hC) (LamOk.nil)))
noncomputable def integer_limb.j1  : Option (Int) :=
  (some (0 : Int))
noncomputable def integer_limb (t0 : List Int) (t1 : Int) : Option (Int) :=
  (cond ((decide (t1 < ((List.length t0 : Nat) : Int))))
  ((cond (inB t1 (List.length t0))
  ((some (IntKind.wrap .u64 (List.getD t0 (t1.toNat) (0 : Int)))))
  none))
  ((integer_limb.j1)))
noncomputable def integer_limb.en : En := ⟨50, [.sl (.int .u32), .int .i64], .int .u64, false, fun x => integer_limb x.1 x.2.1⟩
noncomputable def integer_limb.o : List En := []
noncomputable def integer_limb.oB : List EnB := []
def integer_limb.h : HT := .n
noncomputable def integer_limb.c : Code := Try.f50.body.getD .skip
noncomputable def integer_limb.L : Lam := fun _ i s K => none
theorem integer_limb.os : AllOk prog integer_limb.o := trivial
theorem integer_limb.osB : AllBOk prog integer_limb.oB := trivial
theorem integer_limb.hk (x) : semK env (orc integer_limb.o) (orcB integer_limb.oB) 14 (integer_limb.L _) integer_limb.c integer_limb.h (S.init (avs [.sl (.int .u32), .int .i64] x)) (fin env Try.f50 ⟨[.sl (.int .u32), .int .i64], .int .u64, false, false⟩) = integer_limb.en.g x := by kernel_rfl
theorem integer_limb.ok : EnOk prog integer_limb.en := by
  refine fun_ok (g := ⟨[.sl (.int .u32), .int .i64], .int .u64, false, false⟩) (h := integer_limb.h) (Λ := integer_limb.L) tabs integer_limb.os integer_limb.osB Try.func50 (c := integer_limb.c) (by kernel_rfl) (by decide +kernel) (by decide +kernel) (fun C hC => ?_) (fun x => integer_limb.hk x)
  exact by
    have e : loops integer_limb.c integer_limb.h = [] := by kernel_rfl
    rw [e]
    exact LamOk.nil
noncomputable def integer_unshift.j1 (t0 : List Int) (t1 : Int) (t11 : Int) (t12 : Int) (a9 : List (Int)) : Option ((List Int × Int × Int × Int × List Int × Unit) ⊕ ((List Int × Unit))) :=
  ((integer_limb t0 (IntKind.wrap .i64 (t12 + (1 : Int)))).bind fun y1 =>
  (cond (inB t12 (List.length t0))
  ((cond (decide (t1 < 0))
  none
  ((cond (inB t12 (List.length a9))
  ((some (.inl (t0, t1, t11, (IntKind.wrap .i64 (t12 + (1 : Int))), (List.set a9 ((0 + t12.toNat)) (IntKind.wrap .u32 (shrI .u64 (orI .u64 (shlI .u64 y1 (32 : Int)) (IntKind.wrap .u64 (List.getD t0 (t12.toNat) (0 : Int)))) t1))), ()))))
  none))))
  none))
noncomputable def integer_unshift.s0 (t0 : List Int) (t1 : Int) (t11 : Int) (t12 : Int) (a9 : List (Int)) : Option ((List Int × Int × Int × Int × List Int × Unit) ⊕ ((List Int × Unit))) :=
  (cond ((decide (t12 < t11)))
  ((integer_unshift.j1 t0 t1 t11 t12 a9))
  ((some (.inr (a9, ())))))
noncomputable def integer_unshift.k0 (a9 : List (Int)) : Option (List Int) :=
  ((integer_trim a9).bind fun y5 =>
  (some y5))
noncomputable def integer_unshift (t0 : List Int) (t1 : Int) : Option (List Int) :=
  (cond (inC ((List.length t0 : Nat) : Int) maxL)
  (((iterL (fun x : List Int × Int × Int × Int × List Int × Unit => integer_unshift.s0 x.1 x.2.1 x.2.2.1 x.2.2.2.1 x.2.2.2.2.1) (t0, t1, ((List.length t0 : Nat) : Int), (0 : Int), (List.replicate ((((List.length t0 : Nat) : Int)).toNat) ((0 : Int) : Int)), ())).bind fun y => integer_unshift.k0 y.1))
  none)
noncomputable def integer_unshift.en : En := ⟨49, [.sl (.int .u32), .int .u64], .sl (.int .u32), false, fun x => integer_unshift x.1 x.2.1⟩
noncomputable def integer_unshift.o : List En := [integer_trim.en, integer_limb.en]
noncomputable def integer_unshift.oB : List EnB := []
def integer_unshift.h : HT := .two (.n) (.two (.n) (.two (.two (.n) (.lp 0)) (.two (.fr [9] []) (.n))))
noncomputable def integer_unshift.c : Code := Try.f49.body.getD .skip
def integer_unshift.h0 : HT := .n
noncomputable def integer_unshift.c0 : Code := (find (loops integer_unshift.c integer_unshift.h) 0).getD .skip
def integer_unshift.d0 : Fm := [.v 0 (.sl (.int .u32)), .v 1 (.int .u64), .v 11 (.int .i64), .v 12 (.int .i64), .arr 9 60 (.int .u32), .own 5 9]
def integer_unshift.x0 : Xs := [(.exit 0, [.arr 9 60 (.int .u32), .own 5 9])]
noncomputable def integer_unshift.r0 (x : (Fm.ty integer_unshift.d0).den) : Option ((Fm.ty integer_unshift.d0).den ⊕ (Xs.T integer_unshift.x0)) := integer_unshift.s0 x.1 x.2.1 x.2.2.1 x.2.2.2.1 x.2.2.2.2.1
noncomputable def integer_unshift.L : Lam := fun _ i s K => cond (Nat.beq i 0) (lamK integer_unshift.d0 integer_unshift.x0 integer_unshift.r0 s K) (none)
theorem integer_unshift.hf0 (x) : roundK env (orc integer_unshift.o) (orcB integer_unshift.oB) 35 integer_unshift.L integer_unshift.c0 integer_unshift.h0 integer_unshift.d0 integer_unshift.x0 x = integer_unshift.r0 x := by kernel_rfl
theorem integer_unshift.os : AllOk prog integer_unshift.o := ⟨integer_trim.ok, integer_limb.ok, trivial⟩
theorem integer_unshift.osB : AllBOk prog integer_unshift.oB := trivial
theorem integer_unshift.l0 {C : Ctx} (hC : C.n = 35) : LamAt prog C integer_unshift.L 0 integer_unshift.c0 := by
  intro R s K r hk
  refine loop_ok (D := integer_unshift.d0) (X := integer_unshift.x0) (h := integer_unshift.h0) (f := integer_unshift.r0) tabs (orc_ok _ integer_unshift.os) (orcB_ok _ integer_unshift.osB) (fun x => by rw [hC]; exact integer_unshift.hf0 x) (Λ := integer_unshift.L) ?_ (by kernel_rfl) (by kernel_rfl) (K := K) (s := s) (by exact hk)
  exact by
    have e : loops integer_unshift.c0 integer_unshift.h0 = [] := by kernel_rfl
    rw [e]
    exact LamOk.nil
theorem integer_unshift.hk (x) : semK env (orc integer_unshift.o) (orcB integer_unshift.oB) 35 (integer_unshift.L _) integer_unshift.c integer_unshift.h (S.init (avs [.sl (.int .u32), .int .u64] x)) (fin env Try.f49 ⟨[.sl (.int .u32), .int .u64], .sl (.int .u32), false, false⟩) = integer_unshift.en.g x := by kernel_rfl
theorem integer_unshift.ok : EnOk prog integer_unshift.en := by
  refine fun_ok (g := ⟨[.sl (.int .u32), .int .u64], .sl (.int .u32), false, false⟩) (h := integer_unshift.h) (Λ := integer_unshift.L) tabs integer_unshift.os integer_unshift.osB Try.func49 (c := integer_unshift.c) (by kernel_rfl) (by decide +kernel) (by decide +kernel) (fun C hC => ?_) (fun x => integer_unshift.hk x)
  exact by
    have e : loops integer_unshift.c integer_unshift.h = [(0, integer_unshift.c0)] := by kernel_rfl
    rw [e]
    exact LamOk.cons (integer_unshift.l0 hC) (LamOk.nil)
noncomputable def integer_divide.j3 (t1 : List Int) (t8 : Int) (t10 : List Int) (t12 : Int) (a44 : List (Int)) (a57 : List (Int)) : Option ((List Int × Int × List Int × Int × List Int × List Int × Unit) ⊕ ((List Int × Int × List Int × List Int × Unit))) :=
  let x11 := (IntKind.wrap .i64 (t12 + ((List.length t1 : Nat) : Int)))
  (cond (inC (IntKind.wrap .i64 (x11 + (1 : Int))) (List.length a44))
  (cond (decide (0 ≤ t12) && decide (t12 ≤ (IntKind.wrap .i64 (x11 + (1 : Int)))))
  (((integer_digit (List.take (((IntKind.wrap .i64 (x11 + (1 : Int)))).toNat - t12.toNat) (List.drop ((0 + t12.toNat)) a44)) t10).bind fun y12 =>
  (cond (inB t12 (List.length a57))
  ((some (.inl (t1, t8, t10, (IntKind.wrap .i64 (t12 - (1 : Int))), (List.take ((0 + t12.toNat)) a44 ++ y12.2 ++ List.drop ((0 + t12.toNat) + List.length (List.take (((IntKind.wrap .i64 (x11 + (1 : Int)))).toNat - t12.toNat) (List.drop ((0 + t12.toNat)) a44))) a44), (List.set a57 ((0 + t12.toNat)) y12.1), ()))))
  none)))
  none)
  none)
noncomputable def integer_divide.s0 (t1 : List Int) (t8 : Int) (t10 : List Int) (t12 : Int) (a44 : List (Int)) (a57 : List (Int)) : Option ((List Int × Int × List Int × Int × List Int × List Int × Unit) ⊕ ((List Int × Int × List Int × List Int × Unit))) :=
  (cond ((decide (t12 ≥ (0 : Int))))
  ((integer_divide.j3 t1 t8 t10 t12 a44 a57))
  ((some (.inr (t1, t8, a44, a57, ())))))
noncomputable def integer_divide.k0 (t1 : List Int) (t8 : Int) (a44 : List (Int)) (a57 : List (Int)) : Option (List Int × List Int × Unit) :=
  ((integer_trim a57).bind fun y13 =>
  (cond (inC ((List.length t1 : Nat) : Int) (List.length a44))
  (((integer_trim (List.take ((((List.length t1 : Nat) : Int)).toNat) a44)).bind fun y15 =>
  ((integer_unshift y15 t8).bind fun y16 =>
  (some (y13, (y16, ()))))))
  none))
noncomputable def integer_divide.j2 (t0 : List Int) (t1 : List Int) : Option (List Int × List Int × Unit) :=
  let x5 := (IntKind.wrap .i64 (((List.length t1 : Nat) : Int) - (1 : Int)))
  (cond (inB x5 (List.length t1))
  (((bits_LeadingZeros32 (List.getD t1 (x5.toNat) (0 : Int))).bind fun y6 =>
  ((integer_shift t0 (IntKind.wrap .u64 y6)).bind fun y7 =>
  ((integer_shift t1 (IntKind.wrap .u64 y6)).bind fun y8 =>
  (cond (inC ((List.length t1 : Nat) : Int) (List.length y8))
  (let x9 := (IntKind.wrap .i64 (((List.length t0 : Nat) : Int) - ((List.length t1 : Nat) : Int)))
  (cond (inC (IntKind.wrap .i64 (x9 + (1 : Int))) maxL)
  (((iterL (fun x : List Int × Int × List Int × Int × List Int × List Int × Unit => integer_divide.s0 x.1 x.2.1 x.2.2.1 x.2.2.2.1 x.2.2.2.2.1 x.2.2.2.2.2.1) (t1, (IntKind.wrap .u64 y6), (List.take ((((List.length t1 : Nat) : Int)).toNat) (List.drop (0) y8)), (IntKind.wrap .i64 (((List.length (List.replicate (((IntKind.wrap .i64 (x9 + (1 : Int)))).toNat) ((0 : Int) : Int)) : Nat) : Int) - (1 : Int))), y7, (List.replicate (((IntKind.wrap .i64 (x9 + (1 : Int)))).toNat) ((0 : Int) : Int)), ())).bind fun y => integer_divide.k0 y.1 y.2.1 y.2.2.1 y.2.2.2.1))
  none))
  none)))))
  none)
noncomputable def integer_divide.j1 (t0 : List Int) (t1 : List Int) : Option (List Int × List Int × Unit) :=
  (cond ((((List.length t1 : Nat) : Int) == (1 : Int)))
  ((cond (inB (0 : Int) (List.length t1))
  (((integer_shortDivide t0 (List.getD t1 (0) (0 : Int))).bind fun y3 =>
  ((integer_trim ([y3.2.1] : List (Int))).bind fun y4 =>
  (some (y3.1, (y4, ()))))))
  none))
  ((integer_divide.j2 t0 t1)))
noncomputable def integer_divide (t0 : List Int) (t1 : List Int) : Option (List Int × List Int × Unit) :=
  ((integer_compare t0 t1).bind fun y1 =>
  (cond ((decide (y1 < (0 : Int))))
  ((cond (decide (List.length t0 ≤ maxL))
  ((some (([] : List Int), (t0, ()))))
  none))
  ((integer_divide.j1 t0 t1))))
noncomputable def integer_divide.en : En := ⟨32, [.sl (.int .u32), .sl (.int .u32)], .pair (.sl (.int .u32)) (.pair (.sl (.int .u32)) (.unit)), true, fun x => integer_divide x.1 x.2.1⟩
noncomputable def integer_divide.o : List En := [integer_compare.en, integer_trim.en, integer_shortDivide.en, bits_LeadingZeros32.en, integer_shift.en, integer_unshift.en]
noncomputable def integer_divide.oB : List EnB := [integer_digit.en]
def integer_divide.h : HT := .two (.n) (.two (.n) (.two (.n) (.two (.n) (.two (.n) (.two (.n) (.two (.two (.fr [47] []) (.lp 0)) (.two (.fr [44, 57] []) (.n))))))))
noncomputable def integer_divide.c : Code := Try.f32.body.getD .skip
def integer_divide.h0 : HT := .n
noncomputable def integer_divide.c0 : Code := (find (loops integer_divide.c integer_divide.h) 0).getD .skip
def integer_divide.d0 : Fm := [.v 1 (.sl (.int .u32)), .v 8 (.int .u64), .v 10 (.sl (.int .u32)), .v 12 (.int .i64), .arr 44 0 (.int .u32), .arr 57 60 (.int .u32), .own 9 44, .own 11 57]
def integer_divide.x0 : Xs := [(.exit 0, [.v 1 (.sl (.int .u32)), .v 8 (.int .u64), .arr 44 0 (.int .u32), .arr 57 60 (.int .u32), .own 9 44, .own 11 57])]
noncomputable def integer_divide.r0 (x : (Fm.ty integer_divide.d0).den) : Option ((Fm.ty integer_divide.d0).den ⊕ (Xs.T integer_divide.x0)) := integer_divide.s0 x.1 x.2.1 x.2.2.1 x.2.2.2.1 x.2.2.2.2.1 x.2.2.2.2.2.1
noncomputable def integer_divide.L : Lam := fun _ i s K => cond (Nat.beq i 0) (lamK integer_divide.d0 integer_divide.x0 integer_divide.r0 s K) (none)
theorem integer_divide.hf0 (x) : roundK env (orc integer_divide.o) (orcB integer_divide.oB) 87 integer_divide.L integer_divide.c0 integer_divide.h0 integer_divide.d0 integer_divide.x0 x = integer_divide.r0 x := by kernel_rfl
theorem integer_divide.os : AllOk prog integer_divide.o := ⟨integer_compare.ok, integer_trim.ok, integer_shortDivide.ok, bits_LeadingZeros32.ok, integer_shift.ok, integer_unshift.ok, trivial⟩
theorem integer_divide.osB : AllBOk prog integer_divide.oB := ⟨integer_digit.ok, trivial⟩
theorem integer_divide.l0 {C : Ctx} (hC : C.n = 87) : LamAt prog C integer_divide.L 0 integer_divide.c0 := by
  intro R s K r hk
  refine loop_ok (D := integer_divide.d0) (X := integer_divide.x0) (h := integer_divide.h0) (f := integer_divide.r0) tabs (orc_ok _ integer_divide.os) (orcB_ok _ integer_divide.osB) (fun x => by rw [hC]; exact integer_divide.hf0 x) (Λ := integer_divide.L) ?_ (by kernel_rfl) (by kernel_rfl) (K := K) (s := s) (by exact hk)
  exact by
    have e : loops integer_divide.c0 integer_divide.h0 = [] := by kernel_rfl
    rw [e]
    exact LamOk.nil
theorem integer_divide.hk (x) : semK env (orc integer_divide.o) (orcB integer_divide.oB) 87 (integer_divide.L _) integer_divide.c integer_divide.h (S.init (avs [.sl (.int .u32), .sl (.int .u32)] x)) (fin env Try.f32 ⟨[.sl (.int .u32), .sl (.int .u32)], .pair (.sl (.int .u32)) (.pair (.sl (.int .u32)) (.unit)), true, false⟩) = integer_divide.en.g x := by kernel_rfl
theorem integer_divide.ok : EnOk prog integer_divide.en := by
  refine fun_ok (g := ⟨[.sl (.int .u32), .sl (.int .u32)], .pair (.sl (.int .u32)) (.pair (.sl (.int .u32)) (.unit)), true, false⟩) (h := integer_divide.h) (Λ := integer_divide.L) tabs integer_divide.os integer_divide.osB Try.func32 (c := integer_divide.c) (by kernel_rfl) (by decide +kernel) (by decide +kernel) (fun C hC => ?_) (fun x => integer_divide.hk x)
  exact by
    have e : loops integer_divide.c integer_divide.h = [(0, integer_divide.c0)] := by kernel_rfl
    rw [e]
    exact LamOk.cons (integer_divide.l0 hC) (LamOk.nil)
noncomputable def integer_plus.j1 (t0 : List Int) (t1 : List Int) (t5 : Int) (t7 : Int) (t17 : Int) (t18 : Int) (a16 : List (Int)) : Option ((List Int × List Int × Int × Int × Int × Int × List Int × Unit) ⊕ ((Int × Int × List Int × Unit))) :=
  ((integer_limb t0 t18).bind fun y2 =>
  ((integer_limb t1 t18).bind fun y3 =>
  let x4 := (IntKind.wrap .u64 (t7 + (IntKind.wrap .u64 (y2 + y3))))
  (cond (inB t18 (List.length a16))
  ((some (.inl (t0, t1, t5, (shrI .u64 x4 (32 : Int)), t17, (IntKind.wrap .i64 (t18 + (1 : Int))), (List.set a16 ((0 + t18.toNat)) (IntKind.wrap .u32 x4)), ()))))
  none)))
noncomputable def integer_plus.s0 (t0 : List Int) (t1 : List Int) (t5 : Int) (t7 : Int) (t17 : Int) (t18 : Int) (a16 : List (Int)) : Option ((List Int × List Int × Int × Int × Int × Int × List Int × Unit) ⊕ ((Int × Int × List Int × Unit))) :=
  (cond ((decide (t18 < t17)))
  ((integer_plus.j1 t0 t1 t5 t7 t17 t18 a16))
  ((some (.inr (t5, t7, a16, ())))))
noncomputable def integer_plus.k0 (t5 : Int) (t7 : Int) (a16 : List (Int)) : Option (List Int) :=
  (cond (inB t5 (List.length a16))
  (((integer_trim (List.set a16 ((0 + t5.toNat)) (IntKind.wrap .u32 t7))).bind fun y7 =>
  (some y7)))
  none)
noncomputable def integer_plus (t0 : List Int) (t1 : List Int) : Option (List Int) :=
  let x1 := (mx2 ((List.length t0 : Nat) : Int) ((List.length t1 : Nat) : Int))
  (cond (inC (IntKind.wrap .i64 (x1 + (1 : Int))) maxL)
  (((iterL (fun x : List Int × List Int × Int × Int × Int × Int × List Int × Unit => integer_plus.s0 x.1 x.2.1 x.2.2.1 x.2.2.2.1 x.2.2.2.2.1 x.2.2.2.2.2.1 x.2.2.2.2.2.2.1) (t0, t1, x1, (0 : Int), x1, (0 : Int), (List.replicate (((IntKind.wrap .i64 (x1 + (1 : Int)))).toNat) ((0 : Int) : Int)), ())).bind fun y => integer_plus.k0 y.1 y.2.1 y.2.2.1))
  none)
noncomputable def integer_plus.en : En := ⟨33, [.sl (.int .u32), .sl (.int .u32)], .sl (.int .u32), false, fun x => integer_plus x.1 x.2.1⟩
noncomputable def integer_plus.o : List En := [integer_trim.en, integer_limb.en]
noncomputable def integer_plus.oB : List EnB := []
def integer_plus.h : HT := .two (.n) (.two (.n) (.two (.n) (.two (.n) (.two (.two (.n) (.lp 0)) (.two (.n) (.two (.fr [16] []) (.n)))))))
noncomputable def integer_plus.c : Code := Try.f33.body.getD .skip
def integer_plus.h0 : HT := .n
noncomputable def integer_plus.c0 : Code := (find (loops integer_plus.c integer_plus.h) 0).getD .skip
def integer_plus.d0 : Fm := [.v 0 (.sl (.int .u32)), .v 1 (.sl (.int .u32)), .v 5 (.int .i64), .v 7 (.int .u64), .v 17 (.int .i64), .v 18 (.int .i64), .arr 16 60 (.int .u32), .own 6 16]
def integer_plus.x0 : Xs := [(.exit 0, [.v 5 (.int .i64), .v 7 (.int .u64), .arr 16 60 (.int .u32), .own 6 16])]
noncomputable def integer_plus.r0 (x : (Fm.ty integer_plus.d0).den) : Option ((Fm.ty integer_plus.d0).den ⊕ (Xs.T integer_plus.x0)) := integer_plus.s0 x.1 x.2.1 x.2.2.1 x.2.2.2.1 x.2.2.2.2.1 x.2.2.2.2.2.1 x.2.2.2.2.2.2.1
noncomputable def integer_plus.L : Lam := fun _ i s K => cond (Nat.beq i 0) (lamK integer_plus.d0 integer_plus.x0 integer_plus.r0 s K) (none)
theorem integer_plus.hf0 (x) : roundK env (orc integer_plus.o) (orcB integer_plus.oB) 45 integer_plus.L integer_plus.c0 integer_plus.h0 integer_plus.d0 integer_plus.x0 x = integer_plus.r0 x := by kernel_rfl
theorem integer_plus.os : AllOk prog integer_plus.o := ⟨integer_trim.ok, integer_limb.ok, trivial⟩
theorem integer_plus.osB : AllBOk prog integer_plus.oB := trivial
theorem integer_plus.l0 {C : Ctx} (hC : C.n = 45) : LamAt prog C integer_plus.L 0 integer_plus.c0 := by
  intro R s K r hk
  refine loop_ok (D := integer_plus.d0) (X := integer_plus.x0) (h := integer_plus.h0) (f := integer_plus.r0) tabs (orc_ok _ integer_plus.os) (orcB_ok _ integer_plus.osB) (fun x => by rw [hC]; exact integer_plus.hf0 x) (Λ := integer_plus.L) ?_ (by kernel_rfl) (by kernel_rfl) (K := K) (s := s) (by exact hk)
  exact by
    have e : loops integer_plus.c0 integer_plus.h0 = [] := by kernel_rfl
    rw [e]
    exact LamOk.nil
theorem integer_plus.hk (x) : semK env (orc integer_plus.o) (orcB integer_plus.oB) 45 (integer_plus.L _) integer_plus.c integer_plus.h (S.init (avs [.sl (.int .u32), .sl (.int .u32)] x)) (fin env Try.f33 ⟨[.sl (.int .u32), .sl (.int .u32)], .sl (.int .u32), false, false⟩) = integer_plus.en.g x := by kernel_rfl
theorem integer_plus.ok : EnOk prog integer_plus.en := by
  refine fun_ok (g := ⟨[.sl (.int .u32), .sl (.int .u32)], .sl (.int .u32), false, false⟩) (h := integer_plus.h) (Λ := integer_plus.L) tabs integer_plus.os integer_plus.osB Try.func33 (c := integer_plus.c) (by kernel_rfl) (by decide +kernel) (by decide +kernel) (fun C hC => ?_) (fun x => integer_plus.hk x)
  exact by
    have e : loops integer_plus.c integer_plus.h = [(0, integer_plus.c0)] := by kernel_rfl
    rw [e]
    exact LamOk.cons (integer_plus.l0 hC) (LamOk.nil)
noncomputable def integer_minus.j1 (t0 : List Int) (t1 : List Int) (t6 : Int) (t13 : Int) (t14 : Int) (a11 : List (Int)) : Option ((List Int × List Int × Int × Int × Int × List Int × Unit) ⊕ ((List Int × Unit))) :=
  (cond (inB t14 (List.length t0))
  (((integer_limb t1 t14).bind fun y2 =>
  let x3 := (IntKind.wrap .u64 ((IntKind.wrap .u64 ((IntKind.wrap .u64 (List.getD t0 (t14.toNat) (0 : Int))) - y2)) - t6))
  (cond (inB t14 (List.length a11))
  ((some (.inl (t0, t1, (shrI .u64 x3 (63 : Int)), t13, (IntKind.wrap .i64 (t14 + (1 : Int))), (List.set a11 ((0 + t14.toNat)) (IntKind.wrap .u32 x3)), ()))))
  none)))
  none)
noncomputable def integer_minus.s0 (t0 : List Int) (t1 : List Int) (t6 : Int) (t13 : Int) (t14 : Int) (a11 : List (Int)) : Option ((List Int × List Int × Int × Int × Int × List Int × Unit) ⊕ ((List Int × Unit))) :=
  (cond ((decide (t14 < t13)))
  ((integer_minus.j1 t0 t1 t6 t13 t14 a11))
  ((some (.inr (a11, ())))))
noncomputable def integer_minus.k0 (a11 : List (Int)) : Option (List Int) :=
  ((integer_trim a11).bind fun y5 =>
  (some y5))
noncomputable def integer_minus (t0 : List Int) (t1 : List Int) : Option (List Int) :=
  (cond (inC ((List.length t0 : Nat) : Int) maxL)
  (((iterL (fun x : List Int × List Int × Int × Int × Int × List Int × Unit => integer_minus.s0 x.1 x.2.1 x.2.2.1 x.2.2.2.1 x.2.2.2.2.1 x.2.2.2.2.2.1) (t0, t1, (0 : Int), ((List.length t0 : Nat) : Int), (0 : Int), (List.replicate ((((List.length t0 : Nat) : Int)).toNat) ((0 : Int) : Int)), ())).bind fun y => integer_minus.k0 y.1))
  none)
noncomputable def integer_minus.en : En := ⟨34, [.sl (.int .u32), .sl (.int .u32)], .sl (.int .u32), false, fun x => integer_minus x.1 x.2.1⟩
noncomputable def integer_minus.o : List En := [integer_trim.en, integer_limb.en]
noncomputable def integer_minus.oB : List EnB := []
def integer_minus.h : HT := .two (.n) (.two (.n) (.two (.n) (.two (.two (.n) (.lp 0)) (.two (.fr [11] []) (.n)))))
noncomputable def integer_minus.c : Code := Try.f34.body.getD .skip
def integer_minus.h0 : HT := .n
noncomputable def integer_minus.c0 : Code := (find (loops integer_minus.c integer_minus.h) 0).getD .skip
def integer_minus.d0 : Fm := [.v 0 (.sl (.int .u32)), .v 1 (.sl (.int .u32)), .v 6 (.int .u64), .v 13 (.int .i64), .v 14 (.int .i64), .arr 11 60 (.int .u32), .own 5 11]
def integer_minus.x0 : Xs := [(.exit 0, [.arr 11 60 (.int .u32), .own 5 11])]
noncomputable def integer_minus.r0 (x : (Fm.ty integer_minus.d0).den) : Option ((Fm.ty integer_minus.d0).den ⊕ (Xs.T integer_minus.x0)) := integer_minus.s0 x.1 x.2.1 x.2.2.1 x.2.2.2.1 x.2.2.2.2.1 x.2.2.2.2.2.1
noncomputable def integer_minus.L : Lam := fun _ i s K => cond (Nat.beq i 0) (lamK integer_minus.d0 integer_minus.x0 integer_minus.r0 s K) (none)
theorem integer_minus.hf0 (x) : roundK env (orc integer_minus.o) (orcB integer_minus.oB) 38 integer_minus.L integer_minus.c0 integer_minus.h0 integer_minus.d0 integer_minus.x0 x = integer_minus.r0 x := by kernel_rfl
theorem integer_minus.os : AllOk prog integer_minus.o := ⟨integer_trim.ok, integer_limb.ok, trivial⟩
theorem integer_minus.osB : AllBOk prog integer_minus.oB := trivial
theorem integer_minus.l0 {C : Ctx} (hC : C.n = 38) : LamAt prog C integer_minus.L 0 integer_minus.c0 := by
  intro R s K r hk
  refine loop_ok (D := integer_minus.d0) (X := integer_minus.x0) (h := integer_minus.h0) (f := integer_minus.r0) tabs (orc_ok _ integer_minus.os) (orcB_ok _ integer_minus.osB) (fun x => by rw [hC]; exact integer_minus.hf0 x) (Λ := integer_minus.L) ?_ (by kernel_rfl) (by kernel_rfl) (K := K) (s := s) (by exact hk)
  exact by
    have e : loops integer_minus.c0 integer_minus.h0 = [] := by kernel_rfl
    rw [e]
    exact LamOk.nil
theorem integer_minus.hk (x) : semK env (orc integer_minus.o) (orcB integer_minus.oB) 38 (integer_minus.L _) integer_minus.c integer_minus.h (S.init (avs [.sl (.int .u32), .sl (.int .u32)] x)) (fin env Try.f34 ⟨[.sl (.int .u32), .sl (.int .u32)], .sl (.int .u32), false, false⟩) = integer_minus.en.g x := by kernel_rfl
theorem integer_minus.ok : EnOk prog integer_minus.en := by
  refine fun_ok (g := ⟨[.sl (.int .u32), .sl (.int .u32)], .sl (.int .u32), false, false⟩) (h := integer_minus.h) (Λ := integer_minus.L) tabs integer_minus.os integer_minus.osB Try.func34 (c := integer_minus.c) (by kernel_rfl) (by decide +kernel) (by decide +kernel) (fun C hC => ?_) (fun x => integer_minus.hk x)
  exact by
    have e : loops integer_minus.c integer_minus.h = [(0, integer_minus.c0)] := by kernel_rfl
    rw [e]
    exact LamOk.cons (integer_minus.l0 hC) (LamOk.nil)
noncomputable def integer_DivMod.j2 (t8 : List Int) (t9 : List Int) (b2_0 : Bool) (b2_1 : List Int) (b3_0 : Bool) (b3_1 : List Int) (b4_1 : List Int) (b5_1 : List Int) : Option ((Bool × List Int × Unit) × (Bool × List Int × Unit) × Bool × Unit) :=
  ((integer_signed (!(b2_0 == b3_0)) t8).bind fun y8 =>
  ((integer_signed false t9).bind fun y9 =>
  (some ((y8.1, (y8.2.1, ())), ((y9.1, (y9.2.1, ())), (true, ()))))))
noncomputable def integer_DivMod.j1 (t7 : List Int) (b2_0 : Bool) (b2_1 : List Int) (b3_0 : Bool) (b3_1 : List Int) (b4_1 : List Int) (b5_1 : List Int) : Option ((Bool × List Int × Unit) × (Bool × List Int × Unit) × Bool × Unit) :=
  ((integer_magnitude (b2_0, (b2_1, ()))).bind fun y3 =>
  ((integer_divide y3 t7).bind fun y4 =>
  (cond (b2_0)
  ((cond ((decide (((List.length y4.2.1 : Nat) : Int) > (0 : Int))))
  (((integer_plus y4.1 ([(1 : Int)] : List (Int))).bind fun y6 =>
  ((integer_minus t7 y4.2.1).bind fun y7 =>
  (integer_DivMod.j2 y6 y7 b2_0 b2_1 b3_0 b3_1 b4_1 b5_1))))
  ((integer_DivMod.j2 y4.1 y4.2.1 b2_0 b2_1 b3_0 b3_1 b4_1 b5_1))))
  (((integer_signed (!(b2_0 == b3_0)) y4.1).bind fun y10 =>
  ((integer_signed false y4.2.1).bind fun y11 =>
  (some ((y10.1, (y10.2.1, ())), ((y11.1, (y11.2.1, ())), (true, ()))))))))))
noncomputable def integer_DivMod (t0 : Bool × List Int × Unit) (t1 : Bool × List Int × Unit) : Option ((Bool × List Int × Unit) × (Bool × List Int × Unit) × Bool × Unit) :=
  ((integer_magnitude (t1.1, (t1.2.1, ()))).bind fun y1 =>
  (cond ((((List.length y1 : Nat) : Int) == (0 : Int)))
  ((some ((false, (([] : List Int), ())), ((false, (([] : List Int), ())), (false, ())))))
  ((integer_DivMod.j1 y1 t0.1 t0.2.1 t1.1 t1.2.1 ([] : List Int) ([] : List Int)))))
noncomputable def integer_DivMod.en : En := ⟨16, [.pair (.bool) (.pair (.sl (.int .u32)) (.unit)), .pair (.bool) (.pair (.sl (.int .u32)) (.unit))], .pair (.pair (.bool) (.pair (.sl (.int .u32)) (.unit))) (.pair (.pair (.bool) (.pair (.sl (.int .u32)) (.unit))) (.pair (.bool) (.unit))), true, fun x => integer_DivMod x.1 x.2.1⟩
noncomputable def integer_DivMod.o : List En := [integer_signed.en, integer_magnitude.en, integer_divide.en, integer_plus.en, integer_minus.en]
noncomputable def integer_DivMod.oB : List EnB := []
def integer_DivMod.h : HT := .n
noncomputable def integer_DivMod.c : Code := Try.f16.body.getD .skip
noncomputable def integer_DivMod.L : Lam := fun _ i s K => none
theorem integer_DivMod.os : AllOk prog integer_DivMod.o := ⟨integer_signed.ok, integer_magnitude.ok, integer_divide.ok, integer_plus.ok, integer_minus.ok, trivial⟩
theorem integer_DivMod.osB : AllBOk prog integer_DivMod.oB := trivial
theorem integer_DivMod.hk (x) : semK env (orc integer_DivMod.o) (orcB integer_DivMod.oB) 46 (integer_DivMod.L _) integer_DivMod.c integer_DivMod.h (S.init (avs [.pair (.bool) (.pair (.sl (.int .u32)) (.unit)), .pair (.bool) (.pair (.sl (.int .u32)) (.unit))] x)) (fin env Try.f16 ⟨[.pair (.bool) (.pair (.sl (.int .u32)) (.unit)), .pair (.bool) (.pair (.sl (.int .u32)) (.unit))], .pair (.pair (.bool) (.pair (.sl (.int .u32)) (.unit))) (.pair (.pair (.bool) (.pair (.sl (.int .u32)) (.unit))) (.pair (.bool) (.unit))), true, false⟩) = integer_DivMod.en.g x := by kernel_rfl
theorem integer_DivMod.ok : EnOk prog integer_DivMod.en := by
  refine fun_ok (g := ⟨[.pair (.bool) (.pair (.sl (.int .u32)) (.unit)), .pair (.bool) (.pair (.sl (.int .u32)) (.unit))], .pair (.pair (.bool) (.pair (.sl (.int .u32)) (.unit))) (.pair (.pair (.bool) (.pair (.sl (.int .u32)) (.unit))) (.pair (.bool) (.unit))), true, false⟩) (h := integer_DivMod.h) (Λ := integer_DivMod.L) tabs integer_DivMod.os integer_DivMod.osB Try.func16 (c := integer_DivMod.c) (by kernel_rfl) (by decide +kernel) (by decide +kernel) (fun C hC => ?_) (fun x => integer_DivMod.hk x)
  exact by
    have e : loops integer_DivMod.c integer_DivMod.h = [] := by kernel_rfl
    rw [e]
    exact LamOk.nil
noncomputable def integer_Int64.j2 (t4 : List Int) (t5 : Int) (t13 : Int) (t14 : Int) (b1_0 : Bool) (b1_1 : List Int) : Option ((List Int × Int × Int × Int × (Bool × List Int × Unit) × Unit) ⊕ ((Int × (Bool × List Int × Unit) × Unit))) :=
  (cond (inB t14 (List.length t4))
  ((cond (decide ((IntKind.wrap .i64 ((32 : Int) * t14)) < 0))
  none
  ((some (.inl (t4, (orI .u64 t5 (shlI .u64 (IntKind.wrap .u64 (List.getD t4 (t14.toNat) (0 : Int))) (IntKind.wrap .i64 ((32 : Int) * t14)))), t13, (IntKind.wrap .i64 (t14 + (1 : Int))), (b1_0, (b1_1, ())), ()))))))
  none)
noncomputable def integer_Int64.s0 (t4 : List Int) (t5 : Int) (t13 : Int) (t14 : Int) (b1 : Bool × List Int × Unit) : Option ((List Int × Int × Int × Int × (Bool × List Int × Unit) × Unit) ⊕ ((Int × (Bool × List Int × Unit) × Unit))) :=
  (cond ((decide (t14 < t13)))
  ((integer_Int64.j2 t4 t5 t13 t14 b1.1 b1.2.1))
  ((some (.inr (t5, (b1.1, (b1.2.1, ())), ())))))
noncomputable def integer_Int64.j4  : Option (Int × Bool × Unit) :=
  (some ((0 : Int), (false, ())))
noncomputable def integer_Int64.j3  : Option (Int × Bool × Unit) :=
  (integer_Int64.j4)
noncomputable def integer_Int64.k0 (t5 : Int) (b1 : Bool × List Int × Unit) : Option (Int × Bool × Unit) :=
  (cond (b1.1)
  ((cond ((decide (t5 ≤ (9223372036854775808 : Int))))
  ((some ((IntKind.wrap .i64 (IntKind.wrap .u64 (0 - t5))), (true, ()))))
  ((cond ((!b1.1))
  ((cond ((decide (t5 ≤ (9223372036854775807 : Int))))
  ((some ((IntKind.wrap .i64 t5), (true, ()))))
  ((integer_Int64.j3))))
  ((integer_Int64.j4))))))
  ((cond ((!b1.1))
  ((cond ((decide (t5 ≤ (9223372036854775807 : Int))))
  ((some ((IntKind.wrap .i64 t5), (true, ()))))
  ((integer_Int64.j3))))
  ((some ((0 : Int), (false, ())))))))
noncomputable def integer_Int64.j1 (t4 : List Int) (b1_0 : Bool) (b1_1 : List Int) : Option (Int × Bool × Unit) :=
  ((iterL (fun x : List Int × Int × Int × Int × (Bool × List Int × Unit) × Unit => integer_Int64.s0 x.1 x.2.1 x.2.2.1 x.2.2.2.1 x.2.2.2.2.1) (t4, (0 : Int), ((List.length t4 : Nat) : Int), (0 : Int), (b1_0, (b1_1, ())), ())).bind fun y => integer_Int64.k0 y.1 y.2.1)
noncomputable def integer_Int64 (t0 : Bool × List Int × Unit) : Option (Int × Bool × Unit) :=
  ((integer_magnitude (t0.1, (t0.2.1, ()))).bind fun y1 =>
  (cond ((decide (((List.length y1 : Nat) : Int) > (2 : Int))))
  ((some ((0 : Int), (false, ()))))
  ((integer_Int64.j1 y1 t0.1 t0.2.1))))
noncomputable def integer_Int64.en : En := ⟨39, [.pair (.bool) (.pair (.sl (.int .u32)) (.unit))], .pair (.int .i64) (.pair (.bool) (.unit)), true, fun x => integer_Int64 x.1⟩
noncomputable def integer_Int64.o : List En := [integer_magnitude.en]
noncomputable def integer_Int64.oB : List EnB := []
def integer_Int64.h : HT := .two (.n) (.two (.n) (.two (.n) (.two (.n) (.two (.two (.n) (.lp 0)) (.n)))))
noncomputable def integer_Int64.c : Code := Try.f39.body.getD .skip
def integer_Int64.h0 : HT := .n
noncomputable def integer_Int64.c0 : Code := (find (loops integer_Int64.c integer_Int64.h) 0).getD .skip
def integer_Int64.d0 : Fm := [.v 4 (.sl (.int .u32)), .v 5 (.int .u64), .v 13 (.int .i64), .v 14 (.int .i64), .box 1 (.pair (.bool) (.pair (.sl (.int .u32)) (.unit))), .ptr 1 1]
def integer_Int64.x0 : Xs := [(.exit 0, [.v 5 (.int .u64), .box 1 (.pair (.bool) (.pair (.sl (.int .u32)) (.unit))), .ptr 1 1])]
noncomputable def integer_Int64.r0 (x : (Fm.ty integer_Int64.d0).den) : Option ((Fm.ty integer_Int64.d0).den ⊕ (Xs.T integer_Int64.x0)) := integer_Int64.s0 x.1 x.2.1 x.2.2.1 x.2.2.2.1 x.2.2.2.2.1
noncomputable def integer_Int64.L : Lam := fun _ i s K => cond (Nat.beq i 0) (lamK integer_Int64.d0 integer_Int64.x0 integer_Int64.r0 s K) (none)
theorem integer_Int64.hf0 (x) : roundK env (orc integer_Int64.o) (orcB integer_Int64.oB) 48 integer_Int64.L integer_Int64.c0 integer_Int64.h0 integer_Int64.d0 integer_Int64.x0 x = integer_Int64.r0 x := by kernel_rfl
theorem integer_Int64.os : AllOk prog integer_Int64.o := ⟨integer_magnitude.ok, trivial⟩
theorem integer_Int64.osB : AllBOk prog integer_Int64.oB := trivial
theorem integer_Int64.l0 {C : Ctx} (hC : C.n = 48) : LamAt prog C integer_Int64.L 0 integer_Int64.c0 := by
  intro R s K r hk
  refine loop_ok (D := integer_Int64.d0) (X := integer_Int64.x0) (h := integer_Int64.h0) (f := integer_Int64.r0) tabs (orc_ok _ integer_Int64.os) (orcB_ok _ integer_Int64.osB) (fun x => by rw [hC]; exact integer_Int64.hf0 x) (Λ := integer_Int64.L) ?_ (by kernel_rfl) (by kernel_rfl) (K := K) (s := s) (by exact hk)
  exact by
    have e : loops integer_Int64.c0 integer_Int64.h0 = [] := by kernel_rfl
    rw [e]
    exact LamOk.nil
theorem integer_Int64.hk (x) : semK env (orc integer_Int64.o) (orcB integer_Int64.oB) 48 (integer_Int64.L _) integer_Int64.c integer_Int64.h (S.init (avs [.pair (.bool) (.pair (.sl (.int .u32)) (.unit))] x)) (fin env Try.f39 ⟨[.pair (.bool) (.pair (.sl (.int .u32)) (.unit))], .pair (.int .i64) (.pair (.bool) (.unit)), true, false⟩) = integer_Int64.en.g x := by kernel_rfl
theorem integer_Int64.ok : EnOk prog integer_Int64.en := by
  refine fun_ok (g := ⟨[.pair (.bool) (.pair (.sl (.int .u32)) (.unit))], .pair (.int .i64) (.pair (.bool) (.unit)), true, false⟩) (h := integer_Int64.h) (Λ := integer_Int64.L) tabs integer_Int64.os integer_Int64.osB Try.func39 (c := integer_Int64.c) (by kernel_rfl) (by decide +kernel) (by decide +kernel) (fun C hC => ?_) (fun x => integer_Int64.hk x)
  exact by
    have e : loops integer_Int64.c integer_Int64.h = [(0, integer_Int64.c0)] := by kernel_rfl
    rw [e]
    exact LamOk.cons (integer_Int64.l0 hC) (LamOk.nil)
noncomputable def prime_small (t0 : Bool × List Int × Unit) (t1 : Int) : Option (Int) :=
  ((integer_Small t1).bind fun y1 =>
  ((integer_DivMod (t0.1, (t0.2.1, ())) y1).bind fun y2 =>
  ((integer_Int64 (y2.2.1.1, (y2.2.1.2.1, ()))).bind fun y3 =>
  (some y3.1))))
noncomputable def prime_small.en : En := ⟨23, [.pair (.bool) (.pair (.sl (.int .u32)) (.unit)), .int .i64], .int .i64, false, fun x => prime_small x.1 x.2.1⟩
noncomputable def prime_small.o : List En := [integer_Small.en, integer_DivMod.en, integer_Int64.en]
noncomputable def prime_small.oB : List EnB := []
def prime_small.h : HT := .n
noncomputable def prime_small.c : Code := Try.f23.body.getD .skip
noncomputable def prime_small.L : Lam := fun _ i s K => none
theorem prime_small.os : AllOk prog prime_small.o := ⟨integer_Small.ok, integer_DivMod.ok, integer_Int64.ok, trivial⟩
theorem prime_small.osB : AllBOk prog prime_small.oB := trivial
theorem prime_small.hk (x) : semK env (orc prime_small.o) (orcB prime_small.oB) 24 (prime_small.L _) prime_small.c prime_small.h (S.init (avs [.pair (.bool) (.pair (.sl (.int .u32)) (.unit)), .int .i64] x)) (fin env Try.f23 ⟨[.pair (.bool) (.pair (.sl (.int .u32)) (.unit)), .int .i64], .int .i64, false, false⟩) = prime_small.en.g x := by kernel_rfl
theorem prime_small.ok : EnOk prog prime_small.en := by
  refine fun_ok (g := ⟨[.pair (.bool) (.pair (.sl (.int .u32)) (.unit)), .int .i64], .int .i64, false, false⟩) (h := prime_small.h) (Λ := prime_small.L) tabs prime_small.os prime_small.osB Try.func23 (c := prime_small.c) (by kernel_rfl) (by decide +kernel) (by decide +kernel) (fun C hC => ?_) (fun x => prime_small.hk x)
  exact by
    have e : loops prime_small.c prime_small.h = [] := by kernel_rfl
    rw [e]
    exact LamOk.nil
noncomputable def prime_Unit.j3 (t1 : Int) (t6 : Int) : Option (Int × Int × Unit) :=
  ((prime_symbol t6 t1).bind fun y4 =>
  (some (y4, ((0 : Int), ()))))
noncomputable def prime_Unit.j2 (t1 : Int) (t6 : Int) (b2_0 : Bool) (b2_1 : List Int) : Option (Int × Int × Unit) :=
  (cond ((t1 == (2 : Int)))
  (((prime_small (b2_0, (b2_1, ())) (8 : Int)).bind fun y3 =>
  (some (y3, ((0 : Int), ())))))
  ((prime_Unit.j3 t1 t6)))
noncomputable def prime_Unit.j1 (t1 : Int) (b2_0 : Bool) (b2_1 : List Int) : Option (Int × Int × Unit) :=
  ((prime_small (b2_0, (b2_1, ())) t1).bind fun y2 =>
  (cond ((y2 == (0 : Int)))
  ((some ((0 : Int), ((21 : Int), ()))))
  ((prime_Unit.j2 t1 y2 b2_0 b2_1))))
noncomputable def prime_Unit (t0 : Bool × List Int × Unit) (t1 : Int) : Option (Int × Int × Unit) :=
  ((prime_Is t1).bind fun y1 =>
  (cond ((!y1))
  ((some ((0 : Int), ((20 : Int), ()))))
  ((prime_Unit.j1 t1 t0.1 t0.2.1))))
noncomputable def prime_Unit.en : En := ⟨9, [.pair (.bool) (.pair (.sl (.int .u32)) (.unit)), .int .i64], .pair (.int .i64) (.pair (.int .i64) (.unit)), true, fun x => prime_Unit x.1 x.2.1⟩
noncomputable def prime_Unit.o : List En := [prime_Is.en, prime_small.en, prime_symbol.en]
noncomputable def prime_Unit.oB : List EnB := []
def prime_Unit.h : HT := .n
noncomputable def prime_Unit.c : Code := Try.f9.body.getD .skip
noncomputable def prime_Unit.L : Lam := fun _ i s K => none
theorem prime_Unit.os : AllOk prog prime_Unit.o := ⟨prime_Is.ok, prime_small.ok, prime_symbol.ok, trivial⟩
theorem prime_Unit.osB : AllBOk prog prime_Unit.oB := trivial
theorem prime_Unit.hk (x) : semK env (orc prime_Unit.o) (orcB prime_Unit.oB) 22 (prime_Unit.L _) prime_Unit.c prime_Unit.h (S.init (avs [.pair (.bool) (.pair (.sl (.int .u32)) (.unit)), .int .i64] x)) (fin env Try.f9 ⟨[.pair (.bool) (.pair (.sl (.int .u32)) (.unit)), .int .i64], .pair (.int .i64) (.pair (.int .i64) (.unit)), true, false⟩) = prime_Unit.en.g x := by kernel_rfl
theorem prime_Unit.ok : EnOk prog prime_Unit.en := by
  refine fun_ok (g := ⟨[.pair (.bool) (.pair (.sl (.int .u32)) (.unit)), .int .i64], .pair (.int .i64) (.pair (.int .i64) (.unit)), true, false⟩) (h := prime_Unit.h) (Λ := prime_Unit.L) tabs prime_Unit.os prime_Unit.osB Try.func9 (c := prime_Unit.c) (by kernel_rfl) (by decide +kernel) (by decide +kernel) (fun C hC => ?_) (fun x => prime_Unit.hk x)
  exact by
    have e : loops prime_Unit.c prime_Unit.h = [] := by kernel_rfl
    rw [e]
    exact LamOk.nil
noncomputable def quadformref22_Is.j3 (t0 : Int) (t3 : Int) : Option ((Int × Int × Unit) ⊕ ((Unit) ⊕ (Bool × Unit))) :=
  (some (.inl (t0, (IntKind.wrap .i64 (t3 + (1 : Int))), ())))
noncomputable def quadformref22_Is.j2 (t0 : Int) (t3 : Int) : Option ((Int × Int × Unit) ⊕ ((Unit) ⊕ (Bool × Unit))) :=
  (cond (decide (t3 = 0))
  none
  ((cond (((Int.tmod t0 t3) == (0 : Int)))
  ((some (.inr (.inr (false, ())))))
  ((quadformref22_Is.j3 t0 t3)))))
noncomputable def quadformref22_Is.s0 (t0 : Int) (t3 : Int) : Option ((Int × Int × Unit) ⊕ ((Unit) ⊕ (Bool × Unit))) :=
  (cond ((decide ((IntKind.wrap .i64 (t3 * t3)) ≤ t0)))
  ((quadformref22_Is.j2 t0 t3))
  ((some (.inr (.inl ())))))
noncomputable def quadformref22_Is.k0_0  : Option (Bool) :=
  (some true)
noncomputable def quadformref22_Is.k0_1 (t2 : Bool) : Option (Bool) :=
  (some t2)
noncomputable def quadformref22_Is.j1 (t0 : Int) : Option (Bool) :=
  ((iterL (fun x : Int × Int × Unit => quadformref22_Is.s0 x.1 x.2.1) (t0, (2 : Int), ())).bind fun z => Sum.casesOn z (fun y => quadformref22_Is.k0_0) (fun z => quadformref22_Is.k0_1 z.1))
noncomputable def quadformref22_Is (t0 : Int) : Option (Bool) :=
  (cond ((decide (t0 < (2 : Int))))
  ((some false))
  ((cond ((decide (t0 > (2147483647 : Int))))
  ((some false))
  ((quadformref22_Is.j1 t0)))))
noncomputable def quadformref22_Is.en : En := ⟨25, [.int .i64], .bool, false, fun x => quadformref22_Is x.1⟩
noncomputable def quadformref22_Is.o : List En := []
noncomputable def quadformref22_Is.oB : List EnB := []
def quadformref22_Is.h : HT := .two (.n) (.two (.n) (.two (.two (.n) (.lp 0)) (.n)))
noncomputable def quadformref22_Is.c : Code := Try.f25.body.getD .skip
def quadformref22_Is.h0 : HT := .n
noncomputable def quadformref22_Is.c0 : Code := (find (loops quadformref22_Is.c quadformref22_Is.h) 0).getD .skip
def quadformref22_Is.d0 : Fm := [.v 0 (.int .i64), .v 3 (.int .i64)]
def quadformref22_Is.x0 : Xs := [(.exit 0, []), (.ret, [.v 2 (.bool)])]
noncomputable def quadformref22_Is.r0 (x : (Fm.ty quadformref22_Is.d0).den) : Option ((Fm.ty quadformref22_Is.d0).den ⊕ (Xs.T quadformref22_Is.x0)) := quadformref22_Is.s0 x.1 x.2.1
noncomputable def quadformref22_Is.L : Lam := fun _ i s K => cond (Nat.beq i 0) (lamK quadformref22_Is.d0 quadformref22_Is.x0 quadformref22_Is.r0 s K) (none)
theorem quadformref22_Is.hf0 (x) : roundK env (orc quadformref22_Is.o) (orcB quadformref22_Is.oB) 21 quadformref22_Is.L quadformref22_Is.c0 quadformref22_Is.h0 quadformref22_Is.d0 quadformref22_Is.x0 x = quadformref22_Is.r0 x := by kernel_rfl
theorem quadformref22_Is.os : AllOk prog quadformref22_Is.o := trivial
theorem quadformref22_Is.osB : AllBOk prog quadformref22_Is.oB := trivial
theorem quadformref22_Is.l0 {C : Ctx} (hC : C.n = 21) : LamAt prog C quadformref22_Is.L 0 quadformref22_Is.c0 := by
  intro R s K r hk
  refine loop_ok (D := quadformref22_Is.d0) (X := quadformref22_Is.x0) (h := quadformref22_Is.h0) (f := quadformref22_Is.r0) tabs (orc_ok _ quadformref22_Is.os) (orcB_ok _ quadformref22_Is.osB) (fun x => by rw [hC]; exact quadformref22_Is.hf0 x) (Λ := quadformref22_Is.L) ?_ (by kernel_rfl) (by kernel_rfl) (K := K) (s := s) (by exact hk)
  exact by
    have e : loops quadformref22_Is.c0 quadformref22_Is.h0 = [] := by kernel_rfl
    rw [e]
    exact LamOk.nil
theorem quadformref22_Is.hk (x) : semK env (orc quadformref22_Is.o) (orcB quadformref22_Is.oB) 21 (quadformref22_Is.L _) quadformref22_Is.c quadformref22_Is.h (S.init (avs [.int .i64] x)) (fin env Try.f25 ⟨[.int .i64], .bool, false, false⟩) = quadformref22_Is.en.g x := by kernel_rfl
theorem quadformref22_Is.ok : EnOk prog quadformref22_Is.en := by
  refine fun_ok (g := ⟨[.int .i64], .bool, false, false⟩) (h := quadformref22_Is.h) (Λ := quadformref22_Is.L) tabs quadformref22_Is.os quadformref22_Is.osB Try.func25 (c := quadformref22_Is.c) (by kernel_rfl) (by decide +kernel) (by decide +kernel) (fun C hC => ?_) (fun x => quadformref22_Is.hk x)
  exact by
    have e : loops quadformref22_Is.c quadformref22_Is.h = [(0, quadformref22_Is.c0)] := by kernel_rfl
    rw [e]
    exact LamOk.cons (quadformref22_Is.l0 hC) (LamOk.nil)
noncomputable def quadformref01_trim.j1 (t0 : List Int) (t3 : Int) : Option ((List Int × Int × Unit) ⊕ ((List Int × Int × Unit))) :=
  (some (.inl (t0, (IntKind.wrap .i64 (t3 - (1 : Int))), ())))
noncomputable def quadformref01_trim.s0 (t0 : List Int) (t3 : Int) : Option ((List Int × Int × Unit) ⊕ ((List Int × Int × Unit))) :=
  (cond ((decide (t3 > (0 : Int))))
  ((cond (inB (IntKind.wrap .i64 (t3 - (1 : Int))) (List.length t0))
  ((cond (((List.getD t0 (((IntKind.wrap .i64 (t3 - (1 : Int)))).toNat) (0 : Int)) == (0 : Int)))
  ((quadformref01_trim.j1 t0 t3))
  ((some (.inr (t0, t3, ()))))))
  none))
  ((some (.inr (t0, t3, ())))))
noncomputable def quadformref01_trim.k0 (t0 : List Int) (t3 : Int) : Option (List Int) :=
  (cond (inC t3 (List.length t0))
  ((cond (decide (List.length (List.take (t3.toNat) t0) ≤ maxL))
  ((some (List.take (t3.toNat) t0)))
  none))
  none)
noncomputable def quadformref01_trim (t0 : List Int) : Option (List Int) :=
  ((iterL (fun x : List Int × Int × Unit => quadformref01_trim.s0 x.1 x.2.1) (t0, ((List.length t0 : Nat) : Int), ())).bind fun y => quadformref01_trim.k0 y.1 y.2.1)
noncomputable def quadformref01_trim.en : En := ⟨51, [.sl (.int .u32)], .sl (.int .u32), false, fun x => quadformref01_trim x.1⟩
noncomputable def quadformref01_trim.o : List En := []
noncomputable def quadformref01_trim.oB : List EnB := []
def quadformref01_trim.h : HT := .two (.n) (.two (.n) (.two (.lp 0) (.n)))
noncomputable def quadformref01_trim.c : Code := Try.f51.body.getD .skip
def quadformref01_trim.h0 : HT := .n
noncomputable def quadformref01_trim.c0 : Code := (find (loops quadformref01_trim.c quadformref01_trim.h) 0).getD .skip
def quadformref01_trim.d0 : Fm := [.v 0 (.sl (.int .u32)), .v 3 (.int .i64)]
def quadformref01_trim.x0 : Xs := [(.exit 0, [.v 0 (.sl (.int .u32)), .v 3 (.int .i64)])]
noncomputable def quadformref01_trim.r0 (x : (Fm.ty quadformref01_trim.d0).den) : Option ((Fm.ty quadformref01_trim.d0).den ⊕ (Xs.T quadformref01_trim.x0)) := quadformref01_trim.s0 x.1 x.2.1
noncomputable def quadformref01_trim.L : Lam := fun _ i s K => cond (Nat.beq i 0) (lamK quadformref01_trim.d0 quadformref01_trim.x0 quadformref01_trim.r0 s K) (none)
theorem quadformref01_trim.hf0 (x) : roundK env (orc quadformref01_trim.o) (orcB quadformref01_trim.oB) 22 quadformref01_trim.L quadformref01_trim.c0 quadformref01_trim.h0 quadformref01_trim.d0 quadformref01_trim.x0 x = quadformref01_trim.r0 x := by kernel_rfl
theorem quadformref01_trim.os : AllOk prog quadformref01_trim.o := trivial
theorem quadformref01_trim.osB : AllBOk prog quadformref01_trim.oB := trivial
theorem quadformref01_trim.l0 {C : Ctx} (hC : C.n = 22) : LamAt prog C quadformref01_trim.L 0 quadformref01_trim.c0 := by
  intro R s K r hk
  refine loop_ok (D := quadformref01_trim.d0) (X := quadformref01_trim.x0) (h := quadformref01_trim.h0) (f := quadformref01_trim.r0) tabs (orc_ok _ quadformref01_trim.os) (orcB_ok _ quadformref01_trim.osB) (fun x => by rw [hC]; exact quadformref01_trim.hf0 x) (Λ := quadformref01_trim.L) ?_ (by kernel_rfl) (by kernel_rfl) (K := K) (s := s) (by exact hk)
  exact by
    have e : loops quadformref01_trim.c0 quadformref01_trim.h0 = [] := by kernel_rfl
    rw [e]
    exact LamOk.nil
theorem quadformref01_trim.hk (x) : semK env (orc quadformref01_trim.o) (orcB quadformref01_trim.oB) 22 (quadformref01_trim.L _) quadformref01_trim.c quadformref01_trim.h (S.init (avs [.sl (.int .u32)] x)) (fin env Try.f51 ⟨[.sl (.int .u32)], .sl (.int .u32), false, false⟩) = quadformref01_trim.en.g x := by kernel_rfl
theorem quadformref01_trim.ok : EnOk prog quadformref01_trim.en := by
  refine fun_ok (g := ⟨[.sl (.int .u32)], .sl (.int .u32), false, false⟩) (h := quadformref01_trim.h) (Λ := quadformref01_trim.L) tabs quadformref01_trim.os quadformref01_trim.osB Try.func51 (c := quadformref01_trim.c) (by kernel_rfl) (by decide +kernel) (by decide +kernel) (fun C hC => ?_) (fun x => quadformref01_trim.hk x)
  exact by
    have e : loops quadformref01_trim.c quadformref01_trim.h = [(0, quadformref01_trim.c0)] := by kernel_rfl
    rw [e]
    exact LamOk.cons (quadformref01_trim.l0 hC) (LamOk.nil)
noncomputable def quadformref01_low.j1 (t0 : List Int) (t3 : Int) (t4 : Int) : Option ((List Int × Int × Int × Unit) ⊕ ((Int × Unit))) :=
  (cond (inB t4 (List.length t0))
  ((cond (decide ((IntKind.wrap .i64 ((32 : Int) * t4)) < 0))
  none
  ((some (.inl (t0, (orI .u64 t3 (shlI .u64 (IntKind.wrap .u64 (List.getD t0 (t4.toNat) (0 : Int))) (IntKind.wrap .i64 ((32 : Int) * t4)))), (IntKind.wrap .i64 (t4 + (1 : Int))), ()))))))
  none)
noncomputable def quadformref01_low.s0 (t0 : List Int) (t3 : Int) (t4 : Int) : Option ((List Int × Int × Int × Unit) ⊕ ((Int × Unit))) :=
  (cond ((decide (t4 < ((List.length t0 : Nat) : Int))))
  ((cond ((decide (t4 < (2 : Int))))
  ((quadformref01_low.j1 t0 t3 t4))
  ((some (.inr (t3, ()))))))
  ((some (.inr (t3, ())))))
noncomputable def quadformref01_low.k0 (t3 : Int) : Option (Int) :=
  (some t3)
noncomputable def quadformref01_low (t0 : List Int) : Option (Int) :=
  ((iterL (fun x : List Int × Int × Int × Unit => quadformref01_low.s0 x.1 x.2.1 x.2.2.1) (t0, (0 : Int), (0 : Int), ())).bind fun y => quadformref01_low.k0 y.1)
noncomputable def quadformref01_low.en : En := ⟨52, [.sl (.int .u32)], .int .u64, false, fun x => quadformref01_low x.1⟩
noncomputable def quadformref01_low.o : List En := []
noncomputable def quadformref01_low.oB : List EnB := []
def quadformref01_low.h : HT := .two (.n) (.two (.n) (.two (.two (.n) (.lp 0)) (.n)))
noncomputable def quadformref01_low.c : Code := Try.f52.body.getD .skip
def quadformref01_low.h0 : HT := .n
noncomputable def quadformref01_low.c0 : Code := (find (loops quadformref01_low.c quadformref01_low.h) 0).getD .skip
def quadformref01_low.d0 : Fm := [.v 0 (.sl (.int .u32)), .v 3 (.int .u64), .v 4 (.int .i64)]
def quadformref01_low.x0 : Xs := [(.exit 0, [.v 3 (.int .u64)])]
noncomputable def quadformref01_low.r0 (x : (Fm.ty quadformref01_low.d0).den) : Option ((Fm.ty quadformref01_low.d0).den ⊕ (Xs.T quadformref01_low.x0)) := quadformref01_low.s0 x.1 x.2.1 x.2.2.1
noncomputable def quadformref01_low.L : Lam := fun _ i s K => cond (Nat.beq i 0) (lamK quadformref01_low.d0 quadformref01_low.x0 quadformref01_low.r0 s K) (none)
theorem quadformref01_low.hf0 (x) : roundK env (orc quadformref01_low.o) (orcB quadformref01_low.oB) 26 quadformref01_low.L quadformref01_low.c0 quadformref01_low.h0 quadformref01_low.d0 quadformref01_low.x0 x = quadformref01_low.r0 x := by kernel_rfl
theorem quadformref01_low.os : AllOk prog quadformref01_low.o := trivial
theorem quadformref01_low.osB : AllBOk prog quadformref01_low.oB := trivial
theorem quadformref01_low.l0 {C : Ctx} (hC : C.n = 26) : LamAt prog C quadformref01_low.L 0 quadformref01_low.c0 := by
  intro R s K r hk
  refine loop_ok (D := quadformref01_low.d0) (X := quadformref01_low.x0) (h := quadformref01_low.h0) (f := quadformref01_low.r0) tabs (orc_ok _ quadformref01_low.os) (orcB_ok _ quadformref01_low.osB) (fun x => by rw [hC]; exact quadformref01_low.hf0 x) (Λ := quadformref01_low.L) ?_ (by kernel_rfl) (by kernel_rfl) (K := K) (s := s) (by exact hk)
  exact by
    have e : loops quadformref01_low.c0 quadformref01_low.h0 = [] := by kernel_rfl
    rw [e]
    exact LamOk.nil
theorem quadformref01_low.hk (x) : semK env (orc quadformref01_low.o) (orcB quadformref01_low.oB) 26 (quadformref01_low.L _) quadformref01_low.c quadformref01_low.h (S.init (avs [.sl (.int .u32)] x)) (fin env Try.f52 ⟨[.sl (.int .u32)], .int .u64, false, false⟩) = quadformref01_low.en.g x := by kernel_rfl
theorem quadformref01_low.ok : EnOk prog quadformref01_low.en := by
  refine fun_ok (g := ⟨[.sl (.int .u32)], .int .u64, false, false⟩) (h := quadformref01_low.h) (Λ := quadformref01_low.L) tabs quadformref01_low.os quadformref01_low.osB Try.func52 (c := quadformref01_low.c) (by kernel_rfl) (by decide +kernel) (by decide +kernel) (fun C hC => ?_) (fun x => quadformref01_low.hk x)
  exact by
    have e : loops quadformref01_low.c quadformref01_low.h = [(0, quadformref01_low.c0)] := by kernel_rfl
    rw [e]
    exact LamOk.cons (quadformref01_low.l0 hC) (LamOk.nil)
noncomputable def quadformref01_Int64.j3  : Option (Int × Bool × Unit) :=
  (some ((0 : Int), (false, ())))
noncomputable def quadformref01_Int64.j2  : Option (Int × Bool × Unit) :=
  (quadformref01_Int64.j3)
noncomputable def quadformref01_Int64.j1  : Option (Int × Bool × Unit) :=
  (quadformref01_Int64.j2)
noncomputable def quadformref01_Int64 (t0 : Bool × List Int × Unit) : Option (Int × Bool × Unit) :=
  ((quadformref01_trim t0.2.1).bind fun y1 =>
  ((quadformref01_low y1).bind fun y2 =>
  (cond ((decide (((List.length y1 : Nat) : Int) > (2 : Int))))
  ((some ((0 : Int), (false, ()))))
  ((cond (t0.1)
  ((cond ((decide (y2 ≤ (9223372036854775808 : Int))))
  ((some ((IntKind.wrap .i64 (IntKind.wrap .u64 (0 - y2))), (true, ()))))
  ((cond ((!t0.1))
  ((cond ((decide (y2 < (9223372036854775808 : Int))))
  ((some ((IntKind.wrap .i64 y2), (true, ()))))
  ((quadformref01_Int64.j1))))
  ((quadformref01_Int64.j2))))))
  ((cond ((!t0.1))
  ((cond ((decide (y2 < (9223372036854775808 : Int))))
  ((some ((IntKind.wrap .i64 y2), (true, ()))))
  ((quadformref01_Int64.j1))))
  ((quadformref01_Int64.j3)))))))))
noncomputable def quadformref01_Int64.en : En := ⟨40, [.pair (.bool) (.pair (.sl (.int .u32)) (.unit))], .pair (.int .i64) (.pair (.bool) (.unit)), true, fun x => quadformref01_Int64 x.1⟩
noncomputable def quadformref01_Int64.o : List En := [quadformref01_trim.en, quadformref01_low.en]
noncomputable def quadformref01_Int64.oB : List EnB := []
def quadformref01_Int64.h : HT := .n
noncomputable def quadformref01_Int64.c : Code := Try.f40.body.getD .skip
noncomputable def quadformref01_Int64.L : Lam := fun _ i s K => none
theorem quadformref01_Int64.os : AllOk prog quadformref01_Int64.o := ⟨quadformref01_trim.ok, quadformref01_low.ok, trivial⟩
theorem quadformref01_Int64.osB : AllBOk prog quadformref01_Int64.oB := trivial
theorem quadformref01_Int64.hk (x) : semK env (orc quadformref01_Int64.o) (orcB quadformref01_Int64.oB) 35 (quadformref01_Int64.L _) quadformref01_Int64.c quadformref01_Int64.h (S.init (avs [.pair (.bool) (.pair (.sl (.int .u32)) (.unit))] x)) (fin env Try.f40 ⟨[.pair (.bool) (.pair (.sl (.int .u32)) (.unit))], .pair (.int .i64) (.pair (.bool) (.unit)), true, false⟩) = quadformref01_Int64.en.g x := by kernel_rfl
theorem quadformref01_Int64.ok : EnOk prog quadformref01_Int64.en := by
  refine fun_ok (g := ⟨[.pair (.bool) (.pair (.sl (.int .u32)) (.unit))], .pair (.int .i64) (.pair (.bool) (.unit)), true, false⟩) (h := quadformref01_Int64.h) (Λ := quadformref01_Int64.L) tabs quadformref01_Int64.os quadformref01_Int64.osB Try.func40 (c := quadformref01_Int64.c) (by kernel_rfl) (by decide +kernel) (by decide +kernel) (fun C hC => ?_) (fun x => quadformref01_Int64.hk x)
  exact by
    have e : loops quadformref01_Int64.c quadformref01_Int64.h = [] := by kernel_rfl
    rw [e]
    exact LamOk.nil
noncomputable def quadformref01_Make (t0 : Bool) (t1 : List Int) : Option (Bool × List Int × Unit) :=
  ((quadformref01_trim t1).bind fun y1 =>
  (cond (t0)
  ((some ((decide (((List.length y1 : Nat) : Int) > (0 : Int))), (y1, ()))))
  ((some (false, (y1, ()))))))
noncomputable def quadformref01_Make.en : En := ⟨58, [.bool, .sl (.int .u32)], .pair (.bool) (.pair (.sl (.int .u32)) (.unit)), false, fun x => quadformref01_Make x.1 x.2.1⟩
noncomputable def quadformref01_Make.o : List En := [quadformref01_trim.en]
noncomputable def quadformref01_Make.oB : List EnB := []
def quadformref01_Make.h : HT := .n
noncomputable def quadformref01_Make.c : Code := Try.f58.body.getD .skip
noncomputable def quadformref01_Make.L : Lam := fun _ i s K => none
theorem quadformref01_Make.os : AllOk prog quadformref01_Make.o := ⟨quadformref01_trim.ok, trivial⟩
theorem quadformref01_Make.osB : AllBOk prog quadformref01_Make.oB := trivial
theorem quadformref01_Make.hk (x) : semK env (orc quadformref01_Make.o) (orcB quadformref01_Make.oB) 16 (quadformref01_Make.L _) quadformref01_Make.c quadformref01_Make.h (S.init (avs [.bool, .sl (.int .u32)] x)) (fin env Try.f58 ⟨[.bool, .sl (.int .u32)], .pair (.bool) (.pair (.sl (.int .u32)) (.unit)), false, false⟩) = quadformref01_Make.en.g x := by kernel_rfl
theorem quadformref01_Make.ok : EnOk prog quadformref01_Make.en := by
  refine fun_ok (g := ⟨[.bool, .sl (.int .u32)], .pair (.bool) (.pair (.sl (.int .u32)) (.unit)), false, false⟩) (h := quadformref01_Make.h) (Λ := quadformref01_Make.L) tabs quadformref01_Make.os quadformref01_Make.osB Try.func58 (c := quadformref01_Make.c) (by kernel_rfl) (by decide +kernel) (by decide +kernel) (fun C hC => ?_) (fun x => quadformref01_Make.hk x)
  exact by
    have e : loops quadformref01_Make.c quadformref01_Make.h = [] := by kernel_rfl
    rw [e]
    exact LamOk.nil
noncomputable def quadformref01_word (t0 : Bool) (t1 : Int) : Option (Bool × List Int × Unit) :=
  ((quadformref01_Make t0 ([(IntKind.wrap .u32 t1), (IntKind.wrap .u32 (shrI .u64 t1 (32 : Int)))] : List (Int))).bind fun y2 =>
  (some (y2.1, (y2.2.1, ()))))
noncomputable def quadformref01_word.en : En := ⟨54, [.bool, .int .u64], .pair (.bool) (.pair (.sl (.int .u32)) (.unit)), false, fun x => quadformref01_word x.1 x.2.1⟩
noncomputable def quadformref01_word.o : List En := [quadformref01_Make.en]
noncomputable def quadformref01_word.oB : List EnB := []
def quadformref01_word.h : HT := .n
noncomputable def quadformref01_word.c : Code := Try.f54.body.getD .skip
noncomputable def quadformref01_word.L : Lam := fun _ i s K => none
theorem quadformref01_word.os : AllOk prog quadformref01_word.o := ⟨quadformref01_Make.ok, trivial⟩
theorem quadformref01_word.osB : AllBOk prog quadformref01_word.oB := trivial
theorem quadformref01_word.hk (x) : semK env (orc quadformref01_word.o) (orcB quadformref01_word.oB) 13 (quadformref01_word.L _) quadformref01_word.c quadformref01_word.h (S.init (avs [.bool, .int .u64] x)) (fin env Try.f54 ⟨[.bool, .int .u64], .pair (.bool) (.pair (.sl (.int .u32)) (.unit)), false, false⟩) = quadformref01_word.en.g x := by kernel_rfl
theorem quadformref01_word.ok : EnOk prog quadformref01_word.en := by
  refine fun_ok (g := ⟨[.bool, .int .u64], .pair (.bool) (.pair (.sl (.int .u32)) (.unit)), false, false⟩) (h := quadformref01_word.h) (Λ := quadformref01_word.L) tabs quadformref01_word.os quadformref01_word.osB Try.func54 (c := quadformref01_word.c) (by kernel_rfl) (by decide +kernel) (by decide +kernel) (fun C hC => ?_) (fun x => quadformref01_word.hk x)
  exact by
    have e : loops quadformref01_word.c quadformref01_word.h = [] := by kernel_rfl
    rw [e]
    exact LamOk.nil
noncomputable def quadformref01_Small.j1 (t0 : Int) (b2_1 : List Int) : Option (Bool × List Int × Unit) :=
  ((quadformref01_word false (IntKind.wrap .u64 t0)).bind fun y3 =>
  (some (y3.1, (y3.2.1, ()))))
noncomputable def quadformref01_Small (t0 : Int) : Option (Bool × List Int × Unit) :=
  (cond ((decide (t0 < (0 : Int))))
  (((quadformref01_word true (IntKind.wrap .u64 (0 - (IntKind.wrap .u64 t0)))).bind fun y2 =>
  (some (y2.1, (y2.2.1, ())))))
  ((quadformref01_Small.j1 t0 ([] : List Int))))
noncomputable def quadformref01_Small.en : En := ⟨42, [.int .i64], .pair (.bool) (.pair (.sl (.int .u32)) (.unit)), false, fun x => quadformref01_Small x.1⟩
noncomputable def quadformref01_Small.o : List En := [quadformref01_word.en]
noncomputable def quadformref01_Small.oB : List EnB := []
def quadformref01_Small.h : HT := .n
noncomputable def quadformref01_Small.c : Code := Try.f42.body.getD .skip
noncomputable def quadformref01_Small.L : Lam := fun _ i s K => none
theorem quadformref01_Small.os : AllOk prog quadformref01_Small.o := ⟨quadformref01_word.ok, trivial⟩
theorem quadformref01_Small.osB : AllBOk prog quadformref01_Small.oB := trivial
theorem quadformref01_Small.hk (x) : semK env (orc quadformref01_Small.o) (orcB quadformref01_Small.oB) 12 (quadformref01_Small.L _) quadformref01_Small.c quadformref01_Small.h (S.init (avs [.int .i64] x)) (fin env Try.f42 ⟨[.int .i64], .pair (.bool) (.pair (.sl (.int .u32)) (.unit)), false, false⟩) = quadformref01_Small.en.g x := by kernel_rfl
theorem quadformref01_Small.ok : EnOk prog quadformref01_Small.en := by
  refine fun_ok (g := ⟨[.int .i64], .pair (.bool) (.pair (.sl (.int .u32)) (.unit)), false, false⟩) (h := quadformref01_Small.h) (Λ := quadformref01_Small.L) tabs quadformref01_Small.os quadformref01_Small.osB Try.func42 (c := quadformref01_Small.c) (by kernel_rfl) (by decide +kernel) (by decide +kernel) (fun C hC => ?_) (fun x => quadformref01_Small.hk x)
  exact by
    have e : loops quadformref01_Small.c quadformref01_Small.h = [] := by kernel_rfl
    rw [e]
    exact LamOk.nil
noncomputable def quadformref01_double.j1 (t1 : Int) (t8 : List Int) (t9 : Int) (t10 : Int) (a20 : List (Int)) : Option ((Int × List Int × Int × Int × List Int × Unit) ⊕ ((Int × List Int × Unit))) :=
  (cond (inB t10 (List.length t8))
  (let x1 := (shlI .u32 (List.getD t8 (t10.toNat) (0 : Int)) (1 : Int))
  (cond (decide (List.length a20 + List.length ([(orI .u32 x1 t1)] : List (Int)) ≤ maxL))
  ((some (.inl ((shrI .u32 (List.getD t8 (t10.toNat) (0 : Int)) (31 : Int)), t8, t9, (IntKind.wrap .i64 (t10 + (1 : Int))), (a20 ++ ([(orI .u32 x1 t1)] : List (Int))), ()))))
  none))
  none)
noncomputable def quadformref01_double.s0 (t1 : Int) (t8 : List Int) (t9 : Int) (t10 : Int) (a20 : List (Int)) : Option ((Int × List Int × Int × Int × List Int × Unit) ⊕ ((Int × List Int × Unit))) :=
  (cond ((decide (t10 < t9)))
  ((quadformref01_double.j1 t1 t8 t9 t10 a20))
  ((some (.inr (t1, a20, ())))))
noncomputable def quadformref01_double.k0 (t1 : Int) (a20 : List (Int)) : Option (List Int) :=
  (cond (decide (List.length a20 + List.length ([t1] : List (Int)) ≤ maxL))
  ((some (a20 ++ ([t1] : List (Int)))))
  none)
noncomputable def quadformref01_double (t0 : List Int) (t1 : Int) : Option (List Int) :=
  ((iterL (fun x : Int × List Int × Int × Int × List Int × Unit => quadformref01_double.s0 x.1 x.2.1 x.2.2.1 x.2.2.2.1 x.2.2.2.2.1) (t1, t0, ((List.length t0 : Nat) : Int), (0 : Int), ([] : List (Int)), ())).bind fun y => quadformref01_double.k0 y.1 y.2.1)
noncomputable def quadformref01_double.en : En := ⟨62, [.sl (.int .u32), .int .u32], .sl (.int .u32), false, fun x => quadformref01_double x.1 x.2.1⟩
noncomputable def quadformref01_double.o : List En := []
noncomputable def quadformref01_double.oB : List EnB := []
def quadformref01_double.h : HT := .two (.n) (.two (.n) (.two (.two (.n) (.lp 0)) (.n)))
noncomputable def quadformref01_double.c : Code := Try.f62.body.getD .skip
def quadformref01_double.h0 : HT := .n
noncomputable def quadformref01_double.c0 : Code := (find (loops quadformref01_double.c quadformref01_double.h) 0).getD .skip
def quadformref01_double.d0 : Fm := [.v 1 (.int .u32), .v 8 (.sl (.int .u32)), .v 9 (.int .i64), .v 10 (.int .i64), .arr 20 60 (.int .u32), .own 5 20]
def quadformref01_double.x0 : Xs := [(.exit 0, [.v 1 (.int .u32), .arr 20 60 (.int .u32), .own 5 20])]
noncomputable def quadformref01_double.r0 (x : (Fm.ty quadformref01_double.d0).den) : Option ((Fm.ty quadformref01_double.d0).den ⊕ (Xs.T quadformref01_double.x0)) := quadformref01_double.s0 x.1 x.2.1 x.2.2.1 x.2.2.2.1 x.2.2.2.2.1
noncomputable def quadformref01_double.L : Lam := fun _ i s K => cond (Nat.beq i 0) (lamK quadformref01_double.d0 quadformref01_double.x0 quadformref01_double.r0 s K) (none)
theorem quadformref01_double.hf0 (x) : roundK env (orc quadformref01_double.o) (orcB quadformref01_double.oB) 28 quadformref01_double.L quadformref01_double.c0 quadformref01_double.h0 quadformref01_double.d0 quadformref01_double.x0 x = quadformref01_double.r0 x := by kernel_rfl
theorem quadformref01_double.os : AllOk prog quadformref01_double.o := trivial
theorem quadformref01_double.osB : AllBOk prog quadformref01_double.oB := trivial
theorem quadformref01_double.l0 {C : Ctx} (hC : C.n = 28) : LamAt prog C quadformref01_double.L 0 quadformref01_double.c0 := by
  intro R s K r hk
  refine loop_ok (D := quadformref01_double.d0) (X := quadformref01_double.x0) (h := quadformref01_double.h0) (f := quadformref01_double.r0) tabs (orc_ok _ quadformref01_double.os) (orcB_ok _ quadformref01_double.osB) (fun x => by rw [hC]; exact quadformref01_double.hf0 x) (Λ := quadformref01_double.L) ?_ (by kernel_rfl) (by kernel_rfl) (K := K) (s := s) (by exact hk)
  exact by
    have e : loops quadformref01_double.c0 quadformref01_double.h0 = [] := by kernel_rfl
    rw [e]
    exact LamOk.nil
theorem quadformref01_double.hk (x) : semK env (orc quadformref01_double.o) (orcB quadformref01_double.oB) 28 (quadformref01_double.L _) quadformref01_double.c quadformref01_double.h (S.init (avs [.sl (.int .u32), .int .u32] x)) (fin env Try.f62 ⟨[.sl (.int .u32), .int .u32], .sl (.int .u32), false, false⟩) = quadformref01_double.en.g x := by kernel_rfl
theorem quadformref01_double.ok : EnOk prog quadformref01_double.en := by
  refine fun_ok (g := ⟨[.sl (.int .u32), .int .u32], .sl (.int .u32), false, false⟩) (h := quadformref01_double.h) (Λ := quadformref01_double.L) tabs quadformref01_double.os quadformref01_double.osB Try.func62 (c := quadformref01_double.c) (by kernel_rfl) (by decide +kernel) (by decide +kernel) (fun C hC => ?_) (fun x => quadformref01_double.hk x)
  exact by
    have e : loops quadformref01_double.c quadformref01_double.h = [(0, quadformref01_double.c0)] := by kernel_rfl
    rw [e]
    exact LamOk.cons (quadformref01_double.l0 hC) (LamOk.nil)
noncomputable def quadformref01_cmp.j1  : Option (Int) :=
  (some (1 : Int))
noncomputable def quadformref01_cmp.j4  : Option ((List Int × List Int × Int × Unit) ⊕ ((Unit) ⊕ (Int × Unit))) :=
  (some (.inr (.inr ((1 : Int), ()))))
noncomputable def quadformref01_cmp.j5 (t0 : List Int) (t1 : List Int) (t5 : Int) : Option ((List Int × List Int × Int × Unit) ⊕ ((Unit) ⊕ (Int × Unit))) :=
  (some (.inl (t0, t1, (IntKind.wrap .i64 (t5 - (1 : Int))), ())))
noncomputable def quadformref01_cmp.j3 (t0 : List Int) (t1 : List Int) (t5 : Int) : Option ((List Int × List Int × Int × Unit) ⊕ ((Unit) ⊕ (Int × Unit))) :=
  (cond (inB t5 (List.length t0))
  ((cond (inB t5 (List.length t1))
  ((cond (((List.getD t0 (t5.toNat) (0 : Int)) != (List.getD t1 (t5.toNat) (0 : Int))))
  ((cond (inB t5 (List.length t0))
  ((cond (inB t5 (List.length t1))
  ((cond ((decide ((List.getD t0 (t5.toNat) (0 : Int)) < (List.getD t1 (t5.toNat) (0 : Int)))))
  ((some (.inr (.inr ((-1 : Int), ())))))
  ((quadformref01_cmp.j4))))
  none))
  none))
  ((quadformref01_cmp.j5 t0 t1 t5))))
  none))
  none)
noncomputable def quadformref01_cmp.s0 (t0 : List Int) (t1 : List Int) (t5 : Int) : Option ((List Int × List Int × Int × Unit) ⊕ ((Unit) ⊕ (Int × Unit))) :=
  (cond ((decide (t5 ≥ (0 : Int))))
  ((quadformref01_cmp.j3 t0 t1 t5))
  ((some (.inr (.inl ())))))
noncomputable def quadformref01_cmp.k0_0  : Option (Int) :=
  (some (0 : Int))
noncomputable def quadformref01_cmp.k0_1 (t4 : Int) : Option (Int) :=
  (some t4)
noncomputable def quadformref01_cmp.j2 (t0 : List Int) (t1 : List Int) : Option (Int) :=
  ((iterL (fun x : List Int × List Int × Int × Unit => quadformref01_cmp.s0 x.1 x.2.1 x.2.2.1) (t0, t1, (IntKind.wrap .i64 (((List.length t0 : Nat) : Int) - (1 : Int))), ())).bind fun z => Sum.casesOn z (fun y => quadformref01_cmp.k0_0) (fun z => quadformref01_cmp.k0_1 z.1))
noncomputable def quadformref01_cmp (t0 : List Int) (t1 : List Int) : Option (Int) :=
  (cond ((((List.length t0 : Nat) : Int) != ((List.length t1 : Nat) : Int)))
  ((cond ((decide (((List.length t0 : Nat) : Int) < ((List.length t1 : Nat) : Int))))
  ((some (-1 : Int)))
  ((quadformref01_cmp.j1))))
  ((quadformref01_cmp.j2 t0 t1)))
noncomputable def quadformref01_cmp.en : En := ⟨63, [.sl (.int .u32), .sl (.int .u32)], .int .i64, false, fun x => quadformref01_cmp x.1 x.2.1⟩
noncomputable def quadformref01_cmp.o : List En := []
noncomputable def quadformref01_cmp.oB : List EnB := []
def quadformref01_cmp.h : HT := .two (.n) (.two (.n) (.two (.two (.n) (.lp 0)) (.n)))
noncomputable def quadformref01_cmp.c : Code := Try.f63.body.getD .skip
def quadformref01_cmp.h0 : HT := .n
noncomputable def quadformref01_cmp.c0 : Code := (find (loops quadformref01_cmp.c quadformref01_cmp.h) 0).getD .skip
def quadformref01_cmp.d0 : Fm := [.v 0 (.sl (.int .u32)), .v 1 (.sl (.int .u32)), .v 5 (.int .i64)]
def quadformref01_cmp.x0 : Xs := [(.exit 0, []), (.ret, [.v 4 (.int .i64)])]
noncomputable def quadformref01_cmp.r0 (x : (Fm.ty quadformref01_cmp.d0).den) : Option ((Fm.ty quadformref01_cmp.d0).den ⊕ (Xs.T quadformref01_cmp.x0)) := quadformref01_cmp.s0 x.1 x.2.1 x.2.2.1
noncomputable def quadformref01_cmp.L : Lam := fun _ i s K => cond (Nat.beq i 0) (lamK quadformref01_cmp.d0 quadformref01_cmp.x0 quadformref01_cmp.r0 s K) (none)
theorem quadformref01_cmp.hf0 (x) : roundK env (orc quadformref01_cmp.o) (orcB quadformref01_cmp.oB) 41 quadformref01_cmp.L quadformref01_cmp.c0 quadformref01_cmp.h0 quadformref01_cmp.d0 quadformref01_cmp.x0 x = quadformref01_cmp.r0 x := by kernel_rfl
theorem quadformref01_cmp.os : AllOk prog quadformref01_cmp.o := trivial
theorem quadformref01_cmp.osB : AllBOk prog quadformref01_cmp.oB := trivial
theorem quadformref01_cmp.l0 {C : Ctx} (hC : C.n = 41) : LamAt prog C quadformref01_cmp.L 0 quadformref01_cmp.c0 := by
  intro R s K r hk
  refine loop_ok (D := quadformref01_cmp.d0) (X := quadformref01_cmp.x0) (h := quadformref01_cmp.h0) (f := quadformref01_cmp.r0) tabs (orc_ok _ quadformref01_cmp.os) (orcB_ok _ quadformref01_cmp.osB) (fun x => by rw [hC]; exact quadformref01_cmp.hf0 x) (Λ := quadformref01_cmp.L) ?_ (by kernel_rfl) (by kernel_rfl) (K := K) (s := s) (by exact hk)
  exact by
    have e : loops quadformref01_cmp.c0 quadformref01_cmp.h0 = [] := by kernel_rfl
    rw [e]
    exact LamOk.nil
theorem quadformref01_cmp.hk (x) : semK env (orc quadformref01_cmp.o) (orcB quadformref01_cmp.oB) 41 (quadformref01_cmp.L _) quadformref01_cmp.c quadformref01_cmp.h (S.init (avs [.sl (.int .u32), .sl (.int .u32)] x)) (fin env Try.f63 ⟨[.sl (.int .u32), .sl (.int .u32)], .int .i64, false, false⟩) = quadformref01_cmp.en.g x := by kernel_rfl
theorem quadformref01_cmp.ok : EnOk prog quadformref01_cmp.en := by
  refine fun_ok (g := ⟨[.sl (.int .u32), .sl (.int .u32)], .int .i64, false, false⟩) (h := quadformref01_cmp.h) (Λ := quadformref01_cmp.L) tabs quadformref01_cmp.os quadformref01_cmp.osB Try.func63 (c := quadformref01_cmp.c) (by kernel_rfl) (by decide +kernel) (by decide +kernel) (fun C hC => ?_) (fun x => quadformref01_cmp.hk x)
  exact by
    have e : loops quadformref01_cmp.c quadformref01_cmp.h = [(0, quadformref01_cmp.c0)] := by kernel_rfl
    rw [e]
    exact LamOk.cons (quadformref01_cmp.l0 hC) (LamOk.nil)
noncomputable def quadformref01_difference.j3 (t0 : List Int) (t1 : List Int) (t7 : Int) (a37 : List (Int)) : Option ((List Int × List Int × Int × Int × List Int × Unit) ⊕ ((List Int × Unit))) :=
  (some (.inl (t0, t1, (1 : Int), (IntKind.wrap .i64 (t7 + (1 : Int))), a37, ())))
noncomputable def quadformref01_difference.j4 (t0 : List Int) (t1 : List Int) (t7 : Int) (a37 : List (Int)) : Option ((List Int × List Int × Int × Int × List Int × Unit) ⊕ ((List Int × Unit))) :=
  (some (.inl (t0, t1, (0 : Int), (IntKind.wrap .i64 (t7 + (1 : Int))), a37, ())))
noncomputable def quadformref01_difference.j2 (t0 : List Int) (t1 : List Int) (t7 : Int) (t8 : Int) (a37 : List (Int)) : Option ((List Int × List Int × Int × Int × List Int × Unit) ⊕ ((List Int × Unit))) :=
  (cond (inB t7 (List.length t0))
  (let x5 := (IntKind.wrap .u32 (IntKind.wrap .u64 ((IntKind.wrap .u64 (List.getD t0 (t7.toNat) (0 : Int))) - t8)))
  (cond (decide (List.length a37 + List.length ([x5] : List (Int)) ≤ maxL))
  ((cond (inB t7 (List.length t0))
  ((cond ((decide ((IntKind.wrap .u64 (List.getD t0 (t7.toNat) (0 : Int))) < t8)))
  ((quadformref01_difference.j3 t0 t1 t7 (a37 ++ ([x5] : List (Int)))))
  ((quadformref01_difference.j4 t0 t1 t7 (a37 ++ ([x5] : List (Int)))))))
  none))
  none))
  none)
noncomputable def quadformref01_difference.j1 (t0 : List Int) (t1 : List Int) (t6 : Int) (t7 : Int) (a37 : List (Int)) : Option ((List Int × List Int × Int × Int × List Int × Unit) ⊕ ((List Int × Unit))) :=
  (cond ((decide (t7 < ((List.length t1 : Nat) : Int))))
  ((cond (inB t7 (List.length t1))
  ((quadformref01_difference.j2 t0 t1 t7 (IntKind.wrap .u64 (t6 + (IntKind.wrap .u64 (List.getD t1 (t7.toNat) (0 : Int))))) a37))
  none))
  ((quadformref01_difference.j2 t0 t1 t7 t6 a37)))
noncomputable def quadformref01_difference.s0 (t0 : List Int) (t1 : List Int) (t6 : Int) (t7 : Int) (a37 : List (Int)) : Option ((List Int × List Int × Int × Int × List Int × Unit) ⊕ ((List Int × Unit))) :=
  (cond ((decide (t7 < ((List.length t0 : Nat) : Int))))
  ((quadformref01_difference.j1 t0 t1 t6 t7 a37))
  ((some (.inr (a37, ())))))
noncomputable def quadformref01_difference.k0 (a37 : List (Int)) : Option (List Int) :=
  (some a37)
noncomputable def quadformref01_difference (t0 : List Int) (t1 : List Int) : Option (List Int) :=
  ((iterL (fun x : List Int × List Int × Int × Int × List Int × Unit => quadformref01_difference.s0 x.1 x.2.1 x.2.2.1 x.2.2.2.1 x.2.2.2.2.1) (t0, t1, (0 : Int), (0 : Int), ([] : List (Int)), ())).bind fun y => quadformref01_difference.k0 y.1)
noncomputable def quadformref01_difference.en : En := ⟨64, [.sl (.int .u32), .sl (.int .u32)], .sl (.int .u32), false, fun x => quadformref01_difference x.1 x.2.1⟩
noncomputable def quadformref01_difference.o : List En := []
noncomputable def quadformref01_difference.oB : List EnB := []
def quadformref01_difference.h : HT := .two (.n) (.two (.n) (.two (.n) (.two (.two (.n) (.lp 0)) (.n))))
noncomputable def quadformref01_difference.c : Code := Try.f64.body.getD .skip
def quadformref01_difference.h0 : HT := .n
noncomputable def quadformref01_difference.c0 : Code := (find (loops quadformref01_difference.c quadformref01_difference.h) 0).getD .skip
def quadformref01_difference.d0 : Fm := [.v 0 (.sl (.int .u32)), .v 1 (.sl (.int .u32)), .v 6 (.int .u64), .v 7 (.int .i64), .arr 37 60 (.int .u32), .own 5 37]
def quadformref01_difference.x0 : Xs := [(.exit 0, [.arr 37 60 (.int .u32), .own 5 37])]
noncomputable def quadformref01_difference.r0 (x : (Fm.ty quadformref01_difference.d0).den) : Option ((Fm.ty quadformref01_difference.d0).den ⊕ (Xs.T quadformref01_difference.x0)) := quadformref01_difference.s0 x.1 x.2.1 x.2.2.1 x.2.2.2.1 x.2.2.2.2.1
noncomputable def quadformref01_difference.L : Lam := fun _ i s K => cond (Nat.beq i 0) (lamK quadformref01_difference.d0 quadformref01_difference.x0 quadformref01_difference.r0 s K) (none)
theorem quadformref01_difference.hf0 (x) : roundK env (orc quadformref01_difference.o) (orcB quadformref01_difference.oB) 46 quadformref01_difference.L quadformref01_difference.c0 quadformref01_difference.h0 quadformref01_difference.d0 quadformref01_difference.x0 x = quadformref01_difference.r0 x := by kernel_rfl
theorem quadformref01_difference.os : AllOk prog quadformref01_difference.o := trivial
theorem quadformref01_difference.osB : AllBOk prog quadformref01_difference.oB := trivial
theorem quadformref01_difference.l0 {C : Ctx} (hC : C.n = 46) : LamAt prog C quadformref01_difference.L 0 quadformref01_difference.c0 := by
  intro R s K r hk
  refine loop_ok (D := quadformref01_difference.d0) (X := quadformref01_difference.x0) (h := quadformref01_difference.h0) (f := quadformref01_difference.r0) tabs (orc_ok _ quadformref01_difference.os) (orcB_ok _ quadformref01_difference.osB) (fun x => by rw [hC]; exact quadformref01_difference.hf0 x) (Λ := quadformref01_difference.L) ?_ (by kernel_rfl) (by kernel_rfl) (K := K) (s := s) (by exact hk)
  exact by
    have e : loops quadformref01_difference.c0 quadformref01_difference.h0 = [] := by kernel_rfl
    rw [e]
    exact LamOk.nil
theorem quadformref01_difference.hk (x) : semK env (orc quadformref01_difference.o) (orcB quadformref01_difference.oB) 46 (quadformref01_difference.L _) quadformref01_difference.c quadformref01_difference.h (S.init (avs [.sl (.int .u32), .sl (.int .u32)] x)) (fin env Try.f64 ⟨[.sl (.int .u32), .sl (.int .u32)], .sl (.int .u32), false, false⟩) = quadformref01_difference.en.g x := by kernel_rfl
theorem quadformref01_difference.ok : EnOk prog quadformref01_difference.en := by
  refine fun_ok (g := ⟨[.sl (.int .u32), .sl (.int .u32)], .sl (.int .u32), false, false⟩) (h := quadformref01_difference.h) (Λ := quadformref01_difference.L) tabs quadformref01_difference.os quadformref01_difference.osB Try.func64 (c := quadformref01_difference.c) (by kernel_rfl) (by decide +kernel) (by decide +kernel) (fun C hC => ?_) (fun x => quadformref01_difference.hk x)
  exact by
    have e : loops quadformref01_difference.c quadformref01_difference.h = [(0, quadformref01_difference.c0)] := by kernel_rfl
    rw [e]
    exact LamOk.cons (quadformref01_difference.l0 hC) (LamOk.nil)
noncomputable def quadformref01_divide.j3 (t0 : List Int) (t1 : List Int) (t5 : List Int) (t8 : Int) (a33 : List (Int)) : Option ((List Int × List Int × List Int × Int × List Int × Unit) ⊕ ((List Int × List Int × Unit))) :=
  (some (.inl (t0, t1, t5, (IntKind.wrap .i64 (t8 - (1 : Int))), a33, ())))
noncomputable def quadformref01_divide.j2 (t0 : List Int) (t1 : List Int) (t5 : List Int) (t8 : Int) (a33 : List (Int)) : Option ((List Int × List Int × List Int × Int × List Int × Unit) ⊕ ((List Int × List Int × Unit))) :=
  let x8 := (IntKind.wrap .i64 (Int.tdiv t8 (32 : Int)))
  (cond (inB x8 (List.length t0))
  ((cond (decide ((Int.tmod t8 (32 : Int)) < 0))
  none
  (((quadformref01_double t5 (andI .u32 (shrI .u32 (List.getD t0 (x8.toNat) (0 : Int)) (Int.tmod t8 (32 : Int))) (1 : Int))).bind fun y10 =>
  ((quadformref01_trim y10).bind fun y11 =>
  ((quadformref01_cmp y11 t1).bind fun y12 =>
  (cond ((decide (y12 ≥ (0 : Int))))
  (((quadformref01_difference y11 t1).bind fun y13 =>
  ((quadformref01_trim y13).bind fun y14 =>
  let x15 := (IntKind.wrap .i64 (Int.tdiv t8 (32 : Int)))
  (cond (inB x15 (List.length a33))
  ((cond (decide ((Int.tmod t8 (32 : Int)) < 0))
  none
  ((cond (inB x15 (List.length a33))
  ((quadformref01_divide.j3 t0 t1 y14 t8 (List.set a33 ((0 + x15.toNat)) (orI .u32 (List.getD a33 ((0 + x15.toNat)) (0 : Int)) (shlI .u32 (1 : Int) (Int.tmod t8 (32 : Int)))))))
  none))))
  none))))
  ((quadformref01_divide.j3 t0 t1 y11 t8 a33)))))))))
  none)
noncomputable def quadformref01_divide.s0 (t0 : List Int) (t1 : List Int) (t5 : List Int) (t8 : Int) (a33 : List (Int)) : Option ((List Int × List Int × List Int × Int × List Int × Unit) ⊕ ((List Int × List Int × Unit))) :=
  (cond ((decide (t8 ≥ (0 : Int))))
  ((quadformref01_divide.j2 t0 t1 t5 t8 a33))
  ((some (.inr (t5, a33, ())))))
noncomputable def quadformref01_divide.k0 (t5 : List Int) (a33 : List (Int)) : Option (List Int × List Int × Unit) :=
  ((quadformref01_trim a33).bind fun y19 =>
  (some (y19, (t5, ()))))
noncomputable def quadformref01_divide.j1 (t0 : List Int) (t1 : List Int) : Option (List Int × List Int × Unit) :=
  (cond (inC ((List.length t0 : Nat) : Int) maxL)
  (((iterL (fun x : List Int × List Int × List Int × Int × List Int × Unit => quadformref01_divide.s0 x.1 x.2.1 x.2.2.1 x.2.2.2.1 x.2.2.2.2.1) (t0, t1, ([] : List Int), (IntKind.wrap .i64 ((IntKind.wrap .i64 ((32 : Int) * ((List.length t0 : Nat) : Int))) - (1 : Int))), (List.replicate ((((List.length t0 : Nat) : Int)).toNat) ((0 : Int) : Int)), ())).bind fun y => quadformref01_divide.k0 y.1 y.2.1))
  none)
noncomputable def quadformref01_divide (t0 : List Int) (t1 : List Int) : Option (List Int × List Int × Unit) :=
  (cond ((decide (((List.length t0 : Nat) : Int) ≤ (2 : Int))))
  ((cond ((decide (((List.length t1 : Nat) : Int) ≤ (2 : Int))))
  (((quadformref01_low t0).bind fun y3 =>
  ((quadformref01_low t1).bind fun y4 =>
  (cond (decide (y4 = 0))
  none
  (((quadformref01_word false (IntKind.wrap .u64 (Int.tdiv y3 y4))).bind fun y5 =>
  (cond (decide (y4 = 0))
  none
  (((quadformref01_word false (Int.tmod y3 y4)).bind fun y6 =>
  (some (y5.2.1, (y6.2.1, ()))))))))))))
  ((quadformref01_divide.j1 t0 t1))))
  ((cond (inC ((List.length t0 : Nat) : Int) maxL)
  (((iterL (fun x : List Int × List Int × List Int × Int × List Int × Unit => quadformref01_divide.s0 x.1 x.2.1 x.2.2.1 x.2.2.2.1 x.2.2.2.2.1) (t0, t1, ([] : List Int), (IntKind.wrap .i64 ((IntKind.wrap .i64 ((32 : Int) * ((List.length t0 : Nat) : Int))) - (1 : Int))), (List.replicate ((((List.length t0 : Nat) : Int)).toNat) ((0 : Int) : Int)), ())).bind fun y => quadformref01_divide.k0 y.1 y.2.1))
  none)))
noncomputable def quadformref01_divide.en : En := ⟨57, [.sl (.int .u32), .sl (.int .u32)], .pair (.sl (.int .u32)) (.pair (.sl (.int .u32)) (.unit)), true, fun x => quadformref01_divide x.1 x.2.1⟩
noncomputable def quadformref01_divide.o : List En := [quadformref01_trim.en, quadformref01_low.en, quadformref01_word.en, quadformref01_double.en, quadformref01_cmp.en, quadformref01_difference.en]
noncomputable def quadformref01_divide.oB : List EnB := []
def quadformref01_divide.h : HT := .two (.n) (.two (.n) (.two (.n) (.two (.two (.n) (.lp 0)) (.two (.fr [33] []) (.n)))))
noncomputable def quadformref01_divide.c : Code := Try.f57.body.getD .skip
def quadformref01_divide.h0 : HT := .n
noncomputable def quadformref01_divide.c0 : Code := (find (loops quadformref01_divide.c quadformref01_divide.h) 0).getD .skip
def quadformref01_divide.d0 : Fm := [.v 0 (.sl (.int .u32)), .v 1 (.sl (.int .u32)), .v 5 (.sl (.int .u32)), .v 8 (.int .i64), .arr 33 60 (.int .u32), .own 4 33]
def quadformref01_divide.x0 : Xs := [(.exit 0, [.v 5 (.sl (.int .u32)), .arr 33 60 (.int .u32), .own 4 33])]
noncomputable def quadformref01_divide.r0 (x : (Fm.ty quadformref01_divide.d0).den) : Option ((Fm.ty quadformref01_divide.d0).den ⊕ (Xs.T quadformref01_divide.x0)) := quadformref01_divide.s0 x.1 x.2.1 x.2.2.1 x.2.2.2.1 x.2.2.2.2.1
noncomputable def quadformref01_divide.L : Lam := fun _ i s K => cond (Nat.beq i 0) (lamK quadformref01_divide.d0 quadformref01_divide.x0 quadformref01_divide.r0 s K) (none)
theorem quadformref01_divide.hf0 (x) : roundK env (orc quadformref01_divide.o) (orcB quadformref01_divide.oB) 75 quadformref01_divide.L quadformref01_divide.c0 quadformref01_divide.h0 quadformref01_divide.d0 quadformref01_divide.x0 x = quadformref01_divide.r0 x := by kernel_rfl
theorem quadformref01_divide.os : AllOk prog quadformref01_divide.o := ⟨quadformref01_trim.ok, quadformref01_low.ok, quadformref01_word.ok, quadformref01_double.ok, quadformref01_cmp.ok, quadformref01_difference.ok, trivial⟩
theorem quadformref01_divide.osB : AllBOk prog quadformref01_divide.oB := trivial
theorem quadformref01_divide.l0 {C : Ctx} (hC : C.n = 75) : LamAt prog C quadformref01_divide.L 0 quadformref01_divide.c0 := by
  intro R s K r hk
  refine loop_ok (D := quadformref01_divide.d0) (X := quadformref01_divide.x0) (h := quadformref01_divide.h0) (f := quadformref01_divide.r0) tabs (orc_ok _ quadformref01_divide.os) (orcB_ok _ quadformref01_divide.osB) (fun x => by rw [hC]; exact quadformref01_divide.hf0 x) (Λ := quadformref01_divide.L) ?_ (by kernel_rfl) (by kernel_rfl) (K := K) (s := s) (by exact hk)
  exact by
    have e : loops quadformref01_divide.c0 quadformref01_divide.h0 = [] := by kernel_rfl
    rw [e]
    exact LamOk.nil
theorem quadformref01_divide.hk (x) : semK env (orc quadformref01_divide.o) (orcB quadformref01_divide.oB) 75 (quadformref01_divide.L _) quadformref01_divide.c quadformref01_divide.h (S.init (avs [.sl (.int .u32), .sl (.int .u32)] x)) (fin env Try.f57 ⟨[.sl (.int .u32), .sl (.int .u32)], .pair (.sl (.int .u32)) (.pair (.sl (.int .u32)) (.unit)), true, false⟩) = quadformref01_divide.en.g x := by kernel_rfl
theorem quadformref01_divide.ok : EnOk prog quadformref01_divide.en := by
  refine fun_ok (g := ⟨[.sl (.int .u32), .sl (.int .u32)], .pair (.sl (.int .u32)) (.pair (.sl (.int .u32)) (.unit)), true, false⟩) (h := quadformref01_divide.h) (Λ := quadformref01_divide.L) tabs quadformref01_divide.os quadformref01_divide.osB Try.func57 (c := quadformref01_divide.c) (by kernel_rfl) (by decide +kernel) (by decide +kernel) (fun C hC => ?_) (fun x => quadformref01_divide.hk x)
  exact by
    have e : loops quadformref01_divide.c quadformref01_divide.h = [(0, quadformref01_divide.c0)] := by kernel_rfl
    rw [e]
    exact LamOk.cons (quadformref01_divide.l0 hC) (LamOk.nil)
noncomputable def quadformref01_Sign.j2  : Option (Int) :=
  (some (1 : Int))
noncomputable def quadformref01_Sign.j1  : Option (Int) :=
  (quadformref01_Sign.j2)
noncomputable def quadformref01_Sign (t0 : Bool × List Int × Unit) : Option (Int) :=
  ((quadformref01_trim t0.2.1).bind fun y1 =>
  (cond ((((List.length y1 : Nat) : Int) == (0 : Int)))
  ((some (0 : Int)))
  ((cond (t0.1)
  ((some (-1 : Int)))
  ((quadformref01_Sign.j1))))))
noncomputable def quadformref01_Sign.en : En := ⟨59, [.pair (.bool) (.pair (.sl (.int .u32)) (.unit))], .int .i64, false, fun x => quadformref01_Sign x.1⟩
noncomputable def quadformref01_Sign.o : List En := [quadformref01_trim.en]
noncomputable def quadformref01_Sign.oB : List EnB := []
def quadformref01_Sign.h : HT := .n
noncomputable def quadformref01_Sign.c : Code := Try.f59.body.getD .skip
noncomputable def quadformref01_Sign.L : Lam := fun _ i s K => none
theorem quadformref01_Sign.os : AllOk prog quadformref01_Sign.o := ⟨quadformref01_trim.ok, trivial⟩
theorem quadformref01_Sign.osB : AllBOk prog quadformref01_Sign.oB := trivial
theorem quadformref01_Sign.hk (x) : semK env (orc quadformref01_Sign.o) (orcB quadformref01_Sign.oB) 12 (quadformref01_Sign.L _) quadformref01_Sign.c quadformref01_Sign.h (S.init (avs [.pair (.bool) (.pair (.sl (.int .u32)) (.unit))] x)) (fin env Try.f59 ⟨[.pair (.bool) (.pair (.sl (.int .u32)) (.unit))], .int .i64, false, false⟩) = quadformref01_Sign.en.g x := by kernel_rfl
theorem quadformref01_Sign.ok : EnOk prog quadformref01_Sign.en := by
  refine fun_ok (g := ⟨[.pair (.bool) (.pair (.sl (.int .u32)) (.unit))], .int .i64, false, false⟩) (h := quadformref01_Sign.h) (Λ := quadformref01_Sign.L) tabs quadformref01_Sign.os quadformref01_Sign.osB Try.func59 (c := quadformref01_Sign.c) (by kernel_rfl) (by decide +kernel) (by decide +kernel) (fun C hC => ?_) (fun x => quadformref01_Sign.hk x)
  exact by
    have e : loops quadformref01_Sign.c quadformref01_Sign.h = [] := by kernel_rfl
    rw [e]
    exact LamOk.nil
noncomputable def quadformref01_sum.j2 (t0 : List Int) (t1 : List Int) (t6 : Int) (t7 : Int) (a46 : List (Int)) : Option ((List Int × List Int × Int × Int × List Int × Unit) ⊕ ((Int × List Int × Unit))) :=
  (cond (decide (List.length a46 + List.length ([(IntKind.wrap .u32 t6)] : List (Int)) ≤ maxL))
  ((some (.inl (t0, t1, (shrI .u64 t6 (32 : Int)), (IntKind.wrap .i64 (t7 + (1 : Int))), (a46 ++ ([(IntKind.wrap .u32 t6)] : List (Int))), ()))))
  none)
noncomputable def quadformref01_sum.j1 (t0 : List Int) (t1 : List Int) (t6 : Int) (t7 : Int) (a46 : List (Int)) : Option ((List Int × List Int × Int × Int × List Int × Unit) ⊕ ((Int × List Int × Unit))) :=
  (cond ((decide (t7 < ((List.length t1 : Nat) : Int))))
  ((cond (inB t7 (List.length t1))
  ((quadformref01_sum.j2 t0 t1 (IntKind.wrap .u64 (t6 + (IntKind.wrap .u64 (List.getD t1 (t7.toNat) (0 : Int))))) t7 a46))
  none))
  ((quadformref01_sum.j2 t0 t1 t6 t7 a46)))
noncomputable def quadformref01_sum.j3 (t0 : List Int) (t1 : List Int) (t6 : Int) (t7 : Int) (a46 : List (Int)) : Option ((List Int × List Int × Int × Int × List Int × Unit) ⊕ ((Int × List Int × Unit))) :=
  (cond ((decide (t7 < ((List.length t0 : Nat) : Int))))
  ((cond (inB t7 (List.length t0))
  ((quadformref01_sum.j1 t0 t1 (IntKind.wrap .u64 (t6 + (IntKind.wrap .u64 (List.getD t0 (t7.toNat) (0 : Int))))) t7 a46))
  none))
  ((quadformref01_sum.j1 t0 t1 t6 t7 a46)))
noncomputable def quadformref01_sum.s0 (t0 : List Int) (t1 : List Int) (t6 : Int) (t7 : Int) (a46 : List (Int)) : Option ((List Int × List Int × Int × Int × List Int × Unit) ⊕ ((Int × List Int × Unit))) :=
  (cond ((decide (t7 < ((List.length t0 : Nat) : Int))))
  ((cond ((decide (t7 < ((List.length t0 : Nat) : Int))))
  ((cond (inB t7 (List.length t0))
  ((quadformref01_sum.j1 t0 t1 (IntKind.wrap .u64 (t6 + (IntKind.wrap .u64 (List.getD t0 (t7.toNat) (0 : Int))))) t7 a46))
  none))
  ((quadformref01_sum.j1 t0 t1 t6 t7 a46))))
  ((cond ((decide (t7 < ((List.length t1 : Nat) : Int))))
  ((quadformref01_sum.j3 t0 t1 t6 t7 a46))
  ((some (.inr (t6, a46, ())))))))
noncomputable def quadformref01_sum.k0 (t6 : Int) (a46 : List (Int)) : Option (List Int) :=
  (cond (decide (List.length a46 + List.length ([(IntKind.wrap .u32 t6)] : List (Int)) ≤ maxL))
  ((some (a46 ++ ([(IntKind.wrap .u32 t6)] : List (Int)))))
  none)
noncomputable def quadformref01_sum (t0 : List Int) (t1 : List Int) : Option (List Int) :=
  ((iterL (fun x : List Int × List Int × Int × Int × List Int × Unit => quadformref01_sum.s0 x.1 x.2.1 x.2.2.1 x.2.2.2.1 x.2.2.2.2.1) (t0, t1, (0 : Int), (0 : Int), ([] : List (Int)), ())).bind fun y => quadformref01_sum.k0 y.1 y.2.1)
noncomputable def quadformref01_sum.en : En := ⟨65, [.sl (.int .u32), .sl (.int .u32)], .sl (.int .u32), false, fun x => quadformref01_sum x.1 x.2.1⟩
noncomputable def quadformref01_sum.o : List En := []
noncomputable def quadformref01_sum.oB : List EnB := []
def quadformref01_sum.h : HT := .two (.n) (.two (.n) (.two (.n) (.two (.two (.n) (.lp 0)) (.n))))
noncomputable def quadformref01_sum.c : Code := Try.f65.body.getD .skip
def quadformref01_sum.h0 : HT := .n
noncomputable def quadformref01_sum.c0 : Code := (find (loops quadformref01_sum.c quadformref01_sum.h) 0).getD .skip
def quadformref01_sum.d0 : Fm := [.v 0 (.sl (.int .u32)), .v 1 (.sl (.int .u32)), .v 6 (.int .u64), .v 7 (.int .i64), .arr 46 60 (.int .u32), .own 5 46]
def quadformref01_sum.x0 : Xs := [(.exit 0, [.v 6 (.int .u64), .arr 46 60 (.int .u32), .own 5 46])]
noncomputable def quadformref01_sum.r0 (x : (Fm.ty quadformref01_sum.d0).den) : Option ((Fm.ty quadformref01_sum.d0).den ⊕ (Xs.T quadformref01_sum.x0)) := quadformref01_sum.s0 x.1 x.2.1 x.2.2.1 x.2.2.2.1 x.2.2.2.2.1
noncomputable def quadformref01_sum.L : Lam := fun _ i s K => cond (Nat.beq i 0) (lamK quadformref01_sum.d0 quadformref01_sum.x0 quadformref01_sum.r0 s K) (none)
theorem quadformref01_sum.hf0 (x) : roundK env (orc quadformref01_sum.o) (orcB quadformref01_sum.oB) 54 quadformref01_sum.L quadformref01_sum.c0 quadformref01_sum.h0 quadformref01_sum.d0 quadformref01_sum.x0 x = quadformref01_sum.r0 x := by kernel_rfl
theorem quadformref01_sum.os : AllOk prog quadformref01_sum.o := trivial
theorem quadformref01_sum.osB : AllBOk prog quadformref01_sum.oB := trivial
theorem quadformref01_sum.l0 {C : Ctx} (hC : C.n = 54) : LamAt prog C quadformref01_sum.L 0 quadformref01_sum.c0 := by
  intro R s K r hk
  refine loop_ok (D := quadformref01_sum.d0) (X := quadformref01_sum.x0) (h := quadformref01_sum.h0) (f := quadformref01_sum.r0) tabs (orc_ok _ quadformref01_sum.os) (orcB_ok _ quadformref01_sum.osB) (fun x => by rw [hC]; exact quadformref01_sum.hf0 x) (Λ := quadformref01_sum.L) ?_ (by kernel_rfl) (by kernel_rfl) (K := K) (s := s) (by exact hk)
  exact by
    have e : loops quadformref01_sum.c0 quadformref01_sum.h0 = [] := by kernel_rfl
    rw [e]
    exact LamOk.nil
theorem quadformref01_sum.hk (x) : semK env (orc quadformref01_sum.o) (orcB quadformref01_sum.oB) 54 (quadformref01_sum.L _) quadformref01_sum.c quadformref01_sum.h (S.init (avs [.sl (.int .u32), .sl (.int .u32)] x)) (fin env Try.f65 ⟨[.sl (.int .u32), .sl (.int .u32)], .sl (.int .u32), false, false⟩) = quadformref01_sum.en.g x := by kernel_rfl
theorem quadformref01_sum.ok : EnOk prog quadformref01_sum.en := by
  refine fun_ok (g := ⟨[.sl (.int .u32), .sl (.int .u32)], .sl (.int .u32), false, false⟩) (h := quadformref01_sum.h) (Λ := quadformref01_sum.L) tabs quadformref01_sum.os quadformref01_sum.osB Try.func65 (c := quadformref01_sum.c) (by kernel_rfl) (by decide +kernel) (by decide +kernel) (fun C hC => ?_) (fun x => quadformref01_sum.hk x)
  exact by
    have e : loops quadformref01_sum.c quadformref01_sum.h = [(0, quadformref01_sum.c0)] := by kernel_rfl
    rw [e]
    exact LamOk.cons (quadformref01_sum.l0 hC) (LamOk.nil)
noncomputable def quadformref01_Add.j2 (t5 : List Int) (t6 : List Int) (b3_0 : Bool) (b3_1 : List Int) (b4_1 : List Int) : Option (Bool × List Int × Unit) :=
  ((quadformref01_difference t6 t5).bind fun y8 =>
  ((quadformref01_Make b3_0 y8).bind fun y9 =>
  (some (y9.1, (y9.2.1, ())))))
noncomputable def quadformref01_Add.j1 (t5 : List Int) (t6 : List Int) (b2_0 : Bool) (b2_1 : List Int) (b3_0 : Bool) (b3_1 : List Int) (b4_1 : List Int) : Option (Bool × List Int × Unit) :=
  ((quadformref01_cmp t5 t6).bind fun y5 =>
  (cond ((decide (y5 ≥ (0 : Int))))
  (((quadformref01_difference t5 t6).bind fun y6 =>
  ((quadformref01_Make b2_0 y6).bind fun y7 =>
  (some (y7.1, (y7.2.1, ()))))))
  ((quadformref01_Add.j2 t5 t6 b3_0 b3_1 b4_1))))
noncomputable def quadformref01_Add (t0 : Bool × List Int × Unit) (t1 : Bool × List Int × Unit) : Option (Bool × List Int × Unit) :=
  ((quadformref01_trim t0.2.1).bind fun y1 =>
  ((quadformref01_trim t1.2.1).bind fun y2 =>
  (cond ((t0.1 == t1.1))
  (((quadformref01_sum y1 y2).bind fun y3 =>
  ((quadformref01_Make t0.1 y3).bind fun y4 =>
  (some (y4.1, (y4.2.1, ()))))))
  ((quadformref01_Add.j1 y1 y2 t0.1 t0.2.1 t1.1 t1.2.1 ([] : List Int))))))
noncomputable def quadformref01_Add.en : En := ⟨60, [.pair (.bool) (.pair (.sl (.int .u32)) (.unit)), .pair (.bool) (.pair (.sl (.int .u32)) (.unit))], .pair (.bool) (.pair (.sl (.int .u32)) (.unit)), false, fun x => quadformref01_Add x.1 x.2.1⟩
noncomputable def quadformref01_Add.o : List En := [quadformref01_trim.en, quadformref01_Make.en, quadformref01_cmp.en, quadformref01_difference.en, quadformref01_sum.en]
noncomputable def quadformref01_Add.oB : List EnB := []
def quadformref01_Add.h : HT := .n
noncomputable def quadformref01_Add.c : Code := Try.f60.body.getD .skip
noncomputable def quadformref01_Add.L : Lam := fun _ i s K => none
theorem quadformref01_Add.os : AllOk prog quadformref01_Add.o := ⟨quadformref01_trim.ok, quadformref01_Make.ok, quadformref01_cmp.ok, quadformref01_difference.ok, quadformref01_sum.ok, trivial⟩
theorem quadformref01_Add.osB : AllBOk prog quadformref01_Add.oB := trivial
theorem quadformref01_Add.hk (x) : semK env (orc quadformref01_Add.o) (orcB quadformref01_Add.oB) 40 (quadformref01_Add.L _) quadformref01_Add.c quadformref01_Add.h (S.init (avs [.pair (.bool) (.pair (.sl (.int .u32)) (.unit)), .pair (.bool) (.pair (.sl (.int .u32)) (.unit))] x)) (fin env Try.f60 ⟨[.pair (.bool) (.pair (.sl (.int .u32)) (.unit)), .pair (.bool) (.pair (.sl (.int .u32)) (.unit))], .pair (.bool) (.pair (.sl (.int .u32)) (.unit)), false, false⟩) = quadformref01_Add.en.g x := by kernel_rfl
theorem quadformref01_Add.ok : EnOk prog quadformref01_Add.en := by
  refine fun_ok (g := ⟨[.pair (.bool) (.pair (.sl (.int .u32)) (.unit)), .pair (.bool) (.pair (.sl (.int .u32)) (.unit))], .pair (.bool) (.pair (.sl (.int .u32)) (.unit)), false, false⟩) (h := quadformref01_Add.h) (Λ := quadformref01_Add.L) tabs quadformref01_Add.os quadformref01_Add.osB Try.func60 (c := quadformref01_Add.c) (by kernel_rfl) (by decide +kernel) (by decide +kernel) (fun C hC => ?_) (fun x => quadformref01_Add.hk x)
  exact by
    have e : loops quadformref01_Add.c quadformref01_Add.h = [] := by kernel_rfl
    rw [e]
    exact LamOk.nil
noncomputable def quadformref01_Neg (t0 : Bool × List Int × Unit) : Option (Bool × List Int × Unit) :=
  ((quadformref01_Make (!t0.1) t0.2.1).bind fun y1 =>
  (some (y1.1, (y1.2.1, ()))))
noncomputable def quadformref01_Neg.en : En := ⟨66, [.pair (.bool) (.pair (.sl (.int .u32)) (.unit))], .pair (.bool) (.pair (.sl (.int .u32)) (.unit)), false, fun x => quadformref01_Neg x.1⟩
noncomputable def quadformref01_Neg.o : List En := [quadformref01_Make.en]
noncomputable def quadformref01_Neg.oB : List EnB := []
def quadformref01_Neg.h : HT := .n
noncomputable def quadformref01_Neg.c : Code := Try.f66.body.getD .skip
noncomputable def quadformref01_Neg.L : Lam := fun _ i s K => none
theorem quadformref01_Neg.os : AllOk prog quadformref01_Neg.o := ⟨quadformref01_Make.ok, trivial⟩
theorem quadformref01_Neg.osB : AllBOk prog quadformref01_Neg.oB := trivial
theorem quadformref01_Neg.hk (x) : semK env (orc quadformref01_Neg.o) (orcB quadformref01_Neg.oB) 9 (quadformref01_Neg.L _) quadformref01_Neg.c quadformref01_Neg.h (S.init (avs [.pair (.bool) (.pair (.sl (.int .u32)) (.unit))] x)) (fin env Try.f66 ⟨[.pair (.bool) (.pair (.sl (.int .u32)) (.unit))], .pair (.bool) (.pair (.sl (.int .u32)) (.unit)), false, false⟩) = quadformref01_Neg.en.g x := by kernel_rfl
theorem quadformref01_Neg.ok : EnOk prog quadformref01_Neg.en := by
  refine fun_ok (g := ⟨[.pair (.bool) (.pair (.sl (.int .u32)) (.unit))], .pair (.bool) (.pair (.sl (.int .u32)) (.unit)), false, false⟩) (h := quadformref01_Neg.h) (Λ := quadformref01_Neg.L) tabs quadformref01_Neg.os quadformref01_Neg.osB Try.func66 (c := quadformref01_Neg.c) (by kernel_rfl) (by decide +kernel) (by decide +kernel) (fun C hC => ?_) (fun x => quadformref01_Neg.hk x)
  exact by
    have e : loops quadformref01_Neg.c quadformref01_Neg.h = [] := by kernel_rfl
    rw [e]
    exact LamOk.nil
noncomputable def quadformref01_Sub (t0 : Bool × List Int × Unit) (t1 : Bool × List Int × Unit) : Option (Bool × List Int × Unit) :=
  ((quadformref01_Neg (t1.1, (t1.2.1, ()))).bind fun y1 =>
  ((quadformref01_Add (t0.1, (t0.2.1, ())) y1).bind fun y2 =>
  (some (y2.1, (y2.2.1, ())))))
noncomputable def quadformref01_Sub.en : En := ⟨61, [.pair (.bool) (.pair (.sl (.int .u32)) (.unit)), .pair (.bool) (.pair (.sl (.int .u32)) (.unit))], .pair (.bool) (.pair (.sl (.int .u32)) (.unit)), false, fun x => quadformref01_Sub x.1 x.2.1⟩
noncomputable def quadformref01_Sub.o : List En := [quadformref01_Add.en, quadformref01_Neg.en]
noncomputable def quadformref01_Sub.oB : List EnB := []
def quadformref01_Sub.h : HT := .n
noncomputable def quadformref01_Sub.c : Code := Try.f61.body.getD .skip
noncomputable def quadformref01_Sub.L : Lam := fun _ i s K => none
theorem quadformref01_Sub.os : AllOk prog quadformref01_Sub.o := ⟨quadformref01_Add.ok, quadformref01_Neg.ok, trivial⟩
theorem quadformref01_Sub.osB : AllBOk prog quadformref01_Sub.oB := trivial
theorem quadformref01_Sub.hk (x) : semK env (orc quadformref01_Sub.o) (orcB quadformref01_Sub.oB) 9 (quadformref01_Sub.L _) quadformref01_Sub.c quadformref01_Sub.h (S.init (avs [.pair (.bool) (.pair (.sl (.int .u32)) (.unit)), .pair (.bool) (.pair (.sl (.int .u32)) (.unit))] x)) (fin env Try.f61 ⟨[.pair (.bool) (.pair (.sl (.int .u32)) (.unit)), .pair (.bool) (.pair (.sl (.int .u32)) (.unit))], .pair (.bool) (.pair (.sl (.int .u32)) (.unit)), false, false⟩) = quadformref01_Sub.en.g x := by kernel_rfl
theorem quadformref01_Sub.ok : EnOk prog quadformref01_Sub.en := by
  refine fun_ok (g := ⟨[.pair (.bool) (.pair (.sl (.int .u32)) (.unit)), .pair (.bool) (.pair (.sl (.int .u32)) (.unit))], .pair (.bool) (.pair (.sl (.int .u32)) (.unit)), false, false⟩) (h := quadformref01_Sub.h) (Λ := quadformref01_Sub.L) tabs quadformref01_Sub.os quadformref01_Sub.osB Try.func61 (c := quadformref01_Sub.c) (by kernel_rfl) (by decide +kernel) (by decide +kernel) (fun C hC => ?_) (fun x => quadformref01_Sub.hk x)
  exact by
    have e : loops quadformref01_Sub.c quadformref01_Sub.h = [] := by kernel_rfl
    rw [e]
    exact LamOk.nil
noncomputable def quadformref01_DivMod.j2 (b4_1 : List Int) (b5_1 : List Int) (b11_0 : Bool) (b11_1 : List Int) (b12_0 : Bool) (b12_1 : List Int) : Option ((Bool × List Int × Unit) × (Bool × List Int × Unit) × Bool × Unit) :=
  ((quadformref01_Small (1 : Int)).bind fun y13 =>
  ((quadformref01_Sub (b11_0, (b11_1, ())) y13).bind fun y14 =>
  (some ((y14.1, (y14.2.1, ())), ((b12_0, (b12_1, ())), (true, ()))))))
noncomputable def quadformref01_DivMod.j3 (b4_1 : List Int) (b5_1 : List Int) (b11_0 : Bool) (b11_1 : List Int) (b12_0 : Bool) (b12_1 : List Int) : Option ((Bool × List Int × Unit) × (Bool × List Int × Unit) × Bool × Unit) :=
  (some ((b11_0, (b11_1, ())), ((b12_0, (b12_1, ())), (true, ()))))
noncomputable def quadformref01_DivMod.j1 (t7 : List Int) (t8 : List Int) (b2_0 : Bool) (b2_1 : List Int) (b3_0 : Bool) (b3_1 : List Int) (b4_1 : List Int) (b5_1 : List Int) : Option ((Bool × List Int × Unit) × (Bool × List Int × Unit) × Bool × Unit) :=
  ((quadformref01_divide t7 t8).bind fun y4 =>
  ((quadformref01_Make (!(b2_0 == b3_0)) y4.1).bind fun y5 =>
  ((quadformref01_Make b2_0 y4.2.1).bind fun y6 =>
  ((quadformref01_Sign (y6.1, (y6.2.1, ()))).bind fun y7 =>
  (cond ((decide (y7 < (0 : Int))))
  (((quadformref01_Make false t8).bind fun y8 =>
  ((quadformref01_Add (y6.1, (y6.2.1, ())) y8).bind fun y9 =>
  ((quadformref01_Sign (b3_0, (b3_1, ()))).bind fun y10 =>
  (cond ((decide (y10 < (0 : Int))))
  (((quadformref01_Small (1 : Int)).bind fun y11 =>
  ((quadformref01_Add (y5.1, (y5.2.1, ())) y11).bind fun y12 =>
  (some ((y12.1, (y12.2.1, ())), ((y9.1, (y9.2.1, ())), (true, ())))))))
  ((quadformref01_DivMod.j2 b4_1 b5_1 y5.1 y5.2.1 y9.1 y9.2.1)))))))
  ((quadformref01_DivMod.j3 b4_1 b5_1 y5.1 y5.2.1 y6.1 y6.2.1)))))))
noncomputable def quadformref01_DivMod (t0 : Bool × List Int × Unit) (t1 : Bool × List Int × Unit) : Option ((Bool × List Int × Unit) × (Bool × List Int × Unit) × Bool × Unit) :=
  ((quadformref01_trim t0.2.1).bind fun y1 =>
  ((quadformref01_trim t1.2.1).bind fun y2 =>
  (cond ((((List.length y2 : Nat) : Int) == (0 : Int)))
  ((some ((false, (([] : List Int), ())), ((false, (([] : List Int), ())), (false, ())))))
  ((quadformref01_DivMod.j1 y1 y2 t0.1 t0.2.1 t1.1 t1.2.1 ([] : List Int) ([] : List Int))))))
noncomputable def quadformref01_DivMod.en : En := ⟨53, [.pair (.bool) (.pair (.sl (.int .u32)) (.unit)), .pair (.bool) (.pair (.sl (.int .u32)) (.unit))], .pair (.pair (.bool) (.pair (.sl (.int .u32)) (.unit))) (.pair (.pair (.bool) (.pair (.sl (.int .u32)) (.unit))) (.pair (.bool) (.unit))), true, fun x => quadformref01_DivMod x.1 x.2.1⟩
noncomputable def quadformref01_DivMod.o : List En := [quadformref01_Small.en, quadformref01_trim.en, quadformref01_divide.en, quadformref01_Make.en, quadformref01_Sign.en, quadformref01_Add.en, quadformref01_Sub.en]
noncomputable def quadformref01_DivMod.oB : List EnB := []
def quadformref01_DivMod.h : HT := .n
noncomputable def quadformref01_DivMod.c : Code := Try.f53.body.getD .skip
noncomputable def quadformref01_DivMod.L : Lam := fun _ i s K => none
theorem quadformref01_DivMod.os : AllOk prog quadformref01_DivMod.o := ⟨quadformref01_Small.ok, quadformref01_trim.ok, quadformref01_divide.ok, quadformref01_Make.ok, quadformref01_Sign.ok, quadformref01_Add.ok, quadformref01_Sub.ok, trivial⟩
theorem quadformref01_DivMod.osB : AllBOk prog quadformref01_DivMod.oB := trivial
theorem quadformref01_DivMod.hk (x) : semK env (orc quadformref01_DivMod.o) (orcB quadformref01_DivMod.oB) 61 (quadformref01_DivMod.L _) quadformref01_DivMod.c quadformref01_DivMod.h (S.init (avs [.pair (.bool) (.pair (.sl (.int .u32)) (.unit)), .pair (.bool) (.pair (.sl (.int .u32)) (.unit))] x)) (fin env Try.f53 ⟨[.pair (.bool) (.pair (.sl (.int .u32)) (.unit)), .pair (.bool) (.pair (.sl (.int .u32)) (.unit))], .pair (.pair (.bool) (.pair (.sl (.int .u32)) (.unit))) (.pair (.pair (.bool) (.pair (.sl (.int .u32)) (.unit))) (.pair (.bool) (.unit))), true, false⟩) = quadformref01_DivMod.en.g x := by kernel_rfl
theorem quadformref01_DivMod.ok : EnOk prog quadformref01_DivMod.en := by
  refine fun_ok (g := ⟨[.pair (.bool) (.pair (.sl (.int .u32)) (.unit)), .pair (.bool) (.pair (.sl (.int .u32)) (.unit))], .pair (.pair (.bool) (.pair (.sl (.int .u32)) (.unit))) (.pair (.pair (.bool) (.pair (.sl (.int .u32)) (.unit))) (.pair (.bool) (.unit))), true, false⟩) (h := quadformref01_DivMod.h) (Λ := quadformref01_DivMod.L) tabs quadformref01_DivMod.os quadformref01_DivMod.osB Try.func53 (c := quadformref01_DivMod.c) (by kernel_rfl) (by decide +kernel) (by decide +kernel) (fun C hC => ?_) (fun x => quadformref01_DivMod.hk x)
  exact by
    have e : loops quadformref01_DivMod.c quadformref01_DivMod.h = [] := by kernel_rfl
    rw [e]
    exact LamOk.nil
noncomputable def quadformref01_Rem (t0 : Bool × List Int × Unit) (t1 : Bool × List Int × Unit) : Option (Bool × List Int × Unit) :=
  ((quadformref01_DivMod (t0.1, (t0.2.1, ())) (t1.1, (t1.2.1, ()))).bind fun y1 =>
  (some (y1.2.1.1, (y1.2.1.2.1, ()))))
noncomputable def quadformref01_Rem.en : En := ⟨41, [.pair (.bool) (.pair (.sl (.int .u32)) (.unit)), .pair (.bool) (.pair (.sl (.int .u32)) (.unit))], .pair (.bool) (.pair (.sl (.int .u32)) (.unit)), false, fun x => quadformref01_Rem x.1 x.2.1⟩
noncomputable def quadformref01_Rem.o : List En := [quadformref01_DivMod.en]
noncomputable def quadformref01_Rem.oB : List EnB := []
def quadformref01_Rem.h : HT := .n
noncomputable def quadformref01_Rem.c : Code := Try.f41.body.getD .skip
noncomputable def quadformref01_Rem.L : Lam := fun _ i s K => none
theorem quadformref01_Rem.os : AllOk prog quadformref01_Rem.o := ⟨quadformref01_DivMod.ok, trivial⟩
theorem quadformref01_Rem.osB : AllBOk prog quadformref01_Rem.oB := trivial
theorem quadformref01_Rem.hk (x) : semK env (orc quadformref01_Rem.o) (orcB quadformref01_Rem.oB) 16 (quadformref01_Rem.L _) quadformref01_Rem.c quadformref01_Rem.h (S.init (avs [.pair (.bool) (.pair (.sl (.int .u32)) (.unit)), .pair (.bool) (.pair (.sl (.int .u32)) (.unit))] x)) (fin env Try.f41 ⟨[.pair (.bool) (.pair (.sl (.int .u32)) (.unit)), .pair (.bool) (.pair (.sl (.int .u32)) (.unit))], .pair (.bool) (.pair (.sl (.int .u32)) (.unit)), false, false⟩) = quadformref01_Rem.en.g x := by kernel_rfl
theorem quadformref01_Rem.ok : EnOk prog quadformref01_Rem.en := by
  refine fun_ok (g := ⟨[.pair (.bool) (.pair (.sl (.int .u32)) (.unit)), .pair (.bool) (.pair (.sl (.int .u32)) (.unit))], .pair (.bool) (.pair (.sl (.int .u32)) (.unit)), false, false⟩) (h := quadformref01_Rem.h) (Λ := quadformref01_Rem.L) tabs quadformref01_Rem.os quadformref01_Rem.osB Try.func41 (c := quadformref01_Rem.c) (by kernel_rfl) (by decide +kernel) (by decide +kernel) (fun C hC => ?_) (fun x => quadformref01_Rem.hk x)
  exact by
    have e : loops quadformref01_Rem.c quadformref01_Rem.h = [] := by kernel_rfl
    rw [e]
    exact LamOk.nil
noncomputable def quadformref22_Residue (t0 : Bool × List Int × Unit) (t1 : Int) : Option (Int) :=
  ((quadformref01_Small t1).bind fun y1 =>
  ((quadformref01_Rem (t0.1, (t0.2.1, ())) y1).bind fun y2 =>
  ((quadformref01_Int64 y2).bind fun y3 =>
  (some y3.1))))
noncomputable def quadformref22_Residue.en : En := ⟨26, [.pair (.bool) (.pair (.sl (.int .u32)) (.unit)), .int .i64], .int .i64, false, fun x => quadformref22_Residue x.1 x.2.1⟩
noncomputable def quadformref22_Residue.o : List En := [quadformref01_Int64.en, quadformref01_Rem.en, quadformref01_Small.en]
noncomputable def quadformref22_Residue.oB : List EnB := []
def quadformref22_Residue.h : HT := .n
noncomputable def quadformref22_Residue.c : Code := Try.f26.body.getD .skip
noncomputable def quadformref22_Residue.L : Lam := fun _ i s K => none
theorem quadformref22_Residue.os : AllOk prog quadformref22_Residue.o := ⟨quadformref01_Int64.ok, quadformref01_Rem.ok, quadformref01_Small.ok, trivial⟩
theorem quadformref22_Residue.osB : AllBOk prog quadformref22_Residue.oB := trivial
theorem quadformref22_Residue.hk (x) : semK env (orc quadformref22_Residue.o) (orcB quadformref22_Residue.oB) 16 (quadformref22_Residue.L _) quadformref22_Residue.c quadformref22_Residue.h (S.init (avs [.pair (.bool) (.pair (.sl (.int .u32)) (.unit)), .int .i64] x)) (fin env Try.f26 ⟨[.pair (.bool) (.pair (.sl (.int .u32)) (.unit)), .int .i64], .int .i64, false, false⟩) = quadformref22_Residue.en.g x := by kernel_rfl
theorem quadformref22_Residue.ok : EnOk prog quadformref22_Residue.en := by
  refine fun_ok (g := ⟨[.pair (.bool) (.pair (.sl (.int .u32)) (.unit)), .int .i64], .int .i64, false, false⟩) (h := quadformref22_Residue.h) (Λ := quadformref22_Residue.L) tabs quadformref22_Residue.os quadformref22_Residue.osB Try.func26 (c := quadformref22_Residue.c) (by kernel_rfl) (by decide +kernel) (by decide +kernel) (fun C hC => ?_) (fun x => quadformref22_Residue.hk x)
  exact by
    have e : loops quadformref22_Residue.c quadformref22_Residue.h = [] := by kernel_rfl
    rw [e]
    exact LamOk.nil
noncomputable def quadformref22_Mod.j1 (t5 : Int) : Option (Int) :=
  (some t5)
noncomputable def quadformref22_Mod (t0 : Int) (t1 : Int) : Option (Int) :=
  (cond (decide (t1 = 0))
  none
  ((cond ((decide ((Int.tmod t0 t1) < (0 : Int))))
  ((quadformref22_Mod.j1 (IntKind.wrap .i64 ((Int.tmod t0 t1) + t1))))
  ((quadformref22_Mod.j1 (Int.tmod t0 t1))))))
noncomputable def quadformref22_Mod.en : En := ⟨55, [.int .i64, .int .i64], .int .i64, false, fun x => quadformref22_Mod x.1 x.2.1⟩
noncomputable def quadformref22_Mod.o : List En := []
noncomputable def quadformref22_Mod.oB : List EnB := []
def quadformref22_Mod.h : HT := .n
noncomputable def quadformref22_Mod.c : Code := Try.f55.body.getD .skip
noncomputable def quadformref22_Mod.L : Lam := fun _ i s K => none
theorem quadformref22_Mod.os : AllOk prog quadformref22_Mod.o := trivial
theorem quadformref22_Mod.osB : AllBOk prog quadformref22_Mod.oB := trivial
theorem quadformref22_Mod.hk (x) : semK env (orc quadformref22_Mod.o) (orcB quadformref22_Mod.oB) 15 (quadformref22_Mod.L _) quadformref22_Mod.c quadformref22_Mod.h (S.init (avs [.int .i64, .int .i64] x)) (fin env Try.f55 ⟨[.int .i64, .int .i64], .int .i64, false, false⟩) = quadformref22_Mod.en.g x := by kernel_rfl
theorem quadformref22_Mod.ok : EnOk prog quadformref22_Mod.en := by
  refine fun_ok (g := ⟨[.int .i64, .int .i64], .int .i64, false, false⟩) (h := quadformref22_Mod.h) (Λ := quadformref22_Mod.L) tabs quadformref22_Mod.os quadformref22_Mod.osB Try.func55 (c := quadformref22_Mod.c) (by kernel_rfl) (by decide +kernel) (by decide +kernel) (fun C hC => ?_) (fun x => quadformref22_Mod.hk x)
  exact by
    have e : loops quadformref22_Mod.c quadformref22_Mod.h = [] := by kernel_rfl
    rw [e]
    exact LamOk.nil
noncomputable def quadformref22_ModPow.j2 (t0 : Int) (t1 : Int) (t2 : Int) (t7 : Int) : Option ((Int × Int × Int × Int × Unit) ⊕ ((Int × Unit))) :=
  (cond (decide (t2 = 0))
  none
  ((some (.inl ((Int.tmod (IntKind.wrap .i64 (t0 * t0)) t2), (IntKind.wrap .i64 (Int.tdiv t1 (2 : Int))), t2, t7, ())))))
noncomputable def quadformref22_ModPow.j1 (t0 : Int) (t1 : Int) (t2 : Int) (t7 : Int) : Option ((Int × Int × Int × Int × Unit) ⊕ ((Int × Unit))) :=
  (cond (((Int.tmod t1 (2 : Int)) == (1 : Int)))
  ((cond (decide (t2 = 0))
  none
  ((quadformref22_ModPow.j2 t0 t1 t2 (Int.tmod (IntKind.wrap .i64 (t7 * t0)) t2)))))
  ((quadformref22_ModPow.j2 t0 t1 t2 t7)))
noncomputable def quadformref22_ModPow.s0 (t0 : Int) (t1 : Int) (t2 : Int) (t7 : Int) : Option ((Int × Int × Int × Int × Unit) ⊕ ((Int × Unit))) :=
  (cond ((decide (t1 > (0 : Int))))
  ((quadformref22_ModPow.j1 t0 t1 t2 t7))
  ((some (.inr (t7, ())))))
noncomputable def quadformref22_ModPow.k0 (t7 : Int) : Option (Int) :=
  (some t7)
noncomputable def quadformref22_ModPow (t0 : Int) (t1 : Int) (t2 : Int) : Option (Int) :=
  (cond (decide (t2 = 0))
  none
  (((quadformref22_Mod t0 t2).bind fun y1 =>
  ((iterL (fun x : Int × Int × Int × Int × Unit => quadformref22_ModPow.s0 x.1 x.2.1 x.2.2.1 x.2.2.2.1) (y1, t1, t2, (Int.tmod (1 : Int) t2), ())).bind fun y => quadformref22_ModPow.k0 y.1))))
noncomputable def quadformref22_ModPow.en : En := ⟨43, [.int .i64, .int .i64, .int .i64], .int .i64, false, fun x => quadformref22_ModPow x.1 x.2.1 x.2.2.1⟩
noncomputable def quadformref22_ModPow.o : List En := [quadformref22_Mod.en]
noncomputable def quadformref22_ModPow.oB : List EnB := []
def quadformref22_ModPow.h : HT := .two (.n) (.two (.n) (.two (.two (.n) (.lp 0)) (.n)))
noncomputable def quadformref22_ModPow.c : Code := Try.f43.body.getD .skip
def quadformref22_ModPow.h0 : HT := .n
noncomputable def quadformref22_ModPow.c0 : Code := (find (loops quadformref22_ModPow.c quadformref22_ModPow.h) 0).getD .skip
def quadformref22_ModPow.d0 : Fm := [.v 0 (.int .i64), .v 1 (.int .i64), .v 2 (.int .i64), .v 7 (.int .i64)]
def quadformref22_ModPow.x0 : Xs := [(.exit 0, [.v 7 (.int .i64)])]
noncomputable def quadformref22_ModPow.r0 (x : (Fm.ty quadformref22_ModPow.d0).den) : Option ((Fm.ty quadformref22_ModPow.d0).den ⊕ (Xs.T quadformref22_ModPow.x0)) := quadformref22_ModPow.s0 x.1 x.2.1 x.2.2.1 x.2.2.2.1
noncomputable def quadformref22_ModPow.L : Lam := fun _ i s K => cond (Nat.beq i 0) (lamK quadformref22_ModPow.d0 quadformref22_ModPow.x0 quadformref22_ModPow.r0 s K) (none)
theorem quadformref22_ModPow.hf0 (x) : roundK env (orc quadformref22_ModPow.o) (orcB quadformref22_ModPow.oB) 31 quadformref22_ModPow.L quadformref22_ModPow.c0 quadformref22_ModPow.h0 quadformref22_ModPow.d0 quadformref22_ModPow.x0 x = quadformref22_ModPow.r0 x := by kernel_rfl
theorem quadformref22_ModPow.os : AllOk prog quadformref22_ModPow.o := ⟨quadformref22_Mod.ok, trivial⟩
theorem quadformref22_ModPow.osB : AllBOk prog quadformref22_ModPow.oB := trivial
theorem quadformref22_ModPow.l0 {C : Ctx} (hC : C.n = 31) : LamAt prog C quadformref22_ModPow.L 0 quadformref22_ModPow.c0 := by
  intro R s K r hk
  refine loop_ok (D := quadformref22_ModPow.d0) (X := quadformref22_ModPow.x0) (h := quadformref22_ModPow.h0) (f := quadformref22_ModPow.r0) tabs (orc_ok _ quadformref22_ModPow.os) (orcB_ok _ quadformref22_ModPow.osB) (fun x => by rw [hC]; exact quadformref22_ModPow.hf0 x) (Λ := quadformref22_ModPow.L) ?_ (by kernel_rfl) (by kernel_rfl) (K := K) (s := s) (by exact hk)
  exact by
    have e : loops quadformref22_ModPow.c0 quadformref22_ModPow.h0 = [] := by kernel_rfl
    rw [e]
    exact LamOk.nil
theorem quadformref22_ModPow.hk (x) : semK env (orc quadformref22_ModPow.o) (orcB quadformref22_ModPow.oB) 31 (quadformref22_ModPow.L _) quadformref22_ModPow.c quadformref22_ModPow.h (S.init (avs [.int .i64, .int .i64, .int .i64] x)) (fin env Try.f43 ⟨[.int .i64, .int .i64, .int .i64], .int .i64, false, false⟩) = quadformref22_ModPow.en.g x := by kernel_rfl
theorem quadformref22_ModPow.ok : EnOk prog quadformref22_ModPow.en := by
  refine fun_ok (g := ⟨[.int .i64, .int .i64, .int .i64], .int .i64, false, false⟩) (h := quadformref22_ModPow.h) (Λ := quadformref22_ModPow.L) tabs quadformref22_ModPow.os quadformref22_ModPow.osB Try.func43 (c := quadformref22_ModPow.c) (by kernel_rfl) (by decide +kernel) (by decide +kernel) (fun C hC => ?_) (fun x => quadformref22_ModPow.hk x)
  exact by
    have e : loops quadformref22_ModPow.c quadformref22_ModPow.h = [(0, quadformref22_ModPow.c0)] := by kernel_rfl
    rw [e]
    exact LamOk.cons (quadformref22_ModPow.l0 hC) (LamOk.nil)
noncomputable def quadformref22_Legendre.j2  : Option (Int) :=
  (some (-1 : Int))
noncomputable def quadformref22_Legendre.j1  : Option (Int) :=
  (quadformref22_Legendre.j2)
noncomputable def quadformref22_Legendre (t0 : Int) (t1 : Int) : Option (Int) :=
  ((quadformref22_ModPow t0 (IntKind.wrap .i64 (Int.tdiv (IntKind.wrap .i64 (t1 - (1 : Int))) (2 : Int))) t1).bind fun y2 =>
  (cond ((y2 == (0 : Int)))
  ((some (0 : Int)))
  ((cond ((y2 == (1 : Int)))
  ((some (1 : Int)))
  ((quadformref22_Legendre.j1))))))
noncomputable def quadformref22_Legendre.en : En := ⟨27, [.int .i64, .int .i64], .int .i64, false, fun x => quadformref22_Legendre x.1 x.2.1⟩
noncomputable def quadformref22_Legendre.o : List En := [quadformref22_ModPow.en]
noncomputable def quadformref22_Legendre.oB : List EnB := []
def quadformref22_Legendre.h : HT := .n
noncomputable def quadformref22_Legendre.c : Code := Try.f27.body.getD .skip
noncomputable def quadformref22_Legendre.L : Lam := fun _ i s K => none
theorem quadformref22_Legendre.os : AllOk prog quadformref22_Legendre.o := ⟨quadformref22_ModPow.ok, trivial⟩
theorem quadformref22_Legendre.osB : AllBOk prog quadformref22_Legendre.oB := trivial
theorem quadformref22_Legendre.hk (x) : semK env (orc quadformref22_Legendre.o) (orcB quadformref22_Legendre.oB) 15 (quadformref22_Legendre.L _) quadformref22_Legendre.c quadformref22_Legendre.h (S.init (avs [.int .i64, .int .i64] x)) (fin env Try.f27 ⟨[.int .i64, .int .i64], .int .i64, false, false⟩) = quadformref22_Legendre.en.g x := by kernel_rfl
theorem quadformref22_Legendre.ok : EnOk prog quadformref22_Legendre.en := by
  refine fun_ok (g := ⟨[.int .i64, .int .i64], .int .i64, false, false⟩) (h := quadformref22_Legendre.h) (Λ := quadformref22_Legendre.L) tabs quadformref22_Legendre.os quadformref22_Legendre.osB Try.func27 (c := quadformref22_Legendre.c) (by kernel_rfl) (by decide +kernel) (by decide +kernel) (fun C hC => ?_) (fun x => quadformref22_Legendre.hk x)
  exact by
    have e : loops quadformref22_Legendre.c quadformref22_Legendre.h = [] := by kernel_rfl
    rw [e]
    exact LamOk.nil
noncomputable def quadformref22_Unit.j3 (t1 : Int) (b2_0 : Bool) (b2_1 : List Int) : Option (Int × Int × Unit) :=
  ((quadformref22_Residue (b2_0, (b2_1, ())) t1).bind fun y4 =>
  ((quadformref22_Legendre y4 t1).bind fun y5 =>
  (some (y5, ((0 : Int), ())))))
noncomputable def quadformref22_Unit.j2 (t1 : Int) (b2_0 : Bool) (b2_1 : List Int) : Option (Int × Int × Unit) :=
  (cond ((t1 == (2 : Int)))
  (((quadformref22_Residue (b2_0, (b2_1, ())) (8 : Int)).bind fun y3 =>
  (some (y3, ((0 : Int), ())))))
  ((quadformref22_Unit.j3 t1 b2_0 b2_1)))
noncomputable def quadformref22_Unit.j1 (t1 : Int) (b2_0 : Bool) (b2_1 : List Int) : Option (Int × Int × Unit) :=
  ((quadformref22_Residue (b2_0, (b2_1, ())) t1).bind fun y2 =>
  (cond ((y2 == (0 : Int)))
  ((some ((0 : Int), ((21 : Int), ()))))
  ((quadformref22_Unit.j2 t1 b2_0 b2_1))))
noncomputable def quadformref22_Unit (t0 : Bool × List Int × Unit) (t1 : Int) : Option (Int × Int × Unit) :=
  ((quadformref22_Is t1).bind fun y1 =>
  (cond ((!y1))
  ((some ((0 : Int), ((20 : Int), ()))))
  ((quadformref22_Unit.j1 t1 t0.1 t0.2.1))))
noncomputable def quadformref22_Unit.en : En := ⟨10, [.pair (.bool) (.pair (.sl (.int .u32)) (.unit)), .int .i64], .pair (.int .i64) (.pair (.int .i64) (.unit)), true, fun x => quadformref22_Unit x.1 x.2.1⟩
noncomputable def quadformref22_Unit.o : List En := [quadformref22_Is.en, quadformref22_Residue.en, quadformref22_Legendre.en]
noncomputable def quadformref22_Unit.oB : List EnB := []
def quadformref22_Unit.h : HT := .n
noncomputable def quadformref22_Unit.c : Code := Try.f10.body.getD .skip
noncomputable def quadformref22_Unit.L : Lam := fun _ i s K => none
theorem quadformref22_Unit.os : AllOk prog quadformref22_Unit.o := ⟨quadformref22_Is.ok, quadformref22_Residue.ok, quadformref22_Legendre.ok, trivial⟩
theorem quadformref22_Unit.osB : AllBOk prog quadformref22_Unit.oB := trivial
theorem quadformref22_Unit.hk (x) : semK env (orc quadformref22_Unit.o) (orcB quadformref22_Unit.oB) 22 (quadformref22_Unit.L _) quadformref22_Unit.c quadformref22_Unit.h (S.init (avs [.pair (.bool) (.pair (.sl (.int .u32)) (.unit)), .int .i64] x)) (fin env Try.f10 ⟨[.pair (.bool) (.pair (.sl (.int .u32)) (.unit)), .int .i64], .pair (.int .i64) (.pair (.int .i64) (.unit)), true, false⟩) = quadformref22_Unit.en.g x := by kernel_rfl
theorem quadformref22_Unit.ok : EnOk prog quadformref22_Unit.en := by
  refine fun_ok (g := ⟨[.pair (.bool) (.pair (.sl (.int .u32)) (.unit)), .int .i64], .pair (.int .i64) (.pair (.int .i64) (.unit)), true, false⟩) (h := quadformref22_Unit.h) (Λ := quadformref22_Unit.L) tabs quadformref22_Unit.os quadformref22_Unit.osB Try.func10 (c := quadformref22_Unit.c) (by kernel_rfl) (by decide +kernel) (by decide +kernel) (fun C hC => ?_) (fun x => quadformref22_Unit.hk x)
  exact by
    have e : loops quadformref22_Unit.c quadformref22_Unit.h = [] := by kernel_rfl
    rw [e]
    exact LamOk.nil
noncomputable def quadformlaw22_PrimeUnit.j2 (t9 : Int) (b4_0 : Bool) (b4_1 : List Int) : Option (Bool) :=
  ((prime_Unit (b4_0, (b4_1, ())) t9).bind fun y4 =>
  ((quadformref22_Unit (b4_0, (b4_1, ())) t9).bind fun y5 =>
  (cond ((y4.1 == y5.1))
  ((cond ((y4.2.1 == y5.2.1))
  (((quadformlaw22_awake).bind fun y6 =>
  (some y6)))
  ((some false))))
  ((some false)))))
noncomputable def quadformlaw22_PrimeUnit.j1 (t1 : Int) (t2 : Int) (t3 : Bool) (b4_0 : Bool) (b4_1 : List Int) : Option (Bool) :=
  ((quadformscene_Prime t1).bind fun y3 =>
  (cond (t3)
  ((quadformlaw22_PrimeUnit.j2 t2 b4_0 b4_1))
  ((quadformlaw22_PrimeUnit.j2 y3 b4_0 b4_1))))
noncomputable def quadformlaw22_PrimeUnit (t0 : Bool × List Int × Unit) (t1 : Int) (t2 : Int) (t3 : Bool) : Option (Bool) :=
  ((quadformlaw22_long (t0.1, (t0.2.1, ()))).bind fun y1 =>
  (cond (y1)
  (((quadformlaw22_awake).bind fun y2 =>
  (some y2)))
  ((quadformlaw22_PrimeUnit.j1 t1 t2 t3 t0.1 t0.2.1))))
noncomputable def quadformlaw22_PrimeUnit.en : En := ⟨3, [.pair (.bool) (.pair (.sl (.int .u32)) (.unit)), .int .u8, .int .i64, .bool], .bool, false, fun x => quadformlaw22_PrimeUnit x.1 x.2.1 x.2.2.1 x.2.2.2.1⟩
noncomputable def quadformlaw22_PrimeUnit.o : List En := [quadformlaw22_long.en, quadformlaw22_awake.en, quadformscene_Prime.en, prime_Unit.en, quadformref22_Unit.en]
noncomputable def quadformlaw22_PrimeUnit.oB : List EnB := []
def quadformlaw22_PrimeUnit.h : HT := .n
noncomputable def quadformlaw22_PrimeUnit.c : Code := Try.f3.body.getD .skip
noncomputable def quadformlaw22_PrimeUnit.L : Lam := fun _ i s K => none
theorem quadformlaw22_PrimeUnit.os : AllOk prog quadformlaw22_PrimeUnit.o := ⟨quadformlaw22_long.ok, quadformlaw22_awake.ok, quadformscene_Prime.ok, prime_Unit.ok, quadformref22_Unit.ok, trivial⟩
theorem quadformlaw22_PrimeUnit.osB : AllBOk prog quadformlaw22_PrimeUnit.oB := trivial
theorem quadformlaw22_PrimeUnit.hk (x) : semK env (orc quadformlaw22_PrimeUnit.o) (orcB quadformlaw22_PrimeUnit.oB) 44 (quadformlaw22_PrimeUnit.L _) quadformlaw22_PrimeUnit.c quadformlaw22_PrimeUnit.h (S.init (avs [.pair (.bool) (.pair (.sl (.int .u32)) (.unit)), .int .u8, .int .i64, .bool] x)) (fin env Try.f3 ⟨[.pair (.bool) (.pair (.sl (.int .u32)) (.unit)), .int .u8, .int .i64, .bool], .bool, false, false⟩) = quadformlaw22_PrimeUnit.en.g x := by kernel_rfl
theorem quadformlaw22_PrimeUnit.ok : EnOk prog quadformlaw22_PrimeUnit.en := by
  refine fun_ok (g := ⟨[.pair (.bool) (.pair (.sl (.int .u32)) (.unit)), .int .u8, .int .i64, .bool], .bool, false, false⟩) (h := quadformlaw22_PrimeUnit.h) (Λ := quadformlaw22_PrimeUnit.L) tabs quadformlaw22_PrimeUnit.os quadformlaw22_PrimeUnit.osB Try.func3 (c := quadformlaw22_PrimeUnit.c) (by kernel_rfl) (by decide +kernel) (by decide +kernel) (fun C hC => ?_) (fun x => quadformlaw22_PrimeUnit.hk x)
  exact by
    have e : loops quadformlaw22_PrimeUnit.c quadformlaw22_PrimeUnit.h = [] := by kernel_rfl
    rw [e]
    exact LamOk.nil
noncomputable def integer_times.j2 (t0 : List Int) (t1 : List Int) (t6 : Int) (t7 : Int) (t16 : Int) (t17 : Int) (t21 : Int) (t22 : Int) (a14 : List (Int)) : Option ((List Int × List Int × Int × Int × Int × Int × Int × Int × List Int × Unit) ⊕ ((List Int × List Int × Int × Int × Int × Int × List Int × Unit))) :=
  (cond (inB t6 (List.length t0))
  ((cond (inB t22 (List.length t1))
  ((cond (inB (IntKind.wrap .i64 (t6 + t22)) (List.length a14))
  (let x5 := (IntKind.wrap .u64 ((IntKind.wrap .u64 ((IntKind.wrap .u64 (List.getD t0 (t6.toNat) (0 : Int))) * (IntKind.wrap .u64 (List.getD t1 (t22.toNat) (0 : Int))))) + (IntKind.wrap .u64 (List.getD a14 ((0 + (((IntKind.wrap .i64 (t6 + t22))).toNat))) (0 : Int)))))
  (cond (inB (IntKind.wrap .i64 (t6 + t22)) (List.length a14))
  ((some (.inl (t0, t1, t6, (shrI .u64 (IntKind.wrap .u64 (t7 + x5)) (32 : Int)), t16, t17, t21, (IntKind.wrap .i64 (t22 + (1 : Int))), (List.set a14 ((0 + (((IntKind.wrap .i64 (t6 + t22))).toNat))) (IntKind.wrap .u32 (IntKind.wrap .u64 (t7 + x5)))), ()))))
  none))
  none))
  none))
  none)
noncomputable def integer_times.s0 (t0 : List Int) (t1 : List Int) (t6 : Int) (t7 : Int) (t16 : Int) (t17 : Int) (t21 : Int) (t22 : Int) (a14 : List (Int)) : Option ((List Int × List Int × Int × Int × Int × Int × Int × Int × List Int × Unit) ⊕ ((List Int × List Int × Int × Int × Int × Int × List Int × Unit))) :=
  (cond ((decide (t22 < t21)))
  ((integer_times.j2 t0 t1 t6 t7 t16 t17 t21 t22 a14))
  ((some (.inr (t0, t1, t6, t7, t16, t17, a14, ())))))
noncomputable def integer_times.k0 (t0 : List Int) (t1 : List Int) (t6 : Int) (t7 : Int) (t16 : Int) (t17 : Int) (a14 : List (Int)) : Option ((List Int × List Int × Int × Int × List Int × Unit) ⊕ ((List Int × Unit))) :=
  let x9 := (IntKind.wrap .i64 (t6 + ((List.length t1 : Nat) : Int)))
  (cond (inB x9 (List.length a14))
  ((some (.inl (t0, t1, t16, (IntKind.wrap .i64 (t17 + (1 : Int))), (List.set a14 ((0 + x9.toNat)) (IntKind.wrap .u32 t7)), ()))))
  none)
noncomputable def integer_times.j1 (t0 : List Int) (t1 : List Int) (t16 : Int) (t17 : Int) (a14 : List (Int)) : Option ((List Int × List Int × Int × Int × List Int × Unit) ⊕ ((List Int × Unit))) :=
  ((iterL (fun x : List Int × List Int × Int × Int × Int × Int × Int × Int × List Int × Unit => integer_times.s0 x.1 x.2.1 x.2.2.1 x.2.2.2.1 x.2.2.2.2.1 x.2.2.2.2.2.1 x.2.2.2.2.2.2.1 x.2.2.2.2.2.2.2.1 x.2.2.2.2.2.2.2.2.1) (t0, t1, t17, (0 : Int), t16, t17, ((List.length t1 : Nat) : Int), (0 : Int), a14, ())).bind fun y => integer_times.k0 y.1 y.2.1 y.2.2.1 y.2.2.2.1 y.2.2.2.2.1 y.2.2.2.2.2.1 y.2.2.2.2.2.2.1)
noncomputable def integer_times.s1 (t0 : List Int) (t1 : List Int) (t16 : Int) (t17 : Int) (a14 : List (Int)) : Option ((List Int × List Int × Int × Int × List Int × Unit) ⊕ ((List Int × Unit))) :=
  (cond ((decide (t17 < t16)))
  ((integer_times.j1 t0 t1 t16 t17 a14))
  ((some (.inr (a14, ())))))
noncomputable def integer_times.k1 (a14 : List (Int)) : Option (List Int) :=
  ((integer_trim a14).bind fun y11 =>
  (some y11))
noncomputable def integer_times (t0 : List Int) (t1 : List Int) : Option (List Int) :=
  let x1 := (IntKind.wrap .i64 (((List.length t0 : Nat) : Int) + ((List.length t1 : Nat) : Int)))
  (cond (inC x1 maxL)
  (((iterL (fun x : List Int × List Int × Int × Int × List Int × Unit => integer_times.s1 x.1 x.2.1 x.2.2.1 x.2.2.2.1 x.2.2.2.2.1) (t0, t1, ((List.length t0 : Nat) : Int), (0 : Int), (List.replicate (x1.toNat) ((0 : Int) : Int)), ())).bind fun y => integer_times.k1 y.1))
  none)
noncomputable def integer_times.en : En := ⟨29, [.sl (.int .u32), .sl (.int .u32)], .sl (.int .u32), false, fun x => integer_times x.1 x.2.1⟩
noncomputable def integer_times.o : List En := [integer_trim.en]
noncomputable def integer_times.oB : List EnB := []
def integer_times.h : HT := .two (.n) (.two (.n) (.two (.two (.n) (.lp 1)) (.two (.fr [14] []) (.n))))
noncomputable def integer_times.c : Code := Try.f29.body.getD .skip
def integer_times.h1 : HT := .two (.n) (.two (.n) (.two (.two (.n) (.two (.n) (.two (.two (.n) (.lp 0)) (.n)))) (.n)))
noncomputable def integer_times.c1 : Code := (find (loops integer_times.c integer_times.h) 1).getD .skip
def integer_times.d1 : Fm := [.v 0 (.sl (.int .u32)), .v 1 (.sl (.int .u32)), .v 16 (.int .i64), .v 17 (.int .i64), .arr 14 60 (.int .u32), .own 5 14]
def integer_times.x1 : Xs := [(.exit 0, [.arr 14 60 (.int .u32), .own 5 14])]
noncomputable def integer_times.r1 (x : (Fm.ty integer_times.d1).den) : Option ((Fm.ty integer_times.d1).den ⊕ (Xs.T integer_times.x1)) := integer_times.s1 x.1 x.2.1 x.2.2.1 x.2.2.2.1 x.2.2.2.2.1
def integer_times.h0 : HT := .n
noncomputable def integer_times.c0 : Code := (find (loops integer_times.c1 integer_times.h1) 0).getD .skip
def integer_times.d0 : Fm := [.v 0 (.sl (.int .u32)), .v 1 (.sl (.int .u32)), .v 6 (.int .i64), .v 7 (.int .u64), .v 16 (.int .i64), .v 17 (.int .i64), .v 21 (.int .i64), .v 22 (.int .i64), .arr 14 60 (.int .u32), .own 5 14]
def integer_times.x0 : Xs := [(.exit 2, [.v 0 (.sl (.int .u32)), .v 1 (.sl (.int .u32)), .v 6 (.int .i64), .v 7 (.int .u64), .v 16 (.int .i64), .v 17 (.int .i64), .arr 14 60 (.int .u32), .own 5 14])]
noncomputable def integer_times.r0 (x : (Fm.ty integer_times.d0).den) : Option ((Fm.ty integer_times.d0).den ⊕ (Xs.T integer_times.x0)) := integer_times.s0 x.1 x.2.1 x.2.2.1 x.2.2.2.1 x.2.2.2.2.1 x.2.2.2.2.2.1 x.2.2.2.2.2.2.1 x.2.2.2.2.2.2.2.1 x.2.2.2.2.2.2.2.2.1
noncomputable def integer_times.L : Lam := fun _ i s K => cond (Nat.beq i 0) (lamK integer_times.d0 integer_times.x0 integer_times.r0 s K) (cond (Nat.beq i 1) (lamK integer_times.d1 integer_times.x1 integer_times.r1 s K) (none))
theorem integer_times.hf0 (x) : roundK env (orc integer_times.o) (orcB integer_times.oB) 67 integer_times.L integer_times.c0 integer_times.h0 integer_times.d0 integer_times.x0 x = integer_times.r0 x := by kernel_rfl
theorem integer_times.hf1 (x) : roundK env (orc integer_times.o) (orcB integer_times.oB) 67 integer_times.L integer_times.c1 integer_times.h1 integer_times.d1 integer_times.x1 x = integer_times.r1 x := by kernel_rfl
theorem integer_times.os : AllOk prog integer_times.o := ⟨integer_trim.ok, trivial⟩
theorem integer_times.osB : AllBOk prog integer_times.oB := trivial
theorem integer_times.l0 {C : Ctx} (hC : C.n = 67) : LamAt prog C integer_times.L 0 integer_times.c0 := by
  intro R s K r hk
  refine loop_ok (D := integer_times.d0) (X := integer_times.x0) (h := integer_times.h0) (f := integer_times.r0) tabs (orc_ok _ integer_times.os) (orcB_ok _ integer_times.osB) (fun x => by rw [hC]; exact integer_times.hf0 x) (Λ := integer_times.L) ?_ (by kernel_rfl) (by kernel_rfl) (K := K) (s := s) (by exact hk)
  exact by
    have e : loops integer_times.c0 integer_times.h0 = [] := by kernel_rfl
    rw [e]
    exact LamOk.nil
theorem integer_times.l1 {C : Ctx} (hC : C.n = 67) : LamAt prog C integer_times.L 1 integer_times.c1 := by
  intro R s K r hk
  refine loop_ok (D := integer_times.d1) (X := integer_times.x1) (h := integer_times.h1) (f := integer_times.r1) tabs (orc_ok _ integer_times.os) (orcB_ok _ integer_times.osB) (fun x => by rw [hC]; exact integer_times.hf1 x) (Λ := integer_times.L) ?_ (by kernel_rfl) (by kernel_rfl) (K := K) (s := s) (by exact hk)
  exact by
    have e : loops integer_times.c1 integer_times.h1 = [(0, integer_times.c0)] := by kernel_rfl
    rw [e]
    exact LamOk.cons (integer_times.l0 hC) (LamOk.nil)
theorem integer_times.hk (x) : semK env (orc integer_times.o) (orcB integer_times.oB) 67 (integer_times.L _) integer_times.c integer_times.h (S.init (avs [.sl (.int .u32), .sl (.int .u32)] x)) (fin env Try.f29 ⟨[.sl (.int .u32), .sl (.int .u32)], .sl (.int .u32), false, false⟩) = integer_times.en.g x := by kernel_rfl
theorem integer_times.ok : EnOk prog integer_times.en := by
  refine fun_ok (g := ⟨[.sl (.int .u32), .sl (.int .u32)], .sl (.int .u32), false, false⟩) (h := integer_times.h) (Λ := integer_times.L) tabs integer_times.os integer_times.osB Try.func29 (c := integer_times.c) (by kernel_rfl) (by decide +kernel) (by decide +kernel) (fun C hC => ?_) (fun x => integer_times.hk x)
  exact by
    have e : loops integer_times.c integer_times.h = [(1, integer_times.c1)] := by kernel_rfl
    rw [e]
    exact LamOk.cons (integer_times.l1 hC) (LamOk.nil)
noncomputable def integer_Mul (t0 : Bool × List Int × Unit) (t1 : Bool × List Int × Unit) : Option (Bool × List Int × Unit) :=
  ((integer_magnitude (t0.1, (t0.2.1, ()))).bind fun y1 =>
  ((integer_magnitude (t1.1, (t1.2.1, ()))).bind fun y2 =>
  ((integer_times y1 y2).bind fun y3 =>
  ((integer_signed (!(t0.1 == t1.1)) y3).bind fun y4 =>
  (some (y4.1, (y4.2.1, ())))))))
noncomputable def integer_Mul.en : En := ⟨11, [.pair (.bool) (.pair (.sl (.int .u32)) (.unit)), .pair (.bool) (.pair (.sl (.int .u32)) (.unit))], .pair (.bool) (.pair (.sl (.int .u32)) (.unit)), false, fun x => integer_Mul x.1 x.2.1⟩
noncomputable def integer_Mul.o : List En := [integer_signed.en, integer_times.en, integer_magnitude.en]
noncomputable def integer_Mul.oB : List EnB := []
def integer_Mul.h : HT := .n
noncomputable def integer_Mul.c : Code := Try.f11.body.getD .skip
noncomputable def integer_Mul.L : Lam := fun _ i s K => none
theorem integer_Mul.os : AllOk prog integer_Mul.o := ⟨integer_signed.ok, integer_times.ok, integer_magnitude.ok, trivial⟩
theorem integer_Mul.osB : AllBOk prog integer_Mul.oB := trivial
theorem integer_Mul.hk (x) : semK env (orc integer_Mul.o) (orcB integer_Mul.oB) 16 (integer_Mul.L _) integer_Mul.c integer_Mul.h (S.init (avs [.pair (.bool) (.pair (.sl (.int .u32)) (.unit)), .pair (.bool) (.pair (.sl (.int .u32)) (.unit))] x)) (fin env Try.f11 ⟨[.pair (.bool) (.pair (.sl (.int .u32)) (.unit)), .pair (.bool) (.pair (.sl (.int .u32)) (.unit))], .pair (.bool) (.pair (.sl (.int .u32)) (.unit)), false, false⟩) = integer_Mul.en.g x := by kernel_rfl
theorem integer_Mul.ok : EnOk prog integer_Mul.en := by
  refine fun_ok (g := ⟨[.pair (.bool) (.pair (.sl (.int .u32)) (.unit)), .pair (.bool) (.pair (.sl (.int .u32)) (.unit))], .pair (.bool) (.pair (.sl (.int .u32)) (.unit)), false, false⟩) (h := integer_Mul.h) (Λ := integer_Mul.L) tabs integer_Mul.os integer_Mul.osB Try.func11 (c := integer_Mul.c) (by kernel_rfl) (by decide +kernel) (by decide +kernel) (fun C hC => ?_) (fun x => integer_Mul.hk x)
  exact by
    have e : loops integer_Mul.c integer_Mul.h = [] := by kernel_rfl
    rw [e]
    exact LamOk.nil
noncomputable def quadformlaw22_PrimeUnitSquares.j1 (t0 : Int) (t1 : Int) (t7 : Int) : Option (Bool) :=
  ((integer_Small (IntKind.wrap .i64 t1)).bind fun y6 =>
  ((integer_Small (IntKind.wrap .i64 t1)).bind fun y7 =>
  ((integer_Mul y6 y7).bind fun y8 =>
  ((integer_Small (IntKind.wrap .i64 t0)).bind fun y9 =>
  ((prime_Unit y9 t7).bind fun y10 =>
  ((integer_Small (IntKind.wrap .i64 t0)).bind fun y11 =>
  ((integer_Mul y11 (y8.1, (y8.2.1, ()))).bind fun y12 =>
  ((prime_Unit y12 t7).bind fun y13 =>
  (cond ((y10.2.1 == (0 : Int)))
  ((cond ((y13.2.1 == (0 : Int)))
  ((cond ((y10.1 == y13.1))
  ((cond ((y10.1 != (0 : Int)))
  (((quadformlaw22_awake).bind fun y14 =>
  (some y14)))
  ((some false))))
  ((some false))))
  ((some false))))
  ((some false)))))))))))
noncomputable def quadformlaw22_PrimeUnitSquares (t0 : Int) (t1 : Int) (t2 : Int) : Option (Bool) :=
  ((quadformscene_Prime (Int.tmod t2 (14 : Int))).bind fun y1 =>
  (cond (decide (y1 = 0))
  none
  ((cond (((Int.tmod (IntKind.wrap .i64 t0) y1) == (0 : Int)))
  (((quadformlaw22_awake).bind fun y3 =>
  (some y3)))
  ((cond (decide (y1 = 0))
  none
  ((cond (((Int.tmod (IntKind.wrap .i64 t1) y1) == (0 : Int)))
  (((quadformlaw22_awake).bind fun y5 =>
  (some y5)))
  ((quadformlaw22_PrimeUnitSquares.j1 t0 t1 y1))))))))))
noncomputable def quadformlaw22_PrimeUnitSquares.en : En := ⟨4, [.int .i32, .int .i32, .int .u8], .bool, false, fun x => quadformlaw22_PrimeUnitSquares x.1 x.2.1 x.2.2.1⟩
noncomputable def quadformlaw22_PrimeUnitSquares.o : List En := [quadformlaw22_awake.en, quadformscene_Prime.en, prime_Unit.en, integer_Mul.en, integer_Small.en]
noncomputable def quadformlaw22_PrimeUnitSquares.oB : List EnB := []
def quadformlaw22_PrimeUnitSquares.h : HT := .n
noncomputable def quadformlaw22_PrimeUnitSquares.c : Code := Try.f4.body.getD .skip
noncomputable def quadformlaw22_PrimeUnitSquares.L : Lam := fun _ i s K => none
theorem quadformlaw22_PrimeUnitSquares.os : AllOk prog quadformlaw22_PrimeUnitSquares.o := ⟨quadformlaw22_awake.ok, quadformscene_Prime.ok, prime_Unit.ok, integer_Mul.ok, integer_Small.ok, trivial⟩
theorem quadformlaw22_PrimeUnitSquares.osB : AllBOk prog quadformlaw22_PrimeUnitSquares.oB := trivial
theorem quadformlaw22_PrimeUnitSquares.hk (x) : semK env (orc quadformlaw22_PrimeUnitSquares.o) (orcB quadformlaw22_PrimeUnitSquares.oB) 72 (quadformlaw22_PrimeUnitSquares.L _) quadformlaw22_PrimeUnitSquares.c quadformlaw22_PrimeUnitSquares.h (S.init (avs [.int .i32, .int .i32, .int .u8] x)) (fin env Try.f4 ⟨[.int .i32, .int .i32, .int .u8], .bool, false, false⟩) = quadformlaw22_PrimeUnitSquares.en.g x := by kernel_rfl
theorem quadformlaw22_PrimeUnitSquares.ok : EnOk prog quadformlaw22_PrimeUnitSquares.en := by
  refine fun_ok (g := ⟨[.int .i32, .int .i32, .int .u8], .bool, false, false⟩) (h := quadformlaw22_PrimeUnitSquares.h) (Λ := quadformlaw22_PrimeUnitSquares.L) tabs quadformlaw22_PrimeUnitSquares.os quadformlaw22_PrimeUnitSquares.osB Try.func4 (c := quadformlaw22_PrimeUnitSquares.c) (by kernel_rfl) (by decide +kernel) (by decide +kernel) (fun C hC => ?_) (fun x => quadformlaw22_PrimeUnitSquares.hk x)
  exact by
    have e : loops quadformlaw22_PrimeUnitSquares.c quadformlaw22_PrimeUnitSquares.h = [] := by kernel_rfl
    rw [e]
    exact LamOk.nil
noncomputable def quadformscene_OddPrime (t0 : Int) : Option (Int) :=
  (cond (inB (Int.tmod t0 (8 : Int)) (List.length ([(3 : Int), (5 : Int), (7 : Int), (11 : Int), (13 : Int), (17 : Int), (19 : Int), (23 : Int)] : List (Int))))
  ((some (List.getD ([(3 : Int), (5 : Int), (7 : Int), (11 : Int), (13 : Int), (17 : Int), (19 : Int), (23 : Int)] : List (Int)) (((Int.tmod t0 (8 : Int))).toNat) (0 : Int))))
  none)
noncomputable def quadformscene_OddPrime.en : En := ⟨13, [.int .u8], .int .i64, false, fun x => quadformscene_OddPrime x.1⟩
noncomputable def quadformscene_OddPrime.o : List En := []
noncomputable def quadformscene_OddPrime.oB : List EnB := []
def quadformscene_OddPrime.h : HT := .n
noncomputable def quadformscene_OddPrime.c : Code := Try.f13.body.getD .skip
noncomputable def quadformscene_OddPrime.L : Lam := fun _ i s K => none
theorem quadformscene_OddPrime.os : AllOk prog quadformscene_OddPrime.o := trivial
theorem quadformscene_OddPrime.osB : AllBOk prog quadformscene_OddPrime.oB := trivial
theorem quadformscene_OddPrime.hk (x) : semK env (orc quadformscene_OddPrime.o) (orcB quadformscene_OddPrime.oB) 8 (quadformscene_OddPrime.L _) quadformscene_OddPrime.c quadformscene_OddPrime.h (S.init (avs [.int .u8] x)) (fin env Try.f13 ⟨[.int .u8], .int .i64, false, false⟩) = quadformscene_OddPrime.en.g x := by kernel_rfl
theorem quadformscene_OddPrime.ok : EnOk prog quadformscene_OddPrime.en := by
  refine fun_ok (g := ⟨[.int .u8], .int .i64, false, false⟩) (h := quadformscene_OddPrime.h) (Λ := quadformscene_OddPrime.L) tabs quadformscene_OddPrime.os quadformscene_OddPrime.osB Try.func13 (c := quadformscene_OddPrime.c) (by kernel_rfl) (by decide +kernel) (by decide +kernel) (fun C hC => ?_) (fun x => quadformscene_OddPrime.hk x)
  exact by
    have e : loops quadformscene_OddPrime.c quadformscene_OddPrime.h = [] := by kernel_rfl
    rw [e]
    exact LamOk.nil
noncomputable def integer_Normalize (t0 : Bool × List Int × Unit) : Option (Bool × List Int × Unit) :=
  ((integer_magnitude (t0.1, (t0.2.1, ()))).bind fun y1 =>
  (cond (inC ((List.length y1 : Nat) : Int) maxL)
  (((integer_signed t0.1 (List.take (List.length (List.replicate ((((List.length y1 : Nat) : Int)).toNat) ((0 : Int) : Int))) y1 ++ List.drop (List.length y1) (List.replicate ((((List.length y1 : Nat) : Int)).toNat) ((0 : Int) : Int)))).bind fun y3 =>
  (some (y3.1, (y3.2.1, ())))))
  none))
noncomputable def integer_Normalize.en : En := ⟨31, [.pair (.bool) (.pair (.sl (.int .u32)) (.unit))], .pair (.bool) (.pair (.sl (.int .u32)) (.unit)), false, fun x => integer_Normalize x.1⟩
noncomputable def integer_Normalize.o : List En := [integer_signed.en, integer_magnitude.en]
noncomputable def integer_Normalize.oB : List EnB := []
def integer_Normalize.h : HT := .two (.n) (.two (.n) (.two (.n) (.two (.n) (.two (.fr [9] []) (.n)))))
noncomputable def integer_Normalize.c : Code := Try.f31.body.getD .skip
noncomputable def integer_Normalize.L : Lam := fun _ i s K => none
theorem integer_Normalize.os : AllOk prog integer_Normalize.o := ⟨integer_signed.ok, integer_magnitude.ok, trivial⟩
theorem integer_Normalize.osB : AllBOk prog integer_Normalize.oB := trivial
theorem integer_Normalize.hk (x) : semK env (orc integer_Normalize.o) (orcB integer_Normalize.oB) 17 (integer_Normalize.L _) integer_Normalize.c integer_Normalize.h (S.init (avs [.pair (.bool) (.pair (.sl (.int .u32)) (.unit))] x)) (fin env Try.f31 ⟨[.pair (.bool) (.pair (.sl (.int .u32)) (.unit))], .pair (.bool) (.pair (.sl (.int .u32)) (.unit)), false, false⟩) = integer_Normalize.en.g x := by kernel_rfl
theorem integer_Normalize.ok : EnOk prog integer_Normalize.en := by
  refine fun_ok (g := ⟨[.pair (.bool) (.pair (.sl (.int .u32)) (.unit))], .pair (.bool) (.pair (.sl (.int .u32)) (.unit)), false, false⟩) (h := integer_Normalize.h) (Λ := integer_Normalize.L) tabs integer_Normalize.os integer_Normalize.osB Try.func31 (c := integer_Normalize.c) (by kernel_rfl) (by decide +kernel) (by decide +kernel) (fun C hC => ?_) (fun x => integer_Normalize.hk x)
  exact by
    have e : loops integer_Normalize.c integer_Normalize.h = [] := by kernel_rfl
    rw [e]
    exact LamOk.nil
noncomputable def integer_Pow.j4 (t1 : Int) (b4_0 : Bool) (b4_1 : List Int) (b6_0 : Bool) (b6_1 : List Int) (b7_0 : Bool) (b7_1 : List Int) : Option ((Int × (Bool × List Int × Unit) × (Bool × List Int × Unit) × (Bool × List Int × Unit) × Unit) ⊕ (((Bool × List Int × Unit) × (Bool × List Int × Unit) × Unit))) :=
  (some (.inl ((IntKind.wrap .i64 (Int.tdiv t1 (2 : Int))), (b4_0, (b4_1, ())), (b6_0, (b6_1, ())), (b7_0, (b7_1, ())), ())))
noncomputable def integer_Pow.j3 (t1 : Int) (b4_0 : Bool) (b4_1 : List Int) (b6_0 : Bool) (b6_1 : List Int) (b7_0 : Bool) (b7_1 : List Int) : Option ((Int × (Bool × List Int × Unit) × (Bool × List Int × Unit) × (Bool × List Int × Unit) × Unit) ⊕ (((Bool × List Int × Unit) × (Bool × List Int × Unit) × Unit))) :=
  (cond ((decide (t1 > (1 : Int))))
  (((integer_Mul (b7_0, (b7_1, ())) (b7_0, (b7_1, ()))).bind fun y4 =>
  (integer_Pow.j4 t1 b4_0 b4_1 b6_0 b6_1 y4.1 y4.2.1)))
  ((integer_Pow.j4 t1 b4_0 b4_1 b6_0 b6_1 b7_0 b7_1)))
noncomputable def integer_Pow.j2 (t1 : Int) (b4_0 : Bool) (b4_1 : List Int) (b6_0 : Bool) (b6_1 : List Int) (b7_0 : Bool) (b7_1 : List Int) : Option ((Int × (Bool × List Int × Unit) × (Bool × List Int × Unit) × (Bool × List Int × Unit) × Unit) ⊕ (((Bool × List Int × Unit) × (Bool × List Int × Unit) × Unit))) :=
  (cond (((Int.tmod t1 (2 : Int)) == (1 : Int)))
  (((integer_Mul (b6_0, (b6_1, ())) (b7_0, (b7_1, ()))).bind fun y3 =>
  (integer_Pow.j3 t1 b4_0 b4_1 y3.1 y3.2.1 b7_0 b7_1)))
  ((integer_Pow.j3 t1 b4_0 b4_1 b6_0 b6_1 b7_0 b7_1)))
noncomputable def integer_Pow.s0 (t1 : Int) (b4 : Bool × List Int × Unit) (b6 : Bool × List Int × Unit) (b7 : Bool × List Int × Unit) : Option ((Int × (Bool × List Int × Unit) × (Bool × List Int × Unit) × (Bool × List Int × Unit) × Unit) ⊕ (((Bool × List Int × Unit) × (Bool × List Int × Unit) × Unit))) :=
  (cond ((decide (t1 > (0 : Int))))
  ((integer_Pow.j2 t1 b4.1 b4.2.1 b6.1 b6.2.1 b7.1 b7.2.1))
  ((some (.inr ((b4.1, (b4.2.1, ())), (b6.1, (b6.2.1, ())), ())))))
noncomputable def integer_Pow.k0 (b4 : Bool × List Int × Unit) (b6 : Bool × List Int × Unit) : Option ((Bool × List Int × Unit) × Bool × Unit) :=
  (some ((b6.1, (b6.2.1, ())), (true, ())))
noncomputable def integer_Pow.j1 (t1 : Int) (b2_0 : Bool) (b2_1 : List Int) (b4_1 : List Int) : Option ((Bool × List Int × Unit) × Bool × Unit) :=
  ((integer_Small (1 : Int)).bind fun y1 =>
  ((integer_Normalize (b2_0, (b2_1, ()))).bind fun y2 =>
  ((iterL (fun x : Int × (Bool × List Int × Unit) × (Bool × List Int × Unit) × (Bool × List Int × Unit) × Unit => integer_Pow.s0 x.1 x.2.1 x.2.2.1 x.2.2.2.1) (t1, (false, (b4_1, ())), (y1.1, (y1.2.1, ())), (y2.1, (y2.2.1, ())), ())).bind fun y => integer_Pow.k0 y.1 y.2.1)))
noncomputable def integer_Pow (t0 : Bool × List Int × Unit) (t1 : Int) : Option ((Bool × List Int × Unit) × Bool × Unit) :=
  (cond ((decide (t1 < (0 : Int))))
  ((some ((false, (([] : List Int), ())), (false, ()))))
  ((cond ((decide (t1 > (64 : Int))))
  ((some ((false, (([] : List Int), ())), (false, ()))))
  ((integer_Pow.j1 t1 t0.1 t0.2.1 ([] : List Int))))))
noncomputable def integer_Pow.en : En := ⟨14, [.pair (.bool) (.pair (.sl (.int .u32)) (.unit)), .int .i64], .pair (.pair (.bool) (.pair (.sl (.int .u32)) (.unit))) (.pair (.bool) (.unit)), true, fun x => integer_Pow x.1 x.2.1⟩
noncomputable def integer_Pow.o : List En := [integer_Mul.en, integer_Small.en, integer_Normalize.en]
noncomputable def integer_Pow.oB : List EnB := []
def integer_Pow.h : HT := .two (.n) (.two (.n) (.two (.n) (.two (.lp 0) (.n))))
noncomputable def integer_Pow.c : Code := Try.f14.body.getD .skip
def integer_Pow.h0 : HT := .n
noncomputable def integer_Pow.c0 : Code := (find (loops integer_Pow.c integer_Pow.h) 0).getD .skip
def integer_Pow.d0 : Fm := [.v 1 (.int .i64), .box 4 (.pair (.bool) (.pair (.sl (.int .u32)) (.unit))), .box 6 (.pair (.bool) (.pair (.sl (.int .u32)) (.unit))), .box 7 (.pair (.bool) (.pair (.sl (.int .u32)) (.unit))), .ptr 4 4, .ptr 6 6, .ptr 7 7]
def integer_Pow.x0 : Xs := [(.exit 0, [.box 4 (.pair (.bool) (.pair (.sl (.int .u32)) (.unit))), .box 6 (.pair (.bool) (.pair (.sl (.int .u32)) (.unit))), .ptr 4 4, .ptr 6 6])]
noncomputable def integer_Pow.r0 (x : (Fm.ty integer_Pow.d0).den) : Option ((Fm.ty integer_Pow.d0).den ⊕ (Xs.T integer_Pow.x0)) := integer_Pow.s0 x.1 x.2.1 x.2.2.1 x.2.2.2.1
noncomputable def integer_Pow.L : Lam := fun _ i s K => cond (Nat.beq i 0) (lamK integer_Pow.d0 integer_Pow.x0 integer_Pow.r0 s K) (none)
theorem integer_Pow.hf0 (x) : roundK env (orc integer_Pow.o) (orcB integer_Pow.oB) 34 integer_Pow.L integer_Pow.c0 integer_Pow.h0 integer_Pow.d0 integer_Pow.x0 x = integer_Pow.r0 x := by kernel_rfl
theorem integer_Pow.os : AllOk prog integer_Pow.o := ⟨integer_Mul.ok, integer_Small.ok, integer_Normalize.ok, trivial⟩
theorem integer_Pow.osB : AllBOk prog integer_Pow.oB := trivial
theorem integer_Pow.l0 {C : Ctx} (hC : C.n = 34) : LamAt prog C integer_Pow.L 0 integer_Pow.c0 := by
  intro R s K r hk
  refine loop_ok (D := integer_Pow.d0) (X := integer_Pow.x0) (h := integer_Pow.h0) (f := integer_Pow.r0) tabs (orc_ok _ integer_Pow.os) (orcB_ok _ integer_Pow.osB) (fun x => by rw [hC]; exact integer_Pow.hf0 x) (Λ := integer_Pow.L) ?_ (by kernel_rfl) (by kernel_rfl) (K := K) (s := s) (by exact hk)
  exact by
    have e : loops integer_Pow.c0 integer_Pow.h0 = [] := by kernel_rfl
    rw [e]
    exact LamOk.nil
theorem integer_Pow.hk (x) : semK env (orc integer_Pow.o) (orcB integer_Pow.oB) 34 (integer_Pow.L _) integer_Pow.c integer_Pow.h (S.init (avs [.pair (.bool) (.pair (.sl (.int .u32)) (.unit)), .int .i64] x)) (fin env Try.f14 ⟨[.pair (.bool) (.pair (.sl (.int .u32)) (.unit)), .int .i64], .pair (.pair (.bool) (.pair (.sl (.int .u32)) (.unit))) (.pair (.bool) (.unit)), true, false⟩) = integer_Pow.en.g x := by kernel_rfl
theorem integer_Pow.ok : EnOk prog integer_Pow.en := by
  refine fun_ok (g := ⟨[.pair (.bool) (.pair (.sl (.int .u32)) (.unit)), .int .i64], .pair (.pair (.bool) (.pair (.sl (.int .u32)) (.unit))) (.pair (.bool) (.unit)), true, false⟩) (h := integer_Pow.h) (Λ := integer_Pow.L) tabs integer_Pow.os integer_Pow.osB Try.func14 (c := integer_Pow.c) (by kernel_rfl) (by decide +kernel) (by decide +kernel) (fun C hC => ?_) (fun x => integer_Pow.hk x)
  exact by
    have e : loops integer_Pow.c integer_Pow.h = [(0, integer_Pow.c0)] := by kernel_rfl
    rw [e]
    exact LamOk.cons (integer_Pow.l0 hC) (LamOk.nil)
noncomputable def integer_Sign.j2  : Option (Int) :=
  (some (1 : Int))
noncomputable def integer_Sign.j1  : Option (Int) :=
  (integer_Sign.j2)
noncomputable def integer_Sign (t0 : Bool × List Int × Unit) : Option (Int) :=
  ((integer_magnitude (t0.1, (t0.2.1, ()))).bind fun y1 =>
  (cond ((((List.length y1 : Nat) : Int) == (0 : Int)))
  ((some (0 : Int)))
  ((cond (t0.1)
  ((some (-1 : Int)))
  ((integer_Sign.j1))))))
noncomputable def integer_Sign.en : En := ⟨17, [.pair (.bool) (.pair (.sl (.int .u32)) (.unit))], .int .i64, false, fun x => integer_Sign x.1⟩
noncomputable def integer_Sign.o : List En := [integer_magnitude.en]
noncomputable def integer_Sign.oB : List EnB := []
def integer_Sign.h : HT := .n
noncomputable def integer_Sign.c : Code := Try.f17.body.getD .skip
noncomputable def integer_Sign.L : Lam := fun _ i s K => none
theorem integer_Sign.os : AllOk prog integer_Sign.o := ⟨integer_magnitude.ok, trivial⟩
theorem integer_Sign.osB : AllBOk prog integer_Sign.oB := trivial
theorem integer_Sign.hk (x) : semK env (orc integer_Sign.o) (orcB integer_Sign.oB) 11 (integer_Sign.L _) integer_Sign.c integer_Sign.h (S.init (avs [.pair (.bool) (.pair (.sl (.int .u32)) (.unit))] x)) (fin env Try.f17 ⟨[.pair (.bool) (.pair (.sl (.int .u32)) (.unit))], .int .i64, false, false⟩) = integer_Sign.en.g x := by kernel_rfl
theorem integer_Sign.ok : EnOk prog integer_Sign.en := by
  refine fun_ok (g := ⟨[.pair (.bool) (.pair (.sl (.int .u32)) (.unit))], .int .i64, false, false⟩) (h := integer_Sign.h) (Λ := integer_Sign.L) tabs integer_Sign.os integer_Sign.osB Try.func17 (c := integer_Sign.c) (by kernel_rfl) (by decide +kernel) (by decide +kernel) (fun C hC => ?_) (fun x => integer_Sign.hk x)
  exact by
    have e : loops integer_Sign.c integer_Sign.h = [] := by kernel_rfl
    rw [e]
    exact LamOk.nil
noncomputable def prime_Valuation.j3 (t8 : Int) (b2_0 : Bool) (b2_1 : List Int) (b5_0 : Bool) (b5_1 : List Int) (b7_0 : Bool) (b7_1 : List Int) (b9_0 : Bool) (b9_1 : List Int) : Option ((Int × (Bool × List Int × Unit) × (Bool × List Int × Unit) × (Bool × List Int × Unit) × Unit) ⊕ ((Int × Int × (Bool × List Int × Unit) × Unit))) :=
  (some (.inl ((IntKind.wrap .i64 (t8 + (1 : Int))), (b9_0, (b9_1, ())), (b5_0, (b5_1, ())), (b7_0, (b7_1, ())), ())))
noncomputable def prime_Valuation.s0 (t8 : Int) (b2 : Bool × List Int × Unit) (b5 : Bool × List Int × Unit) (b7 : Bool × List Int × Unit) : Option ((Int × (Bool × List Int × Unit) × (Bool × List Int × Unit) × (Bool × List Int × Unit) × Unit) ⊕ ((Int × Int × (Bool × List Int × Unit) × Unit))) :=
  ((integer_DivMod (b2.1, (b2.2.1, ())) (b7.1, (b7.2.1, ()))).bind fun y5 =>
  ((integer_Sign (y5.2.1.1, (y5.2.1.2.1, ()))).bind fun y6 =>
  (cond ((y6 != (0 : Int)))
  ((some (.inr (t8, (0 : Int), (b2.1, (b2.2.1, ())), ()))))
  ((prime_Valuation.j3 t8 b2.1 b2.2.1 b5.1 b5.2.1 b7.1 b7.2.1 y5.1.1 y5.1.2.1)))))
noncomputable def prime_Valuation.k0 (t4 : Int) (t6 : Int) (b5 : Bool × List Int × Unit) : Option (Int × (Bool × List Int × Unit) × Int × Unit) :=
  (some (t4, ((b5.1, (b5.2.1, ())), (t6, ()))))
noncomputable def prime_Valuation.j2 (t1 : Int) (b2_0 : Bool) (b2_1 : List Int) (b5_1 : List Int) : Option (Int × (Bool × List Int × Unit) × Int × Unit) :=
  ((integer_Normalize (b2_0, (b2_1, ()))).bind fun y3 =>
  ((integer_Small t1).bind fun y4 =>
  ((iterL (fun x : Int × (Bool × List Int × Unit) × (Bool × List Int × Unit) × (Bool × List Int × Unit) × Unit => prime_Valuation.s0 x.1 x.2.1 x.2.2.1 x.2.2.2.1) ((0 : Int), (y3.1, (y3.2.1, ())), (false, (b5_1, ())), (y4.1, (y4.2.1, ())), ())).bind fun y => prime_Valuation.k0 y.1 y.2.1 y.2.2.1)))
noncomputable def prime_Valuation.j1 (t1 : Int) (b2_0 : Bool) (b2_1 : List Int) (b5_1 : List Int) : Option (Int × (Bool × List Int × Unit) × Int × Unit) :=
  ((integer_Sign (b2_0, (b2_1, ()))).bind fun y2 =>
  (cond ((y2 == (0 : Int)))
  ((some ((0 : Int), ((false, (([] : List Int), ())), ((1 : Int), ())))))
  ((prime_Valuation.j2 t1 b2_0 b2_1 b5_1))))
noncomputable def prime_Valuation (t0 : Bool × List Int × Unit) (t1 : Int) : Option (Int × (Bool × List Int × Unit) × Int × Unit) :=
  ((prime_Is t1).bind fun y1 =>
  (cond ((!y1))
  ((some ((0 : Int), ((false, (([] : List Int), ())), ((20 : Int), ())))))
  ((prime_Valuation.j1 t1 t0.1 t0.2.1 ([] : List Int)))))
noncomputable def prime_Valuation.en : En := ⟨15, [.pair (.bool) (.pair (.sl (.int .u32)) (.unit)), .int .i64], .pair (.int .i64) (.pair (.pair (.bool) (.pair (.sl (.int .u32)) (.unit))) (.pair (.int .i64) (.unit))), true, fun x => prime_Valuation x.1 x.2.1⟩
noncomputable def prime_Valuation.o : List En := [integer_Small.en, integer_DivMod.en, integer_Sign.en, prime_Is.en, integer_Normalize.en]
noncomputable def prime_Valuation.oB : List EnB := []
def prime_Valuation.h : HT := .two (.n) (.two (.n) (.two (.n) (.two (.n) (.two (.n) (.two (.n) (.lp 0))))))
noncomputable def prime_Valuation.c : Code := Try.f15.body.getD .skip
def prime_Valuation.h0 : HT := .n
noncomputable def prime_Valuation.c0 : Code := (find (loops prime_Valuation.c prime_Valuation.h) 0).getD .skip
def prime_Valuation.d0 : Fm := [.v 8 (.int .i64), .box 2 (.pair (.bool) (.pair (.sl (.int .u32)) (.unit))), .box 5 (.pair (.bool) (.pair (.sl (.int .u32)) (.unit))), .box 7 (.pair (.bool) (.pair (.sl (.int .u32)) (.unit))), .ptr 2 2, .ptr 5 5, .ptr 7 7]
def prime_Valuation.x0 : Xs := [(.ret, [.v 4 (.int .i64), .v 6 (.int .i64), .box 5 (.pair (.bool) (.pair (.sl (.int .u32)) (.unit))), .ptr 5 5])]
noncomputable def prime_Valuation.r0 (x : (Fm.ty prime_Valuation.d0).den) : Option ((Fm.ty prime_Valuation.d0).den ⊕ (Xs.T prime_Valuation.x0)) := prime_Valuation.s0 x.1 x.2.1 x.2.2.1 x.2.2.2.1
noncomputable def prime_Valuation.L : Lam := fun _ i s K => cond (Nat.beq i 0) (lamK prime_Valuation.d0 prime_Valuation.x0 prime_Valuation.r0 s K) (none)
theorem prime_Valuation.hf0 (x) : roundK env (orc prime_Valuation.o) (orcB prime_Valuation.oB) 39 prime_Valuation.L prime_Valuation.c0 prime_Valuation.h0 prime_Valuation.d0 prime_Valuation.x0 x = prime_Valuation.r0 x := by kernel_rfl
theorem prime_Valuation.os : AllOk prog prime_Valuation.o := ⟨integer_Small.ok, integer_DivMod.ok, integer_Sign.ok, prime_Is.ok, integer_Normalize.ok, trivial⟩
theorem prime_Valuation.osB : AllBOk prog prime_Valuation.oB := trivial
theorem prime_Valuation.l0 {C : Ctx} (hC : C.n = 39) : LamAt prog C prime_Valuation.L 0 prime_Valuation.c0 := by
  intro R s K r hk
  refine loop_ok (D := prime_Valuation.d0) (X := prime_Valuation.x0) (h := prime_Valuation.h0) (f := prime_Valuation.r0) tabs (orc_ok _ prime_Valuation.os) (orcB_ok _ prime_Valuation.osB) (fun x => by rw [hC]; exact prime_Valuation.hf0 x) (Λ := prime_Valuation.L) ?_ (by kernel_rfl) (by kernel_rfl) (K := K) (s := s) (by exact hk)
  exact by
    have e : loops prime_Valuation.c0 prime_Valuation.h0 = [] := by kernel_rfl
    rw [e]
    exact LamOk.nil
theorem prime_Valuation.hk (x) : semK env (orc prime_Valuation.o) (orcB prime_Valuation.oB) 39 (prime_Valuation.L _) prime_Valuation.c prime_Valuation.h (S.init (avs [.pair (.bool) (.pair (.sl (.int .u32)) (.unit)), .int .i64] x)) (fin env Try.f15 ⟨[.pair (.bool) (.pair (.sl (.int .u32)) (.unit)), .int .i64], .pair (.int .i64) (.pair (.pair (.bool) (.pair (.sl (.int .u32)) (.unit))) (.pair (.int .i64) (.unit))), true, false⟩) = prime_Valuation.en.g x := by kernel_rfl
theorem prime_Valuation.ok : EnOk prog prime_Valuation.en := by
  refine fun_ok (g := ⟨[.pair (.bool) (.pair (.sl (.int .u32)) (.unit)), .int .i64], .pair (.int .i64) (.pair (.pair (.bool) (.pair (.sl (.int .u32)) (.unit))) (.pair (.int .i64) (.unit))), true, false⟩) (h := prime_Valuation.h) (Λ := prime_Valuation.L) tabs prime_Valuation.os prime_Valuation.osB Try.func15 (c := prime_Valuation.c) (by kernel_rfl) (by decide +kernel) (by decide +kernel) (fun C hC => ?_) (fun x => prime_Valuation.hk x)
  exact by
    have e : loops prime_Valuation.c prime_Valuation.h = [(0, prime_Valuation.c0)] := by kernel_rfl
    rw [e]
    exact LamOk.cons (prime_Valuation.l0 hC) (LamOk.nil)
noncomputable def integer_Cmp.j1  : Option (Int) :=
  (some (1 : Int))
noncomputable def integer_Cmp.j2 (t5 : Int) (b2_0 : Bool) (b2_1 : List Int) (b3_0 : Bool) (b3_1 : List Int) : Option (Int) :=
  ((integer_magnitude (b2_0, (b2_1, ()))).bind fun y3 =>
  ((integer_magnitude (b3_0, (b3_1, ()))).bind fun y4 =>
  ((integer_compare y3 y4).bind fun y5 =>
  (some (IntKind.wrap .i64 (t5 * y5))))))
noncomputable def integer_Cmp (t0 : Bool × List Int × Unit) (t1 : Bool × List Int × Unit) : Option (Int) :=
  ((integer_Sign (t0.1, (t0.2.1, ()))).bind fun y1 =>
  ((integer_Sign (t1.1, (t1.2.1, ()))).bind fun y2 =>
  (cond ((y1 != y2))
  ((cond ((decide (y1 < y2)))
  ((some (-1 : Int)))
  ((integer_Cmp.j1))))
  ((integer_Cmp.j2 y1 t0.1 t0.2.1 t1.1 t1.2.1)))))
noncomputable def integer_Cmp.en : En := ⟨18, [.pair (.bool) (.pair (.sl (.int .u32)) (.unit)), .pair (.bool) (.pair (.sl (.int .u32)) (.unit))], .int .i64, false, fun x => integer_Cmp x.1 x.2.1⟩
noncomputable def integer_Cmp.o : List En := [integer_Sign.en, integer_magnitude.en, integer_compare.en]
noncomputable def integer_Cmp.oB : List EnB := []
def integer_Cmp.h : HT := .n
noncomputable def integer_Cmp.c : Code := Try.f18.body.getD .skip
noncomputable def integer_Cmp.L : Lam := fun _ i s K => none
theorem integer_Cmp.os : AllOk prog integer_Cmp.o := ⟨integer_Sign.ok, integer_magnitude.ok, integer_compare.ok, trivial⟩
theorem integer_Cmp.osB : AllBOk prog integer_Cmp.oB := trivial
theorem integer_Cmp.hk (x) : semK env (orc integer_Cmp.o) (orcB integer_Cmp.oB) 24 (integer_Cmp.L _) integer_Cmp.c integer_Cmp.h (S.init (avs [.pair (.bool) (.pair (.sl (.int .u32)) (.unit)), .pair (.bool) (.pair (.sl (.int .u32)) (.unit))] x)) (fin env Try.f18 ⟨[.pair (.bool) (.pair (.sl (.int .u32)) (.unit)), .pair (.bool) (.pair (.sl (.int .u32)) (.unit))], .int .i64, false, false⟩) = integer_Cmp.en.g x := by kernel_rfl
theorem integer_Cmp.ok : EnOk prog integer_Cmp.en := by
  refine fun_ok (g := ⟨[.pair (.bool) (.pair (.sl (.int .u32)) (.unit)), .pair (.bool) (.pair (.sl (.int .u32)) (.unit))], .int .i64, false, false⟩) (h := integer_Cmp.h) (Λ := integer_Cmp.L) tabs integer_Cmp.os integer_Cmp.osB Try.func18 (c := integer_Cmp.c) (by kernel_rfl) (by decide +kernel) (by decide +kernel) (fun C hC => ?_) (fun x => integer_Cmp.hk x)
  exact by
    have e : loops integer_Cmp.c integer_Cmp.h = [] := by kernel_rfl
    rw [e]
    exact LamOk.nil
noncomputable def quadformlaw22_PrimeValuationBack.j2 (t0 : Int) (t7 : Int) (t10 : Int) (b8_0 : Bool) (b8_1 : List Int) (b11_0 : Bool) (b11_1 : List Int) : Option (Bool) :=
  ((integer_Small t7).bind fun y12 =>
  ((integer_Pow y12 t10).bind fun y13 =>
  ((integer_Small t7).bind fun y14 =>
  ((integer_DivMod (b11_0, (b11_1, ())) y14).bind fun y15 =>
  (cond (y13.2.1)
  ((cond (y15.2.2.1)
  (((integer_Sign (y15.2.1.1, (y15.2.1.2.1, ()))).bind fun y16 =>
  (cond ((y16 != (0 : Int)))
  (((integer_Mul (y13.1.1, (y13.1.2.1, ())) (b11_0, (b11_1, ()))).bind fun y17 =>
  ((integer_Small t0).bind fun y18 =>
  ((integer_Mul (b8_0, (b8_1, ())) y18).bind fun y19 =>
  ((integer_Cmp y17 y19).bind fun y20 =>
  (cond ((y20 == (0 : Int)))
  (((quadformlaw22_awake).bind fun y21 =>
  (some y21)))
  ((some false))))))))
  ((some false)))))
  ((some false))))
  ((some false)))))))
noncomputable def quadformlaw22_PrimeValuationBack.j1 (t0 : Int) (t2 : Int) (t7 : Int) : Option (Bool) :=
  ((integer_Small t7).bind fun y3 =>
  ((integer_Pow y3 (Int.tmod (IntKind.wrap .i64 t2) (20 : Int))).bind fun y5 =>
  ((integer_Small t0).bind fun y6 =>
  ((integer_Mul (y5.1.1, (y5.1.2.1, ())) y6).bind fun y7 =>
  ((prime_Valuation y7 t7).bind fun y8 =>
  (cond ((!y5.2.1))
  ((some false))
  ((cond ((y8.2.2.1 != (0 : Int)))
  ((some false))
  ((cond ((decide (y8.1 < (Int.tmod (IntKind.wrap .i64 t2) (20 : Int)))))
  ((some false))
  ((cond ((decide (y8.1 > (IntKind.wrap .i64 ((Int.tmod (IntKind.wrap .i64 t2) (20 : Int)) + (40 : Int))))))
  ((some false))
  ((quadformlaw22_PrimeValuationBack.j2 t0 t7 y8.1 y5.1.1 y5.1.2.1 y8.2.1.1 y8.2.1.2.1))))))))))))))
noncomputable def quadformlaw22_PrimeValuationBack (t0 : Int) (t1 : Int) (t2 : Int) : Option (Bool) :=
  ((quadformscene_OddPrime t1).bind fun y1 =>
  (cond ((t0 == (0 : Int)))
  (((quadformlaw22_awake).bind fun y2 =>
  (some y2)))
  ((quadformlaw22_PrimeValuationBack.j1 t0 t2 y1))))
noncomputable def quadformlaw22_PrimeValuationBack.en : En := ⟨5, [.int .i64, .int .u8, .int .u8], .bool, false, fun x => quadformlaw22_PrimeValuationBack x.1 x.2.1 x.2.2.1⟩
noncomputable def quadformlaw22_PrimeValuationBack.o : List En := [quadformlaw22_awake.en, integer_Mul.en, integer_Small.en, quadformscene_OddPrime.en, integer_Pow.en, prime_Valuation.en, integer_DivMod.en, integer_Sign.en, integer_Cmp.en]
noncomputable def quadformlaw22_PrimeValuationBack.oB : List EnB := []
def quadformlaw22_PrimeValuationBack.h : HT := .n
noncomputable def quadformlaw22_PrimeValuationBack.c : Code := Try.f5.body.getD .skip
noncomputable def quadformlaw22_PrimeValuationBack.L : Lam := fun _ i s K => none
theorem quadformlaw22_PrimeValuationBack.os : AllOk prog quadformlaw22_PrimeValuationBack.o := ⟨quadformlaw22_awake.ok, integer_Mul.ok, integer_Small.ok, quadformscene_OddPrime.ok, integer_Pow.ok, prime_Valuation.ok, integer_DivMod.ok, integer_Sign.ok, integer_Cmp.ok, trivial⟩
theorem quadformlaw22_PrimeValuationBack.osB : AllBOk prog quadformlaw22_PrimeValuationBack.oB := trivial
theorem quadformlaw22_PrimeValuationBack.hk (x) : semK env (orc quadformlaw22_PrimeValuationBack.o) (orcB quadformlaw22_PrimeValuationBack.oB) 101 (quadformlaw22_PrimeValuationBack.L _) quadformlaw22_PrimeValuationBack.c quadformlaw22_PrimeValuationBack.h (S.init (avs [.int .i64, .int .u8, .int .u8] x)) (fin env Try.f5 ⟨[.int .i64, .int .u8, .int .u8], .bool, false, false⟩) = quadformlaw22_PrimeValuationBack.en.g x := by kernel_rfl
theorem quadformlaw22_PrimeValuationBack.ok : EnOk prog quadformlaw22_PrimeValuationBack.en := by
  refine fun_ok (g := ⟨[.int .i64, .int .u8, .int .u8], .bool, false, false⟩) (h := quadformlaw22_PrimeValuationBack.h) (Λ := quadformlaw22_PrimeValuationBack.L) tabs quadformlaw22_PrimeValuationBack.os quadformlaw22_PrimeValuationBack.osB Try.func5 (c := quadformlaw22_PrimeValuationBack.c) (by kernel_rfl) (by decide +kernel) (by decide +kernel) (fun C hC => ?_) (fun x => quadformlaw22_PrimeValuationBack.hk x)
  exact by
    have e : loops quadformlaw22_PrimeValuationBack.c quadformlaw22_PrimeValuationBack.h = [] := by kernel_rfl
    rw [e]
    exact LamOk.nil
end Go.Proofs.Ytcjhbjfkcmncpab.E
