/- Functions of the program as_ functions on values, without fuel, and that the evaluator computes them (printed by gen.py). -/
import Derived.Test.YtgbndganadelpaaDoorYLocalmassPairs9
import Derived.Test.YtgbndganadelpaaDoorYLocalmassPairs8
import Derived.Test.YtgbndganadelpaaDoorYLocalmassPairs0
namespace Go.Proofs.YtgbndganadelpaaDoor.E
open Go
set_option linter.unusedVariables false
set_option maxRecDepth 100000
noncomputable def prime_symbol.j4  : Option (Int) :=
  (some (0 : Int))
noncomputable def prime_symbol.j3  : Option (Int) :=
  (prime_symbol.j4)
noncomputable def prime_symbol.j2 (t14 : Bool) : Option (Int) :=
  (cond (t14)
  ((some (-1 : Int)))
  ((prime_symbol.j3)))
noncomputable def prime_symbol.j1 (t10 : Int) (t11 : Bool) : Option (Int) :=
  (cond (t11)
  ((some (1 : Int)))
  ((cond ((t10 == (3 : Int)))
  ((prime_symbol.j2 (t10 == (3 : Int))))
  ((prime_symbol.j2 (t10 == (5 : Int)))))))
noncomputable def prime_symbol.j8 (t0 : Int) (t1 : Int) (t5 : Int) (t6 : Int) : Option ((Int × Int × Int × Int × Unit) ⊕ ((Int × Unit))) :=
  (cond (decide (t1 = 0))
  none
  ((some (.inl ((Int.tmod (IntKind.wrap .i64 (t0 * t0)) t1), t1, t5, (IntKind.wrap .i64 (Int.tdiv t6 (2 : Int))), ())))))
noncomputable def prime_symbol.j7 (t0 : Int) (t1 : Int) (t5 : Int) (t6 : Int) : Option ((Int × Int × Int × Int × Unit) ⊕ ((Int × Unit))) :=
  (cond (((Int.tmod t6 (2 : Int)) == (1 : Int)))
  ((cond (decide (t1 = 0))
  none
  ((prime_symbol.j8 t0 t1 (Int.tmod (IntKind.wrap .i64 (t5 * t0)) t1) t6))))
  ((prime_symbol.j8 t0 t1 t5 t6)))
noncomputable def prime_symbol.s0 (t0 : Int) (t1 : Int) (t5 : Int) (t6 : Int) : Option ((Int × Int × Int × Int × Unit) ⊕ ((Int × Unit))) :=
  (cond ((decide (t6 > (0 : Int))))
  ((prime_symbol.j7 t0 t1 t5 t6))
  ((some (.inr (t5, ())))))
noncomputable def prime_symbol.j9  : Option (Int) :=
  (some (-1 : Int))
noncomputable def prime_symbol.k0 (t5 : Int) : Option (Int) :=
  (cond ((t5 == (1 : Int)))
  ((some (1 : Int)))
  ((prime_symbol.j9)))
noncomputable def prime_symbol.j6 (t0 : Int) (t1 : Int) : Option (Int) :=
  ((iterL (fun x : Int × Int × Int × Int × Unit => prime_symbol.s0 x.1 x.2.1 x.2.2.1 x.2.2.2.1) (t0, t1, (1 : Int), (IntKind.wrap .i64 (Int.tdiv (IntKind.wrap .i64 (t1 - (1 : Int))) (2 : Int))), ())).bind fun y => prime_symbol.k0 y.1)
noncomputable def prime_symbol.j5 (t0 : Int) (t1 : Int) : Option (Int) :=
  ((prime_residue t0 t1).bind fun y2 =>
  (cond ((y2 == (0 : Int)))
  ((some (0 : Int)))
  ((prime_symbol.j6 y2 t1))))
noncomputable def prime_symbol (t0 : Int) (t1 : Int) : Option (Int) :=
  (cond ((t1 == (2 : Int)))
  (((prime_residue t0 (8 : Int)).bind fun y1 =>
  (cond ((y1 == (1 : Int)))
  ((prime_symbol.j1 y1 (y1 == (1 : Int))))
  ((prime_symbol.j1 y1 (y1 == (7 : Int)))))))
  ((prime_symbol.j5 t0 t1)))
noncomputable def prime_symbol.en : En := ⟨59, [.int .i64, .int .i64], .int .i64, false, fun x => prime_symbol x.1 x.2.1⟩
noncomputable def prime_symbol.o : List En := [prime_residue.en]
noncomputable def prime_symbol.oB : List EnB := []
def prime_symbol.h : HT := .two (.n) (.two (.n) (.two (.n) (.two (.n) (.two (.n) (.two (.two (.n) (.lp 0)) (.n))))))
noncomputable def prime_symbol.c : Code := Tryd.f59.body.getD .skip
def prime_symbol.h0 : HT := .n
noncomputable def prime_symbol.c0 : Code := (find (loops prime_symbol.c prime_symbol.h) 0).getD .skip
def prime_symbol.d0 : Fm := [.v 0 (.int .i64), .v 1 (.int .i64), .v 5 (.int .i64), .v 6 (.int .i64)]
def prime_symbol.x0 : Xs := [(.exit 1, [.v 5 (.int .i64)])]
noncomputable def prime_symbol.r0 (x : (Fm.ty prime_symbol.d0).den) : Option ((Fm.ty prime_symbol.d0).den ⊕ (Xs.T prime_symbol.x0)) := prime_symbol.s0 x.1 x.2.1 x.2.2.1 x.2.2.2.1
noncomputable def prime_symbol.L : Lam := fun _ i s K => cond (Nat.beq i 0) (lamK prime_symbol.d0 prime_symbol.x0 prime_symbol.r0 s K) (none)
theorem prime_symbol.hf0 (x) : roundK env (orc prime_symbol.o) (orcB prime_symbol.oB) 44 prime_symbol.L prime_symbol.c0 prime_symbol.h0 prime_symbol.d0 prime_symbol.x0 x = prime_symbol.r0 x := by kernel_rfl
theorem prime_symbol.os : AllOk prog prime_symbol.o := ⟨prime_residue.ok, trivial⟩
theorem prime_symbol.osB : AllBOk prog prime_symbol.oB := trivial
theorem prime_symbol.l0 {C : Ctx} (hC : C.n = 44) : LamAt prog C prime_symbol.L 0 prime_symbol.c0 := by
  intro R s K r hk
  refine loop_ok (D := prime_symbol.d0) (X := prime_symbol.x0) (h := prime_symbol.h0) (f := prime_symbol.r0) tabs (orc_ok _ prime_symbol.os) (orcB_ok _ prime_symbol.osB) (fun x => by rw [hC]; exact prime_symbol.hf0 x) (Λ := prime_symbol.L) ?_ (by kernel_rfl) (by kernel_rfl) (K := K) (s := s) (by exact hk)
  exact by
    have e : loops prime_symbol.c0 prime_symbol.h0 = [] := by kernel_rfl
    rw [e]
    exact LamOk.nil
theorem prime_symbol.hk (x) : semK env (orc prime_symbol.o) (orcB prime_symbol.oB) 44 (prime_symbol.L _) prime_symbol.c prime_symbol.h (S.init (avs [.int .i64, .int .i64] x)) (fin env Tryd.f59 ⟨[.int .i64, .int .i64], .int .i64, false, false⟩) = prime_symbol.en.g x := by kernel_rfl
theorem prime_symbol.ok : EnOk prog prime_symbol.en := by
  refine fun_ok (g := ⟨[.int .i64, .int .i64], .int .i64, false, false⟩) (h := prime_symbol.h) (Λ := prime_symbol.L) tabs prime_symbol.os prime_symbol.osB Tryd.func59 (c := prime_symbol.c) (by kernel_rfl) (by decide +kernel) (by decide +kernel) (fun C hC => ?_) (fun x => prime_symbol.hk x)
  exact by
    have e : loops prime_symbol.c prime_symbol.h = [(0, prime_symbol.c0)] := by kernel_rfl
    rw [e]
    exact LamOk.cons (prime_symbol.l0 hC) (LamOk.nil)
noncomputable def prime_Kronecker.j2  : Option (Int × Int × Unit) :=
  (some ((0 : Int), ((0 : Int), ())))
noncomputable def prime_Kronecker.j8 (t0 : Int) (t6 : Int) (t37 : List (Int × Int × Unit)) (t38 : Int) (t39 : Int) : Option ((Int × Int × (List (Int × Int × Unit)) × Int × Int × Unit) ⊕ ((Int × Unit) ⊕ (Int × Int × Unit))) :=
  (some (.inl (t0, t6, t37, t38, (IntKind.wrap .i64 (t39 + (1 : Int))), ())))
noncomputable def prime_Kronecker.j7 (t0 : Int) (t6 : Int) (t11 : Int) (t37 : List (Int × Int × Unit)) (t38 : Int) (t39 : Int) (b10_0 : Int) (b10_1 : Int) : Option ((Int × Int × (List (Int × Int × Unit)) × Int × Int × Unit) ⊕ ((Int × Unit) ⊕ (Int × Int × Unit))) :=
  (cond (((Int.tmod b10_1 (2 : Int)) == (1 : Int)))
  ((prime_Kronecker.j8 t0 (IntKind.wrap .i64 (t6 * t11)) t37 t38 t39))
  ((prime_Kronecker.j8 t0 t6 t37 t38 t39)))
noncomputable def prime_Kronecker.j6 (t0 : Int) (t6 : Int) (t37 : List (Int × Int × Unit)) (t38 : Int) (t39 : Int) : Option ((Int × Int × (List (Int × Int × Unit)) × Int × Int × Unit) ⊕ ((Int × Unit) ⊕ (Int × Int × Unit))) :=
  (cond (inB t39 (List.length t37))
  (((prime_symbol t0 (List.getD t37 (t39.toNat) ((0 : Int), ((0 : Int), ()))).1).bind fun y5 =>
  (cond ((y5 == (0 : Int)))
  ((some (.inr (.inr ((0 : Int), (0 : Int), ())))))
  ((prime_Kronecker.j7 t0 t6 y5 t37 t38 t39 (List.getD t37 (t39.toNat) ((0 : Int), ((0 : Int), ()))).1 (List.getD t37 (t39.toNat) ((0 : Int), ((0 : Int), ()))).2.1)))))
  none)
noncomputable def prime_Kronecker.s0 (t0 : Int) (t6 : Int) (t37 : List (Int × Int × Unit)) (t38 : Int) (t39 : Int) : Option ((Int × Int × (List (Int × Int × Unit)) × Int × Int × Unit) ⊕ ((Int × Unit) ⊕ (Int × Int × Unit))) :=
  (cond ((decide (t39 < t38)))
  ((prime_Kronecker.j6 t0 t6 t37 t38 t39))
  ((some (.inr (.inl (t6, ()))))))
noncomputable def prime_Kronecker.k0_0 (t6 : Int) : Option (Int × Int × Unit) :=
  (some (t6, ((0 : Int), ())))
noncomputable def prime_Kronecker.k0_1 (t4 : Int) (t5 : Int) : Option (Int × Int × Unit) :=
  (some (t4, (t5, ())))
noncomputable def prime_Kronecker.j5 (t0 : Int) (t1 : Int) : Option (Int × Int × Unit) :=
  ((prime_Factor t1).bind fun y3 =>
  ((iterL (fun x : Int × Int × (List (Int × Int × Unit)) × Int × Int × Unit => prime_Kronecker.s0 x.1 x.2.1 x.2.2.1 x.2.2.2.1 x.2.2.2.2.1) (t0, (-1 : Int), y3.1, ((List.length y3.1 : Nat) : Int), (0 : Int), ())).bind fun z => Sum.casesOn z (fun y => prime_Kronecker.k0_0 y.1) (fun z => prime_Kronecker.k0_1 z.1 z.2.1)))
noncomputable def prime_Kronecker.j4 (t0 : Int) (t1 : Int) : Option (Int × Int × Unit) :=
  (prime_Kronecker.j5 t0 t1)
noncomputable def prime_Kronecker.j10 (t0 : Int) (t1 : Int) : Option (Int × Int × Unit) :=
  ((prime_Factor t1).bind fun y7 =>
  ((iterL (fun x : Int × Int × (List (Int × Int × Unit)) × Int × Int × Unit => prime_Kronecker.s0 x.1 x.2.1 x.2.2.1 x.2.2.2.1 x.2.2.2.2.1) (t0, (1 : Int), y7.1, ((List.length y7.1 : Nat) : Int), (0 : Int), ())).bind fun z => Sum.casesOn z (fun y => prime_Kronecker.k0_0 y.1) (fun z => prime_Kronecker.k0_1 z.1 z.2.1)))
noncomputable def prime_Kronecker.j9 (t0 : Int) (t1 : Int) : Option (Int × Int × Unit) :=
  (prime_Kronecker.j10 t0 t1)
noncomputable def prime_Kronecker.j3 (t0 : Int) (t1 : Int) : Option (Int × Int × Unit) :=
  (cond ((decide (t1 < (0 : Int))))
  ((cond ((decide (t0 < (0 : Int))))
  ((prime_Kronecker.j4 t0 (IntKind.wrap .i64 (0 - t1))))
  ((prime_Kronecker.j9 t0 (IntKind.wrap .i64 (0 - t1))))))
  ((prime_Kronecker.j10 t0 t1)))
noncomputable def prime_Kronecker.j1 (t0 : Int) (t1 : Int) : Option (Int × Int × Unit) :=
  (cond ((t1 == (0 : Int)))
  ((cond ((t0 == (1 : Int)))
  ((some ((1 : Int), ((0 : Int), ()))))
  ((cond ((t0 == (-1 : Int)))
  ((some ((1 : Int), ((0 : Int), ()))))
  ((prime_Kronecker.j2))))))
  ((prime_Kronecker.j3 t0 t1)))
noncomputable def prime_Kronecker (t0 : Int) (t1 : Int) : Option (Int × Int × Unit) :=
  ((prime_beyond t0).bind fun y1 =>
  (cond (y1)
  ((some ((0 : Int), ((1 : Int), ()))))
  (((prime_beyond t1).bind fun y2 =>
  (cond (y2)
  ((some ((0 : Int), ((1 : Int), ()))))
  ((prime_Kronecker.j1 t0 t1)))))))
noncomputable def prime_Kronecker.en : En := ⟨32, [.int .i64, .int .i64], .pair (.int .i64) (.pair (.int .i64) (.unit)), true, fun x => prime_Kronecker x.1 x.2.1⟩
noncomputable def prime_Kronecker.o : List En := [prime_beyond.en, prime_Factor.en, prime_symbol.en]
noncomputable def prime_Kronecker.oB : List EnB := []
def prime_Kronecker.h : HT := .two (.n) (.two (.n) (.two (.n) (.two (.n) (.two (.n) (.two (.n) (.two (.two (.n) (.lp 0)) (.n)))))))
noncomputable def prime_Kronecker.c : Code := Tryd.f32.body.getD .skip
def prime_Kronecker.h0 : HT := .n
noncomputable def prime_Kronecker.c0 : Code := (find (loops prime_Kronecker.c prime_Kronecker.h) 0).getD .skip
def prime_Kronecker.d0 : Fm := [.v 0 (.int .i64), .v 6 (.int .i64), .v 37 (.sl (.pair (.int .i64) (.pair (.int .i64) (.unit)))), .v 38 (.int .i64), .v 39 (.int .i64)]
def prime_Kronecker.x0 : Xs := [(.exit 0, [.v 6 (.int .i64)]), (.ret, [.v 4 (.int .i64), .v 5 (.int .i64)])]
noncomputable def prime_Kronecker.r0 (x : (Fm.ty prime_Kronecker.d0).den) : Option ((Fm.ty prime_Kronecker.d0).den ⊕ (Xs.T prime_Kronecker.x0)) := prime_Kronecker.s0 x.1 x.2.1 x.2.2.1 x.2.2.2.1 x.2.2.2.2.1
noncomputable def prime_Kronecker.L : Lam := fun _ i s K => cond (Nat.beq i 0) (lamK prime_Kronecker.d0 prime_Kronecker.x0 prime_Kronecker.r0 s K) (none)
theorem prime_Kronecker.hf0 (x) : roundK env (orc prime_Kronecker.o) (orcB prime_Kronecker.oB) 58 prime_Kronecker.L prime_Kronecker.c0 prime_Kronecker.h0 prime_Kronecker.d0 prime_Kronecker.x0 x = prime_Kronecker.r0 x := by kernel_rfl
theorem prime_Kronecker.os : AllOk prog prime_Kronecker.o := ⟨prime_beyond.ok, prime_Factor.ok, prime_symbol.ok, trivial⟩
theorem prime_Kronecker.osB : AllBOk prog prime_Kronecker.oB := trivial
theorem prime_Kronecker.l0 {C : Ctx} (hC : C.n = 58) : LamAt prog C prime_Kronecker.L 0 prime_Kronecker.c0 := by
  intro R s K r hk
  refine loop_ok (D := prime_Kronecker.d0) (X := prime_Kronecker.x0) (h := prime_Kronecker.h0) (f := prime_Kronecker.r0) tabs (orc_ok _ prime_Kronecker.os) (orcB_ok _ prime_Kronecker.osB) (fun x => by rw [hC]; exact prime_Kronecker.hf0 x) (Λ := prime_Kronecker.L) ?_ (by kernel_rfl) (by kernel_rfl) (K := K) (s := s) (by exact hk)
  exact by
    have e : loops prime_Kronecker.c0 prime_Kronecker.h0 = [] := by kernel_rfl
    rw [e]
    exact LamOk.nil
theorem prime_Kronecker.hk (x) : semK env (orc prime_Kronecker.o) (orcB prime_Kronecker.oB) 58 (prime_Kronecker.L _) prime_Kronecker.c prime_Kronecker.h (S.init (avs [.int .i64, .int .i64] x)) (fin env Tryd.f32 ⟨[.int .i64, .int .i64], .pair (.int .i64) (.pair (.int .i64) (.unit)), true, false⟩) = prime_Kronecker.en.g x := by kernel_rfl
theorem prime_Kronecker.ok : EnOk prog prime_Kronecker.en := by
  refine fun_ok (g := ⟨[.int .i64, .int .i64], .pair (.int .i64) (.pair (.int .i64) (.unit)), true, false⟩) (h := prime_Kronecker.h) (Λ := prime_Kronecker.L) tabs prime_Kronecker.os prime_Kronecker.osB Tryd.func32 (c := prime_Kronecker.c) (by kernel_rfl) (by decide +kernel) (by decide +kernel) (fun C hC => ?_) (fun x => prime_Kronecker.hk x)
  exact by
    have e : loops prime_Kronecker.c prime_Kronecker.h = [(0, prime_Kronecker.c0)] := by kernel_rfl
    rw [e]
    exact LamOk.cons (prime_Kronecker.l0 hC) (LamOk.nil)
noncomputable def localmass_Standard.j4 (t2 : Int) (t8 : Int) (t9 : Int) (b6_1 : List Int) (b6_3 : List Int) : Option (((Bool × List Int × Unit) × (Bool × List Int × Unit) × Unit) × Int × Unit) :=
  ((localmass_half t2 t8 t9).bind fun y5 =>
  (some (((y5.1.1, (y5.1.2.1, ())), ((y5.2.1.1, (y5.2.1.2.1, ())), ())), ((0 : Int), ()))))
noncomputable def localmass_Standard.j3 (t1 : Int) (t2 : Int) (t8 : Int) (b6_1 : List Int) (b6_3 : List Int) : Option (((Bool × List Int × Unit) × (Bool × List Int × Unit) × Unit) × Int × Unit) :=
  ((prime_Discriminant t1).bind fun y3 =>
  ((prime_Kronecker y3.1 t2).bind fun y4 =>
  (localmass_Standard.j4 t2 t8 y4.1 b6_1 b6_3)))
noncomputable def localmass_Standard.j5 (t2 : Int) (t8 : Int) (b6_1 : List Int) (b6_3 : List Int) : Option (((Bool × List Int × Unit) × (Bool × List Int × Unit) × Unit) × Int × Unit) :=
  ((localmass_half t2 t8 (0 : Int)).bind fun y6 =>
  (some (((y6.1.1, (y6.1.2.1, ())), ((y6.2.1.1, (y6.2.1.2.1, ())), ())), ((0 : Int), ()))))
noncomputable def localmass_Standard.j2 (t0 : Int) (t1 : Int) (t2 : Int) (b6_1 : List Int) (b6_3 : List Int) : Option (((Bool × List Int × Unit) × (Bool × List Int × Unit) × Unit) × Int × Unit) :=
  let x2 := (IntKind.wrap .i64 (Int.tdiv (IntKind.wrap .i64 (t0 + (1 : Int))) (2 : Int)))
  (cond (((Int.tmod t0 (2 : Int)) == (0 : Int)))
  ((cond (((Int.tmod x2 (2 : Int)) == (1 : Int)))
  ((localmass_Standard.j3 (IntKind.wrap .i64 (0 - t1)) t2 x2 b6_1 b6_3))
  ((localmass_Standard.j3 t1 t2 x2 b6_1 b6_3))))
  ((localmass_Standard.j5 t2 x2 b6_1 b6_3)))
noncomputable def localmass_Standard.j1 (t0 : Int) (t1 : Int) (t2 : Int) (b6_1 : List Int) (b6_3 : List Int) : Option (((Bool × List Int × Unit) × (Bool × List Int × Unit) × Unit) × Int × Unit) :=
  ((localmass_known t2).bind fun y1 =>
  (cond ((!y1))
  ((some (((false, (([] : List Int), ())), ((false, (([] : List Int), ())), ())), ((20 : Int), ()))))
  ((localmass_Standard.j2 t0 t1 t2 b6_1 b6_3))))
noncomputable def localmass_Standard (t0 : Int) (t1 : Int) (t2 : Int) : Option (((Bool × List Int × Unit) × (Bool × List Int × Unit) × Unit) × Int × Unit) :=
  (cond ((decide (t0 < (2 : Int))))
  ((some (((false, (([] : List Int), ())), ((false, (([] : List Int), ())), ())), ((1 : Int), ()))))
  ((cond ((decide (t0 > (8 : Int))))
  ((some (((false, (([] : List Int), ())), ((false, (([] : List Int), ())), ())), ((1 : Int), ()))))
  ((cond ((decide (t1 < (1 : Int))))
  ((some (((false, (([] : List Int), ())), ((false, (([] : List Int), ())), ())), ((1 : Int), ()))))
  ((cond ((decide (t1 > (10000 : Int))))
  ((some (((false, (([] : List Int), ())), ((false, (([] : List Int), ())), ())), ((1 : Int), ()))))
  ((localmass_Standard.j1 t0 t1 t2 ([] : List Int) ([] : List Int))))))))))
noncomputable def localmass_Standard.en : En := ⟨15, [.int .i64, .int .i64, .int .i64], .pair (.pair (.pair (.bool) (.pair (.sl (.int .u32)) (.unit))) (.pair (.pair (.bool) (.pair (.sl (.int .u32)) (.unit))) (.unit))) (.pair (.int .i64) (.unit)), true, fun x => localmass_Standard x.1 x.2.1 x.2.2.1⟩
noncomputable def localmass_Standard.o : List En := [localmass_known.en, localmass_half.en, prime_Discriminant.en, prime_Kronecker.en]
noncomputable def localmass_Standard.oB : List EnB := []
def localmass_Standard.h : HT := .n
noncomputable def localmass_Standard.c : Code := Tryd.f15.body.getD .skip
noncomputable def localmass_Standard.L : Lam := fun _ i s K => none
theorem localmass_Standard.os : AllOk prog localmass_Standard.o := ⟨localmass_known.ok, localmass_half.ok, prime_Discriminant.ok, prime_Kronecker.ok, trivial⟩
theorem localmass_Standard.osB : AllBOk prog localmass_Standard.oB := trivial
theorem localmass_Standard.hk (x) : semK env (orc localmass_Standard.o) (orcB localmass_Standard.oB) 57 (localmass_Standard.L _) localmass_Standard.c localmass_Standard.h (S.init (avs [.int .i64, .int .i64, .int .i64] x)) (fin env Tryd.f15 ⟨[.int .i64, .int .i64, .int .i64], .pair (.pair (.pair (.bool) (.pair (.sl (.int .u32)) (.unit))) (.pair (.pair (.bool) (.pair (.sl (.int .u32)) (.unit))) (.unit))) (.pair (.int .i64) (.unit)), true, false⟩) = localmass_Standard.en.g x := by kernel_rfl
theorem localmass_Standard.ok : EnOk prog localmass_Standard.en := by
  refine fun_ok (g := ⟨[.int .i64, .int .i64, .int .i64], .pair (.pair (.pair (.bool) (.pair (.sl (.int .u32)) (.unit))) (.pair (.pair (.bool) (.pair (.sl (.int .u32)) (.unit))) (.unit))) (.pair (.int .i64) (.unit)), true, false⟩) (h := localmass_Standard.h) (Λ := localmass_Standard.L) tabs localmass_Standard.os localmass_Standard.osB Tryd.func15 (c := localmass_Standard.c) (by kernel_rfl) (by decide +kernel) (by decide +kernel) (fun C hC => ?_) (fun x => localmass_Standard.hk x)
  exact by
    have e : loops localmass_Standard.c localmass_Standard.h = [] := by kernel_rfl
    rw [e]
    exact LamOk.nil
noncomputable def rational_IsWhole (t0 : (Bool × List Int × Unit) × (Bool × List Int × Unit) × Unit) : Option (Bool) :=
  ((rational_of ((t0.1.1, (t0.1.2.1, ())), ((t0.2.1.1, (t0.2.1.2.1, ())), ()))).bind fun y1 =>
  ((integer_DivMod (y1.1.1, (y1.1.2.1, ())) (y1.2.1.1, (y1.2.1.2.1, ()))).bind fun y2 =>
  ((integer_Sign (y2.2.1.1, (y2.2.1.2.1, ()))).bind fun y3 =>
  (some (y3 == (0 : Int))))))
noncomputable def rational_IsWhole.en : En := ⟨34, [.pair (.pair (.bool) (.pair (.sl (.int .u32)) (.unit))) (.pair (.pair (.bool) (.pair (.sl (.int .u32)) (.unit))) (.unit))], .bool, false, fun x => rational_IsWhole x.1⟩
noncomputable def rational_IsWhole.o : List En := [rational_of.en, integer_Sign.en, integer_DivMod.en]
noncomputable def rational_IsWhole.oB : List EnB := []
def rational_IsWhole.h : HT := .n
noncomputable def rational_IsWhole.c : Code := Tryd.f34.body.getD .skip
noncomputable def rational_IsWhole.L : Lam := fun _ i s K => none
theorem rational_IsWhole.os : AllOk prog rational_IsWhole.o := ⟨rational_of.ok, integer_Sign.ok, integer_DivMod.ok, trivial⟩
theorem rational_IsWhole.osB : AllBOk prog rational_IsWhole.oB := trivial
theorem rational_IsWhole.hk (x) : semK env (orc rational_IsWhole.o) (orcB rational_IsWhole.oB) 21 (rational_IsWhole.L _) rational_IsWhole.c rational_IsWhole.h (S.init (avs [.pair (.pair (.bool) (.pair (.sl (.int .u32)) (.unit))) (.pair (.pair (.bool) (.pair (.sl (.int .u32)) (.unit))) (.unit))] x)) (fin env Tryd.f34 ⟨[.pair (.pair (.bool) (.pair (.sl (.int .u32)) (.unit))) (.pair (.pair (.bool) (.pair (.sl (.int .u32)) (.unit))) (.unit))], .bool, false, false⟩) = rational_IsWhole.en.g x := by kernel_rfl
theorem rational_IsWhole.ok : EnOk prog rational_IsWhole.en := by
  refine fun_ok (g := ⟨[.pair (.pair (.bool) (.pair (.sl (.int .u32)) (.unit))) (.pair (.pair (.bool) (.pair (.sl (.int .u32)) (.unit))) (.unit))], .bool, false, false⟩) (h := rational_IsWhole.h) (Λ := rational_IsWhole.L) tabs rational_IsWhole.os rational_IsWhole.osB Tryd.func34 (c := rational_IsWhole.c) (by kernel_rfl) (by decide +kernel) (by decide +kernel) (fun C hC => ?_) (fun x => rational_IsWhole.hk x)
  exact by
    have e : loops rational_IsWhole.c rational_IsWhole.h = [] := by kernel_rfl
    rw [e]
    exact LamOk.nil
noncomputable def integer_Format.j3 (t3 : List Int) (t6 : Int) (t7 : Int) (b1_0 : Bool) (b1_1 : List Int) (a44 : List (Int)) : Option ((List Int × Int × Int × List Int × (Bool × List Int × Unit) × Unit) ⊕ ((List Int × List Int × (Bool × List Int × Unit) × Unit))) :=
  let x9 := (IntKind.wrap .u32 ((48 : Int) + (Int.tmod t6 (10 : Int))))
  (cond (decide (List.length a44 + List.length ([(IntKind.wrap .u8 x9)] : List (Int)) ≤ maxL))
  ((some (.inl (t3, (IntKind.wrap .u32 (Int.tdiv t6 (10 : Int))), (IntKind.wrap .i64 (t7 + (1 : Int))), (a44 ++ ([(IntKind.wrap .u8 x9)] : List (Int))), (b1_0, (b1_1, ())), ()))))
  none)
noncomputable def integer_Format.s0 (t3 : List Int) (t6 : Int) (t7 : Int) (a44 : List (Int)) (b1 : Bool × List Int × Unit) : Option ((List Int × Int × Int × List Int × (Bool × List Int × Unit) × Unit) ⊕ ((List Int × List Int × (Bool × List Int × Unit) × Unit))) :=
  (cond ((decide (t7 < (9 : Int))))
  ((cond ((decide (((List.length t3 : Nat) : Int) > (0 : Int))))
  (let x6 := (IntKind.wrap .u32 ((48 : Int) + (Int.tmod t6 (10 : Int))))
  (cond (decide (List.length a44 + List.length ([(IntKind.wrap .u8 x6)] : List (Int)) ≤ maxL))
  ((some (.inl (t3, (IntKind.wrap .u32 (Int.tdiv t6 (10 : Int))), (IntKind.wrap .i64 (t7 + (1 : Int))), (a44 ++ ([(IntKind.wrap .u8 x6)] : List (Int))), (b1.1, (b1.2.1, ())), ()))))
  none))
  ((cond ((decide (t6 > (0 : Int))))
  ((integer_Format.j3 t3 t6 t7 b1.1 b1.2.1 a44))
  ((some (.inr (t3, a44, (b1.1, (b1.2.1, ())), ()))))))))
  ((some (.inr (t3, a44, (b1.1, (b1.2.1, ())), ())))))
noncomputable def integer_Format.k0 (t3 : List Int) (a44 : List (Int)) (b1 : Bool × List Int × Unit) : Option ((List Int × List Int × (Bool × List Int × Unit) × Unit) ⊕ ((List Int × (Bool × List Int × Unit) × Unit))) :=
  (some (.inl (t3, a44, (b1.1, (b1.2.1, ())), ())))
noncomputable def integer_Format.j2 (t3 : List Int) (b1_0 : Bool) (b1_1 : List Int) (a44 : List (Int)) : Option ((List Int × List Int × (Bool × List Int × Unit) × Unit) ⊕ ((List Int × (Bool × List Int × Unit) × Unit))) :=
  ((integer_shortDivide t3 (1000000000 : Int)).bind fun y4 =>
  ((iterL (fun x : List Int × Int × Int × List Int × (Bool × List Int × Unit) × Unit => integer_Format.s0 x.1 x.2.1 x.2.2.1 x.2.2.2.1 x.2.2.2.2.1) (y4.1, y4.2.1, (0 : Int), a44, (b1_0, (b1_1, ())), ())).bind fun y => integer_Format.k0 y.1 y.2.1 y.2.2.1))
noncomputable def integer_Format.s1 (t3 : List Int) (a44 : List (Int)) (b1 : Bool × List Int × Unit) : Option ((List Int × List Int × (Bool × List Int × Unit) × Unit) ⊕ ((List Int × (Bool × List Int × Unit) × Unit))) :=
  (cond ((decide (((List.length t3 : Nat) : Int) > (0 : Int))))
  ((integer_Format.j2 t3 b1.1 b1.2.1 a44))
  ((some (.inr (a44, (b1.1, (b1.2.1, ())), ())))))
noncomputable def integer_Format.j5 (t56 : Int) (t57 : Int) (a44 : List (Int)) (a54 : List (Int)) : Option ((Int × Int × List Int × List Int × Unit) ⊕ ((List Int × Unit))) :=
  let x12 := (IntKind.wrap .i64 (((List.length a44 : Nat) : Int) - (1 : Int)))
  (cond (inB (IntKind.wrap .i64 (x12 - t57)) (List.length a44))
  ((cond (inB t57 (List.length a54))
  ((some (.inl (t56, (IntKind.wrap .i64 (t57 + (1 : Int))), a44, (List.set a54 ((0 + t57.toNat)) (List.getD a44 ((0 + (((IntKind.wrap .i64 (x12 - t57))).toNat))) (0 : Int))), ()))))
  none))
  none)
noncomputable def integer_Format.s2 (t56 : Int) (t57 : Int) (a44 : List (Int)) (a54 : List (Int)) : Option ((Int × Int × List Int × List Int × Unit) ⊕ ((List Int × Unit))) :=
  (cond ((decide (t57 < t56)))
  ((integer_Format.j5 t56 t57 a44 a54))
  ((some (.inr (a54, ())))))
noncomputable def integer_Format.k2 (a54 : List (Int)) : Option (ByteArray) :=
  (some (bytesOf a54))
noncomputable def integer_Format.j4 (a44 : List (Int)) : Option (ByteArray) :=
  (cond (inC ((List.length a44 : Nat) : Int) maxL)
  (((iterL (fun x : Int × Int × List Int × List Int × Unit => integer_Format.s2 x.1 x.2.1 x.2.2.1 x.2.2.2.1) (((List.length a44 : Nat) : Int), (0 : Int), a44, (List.replicate ((((List.length a44 : Nat) : Int)).toNat) ((0 : Int) : Int)), ())).bind fun y => integer_Format.k2 y.1))
  none)
noncomputable def integer_Format.k1 (a44 : List (Int)) (b1 : Bool × List Int × Unit) : Option (ByteArray) :=
  (cond (b1.1)
  ((cond (decide (List.length a44 + List.length ([(45 : Int)] : List (Int)) ≤ maxL))
  ((integer_Format.j4 (a44 ++ ([(45 : Int)] : List (Int)))))
  none))
  ((integer_Format.j4 a44)))
noncomputable def integer_Format.j1 (t3 : List Int) (b1_0 : Bool) (b1_1 : List Int) : Option (ByteArray) :=
  ((iterL (fun x : List Int × List Int × (Bool × List Int × Unit) × Unit => integer_Format.s1 x.1 x.2.1 x.2.2.1) (t3, ([] : List (Int)), (b1_0, (b1_1, ())), ())).bind fun y => integer_Format.k1 y.1 y.2.1)
noncomputable def integer_Format (t0 : Bool × List Int × Unit) : Option (ByteArray) :=
  ((integer_Normalize (t0.1, (t0.2.1, ()))).bind fun y1 =>
  (cond ((((List.length y1.2.1 : Nat) : Int) == (0 : Int)))
  ((some (⟨#[48]⟩ : ByteArray)))
  ((integer_Format.j1 y1.2.1 t0.1 t0.2.1))))
noncomputable def integer_Format.en : En := ⟨35, [.pair (.bool) (.pair (.sl (.int .u32)) (.unit))], .str, false, fun x => integer_Format x.1⟩
noncomputable def integer_Format.o : List En := [integer_Normalize.en, integer_shortDivide.en]
noncomputable def integer_Format.oB : List EnB := []
def integer_Format.h : HT := .two (.n) (.two (.n) (.two (.n) (.two (.n) (.two (.lp 1) (.two (.n) (.two (.n) (.two (.two (.n) (.lp 2)) (.two (.fr [54] []) (.n)))))))))
noncomputable def integer_Format.c : Code := Tryd.f35.body.getD .skip
def integer_Format.h1 : HT := .two (.n) (.two (.n) (.two (.n) (.two (.n) (.lp 0))))
noncomputable def integer_Format.c1 : Code := (find (loops integer_Format.c integer_Format.h) 1).getD .skip
def integer_Format.d1 : Fm := [.v 3 (.sl (.int .u32)), .arr 44 5 (.int .u8), .box 1 (.pair (.bool) (.pair (.sl (.int .u32)) (.unit))), .own 4 44, .ptr 1 1]
def integer_Format.x1 : Xs := [(.exit 0, [.arr 44 5 (.int .u8), .box 1 (.pair (.bool) (.pair (.sl (.int .u32)) (.unit))), .own 4 44, .ptr 1 1])]
noncomputable def integer_Format.r1 (x : (Fm.ty integer_Format.d1).den) : Option ((Fm.ty integer_Format.d1).den ⊕ (Xs.T integer_Format.x1)) := integer_Format.s1 x.1 x.2.1 x.2.2.1
def integer_Format.h2 : HT := .n
noncomputable def integer_Format.c2 : Code := (find (loops integer_Format.c integer_Format.h) 2).getD .skip
def integer_Format.d2 : Fm := [.v 56 (.int .i64), .v 57 (.int .i64), .arr 44 5 (.int .u8), .arr 54 5 (.int .u8), .own 4 44, .own 8 54]
def integer_Format.x2 : Xs := [(.exit 4, [.arr 54 5 (.int .u8), .own 8 54])]
noncomputable def integer_Format.r2 (x : (Fm.ty integer_Format.d2).den) : Option ((Fm.ty integer_Format.d2).den ⊕ (Xs.T integer_Format.x2)) := integer_Format.s2 x.1 x.2.1 x.2.2.1 x.2.2.2.1
def integer_Format.h0 : HT := .n
noncomputable def integer_Format.c0 : Code := (find (loops integer_Format.c1 integer_Format.h1) 0).getD .skip
def integer_Format.d0 : Fm := [.v 3 (.sl (.int .u32)), .v 6 (.int .u32), .v 7 (.int .i64), .arr 44 5 (.int .u8), .box 1 (.pair (.bool) (.pair (.sl (.int .u32)) (.unit))), .own 4 44, .ptr 1 1]
def integer_Format.x0 : Xs := [(.exit 2, [.v 3 (.sl (.int .u32)), .arr 44 5 (.int .u8), .box 1 (.pair (.bool) (.pair (.sl (.int .u32)) (.unit))), .own 4 44, .ptr 1 1])]
noncomputable def integer_Format.r0 (x : (Fm.ty integer_Format.d0).den) : Option ((Fm.ty integer_Format.d0).den ⊕ (Xs.T integer_Format.x0)) := integer_Format.s0 x.1 x.2.1 x.2.2.1 x.2.2.2.1 x.2.2.2.2.1
noncomputable def integer_Format.L : Lam := fun _ i s K => cond (Nat.beq i 0) (lamK integer_Format.d0 integer_Format.x0 integer_Format.r0 s K) (cond (Nat.beq i 1) (lamK integer_Format.d1 integer_Format.x1 integer_Format.r1 s K) (cond (Nat.beq i 2) (lamK integer_Format.d2 integer_Format.x2 integer_Format.r2 s K) (none)))
theorem integer_Format.hf0 (x) : roundK env (orc integer_Format.o) (orcB integer_Format.oB) 74 integer_Format.L integer_Format.c0 integer_Format.h0 integer_Format.d0 integer_Format.x0 x = integer_Format.r0 x := by kernel_rfl
theorem integer_Format.hf1 (x) : roundK env (orc integer_Format.o) (orcB integer_Format.oB) 74 integer_Format.L integer_Format.c1 integer_Format.h1 integer_Format.d1 integer_Format.x1 x = integer_Format.r1 x := by kernel_rfl
theorem integer_Format.hf2 (x) : roundK env (orc integer_Format.o) (orcB integer_Format.oB) 74 integer_Format.L integer_Format.c2 integer_Format.h2 integer_Format.d2 integer_Format.x2 x = integer_Format.r2 x := by kernel_rfl
theorem integer_Format.os : AllOk prog integer_Format.o := ⟨integer_Normalize.ok, integer_shortDivide.ok, trivial⟩
theorem integer_Format.osB : AllBOk prog integer_Format.oB := trivial
theorem integer_Format.l0 {C : Ctx} (hC : C.n = 74) : LamAt prog C integer_Format.L 0 integer_Format.c0 := by
  intro R s K r hk
  refine loop_ok (D := integer_Format.d0) (X := integer_Format.x0) (h := integer_Format.h0) (f := integer_Format.r0) tabs (orc_ok _ integer_Format.os) (orcB_ok _ integer_Format.osB) (fun x => by rw [hC]; exact integer_Format.hf0 x) (Λ := integer_Format.L) ?_ (by kernel_rfl) (by kernel_rfl) (K := K) (s := s) (by exact hk)
  exact by
    have e : loops integer_Format.c0 integer_Format.h0 = [] := by kernel_rfl
    rw [e]
    exact LamOk.nil
theorem integer_Format.l1 {C : Ctx} (hC : C.n = 74) : LamAt prog C integer_Format.L 1 integer_Format.c1 := by
  intro R s K r hk
  refine loop_ok (D := integer_Format.d1) (X := integer_Format.x1) (h := integer_Format.h1) (f := integer_Format.r1) tabs (orc_ok _ integer_Format.os) (orcB_ok _ integer_Format.osB) (fun x => by rw [hC]; exact integer_Format.hf1 x) (Λ := integer_Format.L) ?_ (by kernel_rfl) (by kernel_rfl) (K := K) (s := s) (by exact hk)
  exact by
    have e : loops integer_Format.c1 integer_Format.h1 = [(0, integer_Format.c0)] := by kernel_rfl
    rw [e]
    exact LamOk.cons (integer_Format.l0 hC) (LamOk.nil)
theorem integer_Format.l2 {C : Ctx} (hC : C.n = 74) : LamAt prog C integer_Format.L 2 integer_Format.c2 := by
  intro R s K r hk
  refine loop_ok (D := integer_Format.d2) (X := integer_Format.x2) (h := integer_Format.h2) (f := integer_Format.r2) tabs (orc_ok _ integer_Format.os) (orcB_ok _ integer_Format.osB) (fun x => by rw [hC]; exact integer_Format.hf2 x) (Λ := integer_Format.L) ?_ (by kernel_rfl) (by kernel_rfl) (K := K) (s := s) (by exact hk)
  exact by
    have e : loops integer_Format.c2 integer_Format.h2 = [] := by kernel_rfl
    rw [e]
    exact LamOk.nil
theorem integer_Format.hk (x) : semK env (orc integer_Format.o) (orcB integer_Format.oB) 74 (integer_Format.L _) integer_Format.c integer_Format.h (S.init (avs [.pair (.bool) (.pair (.sl (.int .u32)) (.unit))] x)) (fin env Tryd.f35 ⟨[.pair (.bool) (.pair (.sl (.int .u32)) (.unit))], .str, false, false⟩) = integer_Format.en.g x := by kernel_rfl
theorem integer_Format.ok : EnOk prog integer_Format.en := by
  refine fun_ok (g := ⟨[.pair (.bool) (.pair (.sl (.int .u32)) (.unit))], .str, false, false⟩) (h := integer_Format.h) (Λ := integer_Format.L) tabs integer_Format.os integer_Format.osB Tryd.func35 (c := integer_Format.c) (by kernel_rfl) (by decide +kernel) (by decide +kernel) (fun C hC => ?_) (fun x => integer_Format.hk x)
  exact by
    have e : loops integer_Format.c integer_Format.h = [(1, integer_Format.c1), (2, integer_Format.c2)] := by kernel_rfl
    rw [e]
    exact LamOk.cons (integer_Format.l1 hC) (LamOk.cons (integer_Format.l2 hC) (LamOk.nil))
noncomputable def rational_Format.j1 (b1_0 : Bool) (b1_1 : List Int) (b1_2 : Bool) (b1_3 : List Int) : Option (ByteArray) :=
  ((integer_Format (b1_0, (b1_1, ()))).bind fun y4 =>
  (cond (decide (ByteArray.size y4 + ByteArray.size (⟨#[47]⟩ : ByteArray) ≤ maxL))
  (((integer_Format (b1_2, (b1_3, ()))).bind fun y5 =>
  (cond (decide (ByteArray.size (y4 ++ (⟨#[47]⟩ : ByteArray)) + ByteArray.size y5 ≤ maxL))
  ((some ((y4 ++ (⟨#[47]⟩ : ByteArray)) ++ y5)))
  none)))
  none))
noncomputable def rational_Format (t0 : (Bool × List Int × Unit) × (Bool × List Int × Unit) × Unit) : Option (ByteArray) :=
  ((rational_Normalize ((t0.1.1, (t0.1.2.1, ())), ((t0.2.1.1, (t0.2.1.2.1, ())), ()))).bind fun y1 =>
  ((rational_IsWhole ((y1.1.1, (y1.1.2.1, ())), ((y1.2.1.1, (y1.2.1.2.1, ())), ()))).bind fun y2 =>
  (cond (y2)
  (((integer_Format (y1.1.1, (y1.1.2.1, ()))).bind fun y3 =>
  (some y3)))
  ((rational_Format.j1 y1.1.1 y1.1.2.1 y1.2.1.1 y1.2.1.2.1)))))
noncomputable def rational_Format.en : En := ⟨16, [.pair (.pair (.bool) (.pair (.sl (.int .u32)) (.unit))) (.pair (.pair (.bool) (.pair (.sl (.int .u32)) (.unit))) (.unit))], .str, false, fun x => rational_Format x.1⟩
noncomputable def rational_Format.o : List En := [rational_Normalize.en, rational_IsWhole.en, integer_Format.en]
noncomputable def rational_Format.oB : List EnB := []
def rational_Format.h : HT := .n
noncomputable def rational_Format.c : Code := Tryd.f16.body.getD .skip
noncomputable def rational_Format.L : Lam := fun _ i s K => none
theorem rational_Format.os : AllOk prog rational_Format.o := ⟨rational_Normalize.ok, rational_IsWhole.ok, integer_Format.ok, trivial⟩
theorem rational_Format.osB : AllBOk prog rational_Format.oB := trivial
theorem rational_Format.hk (x) : semK env (orc rational_Format.o) (orcB rational_Format.oB) 18 (rational_Format.L _) rational_Format.c rational_Format.h (S.init (avs [.pair (.pair (.bool) (.pair (.sl (.int .u32)) (.unit))) (.pair (.pair (.bool) (.pair (.sl (.int .u32)) (.unit))) (.unit))] x)) (fin env Tryd.f16 ⟨[.pair (.pair (.bool) (.pair (.sl (.int .u32)) (.unit))) (.pair (.pair (.bool) (.pair (.sl (.int .u32)) (.unit))) (.unit))], .str, false, false⟩) = rational_Format.en.g x := by kernel_rfl
theorem rational_Format.ok : EnOk prog rational_Format.en := by
  refine fun_ok (g := ⟨[.pair (.pair (.bool) (.pair (.sl (.int .u32)) (.unit))) (.pair (.pair (.bool) (.pair (.sl (.int .u32)) (.unit))) (.unit))], .str, false, false⟩) (h := rational_Format.h) (Λ := rational_Format.L) tabs rational_Format.os rational_Format.osB Tryd.func16 (c := rational_Format.c) (by kernel_rfl) (by decide +kernel) (by decide +kernel) (fun C hC => ?_) (fun x => rational_Format.hk x)
  exact by
    have e : loops rational_Format.c rational_Format.h = [] := by kernel_rfl
    rw [e]
    exact LamOk.nil
noncomputable def quadformlaw32_awake  : Option (Bool) :=
  ((quadformlaw32_symbol (2 : Int) (1 : Int) (2 : Int)).bind fun y1 =>
  ((localmass_Mass y1).bind fun y2 =>
  ((quadformlaw32_symbol (3 : Int) (1 : Int) (3 : Int)).bind fun y3 =>
  ((localmass_Mass y3).bind fun y4 =>
  ((localmass_Standard (3 : Int) (1 : Int) (2 : Int)).bind fun y5 =>
  (cond ((y2.2.1 == (0 : Int)))
  ((cond ((y4.2.1 == (0 : Int)))
  ((cond ((y5.2.1 == (0 : Int)))
  (((rational_Format ((y2.1.1.1.1, (y2.1.1.1.2.1, ())), ((y2.1.1.2.1.1, (y2.1.1.2.1.2.1, ())), ()))).bind fun y6 =>
  (cond (((ByteArray.toList y6) == (ByteArray.toList (⟨#[49, 47, 56]⟩ : ByteArray))))
  (((rational_Format ((y4.1.1.1.1, (y4.1.1.1.2.1, ())), ((y4.1.1.2.1.1, (y4.1.1.2.1.2.1, ())), ()))).bind fun y8 =>
  (cond (((ByteArray.toList y8) == (ByteArray.toList (⟨#[49, 47, 49, 50]⟩ : ByteArray))))
  (((rational_Format ((y5.1.1.1, (y5.1.1.2.1, ())), ((y5.1.2.1.1, (y5.1.2.1.2.1, ())), ()))).bind fun y10 =>
  (cond (((ByteArray.toList y10) == (ByteArray.toList (⟨#[50, 47, 51]⟩ : ByteArray))))
  ((some (!y2.1.2.1)))
  ((some false)))))
  ((some false)))))
  ((some false)))))
  ((some false))))
  ((some false))))
  ((some false))))))))
noncomputable def quadformlaw32_awake.en : En := ⟨5, [], .bool, false, fun x => quadformlaw32_awake⟩
noncomputable def quadformlaw32_awake.o : List En := [localmass_Mass.en, quadformlaw32_symbol.en, localmass_Standard.en, rational_Format.en]
noncomputable def quadformlaw32_awake.oB : List EnB := []
def quadformlaw32_awake.h : HT := .n
noncomputable def quadformlaw32_awake.c : Code := Tryd.f5.body.getD .skip
noncomputable def quadformlaw32_awake.L : Lam := fun _ i s K => none
theorem quadformlaw32_awake.os : AllOk prog quadformlaw32_awake.o := ⟨localmass_Mass.ok, quadformlaw32_symbol.ok, localmass_Standard.ok, rational_Format.ok, trivial⟩
theorem quadformlaw32_awake.osB : AllBOk prog quadformlaw32_awake.oB := trivial
theorem quadformlaw32_awake.hk (x) : semK env (orc quadformlaw32_awake.o) (orcB quadformlaw32_awake.oB) 53 (quadformlaw32_awake.L _) quadformlaw32_awake.c quadformlaw32_awake.h (S.init (avs [] x)) (fin env Tryd.f5 ⟨[], .bool, false, false⟩) = quadformlaw32_awake.en.g x := by kernel_rfl
theorem quadformlaw32_awake.ok : EnOk prog quadformlaw32_awake.en := by
  refine fun_ok (g := ⟨[], .bool, false, false⟩) (h := quadformlaw32_awake.h) (Λ := quadformlaw32_awake.L) tabs quadformlaw32_awake.os quadformlaw32_awake.osB Tryd.func5 (c := quadformlaw32_awake.c) (by kernel_rfl) (by decide +kernel) (by decide +kernel) (fun C hC => ?_) (fun x => quadformlaw32_awake.hk x)
  exact by
    have e : loops quadformlaw32_awake.c quadformlaw32_awake.h = [] := by kernel_rfl
    rw [e]
    exact LamOk.nil
noncomputable def quadformscene_OddPrime (t0 : Int) : Option (Int) :=
  (cond (inB (Int.tmod t0 (8 : Int)) (List.length ([(3 : Int), (5 : Int), (7 : Int), (11 : Int), (13 : Int), (17 : Int), (19 : Int), (23 : Int)] : List (Int))))
  ((some (List.getD ([(3 : Int), (5 : Int), (7 : Int), (11 : Int), (13 : Int), (17 : Int), (19 : Int), (23 : Int)] : List (Int)) (((Int.tmod t0 (8 : Int))).toNat) (0 : Int))))
  none)
noncomputable def quadformscene_OddPrime.en : En := ⟨10, [.int .u8], .int .i64, false, fun x => quadformscene_OddPrime x.1⟩
noncomputable def quadformscene_OddPrime.o : List En := []
noncomputable def quadformscene_OddPrime.oB : List EnB := []
def quadformscene_OddPrime.h : HT := .n
noncomputable def quadformscene_OddPrime.c : Code := Tryd.f10.body.getD .skip
noncomputable def quadformscene_OddPrime.L : Lam := fun _ i s K => none
theorem quadformscene_OddPrime.os : AllOk prog quadformscene_OddPrime.o := trivial
theorem quadformscene_OddPrime.osB : AllBOk prog quadformscene_OddPrime.oB := trivial
theorem quadformscene_OddPrime.hk (x) : semK env (orc quadformscene_OddPrime.o) (orcB quadformscene_OddPrime.oB) 8 (quadformscene_OddPrime.L _) quadformscene_OddPrime.c quadformscene_OddPrime.h (S.init (avs [.int .u8] x)) (fin env Tryd.f10 ⟨[.int .u8], .int .i64, false, false⟩) = quadformscene_OddPrime.en.g x := by kernel_rfl
theorem quadformscene_OddPrime.ok : EnOk prog quadformscene_OddPrime.en := by
  refine fun_ok (g := ⟨[.int .u8], .int .i64, false, false⟩) (h := quadformscene_OddPrime.h) (Λ := quadformscene_OddPrime.L) tabs quadformscene_OddPrime.os quadformscene_OddPrime.osB Tryd.func10 (c := quadformscene_OddPrime.c) (by kernel_rfl) (by decide +kernel) (by decide +kernel) (fun C hC => ?_) (fun x => quadformscene_OddPrime.hk x)
  exact by
    have e : loops quadformscene_OddPrime.c quadformscene_OddPrime.h = [] := by kernel_rfl
    rw [e]
    exact LamOk.nil
noncomputable def integer_Cmp.j1  : Option (Int) :=
  (some (1 : Int))
noncomputable def integer_Cmp.j2 (t5 : Int) (b2_0 : Bool) (b2_1 : List Int) (b3_0 : Bool) (b3_1 : List Int) : Option (Int) :=
  ((integer_magnitude (b2_0, (b2_1, ()))).bind fun y3 =>
  ((integer_magnitude (b3_0, (b3_1, ()))).bind fun y4 =>
  ((integer_compare y3 y4).bind fun y5 =>
  (some (IntKind.wrap .i64 (t5 * y5))))))
noncomputable def integer_Cmp (t0 : Bool × List Int × Unit) (t1 : Bool × List Int × Unit) : Option (Int) :=
  ((integer_Sign (t0.1, (t0.2.1, ()))).bind fun y1 =>
  ((integer_Sign (t1.1, (t1.2.1, ()))).bind fun y2 =>
  (cond ((y1 != y2))
  ((cond ((decide (y1 < y2)))
  ((some (-1 : Int)))
  ((integer_Cmp.j1))))
  ((integer_Cmp.j2 y1 t0.1 t0.2.1 t1.1 t1.2.1)))))
noncomputable def integer_Cmp.en : En := ⟨49, [.pair (.bool) (.pair (.sl (.int .u32)) (.unit)), .pair (.bool) (.pair (.sl (.int .u32)) (.unit))], .int .i64, false, fun x => integer_Cmp x.1 x.2.1⟩
noncomputable def integer_Cmp.o : List En := [integer_Sign.en, integer_compare.en, integer_magnitude.en]
noncomputable def integer_Cmp.oB : List EnB := []
def integer_Cmp.h : HT := .n
noncomputable def integer_Cmp.c : Code := Tryd.f49.body.getD .skip
noncomputable def integer_Cmp.L : Lam := fun _ i s K => none
theorem integer_Cmp.os : AllOk prog integer_Cmp.o := ⟨integer_Sign.ok, integer_compare.ok, integer_magnitude.ok, trivial⟩
theorem integer_Cmp.osB : AllBOk prog integer_Cmp.oB := trivial
theorem integer_Cmp.hk (x) : semK env (orc integer_Cmp.o) (orcB integer_Cmp.oB) 24 (integer_Cmp.L _) integer_Cmp.c integer_Cmp.h (S.init (avs [.pair (.bool) (.pair (.sl (.int .u32)) (.unit)), .pair (.bool) (.pair (.sl (.int .u32)) (.unit))] x)) (fin env Tryd.f49 ⟨[.pair (.bool) (.pair (.sl (.int .u32)) (.unit)), .pair (.bool) (.pair (.sl (.int .u32)) (.unit))], .int .i64, false, false⟩) = integer_Cmp.en.g x := by kernel_rfl
theorem integer_Cmp.ok : EnOk prog integer_Cmp.en := by
  refine fun_ok (g := ⟨[.pair (.bool) (.pair (.sl (.int .u32)) (.unit)), .pair (.bool) (.pair (.sl (.int .u32)) (.unit))], .int .i64, false, false⟩) (h := integer_Cmp.h) (Λ := integer_Cmp.L) tabs integer_Cmp.os integer_Cmp.osB Tryd.func49 (c := integer_Cmp.c) (by kernel_rfl) (by decide +kernel) (by decide +kernel) (fun C hC => ?_) (fun x => integer_Cmp.hk x)
  exact by
    have e : loops integer_Cmp.c integer_Cmp.h = [] := by kernel_rfl
    rw [e]
    exact LamOk.nil
noncomputable def rational_fraction__compare (t0 : (Bool × List Int × Unit) × (Bool × List Int × Unit) × Unit) (t1 : (Bool × List Int × Unit) × (Bool × List Int × Unit) × Unit) : Option (Int) :=
  ((rational_product ([(t0.1.1, (t0.1.2.1, ())), (t1.2.1.1, (t1.2.1.2.1, ()))] : List (Bool × List Int × Unit))).bind fun y1 =>
  ((rational_product ([(t1.1.1, (t1.1.2.1, ())), (t0.2.1.1, (t0.2.1.2.1, ()))] : List (Bool × List Int × Unit))).bind fun y2 =>
  ((integer_Cmp y1 y2).bind fun y3 =>
  (some y3))))
noncomputable def rational_fraction__compare.en : En := ⟨27, [.pair (.pair (.bool) (.pair (.sl (.int .u32)) (.unit))) (.pair (.pair (.bool) (.pair (.sl (.int .u32)) (.unit))) (.unit)), .pair (.pair (.bool) (.pair (.sl (.int .u32)) (.unit))) (.pair (.pair (.bool) (.pair (.sl (.int .u32)) (.unit))) (.unit))], .int .i64, false, fun x => rational_fraction__compare x.1 x.2.1⟩
noncomputable def rational_fraction__compare.o : List En := [rational_product.en, integer_Cmp.en]
noncomputable def rational_fraction__compare.oB : List EnB := []
def rational_fraction__compare.h : HT := .n
noncomputable def rational_fraction__compare.c : Code := Tryd.f27.body.getD .skip
noncomputable def rational_fraction__compare.L : Lam := fun _ i s K => none
theorem rational_fraction__compare.os : AllOk prog rational_fraction__compare.o := ⟨rational_product.ok, integer_Cmp.ok, trivial⟩
theorem rational_fraction__compare.osB : AllBOk prog rational_fraction__compare.oB := trivial
theorem rational_fraction__compare.hk (x) : semK env (orc rational_fraction__compare.o) (orcB rational_fraction__compare.oB) 18 (rational_fraction__compare.L _) rational_fraction__compare.c rational_fraction__compare.h (S.init (avs [.pair (.pair (.bool) (.pair (.sl (.int .u32)) (.unit))) (.pair (.pair (.bool) (.pair (.sl (.int .u32)) (.unit))) (.unit)), .pair (.pair (.bool) (.pair (.sl (.int .u32)) (.unit))) (.pair (.pair (.bool) (.pair (.sl (.int .u32)) (.unit))) (.unit))] x)) (fin env Tryd.f27 ⟨[.pair (.pair (.bool) (.pair (.sl (.int .u32)) (.unit))) (.pair (.pair (.bool) (.pair (.sl (.int .u32)) (.unit))) (.unit)), .pair (.pair (.bool) (.pair (.sl (.int .u32)) (.unit))) (.pair (.pair (.bool) (.pair (.sl (.int .u32)) (.unit))) (.unit))], .int .i64, false, false⟩) = rational_fraction__compare.en.g x := by kernel_rfl
theorem rational_fraction__compare.ok : EnOk prog rational_fraction__compare.en := by
  refine fun_ok (g := ⟨[.pair (.pair (.bool) (.pair (.sl (.int .u32)) (.unit))) (.pair (.pair (.bool) (.pair (.sl (.int .u32)) (.unit))) (.unit)), .pair (.pair (.bool) (.pair (.sl (.int .u32)) (.unit))) (.pair (.pair (.bool) (.pair (.sl (.int .u32)) (.unit))) (.unit))], .int .i64, false, false⟩) (h := rational_fraction__compare.h) (Λ := rational_fraction__compare.L) tabs rational_fraction__compare.os rational_fraction__compare.osB Tryd.func27 (c := rational_fraction__compare.c) (by kernel_rfl) (by decide +kernel) (by decide +kernel) (fun C hC => ?_) (fun x => rational_fraction__compare.hk x)
  exact by
    have e : loops rational_fraction__compare.c rational_fraction__compare.h = [] := by kernel_rfl
    rw [e]
    exact LamOk.nil
noncomputable def rational_Cmp (t0 : (Bool × List Int × Unit) × (Bool × List Int × Unit) × Unit) (t1 : (Bool × List Int × Unit) × (Bool × List Int × Unit) × Unit) : Option (Int) :=
  ((rational_of ((t0.1.1, (t0.1.2.1, ())), ((t0.2.1.1, (t0.2.1.2.1, ())), ()))).bind fun y1 =>
  ((rational_of ((t1.1.1, (t1.1.2.1, ())), ((t1.2.1.1, (t1.2.1.2.1, ())), ()))).bind fun y2 =>
  ((rational_fraction__compare y1 y2).bind fun y3 =>
  (some y3))))
noncomputable def rational_Cmp.en : En := ⟨12, [.pair (.pair (.bool) (.pair (.sl (.int .u32)) (.unit))) (.pair (.pair (.bool) (.pair (.sl (.int .u32)) (.unit))) (.unit)), .pair (.pair (.bool) (.pair (.sl (.int .u32)) (.unit))) (.pair (.pair (.bool) (.pair (.sl (.int .u32)) (.unit))) (.unit))], .int .i64, false, fun x => rational_Cmp x.1 x.2.1⟩
noncomputable def rational_Cmp.o : List En := [rational_fraction__compare.en, rational_of.en]
noncomputable def rational_Cmp.oB : List EnB := []
def rational_Cmp.h : HT := .n
noncomputable def rational_Cmp.c : Code := Tryd.f12.body.getD .skip
noncomputable def rational_Cmp.L : Lam := fun _ i s K => none
theorem rational_Cmp.os : AllOk prog rational_Cmp.o := ⟨rational_fraction__compare.ok, rational_of.ok, trivial⟩
theorem rational_Cmp.osB : AllBOk prog rational_Cmp.oB := trivial
theorem rational_Cmp.hk (x) : semK env (orc rational_Cmp.o) (orcB rational_Cmp.oB) 12 (rational_Cmp.L _) rational_Cmp.c rational_Cmp.h (S.init (avs [.pair (.pair (.bool) (.pair (.sl (.int .u32)) (.unit))) (.pair (.pair (.bool) (.pair (.sl (.int .u32)) (.unit))) (.unit)), .pair (.pair (.bool) (.pair (.sl (.int .u32)) (.unit))) (.pair (.pair (.bool) (.pair (.sl (.int .u32)) (.unit))) (.unit))] x)) (fin env Tryd.f12 ⟨[.pair (.pair (.bool) (.pair (.sl (.int .u32)) (.unit))) (.pair (.pair (.bool) (.pair (.sl (.int .u32)) (.unit))) (.unit)), .pair (.pair (.bool) (.pair (.sl (.int .u32)) (.unit))) (.pair (.pair (.bool) (.pair (.sl (.int .u32)) (.unit))) (.unit))], .int .i64, false, false⟩) = rational_Cmp.en.g x := by kernel_rfl
theorem rational_Cmp.ok : EnOk prog rational_Cmp.en := by
  refine fun_ok (g := ⟨[.pair (.pair (.bool) (.pair (.sl (.int .u32)) (.unit))) (.pair (.pair (.bool) (.pair (.sl (.int .u32)) (.unit))) (.unit)), .pair (.pair (.bool) (.pair (.sl (.int .u32)) (.unit))) (.pair (.pair (.bool) (.pair (.sl (.int .u32)) (.unit))) (.unit))], .int .i64, false, false⟩) (h := rational_Cmp.h) (Λ := rational_Cmp.L) tabs rational_Cmp.os rational_Cmp.osB Tryd.func12 (c := rational_Cmp.c) (by kernel_rfl) (by decide +kernel) (by decide +kernel) (fun C hC => ?_) (fun x => rational_Cmp.hk x)
  exact by
    have e : loops rational_Cmp.c rational_Cmp.h = [] := by kernel_rfl
    rw [e]
    exact LamOk.nil
noncomputable def quadformlaw32_LocalmassPairs (t0 : Int) (t1 : Int) : Option (Bool) :=
  ((quadformscene_OddPrime t0).bind fun y1 =>
  let x3 := (IntKind.wrap .i64 ((2 : Int) + (IntKind.wrap .i64 ((2 : Int) * (Int.tmod (IntKind.wrap .i64 t1) (4 : Int))))))
  ((localmass_Diagonal y1 (x3, ((1 : Int), ()))).bind fun y4 =>
  ((localmass_Diagonal y1 (x3, ((-1 : Int), ()))).bind fun y5 =>
  ((localmass_Diagonal y1 ((IntKind.wrap .i64 (x3 - (1 : Int))), ((0 : Int), ()))).bind fun y6 =>
  ((localmass_Diagonal y1 ((IntKind.wrap .i64 (x3 + (1 : Int))), ((0 : Int), ()))).bind fun y7 =>
  (cond ((y4.2.1 == (0 : Int)))
  ((cond ((y5.2.1 == (0 : Int)))
  ((cond ((y6.2.1 == (0 : Int)))
  ((cond ((y7.2.1 == (0 : Int)))
  (((rational_Mul ((y4.1.1.1, (y4.1.1.2.1, ())), ((y4.1.2.1.1, (y4.1.2.1.2.1, ())), ())) ((y5.1.1.1, (y5.1.1.2.1, ())), ((y5.1.2.1.1, (y5.1.2.1.2.1, ())), ()))).bind fun y8 =>
  ((rational_Mul ((y6.1.1.1, (y6.1.1.2.1, ())), ((y6.1.2.1.1, (y6.1.2.1.2.1, ())), ())) ((y7.1.1.1, (y7.1.1.2.1, ())), ((y7.1.2.1.1, (y7.1.2.1.2.1, ())), ()))).bind fun y9 =>
  ((rational_Cmp y8 y9).bind fun y10 =>
  (cond ((y10 == (0 : Int)))
  (((quadformlaw32_awake).bind fun y11 =>
  (some y11)))
  ((some false)))))))
  ((some false))))
  ((some false))))
  ((some false))))
  ((some false))))))))
noncomputable def quadformlaw32_LocalmassPairs.en : En := ⟨4, [.int .u8, .int .u8], .bool, false, fun x => quadformlaw32_LocalmassPairs x.1 x.2.1⟩
noncomputable def quadformlaw32_LocalmassPairs.o : List En := [quadformlaw32_awake.en, quadformscene_OddPrime.en, localmass_Diagonal.en, rational_Cmp.en, rational_Mul.en]
noncomputable def quadformlaw32_LocalmassPairs.oB : List EnB := []
def quadformlaw32_LocalmassPairs.h : HT := .n
noncomputable def quadformlaw32_LocalmassPairs.c : Code := Tryd.f4.body.getD .skip
noncomputable def quadformlaw32_LocalmassPairs.L : Lam := fun _ i s K => none
theorem quadformlaw32_LocalmassPairs.os : AllOk prog quadformlaw32_LocalmassPairs.o := ⟨quadformlaw32_awake.ok, quadformscene_OddPrime.ok, localmass_Diagonal.ok, rational_Cmp.ok, rational_Mul.ok, trivial⟩
theorem quadformlaw32_LocalmassPairs.osB : AllBOk prog quadformlaw32_LocalmassPairs.oB := trivial
theorem quadformlaw32_LocalmassPairs.hk (x) : semK env (orc quadformlaw32_LocalmassPairs.o) (orcB quadformlaw32_LocalmassPairs.oB) 79 (quadformlaw32_LocalmassPairs.L _) quadformlaw32_LocalmassPairs.c quadformlaw32_LocalmassPairs.h (S.init (avs [.int .u8, .int .u8] x)) (fin env Tryd.f4 ⟨[.int .u8, .int .u8], .bool, false, false⟩) = quadformlaw32_LocalmassPairs.en.g x := by kernel_rfl
theorem quadformlaw32_LocalmassPairs.ok : EnOk prog quadformlaw32_LocalmassPairs.en := by
  refine fun_ok (g := ⟨[.int .u8, .int .u8], .bool, false, false⟩) (h := quadformlaw32_LocalmassPairs.h) (Λ := quadformlaw32_LocalmassPairs.L) tabs quadformlaw32_LocalmassPairs.os quadformlaw32_LocalmassPairs.osB Tryd.func4 (c := quadformlaw32_LocalmassPairs.c) (by kernel_rfl) (by decide +kernel) (by decide +kernel) (fun C hC => ?_) (fun x => quadformlaw32_LocalmassPairs.hk x)
  exact by
    have e : loops quadformlaw32_LocalmassPairs.c quadformlaw32_LocalmassPairs.h = [] := by kernel_rfl
    rw [e]
    exact LamOk.nil
end Go.Proofs.YtgbndganadelpaaDoor.E
/- All functions. -/
/- Laws of the functions on values: words for all; trim, signs, small numbers, comparison. -/
namespace Go.Proofs.YtgbndganadelpaaDoor.V
open Go Go.Proofs.YtgbndganadelpaaDoor.E Go.Proofs.YtgbndganadelpaaDoor.LI
set_option linter.unusedVariables false
set_option linter.unusedSimpArgs false
theorem wi64 {x : Int} (h : -9223372036854775808 ≤ x) (h' : x ≤ 9223372036854775807) : IntKind.wrap .i64 x = x := by
  simp [IntKind.wrap, IntKind.bits, IntKind.signed]; omega
theorem wu64 (x : Int) : IntKind.wrap .u64 x = x % 18446744073709551616 := by simp [IntKind.wrap, IntKind.bits, IntKind.signed]
theorem wu32 (x : Int) : IntKind.wrap .u32 x = x % 4294967296 := by simp [IntKind.wrap, IntKind.bits, IntKind.signed]
theorem wu64' {x : Int} (h : 0 ≤ x) (h' : x < 18446744073709551616) : IntKind.wrap .u64 x = x := by rw [wu64]; omega
theorem wu32' {x : Int} (h : 0 ≤ x) (h' : x < 4294967296) : IntKind.wrap .u32 x = x := by rw [wu32]; omega
theorem cite {α : Type} (c : Bool) (a b : α) : cond c a b = if c = true then a else b := by cases c <;> rfl
theorem inB_t (i : Int) (n : Nat) : (inB i n = true) = (0 ≤ i ∧ i < n) := by simp [inB]
theorem inC_t (i : Int) (n : Nat) : (inC i n = true) = (0 ≤ i ∧ i ≤ n) := by simp [inC]
theorem up {i : Nat} (h : i < 9223372036854775807) : IntKind.wrap .i64 ((i : Int) + 1) = ((i + 1 : Nat) : Int) := by rw [wi64 (by omega) (by omega)]; rfl
theorem down {i : Nat} (h : i < 9223372036854775807) : IntKind.wrap .i64 (((i + 1 : Nat) : Int) - 1) = (i : Int) := by rw [wi64 (by omega) (by omega)]; omega
theorem gd {l : List Int} (h : Lim l) (i : Nat) : l.getD i 0 = ((dg l i : Nat) : Int) := (dg_int h i).symm
theorem maxL_eq : maxL = 1073741824 := rfl
theorem trim_loop {l : List Int} (hl : Lim l) (hn : l.length < 17592186044416) : ∀ j, j ≤ l.length → lv (l.take j) = lv l →
    ∃ j' : Nat, j' ≤ l.length ∧ l.take j' = limbs (lv l) ∧ iterL (fun x : List Int × Int × Unit => integer_trim.s0 x.1 x.2.1) (l, (j : Int), ()) = some (l, (j' : Int), ()) := by
  intro j
  induction j with
  | zero =>
    intro _ h
    refine ⟨0, Nat.zero_le _, by rw [← h]; rfl, iterL_done ?_⟩
    simp only [integer_trim.s0, cite, decide_eq_true_eq]
    rw [if_neg (by omega)]
  | succ j ih =>
    intro hj h
    by_cases h0 : dg l j = 0
    · obtain ⟨j', h1, h2, h3⟩ := ih (by omega) (by rw [lv_take_succ, h0] at h; simpa using h)
      refine ⟨j', h1, h2, (iterL_next ?_).trans h3⟩
      simp only [integer_trim.s0, integer_trim.j1, cite, decide_eq_true_eq, inB_t, beq_iff_eq]
      rw [down (by omega), Int.toNat_natCast, gd hl, h0, if_pos (by omega), if_pos (by omega), if_pos (by omega)]
    · refine ⟨j + 1, hj, ?_, iterL_done ?_⟩
      · rw [← h, limbs_lv (hl.take _) (fun hne e => ?_)]
        apply h0
        rw [List.getLast_eq_getElem] at e
        simp only [List.getElem_take, List.length_take, Nat.min_eq_left hj, Nat.add_sub_cancel] at e
        simp only [dg, List.getD, List.getElem?_eq_getElem (show j < l.length by omega), Option.getD_some, e]
        rfl
      · simp only [integer_trim.s0, integer_trim.j1, cite, decide_eq_true_eq, inB_t, beq_iff_eq]
        rw [down (by omega), Int.toNat_natCast, gd hl, if_pos (by omega), if_pos (by omega), if_neg (by omega)]
theorem trim_ok {l : List Int} (hl : Lim l) (hn : l.length < 17592186044416) : integer_trim l = some (limbs (lv l)) := by
  obtain ⟨j, h1, h2, h3⟩ := trim_loop hl hn l.length (Nat.le_refl _) (by rw [List.take_length])
  unfold integer_trim
  rw [h3, Option.bind_some]
  simp only [integer_trim.k0, cite, inC_t, Bool.and_eq_true, decide_eq_true_eq]
  rw [if_pos (by omega), if_pos (by omega), Int.toNat_natCast, h2]
theorem iv_t (l : List Int) : iv true l = -(lv l : Int) := rfl
theorem iv_f (l : List Int) : iv false l = (lv l : Int) := rfl
/-- An integer as_ the program holds it. -/
def mkI (z : Int) : Bool × List Int × Unit := (decide (z < 0), limbs z.natAbs, ())
theorem limbs_len0 (n : Nat) : (((limbs n).length : Int) = 0) = (n = 0) := by
  have := @limbs_len_pos n
  apply propext
  constructor
  · intro h; by_cases h0 : n = 0
    · exact h0
    · have := this.2 h0; omega
  · rintro rfl; rfl
theorem signed_ok {l : List Int} (neg : Bool) (hl : Lim l) (hn : l.length < 17592186044416) : integer_signed neg l = some (mkI (iv neg l)) := by
  unfold integer_signed
  rw [trim_ok hl hn, Option.bind_some]
  simp only [integer_signed.j1, cite, beq_iff_eq, limbs_len0]
  by_cases h : lv l = 0
  · rw [if_pos h]
    have : iv neg l = 0 := by unfold iv; cases neg <;> simp [h]
    rw [this]; rfl
  · rw [if_neg h]
    cases neg with
    | true =>
      have e : decide (iv true l < 0) = true := by simp only [iv, if_true, decide_eq_true_eq]; omega
      simp only [mkI, iv_natAbs, e]
    | false =>
      have e : decide (iv false l < 0) = false := by simp only [iv, decide_eq_false_iff_not]; simp
      simp only [mkI, iv_natAbs, e]
theorem magnitude_ok {l : List Int} (neg : Bool) (u : Unit) (hl : Lim l) (hn : l.length < 17592186044416) : integer_magnitude (neg, l, u) = some (limbs (lv l)) := by
  unfold integer_magnitude
  rw [trim_ok hl hn]; rfl
theorem sign_ok {l : List Int} (neg : Bool) (u : Unit) (hl : Lim l) (hn : l.length < 17592186044416) : integer_Sign (neg, l, u) = some (if iv neg l = 0 then 0 else if iv neg l < 0 then -1 else 1) := by
  unfold integer_Sign
  rw [magnitude_ok neg _ hl hn, Option.bind_some]
  simp only [integer_Sign.j1, integer_Sign.j2, cite, beq_iff_eq, limbs_len0]
  cases neg with
  | true =>
    rw [iv_t]
    by_cases h : lv l = 0
    · rw [if_pos h, if_pos (by omega)]
    · rw [if_neg h, if_pos rfl, if_neg (by omega), if_pos (by omega)]
  | false =>
    rw [iv_f]
    by_cases h : lv l = 0
    · rw [if_pos h, if_pos (by omega)]
    · rw [if_neg h, if_neg (by simp), if_neg (by omega), if_neg (by omega)]
theorem lv_two {u : Nat} (hu : u < 18446744073709551616) : lv [((u % 4294967296 : Nat) : Int), ((u / 4294967296 : Nat) : Int)] = u ∧ Lim [((u % 4294967296 : Nat) : Int), ((u / 4294967296 : Nat) : Int)] := by
  constructor
  · simp only [lv, Int.toNat_natCast]; omega
  · exact Lim.mk (by omega) (Lim.one (by omega))
theorem two_words {u : Nat} (hu : u < 18446744073709551616) : ([IntKind.wrap .u32 (u : Int), IntKind.wrap .u32 (shrI .u64 (u : Int) 32)] : List Int) = [((u % 4294967296 : Nat) : Int), ((u / 4294967296 : Nat) : Int)] := by
  have h1 : shrI .u64 (u : Int) 32 = ((u / 4294967296 : Nat) : Int) := by
    simp only [shrI, IntKind.bits]
    rw [show min (32 : Int).toNat 64 = 32 from rfl, show (2 : Int) ^ 32 = 4294967296 from rfl, Int.fdiv_eq_ediv_of_nonneg _ (by decide)]; omega
  rw [h1, wu32, wu32]
  congr 1
  congr 1
  omega
theorem small_ok {n : Int} (h : -9223372036854775808 ≤ n) (h' : n ≤ 9223372036854775807) : integer_Small n = some (mkI n) := by
  unfold integer_Small
  simp only [cite, decide_eq_true_eq]
  have key : ∀ b : List Int, integer_Small.j1 n ((n.natAbs : Nat) : Int) b = some (mkI n) := fun b => by
    obtain ⟨h1, h2⟩ := lv_two (u := n.natAbs) (by omega)
    unfold integer_Small.j1
    rw [two_words (by omega), signed_ok _ h2 (by simp), Option.bind_some]
    have : iv (decide (n < 0)) [((n.natAbs % 4294967296 : Nat) : Int), ((n.natAbs / 4294967296 : Nat) : Int)] = n := by
      by_cases h0 : n < 0
      · rw [decide_eq_true h0, iv_t, h1]; omega
      · rw [decide_eq_false h0, iv_f, h1]; omega
    rw [this]
  by_cases h0 : n < 0
  · rw [if_pos h0, show IntKind.wrap .u64 (0 - IntKind.wrap .u64 n) = ((n.natAbs : Nat) : Int) by rw [wu64, wu64]; omega]
    exact key _
  · rw [if_neg h0, show IntKind.wrap .u64 n = ((n.natAbs : Nat) : Int) by rw [wu64]; omega]
    exact key _
end Go.Proofs.YtgbndganadelpaaDoor.V
