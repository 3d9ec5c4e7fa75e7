/- Functions of the program as_ functions on values, without fuel, and that the evaluator computes them (printed by gen.py). -/
import Derived.Test.YtgbndganadelpaaGreatDoorYLocalmassStandard9
namespace Go.Proofs.YtgbndganadelpaaGreatDoor.E
noncomputable section
open Go
set_option linter.unusedVariables false
set_option maxRecDepth 100000
def prime_Kronecker.j2  : Option (Int × Int × Unit) :=
  (some ((0 : Int), ((0 : Int), ())))
def prime_Kronecker.j8 (t0 : Int) (t6 : Int) (t37 : List (Int × Int × Unit)) (t38 : Int) (t39 : Int) : Option ((Int × Int × (List (Int × Int × Unit)) × Int × Int × Unit) ⊕ ((Int × Unit) ⊕ (Int × Int × Unit))) :=
  (some (.inl (t0, t6, t37, t38, (IntKind.wrap .i64 (t39 + (1 : Int))), ())))
def prime_Kronecker.j7 (t0 : Int) (t6 : Int) (t11 : Int) (t37 : List (Int × Int × Unit)) (t38 : Int) (t39 : Int) (b10_0 : Int) (b10_1 : Int) : Option ((Int × Int × (List (Int × Int × Unit)) × Int × Int × Unit) ⊕ ((Int × Unit) ⊕ (Int × Int × Unit))) :=
  (cond (((Int.tmod b10_1 (2 : Int)) == (1 : Int)))
  ((prime_Kronecker.j8 t0 (IntKind.wrap .i64 (t6 * t11)) t37 t38 t39))
  ((prime_Kronecker.j8 t0 t6 t37 t38 t39)))
def prime_Kronecker.j6 (t0 : Int) (t6 : Int) (t37 : List (Int × Int × Unit)) (t38 : Int) (t39 : Int) : Option ((Int × Int × (List (Int × Int × Unit)) × Int × Int × Unit) ⊕ ((Int × Unit) ⊕ (Int × Int × Unit))) :=
  (cond (inB t39 (List.length t37))
  (((prime_symbol t0 (List.getD t37 (t39.toNat) ((0 : Int), ((0 : Int), ()))).1).bind fun y5 =>
  (cond ((y5 == (0 : Int)))
  ((some (.inr (.inr ((0 : Int), (0 : Int), ())))))
  ((prime_Kronecker.j7 t0 t6 y5 t37 t38 t39 (List.getD t37 (t39.toNat) ((0 : Int), ((0 : Int), ()))).1 (List.getD t37 (t39.toNat) ((0 : Int), ((0 : Int), ()))).2.1)))))
  none)
def prime_Kronecker.s0 (t0 : Int) (t6 : Int) (t37 : List (Int × Int × Unit)) (t38 : Int) (t39 : Int) : Option ((Int × Int × (List (Int × Int × Unit)) × Int × Int × Unit) ⊕ ((Int × Unit) ⊕ (Int × Int × Unit))) :=
  (cond ((decide (t39 < t38)))
  ((prime_Kronecker.j6 t0 t6 t37 t38 t39))
  ((some (.inr (.inl (t6, ()))))))
def prime_Kronecker.k0_0 (t6 : Int) : Option (Int × Int × Unit) :=
  (some (t6, ((0 : Int), ())))
def prime_Kronecker.k0_1 (t4 : Int) (t5 : Int) : Option (Int × Int × Unit) :=
  (some (t4, (t5, ())))
def prime_Kronecker.j5 (t0 : Int) (t1 : Int) : Option (Int × Int × Unit) :=
  ((prime_Factor t1).bind fun y3 =>
  ((iterL (fun x : Int × Int × (List (Int × Int × Unit)) × Int × Int × Unit => prime_Kronecker.s0 x.1 x.2.1 x.2.2.1 x.2.2.2.1 x.2.2.2.2.1) (t0, (-1 : Int), y3.1, ((List.length y3.1 : Nat) : Int), (0 : Int), ())).bind fun z => Sum.casesOn z (fun y => prime_Kronecker.k0_0 y.1) (fun z => prime_Kronecker.k0_1 z.1 z.2.1)))
def prime_Kronecker.j4 (t0 : Int) (t1 : Int) : Option (Int × Int × Unit) :=
  (prime_Kronecker.j5 t0 t1)
def prime_Kronecker.j10 (t0 : Int) (t1 : Int) : Option (Int × Int × Unit) :=
  ((prime_Factor t1).bind fun y7 =>
  ((iterL (fun x : Int × Int × (List (Int × Int × Unit)) × Int × Int × Unit => prime_Kronecker.s0 x.1 x.2.1 x.2.2.1 x.2.2.2.1 x.2.2.2.2.1) (t0, (1 : Int), y7.1, ((List.length y7.1 : Nat) : Int), (0 : Int), ())).bind fun z => Sum.casesOn z (fun y => prime_Kronecker.k0_0 y.1) (fun z => prime_Kronecker.k0_1 z.1 z.2.1)))
def prime_Kronecker.j9 (t0 : Int) (t1 : Int) : Option (Int × Int × Unit) :=
  (prime_Kronecker.j10 t0 t1)
def prime_Kronecker.j3 (t0 : Int) (t1 : Int) : Option (Int × Int × Unit) :=
  (cond ((decide (t1 < (0 : Int))))
  ((cond ((decide (t0 < (0 : Int))))
  ((prime_Kronecker.j4 t0 (IntKind.wrap .i64 (0 - t1))))
  ((prime_Kronecker.j9 t0 (IntKind.wrap .i64 (0 - t1))))))
  ((prime_Kronecker.j10 t0 t1)))
def prime_Kronecker.j1 (t0 : Int) (t1 : Int) : Option (Int × Int × Unit) :=
  (cond ((t1 == (0 : Int)))
  ((cond ((t0 == (1 : Int)))
  ((some ((1 : Int), ((0 : Int), ()))))
  ((cond ((t0 == (-1 : Int)))
  ((some ((1 : Int), ((0 : Int), ()))))
  ((prime_Kronecker.j2))))))
  ((prime_Kronecker.j3 t0 t1)))
def prime_Kronecker (t0 : Int) (t1 : Int) : Option (Int × Int × Unit) :=
  ((prime_beyond t0).bind fun y1 =>
  (cond (y1)
  ((some ((0 : Int), ((1 : Int), ()))))
  (((prime_beyond t1).bind fun y2 =>
  (cond (y2)
  ((some ((0 : Int), ((1 : Int), ()))))
  ((prime_Kronecker.j1 t0 t1)))))))
def prime_Kronecker.en : En := ⟨57, [.int .i64, .int .i64], .pair (.int .i64) (.pair (.int .i64) (.unit)), true, fun x => prime_Kronecker x.1 x.2.1⟩
def prime_Kronecker.o : List En := [prime_beyond.en, prime_Factor.en, prime_symbol.en]
def prime_Kronecker.oB : List EnB := []
def prime_Kronecker.h : HT := .two (.n) (.two (.n) (.two (.n) (.two (.n) (.two (.n) (.two (.n) (.two (.two (.n) (.lp 0)) (.n)))))))
def prime_Kronecker.c : Code := Tryz.f57.body.getD .skip
def prime_Kronecker.h0 : HT := .n
def prime_Kronecker.c0 : Code := (find (loops prime_Kronecker.c prime_Kronecker.h) 0).getD .skip
def prime_Kronecker.d0 : Fm := [.v 0 (.int .i64), .v 6 (.int .i64), .v 37 (.sl (.pair (.int .i64) (.pair (.int .i64) (.unit)))), .v 38 (.int .i64), .v 39 (.int .i64)]
def prime_Kronecker.x0 : Xs := [(.exit 0, [.v 6 (.int .i64)]), (.ret, [.v 4 (.int .i64), .v 5 (.int .i64)])]
def prime_Kronecker.r0 (x : (Fm.ty prime_Kronecker.d0).den) : Option ((Fm.ty prime_Kronecker.d0).den ⊕ (Xs.T prime_Kronecker.x0)) := prime_Kronecker.s0 x.1 x.2.1 x.2.2.1 x.2.2.2.1 x.2.2.2.2.1
def prime_Kronecker.L : Lam := fun _ i s K => cond (Nat.beq i 0) (lamK prime_Kronecker.d0 prime_Kronecker.x0 prime_Kronecker.r0 s K) (none)
theorem prime_Kronecker.hf0 (x) : roundK env (orc prime_Kronecker.o) (orcB prime_Kronecker.oB) 58 prime_Kronecker.L prime_Kronecker.c0 prime_Kronecker.h0 prime_Kronecker.d0 prime_Kronecker.x0 x = prime_Kronecker.r0 x := by kernel_rfl
theorem prime_Kronecker.os : AllOk prog prime_Kronecker.o := ⟨prime_beyond.ok, prime_Factor.ok, prime_symbol.ok, trivial⟩
theorem prime_Kronecker.osB : AllBOk prog prime_Kronecker.oB := trivial
theorem prime_Kronecker.l0 {C : Ctx} (hC : C.n = 58) : LamAt prog C prime_Kronecker.L 0 prime_Kronecker.c0 := by
  intro R s K r hk
  refine loop_ok (D := prime_Kronecker.d0) (X := prime_Kronecker.x0) (h := prime_Kronecker.h0) (f := prime_Kronecker.r0) tabs (orc_ok _ prime_Kronecker.os) (orcB_ok _ prime_Kronecker.osB) (fun x => by rw [hC]; exact prime_Kronecker.hf0 x) (Λ := prime_Kronecker.L) ?_ (by kernel_rfl) (by kernel_rfl) (K := K) (s := s) (by exact hk)
  exact by
    have e : loops prime_Kronecker.c0 prime_Kronecker.h0 = [] := by kernel_rfl
    rw [e]
    exact LamOk.nil
theorem prime_Kronecker.hk (x) : semK env (orc prime_Kronecker.o) (orcB prime_Kronecker.oB) 58 (prime_Kronecker.L _) prime_Kronecker.c prime_Kronecker.h (S.init (avs [.int .i64, .int .i64] x)) (fin env Tryz.f57 ⟨[.int .i64, .int .i64], .pair (.int .i64) (.pair (.int .i64) (.unit)), true, false⟩) = prime_Kronecker.en.g x := by kernel_rfl
theorem prime_Kronecker.ok : EnOk prog prime_Kronecker.en := by
  refine fun_ok (g := ⟨[.int .i64, .int .i64], .pair (.int .i64) (.pair (.int .i64) (.unit)), true, false⟩) (h := prime_Kronecker.h) (Λ := prime_Kronecker.L) tabs prime_Kronecker.os prime_Kronecker.osB Tryz.func57 (c := prime_Kronecker.c) (by kernel_rfl) (by decide +kernel) (by decide +kernel) (fun C hC => ?_) (fun x => prime_Kronecker.hk x)
  exact by
    have e : loops prime_Kronecker.c prime_Kronecker.h = [(0, prime_Kronecker.c0)] := by kernel_rfl
    rw [e]
    exact LamOk.cons (prime_Kronecker.l0 hC) (LamOk.nil)
def localmass_Standard.j4 (t2 : Int) (t8 : Int) (t9 : Int) (b6_1 : List Int) (b6_3 : List Int) : Option (((Bool × List Int × Unit) × (Bool × List Int × Unit) × Unit) × Int × Unit) :=
  ((localmass_half t2 t8 t9).bind fun y5 =>
  (some (((y5.1.1, (y5.1.2.1, ())), ((y5.2.1.1, (y5.2.1.2.1, ())), ())), ((0 : Int), ()))))
def localmass_Standard.j3 (t1 : Int) (t2 : Int) (t8 : Int) (b6_1 : List Int) (b6_3 : List Int) : Option (((Bool × List Int × Unit) × (Bool × List Int × Unit) × Unit) × Int × Unit) :=
  ((prime_Discriminant t1).bind fun y3 =>
  ((prime_Kronecker y3.1 t2).bind fun y4 =>
  (localmass_Standard.j4 t2 t8 y4.1 b6_1 b6_3)))
def localmass_Standard.j5 (t2 : Int) (t8 : Int) (b6_1 : List Int) (b6_3 : List Int) : Option (((Bool × List Int × Unit) × (Bool × List Int × Unit) × Unit) × Int × Unit) :=
  ((localmass_half t2 t8 (0 : Int)).bind fun y6 =>
  (some (((y6.1.1, (y6.1.2.1, ())), ((y6.2.1.1, (y6.2.1.2.1, ())), ())), ((0 : Int), ()))))
def localmass_Standard.j2 (t0 : Int) (t1 : Int) (t2 : Int) (b6_1 : List Int) (b6_3 : List Int) : Option (((Bool × List Int × Unit) × (Bool × List Int × Unit) × Unit) × Int × Unit) :=
  let x2 := (IntKind.wrap .i64 (Int.tdiv (IntKind.wrap .i64 (t0 + (1 : Int))) (2 : Int)))
  (cond (((Int.tmod t0 (2 : Int)) == (0 : Int)))
  ((cond (((Int.tmod x2 (2 : Int)) == (1 : Int)))
  ((localmass_Standard.j3 (IntKind.wrap .i64 (0 - t1)) t2 x2 b6_1 b6_3))
  ((localmass_Standard.j3 t1 t2 x2 b6_1 b6_3))))
  ((localmass_Standard.j5 t2 x2 b6_1 b6_3)))
def localmass_Standard.j1 (t0 : Int) (t1 : Int) (t2 : Int) (b6_1 : List Int) (b6_3 : List Int) : Option (((Bool × List Int × Unit) × (Bool × List Int × Unit) × Unit) × Int × Unit) :=
  ((localmass_known t2).bind fun y1 =>
  (cond ((!y1))
  ((some (((false, (([] : List Int), ())), ((false, (([] : List Int), ())), ())), ((20 : Int), ()))))
  ((localmass_Standard.j2 t0 t1 t2 b6_1 b6_3))))
def localmass_Standard (t0 : Int) (t1 : Int) (t2 : Int) : Option (((Bool × List Int × Unit) × (Bool × List Int × Unit) × Unit) × Int × Unit) :=
  (cond ((decide (t0 < (2 : Int))))
  ((some (((false, (([] : List Int), ())), ((false, (([] : List Int), ())), ())), ((1 : Int), ()))))
  ((cond ((decide (t0 > (8 : Int))))
  ((some (((false, (([] : List Int), ())), ((false, (([] : List Int), ())), ())), ((1 : Int), ()))))
  ((cond ((decide (t1 < (1 : Int))))
  ((some (((false, (([] : List Int), ())), ((false, (([] : List Int), ())), ())), ((1 : Int), ()))))
  ((cond ((decide (t1 > (10000 : Int))))
  ((some (((false, (([] : List Int), ())), ((false, (([] : List Int), ())), ())), ((1 : Int), ()))))
  ((localmass_Standard.j1 t0 t1 t2 ([] : List Int) ([] : List Int))))))))))
def localmass_Standard.en : En := ⟨18, [.int .i64, .int .i64, .int .i64], .pair (.pair (tZ) (.pair (tZ) (.unit))) (.pair (.int .i64) (.unit)), true, fun x => localmass_Standard x.1 x.2.1 x.2.2.1⟩
def localmass_Standard.o : List En := [localmass_known.en, prime_Discriminant.en, prime_Kronecker.en, localmass_half.en]
def localmass_Standard.oB : List EnB := []
def localmass_Standard.h : HT := .n
def localmass_Standard.c : Code := Tryz.f18.body.getD .skip
def localmass_Standard.L : Lam := fun _ i s K => none
theorem localmass_Standard.os : AllOk prog localmass_Standard.o := ⟨localmass_known.ok, prime_Discriminant.ok, prime_Kronecker.ok, localmass_half.ok, trivial⟩
theorem localmass_Standard.osB : AllBOk prog localmass_Standard.oB := trivial
theorem localmass_Standard.hk (x) : semK env (orc localmass_Standard.o) (orcB localmass_Standard.oB) 57 (localmass_Standard.L _) localmass_Standard.c localmass_Standard.h (S.init (avs [.int .i64, .int .i64, .int .i64] x)) (fin env Tryz.f18 ⟨[.int .i64, .int .i64, .int .i64], .pair (.pair (tZ) (.pair (tZ) (.unit))) (.pair (.int .i64) (.unit)), true, false⟩) = localmass_Standard.en.g x := by kernel_rfl
theorem localmass_Standard.ok : EnOk prog localmass_Standard.en := by
  refine fun_ok (g := ⟨[.int .i64, .int .i64, .int .i64], .pair (.pair (tZ) (.pair (tZ) (.unit))) (.pair (.int .i64) (.unit)), true, false⟩) (h := localmass_Standard.h) (Λ := localmass_Standard.L) tabs localmass_Standard.os localmass_Standard.osB Tryz.func18 (c := localmass_Standard.c) (by kernel_rfl) (by decide +kernel) (by decide +kernel) (fun C hC => ?_) (fun x => localmass_Standard.hk x)
  exact by
    have e : loops localmass_Standard.c localmass_Standard.h = [] := by kernel_rfl
    rw [e]
    exact LamOk.nil
def quadformlaw32_symbol (t0 : Int) (t1 : Int) (t2 : Int) : Option (Int × (List (Int × Int × Int × Bool × Int × Unit)) × Unit) :=
  (some ((2 : Int), (([((0 : Int), (t0, (t1, (true, (t2, ())))))] : List (Int × Int × Int × Bool × Int × Unit)), ())))
def quadformlaw32_symbol.en : En := ⟨47, [.int .i64, .int .i64, .int .i64], .pair (.int .i64) (.pair (.sl (.pair (.int .i64) (.pair (.int .i64) (.pair (.int .i64) (.pair (.bool) (.pair (.int .i64) (.unit))))))) (.unit)), false, fun x => quadformlaw32_symbol x.1 x.2.1 x.2.2.1⟩
def quadformlaw32_symbol.o : List En := []
def quadformlaw32_symbol.oB : List EnB := []
def quadformlaw32_symbol.h : HT := .n
def quadformlaw32_symbol.c : Code := Tryz.f47.body.getD .skip
def quadformlaw32_symbol.L : Lam := fun _ i s K => none
theorem quadformlaw32_symbol.os : AllOk prog quadformlaw32_symbol.o := trivial
theorem quadformlaw32_symbol.osB : AllBOk prog quadformlaw32_symbol.oB := trivial
theorem quadformlaw32_symbol.hk (x) : semK env (orc quadformlaw32_symbol.o) (orcB quadformlaw32_symbol.oB) 13 (quadformlaw32_symbol.L _) quadformlaw32_symbol.c quadformlaw32_symbol.h (S.init (avs [.int .i64, .int .i64, .int .i64] x)) (fin env Tryz.f47 ⟨[.int .i64, .int .i64, .int .i64], .pair (.int .i64) (.pair (.sl (.pair (.int .i64) (.pair (.int .i64) (.pair (.int .i64) (.pair (.bool) (.pair (.int .i64) (.unit))))))) (.unit)), false, false⟩) = quadformlaw32_symbol.en.g x := by kernel_rfl
theorem quadformlaw32_symbol.ok : EnOk prog quadformlaw32_symbol.en := by
  refine fun_ok (g := ⟨[.int .i64, .int .i64, .int .i64], .pair (.int .i64) (.pair (.sl (.pair (.int .i64) (.pair (.int .i64) (.pair (.int .i64) (.pair (.bool) (.pair (.int .i64) (.unit))))))) (.unit)), false, false⟩) (h := quadformlaw32_symbol.h) (Λ := quadformlaw32_symbol.L) tabs quadformlaw32_symbol.os quadformlaw32_symbol.osB Tryz.func47 (c := quadformlaw32_symbol.c) (by kernel_rfl) (by decide +kernel) (by decide +kernel) (fun C hC => ?_) (fun x => quadformlaw32_symbol.hk x)
  exact by
    have e : loops quadformlaw32_symbol.c quadformlaw32_symbol.h = [] := by kernel_rfl
    rw [e]
    exact LamOk.nil
def rational_IsWhole (t0 : (Bool × List Int × Unit) × (Bool × List Int × Unit) × Unit) : Option (Bool) :=
  ((rational_of ((t0.1.1, (t0.1.2.1, ())), ((t0.2.1.1, (t0.2.1.2.1, ())), ()))).bind fun y1 =>
  ((integer_DivMod (y1.1.1, (y1.1.2.1, ())) (y1.2.1.1, (y1.2.1.2.1, ()))).bind fun y2 =>
  ((integer_Sign (y2.2.1.1, (y2.2.1.2.1, ()))).bind fun y3 =>
  (some (y3 == (0 : Int))))))
def rational_IsWhole.en : En := ⟨105, [.pair (tZ) (.pair (tZ) (.unit))], .bool, false, fun x => rational_IsWhole x.1⟩
def rational_IsWhole.o : List En := [rational_of.en, integer_Sign.en, integer_DivMod.en]
def rational_IsWhole.oB : List EnB := []
def rational_IsWhole.h : HT := .n
def rational_IsWhole.c : Code := Tryz.f105.body.getD .skip
def rational_IsWhole.L : Lam := fun _ i s K => none
theorem rational_IsWhole.os : AllOk prog rational_IsWhole.o := ⟨rational_of.ok, integer_Sign.ok, integer_DivMod.ok, trivial⟩
theorem rational_IsWhole.osB : AllBOk prog rational_IsWhole.oB := trivial
theorem rational_IsWhole.hk (x) : semK env (orc rational_IsWhole.o) (orcB rational_IsWhole.oB) 21 (rational_IsWhole.L _) rational_IsWhole.c rational_IsWhole.h (S.init (avs [.pair (tZ) (.pair (tZ) (.unit))] x)) (fin env Tryz.f105 ⟨[.pair (tZ) (.pair (tZ) (.unit))], .bool, false, false⟩) = rational_IsWhole.en.g x := by kernel_rfl
theorem rational_IsWhole.ok : EnOk prog rational_IsWhole.en := by
  refine fun_ok (g := ⟨[.pair (tZ) (.pair (tZ) (.unit))], .bool, false, false⟩) (h := rational_IsWhole.h) (Λ := rational_IsWhole.L) tabs rational_IsWhole.os rational_IsWhole.osB Tryz.func105 (c := rational_IsWhole.c) (by kernel_rfl) (by decide +kernel) (by decide +kernel) (fun C hC => ?_) (fun x => rational_IsWhole.hk x)
  exact by
    have e : loops rational_IsWhole.c rational_IsWhole.h = [] := by kernel_rfl
    rw [e]
    exact LamOk.nil
def integer_Format.j3 (t3 : List Int) (t6 : Int) (t7 : Int) (b1_0 : Bool) (b1_1 : List Int) (a44 : List (Int)) : Option ((List Int × Int × Int × List Int × (Bool × List Int × Unit) × Unit) ⊕ ((List Int × List Int × (Bool × List Int × Unit) × Unit))) :=
  let x9 := (IntKind.wrap .u32 ((48 : Int) + (Int.tmod t6 (10 : Int))))
  (cond (decide (List.length a44 + List.length ([(IntKind.wrap .u8 x9)] : List (Int)) ≤ maxL))
  ((some (.inl (t3, (IntKind.wrap .u32 (Int.tdiv t6 (10 : Int))), (IntKind.wrap .i64 (t7 + (1 : Int))), (a44 ++ ([(IntKind.wrap .u8 x9)] : List (Int))), (b1_0, (b1_1, ())), ()))))
  none)
def integer_Format.s0 (t3 : List Int) (t6 : Int) (t7 : Int) (a44 : List (Int)) (b1 : Bool × List Int × Unit) : Option ((List Int × Int × Int × List Int × (Bool × List Int × Unit) × Unit) ⊕ ((List Int × List Int × (Bool × List Int × Unit) × Unit))) :=
  (cond ((decide (t7 < (9 : Int))))
  ((cond ((decide (((List.length t3 : Nat) : Int) > (0 : Int))))
  (let x6 := (IntKind.wrap .u32 ((48 : Int) + (Int.tmod t6 (10 : Int))))
  (cond (decide (List.length a44 + List.length ([(IntKind.wrap .u8 x6)] : List (Int)) ≤ maxL))
  ((some (.inl (t3, (IntKind.wrap .u32 (Int.tdiv t6 (10 : Int))), (IntKind.wrap .i64 (t7 + (1 : Int))), (a44 ++ ([(IntKind.wrap .u8 x6)] : List (Int))), (b1.1, (b1.2.1, ())), ()))))
  none))
  ((cond ((decide (t6 > (0 : Int))))
  ((integer_Format.j3 t3 t6 t7 b1.1 b1.2.1 a44))
  ((some (.inr (t3, a44, (b1.1, (b1.2.1, ())), ()))))))))
  ((some (.inr (t3, a44, (b1.1, (b1.2.1, ())), ())))))
def integer_Format.k0 (t3 : List Int) (a44 : List (Int)) (b1 : Bool × List Int × Unit) : Option ((List Int × List Int × (Bool × List Int × Unit) × Unit) ⊕ ((List Int × (Bool × List Int × Unit) × Unit))) :=
  (some (.inl (t3, a44, (b1.1, (b1.2.1, ())), ())))
def integer_Format.j2 (t3 : List Int) (b1_0 : Bool) (b1_1 : List Int) (a44 : List (Int)) : Option ((List Int × List Int × (Bool × List Int × Unit) × Unit) ⊕ ((List Int × (Bool × List Int × Unit) × Unit))) :=
  ((integer_shortDivide t3 (1000000000 : Int)).bind fun y4 =>
  ((iterL (fun x : List Int × Int × Int × List Int × (Bool × List Int × Unit) × Unit => integer_Format.s0 x.1 x.2.1 x.2.2.1 x.2.2.2.1 x.2.2.2.2.1) (y4.1, y4.2.1, (0 : Int), a44, (b1_0, (b1_1, ())), ())).bind fun y => integer_Format.k0 y.1 y.2.1 y.2.2.1))
def integer_Format.s1 (t3 : List Int) (a44 : List (Int)) (b1 : Bool × List Int × Unit) : Option ((List Int × List Int × (Bool × List Int × Unit) × Unit) ⊕ ((List Int × (Bool × List Int × Unit) × Unit))) :=
  (cond ((decide (((List.length t3 : Nat) : Int) > (0 : Int))))
  ((integer_Format.j2 t3 b1.1 b1.2.1 a44))
  ((some (.inr (a44, (b1.1, (b1.2.1, ())), ())))))
def integer_Format.j5 (t56 : Int) (t57 : Int) (a44 : List (Int)) (a54 : List (Int)) : Option ((Int × Int × List Int × List Int × Unit) ⊕ ((List Int × Unit))) :=
  let x12 := (IntKind.wrap .i64 (((List.length a44 : Nat) : Int) - (1 : Int)))
  (cond (inB (IntKind.wrap .i64 (x12 - t57)) (List.length a44))
  ((cond (inB t57 (List.length a54))
  ((some (.inl (t56, (IntKind.wrap .i64 (t57 + (1 : Int))), a44, (List.set a54 ((0 + t57.toNat)) (List.getD a44 ((0 + (((IntKind.wrap .i64 (x12 - t57))).toNat))) (0 : Int))), ()))))
  none))
  none)
def integer_Format.s2 (t56 : Int) (t57 : Int) (a44 : List (Int)) (a54 : List (Int)) : Option ((Int × Int × List Int × List Int × Unit) ⊕ ((List Int × Unit))) :=
  (cond ((decide (t57 < t56)))
  ((integer_Format.j5 t56 t57 a44 a54))
  ((some (.inr (a54, ())))))
def integer_Format.k2 (a54 : List (Int)) : Option (ByteArray) :=
  (some (bytesOf a54))
def integer_Format.j4 (a44 : List (Int)) : Option (ByteArray) :=
  (cond (inC ((List.length a44 : Nat) : Int) maxL)
  (((iterL (fun x : Int × Int × List Int × List Int × Unit => integer_Format.s2 x.1 x.2.1 x.2.2.1 x.2.2.2.1) (((List.length a44 : Nat) : Int), (0 : Int), a44, (List.replicate ((((List.length a44 : Nat) : Int)).toNat) ((0 : Int) : Int)), ())).bind fun y => integer_Format.k2 y.1))
  none)
def integer_Format.k1 (a44 : List (Int)) (b1 : Bool × List Int × Unit) : Option (ByteArray) :=
  (cond (b1.1)
  ((cond (decide (List.length a44 + List.length ([(45 : Int)] : List (Int)) ≤ maxL))
  ((integer_Format.j4 (a44 ++ ([(45 : Int)] : List (Int)))))
  none))
  ((integer_Format.j4 a44)))
def integer_Format.j1 (t3 : List Int) (b1_0 : Bool) (b1_1 : List Int) : Option (ByteArray) :=
  ((iterL (fun x : List Int × List Int × (Bool × List Int × Unit) × Unit => integer_Format.s1 x.1 x.2.1 x.2.2.1) (t3, ([] : List (Int)), (b1_0, (b1_1, ())), ())).bind fun y => integer_Format.k1 y.1 y.2.1)
def integer_Format (t0 : Bool × List Int × Unit) : Option (ByteArray) :=
  ((integer_Normalize (t0.1, (t0.2.1, ()))).bind fun y1 =>
  (cond ((((List.length y1.2.1 : Nat) : Int) == (0 : Int)))
  ((some (⟨#[48]⟩ : ByteArray)))
  ((integer_Format.j1 y1.2.1 t0.1 t0.2.1))))
def integer_Format.en : En := ⟨106, [tZ], .str, false, fun x => integer_Format x.1⟩
def integer_Format.o : List En := [integer_Normalize.en, integer_shortDivide.en]
def integer_Format.oB : List EnB := []
def integer_Format.h : HT := .two (.n) (.two (.n) (.two (.n) (.two (.n) (.two (.lp 1) (.two (.n) (.two (.n) (.two (.two (.n) (.lp 2)) (.two (.fr [54] []) (.n)))))))))
def integer_Format.c : Code := Tryz.f106.body.getD .skip
def integer_Format.h1 : HT := .two (.n) (.two (.n) (.two (.n) (.two (.n) (.lp 0))))
def integer_Format.c1 : Code := (find (loops integer_Format.c integer_Format.h) 1).getD .skip
def integer_Format.d1 : Fm := [.v 3 (.sl (.int .u32)), .arr 44 5 (.int .u8), .box 1 (tZ), .own 4 44, .ptr 1 1]
def integer_Format.x1 : Xs := [(.exit 0, [.arr 44 5 (.int .u8), .box 1 (tZ), .own 4 44, .ptr 1 1])]
def integer_Format.r1 (x : (Fm.ty integer_Format.d1).den) : Option ((Fm.ty integer_Format.d1).den ⊕ (Xs.T integer_Format.x1)) := integer_Format.s1 x.1 x.2.1 x.2.2.1
def integer_Format.h2 : HT := .n
def integer_Format.c2 : Code := (find (loops integer_Format.c integer_Format.h) 2).getD .skip
def integer_Format.d2 : Fm := [.v 56 (.int .i64), .v 57 (.int .i64), .arr 44 5 (.int .u8), .arr 54 5 (.int .u8), .own 4 44, .own 8 54]
def integer_Format.x2 : Xs := [(.exit 4, [.arr 54 5 (.int .u8), .own 8 54])]
def integer_Format.r2 (x : (Fm.ty integer_Format.d2).den) : Option ((Fm.ty integer_Format.d2).den ⊕ (Xs.T integer_Format.x2)) := integer_Format.s2 x.1 x.2.1 x.2.2.1 x.2.2.2.1
def integer_Format.h0 : HT := .n
def integer_Format.c0 : Code := (find (loops integer_Format.c1 integer_Format.h1) 0).getD .skip
def integer_Format.d0 : Fm := [.v 3 (.sl (.int .u32)), .v 6 (.int .u32), .v 7 (.int .i64), .arr 44 5 (.int .u8), .box 1 (tZ), .own 4 44, .ptr 1 1]
def integer_Format.x0 : Xs := [(.exit 2, [.v 3 (.sl (.int .u32)), .arr 44 5 (.int .u8), .box 1 (tZ), .own 4 44, .ptr 1 1])]
def integer_Format.r0 (x : (Fm.ty integer_Format.d0).den) : Option ((Fm.ty integer_Format.d0).den ⊕ (Xs.T integer_Format.x0)) := integer_Format.s0 x.1 x.2.1 x.2.2.1 x.2.2.2.1 x.2.2.2.2.1
def integer_Format.L : Lam := fun _ i s K => cond (Nat.beq i 0) (lamK integer_Format.d0 integer_Format.x0 integer_Format.r0 s K) (cond (Nat.beq i 1) (lamK integer_Format.d1 integer_Format.x1 integer_Format.r1 s K) (cond (Nat.beq i 2) (lamK integer_Format.d2 integer_Format.x2 integer_Format.r2 s K) (none)))
theorem integer_Format.hf0 (x) : roundK env (orc integer_Format.o) (orcB integer_Format.oB) 74 integer_Format.L integer_Format.c0 integer_Format.h0 integer_Format.d0 integer_Format.x0 x = integer_Format.r0 x := by kernel_rfl
theorem integer_Format.hf1 (x) : roundK env (orc integer_Format.o) (orcB integer_Format.oB) 74 integer_Format.L integer_Format.c1 integer_Format.h1 integer_Format.d1 integer_Format.x1 x = integer_Format.r1 x := by kernel_rfl
theorem integer_Format.hf2 (x) : roundK env (orc integer_Format.o) (orcB integer_Format.oB) 74 integer_Format.L integer_Format.c2 integer_Format.h2 integer_Format.d2 integer_Format.x2 x = integer_Format.r2 x := by kernel_rfl
theorem integer_Format.os : AllOk prog integer_Format.o := ⟨integer_Normalize.ok, integer_shortDivide.ok, trivial⟩
theorem integer_Format.osB : AllBOk prog integer_Format.oB := trivial
theorem integer_Format.l0 {C : Ctx} (hC : C.n = 74) : LamAt prog C integer_Format.L 0 integer_Format.c0 := by
  intro R s K r hk
  refine loop_ok (D := integer_Format.d0) (X := integer_Format.x0) (h := integer_Format.h0) (f := integer_Format.r0) tabs (orc_ok _ integer_Format.os) (orcB_ok _ integer_Format.osB) (fun x => by rw [hC]; exact integer_Format.hf0 x) (Λ := integer_Format.L) ?_ (by kernel_rfl) (by kernel_rfl) (K := K) (s := s) (by exact hk)
  exact by
    have e : loops integer_Format.c0 integer_Format.h0 = [] := by kernel_rfl
    rw [e]
    exact LamOk.nil
theorem integer_Format.l1 {C : Ctx} (hC : C.n = 74) : LamAt prog C integer_Format.L 1 integer_Format.c1 := by
  intro R s K r hk
  refine loop_ok (D := integer_Format.d1) (X := integer_Format.x1) (h := integer_Format.h1) (f := integer_Format.r1) tabs (orc_ok _ integer_Format.os) (orcB_ok _ integer_Format.osB) (fun x => by rw [hC]; exact integer_Format.hf1 x) (Λ := integer_Format.L) ?_ (by kernel_rfl) (by kernel_rfl) (K := K) (s := s) (by exact hk)
  exact by
    have e : loops integer_Format.c1 integer_Format.h1 = [(0, integer_Format.c0)] := by kernel_rfl
    rw [e]
    exact LamOk.cons (integer_Format.l0 hC) (LamOk.nil)
theorem integer_Format.l2 {C : Ctx} (hC : C.n = 74) : LamAt prog C integer_Format.L 2 integer_Format.c2 := by
  intro R s K r hk
  refine loop_ok (D := integer_Format.d2) (X := integer_Format.x2) (h := integer_Format.h2) (f := integer_Format.r2) tabs (orc_ok _ integer_Format.os) (orcB_ok _ integer_Format.osB) (fun x => by rw [hC]; exact integer_Format.hf2 x) (Λ := integer_Format.L) ?_ (by kernel_rfl) (by kernel_rfl) (K := K) (s := s) (by exact hk)
  exact by
    have e : loops integer_Format.c2 integer_Format.h2 = [] := by kernel_rfl
    rw [e]
    exact LamOk.nil
theorem integer_Format.hk (x) : semK env (orc integer_Format.o) (orcB integer_Format.oB) 74 (integer_Format.L _) integer_Format.c integer_Format.h (S.init (avs [tZ] x)) (fin env Tryz.f106 ⟨[tZ], .str, false, false⟩) = integer_Format.en.g x := by kernel_rfl
theorem integer_Format.ok : EnOk prog integer_Format.en := by
  refine fun_ok (g := ⟨[tZ], .str, false, false⟩) (h := integer_Format.h) (Λ := integer_Format.L) tabs integer_Format.os integer_Format.osB Tryz.func106 (c := integer_Format.c) (by kernel_rfl) (by decide +kernel) (by decide +kernel) (fun C hC => ?_) (fun x => integer_Format.hk x)
  exact by
    have e : loops integer_Format.c integer_Format.h = [(1, integer_Format.c1), (2, integer_Format.c2)] := by kernel_rfl
    rw [e]
    exact LamOk.cons (integer_Format.l1 hC) (LamOk.cons (integer_Format.l2 hC) (LamOk.nil))
def rational_Format.j1 (b1_0 : Bool) (b1_1 : List Int) (b1_2 : Bool) (b1_3 : List Int) : Option (ByteArray) :=
  ((integer_Format (b1_0, (b1_1, ()))).bind fun y4 =>
  (cond (decide (ByteArray.size y4 + ByteArray.size (⟨#[47]⟩ : ByteArray) ≤ maxL))
  (((integer_Format (b1_2, (b1_3, ()))).bind fun y5 =>
  (cond (decide (ByteArray.size (y4 ++ (⟨#[47]⟩ : ByteArray)) + ByteArray.size y5 ≤ maxL))
  ((some ((y4 ++ (⟨#[47]⟩ : ByteArray)) ++ y5)))
  none)))
  none))
def rational_Format (t0 : (Bool × List Int × Unit) × (Bool × List Int × Unit) × Unit) : Option (ByteArray) :=
  ((rational_Normalize ((t0.1.1, (t0.1.2.1, ())), ((t0.2.1.1, (t0.2.1.2.1, ())), ()))).bind fun y1 =>
  ((rational_IsWhole ((y1.1.1, (y1.1.2.1, ())), ((y1.2.1.1, (y1.2.1.2.1, ())), ()))).bind fun y2 =>
  (cond (y2)
  (((integer_Format (y1.1.1, (y1.1.2.1, ()))).bind fun y3 =>
  (some y3)))
  ((rational_Format.j1 y1.1.1 y1.1.2.1 y1.2.1.1 y1.2.1.2.1)))))
def rational_Format.en : En := ⟨48, [.pair (tZ) (.pair (tZ) (.unit))], .str, false, fun x => rational_Format x.1⟩
def rational_Format.o : List En := [rational_Normalize.en, rational_IsWhole.en, integer_Format.en]
def rational_Format.oB : List EnB := []
def rational_Format.h : HT := .n
def rational_Format.c : Code := Tryz.f48.body.getD .skip
def rational_Format.L : Lam := fun _ i s K => none
theorem rational_Format.os : AllOk prog rational_Format.o := ⟨rational_Normalize.ok, rational_IsWhole.ok, integer_Format.ok, trivial⟩
theorem rational_Format.osB : AllBOk prog rational_Format.oB := trivial
theorem rational_Format.hk (x) : semK env (orc rational_Format.o) (orcB rational_Format.oB) 18 (rational_Format.L _) rational_Format.c rational_Format.h (S.init (avs [.pair (tZ) (.pair (tZ) (.unit))] x)) (fin env Tryz.f48 ⟨[.pair (tZ) (.pair (tZ) (.unit))], .str, false, false⟩) = rational_Format.en.g x := by kernel_rfl
theorem rational_Format.ok : EnOk prog rational_Format.en := by
  refine fun_ok (g := ⟨[.pair (tZ) (.pair (tZ) (.unit))], .str, false, false⟩) (h := rational_Format.h) (Λ := rational_Format.L) tabs rational_Format.os rational_Format.osB Tryz.func48 (c := rational_Format.c) (by kernel_rfl) (by decide +kernel) (by decide +kernel) (fun C hC => ?_) (fun x => rational_Format.hk x)
  exact by
    have e : loops rational_Format.c rational_Format.h = [] := by kernel_rfl
    rw [e]
    exact LamOk.nil
def quadformlaw32_awake  : Option (Bool) :=
  ((quadformlaw32_symbol (2 : Int) (1 : Int) (2 : Int)).bind fun y1 =>
  ((localmass_Mass y1).bind fun y2 =>
  ((quadformlaw32_symbol (3 : Int) (1 : Int) (3 : Int)).bind fun y3 =>
  ((localmass_Mass y3).bind fun y4 =>
  ((localmass_Standard (3 : Int) (1 : Int) (2 : Int)).bind fun y5 =>
  (cond ((y2.2.1 == (0 : Int)))
  ((cond ((y4.2.1 == (0 : Int)))
  ((cond ((y5.2.1 == (0 : Int)))
  (((rational_Format ((y2.1.1.1.1, (y2.1.1.1.2.1, ())), ((y2.1.1.2.1.1, (y2.1.1.2.1.2.1, ())), ()))).bind fun y6 =>
  (cond (((ByteArray.toList y6) == (ByteArray.toList (⟨#[49, 47, 56]⟩ : ByteArray))))
  (((rational_Format ((y4.1.1.1.1, (y4.1.1.1.2.1, ())), ((y4.1.1.2.1.1, (y4.1.1.2.1.2.1, ())), ()))).bind fun y8 =>
  (cond (((ByteArray.toList y8) == (ByteArray.toList (⟨#[49, 47, 49, 50]⟩ : ByteArray))))
  (((rational_Format ((y5.1.1.1, (y5.1.1.2.1, ())), ((y5.1.2.1.1, (y5.1.2.1.2.1, ())), ()))).bind fun y10 =>
  (cond (((ByteArray.toList y10) == (ByteArray.toList (⟨#[50, 47, 51]⟩ : ByteArray))))
  ((some (!y2.1.2.1)))
  ((some false)))))
  ((some false)))))
  ((some false)))))
  ((some false))))
  ((some false))))
  ((some false))))))))
def quadformlaw32_awake.en : En := ⟨15, [], .bool, false, fun x => quadformlaw32_awake⟩
def quadformlaw32_awake.o : List En := [localmass_Mass.en, localmass_Standard.en, quadformlaw32_symbol.en, rational_Format.en]
def quadformlaw32_awake.oB : List EnB := []
def quadformlaw32_awake.h : HT := .n
def quadformlaw32_awake.c : Code := Tryz.f15.body.getD .skip
def quadformlaw32_awake.L : Lam := fun _ i s K => none
theorem quadformlaw32_awake.os : AllOk prog quadformlaw32_awake.o := ⟨localmass_Mass.ok, localmass_Standard.ok, quadformlaw32_symbol.ok, rational_Format.ok, trivial⟩
theorem quadformlaw32_awake.osB : AllBOk prog quadformlaw32_awake.oB := trivial
theorem quadformlaw32_awake.hk (x) : semK env (orc quadformlaw32_awake.o) (orcB quadformlaw32_awake.oB) 53 (quadformlaw32_awake.L _) quadformlaw32_awake.c quadformlaw32_awake.h (S.init (avs [] x)) (fin env Tryz.f15 ⟨[], .bool, false, false⟩) = quadformlaw32_awake.en.g x := by kernel_rfl
theorem quadformlaw32_awake.ok : EnOk prog quadformlaw32_awake.en := by
  refine fun_ok (g := ⟨[], .bool, false, false⟩) (h := quadformlaw32_awake.h) (Λ := quadformlaw32_awake.L) tabs quadformlaw32_awake.os quadformlaw32_awake.osB Tryz.func15 (c := quadformlaw32_awake.c) (by kernel_rfl) (by decide +kernel) (by decide +kernel) (fun C hC => ?_) (fun x => quadformlaw32_awake.hk x)
  exact by
    have e : loops quadformlaw32_awake.c quadformlaw32_awake.h = [] := by kernel_rfl
    rw [e]
    exact LamOk.nil
def quadformscene_Prime (t0 : Int) : Option (Int) :=
  let x1 := ((List.length ([(2 : Int), (3 : Int), (5 : Int), (7 : Int), (2 : Int), (3 : Int), (5 : Int), (11 : Int), (13 : Int), (17 : Int), (19 : Int), (23 : Int), (3 : Int), (2 : Int), (9973 : Int), (10007 : Int), (1 : Int), (4 : Int), (9 : Int), (-3 : Int)] : List (Int)) : Nat) : Int)
  (cond (decide (x1 = 0))
  none
  ((cond (inB (Int.tmod (IntKind.wrap .i64 t0) x1) (List.length ([(2 : Int), (3 : Int), (5 : Int), (7 : Int), (2 : Int), (3 : Int), (5 : Int), (11 : Int), (13 : Int), (17 : Int), (19 : Int), (23 : Int), (3 : Int), (2 : Int), (9973 : Int), (10007 : Int), (1 : Int), (4 : Int), (9 : Int), (-3 : Int)] : List (Int))))
  ((some (List.getD ([(2 : Int), (3 : Int), (5 : Int), (7 : Int), (2 : Int), (3 : Int), (5 : Int), (11 : Int), (13 : Int), (17 : Int), (19 : Int), (23 : Int), (3 : Int), (2 : Int), (9973 : Int), (10007 : Int), (1 : Int), (4 : Int), (9 : Int), (-3 : Int)] : List (Int)) (((Int.tmod (IntKind.wrap .i64 t0) x1)).toNat) (0 : Int))))
  none)))
def quadformscene_Prime.en : En := ⟨24, [.int .u8], .int .i64, false, fun x => quadformscene_Prime x.1⟩
def quadformscene_Prime.o : List En := []
def quadformscene_Prime.oB : List EnB := []
def quadformscene_Prime.h : HT := .n
def quadformscene_Prime.c : Code := Tryz.f24.body.getD .skip
def quadformscene_Prime.L : Lam := fun _ i s K => none
theorem quadformscene_Prime.os : AllOk prog quadformscene_Prime.o := trivial
theorem quadformscene_Prime.osB : AllBOk prog quadformscene_Prime.oB := trivial
theorem quadformscene_Prime.hk (x) : semK env (orc quadformscene_Prime.o) (orcB quadformscene_Prime.oB) 13 (quadformscene_Prime.L _) quadformscene_Prime.c quadformscene_Prime.h (S.init (avs [.int .u8] x)) (fin env Tryz.f24 ⟨[.int .u8], .int .i64, false, false⟩) = quadformscene_Prime.en.g x := by kernel_rfl
theorem quadformscene_Prime.ok : EnOk prog quadformscene_Prime.en := by
  refine fun_ok (g := ⟨[.int .u8], .int .i64, false, false⟩) (h := quadformscene_Prime.h) (Λ := quadformscene_Prime.L) tabs quadformscene_Prime.os quadformscene_Prime.osB Tryz.func24 (c := quadformscene_Prime.c) (by kernel_rfl) (by decide +kernel) (by decide +kernel) (fun C hC => ?_) (fun x => quadformscene_Prime.hk x)
  exact by
    have e : loops quadformscene_Prime.c quadformscene_Prime.h = [] := by kernel_rfl
    rw [e]
    exact LamOk.nil
def r22_Is.j3 (t0 : Int) (t3 : Int) : Option ((Int × Int × Unit) ⊕ ((Unit) ⊕ (Bool × Unit))) :=
  (some (.inl (t0, (IntKind.wrap .i64 (t3 + (1 : Int))), ())))
def r22_Is.j2 (t0 : Int) (t3 : Int) : Option ((Int × Int × Unit) ⊕ ((Unit) ⊕ (Bool × Unit))) :=
  (cond (decide (t3 = 0))
  none
  ((cond (((Int.tmod t0 t3) == (0 : Int)))
  ((some (.inr (.inr (false, ())))))
  ((r22_Is.j3 t0 t3)))))
def r22_Is.s0 (t0 : Int) (t3 : Int) : Option ((Int × Int × Unit) ⊕ ((Unit) ⊕ (Bool × Unit))) :=
  (cond ((decide ((IntKind.wrap .i64 (t3 * t3)) ≤ t0)))
  ((r22_Is.j2 t0 t3))
  ((some (.inr (.inl ())))))
def r22_Is.k0_0  : Option (Bool) :=
  (some true)
def r22_Is.k0_1 (t2 : Bool) : Option (Bool) :=
  (some t2)
def r22_Is.j1 (t0 : Int) : Option (Bool) :=
  ((iterL (fun x : Int × Int × Unit => r22_Is.s0 x.1 x.2.1) (t0, (2 : Int), ())).bind fun z => Sum.casesOn z (fun y => r22_Is.k0_0) (fun z => r22_Is.k0_1 z.1))
def r22_Is (t0 : Int) : Option (Bool) :=
  (cond ((decide (t0 < (2 : Int))))
  ((some false))
  ((cond ((decide (t0 > (2147483647 : Int))))
  ((some false))
  ((r22_Is.j1 t0)))))
def r22_Is.en : En := ⟨139, [.int .i64], .bool, false, fun x => r22_Is x.1⟩
def r22_Is.o : List En := []
def r22_Is.oB : List EnB := []
def r22_Is.h : HT := .two (.n) (.two (.n) (.two (.two (.n) (.lp 0)) (.n)))
def r22_Is.c : Code := Tryz.f139.body.getD .skip
def r22_Is.h0 : HT := .n
def r22_Is.c0 : Code := (find (loops r22_Is.c r22_Is.h) 0).getD .skip
def r22_Is.d0 : Fm := [.v 0 (.int .i64), .v 3 (.int .i64)]
def r22_Is.x0 : Xs := [(.exit 0, []), (.ret, [.v 2 (.bool)])]
def r22_Is.r0 (x : (Fm.ty r22_Is.d0).den) : Option ((Fm.ty r22_Is.d0).den ⊕ (Xs.T r22_Is.x0)) := r22_Is.s0 x.1 x.2.1
def r22_Is.L : Lam := fun _ i s K => cond (Nat.beq i 0) (lamK r22_Is.d0 r22_Is.x0 r22_Is.r0 s K) (none)
theorem r22_Is.hf0 (x) : roundK env (orc r22_Is.o) (orcB r22_Is.oB) 21 r22_Is.L r22_Is.c0 r22_Is.h0 r22_Is.d0 r22_Is.x0 x = r22_Is.r0 x := by kernel_rfl
theorem r22_Is.os : AllOk prog r22_Is.o := trivial
theorem r22_Is.osB : AllBOk prog r22_Is.oB := trivial
theorem r22_Is.l0 {C : Ctx} (hC : C.n = 21) : LamAt prog C r22_Is.L 0 r22_Is.c0 := by
  intro R s K r hk
  refine loop_ok (D := r22_Is.d0) (X := r22_Is.x0) (h := r22_Is.h0) (f := r22_Is.r0) tabs (orc_ok _ r22_Is.os) (orcB_ok _ r22_Is.osB) (fun x => by rw [hC]; exact r22_Is.hf0 x) (Λ := r22_Is.L) ?_ (by kernel_rfl) (by kernel_rfl) (K := K) (s := s) (by exact hk)
  exact by
    have e : loops r22_Is.c0 r22_Is.h0 = [] := by kernel_rfl
    rw [e]
    exact LamOk.nil
theorem r22_Is.hk (x) : semK env (orc r22_Is.o) (orcB r22_Is.oB) 21 (r22_Is.L _) r22_Is.c r22_Is.h (S.init (avs [.int .i64] x)) (fin env Tryz.f139 ⟨[.int .i64], .bool, false, false⟩) = r22_Is.en.g x := by kernel_rfl
theorem r22_Is.ok : EnOk prog r22_Is.en := by
  refine fun_ok (g := ⟨[.int .i64], .bool, false, false⟩) (h := r22_Is.h) (Λ := r22_Is.L) tabs r22_Is.os r22_Is.osB Tryz.func139 (c := r22_Is.c) (by kernel_rfl) (by decide +kernel) (by decide +kernel) (fun C hC => ?_) (fun x => r22_Is.hk x)
  exact by
    have e : loops r22_Is.c r22_Is.h = [(0, r22_Is.c0)] := by kernel_rfl
    rw [e]
    exact LamOk.cons (r22_Is.l0 hC) (LamOk.nil)
def r24_Small (t0 : Int) : Option (Bool) :=
  (cond ((decide (t0 ≤ (9973 : Int))))
  (((r22_Is t0).bind fun y1 =>
  (some y1)))
  ((some false)))
def r24_Small.en : En := ⟨66, [.int .i64], .bool, false, fun x => r24_Small x.1⟩
def r24_Small.o : List En := [r22_Is.en]
def r24_Small.oB : List EnB := []
def r24_Small.h : HT := .n
def r24_Small.c : Code := Tryz.f66.body.getD .skip
def r24_Small.L : Lam := fun _ i s K => none
theorem r24_Small.os : AllOk prog r24_Small.o := ⟨r22_Is.ok, trivial⟩
theorem r24_Small.osB : AllBOk prog r24_Small.oB := trivial
theorem r24_Small.hk (x) : semK env (orc r24_Small.o) (orcB r24_Small.oB) 9 (r24_Small.L _) r24_Small.c r24_Small.h (S.init (avs [.int .i64] x)) (fin env Tryz.f66 ⟨[.int .i64], .bool, false, false⟩) = r24_Small.en.g x := by kernel_rfl
theorem r24_Small.ok : EnOk prog r24_Small.en := by
  refine fun_ok (g := ⟨[.int .i64], .bool, false, false⟩) (h := r24_Small.h) (Λ := r24_Small.L) tabs r24_Small.os r24_Small.osB Tryz.func66 (c := r24_Small.c) (by kernel_rfl) (by decide +kernel) (by decide +kernel) (fun C hC => ?_) (fun x => r24_Small.hk x)
  exact by
    have e : loops r24_Small.c r24_Small.h = [] := by kernel_rfl
    rw [e]
    exact LamOk.nil
def r01_trim.j1 (t0 : List Int) (t3 : Int) : Option ((List Int × Int × Unit) ⊕ ((List Int × Int × Unit))) :=
  (some (.inl (t0, (IntKind.wrap .i64 (t3 - (1 : Int))), ())))
def r01_trim.s0 (t0 : List Int) (t3 : Int) : Option ((List Int × Int × Unit) ⊕ ((List Int × Int × Unit))) :=
  (cond ((decide (t3 > (0 : Int))))
  ((cond (inB (IntKind.wrap .i64 (t3 - (1 : Int))) (List.length t0))
  ((cond (((List.getD t0 (((IntKind.wrap .i64 (t3 - (1 : Int)))).toNat) (0 : Int)) == (0 : Int)))
  ((r01_trim.j1 t0 t3))
  ((some (.inr (t0, t3, ()))))))
  none))
  ((some (.inr (t0, t3, ())))))
def r01_trim.k0 (t0 : List Int) (t3 : Int) : Option (List Int) :=
  (cond (inC t3 (List.length t0))
  ((cond (decide (List.length (List.take (t3.toNat) t0) ≤ maxL))
  ((some (List.take (t3.toNat) t0)))
  none))
  none)
def r01_trim (t0 : List Int) : Option (List Int) :=
  ((iterL (fun x : List Int × Int × Unit => r01_trim.s0 x.1 x.2.1) (t0, ((List.length t0 : Nat) : Int), ())).bind fun y => r01_trim.k0 y.1 y.2.1)
def r01_trim.en : En := ⟨97, [.sl (.int .u32)], .sl (.int .u32), false, fun x => r01_trim x.1⟩
def r01_trim.o : List En := []
def r01_trim.oB : List EnB := []
def r01_trim.h : HT := .two (.n) (.two (.n) (.two (.lp 0) (.n)))
def r01_trim.c : Code := Tryz.f97.body.getD .skip
def r01_trim.h0 : HT := .n
def r01_trim.c0 : Code := (find (loops r01_trim.c r01_trim.h) 0).getD .skip
def r01_trim.d0 : Fm := [.v 0 (.sl (.int .u32)), .v 3 (.int .i64)]
def r01_trim.x0 : Xs := [(.exit 0, [.v 0 (.sl (.int .u32)), .v 3 (.int .i64)])]
def r01_trim.r0 (x : (Fm.ty r01_trim.d0).den) : Option ((Fm.ty r01_trim.d0).den ⊕ (Xs.T r01_trim.x0)) := r01_trim.s0 x.1 x.2.1
def r01_trim.L : Lam := fun _ i s K => cond (Nat.beq i 0) (lamK r01_trim.d0 r01_trim.x0 r01_trim.r0 s K) (none)
theorem r01_trim.hf0 (x) : roundK env (orc r01_trim.o) (orcB r01_trim.oB) 22 r01_trim.L r01_trim.c0 r01_trim.h0 r01_trim.d0 r01_trim.x0 x = r01_trim.r0 x := by kernel_rfl
theorem r01_trim.os : AllOk prog r01_trim.o := trivial
theorem r01_trim.osB : AllBOk prog r01_trim.oB := trivial
theorem r01_trim.l0 {C : Ctx} (hC : C.n = 22) : LamAt prog C r01_trim.L 0 r01_trim.c0 := by
  intro R s K r hk
  refine loop_ok (D := r01_trim.d0) (X := r01_trim.x0) (h := r01_trim.h0) (f := r01_trim.r0) tabs (orc_ok _ r01_trim.os) (orcB_ok _ r01_trim.osB) (fun x => by rw [hC]; exact r01_trim.hf0 x) (Λ := r01_trim.L) ?_ (by kernel_rfl) (by kernel_rfl) (K := K) (s := s) (by exact hk)
  exact by
    have e : loops r01_trim.c0 r01_trim.h0 = [] := by kernel_rfl
    rw [e]
    exact LamOk.nil
theorem r01_trim.hk (x) : semK env (orc r01_trim.o) (orcB r01_trim.oB) 22 (r01_trim.L _) r01_trim.c r01_trim.h (S.init (avs [.sl (.int .u32)] x)) (fin env Tryz.f97 ⟨[.sl (.int .u32)], .sl (.int .u32), false, false⟩) = r01_trim.en.g x := by kernel_rfl
theorem r01_trim.ok : EnOk prog r01_trim.en := by
  refine fun_ok (g := ⟨[.sl (.int .u32)], .sl (.int .u32), false, false⟩) (h := r01_trim.h) (Λ := r01_trim.L) tabs r01_trim.os r01_trim.osB Tryz.func97 (c := r01_trim.c) (by kernel_rfl) (by decide +kernel) (by decide +kernel) (fun C hC => ?_) (fun x => r01_trim.hk x)
  exact by
    have e : loops r01_trim.c r01_trim.h = [(0, r01_trim.c0)] := by kernel_rfl
    rw [e]
    exact LamOk.cons (r01_trim.l0 hC) (LamOk.nil)
def r01_Make (t0 : Bool) (t1 : List Int) : Option (Bool × List Int × Unit) :=
  ((r01_trim t1).bind fun y1 =>
  (cond (t0)
  ((some ((decide (((List.length y1 : Nat) : Int) > (0 : Int))), (y1, ()))))
  ((some (false, (y1, ()))))))
def r01_Make.en : En := ⟨181, [.bool, .sl (.int .u32)], tZ, false, fun x => r01_Make x.1 x.2.1⟩
def r01_Make.o : List En := [r01_trim.en]
def r01_Make.oB : List EnB := []
def r01_Make.h : HT := .n
def r01_Make.c : Code := Tryz.f181.body.getD .skip
def r01_Make.L : Lam := fun _ i s K => none
theorem r01_Make.os : AllOk prog r01_Make.o := ⟨r01_trim.ok, trivial⟩
theorem r01_Make.osB : AllBOk prog r01_Make.oB := trivial
theorem r01_Make.hk (x) : semK env (orc r01_Make.o) (orcB r01_Make.oB) 16 (r01_Make.L _) r01_Make.c r01_Make.h (S.init (avs [.bool, .sl (.int .u32)] x)) (fin env Tryz.f181 ⟨[.bool, .sl (.int .u32)], tZ, false, false⟩) = r01_Make.en.g x := by kernel_rfl
theorem r01_Make.ok : EnOk prog r01_Make.en := by
  refine fun_ok (g := ⟨[.bool, .sl (.int .u32)], tZ, false, false⟩) (h := r01_Make.h) (Λ := r01_Make.L) tabs r01_Make.os r01_Make.osB Tryz.func181 (c := r01_Make.c) (by kernel_rfl) (by decide +kernel) (by decide +kernel) (fun C hC => ?_) (fun x => r01_Make.hk x)
  exact by
    have e : loops r01_Make.c r01_Make.h = [] := by kernel_rfl
    rw [e]
    exact LamOk.nil
def r01_word (t0 : Bool) (t1 : Int) : Option (Bool × List Int × Unit) :=
  ((r01_Make t0 ([(IntKind.wrap .u32 t1), (IntKind.wrap .u32 (shrI .u64 t1 (32 : Int)))] : List (Int))).bind fun y2 =>
  (some (y2.1, (y2.2.1, ()))))
def r01_word.en : En := ⟨138, [.bool, .int .u64], tZ, false, fun x => r01_word x.1 x.2.1⟩
def r01_word.o : List En := [r01_Make.en]
def r01_word.oB : List EnB := []
def r01_word.h : HT := .n
def r01_word.c : Code := Tryz.f138.body.getD .skip
def r01_word.L : Lam := fun _ i s K => none
theorem r01_word.os : AllOk prog r01_word.o := ⟨r01_Make.ok, trivial⟩
theorem r01_word.osB : AllBOk prog r01_word.oB := trivial
theorem r01_word.hk (x) : semK env (orc r01_word.o) (orcB r01_word.oB) 13 (r01_word.L _) r01_word.c r01_word.h (S.init (avs [.bool, .int .u64] x)) (fin env Tryz.f138 ⟨[.bool, .int .u64], tZ, false, false⟩) = r01_word.en.g x := by kernel_rfl
theorem r01_word.ok : EnOk prog r01_word.en := by
  refine fun_ok (g := ⟨[.bool, .int .u64], tZ, false, false⟩) (h := r01_word.h) (Λ := r01_word.L) tabs r01_word.os r01_word.osB Tryz.func138 (c := r01_word.c) (by kernel_rfl) (by decide +kernel) (by decide +kernel) (fun C hC => ?_) (fun x => r01_word.hk x)
  exact by
    have e : loops r01_word.c r01_word.h = [] := by kernel_rfl
    rw [e]
    exact LamOk.nil
def r01_Small.j1 (t0 : Int) (b2_1 : List Int) : Option (Bool × List Int × Unit) :=
  ((r01_word false (IntKind.wrap .u64 t0)).bind fun y3 =>
  (some (y3.1, (y3.2.1, ()))))
def r01_Small (t0 : Int) : Option (Bool × List Int × Unit) :=
  (cond ((decide (t0 < (0 : Int))))
  (((r01_word true (IntKind.wrap .u64 (0 - (IntKind.wrap .u64 t0)))).bind fun y2 =>
  (some (y2.1, (y2.2.1, ())))))
  ((r01_Small.j1 t0 ([] : List Int))))
def r01_Small.en : En := ⟨65, [.int .i64], tZ, false, fun x => r01_Small x.1⟩
def r01_Small.o : List En := [r01_word.en]
def r01_Small.oB : List EnB := []
def r01_Small.h : HT := .n
def r01_Small.c : Code := Tryz.f65.body.getD .skip
def r01_Small.L : Lam := fun _ i s K => none
theorem r01_Small.os : AllOk prog r01_Small.o := ⟨r01_word.ok, trivial⟩
theorem r01_Small.osB : AllBOk prog r01_Small.oB := trivial
theorem r01_Small.hk (x) : semK env (orc r01_Small.o) (orcB r01_Small.oB) 12 (r01_Small.L _) r01_Small.c r01_Small.h (S.init (avs [.int .i64] x)) (fin env Tryz.f65 ⟨[.int .i64], tZ, false, false⟩) = r01_Small.en.g x := by kernel_rfl
theorem r01_Small.ok : EnOk prog r01_Small.en := by
  refine fun_ok (g := ⟨[.int .i64], tZ, false, false⟩) (h := r01_Small.h) (Λ := r01_Small.L) tabs r01_Small.os r01_Small.osB Tryz.func65 (c := r01_Small.c) (by kernel_rfl) (by decide +kernel) (by decide +kernel) (fun C hC => ?_) (fun x => r01_Small.hk x)
  exact by
    have e : loops r01_Small.c r01_Small.h = [] := by kernel_rfl
    rw [e]
    exact LamOk.nil
def r01_Normalize (t0 : Bool × List Int × Unit) : Option (Bool × List Int × Unit) :=
  ((r01_Make t0.1 t0.2.1).bind fun y1 =>
  (some (y1.1, (y1.2.1, ()))))
def r01_Normalize.en : En := ⟨166, [tZ], tZ, false, fun x => r01_Normalize x.1⟩
def r01_Normalize.o : List En := [r01_Make.en]
def r01_Normalize.oB : List EnB := []
def r01_Normalize.h : HT := .n
def r01_Normalize.c : Code := Tryz.f166.body.getD .skip
def r01_Normalize.L : Lam := fun _ i s K => none
theorem r01_Normalize.os : AllOk prog r01_Normalize.o := ⟨r01_Make.ok, trivial⟩
theorem r01_Normalize.osB : AllBOk prog r01_Normalize.oB := trivial
theorem r01_Normalize.hk (x) : semK env (orc r01_Normalize.o) (orcB r01_Normalize.oB) 8 (r01_Normalize.L _) r01_Normalize.c r01_Normalize.h (S.init (avs [tZ] x)) (fin env Tryz.f166 ⟨[tZ], tZ, false, false⟩) = r01_Normalize.en.g x := by kernel_rfl
theorem r01_Normalize.ok : EnOk prog r01_Normalize.en := by
  refine fun_ok (g := ⟨[tZ], tZ, false, false⟩) (h := r01_Normalize.h) (Λ := r01_Normalize.L) tabs r01_Normalize.os r01_Normalize.osB Tryz.func166 (c := r01_Normalize.c) (by kernel_rfl) (by decide +kernel) (by decide +kernel) (fun C hC => ?_) (fun x => r01_Normalize.hk x)
  exact by
    have e : loops r01_Normalize.c r01_Normalize.h = [] := by kernel_rfl
    rw [e]
    exact LamOk.nil
def r02_Whole (t0 : Bool × List Int × Unit) : Option ((Bool × List Int × Unit) × (Bool × List Int × Unit) × Unit) :=
  ((r01_Normalize (t0.1, (t0.2.1, ()))).bind fun y1 =>
  ((r01_Small (1 : Int)).bind fun y2 =>
  (some ((y1.1, (y1.2.1, ())), ((y2.1, (y2.2.1, ())), ())))))
def r02_Whole.en : En := ⟨198, [tZ], .pair (tZ) (.pair (tZ) (.unit)), false, fun x => r02_Whole x.1⟩
def r02_Whole.o : List En := [r01_Small.en, r01_Normalize.en]
def r02_Whole.oB : List EnB := []
def r02_Whole.h : HT := .n
def r02_Whole.c : Code := Tryz.f198.body.getD .skip
def r02_Whole.L : Lam := fun _ i s K => none
theorem r02_Whole.os : AllOk prog r02_Whole.o := ⟨r01_Small.ok, r01_Normalize.ok, trivial⟩
theorem r02_Whole.osB : AllBOk prog r02_Whole.oB := trivial
theorem r02_Whole.hk (x) : semK env (orc r02_Whole.o) (orcB r02_Whole.oB) 7 (r02_Whole.L _) r02_Whole.c r02_Whole.h (S.init (avs [tZ] x)) (fin env Tryz.f198 ⟨[tZ], .pair (tZ) (.pair (tZ) (.unit)), false, false⟩) = r02_Whole.en.g x := by kernel_rfl
theorem r02_Whole.ok : EnOk prog r02_Whole.en := by
  refine fun_ok (g := ⟨[tZ], .pair (tZ) (.pair (tZ) (.unit)), false, false⟩) (h := r02_Whole.h) (Λ := r02_Whole.L) tabs r02_Whole.os r02_Whole.osB Tryz.func198 (c := r02_Whole.c) (by kernel_rfl) (by decide +kernel) (by decide +kernel) (fun C hC => ?_) (fun x => r02_Whole.hk x)
  exact by
    have e : loops r02_Whole.c r02_Whole.h = [] := by kernel_rfl
    rw [e]
    exact LamOk.nil
def r02_Small (t0 : Int) : Option ((Bool × List Int × Unit) × (Bool × List Int × Unit) × Unit) :=
  ((r01_Small t0).bind fun y1 =>
  ((r02_Whole y1).bind fun y2 =>
  (some ((y2.1.1, (y2.1.2.1, ())), ((y2.2.1.1, (y2.2.1.2.1, ())), ())))))
def r02_Small.en : En := ⟨140, [.int .i64], .pair (tZ) (.pair (tZ) (.unit)), false, fun x => r02_Small x.1⟩
def r02_Small.o : List En := [r01_Small.en, r02_Whole.en]
def r02_Small.oB : List EnB := []
def r02_Small.h : HT := .n
def r02_Small.c : Code := Tryz.f140.body.getD .skip
def r02_Small.L : Lam := fun _ i s K => none
theorem r02_Small.os : AllOk prog r02_Small.o := ⟨r01_Small.ok, r02_Whole.ok, trivial⟩
theorem r02_Small.osB : AllBOk prog r02_Small.oB := trivial
theorem r02_Small.hk (x) : semK env (orc r02_Small.o) (orcB r02_Small.oB) 6 (r02_Small.L _) r02_Small.c r02_Small.h (S.init (avs [.int .i64] x)) (fin env Tryz.f140 ⟨[.int .i64], .pair (tZ) (.pair (tZ) (.unit)), false, false⟩) = r02_Small.en.g x := by kernel_rfl
theorem r02_Small.ok : EnOk prog r02_Small.en := by
  refine fun_ok (g := ⟨[.int .i64], .pair (tZ) (.pair (tZ) (.unit)), false, false⟩) (h := r02_Small.h) (Λ := r02_Small.L) tabs r02_Small.os r02_Small.osB Tryz.func140 (c := r02_Small.c) (by kernel_rfl) (by decide +kernel) (by decide +kernel) (fun C hC => ?_) (fun x => r02_Small.hk x)
  exact by
    have e : loops r02_Small.c r02_Small.h = [] := by kernel_rfl
    rw [e]
    exact LamOk.nil
def r01_Sign.j2  : Option (Int) :=
  (some (1 : Int))
def r01_Sign.j1  : Option (Int) :=
  (r01_Sign.j2)
def r01_Sign (t0 : Bool × List Int × Unit) : Option (Int) :=
  ((r01_trim t0.2.1).bind fun y1 =>
  (cond ((((List.length y1 : Nat) : Int) == (0 : Int)))
  ((some (0 : Int)))
  ((cond (t0.1)
  ((some (-1 : Int)))
  ((r01_Sign.j1))))))
def r01_Sign.en : En := ⟨99, [tZ], .int .i64, false, fun x => r01_Sign x.1⟩
def r01_Sign.o : List En := [r01_trim.en]
def r01_Sign.oB : List EnB := []
def r01_Sign.h : HT := .n
def r01_Sign.c : Code := Tryz.f99.body.getD .skip
def r01_Sign.L : Lam := fun _ i s K => none
theorem r01_Sign.os : AllOk prog r01_Sign.o := ⟨r01_trim.ok, trivial⟩
theorem r01_Sign.osB : AllBOk prog r01_Sign.oB := trivial
theorem r01_Sign.hk (x) : semK env (orc r01_Sign.o) (orcB r01_Sign.oB) 12 (r01_Sign.L _) r01_Sign.c r01_Sign.h (S.init (avs [tZ] x)) (fin env Tryz.f99 ⟨[tZ], .int .i64, false, false⟩) = r01_Sign.en.g x := by kernel_rfl
theorem r01_Sign.ok : EnOk prog r01_Sign.en := by
  refine fun_ok (g := ⟨[tZ], .int .i64, false, false⟩) (h := r01_Sign.h) (Λ := r01_Sign.L) tabs r01_Sign.os r01_Sign.osB Tryz.func99 (c := r01_Sign.c) (by kernel_rfl) (by decide +kernel) (by decide +kernel) (fun C hC => ?_) (fun x => r01_Sign.hk x)
  exact by
    have e : loops r01_Sign.c r01_Sign.h = [] := by kernel_rfl
    rw [e]
    exact LamOk.nil
def r01_Neg (t0 : Bool × List Int × Unit) : Option (Bool × List Int × Unit) :=
  ((r01_Make (!t0.1) t0.2.1).bind fun y1 =>
  (some (y1.1, (y1.2.1, ()))))
def r01_Neg.en : En := ⟨103, [tZ], tZ, false, fun x => r01_Neg x.1⟩
def r01_Neg.o : List En := [r01_Make.en]
def r01_Neg.oB : List EnB := []
def r01_Neg.h : HT := .n
def r01_Neg.c : Code := Tryz.f103.body.getD .skip
def r01_Neg.L : Lam := fun _ i s K => none
theorem r01_Neg.os : AllOk prog r01_Neg.o := ⟨r01_Make.ok, trivial⟩
theorem r01_Neg.osB : AllBOk prog r01_Neg.oB := trivial
theorem r01_Neg.hk (x) : semK env (orc r01_Neg.o) (orcB r01_Neg.oB) 9 (r01_Neg.L _) r01_Neg.c r01_Neg.h (S.init (avs [tZ] x)) (fin env Tryz.f103 ⟨[tZ], tZ, false, false⟩) = r01_Neg.en.g x := by kernel_rfl
theorem r01_Neg.ok : EnOk prog r01_Neg.en := by
  refine fun_ok (g := ⟨[tZ], tZ, false, false⟩) (h := r01_Neg.h) (Λ := r01_Neg.L) tabs r01_Neg.os r01_Neg.osB Tryz.func103 (c := r01_Neg.c) (by kernel_rfl) (by decide +kernel) (by decide +kernel) (fun C hC => ?_) (fun x => r01_Neg.hk x)
  exact by
    have e : loops r01_Neg.c r01_Neg.h = [] := by kernel_rfl
    rw [e]
    exact LamOk.nil
def r01_cmp.j1  : Option (Int) :=
  (some (1 : Int))
def r01_cmp.j4  : Option ((List Int × List Int × Int × Unit) ⊕ ((Unit) ⊕ (Int × Unit))) :=
  (some (.inr (.inr ((1 : Int), ()))))
def r01_cmp.j5 (t0 : List Int) (t1 : List Int) (t5 : Int) : Option ((List Int × List Int × Int × Unit) ⊕ ((Unit) ⊕ (Int × Unit))) :=
  (some (.inl (t0, t1, (IntKind.wrap .i64 (t5 - (1 : Int))), ())))
def r01_cmp.j3 (t0 : List Int) (t1 : List Int) (t5 : Int) : Option ((List Int × List Int × Int × Unit) ⊕ ((Unit) ⊕ (Int × Unit))) :=
  (cond (inB t5 (List.length t0))
  ((cond (inB t5 (List.length t1))
  ((cond (((List.getD t0 (t5.toNat) (0 : Int)) != (List.getD t1 (t5.toNat) (0 : Int))))
  ((cond (inB t5 (List.length t0))
  ((cond (inB t5 (List.length t1))
  ((cond ((decide ((List.getD t0 (t5.toNat) (0 : Int)) < (List.getD t1 (t5.toNat) (0 : Int)))))
  ((some (.inr (.inr ((-1 : Int), ())))))
  ((r01_cmp.j4))))
  none))
  none))
  ((r01_cmp.j5 t0 t1 t5))))
  none))
  none)
def r01_cmp.s0 (t0 : List Int) (t1 : List Int) (t5 : Int) : Option ((List Int × List Int × Int × Unit) ⊕ ((Unit) ⊕ (Int × Unit))) :=
  (cond ((decide (t5 ≥ (0 : Int))))
  ((r01_cmp.j3 t0 t1 t5))
  ((some (.inr (.inl ())))))
def r01_cmp.k0_0  : Option (Int) :=
  (some (0 : Int))
def r01_cmp.k0_1 (t4 : Int) : Option (Int) :=
  (some t4)
def r01_cmp.j2 (t0 : List Int) (t1 : List Int) : Option (Int) :=
  ((iterL (fun x : List Int × List Int × Int × Unit => r01_cmp.s0 x.1 x.2.1 x.2.2.1) (t0, t1, (IntKind.wrap .i64 (((List.length t0 : Nat) : Int) - (1 : Int))), ())).bind fun z => Sum.casesOn z (fun y => r01_cmp.k0_0) (fun z => r01_cmp.k0_1 z.1))
def r01_cmp (t0 : List Int) (t1 : List Int) : Option (Int) :=
  (cond ((((List.length t0 : Nat) : Int) != ((List.length t1 : Nat) : Int)))
  ((cond ((decide (((List.length t0 : Nat) : Int) < ((List.length t1 : Nat) : Int))))
  ((some (-1 : Int)))
  ((r01_cmp.j1))))
  ((r01_cmp.j2 t0 t1)))
def r01_cmp.en : En := ⟨143, [.sl (.int .u32), .sl (.int .u32)], .int .i64, false, fun x => r01_cmp x.1 x.2.1⟩
def r01_cmp.o : List En := []
def r01_cmp.oB : List EnB := []
def r01_cmp.h : HT := .two (.n) (.two (.n) (.two (.two (.n) (.lp 0)) (.n)))
def r01_cmp.c : Code := Tryz.f143.body.getD .skip
def r01_cmp.h0 : HT := .n
def r01_cmp.c0 : Code := (find (loops r01_cmp.c r01_cmp.h) 0).getD .skip
def r01_cmp.d0 : Fm := [.v 0 (.sl (.int .u32)), .v 1 (.sl (.int .u32)), .v 5 (.int .i64)]
def r01_cmp.x0 : Xs := [(.exit 0, []), (.ret, [.v 4 (.int .i64)])]
def r01_cmp.r0 (x : (Fm.ty r01_cmp.d0).den) : Option ((Fm.ty r01_cmp.d0).den ⊕ (Xs.T r01_cmp.x0)) := r01_cmp.s0 x.1 x.2.1 x.2.2.1
def r01_cmp.L : Lam := fun _ i s K => cond (Nat.beq i 0) (lamK r01_cmp.d0 r01_cmp.x0 r01_cmp.r0 s K) (none)
theorem r01_cmp.hf0 (x) : roundK env (orc r01_cmp.o) (orcB r01_cmp.oB) 41 r01_cmp.L r01_cmp.c0 r01_cmp.h0 r01_cmp.d0 r01_cmp.x0 x = r01_cmp.r0 x := by kernel_rfl
theorem r01_cmp.os : AllOk prog r01_cmp.o := trivial
theorem r01_cmp.osB : AllBOk prog r01_cmp.oB := trivial
theorem r01_cmp.l0 {C : Ctx} (hC : C.n = 41) : LamAt prog C r01_cmp.L 0 r01_cmp.c0 := by
  intro R s K r hk
  refine loop_ok (D := r01_cmp.d0) (X := r01_cmp.x0) (h := r01_cmp.h0) (f := r01_cmp.r0) tabs (orc_ok _ r01_cmp.os) (orcB_ok _ r01_cmp.osB) (fun x => by rw [hC]; exact r01_cmp.hf0 x) (Λ := r01_cmp.L) ?_ (by kernel_rfl) (by kernel_rfl) (K := K) (s := s) (by exact hk)
  exact by
    have e : loops r01_cmp.c0 r01_cmp.h0 = [] := by kernel_rfl
    rw [e]
    exact LamOk.nil
theorem r01_cmp.hk (x) : semK env (orc r01_cmp.o) (orcB r01_cmp.oB) 41 (r01_cmp.L _) r01_cmp.c r01_cmp.h (S.init (avs [.sl (.int .u32), .sl (.int .u32)] x)) (fin env Tryz.f143 ⟨[.sl (.int .u32), .sl (.int .u32)], .int .i64, false, false⟩) = r01_cmp.en.g x := by kernel_rfl
theorem r01_cmp.ok : EnOk prog r01_cmp.en := by
  refine fun_ok (g := ⟨[.sl (.int .u32), .sl (.int .u32)], .int .i64, false, false⟩) (h := r01_cmp.h) (Λ := r01_cmp.L) tabs r01_cmp.os r01_cmp.osB Tryz.func143 (c := r01_cmp.c) (by kernel_rfl) (by decide +kernel) (by decide +kernel) (fun C hC => ?_) (fun x => r01_cmp.hk x)
  exact by
    have e : loops r01_cmp.c r01_cmp.h = [(0, r01_cmp.c0)] := by kernel_rfl
    rw [e]
    exact LamOk.cons (r01_cmp.l0 hC) (LamOk.nil)
def r01_sum.j2 (t0 : List Int) (t1 : List Int) (t6 : Int) (t7 : Int) (a46 : List (Int)) : Option ((List Int × List Int × Int × Int × List Int × Unit) ⊕ ((Int × List Int × Unit))) :=
  (cond (decide (List.length a46 + List.length ([(IntKind.wrap .u32 t6)] : List (Int)) ≤ maxL))
  ((some (.inl (t0, t1, (shrI .u64 t6 (32 : Int)), (IntKind.wrap .i64 (t7 + (1 : Int))), (a46 ++ ([(IntKind.wrap .u32 t6)] : List (Int))), ()))))
  none)
def r01_sum.j1 (t0 : List Int) (t1 : List Int) (t6 : Int) (t7 : Int) (a46 : List (Int)) : Option ((List Int × List Int × Int × Int × List Int × Unit) ⊕ ((Int × List Int × Unit))) :=
  (cond ((decide (t7 < ((List.length t1 : Nat) : Int))))
  ((cond (inB t7 (List.length t1))
  ((r01_sum.j2 t0 t1 (IntKind.wrap .u64 (t6 + (IntKind.wrap .u64 (List.getD t1 (t7.toNat) (0 : Int))))) t7 a46))
  none))
  ((r01_sum.j2 t0 t1 t6 t7 a46)))
def r01_sum.j3 (t0 : List Int) (t1 : List Int) (t6 : Int) (t7 : Int) (a46 : List (Int)) : Option ((List Int × List Int × Int × Int × List Int × Unit) ⊕ ((Int × List Int × Unit))) :=
  (cond ((decide (t7 < ((List.length t0 : Nat) : Int))))
  ((cond (inB t7 (List.length t0))
  ((r01_sum.j1 t0 t1 (IntKind.wrap .u64 (t6 + (IntKind.wrap .u64 (List.getD t0 (t7.toNat) (0 : Int))))) t7 a46))
  none))
  ((r01_sum.j1 t0 t1 t6 t7 a46)))
def r01_sum.s0 (t0 : List Int) (t1 : List Int) (t6 : Int) (t7 : Int) (a46 : List (Int)) : Option ((List Int × List Int × Int × Int × List Int × Unit) ⊕ ((Int × List Int × Unit))) :=
  (cond ((decide (t7 < ((List.length t0 : Nat) : Int))))
  ((cond ((decide (t7 < ((List.length t0 : Nat) : Int))))
  ((cond (inB t7 (List.length t0))
  ((r01_sum.j1 t0 t1 (IntKind.wrap .u64 (t6 + (IntKind.wrap .u64 (List.getD t0 (t7.toNat) (0 : Int))))) t7 a46))
  none))
  ((r01_sum.j1 t0 t1 t6 t7 a46))))
  ((cond ((decide (t7 < ((List.length t1 : Nat) : Int))))
  ((r01_sum.j3 t0 t1 t6 t7 a46))
  ((some (.inr (t6, a46, ())))))))
def r01_sum.k0 (t6 : Int) (a46 : List (Int)) : Option (List Int) :=
  (cond (decide (List.length a46 + List.length ([(IntKind.wrap .u32 t6)] : List (Int)) ≤ maxL))
  ((some (a46 ++ ([(IntKind.wrap .u32 t6)] : List (Int)))))
  none)
def r01_sum (t0 : List Int) (t1 : List Int) : Option (List Int) :=
  ((iterL (fun x : List Int × List Int × Int × Int × List Int × Unit => r01_sum.s0 x.1 x.2.1 x.2.2.1 x.2.2.2.1 x.2.2.2.2.1) (t0, t1, (0 : Int), (0 : Int), ([] : List (Int)), ())).bind fun y => r01_sum.k0 y.1 y.2.1)
def r01_sum.en : En := ⟨224, [.sl (.int .u32), .sl (.int .u32)], .sl (.int .u32), false, fun x => r01_sum x.1 x.2.1⟩
def r01_sum.o : List En := []
def r01_sum.oB : List EnB := []
def r01_sum.h : HT := .two (.n) (.two (.n) (.two (.n) (.two (.two (.n) (.lp 0)) (.n))))
def r01_sum.c : Code := Tryz.f224.body.getD .skip
def r01_sum.h0 : HT := .n
def r01_sum.c0 : Code := (find (loops r01_sum.c r01_sum.h) 0).getD .skip
def r01_sum.d0 : Fm := [.v 0 (.sl (.int .u32)), .v 1 (.sl (.int .u32)), .v 6 (.int .u64), .v 7 (.int .i64), .arr 46 211 (.int .u32), .own 5 46]
def r01_sum.x0 : Xs := [(.exit 0, [.v 6 (.int .u64), .arr 46 211 (.int .u32), .own 5 46])]
def r01_sum.r0 (x : (Fm.ty r01_sum.d0).den) : Option ((Fm.ty r01_sum.d0).den ⊕ (Xs.T r01_sum.x0)) := r01_sum.s0 x.1 x.2.1 x.2.2.1 x.2.2.2.1 x.2.2.2.2.1
def r01_sum.L : Lam := fun _ i s K => cond (Nat.beq i 0) (lamK r01_sum.d0 r01_sum.x0 r01_sum.r0 s K) (none)
theorem r01_sum.hf0 (x) : roundK env (orc r01_sum.o) (orcB r01_sum.oB) 54 r01_sum.L r01_sum.c0 r01_sum.h0 r01_sum.d0 r01_sum.x0 x = r01_sum.r0 x := by kernel_rfl
theorem r01_sum.os : AllOk prog r01_sum.o := trivial
theorem r01_sum.osB : AllBOk prog r01_sum.oB := trivial
theorem r01_sum.l0 {C : Ctx} (hC : C.n = 54) : LamAt prog C r01_sum.L 0 r01_sum.c0 := by
  intro R s K r hk
  refine loop_ok (D := r01_sum.d0) (X := r01_sum.x0) (h := r01_sum.h0) (f := r01_sum.r0) tabs (orc_ok _ r01_sum.os) (orcB_ok _ r01_sum.osB) (fun x => by rw [hC]; exact r01_sum.hf0 x) (Λ := r01_sum.L) ?_ (by kernel_rfl) (by kernel_rfl) (K := K) (s := s) (by exact hk)
  exact by
    have e : loops r01_sum.c0 r01_sum.h0 = [] := by kernel_rfl
    rw [e]
    exact LamOk.nil
theorem r01_sum.hk (x) : semK env (orc r01_sum.o) (orcB r01_sum.oB) 54 (r01_sum.L _) r01_sum.c r01_sum.h (S.init (avs [.sl (.int .u32), .sl (.int .u32)] x)) (fin env Tryz.f224 ⟨[.sl (.int .u32), .sl (.int .u32)], .sl (.int .u32), false, false⟩) = r01_sum.en.g x := by kernel_rfl
theorem r01_sum.ok : EnOk prog r01_sum.en := by
  refine fun_ok (g := ⟨[.sl (.int .u32), .sl (.int .u32)], .sl (.int .u32), false, false⟩) (h := r01_sum.h) (Λ := r01_sum.L) tabs r01_sum.os r01_sum.osB Tryz.func224 (c := r01_sum.c) (by kernel_rfl) (by decide +kernel) (by decide +kernel) (fun C hC => ?_) (fun x => r01_sum.hk x)
  exact by
    have e : loops r01_sum.c r01_sum.h = [(0, r01_sum.c0)] := by kernel_rfl
    rw [e]
    exact LamOk.cons (r01_sum.l0 hC) (LamOk.nil)
def r01_difference.j3 (t0 : List Int) (t1 : List Int) (t7 : Int) (a37 : List (Int)) : Option ((List Int × List Int × Int × Int × List Int × Unit) ⊕ ((List Int × Unit))) :=
  (some (.inl (t0, t1, (1 : Int), (IntKind.wrap .i64 (t7 + (1 : Int))), a37, ())))
def r01_difference.j4 (t0 : List Int) (t1 : List Int) (t7 : Int) (a37 : List (Int)) : Option ((List Int × List Int × Int × Int × List Int × Unit) ⊕ ((List Int × Unit))) :=
  (some (.inl (t0, t1, (0 : Int), (IntKind.wrap .i64 (t7 + (1 : Int))), a37, ())))
def r01_difference.j2 (t0 : List Int) (t1 : List Int) (t7 : Int) (t8 : Int) (a37 : List (Int)) : Option ((List Int × List Int × Int × Int × List Int × Unit) ⊕ ((List Int × Unit))) :=
  (cond (inB t7 (List.length t0))
  (let x5 := (IntKind.wrap .u32 (IntKind.wrap .u64 ((IntKind.wrap .u64 (List.getD t0 (t7.toNat) (0 : Int))) - t8)))
  (cond (decide (List.length a37 + List.length ([x5] : List (Int)) ≤ maxL))
  ((cond (inB t7 (List.length t0))
  ((cond ((decide ((IntKind.wrap .u64 (List.getD t0 (t7.toNat) (0 : Int))) < t8)))
  ((r01_difference.j3 t0 t1 t7 (a37 ++ ([x5] : List (Int)))))
  ((r01_difference.j4 t0 t1 t7 (a37 ++ ([x5] : List (Int)))))))
  none))
  none))
  none)
def r01_difference.j1 (t0 : List Int) (t1 : List Int) (t6 : Int) (t7 : Int) (a37 : List (Int)) : Option ((List Int × List Int × Int × Int × List Int × Unit) ⊕ ((List Int × Unit))) :=
  (cond ((decide (t7 < ((List.length t1 : Nat) : Int))))
  ((cond (inB t7 (List.length t1))
  ((r01_difference.j2 t0 t1 t7 (IntKind.wrap .u64 (t6 + (IntKind.wrap .u64 (List.getD t1 (t7.toNat) (0 : Int))))) a37))
  none))
  ((r01_difference.j2 t0 t1 t7 t6 a37)))
def r01_difference.s0 (t0 : List Int) (t1 : List Int) (t6 : Int) (t7 : Int) (a37 : List (Int)) : Option ((List Int × List Int × Int × Int × List Int × Unit) ⊕ ((List Int × Unit))) :=
  (cond ((decide (t7 < ((List.length t0 : Nat) : Int))))
  ((r01_difference.j1 t0 t1 t6 t7 a37))
  ((some (.inr (a37, ())))))
def r01_difference.k0 (a37 : List (Int)) : Option (List Int) :=
  (some a37)
def r01_difference (t0 : List Int) (t1 : List Int) : Option (List Int) :=
  ((iterL (fun x : List Int × List Int × Int × Int × List Int × Unit => r01_difference.s0 x.1 x.2.1 x.2.2.1 x.2.2.2.1 x.2.2.2.2.1) (t0, t1, (0 : Int), (0 : Int), ([] : List (Int)), ())).bind fun y => r01_difference.k0 y.1)
def r01_difference.en : En := ⟨225, [.sl (.int .u32), .sl (.int .u32)], .sl (.int .u32), false, fun x => r01_difference x.1 x.2.1⟩
def r01_difference.o : List En := []
def r01_difference.oB : List EnB := []
def r01_difference.h : HT := .two (.n) (.two (.n) (.two (.n) (.two (.two (.n) (.lp 0)) (.n))))
def r01_difference.c : Code := Tryz.f225.body.getD .skip
def r01_difference.h0 : HT := .n
def r01_difference.c0 : Code := (find (loops r01_difference.c r01_difference.h) 0).getD .skip
def r01_difference.d0 : Fm := [.v 0 (.sl (.int .u32)), .v 1 (.sl (.int .u32)), .v 6 (.int .u64), .v 7 (.int .i64), .arr 37 211 (.int .u32), .own 5 37]
def r01_difference.x0 : Xs := [(.exit 0, [.arr 37 211 (.int .u32), .own 5 37])]
def r01_difference.r0 (x : (Fm.ty r01_difference.d0).den) : Option ((Fm.ty r01_difference.d0).den ⊕ (Xs.T r01_difference.x0)) := r01_difference.s0 x.1 x.2.1 x.2.2.1 x.2.2.2.1 x.2.2.2.2.1
def r01_difference.L : Lam := fun _ i s K => cond (Nat.beq i 0) (lamK r01_difference.d0 r01_difference.x0 r01_difference.r0 s K) (none)
theorem r01_difference.hf0 (x) : roundK env (orc r01_difference.o) (orcB r01_difference.oB) 46 r01_difference.L r01_difference.c0 r01_difference.h0 r01_difference.d0 r01_difference.x0 x = r01_difference.r0 x := by kernel_rfl
theorem r01_difference.os : AllOk prog r01_difference.o := trivial
theorem r01_difference.osB : AllBOk prog r01_difference.oB := trivial
theorem r01_difference.l0 {C : Ctx} (hC : C.n = 46) : LamAt prog C r01_difference.L 0 r01_difference.c0 := by
  intro R s K r hk
  refine loop_ok (D := r01_difference.d0) (X := r01_difference.x0) (h := r01_difference.h0) (f := r01_difference.r0) tabs (orc_ok _ r01_difference.os) (orcB_ok _ r01_difference.osB) (fun x => by rw [hC]; exact r01_difference.hf0 x) (Λ := r01_difference.L) ?_ (by kernel_rfl) (by kernel_rfl) (K := K) (s := s) (by exact hk)
  exact by
    have e : loops r01_difference.c0 r01_difference.h0 = [] := by kernel_rfl
    rw [e]
    exact LamOk.nil
theorem r01_difference.hk (x) : semK env (orc r01_difference.o) (orcB r01_difference.oB) 46 (r01_difference.L _) r01_difference.c r01_difference.h (S.init (avs [.sl (.int .u32), .sl (.int .u32)] x)) (fin env Tryz.f225 ⟨[.sl (.int .u32), .sl (.int .u32)], .sl (.int .u32), false, false⟩) = r01_difference.en.g x := by kernel_rfl
theorem r01_difference.ok : EnOk prog r01_difference.en := by
  refine fun_ok (g := ⟨[.sl (.int .u32), .sl (.int .u32)], .sl (.int .u32), false, false⟩) (h := r01_difference.h) (Λ := r01_difference.L) tabs r01_difference.os r01_difference.osB Tryz.func225 (c := r01_difference.c) (by kernel_rfl) (by decide +kernel) (by decide +kernel) (fun C hC => ?_) (fun x => r01_difference.hk x)
  exact by
    have e : loops r01_difference.c r01_difference.h = [(0, r01_difference.c0)] := by kernel_rfl
    rw [e]
    exact LamOk.cons (r01_difference.l0 hC) (LamOk.nil)
def r01_Add.j2 (t5 : List Int) (t6 : List Int) (b3_0 : Bool) (b3_1 : List Int) (b4_1 : List Int) : Option (Bool × List Int × Unit) :=
  ((r01_difference t6 t5).bind fun y8 =>
  ((r01_Make b3_0 y8).bind fun y9 =>
  (some (y9.1, (y9.2.1, ())))))
def r01_Add.j1 (t5 : List Int) (t6 : List Int) (b2_0 : Bool) (b2_1 : List Int) (b3_0 : Bool) (b3_1 : List Int) (b4_1 : List Int) : Option (Bool × List Int × Unit) :=
  ((r01_cmp t5 t6).bind fun y5 =>
  (cond ((decide (y5 ≥ (0 : Int))))
  (((r01_difference t5 t6).bind fun y6 =>
  ((r01_Make b2_0 y6).bind fun y7 =>
  (some (y7.1, (y7.2.1, ()))))))
  ((r01_Add.j2 t5 t6 b3_0 b3_1 b4_1))))
def r01_Add (t0 : Bool × List Int × Unit) (t1 : Bool × List Int × Unit) : Option (Bool × List Int × Unit) :=
  ((r01_trim t0.2.1).bind fun y1 =>
  ((r01_trim t1.2.1).bind fun y2 =>
  (cond ((t0.1 == t1.1))
  (((r01_sum y1 y2).bind fun y3 =>
  ((r01_Make t0.1 y3).bind fun y4 =>
  (some (y4.1, (y4.2.1, ()))))))
  ((r01_Add.j1 y1 y2 t0.1 t0.2.1 t1.1 t1.2.1 ([] : List Int))))))
def r01_Add.en : En := ⟨180, [tZ, tZ], tZ, false, fun x => r01_Add x.1 x.2.1⟩
def r01_Add.o : List En := [r01_trim.en, r01_cmp.en, r01_Make.en, r01_sum.en, r01_difference.en]
def r01_Add.oB : List EnB := []
def r01_Add.h : HT := .n
def r01_Add.c : Code := Tryz.f180.body.getD .skip
def r01_Add.L : Lam := fun _ i s K => none
theorem r01_Add.os : AllOk prog r01_Add.o := ⟨r01_trim.ok, r01_cmp.ok, r01_Make.ok, r01_sum.ok, r01_difference.ok, trivial⟩
theorem r01_Add.osB : AllBOk prog r01_Add.oB := trivial
theorem r01_Add.hk (x) : semK env (orc r01_Add.o) (orcB r01_Add.oB) 40 (r01_Add.L _) r01_Add.c r01_Add.h (S.init (avs [tZ, tZ] x)) (fin env Tryz.f180 ⟨[tZ, tZ], tZ, false, false⟩) = r01_Add.en.g x := by kernel_rfl
theorem r01_Add.ok : EnOk prog r01_Add.en := by
  refine fun_ok (g := ⟨[tZ, tZ], tZ, false, false⟩) (h := r01_Add.h) (Λ := r01_Add.L) tabs r01_Add.os r01_Add.osB Tryz.func180 (c := r01_Add.c) (by kernel_rfl) (by decide +kernel) (by decide +kernel) (fun C hC => ?_) (fun x => r01_Add.hk x)
  exact by
    have e : loops r01_Add.c r01_Add.h = [] := by kernel_rfl
    rw [e]
    exact LamOk.nil
def r01_Sub (t0 : Bool × List Int × Unit) (t1 : Bool × List Int × Unit) : Option (Bool × List Int × Unit) :=
  ((r01_Neg (t1.1, (t1.2.1, ()))).bind fun y1 =>
  ((r01_Add (t0.1, (t0.2.1, ())) y1).bind fun y2 =>
  (some (y2.1, (y2.2.1, ())))))
def r01_Sub.en : En := ⟨101, [tZ, tZ], tZ, false, fun x => r01_Sub x.1 x.2.1⟩
def r01_Sub.o : List En := [r01_Neg.en, r01_Add.en]
def r01_Sub.oB : List EnB := []
def r01_Sub.h : HT := .n
def r01_Sub.c : Code := Tryz.f101.body.getD .skip
def r01_Sub.L : Lam := fun _ i s K => none
theorem r01_Sub.os : AllOk prog r01_Sub.o := ⟨r01_Neg.ok, r01_Add.ok, trivial⟩
theorem r01_Sub.osB : AllBOk prog r01_Sub.oB := trivial
theorem r01_Sub.hk (x) : semK env (orc r01_Sub.o) (orcB r01_Sub.oB) 9 (r01_Sub.L _) r01_Sub.c r01_Sub.h (S.init (avs [tZ, tZ] x)) (fin env Tryz.f101 ⟨[tZ, tZ], tZ, false, false⟩) = r01_Sub.en.g x := by kernel_rfl
theorem r01_Sub.ok : EnOk prog r01_Sub.en := by
  refine fun_ok (g := ⟨[tZ, tZ], tZ, false, false⟩) (h := r01_Sub.h) (Λ := r01_Sub.L) tabs r01_Sub.os r01_Sub.osB Tryz.func101 (c := r01_Sub.c) (by kernel_rfl) (by decide +kernel) (by decide +kernel) (fun C hC => ?_) (fun x => r01_Sub.hk x)
  exact by
    have e : loops r01_Sub.c r01_Sub.h = [] := by kernel_rfl
    rw [e]
    exact LamOk.nil
def r01_low.j1 (t0 : List Int) (t3 : Int) (t4 : Int) : Option ((List Int × Int × Int × Unit) ⊕ ((Int × Unit))) :=
  (cond (inB t4 (List.length t0))
  ((cond (decide ((IntKind.wrap .i64 ((32 : Int) * t4)) < 0))
  none
  ((some (.inl (t0, (orI .u64 t3 (shlI .u64 (IntKind.wrap .u64 (List.getD t0 (t4.toNat) (0 : Int))) (IntKind.wrap .i64 ((32 : Int) * t4)))), (IntKind.wrap .i64 (t4 + (1 : Int))), ()))))))
  none)
def r01_low.s0 (t0 : List Int) (t3 : Int) (t4 : Int) : Option ((List Int × Int × Int × Unit) ⊕ ((Int × Unit))) :=
  (cond ((decide (t4 < ((List.length t0 : Nat) : Int))))
  ((cond ((decide (t4 < (2 : Int))))
  ((r01_low.j1 t0 t3 t4))
  ((some (.inr (t3, ()))))))
  ((some (.inr (t3, ())))))
def r01_low.k0 (t3 : Int) : Option (Int) :=
  (some t3)
def r01_low (t0 : List Int) : Option (Int) :=
  ((iterL (fun x : List Int × Int × Int × Unit => r01_low.s0 x.1 x.2.1 x.2.2.1) (t0, (0 : Int), (0 : Int), ())).bind fun y => r01_low.k0 y.1)
def r01_low.en : En := ⟨98, [.sl (.int .u32)], .int .u64, false, fun x => r01_low x.1⟩
def r01_low.o : List En := []
def r01_low.oB : List EnB := []
def r01_low.h : HT := .two (.n) (.two (.n) (.two (.two (.n) (.lp 0)) (.n)))
def r01_low.c : Code := Tryz.f98.body.getD .skip
def r01_low.h0 : HT := .n
def r01_low.c0 : Code := (find (loops r01_low.c r01_low.h) 0).getD .skip
def r01_low.d0 : Fm := [.v 0 (.sl (.int .u32)), .v 3 (.int .u64), .v 4 (.int .i64)]
def r01_low.x0 : Xs := [(.exit 0, [.v 3 (.int .u64)])]
def r01_low.r0 (x : (Fm.ty r01_low.d0).den) : Option ((Fm.ty r01_low.d0).den ⊕ (Xs.T r01_low.x0)) := r01_low.s0 x.1 x.2.1 x.2.2.1
def r01_low.L : Lam := fun _ i s K => cond (Nat.beq i 0) (lamK r01_low.d0 r01_low.x0 r01_low.r0 s K) (none)
theorem r01_low.hf0 (x) : roundK env (orc r01_low.o) (orcB r01_low.oB) 26 r01_low.L r01_low.c0 r01_low.h0 r01_low.d0 r01_low.x0 x = r01_low.r0 x := by kernel_rfl
theorem r01_low.os : AllOk prog r01_low.o := trivial
theorem r01_low.osB : AllBOk prog r01_low.oB := trivial
theorem r01_low.l0 {C : Ctx} (hC : C.n = 26) : LamAt prog C r01_low.L 0 r01_low.c0 := by
  intro R s K r hk
  refine loop_ok (D := r01_low.d0) (X := r01_low.x0) (h := r01_low.h0) (f := r01_low.r0) tabs (orc_ok _ r01_low.os) (orcB_ok _ r01_low.osB) (fun x => by rw [hC]; exact r01_low.hf0 x) (Λ := r01_low.L) ?_ (by kernel_rfl) (by kernel_rfl) (K := K) (s := s) (by exact hk)
  exact by
    have e : loops r01_low.c0 r01_low.h0 = [] := by kernel_rfl
    rw [e]
    exact LamOk.nil
theorem r01_low.hk (x) : semK env (orc r01_low.o) (orcB r01_low.oB) 26 (r01_low.L _) r01_low.c r01_low.h (S.init (avs [.sl (.int .u32)] x)) (fin env Tryz.f98 ⟨[.sl (.int .u32)], .int .u64, false, false⟩) = r01_low.en.g x := by kernel_rfl
theorem r01_low.ok : EnOk prog r01_low.en := by
  refine fun_ok (g := ⟨[.sl (.int .u32)], .int .u64, false, false⟩) (h := r01_low.h) (Λ := r01_low.L) tabs r01_low.os r01_low.osB Tryz.func98 (c := r01_low.c) (by kernel_rfl) (by decide +kernel) (by decide +kernel) (fun C hC => ?_) (fun x => r01_low.hk x)
  exact by
    have e : loops r01_low.c r01_low.h = [(0, r01_low.c0)] := by kernel_rfl
    rw [e]
    exact LamOk.cons (r01_low.l0 hC) (LamOk.nil)
def r01_double.j1 (t1 : Int) (t8 : List Int) (t9 : Int) (t10 : Int) (a20 : List (Int)) : Option ((Int × List Int × Int × Int × List Int × Unit) ⊕ ((Int × List Int × Unit))) :=
  (cond (inB t10 (List.length t8))
  (let x1 := (shlI .u32 (List.getD t8 (t10.toNat) (0 : Int)) (1 : Int))
  (cond (decide (List.length a20 + List.length ([(orI .u32 x1 t1)] : List (Int)) ≤ maxL))
  ((some (.inl ((shrI .u32 (List.getD t8 (t10.toNat) (0 : Int)) (31 : Int)), t8, t9, (IntKind.wrap .i64 (t10 + (1 : Int))), (a20 ++ ([(orI .u32 x1 t1)] : List (Int))), ()))))
  none))
  none)
def r01_double.s0 (t1 : Int) (t8 : List Int) (t9 : Int) (t10 : Int) (a20 : List (Int)) : Option ((Int × List Int × Int × Int × List Int × Unit) ⊕ ((Int × List Int × Unit))) :=
  (cond ((decide (t10 < t9)))
  ((r01_double.j1 t1 t8 t9 t10 a20))
  ((some (.inr (t1, a20, ())))))
def r01_double.k0 (t1 : Int) (a20 : List (Int)) : Option (List Int) :=
  (cond (decide (List.length a20 + List.length ([t1] : List (Int)) ≤ maxL))
  ((some (a20 ++ ([t1] : List (Int)))))
  none)
def r01_double (t0 : List Int) (t1 : Int) : Option (List Int) :=
  ((iterL (fun x : Int × List Int × Int × Int × List Int × Unit => r01_double.s0 x.1 x.2.1 x.2.2.1 x.2.2.2.1 x.2.2.2.2.1) (t1, t0, ((List.length t0 : Nat) : Int), (0 : Int), ([] : List (Int)), ())).bind fun y => r01_double.k0 y.1 y.2.1)
def r01_double.en : En := ⟨244, [.sl (.int .u32), .int .u32], .sl (.int .u32), false, fun x => r01_double x.1 x.2.1⟩
def r01_double.o : List En := []
def r01_double.oB : List EnB := []
def r01_double.h : HT := .two (.n) (.two (.n) (.two (.two (.n) (.lp 0)) (.n)))
def r01_double.c : Code := Tryz.f244.body.getD .skip
def r01_double.h0 : HT := .n
def r01_double.c0 : Code := (find (loops r01_double.c r01_double.h) 0).getD .skip
def r01_double.d0 : Fm := [.v 1 (.int .u32), .v 8 (.sl (.int .u32)), .v 9 (.int .i64), .v 10 (.int .i64), .arr 20 211 (.int .u32), .own 5 20]
def r01_double.x0 : Xs := [(.exit 0, [.v 1 (.int .u32), .arr 20 211 (.int .u32), .own 5 20])]
def r01_double.r0 (x : (Fm.ty r01_double.d0).den) : Option ((Fm.ty r01_double.d0).den ⊕ (Xs.T r01_double.x0)) := r01_double.s0 x.1 x.2.1 x.2.2.1 x.2.2.2.1 x.2.2.2.2.1
def r01_double.L : Lam := fun _ i s K => cond (Nat.beq i 0) (lamK r01_double.d0 r01_double.x0 r01_double.r0 s K) (none)
theorem r01_double.hf0 (x) : roundK env (orc r01_double.o) (orcB r01_double.oB) 28 r01_double.L r01_double.c0 r01_double.h0 r01_double.d0 r01_double.x0 x = r01_double.r0 x := by kernel_rfl
theorem r01_double.os : AllOk prog r01_double.o := trivial
theorem r01_double.osB : AllBOk prog r01_double.oB := trivial
theorem r01_double.l0 {C : Ctx} (hC : C.n = 28) : LamAt prog C r01_double.L 0 r01_double.c0 := by
  intro R s K r hk
  refine loop_ok (D := r01_double.d0) (X := r01_double.x0) (h := r01_double.h0) (f := r01_double.r0) tabs (orc_ok _ r01_double.os) (orcB_ok _ r01_double.osB) (fun x => by rw [hC]; exact r01_double.hf0 x) (Λ := r01_double.L) ?_ (by kernel_rfl) (by kernel_rfl) (K := K) (s := s) (by exact hk)
  exact by
    have e : loops r01_double.c0 r01_double.h0 = [] := by kernel_rfl
    rw [e]
    exact LamOk.nil
theorem r01_double.hk (x) : semK env (orc r01_double.o) (orcB r01_double.oB) 28 (r01_double.L _) r01_double.c r01_double.h (S.init (avs [.sl (.int .u32), .int .u32] x)) (fin env Tryz.f244 ⟨[.sl (.int .u32), .int .u32], .sl (.int .u32), false, false⟩) = r01_double.en.g x := by kernel_rfl
theorem r01_double.ok : EnOk prog r01_double.en := by
  refine fun_ok (g := ⟨[.sl (.int .u32), .int .u32], .sl (.int .u32), false, false⟩) (h := r01_double.h) (Λ := r01_double.L) tabs r01_double.os r01_double.osB Tryz.func244 (c := r01_double.c) (by kernel_rfl) (by decide +kernel) (by decide +kernel) (fun C hC => ?_) (fun x => r01_double.hk x)
  exact by
    have e : loops r01_double.c r01_double.h = [(0, r01_double.c0)] := by kernel_rfl
    rw [e]
    exact LamOk.cons (r01_double.l0 hC) (LamOk.nil)
def r01_divide.j3 (t0 : List Int) (t1 : List Int) (t5 : List Int) (t8 : Int) (a33 : List (Int)) : Option ((List Int × List Int × List Int × Int × List Int × Unit) ⊕ ((List Int × List Int × Unit))) :=
  (some (.inl (t0, t1, t5, (IntKind.wrap .i64 (t8 - (1 : Int))), a33, ())))
def r01_divide.j2 (t0 : List Int) (t1 : List Int) (t5 : List Int) (t8 : Int) (a33 : List (Int)) : Option ((List Int × List Int × List Int × Int × List Int × Unit) ⊕ ((List Int × List Int × Unit))) :=
  let x8 := (IntKind.wrap .i64 (Int.tdiv t8 (32 : Int)))
  (cond (inB x8 (List.length t0))
  ((cond (decide ((Int.tmod t8 (32 : Int)) < 0))
  none
  (((r01_double t5 (andI .u32 (shrI .u32 (List.getD t0 (x8.toNat) (0 : Int)) (Int.tmod t8 (32 : Int))) (1 : Int))).bind fun y10 =>
  ((r01_trim y10).bind fun y11 =>
  ((r01_cmp y11 t1).bind fun y12 =>
  (cond ((decide (y12 ≥ (0 : Int))))
  (((r01_difference y11 t1).bind fun y13 =>
  ((r01_trim y13).bind fun y14 =>
  let x15 := (IntKind.wrap .i64 (Int.tdiv t8 (32 : Int)))
  (cond (inB x15 (List.length a33))
  ((cond (decide ((Int.tmod t8 (32 : Int)) < 0))
  none
  ((cond (inB x15 (List.length a33))
  ((r01_divide.j3 t0 t1 y14 t8 (List.set a33 ((0 + x15.toNat)) (orI .u32 (List.getD a33 ((0 + x15.toNat)) (0 : Int)) (shlI .u32 (1 : Int) (Int.tmod t8 (32 : Int)))))))
  none))))
  none))))
  ((r01_divide.j3 t0 t1 y11 t8 a33)))))))))
  none)
def r01_divide.s0 (t0 : List Int) (t1 : List Int) (t5 : List Int) (t8 : Int) (a33 : List (Int)) : Option ((List Int × List Int × List Int × Int × List Int × Unit) ⊕ ((List Int × List Int × Unit))) :=
  (cond ((decide (t8 ≥ (0 : Int))))
  ((r01_divide.j2 t0 t1 t5 t8 a33))
  ((some (.inr (t5, a33, ())))))
def r01_divide.k0 (t5 : List Int) (a33 : List (Int)) : Option (List Int × List Int × Unit) :=
  ((r01_trim a33).bind fun y19 =>
  (some (y19, (t5, ()))))
def r01_divide.j1 (t0 : List Int) (t1 : List Int) : Option (List Int × List Int × Unit) :=
  (cond (inC ((List.length t0 : Nat) : Int) maxL)
  (((iterL (fun x : List Int × List Int × List Int × Int × List Int × Unit => r01_divide.s0 x.1 x.2.1 x.2.2.1 x.2.2.2.1 x.2.2.2.2.1) (t0, t1, ([] : List Int), (IntKind.wrap .i64 ((IntKind.wrap .i64 ((32 : Int) * ((List.length t0 : Nat) : Int))) - (1 : Int))), (List.replicate ((((List.length t0 : Nat) : Int)).toNat) ((0 : Int) : Int)), ())).bind fun y => r01_divide.k0 y.1 y.2.1))
  none)
def r01_divide (t0 : List Int) (t1 : List Int) : Option (List Int × List Int × Unit) :=
  (cond ((decide (((List.length t0 : Nat) : Int) ≤ (2 : Int))))
  ((cond ((decide (((List.length t1 : Nat) : Int) ≤ (2 : Int))))
  (((r01_low t0).bind fun y3 =>
  ((r01_low t1).bind fun y4 =>
  (cond (decide (y4 = 0))
  none
  (((r01_word false (IntKind.wrap .u64 (Int.tdiv y3 y4))).bind fun y5 =>
  (cond (decide (y4 = 0))
  none
  (((r01_word false (Int.tmod y3 y4)).bind fun y6 =>
  (some (y5.2.1, (y6.2.1, ()))))))))))))
  ((r01_divide.j1 t0 t1))))
  ((cond (inC ((List.length t0 : Nat) : Int) maxL)
  (((iterL (fun x : List Int × List Int × List Int × Int × List Int × Unit => r01_divide.s0 x.1 x.2.1 x.2.2.1 x.2.2.2.1 x.2.2.2.2.1) (t0, t1, ([] : List Int), (IntKind.wrap .i64 ((IntKind.wrap .i64 ((32 : Int) * ((List.length t0 : Nat) : Int))) - (1 : Int))), (List.replicate ((((List.length t0 : Nat) : Int)).toNat) ((0 : Int) : Int)), ())).bind fun y => r01_divide.k0 y.1 y.2.1))
  none)))
def r01_divide.en : En := ⟨223, [.sl (.int .u32), .sl (.int .u32)], .pair (.sl (.int .u32)) (.pair (.sl (.int .u32)) (.unit)), true, fun x => r01_divide x.1 x.2.1⟩
def r01_divide.o : List En := [r01_trim.en, r01_low.en, r01_word.en, r01_cmp.en, r01_difference.en, r01_double.en]
def r01_divide.oB : List EnB := []
def r01_divide.h : HT := .two (.n) (.two (.n) (.two (.n) (.two (.two (.n) (.lp 0)) (.two (.fr [33] []) (.n)))))
def r01_divide.c : Code := Tryz.f223.body.getD .skip
def r01_divide.h0 : HT := .n
def r01_divide.c0 : Code := (find (loops r01_divide.c r01_divide.h) 0).getD .skip
def r01_divide.d0 : Fm := [.v 0 (.sl (.int .u32)), .v 1 (.sl (.int .u32)), .v 5 (.sl (.int .u32)), .v 8 (.int .i64), .arr 33 211 (.int .u32), .own 4 33]
def r01_divide.x0 : Xs := [(.exit 0, [.v 5 (.sl (.int .u32)), .arr 33 211 (.int .u32), .own 4 33])]
def r01_divide.r0 (x : (Fm.ty r01_divide.d0).den) : Option ((Fm.ty r01_divide.d0).den ⊕ (Xs.T r01_divide.x0)) := r01_divide.s0 x.1 x.2.1 x.2.2.1 x.2.2.2.1 x.2.2.2.2.1
def r01_divide.L : Lam := fun _ i s K => cond (Nat.beq i 0) (lamK r01_divide.d0 r01_divide.x0 r01_divide.r0 s K) (none)
theorem r01_divide.hf0 (x) : roundK env (orc r01_divide.o) (orcB r01_divide.oB) 75 r01_divide.L r01_divide.c0 r01_divide.h0 r01_divide.d0 r01_divide.x0 x = r01_divide.r0 x := by kernel_rfl
theorem r01_divide.os : AllOk prog r01_divide.o := ⟨r01_trim.ok, r01_low.ok, r01_word.ok, r01_cmp.ok, r01_difference.ok, r01_double.ok, trivial⟩
theorem r01_divide.osB : AllBOk prog r01_divide.oB := trivial
theorem r01_divide.l0 {C : Ctx} (hC : C.n = 75) : LamAt prog C r01_divide.L 0 r01_divide.c0 := by
  intro R s K r hk
  refine loop_ok (D := r01_divide.d0) (X := r01_divide.x0) (h := r01_divide.h0) (f := r01_divide.r0) tabs (orc_ok _ r01_divide.os) (orcB_ok _ r01_divide.osB) (fun x => by rw [hC]; exact r01_divide.hf0 x) (Λ := r01_divide.L) ?_ (by kernel_rfl) (by kernel_rfl) (K := K) (s := s) (by exact hk)
  exact by
    have e : loops r01_divide.c0 r01_divide.h0 = [] := by kernel_rfl
    rw [e]
    exact LamOk.nil
theorem r01_divide.hk (x) : semK env (orc r01_divide.o) (orcB r01_divide.oB) 75 (r01_divide.L _) r01_divide.c r01_divide.h (S.init (avs [.sl (.int .u32), .sl (.int .u32)] x)) (fin env Tryz.f223 ⟨[.sl (.int .u32), .sl (.int .u32)], .pair (.sl (.int .u32)) (.pair (.sl (.int .u32)) (.unit)), true, false⟩) = r01_divide.en.g x := by kernel_rfl
theorem r01_divide.ok : EnOk prog r01_divide.en := by
  refine fun_ok (g := ⟨[.sl (.int .u32), .sl (.int .u32)], .pair (.sl (.int .u32)) (.pair (.sl (.int .u32)) (.unit)), true, false⟩) (h := r01_divide.h) (Λ := r01_divide.L) tabs r01_divide.os r01_divide.osB Tryz.func223 (c := r01_divide.c) (by kernel_rfl) (by decide +kernel) (by decide +kernel) (fun C hC => ?_) (fun x => r01_divide.hk x)
  exact by
    have e : loops r01_divide.c r01_divide.h = [(0, r01_divide.c0)] := by kernel_rfl
    rw [e]
    exact LamOk.cons (r01_divide.l0 hC) (LamOk.nil)
def r01_DivMod.j2 (b4_1 : List Int) (b5_1 : List Int) (b11_0 : Bool) (b11_1 : List Int) (b12_0 : Bool) (b12_1 : List Int) : Option ((Bool × List Int × Unit) × (Bool × List Int × Unit) × Bool × Unit) :=
  ((r01_Small (1 : Int)).bind fun y13 =>
  ((r01_Sub (b11_0, (b11_1, ())) y13).bind fun y14 =>
  (some ((y14.1, (y14.2.1, ())), ((b12_0, (b12_1, ())), (true, ()))))))
def r01_DivMod.j3 (b4_1 : List Int) (b5_1 : List Int) (b11_0 : Bool) (b11_1 : List Int) (b12_0 : Bool) (b12_1 : List Int) : Option ((Bool × List Int × Unit) × (Bool × List Int × Unit) × Bool × Unit) :=
  (some ((b11_0, (b11_1, ())), ((b12_0, (b12_1, ())), (true, ()))))
def r01_DivMod.j1 (t7 : List Int) (t8 : List Int) (b2_0 : Bool) (b2_1 : List Int) (b3_0 : Bool) (b3_1 : List Int) (b4_1 : List Int) (b5_1 : List Int) : Option ((Bool × List Int × Unit) × (Bool × List Int × Unit) × Bool × Unit) :=
  ((r01_divide t7 t8).bind fun y4 =>
  ((r01_Make (!(b2_0 == b3_0)) y4.1).bind fun y5 =>
  ((r01_Make b2_0 y4.2.1).bind fun y6 =>
  ((r01_Sign (y6.1, (y6.2.1, ()))).bind fun y7 =>
  (cond ((decide (y7 < (0 : Int))))
  (((r01_Make false t8).bind fun y8 =>
  ((r01_Add (y6.1, (y6.2.1, ())) y8).bind fun y9 =>
  ((r01_Sign (b3_0, (b3_1, ()))).bind fun y10 =>
  (cond ((decide (y10 < (0 : Int))))
  (((r01_Small (1 : Int)).bind fun y11 =>
  ((r01_Add (y5.1, (y5.2.1, ())) y11).bind fun y12 =>
  (some ((y12.1, (y12.2.1, ())), ((y9.1, (y9.2.1, ())), (true, ())))))))
  ((r01_DivMod.j2 b4_1 b5_1 y5.1 y5.2.1 y9.1 y9.2.1)))))))
  ((r01_DivMod.j3 b4_1 b5_1 y5.1 y5.2.1 y6.1 y6.2.1)))))))
def r01_DivMod (t0 : Bool × List Int × Unit) (t1 : Bool × List Int × Unit) : Option ((Bool × List Int × Unit) × (Bool × List Int × Unit) × Bool × Unit) :=
  ((r01_trim t0.2.1).bind fun y1 =>
  ((r01_trim t1.2.1).bind fun y2 =>
  (cond ((((List.length y2 : Nat) : Int) == (0 : Int)))
  ((some ((false, (([] : List Int), ())), ((false, (([] : List Int), ())), (false, ())))))
  ((r01_DivMod.j1 y1 y2 t0.1 t0.2.1 t1.1 t1.2.1 ([] : List Int) ([] : List Int))))))
def r01_DivMod.en : En := ⟨179, [tZ, tZ], .pair (tZ) (.pair (tZ) (.pair (.bool) (.unit))), true, fun x => r01_DivMod x.1 x.2.1⟩
def r01_DivMod.o : List En := [r01_Small.en, r01_trim.en, r01_Sign.en, r01_Sub.en, r01_Add.en, r01_Make.en, r01_divide.en]
def r01_DivMod.oB : List EnB := []
def r01_DivMod.h : HT := .n
def r01_DivMod.c : Code := Tryz.f179.body.getD .skip
def r01_DivMod.L : Lam := fun _ i s K => none
theorem r01_DivMod.os : AllOk prog r01_DivMod.o := ⟨r01_Small.ok, r01_trim.ok, r01_Sign.ok, r01_Sub.ok, r01_Add.ok, r01_Make.ok, r01_divide.ok, trivial⟩
theorem r01_DivMod.osB : AllBOk prog r01_DivMod.oB := trivial
theorem r01_DivMod.hk (x) : semK env (orc r01_DivMod.o) (orcB r01_DivMod.oB) 61 (r01_DivMod.L _) r01_DivMod.c r01_DivMod.h (S.init (avs [tZ, tZ] x)) (fin env Tryz.f179 ⟨[tZ, tZ], .pair (tZ) (.pair (tZ) (.pair (.bool) (.unit))), true, false⟩) = r01_DivMod.en.g x := by kernel_rfl
theorem r01_DivMod.ok : EnOk prog r01_DivMod.en := by
  refine fun_ok (g := ⟨[tZ, tZ], .pair (tZ) (.pair (tZ) (.pair (.bool) (.unit))), true, false⟩) (h := r01_DivMod.h) (Λ := r01_DivMod.L) tabs r01_DivMod.os r01_DivMod.osB Tryz.func179 (c := r01_DivMod.c) (by kernel_rfl) (by decide +kernel) (by decide +kernel) (fun C hC => ?_) (fun x => r01_DivMod.hk x)
  exact by
    have e : loops r01_DivMod.c r01_DivMod.h = [] := by kernel_rfl
    rw [e]
    exact LamOk.nil
def r01_Quo (t0 : Bool × List Int × Unit) (t1 : Bool × List Int × Unit) : Option (Bool × List Int × Unit) :=
  ((r01_DivMod (t0.1, (t0.2.1, ())) (t1.1, (t1.2.1, ()))).bind fun y1 =>
  (some (y1.1.1, (y1.1.2.1, ()))))
def r01_Quo.en : En := ⟨100, [tZ, tZ], tZ, false, fun x => r01_Quo x.1 x.2.1⟩
def r01_Quo.o : List En := [r01_DivMod.en]
def r01_Quo.oB : List EnB := []
def r01_Quo.h : HT := .n
def r01_Quo.c : Code := Tryz.f100.body.getD .skip
def r01_Quo.L : Lam := fun _ i s K => none
theorem r01_Quo.os : AllOk prog r01_Quo.o := ⟨r01_DivMod.ok, trivial⟩
theorem r01_Quo.osB : AllBOk prog r01_Quo.oB := trivial
theorem r01_Quo.hk (x) : semK env (orc r01_Quo.o) (orcB r01_Quo.oB) 16 (r01_Quo.L _) r01_Quo.c r01_Quo.h (S.init (avs [tZ, tZ] x)) (fin env Tryz.f100 ⟨[tZ, tZ], tZ, false, false⟩) = r01_Quo.en.g x := by kernel_rfl
theorem r01_Quo.ok : EnOk prog r01_Quo.en := by
  refine fun_ok (g := ⟨[tZ, tZ], tZ, false, false⟩) (h := r01_Quo.h) (Λ := r01_Quo.L) tabs r01_Quo.os r01_Quo.osB Tryz.func100 (c := r01_Quo.c) (by kernel_rfl) (by decide +kernel) (by decide +kernel) (fun C hC => ?_) (fun x => r01_Quo.hk x)
  exact by
    have e : loops r01_Quo.c r01_Quo.h = [] := by kernel_rfl
    rw [e]
    exact LamOk.nil
def r01_Abs (t0 : Bool × List Int × Unit) : Option (Bool × List Int × Unit) :=
  ((r01_Make false t0.2.1).bind fun y1 =>
  (some (y1.1, (y1.2.1, ()))))
def r01_Abs.en : En := ⟨196, [tZ], tZ, false, fun x => r01_Abs x.1⟩
def r01_Abs.o : List En := [r01_Make.en]
def r01_Abs.oB : List EnB := []
def r01_Abs.h : HT := .n
def r01_Abs.c : Code := Tryz.f196.body.getD .skip
def r01_Abs.L : Lam := fun _ i s K => none
theorem r01_Abs.os : AllOk prog r01_Abs.o := ⟨r01_Make.ok, trivial⟩
theorem r01_Abs.osB : AllBOk prog r01_Abs.oB := trivial
theorem r01_Abs.hk (x) : semK env (orc r01_Abs.o) (orcB r01_Abs.oB) 6 (r01_Abs.L _) r01_Abs.c r01_Abs.h (S.init (avs [tZ] x)) (fin env Tryz.f196 ⟨[tZ], tZ, false, false⟩) = r01_Abs.en.g x := by kernel_rfl
theorem r01_Abs.ok : EnOk prog r01_Abs.en := by
  refine fun_ok (g := ⟨[tZ], tZ, false, false⟩) (h := r01_Abs.h) (Λ := r01_Abs.L) tabs r01_Abs.os r01_Abs.osB Tryz.func196 (c := r01_Abs.c) (by kernel_rfl) (by decide +kernel) (by decide +kernel) (fun C hC => ?_) (fun x => r01_Abs.hk x)
  exact by
    have e : loops r01_Abs.c r01_Abs.h = [] := by kernel_rfl
    rw [e]
    exact LamOk.nil
end
end Go.Proofs.YtgbndganadelpaaGreatDoor.E
