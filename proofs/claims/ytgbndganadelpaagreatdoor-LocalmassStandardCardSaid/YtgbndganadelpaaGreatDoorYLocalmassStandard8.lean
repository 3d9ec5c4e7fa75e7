/- Functions of the program as_ functions on values, without fuel, and that the evaluator computes them (printed by gen.py). -/
import Derived.Test.YtgbndganadelpaaGreatDoorYLocalmassStandard7
namespace Go.Proofs.YtgbndganadelpaaGreatDoor.E
noncomputable section
open Go
set_option linter.unusedVariables false
set_option maxRecDepth 100000
def integer_trim.j1 (t0 : List Int) (t3 : Int) : Option ((List Int × Int × Unit) ⊕ ((List Int × Int × Unit))) :=
  (some (.inl (t0, (IntKind.wrap .i64 (t3 - (1 : Int))), ())))
def integer_trim.s0 (t0 : List Int) (t3 : Int) : Option ((List Int × Int × Unit) ⊕ ((List Int × Int × Unit))) :=
  (cond ((decide (t3 > (0 : Int))))
  ((cond (inB (IntKind.wrap .i64 (t3 - (1 : Int))) (List.length t0))
  ((cond (((List.getD t0 (((IntKind.wrap .i64 (t3 - (1 : Int)))).toNat) (0 : Int)) == (0 : Int)))
  ((integer_trim.j1 t0 t3))
  ((some (.inr (t0, t3, ()))))))
  none))
  ((some (.inr (t0, t3, ())))))
def integer_trim.k0 (t0 : List Int) (t3 : Int) : Option (List Int) :=
  (cond (inC t3 (List.length t0))
  (cond (decide (0 ≤ t3) && decide (t3 ≤ t3))
  ((some (List.take (t3.toNat) t0)))
  none)
  none)
def integer_trim (t0 : List Int) : Option (List Int) :=
  ((iterL (fun x : List Int × Int × Unit => integer_trim.s0 x.1 x.2.1) (t0, ((List.length t0 : Nat) : Int), ())).bind fun y => integer_trim.k0 y.1 y.2.1)
def integer_trim.en : En := ⟨195, [.sl (.int .u32)], .sl (.int .u32), false, fun x => integer_trim x.1⟩
def integer_trim.o : List En := []
def integer_trim.oB : List EnB := []
def integer_trim.h : HT := .two (.n) (.two (.n) (.two (.lp 0) (.n)))
def integer_trim.c : Code := Tryz.f195.body.getD .skip
def integer_trim.h0 : HT := .n
def integer_trim.c0 : Code := (find (loops integer_trim.c integer_trim.h) 0).getD .skip
def integer_trim.d0 : Fm := [.v 0 (.sl (.int .u32)), .v 3 (.int .i64)]
def integer_trim.x0 : Xs := [(.exit 0, [.v 0 (.sl (.int .u32)), .v 3 (.int .i64)])]
def integer_trim.r0 (x : (Fm.ty integer_trim.d0).den) : Option ((Fm.ty integer_trim.d0).den ⊕ (Xs.T integer_trim.x0)) := integer_trim.s0 x.1 x.2.1
def integer_trim.L : Lam := fun _ i s K => cond (Nat.beq i 0) (lamK integer_trim.d0 integer_trim.x0 integer_trim.r0 s K) (none)
theorem integer_trim.hf0 (x) : roundK env (orc integer_trim.o) (orcB integer_trim.oB) 22 integer_trim.L integer_trim.c0 integer_trim.h0 integer_trim.d0 integer_trim.x0 x = integer_trim.r0 x := by kernel_rfl
theorem integer_trim.os : AllOk prog integer_trim.o := trivial
theorem integer_trim.osB : AllBOk prog integer_trim.oB := trivial
theorem integer_trim.l0 {C : Ctx} (hC : C.n = 22) : LamAt prog C integer_trim.L 0 integer_trim.c0 := by
  intro R s K r hk
  refine loop_ok (D := integer_trim.d0) (X := integer_trim.x0) (h := integer_trim.h0) (f := integer_trim.r0) tabs (orc_ok _ integer_trim.os) (orcB_ok _ integer_trim.osB) (fun x => by rw [hC]; exact integer_trim.hf0 x) (Λ := integer_trim.L) ?_ (by kernel_rfl) (by kernel_rfl) (K := K) (s := s) (by exact hk)
  exact by
    have e : loops integer_trim.c0 integer_trim.h0 = [] := by kernel_rfl
    rw [e]
    exact LamOk.nil
theorem integer_trim.hk (x) : semK env (orc integer_trim.o) (orcB integer_trim.oB) 22 (integer_trim.L _) integer_trim.c integer_trim.h (S.init (avs [.sl (.int .u32)] x)) (fin env Tryz.f195 ⟨[.sl (.int .u32)], .sl (.int .u32), false, false⟩) = integer_trim.en.g x := by kernel_rfl
theorem integer_trim.ok : EnOk prog integer_trim.en := by
  refine fun_ok (g := ⟨[.sl (.int .u32)], .sl (.int .u32), false, false⟩) (h := integer_trim.h) (Λ := integer_trim.L) tabs integer_trim.os integer_trim.osB Tryz.func195 (c := integer_trim.c) (by kernel_rfl) (by decide +kernel) (by decide +kernel) (fun C hC => ?_) (fun x => integer_trim.hk x)
  exact by
    have e : loops integer_trim.c integer_trim.h = [(0, integer_trim.c0)] := by kernel_rfl
    rw [e]
    exact LamOk.cons (integer_trim.l0 hC) (LamOk.nil)
def integer_signed.j1 (t0 : Bool) (t1 : List Int) (b4_1 : List Int) : Option (Bool × List Int × Unit) :=
  (some (t0, (t1, ())))
def integer_signed (t0 : Bool) (t1 : List Int) : Option (Bool × List Int × Unit) :=
  ((integer_trim t1).bind fun y1 =>
  (cond ((((List.length y1 : Nat) : Int) == (0 : Int)))
  ((some (false, (([] : List Int), ()))))
  ((integer_signed.j1 t0 y1 ([] : List Int)))))
def integer_signed.en : En := ⟨187, [.bool, .sl (.int .u32)], tZ, false, fun x => integer_signed x.1 x.2.1⟩
def integer_signed.o : List En := [integer_trim.en]
def integer_signed.oB : List EnB := []
def integer_signed.h : HT := .n
def integer_signed.c : Code := Tryz.f187.body.getD .skip
def integer_signed.L : Lam := fun _ i s K => none
theorem integer_signed.os : AllOk prog integer_signed.o := ⟨integer_trim.ok, trivial⟩
theorem integer_signed.osB : AllBOk prog integer_signed.oB := trivial
theorem integer_signed.hk (x) : semK env (orc integer_signed.o) (orcB integer_signed.oB) 14 (integer_signed.L _) integer_signed.c integer_signed.h (S.init (avs [.bool, .sl (.int .u32)] x)) (fin env Tryz.f187 ⟨[.bool, .sl (.int .u32)], tZ, false, false⟩) = integer_signed.en.g x := by kernel_rfl
theorem integer_signed.ok : EnOk prog integer_signed.en := by
  refine fun_ok (g := ⟨[.bool, .sl (.int .u32)], tZ, false, false⟩) (h := integer_signed.h) (Λ := integer_signed.L) tabs integer_signed.os integer_signed.osB Tryz.func187 (c := integer_signed.c) (by kernel_rfl) (by decide +kernel) (by decide +kernel) (fun C hC => ?_) (fun x => integer_signed.hk x)
  exact by
    have e : loops integer_signed.c integer_signed.h = [] := by kernel_rfl
    rw [e]
    exact LamOk.nil
def integer_Small.j1 (t0 : Int) (t3 : Int) (b2_1 : List Int) : Option (Bool × List Int × Unit) :=
  ((integer_signed (decide (t0 < (0 : Int))) ([(IntKind.wrap .u32 t3), (IntKind.wrap .u32 (shrI .u64 t3 (32 : Int)))] : List (Int))).bind fun y3 =>
  (some (y3.1, (y3.2.1, ()))))
def integer_Small (t0 : Int) : Option (Bool × List Int × Unit) :=
  (cond ((decide (t0 < (0 : Int))))
  ((integer_Small.j1 t0 (IntKind.wrap .u64 (0 - (IntKind.wrap .u64 t0))) ([] : List Int)))
  ((integer_Small.j1 t0 (IntKind.wrap .u64 t0) ([] : List Int))))
def integer_Small.en : En := ⟨113, [.int .i64], tZ, false, fun x => integer_Small x.1⟩
def integer_Small.o : List En := [integer_signed.en]
def integer_Small.oB : List EnB := []
def integer_Small.h : HT := .n
def integer_Small.c : Code := Tryz.f113.body.getD .skip
def integer_Small.L : Lam := fun _ i s K => none
theorem integer_Small.os : AllOk prog integer_Small.o := ⟨integer_signed.ok, trivial⟩
theorem integer_Small.osB : AllBOk prog integer_Small.oB := trivial
theorem integer_Small.hk (x) : semK env (orc integer_Small.o) (orcB integer_Small.oB) 19 (integer_Small.L _) integer_Small.c integer_Small.h (S.init (avs [.int .i64] x)) (fin env Tryz.f113 ⟨[.int .i64], tZ, false, false⟩) = integer_Small.en.g x := by kernel_rfl
theorem integer_Small.ok : EnOk prog integer_Small.en := by
  refine fun_ok (g := ⟨[.int .i64], tZ, false, false⟩) (h := integer_Small.h) (Λ := integer_Small.L) tabs integer_Small.os integer_Small.osB Tryz.func113 (c := integer_Small.c) (by kernel_rfl) (by decide +kernel) (by decide +kernel) (fun C hC => ?_) (fun x => integer_Small.hk x)
  exact by
    have e : loops integer_Small.c integer_Small.h = [] := by kernel_rfl
    rw [e]
    exact LamOk.nil
def integer_magnitude (t0 : Bool × List Int × Unit) : Option (List Int) :=
  ((integer_trim t0.2.1).bind fun y1 =>
  (some y1))
def integer_magnitude.en : En := ⟨135, [tZ], .sl (.int .u32), false, fun x => integer_magnitude x.1⟩
def integer_magnitude.o : List En := [integer_trim.en]
def integer_magnitude.oB : List EnB := []
def integer_magnitude.h : HT := .n
def integer_magnitude.c : Code := Tryz.f135.body.getD .skip
def integer_magnitude.L : Lam := fun _ i s K => none
theorem integer_magnitude.os : AllOk prog integer_magnitude.o := ⟨integer_trim.ok, trivial⟩
theorem integer_magnitude.osB : AllBOk prog integer_magnitude.oB := trivial
theorem integer_magnitude.hk (x) : semK env (orc integer_magnitude.o) (orcB integer_magnitude.oB) 6 (integer_magnitude.L _) integer_magnitude.c integer_magnitude.h (S.init (avs [tZ] x)) (fin env Tryz.f135 ⟨[tZ], .sl (.int .u32), false, false⟩) = integer_magnitude.en.g x := by kernel_rfl
theorem integer_magnitude.ok : EnOk prog integer_magnitude.en := by
  refine fun_ok (g := ⟨[tZ], .sl (.int .u32), false, false⟩) (h := integer_magnitude.h) (Λ := integer_magnitude.L) tabs integer_magnitude.os integer_magnitude.osB Tryz.func135 (c := integer_magnitude.c) (by kernel_rfl) (by decide +kernel) (by decide +kernel) (fun C hC => ?_) (fun x => integer_magnitude.hk x)
  exact by
    have e : loops integer_magnitude.c integer_magnitude.h = [] := by kernel_rfl
    rw [e]
    exact LamOk.nil
def integer_Normalize (t0 : Bool × List Int × Unit) : Option (Bool × List Int × Unit) :=
  ((integer_magnitude (t0.1, (t0.2.1, ()))).bind fun y1 =>
  (cond (inC ((List.length y1 : Nat) : Int) maxL)
  (((integer_signed t0.1 (List.take (List.length (List.replicate ((((List.length y1 : Nat) : Int)).toNat) ((0 : Int) : Int))) y1 ++ List.drop (List.length y1) (List.replicate ((((List.length y1 : Nat) : Int)).toNat) ((0 : Int) : Int)))).bind fun y3 =>
  (some (y3.1, (y3.2.1, ())))))
  none))
def integer_Normalize.en : En := ⟨183, [tZ], tZ, false, fun x => integer_Normalize x.1⟩
def integer_Normalize.o : List En := [integer_magnitude.en, integer_signed.en]
def integer_Normalize.oB : List EnB := []
def integer_Normalize.h : HT := .two (.n) (.two (.n) (.two (.n) (.two (.n) (.two (.fr [9] []) (.n)))))
def integer_Normalize.c : Code := Tryz.f183.body.getD .skip
def integer_Normalize.L : Lam := fun _ i s K => none
theorem integer_Normalize.os : AllOk prog integer_Normalize.o := ⟨integer_magnitude.ok, integer_signed.ok, trivial⟩
theorem integer_Normalize.osB : AllBOk prog integer_Normalize.oB := trivial
theorem integer_Normalize.hk (x) : semK env (orc integer_Normalize.o) (orcB integer_Normalize.oB) 17 (integer_Normalize.L _) integer_Normalize.c integer_Normalize.h (S.init (avs [tZ] x)) (fin env Tryz.f183 ⟨[tZ], tZ, false, false⟩) = integer_Normalize.en.g x := by kernel_rfl
theorem integer_Normalize.ok : EnOk prog integer_Normalize.en := by
  refine fun_ok (g := ⟨[tZ], tZ, false, false⟩) (h := integer_Normalize.h) (Λ := integer_Normalize.L) tabs integer_Normalize.os integer_Normalize.osB Tryz.func183 (c := integer_Normalize.c) (by kernel_rfl) (by decide +kernel) (by decide +kernel) (fun C hC => ?_) (fun x => integer_Normalize.hk x)
  exact by
    have e : loops integer_Normalize.c integer_Normalize.h = [] := by kernel_rfl
    rw [e]
    exact LamOk.nil
def rational_Whole (t0 : Bool × List Int × Unit) : Option ((Bool × List Int × Unit) × (Bool × List Int × Unit) × Unit) :=
  ((integer_Normalize (t0.1, (t0.2.1, ()))).bind fun y1 =>
  ((integer_Small (1 : Int)).bind fun y2 =>
  (some ((y1.1, (y1.2.1, ())), ((y2.1, (y2.2.1, ())), ())))))
def rational_Whole.en : En := ⟨112, [tZ], .pair (tZ) (.pair (tZ) (.unit)), false, fun x => rational_Whole x.1⟩
def rational_Whole.o : List En := [integer_Small.en, integer_Normalize.en]
def rational_Whole.oB : List EnB := []
def rational_Whole.h : HT := .n
def rational_Whole.c : Code := Tryz.f112.body.getD .skip
def rational_Whole.L : Lam := fun _ i s K => none
theorem rational_Whole.os : AllOk prog rational_Whole.o := ⟨integer_Small.ok, integer_Normalize.ok, trivial⟩
theorem rational_Whole.osB : AllBOk prog rational_Whole.oB := trivial
theorem rational_Whole.hk (x) : semK env (orc rational_Whole.o) (orcB rational_Whole.oB) 7 (rational_Whole.L _) rational_Whole.c rational_Whole.h (S.init (avs [tZ] x)) (fin env Tryz.f112 ⟨[tZ], .pair (tZ) (.pair (tZ) (.unit)), false, false⟩) = rational_Whole.en.g x := by kernel_rfl
theorem rational_Whole.ok : EnOk prog rational_Whole.en := by
  refine fun_ok (g := ⟨[tZ], .pair (tZ) (.pair (tZ) (.unit)), false, false⟩) (h := rational_Whole.h) (Λ := rational_Whole.L) tabs rational_Whole.os rational_Whole.osB Tryz.func112 (c := rational_Whole.c) (by kernel_rfl) (by decide +kernel) (by decide +kernel) (fun C hC => ?_) (fun x => rational_Whole.hk x)
  exact by
    have e : loops rational_Whole.c rational_Whole.h = [] := by kernel_rfl
    rw [e]
    exact LamOk.nil
def localmass_whole (t0 : Int) : Option ((Bool × List Int × Unit) × (Bool × List Int × Unit) × Unit) :=
  ((integer_Small t0).bind fun y1 =>
  ((rational_Whole y1).bind fun y2 =>
  (some ((y2.1.1, (y2.1.2.1, ())), ((y2.2.1.1, (y2.2.1.2.1, ())), ())))))
def localmass_whole.en : En := ⟨52, [.int .i64], .pair (tZ) (.pair (tZ) (.unit)), false, fun x => localmass_whole x.1⟩
def localmass_whole.o : List En := [rational_Whole.en, integer_Small.en]
def localmass_whole.oB : List EnB := []
def localmass_whole.h : HT := .n
def localmass_whole.c : Code := Tryz.f52.body.getD .skip
def localmass_whole.L : Lam := fun _ i s K => none
theorem localmass_whole.os : AllOk prog localmass_whole.o := ⟨rational_Whole.ok, integer_Small.ok, trivial⟩
theorem localmass_whole.osB : AllBOk prog localmass_whole.oB := trivial
theorem localmass_whole.hk (x) : semK env (orc localmass_whole.o) (orcB localmass_whole.oB) 6 (localmass_whole.L _) localmass_whole.c localmass_whole.h (S.init (avs [.int .i64] x)) (fin env Tryz.f52 ⟨[.int .i64], .pair (tZ) (.pair (tZ) (.unit)), false, false⟩) = localmass_whole.en.g x := by kernel_rfl
theorem localmass_whole.ok : EnOk prog localmass_whole.en := by
  refine fun_ok (g := ⟨[.int .i64], .pair (tZ) (.pair (tZ) (.unit)), false, false⟩) (h := localmass_whole.h) (Λ := localmass_whole.L) tabs localmass_whole.os localmass_whole.osB Tryz.func52 (c := localmass_whole.c) (by kernel_rfl) (by decide +kernel) (by decide +kernel) (fun C hC => ?_) (fun x => localmass_whole.hk x)
  exact by
    have e : loops localmass_whole.c localmass_whole.h = [] := by kernel_rfl
    rw [e]
    exact LamOk.nil
def prime_Is.j3 (t0 : Int) (t3 : Int) : Option ((Int × Int × Unit) ⊕ ((Unit) ⊕ (Bool × Unit))) :=
  (some (.inl (t0, (IntKind.wrap .i64 (t3 + (1 : Int))), ())))
def prime_Is.j2 (t0 : Int) (t3 : Int) : Option ((Int × Int × Unit) ⊕ ((Unit) ⊕ (Bool × Unit))) :=
  (cond (decide (t3 = 0))
  none
  ((cond (((Int.tmod t0 t3) == (0 : Int)))
  ((some (.inr (.inr (false, ())))))
  ((prime_Is.j3 t0 t3)))))
def prime_Is.s0 (t0 : Int) (t3 : Int) : Option ((Int × Int × Unit) ⊕ ((Unit) ⊕ (Bool × Unit))) :=
  (cond ((decide ((IntKind.wrap .i64 (t3 * t3)) ≤ t0)))
  ((prime_Is.j2 t0 t3))
  ((some (.inr (.inl ())))))
def prime_Is.k0_0  : Option (Bool) :=
  (some true)
def prime_Is.k0_1 (t2 : Bool) : Option (Bool) :=
  (some t2)
def prime_Is.j1 (t0 : Int) : Option (Bool) :=
  ((iterL (fun x : Int × Int × Unit => prime_Is.s0 x.1 x.2.1) (t0, (2 : Int), ())).bind fun z => Sum.casesOn z (fun y => prime_Is.k0_0) (fun z => prime_Is.k0_1 z.1))
def prime_Is (t0 : Int) : Option (Bool) :=
  (cond ((decide (t0 < (2 : Int))))
  ((some false))
  ((cond ((decide (t0 > (2147483647 : Int))))
  ((some false))
  ((prime_Is.j1 t0)))))
def prime_Is.en : En := ⟨125, [.int .i64], .bool, false, fun x => prime_Is x.1⟩
def prime_Is.o : List En := []
def prime_Is.oB : List EnB := []
def prime_Is.h : HT := .two (.n) (.two (.n) (.two (.two (.n) (.lp 0)) (.n)))
def prime_Is.c : Code := Tryz.f125.body.getD .skip
def prime_Is.h0 : HT := .n
def prime_Is.c0 : Code := (find (loops prime_Is.c prime_Is.h) 0).getD .skip
def prime_Is.d0 : Fm := [.v 0 (.int .i64), .v 3 (.int .i64)]
def prime_Is.x0 : Xs := [(.exit 0, []), (.ret, [.v 2 (.bool)])]
def prime_Is.r0 (x : (Fm.ty prime_Is.d0).den) : Option ((Fm.ty prime_Is.d0).den ⊕ (Xs.T prime_Is.x0)) := prime_Is.s0 x.1 x.2.1
def prime_Is.L : Lam := fun _ i s K => cond (Nat.beq i 0) (lamK prime_Is.d0 prime_Is.x0 prime_Is.r0 s K) (none)
theorem prime_Is.hf0 (x) : roundK env (orc prime_Is.o) (orcB prime_Is.oB) 21 prime_Is.L prime_Is.c0 prime_Is.h0 prime_Is.d0 prime_Is.x0 x = prime_Is.r0 x := by kernel_rfl
theorem prime_Is.os : AllOk prog prime_Is.o := trivial
theorem prime_Is.osB : AllBOk prog prime_Is.oB := trivial
theorem prime_Is.l0 {C : Ctx} (hC : C.n = 21) : LamAt prog C prime_Is.L 0 prime_Is.c0 := by
  intro R s K r hk
  refine loop_ok (D := prime_Is.d0) (X := prime_Is.x0) (h := prime_Is.h0) (f := prime_Is.r0) tabs (orc_ok _ prime_Is.os) (orcB_ok _ prime_Is.osB) (fun x => by rw [hC]; exact prime_Is.hf0 x) (Λ := prime_Is.L) ?_ (by kernel_rfl) (by kernel_rfl) (K := K) (s := s) (by exact hk)
  exact by
    have e : loops prime_Is.c0 prime_Is.h0 = [] := by kernel_rfl
    rw [e]
    exact LamOk.nil
theorem prime_Is.hk (x) : semK env (orc prime_Is.o) (orcB prime_Is.oB) 21 (prime_Is.L _) prime_Is.c prime_Is.h (S.init (avs [.int .i64] x)) (fin env Tryz.f125 ⟨[.int .i64], .bool, false, false⟩) = prime_Is.en.g x := by kernel_rfl
theorem prime_Is.ok : EnOk prog prime_Is.en := by
  refine fun_ok (g := ⟨[.int .i64], .bool, false, false⟩) (h := prime_Is.h) (Λ := prime_Is.L) tabs prime_Is.os prime_Is.osB Tryz.func125 (c := prime_Is.c) (by kernel_rfl) (by decide +kernel) (by decide +kernel) (fun C hC => ?_) (fun x => prime_Is.hk x)
  exact by
    have e : loops prime_Is.c prime_Is.h = [(0, prime_Is.c0)] := by kernel_rfl
    rw [e]
    exact LamOk.cons (prime_Is.l0 hC) (LamOk.nil)
def localmass_known (t0 : Int) : Option (Bool) :=
  (cond ((decide (t0 ≤ (9973 : Int))))
  (((prime_Is t0).bind fun y1 =>
  (some y1)))
  ((some false)))
def localmass_known.en : En := ⟨55, [.int .i64], .bool, false, fun x => localmass_known x.1⟩
def localmass_known.o : List En := [prime_Is.en]
def localmass_known.oB : List EnB := []
def localmass_known.h : HT := .n
def localmass_known.c : Code := Tryz.f55.body.getD .skip
def localmass_known.L : Lam := fun _ i s K => none
theorem localmass_known.os : AllOk prog localmass_known.o := ⟨prime_Is.ok, trivial⟩
theorem localmass_known.osB : AllBOk prog localmass_known.oB := trivial
theorem localmass_known.hk (x) : semK env (orc localmass_known.o) (orcB localmass_known.oB) 9 (localmass_known.L _) localmass_known.c localmass_known.h (S.init (avs [.int .i64] x)) (fin env Tryz.f55 ⟨[.int .i64], .bool, false, false⟩) = localmass_known.en.g x := by kernel_rfl
theorem localmass_known.ok : EnOk prog localmass_known.en := by
  refine fun_ok (g := ⟨[.int .i64], .bool, false, false⟩) (h := localmass_known.h) (Λ := localmass_known.L) tabs localmass_known.os localmass_known.osB Tryz.func55 (c := localmass_known.c) (by kernel_rfl) (by decide +kernel) (by decide +kernel) (fun C hC => ?_) (fun x => localmass_known.hk x)
  exact by
    have e : loops localmass_known.c localmass_known.h = [] := by kernel_rfl
    rw [e]
    exact LamOk.nil
def integer_Sign.j2  : Option (Int) :=
  (some (1 : Int))
def integer_Sign.j1  : Option (Int) :=
  (integer_Sign.j2)
def integer_Sign (t0 : Bool × List Int × Unit) : Option (Int) :=
  ((integer_magnitude (t0.1, (t0.2.1, ()))).bind fun y1 =>
  (cond ((((List.length y1 : Nat) : Int) == (0 : Int)))
  ((some (0 : Int)))
  ((cond (t0.1)
  ((some (-1 : Int)))
  ((integer_Sign.j1))))))
def integer_Sign.en : En := ⟨61, [tZ], .int .i64, false, fun x => integer_Sign x.1⟩
def integer_Sign.o : List En := [integer_magnitude.en]
def integer_Sign.oB : List EnB := []
def integer_Sign.h : HT := .n
def integer_Sign.c : Code := Tryz.f61.body.getD .skip
def integer_Sign.L : Lam := fun _ i s K => none
theorem integer_Sign.os : AllOk prog integer_Sign.o := ⟨integer_magnitude.ok, trivial⟩
theorem integer_Sign.osB : AllBOk prog integer_Sign.oB := trivial
theorem integer_Sign.hk (x) : semK env (orc integer_Sign.o) (orcB integer_Sign.oB) 11 (integer_Sign.L _) integer_Sign.c integer_Sign.h (S.init (avs [tZ] x)) (fin env Tryz.f61 ⟨[tZ], .int .i64, false, false⟩) = integer_Sign.en.g x := by kernel_rfl
theorem integer_Sign.ok : EnOk prog integer_Sign.en := by
  refine fun_ok (g := ⟨[tZ], .int .i64, false, false⟩) (h := integer_Sign.h) (Λ := integer_Sign.L) tabs integer_Sign.os integer_Sign.osB Tryz.func61 (c := integer_Sign.c) (by kernel_rfl) (by decide +kernel) (by decide +kernel) (fun C hC => ?_) (fun x => integer_Sign.hk x)
  exact by
    have e : loops integer_Sign.c integer_Sign.h = [] := by kernel_rfl
    rw [e]
    exact LamOk.nil
def integer_Neg (t0 : Bool × List Int × Unit) : Option (Bool × List Int × Unit) :=
  ((integer_Normalize (t0.1, (t0.2.1, ()))).bind fun y1 =>
  ((integer_signed (!y1.1) y1.2.1).bind fun y2 =>
  (some (y2.1, (y2.2.1, ())))))
def integer_Neg.en : En := ⟨134, [tZ], tZ, false, fun x => integer_Neg x.1⟩
def integer_Neg.o : List En := [integer_Normalize.en, integer_signed.en]
def integer_Neg.oB : List EnB := []
def integer_Neg.h : HT := .n
def integer_Neg.c : Code := Tryz.f134.body.getD .skip
def integer_Neg.L : Lam := fun _ i s K => none
theorem integer_Neg.os : AllOk prog integer_Neg.o := ⟨integer_Normalize.ok, integer_signed.ok, trivial⟩
theorem integer_Neg.osB : AllBOk prog integer_Neg.oB := trivial
theorem integer_Neg.hk (x) : semK env (orc integer_Neg.o) (orcB integer_Neg.oB) 11 (integer_Neg.L _) integer_Neg.c integer_Neg.h (S.init (avs [tZ] x)) (fin env Tryz.f134 ⟨[tZ], tZ, false, false⟩) = integer_Neg.en.g x := by kernel_rfl
theorem integer_Neg.ok : EnOk prog integer_Neg.en := by
  refine fun_ok (g := ⟨[tZ], tZ, false, false⟩) (h := integer_Neg.h) (Λ := integer_Neg.L) tabs integer_Neg.os integer_Neg.osB Tryz.func134 (c := integer_Neg.c) (by kernel_rfl) (by decide +kernel) (by decide +kernel) (fun C hC => ?_) (fun x => integer_Neg.hk x)
  exact by
    have e : loops integer_Neg.c integer_Neg.h = [] := by kernel_rfl
    rw [e]
    exact LamOk.nil
def rational_of.j2 (b1_0 : Bool) (b1_1 : List Int) (b1_2 : Bool) (b1_3 : List Int) (b2_1 : List Int) (b2_3 : List Int) : Option ((Bool × List Int × Unit) × (Bool × List Int × Unit) × Unit) :=
  (some ((b1_0, (b1_1, ())), ((b1_2, (b1_3, ())), ())))
def rational_of.j1 (b1_0 : Bool) (b1_1 : List Int) (b1_2 : Bool) (b1_3 : List Int) (b2_1 : List Int) (b2_3 : List Int) : Option ((Bool × List Int × Unit) × (Bool × List Int × Unit) × Unit) :=
  (rational_of.j2 b1_0 b1_1 b1_2 b1_3 b2_1 b2_3)
def rational_of (t0 : (Bool × List Int × Unit) × (Bool × List Int × Unit) × Unit) : Option ((Bool × List Int × Unit) × (Bool × List Int × Unit) × Unit) :=
  ((integer_Sign (t0.2.1.1, (t0.2.1.2.1, ()))).bind fun y1 =>
  (cond ((y1 == (0 : Int)))
  (((integer_Small (1 : Int)).bind fun y2 =>
  (some ((false, (([] : List Int), ())), ((y2.1, (y2.2.1, ())), ())))))
  ((cond ((y1 == (-1 : Int)))
  (((integer_Neg (t0.1.1, (t0.1.2.1, ()))).bind fun y3 =>
  ((integer_Neg (t0.2.1.1, (t0.2.1.2.1, ()))).bind fun y4 =>
  (some ((y3.1, (y3.2.1, ())), ((y4.1, (y4.2.1, ())), ()))))))
  ((rational_of.j1 t0.1.1 t0.1.2.1 t0.2.1.1 t0.2.1.2.1 ([] : List Int) ([] : List Int)))))))
def rational_of.en : En := ⟨60, [.pair (tZ) (.pair (tZ) (.unit))], .pair (tZ) (.pair (tZ) (.unit)), false, fun x => rational_of x.1⟩
def rational_of.o : List En := [integer_Sign.en, integer_Small.en, integer_Neg.en]
def rational_of.oB : List EnB := []
def rational_of.h : HT := .n
def rational_of.c : Code := Tryz.f60.body.getD .skip
def rational_of.L : Lam := fun _ i s K => none
theorem rational_of.os : AllOk prog rational_of.o := ⟨integer_Sign.ok, integer_Small.ok, integer_Neg.ok, trivial⟩
theorem rational_of.osB : AllBOk prog rational_of.oB := trivial
theorem rational_of.hk (x) : semK env (orc rational_of.o) (orcB rational_of.oB) 25 (rational_of.L _) rational_of.c rational_of.h (S.init (avs [.pair (tZ) (.pair (tZ) (.unit))] x)) (fin env Tryz.f60 ⟨[.pair (tZ) (.pair (tZ) (.unit))], .pair (tZ) (.pair (tZ) (.unit)), false, false⟩) = rational_of.en.g x := by kernel_rfl
theorem rational_of.ok : EnOk prog rational_of.en := by
  refine fun_ok (g := ⟨[.pair (tZ) (.pair (tZ) (.unit))], .pair (tZ) (.pair (tZ) (.unit)), false, false⟩) (h := rational_of.h) (Λ := rational_of.L) tabs rational_of.os rational_of.osB Tryz.func60 (c := rational_of.c) (by kernel_rfl) (by decide +kernel) (by decide +kernel) (fun C hC => ?_) (fun x => rational_of.hk x)
  exact by
    have e : loops rational_of.c rational_of.h = [] := by kernel_rfl
    rw [e]
    exact LamOk.nil
def integer_times.j2 (t0 : List Int) (t1 : List Int) (t6 : Int) (t7 : Int) (t16 : Int) (t17 : Int) (t21 : Int) (t22 : Int) (a14 : List (Int)) : Option ((List Int × List Int × Int × Int × Int × Int × Int × Int × List Int × Unit) ⊕ ((List Int × List Int × Int × Int × Int × Int × List Int × Unit))) :=
  (cond (inB t6 (List.length t0))
  ((cond (inB t22 (List.length t1))
  ((cond (inB (IntKind.wrap .i64 (t6 + t22)) (List.length a14))
  (let x5 := (IntKind.wrap .u64 ((IntKind.wrap .u64 ((IntKind.wrap .u64 (List.getD t0 (t6.toNat) (0 : Int))) * (IntKind.wrap .u64 (List.getD t1 (t22.toNat) (0 : Int))))) + (IntKind.wrap .u64 (List.getD a14 ((0 + (((IntKind.wrap .i64 (t6 + t22))).toNat))) (0 : Int)))))
  (cond (inB (IntKind.wrap .i64 (t6 + t22)) (List.length a14))
  ((some (.inl (t0, t1, t6, (shrI .u64 (IntKind.wrap .u64 (t7 + x5)) (32 : Int)), t16, t17, t21, (IntKind.wrap .i64 (t22 + (1 : Int))), (List.set a14 ((0 + (((IntKind.wrap .i64 (t6 + t22))).toNat))) (IntKind.wrap .u32 (IntKind.wrap .u64 (t7 + x5)))), ()))))
  none))
  none))
  none))
  none)
def integer_times.s0 (t0 : List Int) (t1 : List Int) (t6 : Int) (t7 : Int) (t16 : Int) (t17 : Int) (t21 : Int) (t22 : Int) (a14 : List (Int)) : Option ((List Int × List Int × Int × Int × Int × Int × Int × Int × List Int × Unit) ⊕ ((List Int × List Int × Int × Int × Int × Int × List Int × Unit))) :=
  (cond ((decide (t22 < t21)))
  ((integer_times.j2 t0 t1 t6 t7 t16 t17 t21 t22 a14))
  ((some (.inr (t0, t1, t6, t7, t16, t17, a14, ())))))
def integer_times.k0 (t0 : List Int) (t1 : List Int) (t6 : Int) (t7 : Int) (t16 : Int) (t17 : Int) (a14 : List (Int)) : Option ((List Int × List Int × Int × Int × List Int × Unit) ⊕ ((List Int × Unit))) :=
  let x9 := (IntKind.wrap .i64 (t6 + ((List.length t1 : Nat) : Int)))
  (cond (inB x9 (List.length a14))
  ((some (.inl (t0, t1, t16, (IntKind.wrap .i64 (t17 + (1 : Int))), (List.set a14 ((0 + x9.toNat)) (IntKind.wrap .u32 t7)), ()))))
  none)
def integer_times.j1 (t0 : List Int) (t1 : List Int) (t16 : Int) (t17 : Int) (a14 : List (Int)) : Option ((List Int × List Int × Int × Int × List Int × Unit) ⊕ ((List Int × Unit))) :=
  ((iterL (fun x : List Int × List Int × Int × Int × Int × Int × Int × Int × List Int × Unit => integer_times.s0 x.1 x.2.1 x.2.2.1 x.2.2.2.1 x.2.2.2.2.1 x.2.2.2.2.2.1 x.2.2.2.2.2.2.1 x.2.2.2.2.2.2.2.1 x.2.2.2.2.2.2.2.2.1) (t0, t1, t17, (0 : Int), t16, t17, ((List.length t1 : Nat) : Int), (0 : Int), a14, ())).bind fun y => integer_times.k0 y.1 y.2.1 y.2.2.1 y.2.2.2.1 y.2.2.2.2.1 y.2.2.2.2.2.1 y.2.2.2.2.2.2.1)
def integer_times.s1 (t0 : List Int) (t1 : List Int) (t16 : Int) (t17 : Int) (a14 : List (Int)) : Option ((List Int × List Int × Int × Int × List Int × Unit) ⊕ ((List Int × Unit))) :=
  (cond ((decide (t17 < t16)))
  ((integer_times.j1 t0 t1 t16 t17 a14))
  ((some (.inr (a14, ())))))
def integer_times.k1 (a14 : List (Int)) : Option (List Int) :=
  ((integer_trim a14).bind fun y11 =>
  (some y11))
def integer_times (t0 : List Int) (t1 : List Int) : Option (List Int) :=
  let x1 := (IntKind.wrap .i64 (((List.length t0 : Nat) : Int) + ((List.length t1 : Nat) : Int)))
  (cond (inC x1 maxL)
  (((iterL (fun x : List Int × List Int × Int × Int × List Int × Unit => integer_times.s1 x.1 x.2.1 x.2.2.1 x.2.2.2.1 x.2.2.2.2.1) (t0, t1, ((List.length t0 : Nat) : Int), (0 : Int), (List.replicate (x1.toNat) ((0 : Int) : Int)), ())).bind fun y => integer_times.k1 y.1))
  none)
def integer_times.en : En := ⟨229, [.sl (.int .u32), .sl (.int .u32)], .sl (.int .u32), false, fun x => integer_times x.1 x.2.1⟩
def integer_times.o : List En := [integer_trim.en]
def integer_times.oB : List EnB := []
def integer_times.h : HT := .two (.n) (.two (.n) (.two (.two (.n) (.lp 1)) (.two (.fr [14] []) (.n))))
def integer_times.c : Code := Tryz.f229.body.getD .skip
def integer_times.h1 : HT := .two (.n) (.two (.n) (.two (.two (.n) (.two (.n) (.two (.two (.n) (.lp 0)) (.n)))) (.n)))
def integer_times.c1 : Code := (find (loops integer_times.c integer_times.h) 1).getD .skip
def integer_times.d1 : Fm := [.v 0 (.sl (.int .u32)), .v 1 (.sl (.int .u32)), .v 16 (.int .i64), .v 17 (.int .i64), .arr 14 211 (.int .u32), .own 5 14]
def integer_times.x1 : Xs := [(.exit 0, [.arr 14 211 (.int .u32), .own 5 14])]
def integer_times.r1 (x : (Fm.ty integer_times.d1).den) : Option ((Fm.ty integer_times.d1).den ⊕ (Xs.T integer_times.x1)) := integer_times.s1 x.1 x.2.1 x.2.2.1 x.2.2.2.1 x.2.2.2.2.1
def integer_times.h0 : HT := .n
def integer_times.c0 : Code := (find (loops integer_times.c1 integer_times.h1) 0).getD .skip
def integer_times.d0 : Fm := [.v 0 (.sl (.int .u32)), .v 1 (.sl (.int .u32)), .v 6 (.int .i64), .v 7 (.int .u64), .v 16 (.int .i64), .v 17 (.int .i64), .v 21 (.int .i64), .v 22 (.int .i64), .arr 14 211 (.int .u32), .own 5 14]
def integer_times.x0 : Xs := [(.exit 2, [.v 0 (.sl (.int .u32)), .v 1 (.sl (.int .u32)), .v 6 (.int .i64), .v 7 (.int .u64), .v 16 (.int .i64), .v 17 (.int .i64), .arr 14 211 (.int .u32), .own 5 14])]
def integer_times.r0 (x : (Fm.ty integer_times.d0).den) : Option ((Fm.ty integer_times.d0).den ⊕ (Xs.T integer_times.x0)) := integer_times.s0 x.1 x.2.1 x.2.2.1 x.2.2.2.1 x.2.2.2.2.1 x.2.2.2.2.2.1 x.2.2.2.2.2.2.1 x.2.2.2.2.2.2.2.1 x.2.2.2.2.2.2.2.2.1
def integer_times.L : Lam := fun _ i s K => cond (Nat.beq i 0) (lamK integer_times.d0 integer_times.x0 integer_times.r0 s K) (cond (Nat.beq i 1) (lamK integer_times.d1 integer_times.x1 integer_times.r1 s K) (none))
theorem integer_times.hf0 (x) : roundK env (orc integer_times.o) (orcB integer_times.oB) 67 integer_times.L integer_times.c0 integer_times.h0 integer_times.d0 integer_times.x0 x = integer_times.r0 x := by kernel_rfl
theorem integer_times.hf1 (x) : roundK env (orc integer_times.o) (orcB integer_times.oB) 67 integer_times.L integer_times.c1 integer_times.h1 integer_times.d1 integer_times.x1 x = integer_times.r1 x := by kernel_rfl
theorem integer_times.os : AllOk prog integer_times.o := ⟨integer_trim.ok, trivial⟩
theorem integer_times.osB : AllBOk prog integer_times.oB := trivial
theorem integer_times.l0 {C : Ctx} (hC : C.n = 67) : LamAt prog C integer_times.L 0 integer_times.c0 := by
  intro R s K r hk
  refine loop_ok (D := integer_times.d0) (X := integer_times.x0) (h := integer_times.h0) (f := integer_times.r0) tabs (orc_ok _ integer_times.os) (orcB_ok _ integer_times.osB) (fun x => by rw [hC]; exact integer_times.hf0 x) (Λ := integer_times.L) ?_ (by kernel_rfl) (by kernel_rfl) (K := K) (s := s) (by exact hk)
  exact by
    have e : loops integer_times.c0 integer_times.h0 = [] := by kernel_rfl
    rw [e]
    exact LamOk.nil
theorem integer_times.l1 {C : Ctx} (hC : C.n = 67) : LamAt prog C integer_times.L 1 integer_times.c1 := by
  intro R s K r hk
  refine loop_ok (D := integer_times.d1) (X := integer_times.x1) (h := integer_times.h1) (f := integer_times.r1) tabs (orc_ok _ integer_times.os) (orcB_ok _ integer_times.osB) (fun x => by rw [hC]; exact integer_times.hf1 x) (Λ := integer_times.L) ?_ (by kernel_rfl) (by kernel_rfl) (K := K) (s := s) (by exact hk)
  exact by
    have e : loops integer_times.c1 integer_times.h1 = [(0, integer_times.c0)] := by kernel_rfl
    rw [e]
    exact LamOk.cons (integer_times.l0 hC) (LamOk.nil)
theorem integer_times.hk (x) : semK env (orc integer_times.o) (orcB integer_times.oB) 67 (integer_times.L _) integer_times.c integer_times.h (S.init (avs [.sl (.int .u32), .sl (.int .u32)] x)) (fin env Tryz.f229 ⟨[.sl (.int .u32), .sl (.int .u32)], .sl (.int .u32), false, false⟩) = integer_times.en.g x := by kernel_rfl
theorem integer_times.ok : EnOk prog integer_times.en := by
  refine fun_ok (g := ⟨[.sl (.int .u32), .sl (.int .u32)], .sl (.int .u32), false, false⟩) (h := integer_times.h) (Λ := integer_times.L) tabs integer_times.os integer_times.osB Tryz.func229 (c := integer_times.c) (by kernel_rfl) (by decide +kernel) (by decide +kernel) (fun C hC => ?_) (fun x => integer_times.hk x)
  exact by
    have e : loops integer_times.c integer_times.h = [(1, integer_times.c1)] := by kernel_rfl
    rw [e]
    exact LamOk.cons (integer_times.l1 hC) (LamOk.nil)
def integer_Mul (t0 : Bool × List Int × Unit) (t1 : Bool × List Int × Unit) : Option (Bool × List Int × Unit) :=
  ((integer_magnitude (t0.1, (t0.2.1, ()))).bind fun y1 =>
  ((integer_magnitude (t1.1, (t1.2.1, ()))).bind fun y2 =>
  ((integer_times y1 y2).bind fun y3 =>
  ((integer_signed (!(t0.1 == t1.1)) y3).bind fun y4 =>
  (some (y4.1, (y4.2.1, ())))))))
def integer_Mul.en : En := ⟨185, [tZ, tZ], tZ, false, fun x => integer_Mul x.1 x.2.1⟩
def integer_Mul.o : List En := [integer_magnitude.en, integer_signed.en, integer_times.en]
def integer_Mul.oB : List EnB := []
def integer_Mul.h : HT := .n
def integer_Mul.c : Code := Tryz.f185.body.getD .skip
def integer_Mul.L : Lam := fun _ i s K => none
theorem integer_Mul.os : AllOk prog integer_Mul.o := ⟨integer_magnitude.ok, integer_signed.ok, integer_times.ok, trivial⟩
theorem integer_Mul.osB : AllBOk prog integer_Mul.oB := trivial
theorem integer_Mul.hk (x) : semK env (orc integer_Mul.o) (orcB integer_Mul.oB) 16 (integer_Mul.L _) integer_Mul.c integer_Mul.h (S.init (avs [tZ, tZ] x)) (fin env Tryz.f185 ⟨[tZ, tZ], tZ, false, false⟩) = integer_Mul.en.g x := by kernel_rfl
theorem integer_Mul.ok : EnOk prog integer_Mul.en := by
  refine fun_ok (g := ⟨[tZ, tZ], tZ, false, false⟩) (h := integer_Mul.h) (Λ := integer_Mul.L) tabs integer_Mul.os integer_Mul.osB Tryz.func185 (c := integer_Mul.c) (by kernel_rfl) (by decide +kernel) (by decide +kernel) (fun C hC => ?_) (fun x => integer_Mul.hk x)
  exact by
    have e : loops integer_Mul.c integer_Mul.h = [] := by kernel_rfl
    rw [e]
    exact LamOk.nil
def rational_product.j1 (t7 : List (Bool × List Int × Unit)) (t8 : Int) (t9 : Int) (b2_0 : Bool) (b2_1 : List Int) (b3_0 : Bool) (b3_1 : List Int) : Option (((List (Bool × List Int × Unit)) × Int × Int × (Bool × List Int × Unit) × (Bool × List Int × Unit) × Unit) ⊕ (((Bool × List Int × Unit) × (Bool × List Int × Unit) × Unit))) :=
  (cond (inB t9 (List.length t7))
  (((integer_Mul (b3_0, (b3_1, ())) ((List.getD t7 (t9.toNat) (false, (([] : List Int), ()))).1, ((List.getD t7 (t9.toNat) (false, (([] : List Int), ()))).2.1, ()))).bind fun y2 =>
  (some (.inl (t7, t8, (IntKind.wrap .i64 (t9 + (1 : Int))), (b2_0, (b2_1, ())), (y2.1, (y2.2.1, ())), ())))))
  none)
def rational_product.s0 (t7 : List (Bool × List Int × Unit)) (t8 : Int) (t9 : Int) (b2 : Bool × List Int × Unit) (b3 : Bool × List Int × Unit) : Option (((List (Bool × List Int × Unit)) × Int × Int × (Bool × List Int × Unit) × (Bool × List Int × Unit) × Unit) ⊕ (((Bool × List Int × Unit) × (Bool × List Int × Unit) × Unit))) :=
  (cond ((decide (t9 < t8)))
  ((rational_product.j1 t7 t8 t9 b2.1 b2.2.1 b3.1 b3.2.1))
  ((some (.inr ((b2.1, (b2.2.1, ())), (b3.1, (b3.2.1, ())), ())))))
def rational_product.k0 (b2 : Bool × List Int × Unit) (b3 : Bool × List Int × Unit) : Option (Bool × List Int × Unit) :=
  (some (b3.1, (b3.2.1, ())))
def rational_product (t0 : List (Bool × List Int × Unit)) : Option (Bool × List Int × Unit) :=
  ((integer_Small (1 : Int)).bind fun y1 =>
  ((iterL (fun x : (List (Bool × List Int × Unit)) × Int × Int × (Bool × List Int × Unit) × (Bool × List Int × Unit) × Unit => rational_product.s0 x.1 x.2.1 x.2.2.1 x.2.2.2.1 x.2.2.2.2.1) (t0, ((List.length t0 : Nat) : Int), (0 : Int), (false, (([] : List Int), ())), (y1.1, (y1.2.1, ())), ())).bind fun y => rational_product.k0 y.1 y.2.1))
def rational_product.en : En := ⟨108, [.sl (tZ)], tZ, false, fun x => rational_product x.1⟩
def rational_product.o : List En := [integer_Small.en, integer_Mul.en]
def rational_product.oB : List EnB := []
def rational_product.h : HT := .two (.n) (.two (.n) (.two (.two (.n) (.lp 0)) (.n)))
def rational_product.c : Code := Tryz.f108.body.getD .skip
def rational_product.h0 : HT := .n
def rational_product.c0 : Code := (find (loops rational_product.c rational_product.h) 0).getD .skip
def rational_product.d0 : Fm := [.v 7 (.sl (tZ)), .v 8 (.int .i64), .v 9 (.int .i64), .box 2 (tZ), .box 3 (tZ), .ptr 2 2, .ptr 3 3]
def rational_product.x0 : Xs := [(.exit 0, [.box 2 (tZ), .box 3 (tZ), .ptr 2 2, .ptr 3 3])]
def rational_product.r0 (x : (Fm.ty rational_product.d0).den) : Option ((Fm.ty rational_product.d0).den ⊕ (Xs.T rational_product.x0)) := rational_product.s0 x.1 x.2.1 x.2.2.1 x.2.2.2.1 x.2.2.2.2.1
def rational_product.L : Lam := fun _ i s K => cond (Nat.beq i 0) (lamK rational_product.d0 rational_product.x0 rational_product.r0 s K) (none)
theorem rational_product.hf0 (x) : roundK env (orc rational_product.o) (orcB rational_product.oB) 18 rational_product.L rational_product.c0 rational_product.h0 rational_product.d0 rational_product.x0 x = rational_product.r0 x := by kernel_rfl
theorem rational_product.os : AllOk prog rational_product.o := ⟨integer_Small.ok, integer_Mul.ok, trivial⟩
theorem rational_product.osB : AllBOk prog rational_product.oB := trivial
theorem rational_product.l0 {C : Ctx} (hC : C.n = 18) : LamAt prog C rational_product.L 0 rational_product.c0 := by
  intro R s K r hk
  refine loop_ok (D := rational_product.d0) (X := rational_product.x0) (h := rational_product.h0) (f := rational_product.r0) tabs (orc_ok _ rational_product.os) (orcB_ok _ rational_product.osB) (fun x => by rw [hC]; exact rational_product.hf0 x) (Λ := rational_product.L) ?_ (by kernel_rfl) (by kernel_rfl) (K := K) (s := s) (by exact hk)
  exact by
    have e : loops rational_product.c0 rational_product.h0 = [] := by kernel_rfl
    rw [e]
    exact LamOk.nil
theorem rational_product.hk (x) : semK env (orc rational_product.o) (orcB rational_product.oB) 18 (rational_product.L _) rational_product.c rational_product.h (S.init (avs [.sl (tZ)] x)) (fin env Tryz.f108 ⟨[.sl (tZ)], tZ, false, false⟩) = rational_product.en.g x := by kernel_rfl
theorem rational_product.ok : EnOk prog rational_product.en := by
  refine fun_ok (g := ⟨[.sl (tZ)], tZ, false, false⟩) (h := rational_product.h) (Λ := rational_product.L) tabs rational_product.os rational_product.osB Tryz.func108 (c := rational_product.c) (by kernel_rfl) (by decide +kernel) (by decide +kernel) (fun C hC => ?_) (fun x => rational_product.hk x)
  exact by
    have e : loops rational_product.c rational_product.h = [(0, rational_product.c0)] := by kernel_rfl
    rw [e]
    exact LamOk.cons (rational_product.l0 hC) (LamOk.nil)
def integer_shortDivide.j1 (t0 : List Int) (t1 : Int) (t7 : Int) (t8 : Int) (a11 : List (Int)) : Option ((List Int × Int × Int × Int × List Int × Unit) ⊕ ((Int × List Int × Unit))) :=
  (cond (inB t8 (List.length t0))
  (let x2 := (IntKind.wrap .u64 (List.getD t0 (t8.toNat) (0 : Int)))
  (cond (decide ((IntKind.wrap .u64 t1) = 0))
  none
  ((cond (inB t8 (List.length a11))
  ((cond (decide ((IntKind.wrap .u64 t1) = 0))
  none
  ((some (.inl (t0, t1, (Int.tmod (orI .u64 (shlI .u64 t7 (32 : Int)) x2) (IntKind.wrap .u64 t1)), (IntKind.wrap .i64 (t8 - (1 : Int))), (List.set a11 ((0 + t8.toNat)) (IntKind.wrap .u32 (IntKind.wrap .u64 (Int.tdiv (orI .u64 (shlI .u64 t7 (32 : Int)) x2) (IntKind.wrap .u64 t1))))), ()))))))
  none))))
  none)
def integer_shortDivide.s0 (t0 : List Int) (t1 : Int) (t7 : Int) (t8 : Int) (a11 : List (Int)) : Option ((List Int × Int × Int × Int × List Int × Unit) ⊕ ((Int × List Int × Unit))) :=
  (cond ((decide (t8 ≥ (0 : Int))))
  ((integer_shortDivide.j1 t0 t1 t7 t8 a11))
  ((some (.inr (t7, a11, ())))))
def integer_shortDivide.k0 (t7 : Int) (a11 : List (Int)) : Option (List Int × Int × Unit) :=
  ((integer_trim a11).bind fun y6 =>
  (some (y6, ((IntKind.wrap .u32 t7), ()))))
def integer_shortDivide (t0 : List Int) (t1 : Int) : Option (List Int × Int × Unit) :=
  (cond (inC ((List.length t0 : Nat) : Int) maxL)
  (((iterL (fun x : List Int × Int × Int × Int × List Int × Unit => integer_shortDivide.s0 x.1 x.2.1 x.2.2.1 x.2.2.2.1 x.2.2.2.2.1) (t0, t1, (0 : Int), (IntKind.wrap .i64 (((List.length t0 : Nat) : Int) - (1 : Int))), (List.replicate ((((List.length t0 : Nat) : Int)).toNat) ((0 : Int) : Int)), ())).bind fun y => integer_shortDivide.k0 y.1 y.2.1))
  none)
def integer_shortDivide.en : En := ⟨184, [.sl (.int .u32), .int .u32], .pair (.sl (.int .u32)) (.pair (.int .u32) (.unit)), true, fun x => integer_shortDivide x.1 x.2.1⟩
def integer_shortDivide.o : List En := [integer_trim.en]
def integer_shortDivide.oB : List EnB := []
def integer_shortDivide.h : HT := .two (.n) (.two (.n) (.two (.n) (.two (.two (.n) (.lp 0)) (.two (.fr [11] []) (.n)))))
def integer_shortDivide.c : Code := Tryz.f184.body.getD .skip
def integer_shortDivide.h0 : HT := .n
def integer_shortDivide.c0 : Code := (find (loops integer_shortDivide.c integer_shortDivide.h) 0).getD .skip
def integer_shortDivide.d0 : Fm := [.v 0 (.sl (.int .u32)), .v 1 (.int .u32), .v 7 (.int .u64), .v 8 (.int .i64), .arr 11 211 (.int .u32), .own 6 11]
def integer_shortDivide.x0 : Xs := [(.exit 0, [.v 7 (.int .u64), .arr 11 211 (.int .u32), .own 6 11])]
def integer_shortDivide.r0 (x : (Fm.ty integer_shortDivide.d0).den) : Option ((Fm.ty integer_shortDivide.d0).den ⊕ (Xs.T integer_shortDivide.x0)) := integer_shortDivide.s0 x.1 x.2.1 x.2.2.1 x.2.2.2.1 x.2.2.2.2.1
def integer_shortDivide.L : Lam := fun _ i s K => cond (Nat.beq i 0) (lamK integer_shortDivide.d0 integer_shortDivide.x0 integer_shortDivide.r0 s K) (none)
theorem integer_shortDivide.hf0 (x) : roundK env (orc integer_shortDivide.o) (orcB integer_shortDivide.oB) 43 integer_shortDivide.L integer_shortDivide.c0 integer_shortDivide.h0 integer_shortDivide.d0 integer_shortDivide.x0 x = integer_shortDivide.r0 x := by kernel_rfl
theorem integer_shortDivide.os : AllOk prog integer_shortDivide.o := ⟨integer_trim.ok, trivial⟩
theorem integer_shortDivide.osB : AllBOk prog integer_shortDivide.oB := trivial
theorem integer_shortDivide.l0 {C : Ctx} (hC : C.n = 43) : LamAt prog C integer_shortDivide.L 0 integer_shortDivide.c0 := by
  intro R s K r hk
  refine loop_ok (D := integer_shortDivide.d0) (X := integer_shortDivide.x0) (h := integer_shortDivide.h0) (f := integer_shortDivide.r0) tabs (orc_ok _ integer_shortDivide.os) (orcB_ok _ integer_shortDivide.osB) (fun x => by rw [hC]; exact integer_shortDivide.hf0 x) (Λ := integer_shortDivide.L) ?_ (by kernel_rfl) (by kernel_rfl) (K := K) (s := s) (by exact hk)
  exact by
    have e : loops integer_shortDivide.c0 integer_shortDivide.h0 = [] := by kernel_rfl
    rw [e]
    exact LamOk.nil
theorem integer_shortDivide.hk (x) : semK env (orc integer_shortDivide.o) (orcB integer_shortDivide.oB) 43 (integer_shortDivide.L _) integer_shortDivide.c integer_shortDivide.h (S.init (avs [.sl (.int .u32), .int .u32] x)) (fin env Tryz.f184 ⟨[.sl (.int .u32), .int .u32], .pair (.sl (.int .u32)) (.pair (.int .u32) (.unit)), true, false⟩) = integer_shortDivide.en.g x := by kernel_rfl
theorem integer_shortDivide.ok : EnOk prog integer_shortDivide.en := by
  refine fun_ok (g := ⟨[.sl (.int .u32), .int .u32], .pair (.sl (.int .u32)) (.pair (.int .u32) (.unit)), true, false⟩) (h := integer_shortDivide.h) (Λ := integer_shortDivide.L) tabs integer_shortDivide.os integer_shortDivide.osB Tryz.func184 (c := integer_shortDivide.c) (by kernel_rfl) (by decide +kernel) (by decide +kernel) (fun C hC => ?_) (fun x => integer_shortDivide.hk x)
  exact by
    have e : loops integer_shortDivide.c integer_shortDivide.h = [(0, integer_shortDivide.c0)] := by kernel_rfl
    rw [e]
    exact LamOk.cons (integer_shortDivide.l0 hC) (LamOk.nil)
def integer_compare.j1  : Option (Int) :=
  (some (1 : Int))
def integer_compare.j4  : Option ((List Int × List Int × Int × Unit) ⊕ ((Unit) ⊕ (Int × Unit))) :=
  (some (.inr (.inr ((1 : Int), ()))))
def integer_compare.j5 (t0 : List Int) (t1 : List Int) (t5 : Int) : Option ((List Int × List Int × Int × Unit) ⊕ ((Unit) ⊕ (Int × Unit))) :=
  (some (.inl (t0, t1, (IntKind.wrap .i64 (t5 - (1 : Int))), ())))
def integer_compare.j3 (t0 : List Int) (t1 : List Int) (t5 : Int) : Option ((List Int × List Int × Int × Unit) ⊕ ((Unit) ⊕ (Int × Unit))) :=
  (cond (inB t5 (List.length t0))
  ((cond (inB t5 (List.length t1))
  ((cond (((List.getD t0 (t5.toNat) (0 : Int)) != (List.getD t1 (t5.toNat) (0 : Int))))
  ((cond (inB t5 (List.length t0))
  ((cond (inB t5 (List.length t1))
  ((cond ((decide ((List.getD t0 (t5.toNat) (0 : Int)) < (List.getD t1 (t5.toNat) (0 : Int)))))
  ((some (.inr (.inr ((-1 : Int), ())))))
  ((integer_compare.j4))))
  none))
  none))
  ((integer_compare.j5 t0 t1 t5))))
  none))
  none)
def integer_compare.s0 (t0 : List Int) (t1 : List Int) (t5 : Int) : Option ((List Int × List Int × Int × Unit) ⊕ ((Unit) ⊕ (Int × Unit))) :=
  (cond ((decide (t5 ≥ (0 : Int))))
  ((integer_compare.j3 t0 t1 t5))
  ((some (.inr (.inl ())))))
def integer_compare.k0_0  : Option (Int) :=
  (some (0 : Int))
def integer_compare.k0_1 (t4 : Int) : Option (Int) :=
  (some t4)
def integer_compare.j2 (t0 : List Int) (t1 : List Int) : Option (Int) :=
  ((iterL (fun x : List Int × List Int × Int × Unit => integer_compare.s0 x.1 x.2.1 x.2.2.1) (t0, t1, (IntKind.wrap .i64 (((List.length t0 : Nat) : Int) - (1 : Int))), ())).bind fun z => Sum.casesOn z (fun y => integer_compare.k0_0) (fun z => integer_compare.k0_1 z.1))
def integer_compare (t0 : List Int) (t1 : List Int) : Option (Int) :=
  (cond ((((List.length t0 : Nat) : Int) != ((List.length t1 : Nat) : Int)))
  ((cond ((decide (((List.length t0 : Nat) : Int) < ((List.length t1 : Nat) : Int))))
  ((some (-1 : Int)))
  ((integer_compare.j1))))
  ((integer_compare.j2 t0 t1)))
def integer_compare.en : En := ⟨194, [.sl (.int .u32), .sl (.int .u32)], .int .i64, false, fun x => integer_compare x.1 x.2.1⟩
def integer_compare.o : List En := []
def integer_compare.oB : List EnB := []
def integer_compare.h : HT := .two (.n) (.two (.n) (.two (.two (.n) (.lp 0)) (.n)))
def integer_compare.c : Code := Tryz.f194.body.getD .skip
def integer_compare.h0 : HT := .n
def integer_compare.c0 : Code := (find (loops integer_compare.c integer_compare.h) 0).getD .skip
def integer_compare.d0 : Fm := [.v 0 (.sl (.int .u32)), .v 1 (.sl (.int .u32)), .v 5 (.int .i64)]
def integer_compare.x0 : Xs := [(.exit 0, []), (.ret, [.v 4 (.int .i64)])]
def integer_compare.r0 (x : (Fm.ty integer_compare.d0).den) : Option ((Fm.ty integer_compare.d0).den ⊕ (Xs.T integer_compare.x0)) := integer_compare.s0 x.1 x.2.1 x.2.2.1
def integer_compare.L : Lam := fun _ i s K => cond (Nat.beq i 0) (lamK integer_compare.d0 integer_compare.x0 integer_compare.r0 s K) (none)
theorem integer_compare.hf0 (x) : roundK env (orc integer_compare.o) (orcB integer_compare.oB) 41 integer_compare.L integer_compare.c0 integer_compare.h0 integer_compare.d0 integer_compare.x0 x = integer_compare.r0 x := by kernel_rfl
theorem integer_compare.os : AllOk prog integer_compare.o := trivial
theorem integer_compare.osB : AllBOk prog integer_compare.oB := trivial
theorem integer_compare.l0 {C : Ctx} (hC : C.n = 41) : LamAt prog C integer_compare.L 0 integer_compare.c0 := by
  intro R s K r hk
  refine loop_ok (D := integer_compare.d0) (X := integer_compare.x0) (h := integer_compare.h0) (f := integer_compare.r0) tabs (orc_ok _ integer_compare.os) (orcB_ok _ integer_compare.osB) (fun x => by rw [hC]; exact integer_compare.hf0 x) (Λ := integer_compare.L) ?_ (by kernel_rfl) (by kernel_rfl) (K := K) (s := s) (by exact hk)
  exact by
    have e : loops integer_compare.c0 integer_compare.h0 = [] := by kernel_rfl
    rw [e]
    exact LamOk.nil
theorem integer_compare.hk (x) : semK env (orc integer_compare.o) (orcB integer_compare.oB) 41 (integer_compare.L _) integer_compare.c integer_compare.h (S.init (avs [.sl (.int .u32), .sl (.int .u32)] x)) (fin env Tryz.f194 ⟨[.sl (.int .u32), .sl (.int .u32)], .int .i64, false, false⟩) = integer_compare.en.g x := by kernel_rfl
theorem integer_compare.ok : EnOk prog integer_compare.en := by
  refine fun_ok (g := ⟨[.sl (.int .u32), .sl (.int .u32)], .int .i64, false, false⟩) (h := integer_compare.h) (Λ := integer_compare.L) tabs integer_compare.os integer_compare.osB Tryz.func194 (c := integer_compare.c) (by kernel_rfl) (by decide +kernel) (by decide +kernel) (fun C hC => ?_) (fun x => integer_compare.hk x)
  exact by
    have e : loops integer_compare.c integer_compare.h = [(0, integer_compare.c0)] := by kernel_rfl
    rw [e]
    exact LamOk.cons (integer_compare.l0 hC) (LamOk.nil)
def bits_Len32.j2 (t0 : Int) (t2 : Int) : Option (Int) :=
  (cond (inB (IntKind.wrap .u8 t0) (ByteArray.size (⟨#[0, 1, 2, 2, 3, 3, 3, 3, 4, 4, 4, 4, 4, 4, 4, 4, 5, 5, 5, 5, 5, 5, 5, 5, 5, 5, 5, 5, 5, 5, 5, 5, 6, 6, 6, 6, 6, 6, 6, 6, 6, 6, 6, 6, 6, 6, 6, 6, 6, 6, 6, 6, 6, 6, 6, 6, 6, 6, 6, 6, 6, 6, 6, 6, 7, 7, 7, 7, 7, 7, 7, 7, 7, 7, 7, 7, 7, 7, 7, 7, 7, 7, 7, 7, 7, 7, 7, 7, 7, 7, 7, 7, 7, 7, 7, 7, 7, 7, 7, 7, 7, 7, 7, 7, 7, 7, 7, 7, 7, 7, 7, 7, 7, 7, 7, 7, 7, 7, 7, 7, 7, 7, 7, 7, 7, 7, 7, 7, 8, 8, 8, 8, 8, 8, 8, 8, 8, 8, 8, 8, 8, 8, 8, 8, 8, 8, 8, 8, 8, 8, 8, 8, 8, 8, 8, 8, 8, 8, 8, 8, 8, 8, 8, 8, 8, 8, 8, 8, 8, 8, 8, 8, 8, 8, 8, 8, 8, 8, 8, 8, 8, 8, 8, 8, 8, 8, 8, 8, 8, 8, 8, 8, 8, 8, 8, 8, 8, 8, 8, 8, 8, 8, 8, 8, 8, 8, 8, 8, 8, 8, 8, 8, 8, 8, 8, 8, 8, 8, 8, 8, 8, 8, 8, 8, 8, 8, 8, 8, 8, 8, 8, 8, 8, 8, 8, 8, 8, 8, 8, 8, 8, 8, 8, 8, 8, 8, 8, 8, 8, 8, 8, 8, 8, 8, 8, 8]⟩ : ByteArray)))
  ((some (IntKind.wrap .i64 (t2 + (IntKind.wrap .i64 (((ByteArray.get! (⟨#[0, 1, 2, 2, 3, 3, 3, 3, 4, 4, 4, 4, 4, 4, 4, 4, 5, 5, 5, 5, 5, 5, 5, 5, 5, 5, 5, 5, 5, 5, 5, 5, 6, 6, 6, 6, 6, 6, 6, 6, 6, 6, 6, 6, 6, 6, 6, 6, 6, 6, 6, 6, 6, 6, 6, 6, 6, 6, 6, 6, 6, 6, 6, 6, 7, 7, 7, 7, 7, 7, 7, 7, 7, 7, 7, 7, 7, 7, 7, 7, 7, 7, 7, 7, 7, 7, 7, 7, 7, 7, 7, 7, 7, 7, 7, 7, 7, 7, 7, 7, 7, 7, 7, 7, 7, 7, 7, 7, 7, 7, 7, 7, 7, 7, 7, 7, 7, 7, 7, 7, 7, 7, 7, 7, 7, 7, 7, 7, 8, 8, 8, 8, 8, 8, 8, 8, 8, 8, 8, 8, 8, 8, 8, 8, 8, 8, 8, 8, 8, 8, 8, 8, 8, 8, 8, 8, 8, 8, 8, 8, 8, 8, 8, 8, 8, 8, 8, 8, 8, 8, 8, 8, 8, 8, 8, 8, 8, 8, 8, 8, 8, 8, 8, 8, 8, 8, 8, 8, 8, 8, 8, 8, 8, 8, 8, 8, 8, 8, 8, 8, 8, 8, 8, 8, 8, 8, 8, 8, 8, 8, 8, 8, 8, 8, 8, 8, 8, 8, 8, 8, 8, 8, 8, 8, 8, 8, 8, 8, 8, 8, 8, 8, 8, 8, 8, 8, 8, 8, 8, 8, 8, 8, 8, 8, 8, 8, 8, 8, 8, 8, 8, 8, 8, 8, 8, 8]⟩ : ByteArray) (((IntKind.wrap .u8 t0)).toNat)).toNat : Nat) : Int))))))
  none)
def bits_Len32.j3 (t0 : Int) : Option (Int) :=
  (cond (inB (IntKind.wrap .u8 t0) (ByteArray.size (⟨#[0, 1, 2, 2, 3, 3, 3, 3, 4, 4, 4, 4, 4, 4, 4, 4, 5, 5, 5, 5, 5, 5, 5, 5, 5, 5, 5, 5, 5, 5, 5, 5, 6, 6, 6, 6, 6, 6, 6, 6, 6, 6, 6, 6, 6, 6, 6, 6, 6, 6, 6, 6, 6, 6, 6, 6, 6, 6, 6, 6, 6, 6, 6, 6, 7, 7, 7, 7, 7, 7, 7, 7, 7, 7, 7, 7, 7, 7, 7, 7, 7, 7, 7, 7, 7, 7, 7, 7, 7, 7, 7, 7, 7, 7, 7, 7, 7, 7, 7, 7, 7, 7, 7, 7, 7, 7, 7, 7, 7, 7, 7, 7, 7, 7, 7, 7, 7, 7, 7, 7, 7, 7, 7, 7, 7, 7, 7, 7, 8, 8, 8, 8, 8, 8, 8, 8, 8, 8, 8, 8, 8, 8, 8, 8, 8, 8, 8, 8, 8, 8, 8, 8, 8, 8, 8, 8, 8, 8, 8, 8, 8, 8, 8, 8, 8, 8, 8, 8, 8, 8, 8, 8, 8, 8, 8, 8, 8, 8, 8, 8, 8, 8, 8, 8, 8, 8, 8, 8, 8, 8, 8, 8, 8, 8, 8, 8, 8, 8, 8, 8, 8, 8, 8, 8, 8, 8, 8, 8, 8, 8, 8, 8, 8, 8, 8, 8, 8, 8, 8, 8, 8, 8, 8, 8, 8, 8, 8, 8, 8, 8, 8, 8, 8, 8, 8, 8, 8, 8, 8, 8, 8, 8, 8, 8, 8, 8, 8, 8, 8, 8, 8, 8, 8, 8, 8, 8]⟩ : ByteArray)))
  ((some (IntKind.wrap .i64 ((16 : Int) + (IntKind.wrap .i64 (((ByteArray.get! (⟨#[0, 1, 2, 2, 3, 3, 3, 3, 4, 4, 4, 4, 4, 4, 4, 4, 5, 5, 5, 5, 5, 5, 5, 5, 5, 5, 5, 5, 5, 5, 5, 5, 6, 6, 6, 6, 6, 6, 6, 6, 6, 6, 6, 6, 6, 6, 6, 6, 6, 6, 6, 6, 6, 6, 6, 6, 6, 6, 6, 6, 6, 6, 6, 6, 7, 7, 7, 7, 7, 7, 7, 7, 7, 7, 7, 7, 7, 7, 7, 7, 7, 7, 7, 7, 7, 7, 7, 7, 7, 7, 7, 7, 7, 7, 7, 7, 7, 7, 7, 7, 7, 7, 7, 7, 7, 7, 7, 7, 7, 7, 7, 7, 7, 7, 7, 7, 7, 7, 7, 7, 7, 7, 7, 7, 7, 7, 7, 7, 8, 8, 8, 8, 8, 8, 8, 8, 8, 8, 8, 8, 8, 8, 8, 8, 8, 8, 8, 8, 8, 8, 8, 8, 8, 8, 8, 8, 8, 8, 8, 8, 8, 8, 8, 8, 8, 8, 8, 8, 8, 8, 8, 8, 8, 8, 8, 8, 8, 8, 8, 8, 8, 8, 8, 8, 8, 8, 8, 8, 8, 8, 8, 8, 8, 8, 8, 8, 8, 8, 8, 8, 8, 8, 8, 8, 8, 8, 8, 8, 8, 8, 8, 8, 8, 8, 8, 8, 8, 8, 8, 8, 8, 8, 8, 8, 8, 8, 8, 8, 8, 8, 8, 8, 8, 8, 8, 8, 8, 8, 8, 8, 8, 8, 8, 8, 8, 8, 8, 8, 8, 8, 8, 8, 8, 8, 8, 8]⟩ : ByteArray) (((IntKind.wrap .u8 t0)).toNat)).toNat : Nat) : Int))))))
  none)
def bits_Len32.j1 (t0 : Int) : Option (Int) :=
  (cond ((decide (t0 ≥ (256 : Int))))
  ((bits_Len32.j2 (shrI .u32 t0 (8 : Int)) (IntKind.wrap .i64 ((16 : Int) + (8 : Int)))))
  ((bits_Len32.j3 t0)))
def bits_Len32.j5 (t0 : Int) : Option (Int) :=
  (cond (inB (IntKind.wrap .u8 t0) (ByteArray.size (⟨#[0, 1, 2, 2, 3, 3, 3, 3, 4, 4, 4, 4, 4, 4, 4, 4, 5, 5, 5, 5, 5, 5, 5, 5, 5, 5, 5, 5, 5, 5, 5, 5, 6, 6, 6, 6, 6, 6, 6, 6, 6, 6, 6, 6, 6, 6, 6, 6, 6, 6, 6, 6, 6, 6, 6, 6, 6, 6, 6, 6, 6, 6, 6, 6, 7, 7, 7, 7, 7, 7, 7, 7, 7, 7, 7, 7, 7, 7, 7, 7, 7, 7, 7, 7, 7, 7, 7, 7, 7, 7, 7, 7, 7, 7, 7, 7, 7, 7, 7, 7, 7, 7, 7, 7, 7, 7, 7, 7, 7, 7, 7, 7, 7, 7, 7, 7, 7, 7, 7, 7, 7, 7, 7, 7, 7, 7, 7, 7, 8, 8, 8, 8, 8, 8, 8, 8, 8, 8, 8, 8, 8, 8, 8, 8, 8, 8, 8, 8, 8, 8, 8, 8, 8, 8, 8, 8, 8, 8, 8, 8, 8, 8, 8, 8, 8, 8, 8, 8, 8, 8, 8, 8, 8, 8, 8, 8, 8, 8, 8, 8, 8, 8, 8, 8, 8, 8, 8, 8, 8, 8, 8, 8, 8, 8, 8, 8, 8, 8, 8, 8, 8, 8, 8, 8, 8, 8, 8, 8, 8, 8, 8, 8, 8, 8, 8, 8, 8, 8, 8, 8, 8, 8, 8, 8, 8, 8, 8, 8, 8, 8, 8, 8, 8, 8, 8, 8, 8, 8, 8, 8, 8, 8, 8, 8, 8, 8, 8, 8, 8, 8, 8, 8, 8, 8, 8, 8]⟩ : ByteArray)))
  ((some (IntKind.wrap .i64 ((0 : Int) + (IntKind.wrap .i64 (((ByteArray.get! (⟨#[0, 1, 2, 2, 3, 3, 3, 3, 4, 4, 4, 4, 4, 4, 4, 4, 5, 5, 5, 5, 5, 5, 5, 5, 5, 5, 5, 5, 5, 5, 5, 5, 6, 6, 6, 6, 6, 6, 6, 6, 6, 6, 6, 6, 6, 6, 6, 6, 6, 6, 6, 6, 6, 6, 6, 6, 6, 6, 6, 6, 6, 6, 6, 6, 7, 7, 7, 7, 7, 7, 7, 7, 7, 7, 7, 7, 7, 7, 7, 7, 7, 7, 7, 7, 7, 7, 7, 7, 7, 7, 7, 7, 7, 7, 7, 7, 7, 7, 7, 7, 7, 7, 7, 7, 7, 7, 7, 7, 7, 7, 7, 7, 7, 7, 7, 7, 7, 7, 7, 7, 7, 7, 7, 7, 7, 7, 7, 7, 8, 8, 8, 8, 8, 8, 8, 8, 8, 8, 8, 8, 8, 8, 8, 8, 8, 8, 8, 8, 8, 8, 8, 8, 8, 8, 8, 8, 8, 8, 8, 8, 8, 8, 8, 8, 8, 8, 8, 8, 8, 8, 8, 8, 8, 8, 8, 8, 8, 8, 8, 8, 8, 8, 8, 8, 8, 8, 8, 8, 8, 8, 8, 8, 8, 8, 8, 8, 8, 8, 8, 8, 8, 8, 8, 8, 8, 8, 8, 8, 8, 8, 8, 8, 8, 8, 8, 8, 8, 8, 8, 8, 8, 8, 8, 8, 8, 8, 8, 8, 8, 8, 8, 8, 8, 8, 8, 8, 8, 8, 8, 8, 8, 8, 8, 8, 8, 8, 8, 8, 8, 8, 8, 8, 8, 8, 8, 8]⟩ : ByteArray) (((IntKind.wrap .u8 t0)).toNat)).toNat : Nat) : Int))))))
  none)
def bits_Len32.j4 (t0 : Int) : Option (Int) :=
  (cond ((decide (t0 ≥ (256 : Int))))
  ((bits_Len32.j2 (shrI .u32 t0 (8 : Int)) (IntKind.wrap .i64 ((0 : Int) + (8 : Int)))))
  ((bits_Len32.j5 t0)))
def bits_Len32 (t0 : Int) : Option (Int) :=
  (cond ((decide (t0 ≥ (65536 : Int))))
  ((bits_Len32.j1 (shrI .u32 t0 (16 : Int))))
  ((bits_Len32.j4 t0)))
def bits_Len32.en : En := ⟨254, [.int .u32], .int .i64, false, fun x => bits_Len32 x.1⟩
def bits_Len32.o : List En := []
def bits_Len32.oB : List EnB := []
def bits_Len32.h : HT := .n
def bits_Len32.c : Code := Tryz.f254.body.getD .skip
def bits_Len32.L : Lam := fun _ i s K => none
theorem bits_Len32.os : AllOk prog bits_Len32.o := trivial
theorem bits_Len32.osB : AllBOk prog bits_Len32.oB := trivial
theorem bits_Len32.hk (x) : semK env (orc bits_Len32.o) (orcB bits_Len32.oB) 19 (bits_Len32.L _) bits_Len32.c bits_Len32.h (S.init (avs [.int .u32] x)) (fin env Tryz.f254 ⟨[.int .u32], .int .i64, false, false⟩) = bits_Len32.en.g x := by kernel_rfl
theorem bits_Len32.ok : EnOk prog bits_Len32.en := by
  refine fun_ok (g := ⟨[.int .u32], .int .i64, false, false⟩) (h := bits_Len32.h) (Λ := bits_Len32.L) tabs bits_Len32.os bits_Len32.osB Tryz.func254 (c := bits_Len32.c) (by kernel_rfl) (by decide +kernel) (by decide +kernel) (fun C hC => ?_) (fun x => bits_Len32.hk x)
  exact by
    have e : loops bits_Len32.c bits_Len32.h = [] := by kernel_rfl
    rw [e]
    exact LamOk.nil
def bits_LeadingZeros32 (t0 : Int) : Option (Int) :=
  ((bits_Len32 t0).bind fun y1 =>
  (some (IntKind.wrap .i64 ((32 : Int) - y1))))
def bits_LeadingZeros32.en : En := ⟨245, [.int .u32], .int .i64, false, fun x => bits_LeadingZeros32 x.1⟩
def bits_LeadingZeros32.o : List En := [bits_Len32.en]
def bits_LeadingZeros32.oB : List EnB := []
def bits_LeadingZeros32.h : HT := .n
def bits_LeadingZeros32.c : Code := Tryz.f245.body.getD .skip
def bits_LeadingZeros32.L : Lam := fun _ i s K => none
theorem bits_LeadingZeros32.os : AllOk prog bits_LeadingZeros32.o := ⟨bits_Len32.ok, trivial⟩
theorem bits_LeadingZeros32.osB : AllBOk prog bits_LeadingZeros32.oB := trivial
theorem bits_LeadingZeros32.hk (x) : semK env (orc bits_LeadingZeros32.o) (orcB bits_LeadingZeros32.oB) 6 (bits_LeadingZeros32.L _) bits_LeadingZeros32.c bits_LeadingZeros32.h (S.init (avs [.int .u32] x)) (fin env Tryz.f245 ⟨[.int .u32], .int .i64, false, false⟩) = bits_LeadingZeros32.en.g x := by kernel_rfl
theorem bits_LeadingZeros32.ok : EnOk prog bits_LeadingZeros32.en := by
  refine fun_ok (g := ⟨[.int .u32], .int .i64, false, false⟩) (h := bits_LeadingZeros32.h) (Λ := bits_LeadingZeros32.L) tabs bits_LeadingZeros32.os bits_LeadingZeros32.osB Tryz.func245 (c := bits_LeadingZeros32.c) (by kernel_rfl) (by decide +kernel) (by decide +kernel) (fun C hC => ?_) (fun x => bits_LeadingZeros32.hk x)
  exact by
    have e : loops bits_LeadingZeros32.c bits_LeadingZeros32.h = [] := by kernel_rfl
    rw [e]
    exact LamOk.nil
def integer_shift.j1 (t0 : List Int) (t1 : Int) (t13 : Int) (t14 : Int) (a11 : List (Int)) : Option ((List Int × Int × Int × Int × List Int × Unit) ⊕ ((List Int × Unit))) :=
  (cond (inB t14 (List.length t0))
  (let x2 := (IntKind.wrap .u64 (List.getD t0 (t14.toNat) (0 : Int)))
  (cond (decide (t1 < 0))
  none
  ((cond (inB t14 (List.length a11))
  (let x4 := (orI .u32 (List.getD a11 ((0 + t14.toNat)) (0 : Int)) (IntKind.wrap .u32 (shlI .u64 x2 t1)))
  (cond (inB t14 (List.length a11))
  ((cond (inB (IntKind.wrap .i64 (t14 + (1 : Int))) (List.length (List.set a11 ((0 + t14.toNat)) x4)))
  ((some (.inl (t0, t1, t13, (IntKind.wrap .i64 (t14 + (1 : Int))), (List.set (List.set a11 ((0 + t14.toNat)) x4) ((0 + (((IntKind.wrap .i64 (t14 + (1 : Int)))).toNat))) (IntKind.wrap .u32 (shrI .u64 (shlI .u64 x2 t1) (32 : Int)))), ()))))
  none))
  none))
  none))))
  none)
def integer_shift.s0 (t0 : List Int) (t1 : Int) (t13 : Int) (t14 : Int) (a11 : List (Int)) : Option ((List Int × Int × Int × Int × List Int × Unit) ⊕ ((List Int × Unit))) :=
  (cond ((decide (t14 < t13)))
  ((integer_shift.j1 t0 t1 t13 t14 a11))
  ((some (.inr (a11, ())))))
def integer_shift.k0 (a11 : List (Int)) : Option (List Int) :=
  (some a11)
def integer_shift (t0 : List Int) (t1 : Int) : Option (List Int) :=
  let x1 := (IntKind.wrap .i64 (((List.length t0 : Nat) : Int) + (1 : Int)))
  (cond (inC x1 maxL)
  (((iterL (fun x : List Int × Int × Int × Int × List Int × Unit => integer_shift.s0 x.1 x.2.1 x.2.2.1 x.2.2.2.1 x.2.2.2.2.1) (t0, t1, ((List.length t0 : Nat) : Int), (0 : Int), (List.replicate (x1.toNat) ((0 : Int) : Int)), ())).bind fun y => integer_shift.k0 y.1))
  none)
def integer_shift.en : En := ⟨246, [.sl (.int .u32), .int .u64], .sl (.int .u32), true, fun x => integer_shift x.1 x.2.1⟩
def integer_shift.o : List En := []
def integer_shift.oB : List EnB := []
def integer_shift.h : HT := .two (.n) (.two (.n) (.two (.two (.n) (.lp 0)) (.n)))
def integer_shift.c : Code := Tryz.f246.body.getD .skip
def integer_shift.h0 : HT := .n
def integer_shift.c0 : Code := (find (loops integer_shift.c integer_shift.h) 0).getD .skip
def integer_shift.d0 : Fm := [.v 0 (.sl (.int .u32)), .v 1 (.int .u64), .v 13 (.int .i64), .v 14 (.int .i64), .arr 11 211 (.int .u32), .own 5 11]
def integer_shift.x0 : Xs := [(.exit 0, [.arr 11 211 (.int .u32), .own 5 11])]
def integer_shift.r0 (x : (Fm.ty integer_shift.d0).den) : Option ((Fm.ty integer_shift.d0).den ⊕ (Xs.T integer_shift.x0)) := integer_shift.s0 x.1 x.2.1 x.2.2.1 x.2.2.2.1 x.2.2.2.2.1
def integer_shift.L : Lam := fun _ i s K => cond (Nat.beq i 0) (lamK integer_shift.d0 integer_shift.x0 integer_shift.r0 s K) (none)
theorem integer_shift.hf0 (x) : roundK env (orc integer_shift.o) (orcB integer_shift.oB) 41 integer_shift.L integer_shift.c0 integer_shift.h0 integer_shift.d0 integer_shift.x0 x = integer_shift.r0 x := by kernel_rfl
theorem integer_shift.os : AllOk prog integer_shift.o := trivial
theorem integer_shift.osB : AllBOk prog integer_shift.oB := trivial
theorem integer_shift.l0 {C : Ctx} (hC : C.n = 41) : LamAt prog C integer_shift.L 0 integer_shift.c0 := by
  intro R s K r hk
  refine loop_ok (D := integer_shift.d0) (X := integer_shift.x0) (h := integer_shift.h0) (f := integer_shift.r0) tabs (orc_ok _ integer_shift.os) (orcB_ok _ integer_shift.osB) (fun x => by rw [hC]; exact integer_shift.hf0 x) (Λ := integer_shift.L) ?_ (by kernel_rfl) (by kernel_rfl) (K := K) (s := s) (by exact hk)
  exact by
    have e : loops integer_shift.c0 integer_shift.h0 = [] := by kernel_rfl
    rw [e]
    exact LamOk.nil
theorem integer_shift.hk (x) : semK env (orc integer_shift.o) (orcB integer_shift.oB) 41 (integer_shift.L _) integer_shift.c integer_shift.h (S.init (avs [.sl (.int .u32), .int .u64] x)) (finN Tryz.f246 (.int .u32)) = integer_shift.en.g x := by kernel_rfl
theorem integer_shift.ok : EnOk prog integer_shift.en := by
  refine funN_ok (ki := .u32) (g := ⟨[.sl (.int .u32), .int .u64], .sl (.int .u32), true, false⟩) (h := integer_shift.h) (Λ := integer_shift.L) tabs integer_shift.os integer_shift.osB Tryz.func246 (c := integer_shift.c) (by kernel_rfl) (by decide +kernel) (by decide +kernel) (fun C hC => ?_) (fun x => integer_shift.hk x)
  exact by
    have e : loops integer_shift.c integer_shift.h = [(0, integer_shift.c0)] := by kernel_rfl
    rw [e]
    exact LamOk.cons (integer_shift.l0 hC) (LamOk.nil)
def integer_digit.j1 (t1 : List Int) (t5 : Int) (t7 : Int) (t8 : Int) (a1000000 : List (Int)) : Option ((List Int × Int × Int × Int × List Int × Unit) ⊕ ((List Int × Int × Int × List Int × Unit))) :=
  (cond (inB (IntKind.wrap .i64 (t5 - (1 : Int))) (List.length t1))
  ((some (.inl (t1, t5, (IntKind.wrap .u64 (t7 - (1 : Int))), (IntKind.wrap .u64 (t8 + (IntKind.wrap .u64 (List.getD t1 (((IntKind.wrap .i64 (t5 - (1 : Int)))).toNat) (0 : Int))))), a1000000, ()))))
  none)
def integer_digit.s0 (t1 : List Int) (t5 : Int) (t7 : Int) (t8 : Int) (a1000000 : List (Int)) : Option ((List Int × Int × Int × Int × List Int × Unit) ⊕ ((List Int × Int × Int × List Int × Unit))) :=
  (cond ((decide (t8 < (4294967296 : Int))))
  ((cond (inB (IntKind.wrap .i64 (t5 - (2 : Int))) (List.length t1))
  ((cond (inB (IntKind.wrap .i64 (t5 - (2 : Int))) (List.length a1000000))
  ((cond ((decide ((IntKind.wrap .u64 (t7 * (IntKind.wrap .u64 (List.getD t1 (((IntKind.wrap .i64 (t5 - (2 : Int)))).toNat) (0 : Int))))) > (orI .u64 (shlI .u64 t8 (32 : Int)) (IntKind.wrap .u64 (List.getD a1000000 ((0 + (((IntKind.wrap .i64 (t5 - (2 : Int)))).toNat))) (0 : Int)))))))
  ((integer_digit.j1 t1 t5 t7 t8 a1000000))
  ((some (.inr (t1, t5, t7, a1000000, ()))))))
  none))
  none))
  ((some (.inr (t1, t5, t7, a1000000, ())))))
def integer_digit.j2 (t1 : List Int) (t5 : Int) (t7 : Int) (t9 : Int) (t10 : Int) (t81 : Int) (t82 : Int) (a1000000 : List (Int)) : Option ((List Int × Int × Int × Int × Int × Int × Int × List Int × Unit) ⊕ ((List Int × Int × Int × Int × Int × List Int × Unit))) :=
  (cond (inB t82 (List.length t1))
  (let x19 := (IntKind.wrap .u64 (t10 + (IntKind.wrap .u64 (t7 * (IntKind.wrap .u64 (List.getD t1 (t82.toNat) (0 : Int)))))))
  (cond (inB t82 (List.length a1000000))
  (let x21 := (IntKind.wrap .u64 ((IntKind.wrap .u64 (List.getD a1000000 ((0 + t82.toNat)) (0 : Int))) - (andI .u64 x19 (4294967295 : Int))))
  (cond (inB t82 (List.length a1000000))
  ((some (.inl (t1, t5, t7, (shrI .u64 (IntKind.wrap .u64 (x21 - t9)) (63 : Int)), (shrI .u64 x19 (32 : Int)), t81, (IntKind.wrap .i64 (t82 + (1 : Int))), (List.set a1000000 ((0 + t82.toNat)) (IntKind.wrap .u32 (IntKind.wrap .u64 (x21 - t9)))), ()))))
  none))
  none))
  none)
def integer_digit.s1 (t1 : List Int) (t5 : Int) (t7 : Int) (t9 : Int) (t10 : Int) (t81 : Int) (t82 : Int) (a1000000 : List (Int)) : Option ((List Int × Int × Int × Int × Int × Int × Int × List Int × Unit) ⊕ ((List Int × Int × Int × Int × Int × List Int × Unit))) :=
  (cond ((decide (t82 < t81)))
  ((integer_digit.j2 t1 t5 t7 t9 t10 t81 t82 a1000000))
  ((some (.inr (t1, t5, t7, t9, t10, a1000000, ())))))
def integer_digit.j4 (t1 : List Int) (t5 : Int) (t7 : Int) (t10 : Int) (t133 : Int) (t134 : Int) (a1000000 : List (Int)) : Option ((List Int × Int × Int × Int × Int × Int × List Int × Unit) ⊕ ((Int × Int × Int × List Int × Unit))) :=
  (cond (inB t134 (List.length a1000000))
  ((cond (inB t134 (List.length t1))
  (let x31 := (IntKind.wrap .u64 ((IntKind.wrap .u64 (List.getD a1000000 ((0 + t134.toNat)) (0 : Int))) + (IntKind.wrap .u64 (List.getD t1 (t134.toNat) (0 : Int)))))
  (cond (inB t134 (List.length a1000000))
  ((some (.inl (t1, t5, t7, (shrI .u64 (IntKind.wrap .u64 (t10 + x31)) (32 : Int)), t133, (IntKind.wrap .i64 (t134 + (1 : Int))), (List.set a1000000 ((0 + t134.toNat)) (IntKind.wrap .u32 (IntKind.wrap .u64 (t10 + x31)))), ()))))
  none))
  none))
  none)
def integer_digit.s2 (t1 : List Int) (t5 : Int) (t7 : Int) (t10 : Int) (t133 : Int) (t134 : Int) (a1000000 : List (Int)) : Option ((List Int × Int × Int × Int × Int × Int × List Int × Unit) ⊕ ((Int × Int × Int × List Int × Unit))) :=
  (cond ((decide (t134 < t133)))
  ((integer_digit.j4 t1 t5 t7 t10 t133 t134 a1000000))
  ((some (.inr (t5, t7, t10, a1000000, ())))))
def integer_digit.k2 (z0 : List (Int)) (t5 : Int) (t7 : Int) (t10 : Int) (a1000000 : List (Int)) : Option ((Int) × List (Int)) :=
  (cond (inB t5 (List.length a1000000))
  (let x36 := (IntKind.wrap .u32 ((List.getD a1000000 ((0 + t5.toNat)) (0 : Int)) + (IntKind.wrap .u32 t10)))
  (cond (inB t5 (List.length a1000000))
  ((cond (Nat.beq (List.length ((List.set a1000000 ((0 + t5.toNat)) x36))) (List.length z0)) (some ((IntKind.wrap .u32 (IntKind.wrap .u64 (t7 - (1 : Int)))), (List.set a1000000 ((0 + t5.toNat)) x36))) none))
  none))
  none)
def integer_digit.j3 (z0 : List (Int)) (t1 : List Int) (t5 : Int) (t7 : Int) (a1000000 : List (Int)) : Option ((Int) × List (Int)) :=
  ((iterL (fun x : List Int × Int × Int × Int × Int × Int × List Int × Unit => integer_digit.s2 x.1 x.2.1 x.2.2.1 x.2.2.2.1 x.2.2.2.2.1 x.2.2.2.2.2.1 x.2.2.2.2.2.2.1) (t1, t5, t7, (0 : Int), t5, (0 : Int), a1000000, ())).bind fun y => integer_digit.k2 z0 y.1 y.2.1 y.2.2.1 y.2.2.2.1)
def integer_digit.k1 (z0 : List (Int)) (t1 : List Int) (t5 : Int) (t7 : Int) (t9 : Int) (t10 : Int) (a1000000 : List (Int)) : Option ((Int) × List (Int)) :=
  (cond (inB t5 (List.length a1000000))
  (let x26 := (IntKind.wrap .u64 ((IntKind.wrap .u64 (List.getD a1000000 ((0 + t5.toNat)) (0 : Int))) - t10))
  let x27 := (IntKind.wrap .u32 (IntKind.wrap .u64 (x26 - t9)))
  (cond (inB t5 (List.length a1000000))
  ((cond (((shrI .u64 (IntKind.wrap .u64 (x26 - t9)) (63 : Int)) == (0 : Int)))
  ((cond (Nat.beq (List.length ((List.set a1000000 ((0 + t5.toNat)) x27))) (List.length z0)) (some ((IntKind.wrap .u32 t7), (List.set a1000000 ((0 + t5.toNat)) x27))) none))
  ((integer_digit.j3 z0 t1 t5 t7 (List.set a1000000 ((0 + t5.toNat)) x27)))))
  none))
  none)
def integer_digit.k0 (z0 : List (Int)) (t1 : List Int) (t5 : Int) (t7 : Int) (a1000000 : List (Int)) : Option ((Int) × List (Int)) :=
  ((iterL (fun x : List Int × Int × Int × Int × Int × Int × Int × List Int × Unit => integer_digit.s1 x.1 x.2.1 x.2.2.1 x.2.2.2.1 x.2.2.2.2.1 x.2.2.2.2.2.1 x.2.2.2.2.2.2.1 x.2.2.2.2.2.2.2.1) (t1, t5, t7, (0 : Int), (0 : Int), t5, (0 : Int), a1000000, ())).bind fun y => integer_digit.k1 z0 y.1 y.2.1 y.2.2.1 y.2.2.2.1 y.2.2.2.2.1 y.2.2.2.2.2.1)
def integer_digit (z0 : List Int) (t1 : List Int) : Option ((Int) × List (Int)) :=
  (cond (inB ((List.length t1 : Nat) : Int) (List.length z0))
  (let x2 := (shlI .u64 (IntKind.wrap .u64 (List.getD z0 ((0 + ((((List.length t1 : Nat) : Int)).toNat))) (0 : Int))) (32 : Int))
  let x3 := (IntKind.wrap .i64 (((List.length t1 : Nat) : Int) - (1 : Int)))
  (cond (inB x3 (List.length z0))
  (let x4 := (List.getD z0 ((0 + x3.toNat)) (0 : Int))
  let x5 := (IntKind.wrap .i64 (((List.length t1 : Nat) : Int) - (1 : Int)))
  (cond (inB x5 (List.length t1))
  (let x6 := (IntKind.wrap .u64 (List.getD t1 (x5.toNat) (0 : Int)))
  (cond (decide (x6 = 0))
  none
  (let x7 := (IntKind.wrap .u64 (Int.tdiv (orI .u64 x2 (IntKind.wrap .u64 x4)) x6))
  let x8 := (IntKind.wrap .i64 (((List.length t1 : Nat) : Int) - (1 : Int)))
  (cond (inB x8 (List.length t1))
  (((iterL (fun x : List Int × Int × Int × Int × List Int × Unit => integer_digit.s0 x.1 x.2.1 x.2.2.1 x.2.2.2.1 x.2.2.2.2.1) (t1, ((List.length t1 : Nat) : Int), (mn2 x7 (4294967295 : Int)), (IntKind.wrap .u64 ((orI .u64 x2 (IntKind.wrap .u64 x4)) - (IntKind.wrap .u64 ((mn2 x7 (4294967295 : Int)) * (IntKind.wrap .u64 (List.getD t1 (x8.toNat) (0 : Int))))))), z0, ())).bind fun y => integer_digit.k0 z0 y.1 y.2.1 y.2.2.1 y.2.2.2.1))
  none))))
  none))
  none))
  none)
def integer_digit.en : EnB := ⟨247, .int .u32, [.sl (.int .u32)], .int .u32, false, fun l x => integer_digit l x.1⟩
def integer_digit.o : List En := []
def integer_digit.oB : List EnB := []
def integer_digit.h : HT := .two (.n) (.two (.n) (.two (.n) (.two (.n) (.two (.two (.n) (.lp 0)) (.two (.n) (.two (.two (.n) (.lp 1)) (.two (.n) (.two (.n) (.two (.n) (.two (.n) (.two (.two (.n) (.lp 2)) (.n))))))))))))
def integer_digit.c : Code := Tryz.f247.body.getD .skip
def integer_digit.h0 : HT := .n
def integer_digit.c0 : Code := (find (loops integer_digit.c integer_digit.h) 0).getD .skip
def integer_digit.d0 : Fm := [.v 1 (.sl (.int .u32)), .v 5 (.int .i64), .v 7 (.int .u64), .v 8 (.int .u64), .arr 1000000 0 (.int .u32), .own 0 1000000]
def integer_digit.x0 : Xs := [(.exit 0, [.v 1 (.sl (.int .u32)), .v 5 (.int .i64), .v 7 (.int .u64), .arr 1000000 0 (.int .u32), .own 0 1000000])]
def integer_digit.r0 (x : (Fm.ty integer_digit.d0).den) : Option ((Fm.ty integer_digit.d0).den ⊕ (Xs.T integer_digit.x0)) := integer_digit.s0 x.1 x.2.1 x.2.2.1 x.2.2.2.1 x.2.2.2.2.1
def integer_digit.h1 : HT := .n
def integer_digit.c1 : Code := (find (loops integer_digit.c integer_digit.h) 1).getD .skip
def integer_digit.d1 : Fm := [.v 1 (.sl (.int .u32)), .v 5 (.int .i64), .v 7 (.int .u64), .v 9 (.int .u64), .v 10 (.int .u64), .v 81 (.int .i64), .v 82 (.int .i64), .arr 1000000 0 (.int .u32), .own 0 1000000]
def integer_digit.x1 : Xs := [(.exit 2, [.v 1 (.sl (.int .u32)), .v 5 (.int .i64), .v 7 (.int .u64), .v 9 (.int .u64), .v 10 (.int .u64), .arr 1000000 0 (.int .u32), .own 0 1000000])]
def integer_digit.r1 (x : (Fm.ty integer_digit.d1).den) : Option ((Fm.ty integer_digit.d1).den ⊕ (Xs.T integer_digit.x1)) := integer_digit.s1 x.1 x.2.1 x.2.2.1 x.2.2.2.1 x.2.2.2.2.1 x.2.2.2.2.2.1 x.2.2.2.2.2.2.1 x.2.2.2.2.2.2.2.1
def integer_digit.h2 : HT := .n
def integer_digit.c2 : Code := (find (loops integer_digit.c integer_digit.h) 2).getD .skip
def integer_digit.d2 : Fm := [.v 1 (.sl (.int .u32)), .v 5 (.int .i64), .v 7 (.int .u64), .v 10 (.int .u64), .v 133 (.int .i64), .v 134 (.int .i64), .arr 1000000 0 (.int .u32), .own 0 1000000]
def integer_digit.x2 : Xs := [(.exit 4, [.v 5 (.int .i64), .v 7 (.int .u64), .v 10 (.int .u64), .arr 1000000 0 (.int .u32), .own 0 1000000])]
def integer_digit.r2 (x : (Fm.ty integer_digit.d2).den) : Option ((Fm.ty integer_digit.d2).den ⊕ (Xs.T integer_digit.x2)) := integer_digit.s2 x.1 x.2.1 x.2.2.1 x.2.2.2.1 x.2.2.2.2.1 x.2.2.2.2.2.1 x.2.2.2.2.2.2.1
def integer_digit.L : Lam := fun _ i s K => cond (Nat.beq i 0) (lamK integer_digit.d0 integer_digit.x0 integer_digit.r0 s K) (cond (Nat.beq i 1) (lamK integer_digit.d1 integer_digit.x1 integer_digit.r1 s K) (cond (Nat.beq i 2) (lamK integer_digit.d2 integer_digit.x2 integer_digit.r2 s K) (none)))
theorem integer_digit.hf0 (x) : roundK env (orc integer_digit.o) (orcB integer_digit.oB) 169 integer_digit.L integer_digit.c0 integer_digit.h0 integer_digit.d0 integer_digit.x0 x = integer_digit.r0 x := by kernel_rfl
theorem integer_digit.hf1 (x) : roundK env (orc integer_digit.o) (orcB integer_digit.oB) 169 integer_digit.L integer_digit.c1 integer_digit.h1 integer_digit.d1 integer_digit.x1 x = integer_digit.r1 x := by kernel_rfl
theorem integer_digit.hf2 (x) : roundK env (orc integer_digit.o) (orcB integer_digit.oB) 169 integer_digit.L integer_digit.c2 integer_digit.h2 integer_digit.d2 integer_digit.x2 x = integer_digit.r2 x := by kernel_rfl
theorem integer_digit.os : AllOk prog integer_digit.o := trivial
theorem integer_digit.osB : AllBOk prog integer_digit.oB := trivial
theorem integer_digit.l0 {C : Ctx} (hC : C.n = 169) : LamAt prog C integer_digit.L 0 integer_digit.c0 := by
  intro R s K r hk
  refine loop_ok (D := integer_digit.d0) (X := integer_digit.x0) (h := integer_digit.h0) (f := integer_digit.r0) tabs (orc_ok _ integer_digit.os) (orcB_ok _ integer_digit.osB) (fun x => by rw [hC]; exact integer_digit.hf0 x) (Λ := integer_digit.L) ?_ (by kernel_rfl) (by kernel_rfl) (K := K) (s := s) (by exact hk)
  exact by
    have e : loops integer_digit.c0 integer_digit.h0 = [] := by kernel_rfl
    rw [e]
    exact LamOk.nil
theorem integer_digit.l1 {C : Ctx} (hC : C.n = 169) : LamAt prog C integer_digit.L 1 integer_digit.c1 := by
  intro R s K r hk
  refine loop_ok (D := integer_digit.d1) (X := integer_digit.x1) (h := integer_digit.h1) (f := integer_digit.r1) tabs (orc_ok _ integer_digit.os) (orcB_ok _ integer_digit.osB) (fun x => by rw [hC]; exact integer_digit.hf1 x) (Λ := integer_digit.L) ?_ (by kernel_rfl) (by kernel_rfl) (K := K) (s := s) (by exact hk)
  exact by
    have e : loops integer_digit.c1 integer_digit.h1 = [] := by kernel_rfl
    rw [e]
    exact LamOk.nil
theorem integer_digit.l2 {C : Ctx} (hC : C.n = 169) : LamAt prog C integer_digit.L 2 integer_digit.c2 := by
  intro R s K r hk
  refine loop_ok (D := integer_digit.d2) (X := integer_digit.x2) (h := integer_digit.h2) (f := integer_digit.r2) tabs (orc_ok _ integer_digit.os) (orcB_ok _ integer_digit.osB) (fun x => by rw [hC]; exact integer_digit.hf2 x) (Λ := integer_digit.L) ?_ (by kernel_rfl) (by kernel_rfl) (K := K) (s := s) (by exact hk)
  exact by
    have e : loops integer_digit.c2 integer_digit.h2 = [] := by kernel_rfl
    rw [e]
    exact LamOk.nil
theorem integer_digit.hk (l x) : semK env (orc integer_digit.o) (orcB integer_digit.oB) 169 (integer_digit.L _) integer_digit.c integer_digit.h (S.initB (.int .u32) l (avs [.sl (.int .u32)] x)) (finB env Tryz.f247 ⟨[.sl (.int .u32), .sl (.int .u32)], .int .u32, false, true⟩ (.int .u32) l.length) = integer_digit.en.g l x := by kernel_rfl
theorem integer_digit.ok : EnBOk prog integer_digit.en := by
  refine funB_ok (g := ⟨[.sl (.int .u32), .sl (.int .u32)], .int .u32, false, true⟩) (h := integer_digit.h) (Λ := integer_digit.L) tabs integer_digit.os integer_digit.osB Tryz.func247 (c := integer_digit.c) (by kernel_rfl) (by decide +kernel) (by decide +kernel) (fun C hC => ?_) (fun l x => integer_digit.hk l x)
  exact by
    have e : loops integer_digit.c integer_digit.h = [(0, integer_digit.c0), (1, integer_digit.c1), (2, integer_digit.c2)] := by kernel_rfl
    rw [e]
    exact LamOk.cons (integer_digit.l0 hC) (LamOk.cons (integer_digit.l1 hC) (LamOk.cons (integer_digit.l2 hC) (LamOk.nil)))
def integer_limb.j1  : Option (Int) :=
  (some (0 : Int))
def integer_limb (t0 : List Int) (t1 : Int) : Option (Int) :=
  (cond ((decide (t1 < ((List.length t0 : Nat) : Int))))
  ((cond (inB t1 (List.length t0))
  ((some (IntKind.wrap .u64 (List.getD t0 (t1.toNat) (0 : Int)))))
  none))
  ((integer_limb.j1)))
def integer_limb.en : En := ⟨249, [.sl (.int .u32), .int .i64], .int .u64, false, fun x => integer_limb x.1 x.2.1⟩
def integer_limb.o : List En := []
def integer_limb.oB : List EnB := []
def integer_limb.h : HT := .n
def integer_limb.c : Code := Tryz.f249.body.getD .skip
def integer_limb.L : Lam := fun _ i s K => none
theorem integer_limb.os : AllOk prog integer_limb.o := trivial
theorem integer_limb.osB : AllBOk prog integer_limb.oB := trivial
theorem integer_limb.hk (x) : semK env (orc integer_limb.o) (orcB integer_limb.oB) 14 (integer_limb.L _) integer_limb.c integer_limb.h (S.init (avs [.sl (.int .u32), .int .i64] x)) (fin env Tryz.f249 ⟨[.sl (.int .u32), .int .i64], .int .u64, false, false⟩) = integer_limb.en.g x := by kernel_rfl
theorem integer_limb.ok : EnOk prog integer_limb.en := by
  refine fun_ok (g := ⟨[.sl (.int .u32), .int .i64], .int .u64, false, false⟩) (h := integer_limb.h) (Λ := integer_limb.L) tabs integer_limb.os integer_limb.osB Tryz.func249 (c := integer_limb.c) (by kernel_rfl) (by decide +kernel) (by decide +kernel) (fun C hC => ?_) (fun x => integer_limb.hk x)
  exact by
    have e : loops integer_limb.c integer_limb.h = [] := by kernel_rfl
    rw [e]
    exact LamOk.nil
def integer_unshift.j1 (t0 : List Int) (t1 : Int) (t11 : Int) (t12 : Int) (a9 : List (Int)) : Option ((List Int × Int × Int × Int × List Int × Unit) ⊕ ((List Int × Unit))) :=
  ((integer_limb t0 (IntKind.wrap .i64 (t12 + (1 : Int)))).bind fun y1 =>
  (cond (inB t12 (List.length t0))
  ((cond (decide (t1 < 0))
  none
  ((cond (inB t12 (List.length a9))
  ((some (.inl (t0, t1, t11, (IntKind.wrap .i64 (t12 + (1 : Int))), (List.set a9 ((0 + t12.toNat)) (IntKind.wrap .u32 (shrI .u64 (orI .u64 (shlI .u64 y1 (32 : Int)) (IntKind.wrap .u64 (List.getD t0 (t12.toNat) (0 : Int)))) t1))), ()))))
  none))))
  none))
def integer_unshift.s0 (t0 : List Int) (t1 : Int) (t11 : Int) (t12 : Int) (a9 : List (Int)) : Option ((List Int × Int × Int × Int × List Int × Unit) ⊕ ((List Int × Unit))) :=
  (cond ((decide (t12 < t11)))
  ((integer_unshift.j1 t0 t1 t11 t12 a9))
  ((some (.inr (a9, ())))))
def integer_unshift.k0 (a9 : List (Int)) : Option (List Int) :=
  ((integer_trim a9).bind fun y5 =>
  (some y5))
def integer_unshift (t0 : List Int) (t1 : Int) : Option (List Int) :=
  (cond (inC ((List.length t0 : Nat) : Int) maxL)
  (((iterL (fun x : List Int × Int × Int × Int × List Int × Unit => integer_unshift.s0 x.1 x.2.1 x.2.2.1 x.2.2.2.1 x.2.2.2.2.1) (t0, t1, ((List.length t0 : Nat) : Int), (0 : Int), (List.replicate ((((List.length t0 : Nat) : Int)).toNat) ((0 : Int) : Int)), ())).bind fun y => integer_unshift.k0 y.1))
  none)
def integer_unshift.en : En := ⟨248, [.sl (.int .u32), .int .u64], .sl (.int .u32), false, fun x => integer_unshift x.1 x.2.1⟩
def integer_unshift.o : List En := [integer_trim.en, integer_limb.en]
def integer_unshift.oB : List EnB := []
def integer_unshift.h : HT := .two (.n) (.two (.n) (.two (.two (.n) (.lp 0)) (.two (.fr [9] []) (.n))))
def integer_unshift.c : Code := Tryz.f248.body.getD .skip
def integer_unshift.h0 : HT := .n
def integer_unshift.c0 : Code := (find (loops integer_unshift.c integer_unshift.h) 0).getD .skip
def integer_unshift.d0 : Fm := [.v 0 (.sl (.int .u32)), .v 1 (.int .u64), .v 11 (.int .i64), .v 12 (.int .i64), .arr 9 211 (.int .u32), .own 5 9]
def integer_unshift.x0 : Xs := [(.exit 0, [.arr 9 211 (.int .u32), .own 5 9])]
def integer_unshift.r0 (x : (Fm.ty integer_unshift.d0).den) : Option ((Fm.ty integer_unshift.d0).den ⊕ (Xs.T integer_unshift.x0)) := integer_unshift.s0 x.1 x.2.1 x.2.2.1 x.2.2.2.1 x.2.2.2.2.1
def integer_unshift.L : Lam := fun _ i s K => cond (Nat.beq i 0) (lamK integer_unshift.d0 integer_unshift.x0 integer_unshift.r0 s K) (none)
theorem integer_unshift.hf0 (x) : roundK env (orc integer_unshift.o) (orcB integer_unshift.oB) 35 integer_unshift.L integer_unshift.c0 integer_unshift.h0 integer_unshift.d0 integer_unshift.x0 x = integer_unshift.r0 x := by kernel_rfl
theorem integer_unshift.os : AllOk prog integer_unshift.o := ⟨integer_trim.ok, integer_limb.ok, trivial⟩
theorem integer_unshift.osB : AllBOk prog integer_unshift.oB := trivial
theorem integer_unshift.l0 {C : Ctx} (hC : C.n = 35) : LamAt prog C integer_unshift.L 0 integer_unshift.c0 := by
  intro R s K r hk
  refine loop_ok (D := integer_unshift.d0) (X := integer_unshift.x0) (h := integer_unshift.h0) (f := integer_unshift.r0) tabs (orc_ok _ integer_unshift.os) (orcB_ok _ integer_unshift.osB) (fun x => by rw [hC]; exact integer_unshift.hf0 x) (Λ := integer_unshift.L) ?_ (by kernel_rfl) (by kernel_rfl) (K := K) (s := s) (by exact hk)
  exact by
    have e : loops integer_unshift.c0 integer_unshift.h0 = [] := by kernel_rfl
    rw [e]
    exact LamOk.nil
theorem integer_unshift.hk (x) : semK env (orc integer_unshift.o) (orcB integer_unshift.oB) 35 (integer_unshift.L _) integer_unshift.c integer_unshift.h (S.init (avs [.sl (.int .u32), .int .u64] x)) (fin env Tryz.f248 ⟨[.sl (.int .u32), .int .u64], .sl (.int .u32), false, false⟩) = integer_unshift.en.g x := by kernel_rfl
theorem integer_unshift.ok : EnOk prog integer_unshift.en := by
  refine fun_ok (g := ⟨[.sl (.int .u32), .int .u64], .sl (.int .u32), false, false⟩) (h := integer_unshift.h) (Λ := integer_unshift.L) tabs integer_unshift.os integer_unshift.osB Tryz.func248 (c := integer_unshift.c) (by kernel_rfl) (by decide +kernel) (by decide +kernel) (fun C hC => ?_) (fun x => integer_unshift.hk x)
  exact by
    have e : loops integer_unshift.c integer_unshift.h = [(0, integer_unshift.c0)] := by kernel_rfl
    rw [e]
    exact LamOk.cons (integer_unshift.l0 hC) (LamOk.nil)
def integer_divide.j3 (t1 : List Int) (t8 : Int) (t10 : List Int) (t12 : Int) (a44 : List (Int)) (a57 : List (Int)) : Option ((List Int × Int × List Int × Int × List Int × List Int × Unit) ⊕ ((List Int × Int × List Int × List Int × Unit))) :=
  let x11 := (IntKind.wrap .i64 (t12 + ((List.length t1 : Nat) : Int)))
  (cond (inC (IntKind.wrap .i64 (x11 + (1 : Int))) (List.length a44))
  (cond (decide (0 ≤ t12) && decide (t12 ≤ (IntKind.wrap .i64 (x11 + (1 : Int)))))
  (((integer_digit (List.take (((IntKind.wrap .i64 (x11 + (1 : Int)))).toNat - t12.toNat) (List.drop ((0 + t12.toNat)) a44)) t10).bind fun y12 =>
  (cond (inB t12 (List.length a57))
  ((some (.inl (t1, t8, t10, (IntKind.wrap .i64 (t12 - (1 : Int))), (List.take ((0 + t12.toNat)) a44 ++ y12.2 ++ List.drop ((0 + t12.toNat) + List.length (List.take (((IntKind.wrap .i64 (x11 + (1 : Int)))).toNat - t12.toNat) (List.drop ((0 + t12.toNat)) a44))) a44), (List.set a57 ((0 + t12.toNat)) y12.1), ()))))
  none)))
  none)
  none)
def integer_divide.s0 (t1 : List Int) (t8 : Int) (t10 : List Int) (t12 : Int) (a44 : List (Int)) (a57 : List (Int)) : Option ((List Int × Int × List Int × Int × List Int × List Int × Unit) ⊕ ((List Int × Int × List Int × List Int × Unit))) :=
  (cond ((decide (t12 ≥ (0 : Int))))
  ((integer_divide.j3 t1 t8 t10 t12 a44 a57))
  ((some (.inr (t1, t8, a44, a57, ())))))
def integer_divide.k0 (t1 : List Int) (t8 : Int) (a44 : List (Int)) (a57 : List (Int)) : Option (List Int × List Int × Unit) :=
  ((integer_trim a57).bind fun y13 =>
  (cond (inC ((List.length t1 : Nat) : Int) (List.length a44))
  (((integer_trim (List.take ((((List.length t1 : Nat) : Int)).toNat) a44)).bind fun y15 =>
  ((integer_unshift y15 t8).bind fun y16 =>
  (some (y13, (y16, ()))))))
  none))
def integer_divide.j2 (t0 : List Int) (t1 : List Int) : Option (List Int × List Int × Unit) :=
  let x5 := (IntKind.wrap .i64 (((List.length t1 : Nat) : Int) - (1 : Int)))
  (cond (inB x5 (List.length t1))
  (((bits_LeadingZeros32 (List.getD t1 (x5.toNat) (0 : Int))).bind fun y6 =>
  ((integer_shift t0 (IntKind.wrap .u64 y6)).bind fun y7 =>
  ((integer_shift t1 (IntKind.wrap .u64 y6)).bind fun y8 =>
  (cond (inC ((List.length t1 : Nat) : Int) (List.length y8))
  (let x9 := (IntKind.wrap .i64 (((List.length t0 : Nat) : Int) - ((List.length t1 : Nat) : Int)))
  (cond (inC (IntKind.wrap .i64 (x9 + (1 : Int))) maxL)
  (((iterL (fun x : List Int × Int × List Int × Int × List Int × List Int × Unit => integer_divide.s0 x.1 x.2.1 x.2.2.1 x.2.2.2.1 x.2.2.2.2.1 x.2.2.2.2.2.1) (t1, (IntKind.wrap .u64 y6), (List.take ((((List.length t1 : Nat) : Int)).toNat) (List.drop (0) y8)), (IntKind.wrap .i64 (((List.length (List.replicate (((IntKind.wrap .i64 (x9 + (1 : Int)))).toNat) ((0 : Int) : Int)) : Nat) : Int) - (1 : Int))), y7, (List.replicate (((IntKind.wrap .i64 (x9 + (1 : Int)))).toNat) ((0 : Int) : Int)), ())).bind fun y => integer_divide.k0 y.1 y.2.1 y.2.2.1 y.2.2.2.1))
  none))
  none)))))
  none)
def integer_divide.j1 (t0 : List Int) (t1 : List Int) : Option (List Int × List Int × Unit) :=
  (cond ((((List.length t1 : Nat) : Int) == (1 : Int)))
  ((cond (inB (0 : Int) (List.length t1))
  (((integer_shortDivide t0 (List.getD t1 (0) (0 : Int))).bind fun y3 =>
  ((integer_trim ([y3.2.1] : List (Int))).bind fun y4 =>
  (some (y3.1, (y4, ()))))))
  none))
  ((integer_divide.j2 t0 t1)))
def integer_divide (t0 : List Int) (t1 : List Int) : Option (List Int × List Int × Unit) :=
  ((integer_compare t0 t1).bind fun y1 =>
  (cond ((decide (y1 < (0 : Int))))
  ((cond (decide (List.length t0 ≤ maxL))
  ((some (([] : List Int), (t0, ()))))
  none))
  ((integer_divide.j1 t0 t1))))
def integer_divide.en : En := ⟨226, [.sl (.int .u32), .sl (.int .u32)], .pair (.sl (.int .u32)) (.pair (.sl (.int .u32)) (.unit)), true, fun x => integer_divide x.1 x.2.1⟩
def integer_divide.o : List En := [integer_shortDivide.en, integer_compare.en, integer_trim.en, bits_LeadingZeros32.en, integer_shift.en, integer_unshift.en]
def integer_divide.oB : List EnB := [integer_digit.en]
def integer_divide.h : HT := .two (.n) (.two (.n) (.two (.n) (.two (.n) (.two (.n) (.two (.n) (.two (.two (.fr [47] []) (.lp 0)) (.two (.fr [44, 57] []) (.n))))))))
def integer_divide.c : Code := Tryz.f226.body.getD .skip
def integer_divide.h0 : HT := .n
def integer_divide.c0 : Code := (find (loops integer_divide.c integer_divide.h) 0).getD .skip
def integer_divide.d0 : Fm := [.v 1 (.sl (.int .u32)), .v 8 (.int .u64), .v 10 (.sl (.int .u32)), .v 12 (.int .i64), .arr 44 0 (.int .u32), .arr 57 211 (.int .u32), .own 9 44, .own 11 57]
def integer_divide.x0 : Xs := [(.exit 0, [.v 1 (.sl (.int .u32)), .v 8 (.int .u64), .arr 44 0 (.int .u32), .arr 57 211 (.int .u32), .own 9 44, .own 11 57])]
def integer_divide.r0 (x : (Fm.ty integer_divide.d0).den) : Option ((Fm.ty integer_divide.d0).den ⊕ (Xs.T integer_divide.x0)) := integer_divide.s0 x.1 x.2.1 x.2.2.1 x.2.2.2.1 x.2.2.2.2.1 x.2.2.2.2.2.1
def integer_divide.L : Lam := fun _ i s K => cond (Nat.beq i 0) (lamK integer_divide.d0 integer_divide.x0 integer_divide.r0 s K) (none)
theorem integer_divide.hf0 (x) : roundK env (orc integer_divide.o) (orcB integer_divide.oB) 87 integer_divide.L integer_divide.c0 integer_divide.h0 integer_divide.d0 integer_divide.x0 x = integer_divide.r0 x := by kernel_rfl
theorem integer_divide.os : AllOk prog integer_divide.o := ⟨integer_shortDivide.ok, integer_compare.ok, integer_trim.ok, bits_LeadingZeros32.ok, integer_shift.ok, integer_unshift.ok, trivial⟩
theorem integer_divide.osB : AllBOk prog integer_divide.oB := ⟨integer_digit.ok, trivial⟩
theorem integer_divide.l0 {C : Ctx} (hC : C.n = 87) : LamAt prog C integer_divide.L 0 integer_divide.c0 := by
  intro R s K r hk
  refine loop_ok (D := integer_divide.d0) (X := integer_divide.x0) (h := integer_divide.h0) (f := integer_divide.r0) tabs (orc_ok _ integer_divide.os) (orcB_ok _ integer_divide.osB) (fun x => by rw [hC]; exact integer_divide.hf0 x) (Λ := integer_divide.L) ?_ (by kernel_rfl) (by kernel_rfl) (K := K) (s := s) (by exact hk)
  exact by
    have e : loops integer_divide.c0 integer_divide.h0 = [] := by kernel_rfl
    rw [e]
    exact LamOk.nil
theorem integer_divide.hk (x) : semK env (orc integer_divide.o) (orcB integer_divide.oB) 87 (integer_divide.L _) integer_divide.c integer_divide.h (S.init (avs [.sl (.int .u32), .sl (.int .u32)] x)) (fin env Tryz.f226 ⟨[.sl (.int .u32), .sl (.int .u32)], .pair (.sl (.int .u32)) (.pair (.sl (.int .u32)) (.unit)), true, false⟩) = integer_divide.en.g x := by kernel_rfl
theorem integer_divide.ok : EnOk prog integer_divide.en := by
  refine fun_ok (g := ⟨[.sl (.int .u32), .sl (.int .u32)], .pair (.sl (.int .u32)) (.pair (.sl (.int .u32)) (.unit)), true, false⟩) (h := integer_divide.h) (Λ := integer_divide.L) tabs integer_divide.os integer_divide.osB Tryz.func226 (c := integer_divide.c) (by kernel_rfl) (by decide +kernel) (by decide +kernel) (fun C hC => ?_) (fun x => integer_divide.hk x)
  exact by
    have e : loops integer_divide.c integer_divide.h = [(0, integer_divide.c0)] := by kernel_rfl
    rw [e]
    exact LamOk.cons (integer_divide.l0 hC) (LamOk.nil)
def integer_plus.j1 (t0 : List Int) (t1 : List Int) (t5 : Int) (t7 : Int) (t17 : Int) (t18 : Int) (a16 : List (Int)) : Option ((List Int × List Int × Int × Int × Int × Int × List Int × Unit) ⊕ ((Int × Int × List Int × Unit))) :=
  ((integer_limb t0 t18).bind fun y2 =>
  ((integer_limb t1 t18).bind fun y3 =>
  let x4 := (IntKind.wrap .u64 (t7 + (IntKind.wrap .u64 (y2 + y3))))
  (cond (inB t18 (List.length a16))
  ((some (.inl (t0, t1, t5, (shrI .u64 x4 (32 : Int)), t17, (IntKind.wrap .i64 (t18 + (1 : Int))), (List.set a16 ((0 + t18.toNat)) (IntKind.wrap .u32 x4)), ()))))
  none)))
def integer_plus.s0 (t0 : List Int) (t1 : List Int) (t5 : Int) (t7 : Int) (t17 : Int) (t18 : Int) (a16 : List (Int)) : Option ((List Int × List Int × Int × Int × Int × Int × List Int × Unit) ⊕ ((Int × Int × List Int × Unit))) :=
  (cond ((decide (t18 < t17)))
  ((integer_plus.j1 t0 t1 t5 t7 t17 t18 a16))
  ((some (.inr (t5, t7, a16, ())))))
def integer_plus.k0 (t5 : Int) (t7 : Int) (a16 : List (Int)) : Option (List Int) :=
  (cond (inB t5 (List.length a16))
  (((integer_trim (List.set a16 ((0 + t5.toNat)) (IntKind.wrap .u32 t7))).bind fun y7 =>
  (some y7)))
  none)
def integer_plus (t0 : List Int) (t1 : List Int) : Option (List Int) :=
  let x1 := (mx2 ((List.length t0 : Nat) : Int) ((List.length t1 : Nat) : Int))
  (cond (inC (IntKind.wrap .i64 (x1 + (1 : Int))) maxL)
  (((iterL (fun x : List Int × List Int × Int × Int × Int × Int × List Int × Unit => integer_plus.s0 x.1 x.2.1 x.2.2.1 x.2.2.2.1 x.2.2.2.2.1 x.2.2.2.2.2.1 x.2.2.2.2.2.2.1) (t0, t1, x1, (0 : Int), x1, (0 : Int), (List.replicate (((IntKind.wrap .i64 (x1 + (1 : Int)))).toNat) ((0 : Int) : Int)), ())).bind fun y => integer_plus.k0 y.1 y.2.1 y.2.2.1))
  none)
def integer_plus.en : En := ⟨227, [.sl (.int .u32), .sl (.int .u32)], .sl (.int .u32), false, fun x => integer_plus x.1 x.2.1⟩
def integer_plus.o : List En := [integer_trim.en, integer_limb.en]
def integer_plus.oB : List EnB := []
def integer_plus.h : HT := .two (.n) (.two (.n) (.two (.n) (.two (.n) (.two (.two (.n) (.lp 0)) (.two (.n) (.two (.fr [16] []) (.n)))))))
def integer_plus.c : Code := Tryz.f227.body.getD .skip
def integer_plus.h0 : HT := .n
def integer_plus.c0 : Code := (find (loops integer_plus.c integer_plus.h) 0).getD .skip
def integer_plus.d0 : Fm := [.v 0 (.sl (.int .u32)), .v 1 (.sl (.int .u32)), .v 5 (.int .i64), .v 7 (.int .u64), .v 17 (.int .i64), .v 18 (.int .i64), .arr 16 211 (.int .u32), .own 6 16]
def integer_plus.x0 : Xs := [(.exit 0, [.v 5 (.int .i64), .v 7 (.int .u64), .arr 16 211 (.int .u32), .own 6 16])]
def integer_plus.r0 (x : (Fm.ty integer_plus.d0).den) : Option ((Fm.ty integer_plus.d0).den ⊕ (Xs.T integer_plus.x0)) := integer_plus.s0 x.1 x.2.1 x.2.2.1 x.2.2.2.1 x.2.2.2.2.1 x.2.2.2.2.2.1 x.2.2.2.2.2.2.1
def integer_plus.L : Lam := fun _ i s K => cond (Nat.beq i 0) (lamK integer_plus.d0 integer_plus.x0 integer_plus.r0 s K) (none)
theorem integer_plus.hf0 (x) : roundK env (orc integer_plus.o) (orcB integer_plus.oB) 45 integer_plus.L integer_plus.c0 integer_plus.h0 integer_plus.d0 integer_plus.x0 x = integer_plus.r0 x := by kernel_rfl
theorem integer_plus.os : AllOk prog integer_plus.o := ⟨integer_trim.ok, integer_limb.ok, trivial⟩
theorem integer_plus.osB : AllBOk prog integer_plus.oB := trivial
theorem integer_plus.l0 {C : Ctx} (hC : C.n = 45) : LamAt prog C integer_plus.L 0 integer_plus.c0 := by
  intro R s K r hk
  refine loop_ok (D := integer_plus.d0) (X := integer_plus.x0) (h := integer_plus.h0) (f := integer_plus.r0) tabs (orc_ok _ integer_plus.os) (orcB_ok _ integer_plus.osB) (fun x => by rw [hC]; exact integer_plus.hf0 x) (Λ := integer_plus.L) ?_ (by kernel_rfl) (by kernel_rfl) (K := K) (s := s) (by exact hk)
  exact by
    have e : loops integer_plus.c0 integer_plus.h0 = [] := by kernel_rfl
    rw [e]
    exact LamOk.nil
theorem integer_plus.hk (x) : semK env (orc integer_plus.o) (orcB integer_plus.oB) 45 (integer_plus.L _) integer_plus.c integer_plus.h (S.init (avs [.sl (.int .u32), .sl (.int .u32)] x)) (fin env Tryz.f227 ⟨[.sl (.int .u32), .sl (.int .u32)], .sl (.int .u32), false, false⟩) = integer_plus.en.g x := by kernel_rfl
theorem integer_plus.ok : EnOk prog integer_plus.en := by
  refine fun_ok (g := ⟨[.sl (.int .u32), .sl (.int .u32)], .sl (.int .u32), false, false⟩) (h := integer_plus.h) (Λ := integer_plus.L) tabs integer_plus.os integer_plus.osB Tryz.func227 (c := integer_plus.c) (by kernel_rfl) (by decide +kernel) (by decide +kernel) (fun C hC => ?_) (fun x => integer_plus.hk x)
  exact by
    have e : loops integer_plus.c integer_plus.h = [(0, integer_plus.c0)] := by kernel_rfl
    rw [e]
    exact LamOk.cons (integer_plus.l0 hC) (LamOk.nil)
def integer_minus.j1 (t0 : List Int) (t1 : List Int) (t6 : Int) (t13 : Int) (t14 : Int) (a11 : List (Int)) : Option ((List Int × List Int × Int × Int × Int × List Int × Unit) ⊕ ((List Int × Unit))) :=
  (cond (inB t14 (List.length t0))
  (((integer_limb t1 t14).bind fun y2 =>
  let x3 := (IntKind.wrap .u64 ((IntKind.wrap .u64 ((IntKind.wrap .u64 (List.getD t0 (t14.toNat) (0 : Int))) - y2)) - t6))
  (cond (inB t14 (List.length a11))
  ((some (.inl (t0, t1, (shrI .u64 x3 (63 : Int)), t13, (IntKind.wrap .i64 (t14 + (1 : Int))), (List.set a11 ((0 + t14.toNat)) (IntKind.wrap .u32 x3)), ()))))
  none)))
  none)
def integer_minus.s0 (t0 : List Int) (t1 : List Int) (t6 : Int) (t13 : Int) (t14 : Int) (a11 : List (Int)) : Option ((List Int × List Int × Int × Int × Int × List Int × Unit) ⊕ ((List Int × Unit))) :=
  (cond ((decide (t14 < t13)))
  ((integer_minus.j1 t0 t1 t6 t13 t14 a11))
  ((some (.inr (a11, ())))))
def integer_minus.k0 (a11 : List (Int)) : Option (List Int) :=
  ((integer_trim a11).bind fun y5 =>
  (some y5))
def integer_minus (t0 : List Int) (t1 : List Int) : Option (List Int) :=
  (cond (inC ((List.length t0 : Nat) : Int) maxL)
  (((iterL (fun x : List Int × List Int × Int × Int × Int × List Int × Unit => integer_minus.s0 x.1 x.2.1 x.2.2.1 x.2.2.2.1 x.2.2.2.2.1 x.2.2.2.2.2.1) (t0, t1, (0 : Int), ((List.length t0 : Nat) : Int), (0 : Int), (List.replicate ((((List.length t0 : Nat) : Int)).toNat) ((0 : Int) : Int)), ())).bind fun y => integer_minus.k0 y.1))
  none)
def integer_minus.en : En := ⟨228, [.sl (.int .u32), .sl (.int .u32)], .sl (.int .u32), false, fun x => integer_minus x.1 x.2.1⟩
def integer_minus.o : List En := [integer_trim.en, integer_limb.en]
def integer_minus.oB : List EnB := []
def integer_minus.h : HT := .two (.n) (.two (.n) (.two (.n) (.two (.two (.n) (.lp 0)) (.two (.fr [11] []) (.n)))))
def integer_minus.c : Code := Tryz.f228.body.getD .skip
def integer_minus.h0 : HT := .n
def integer_minus.c0 : Code := (find (loops integer_minus.c integer_minus.h) 0).getD .skip
def integer_minus.d0 : Fm := [.v 0 (.sl (.int .u32)), .v 1 (.sl (.int .u32)), .v 6 (.int .u64), .v 13 (.int .i64), .v 14 (.int .i64), .arr 11 211 (.int .u32), .own 5 11]
def integer_minus.x0 : Xs := [(.exit 0, [.arr 11 211 (.int .u32), .own 5 11])]
def integer_minus.r0 (x : (Fm.ty integer_minus.d0).den) : Option ((Fm.ty integer_minus.d0).den ⊕ (Xs.T integer_minus.x0)) := integer_minus.s0 x.1 x.2.1 x.2.2.1 x.2.2.2.1 x.2.2.2.2.1 x.2.2.2.2.2.1
def integer_minus.L : Lam := fun _ i s K => cond (Nat.beq i 0) (lamK integer_minus.d0 integer_minus.x0 integer_minus.r0 s K) (none)
theorem integer_minus.hf0 (x) : roundK env (orc integer_minus.o) (orcB integer_minus.oB) 38 integer_minus.L integer_minus.c0 integer_minus.h0 integer_minus.d0 integer_minus.x0 x = integer_minus.r0 x := by kernel_rfl
theorem integer_minus.os : AllOk prog integer_minus.o := ⟨integer_trim.ok, integer_limb.ok, trivial⟩
theorem integer_minus.osB : AllBOk prog integer_minus.oB := trivial
theorem integer_minus.l0 {C : Ctx} (hC : C.n = 38) : LamAt prog C integer_minus.L 0 integer_minus.c0 := by
  intro R s K r hk
  refine loop_ok (D := integer_minus.d0) (X := integer_minus.x0) (h := integer_minus.h0) (f := integer_minus.r0) tabs (orc_ok _ integer_minus.os) (orcB_ok _ integer_minus.osB) (fun x => by rw [hC]; exact integer_minus.hf0 x) (Λ := integer_minus.L) ?_ (by kernel_rfl) (by kernel_rfl) (K := K) (s := s) (by exact hk)
  exact by
    have e : loops integer_minus.c0 integer_minus.h0 = [] := by kernel_rfl
    rw [e]
    exact LamOk.nil
theorem integer_minus.hk (x) : semK env (orc integer_minus.o) (orcB integer_minus.oB) 38 (integer_minus.L _) integer_minus.c integer_minus.h (S.init (avs [.sl (.int .u32), .sl (.int .u32)] x)) (fin env Tryz.f228 ⟨[.sl (.int .u32), .sl (.int .u32)], .sl (.int .u32), false, false⟩) = integer_minus.en.g x := by kernel_rfl
theorem integer_minus.ok : EnOk prog integer_minus.en := by
  refine fun_ok (g := ⟨[.sl (.int .u32), .sl (.int .u32)], .sl (.int .u32), false, false⟩) (h := integer_minus.h) (Λ := integer_minus.L) tabs integer_minus.os integer_minus.osB Tryz.func228 (c := integer_minus.c) (by kernel_rfl) (by decide +kernel) (by decide +kernel) (fun C hC => ?_) (fun x => integer_minus.hk x)
  exact by
    have e : loops integer_minus.c integer_minus.h = [(0, integer_minus.c0)] := by kernel_rfl
    rw [e]
    exact LamOk.cons (integer_minus.l0 hC) (LamOk.nil)
def integer_DivMod.j2 (t8 : List Int) (t9 : List Int) (b2_0 : Bool) (b2_1 : List Int) (b3_0 : Bool) (b3_1 : List Int) (b4_1 : List Int) (b5_1 : List Int) : Option ((Bool × List Int × Unit) × (Bool × List Int × Unit) × Bool × Unit) :=
  ((integer_signed (!(b2_0 == b3_0)) t8).bind fun y8 =>
  ((integer_signed false t9).bind fun y9 =>
  (some ((y8.1, (y8.2.1, ())), ((y9.1, (y9.2.1, ())), (true, ()))))))
def integer_DivMod.j1 (t7 : List Int) (b2_0 : Bool) (b2_1 : List Int) (b3_0 : Bool) (b3_1 : List Int) (b4_1 : List Int) (b5_1 : List Int) : Option ((Bool × List Int × Unit) × (Bool × List Int × Unit) × Bool × Unit) :=
  ((integer_magnitude (b2_0, (b2_1, ()))).bind fun y3 =>
  ((integer_divide y3 t7).bind fun y4 =>
  (cond (b2_0)
  ((cond ((decide (((List.length y4.2.1 : Nat) : Int) > (0 : Int))))
  (((integer_plus y4.1 ([(1 : Int)] : List (Int))).bind fun y6 =>
  ((integer_minus t7 y4.2.1).bind fun y7 =>
  (integer_DivMod.j2 y6 y7 b2_0 b2_1 b3_0 b3_1 b4_1 b5_1))))
  ((integer_DivMod.j2 y4.1 y4.2.1 b2_0 b2_1 b3_0 b3_1 b4_1 b5_1))))
  (((integer_signed (!(b2_0 == b3_0)) y4.1).bind fun y10 =>
  ((integer_signed false y4.2.1).bind fun y11 =>
  (some ((y10.1, (y10.2.1, ())), ((y11.1, (y11.2.1, ())), (true, ()))))))))))
def integer_DivMod (t0 : Bool × List Int × Unit) (t1 : Bool × List Int × Unit) : Option ((Bool × List Int × Unit) × (Bool × List Int × Unit) × Bool × Unit) :=
  ((integer_magnitude (t1.1, (t1.2.1, ()))).bind fun y1 =>
  (cond ((((List.length y1 : Nat) : Int) == (0 : Int)))
  ((some ((false, (([] : List Int), ())), ((false, (([] : List Int), ())), (false, ())))))
  ((integer_DivMod.j1 y1 t0.1 t0.2.1 t1.1 t1.2.1 ([] : List Int) ([] : List Int)))))
def integer_DivMod.en : En := ⟨182, [tZ, tZ], .pair (tZ) (.pair (tZ) (.pair (.bool) (.unit))), true, fun x => integer_DivMod x.1 x.2.1⟩
def integer_DivMod.o : List En := [integer_magnitude.en, integer_signed.en, integer_divide.en, integer_plus.en, integer_minus.en]
def integer_DivMod.oB : List EnB := []
def integer_DivMod.h : HT := .n
def integer_DivMod.c : Code := Tryz.f182.body.getD .skip
def integer_DivMod.L : Lam := fun _ i s K => none
theorem integer_DivMod.os : AllOk prog integer_DivMod.o := ⟨integer_magnitude.ok, integer_signed.ok, integer_divide.ok, integer_plus.ok, integer_minus.ok, trivial⟩
theorem integer_DivMod.osB : AllBOk prog integer_DivMod.oB := trivial
theorem integer_DivMod.hk (x) : semK env (orc integer_DivMod.o) (orcB integer_DivMod.oB) 46 (integer_DivMod.L _) integer_DivMod.c integer_DivMod.h (S.init (avs [tZ, tZ] x)) (fin env Tryz.f182 ⟨[tZ, tZ], .pair (tZ) (.pair (tZ) (.pair (.bool) (.unit))), true, false⟩) = integer_DivMod.en.g x := by kernel_rfl
theorem integer_DivMod.ok : EnOk prog integer_DivMod.en := by
  refine fun_ok (g := ⟨[tZ, tZ], .pair (tZ) (.pair (tZ) (.pair (.bool) (.unit))), true, false⟩) (h := integer_DivMod.h) (Λ := integer_DivMod.L) tabs integer_DivMod.os integer_DivMod.osB Tryz.func182 (c := integer_DivMod.c) (by kernel_rfl) (by decide +kernel) (by decide +kernel) (fun C hC => ?_) (fun x => integer_DivMod.hk x)
  exact by
    have e : loops integer_DivMod.c integer_DivMod.h = [] := by kernel_rfl
    rw [e]
    exact LamOk.nil
def integer_Gcd.j1 (t5 : List Int) (t6 : List Int) (b4_0 : Bool) (b4_1 : List Int) : Option ((List Int × List Int × (Bool × List Int × Unit) × Unit) ⊕ ((List Int × (Bool × List Int × Unit) × Unit))) :=
  ((integer_divide t5 t6).bind fun y4 =>
  (some (.inl (t6, y4.2.1, (b4_0, (b4_1, ())), ()))))
def integer_Gcd.s0 (t5 : List Int) (t6 : List Int) (b4 : Bool × List Int × Unit) : Option ((List Int × List Int × (Bool × List Int × Unit) × Unit) ⊕ ((List Int × (Bool × List Int × Unit) × Unit))) :=
  (cond ((decide (((List.length t6 : Nat) : Int) > (0 : Int))))
  ((integer_Gcd.j1 t5 t6 b4.1 b4.2.1))
  ((some (.inr (t5, (b4.1, (b4.2.1, ())), ())))))
def integer_Gcd.k0 (t5 : List Int) (b4 : Bool × List Int × Unit) : Option (Bool × List Int × Unit) :=
  ((integer_signed false t5).bind fun y5 =>
  (some (y5.1, (y5.2.1, ()))))
def integer_Gcd (t0 : Bool × List Int × Unit) (t1 : Bool × List Int × Unit) : Option (Bool × List Int × Unit) :=
  ((integer_Normalize (t0.1, (t0.2.1, ()))).bind fun y1 =>
  ((integer_Normalize (t1.1, (t1.2.1, ()))).bind fun y2 =>
  ((iterL (fun x : List Int × List Int × (Bool × List Int × Unit) × Unit => integer_Gcd.s0 x.1 x.2.1 x.2.2.1) (y1.2.1, y2.2.1, (false, (([] : List Int), ())), ())).bind fun y => integer_Gcd.k0 y.1 y.2.1)))
def integer_Gcd.en : En := ⟨186, [tZ, tZ], tZ, false, fun x => integer_Gcd x.1 x.2.1⟩
def integer_Gcd.o : List En := [integer_Normalize.en, integer_signed.en, integer_divide.en]
def integer_Gcd.oB : List EnB := []
def integer_Gcd.h : HT := .two (.n) (.two (.n) (.two (.lp 0) (.n)))
def integer_Gcd.c : Code := Tryz.f186.body.getD .skip
def integer_Gcd.h0 : HT := .n
def integer_Gcd.c0 : Code := (find (loops integer_Gcd.c integer_Gcd.h) 0).getD .skip
def integer_Gcd.d0 : Fm := [.v 5 (.sl (.int .u32)), .v 6 (.sl (.int .u32)), .box 4 (tZ), .ptr 4 4]
def integer_Gcd.x0 : Xs := [(.exit 0, [.v 5 (.sl (.int .u32)), .box 4 (tZ), .ptr 4 4])]
def integer_Gcd.r0 (x : (Fm.ty integer_Gcd.d0).den) : Option ((Fm.ty integer_Gcd.d0).den ⊕ (Xs.T integer_Gcd.x0)) := integer_Gcd.s0 x.1 x.2.1 x.2.2.1
def integer_Gcd.L : Lam := fun _ i s K => cond (Nat.beq i 0) (lamK integer_Gcd.d0 integer_Gcd.x0 integer_Gcd.r0 s K) (none)
theorem integer_Gcd.hf0 (x) : roundK env (orc integer_Gcd.o) (orcB integer_Gcd.oB) 28 integer_Gcd.L integer_Gcd.c0 integer_Gcd.h0 integer_Gcd.d0 integer_Gcd.x0 x = integer_Gcd.r0 x := by kernel_rfl
theorem integer_Gcd.os : AllOk prog integer_Gcd.o := ⟨integer_Normalize.ok, integer_signed.ok, integer_divide.ok, trivial⟩
theorem integer_Gcd.osB : AllBOk prog integer_Gcd.oB := trivial
theorem integer_Gcd.l0 {C : Ctx} (hC : C.n = 28) : LamAt prog C integer_Gcd.L 0 integer_Gcd.c0 := by
  intro R s K r hk
  refine loop_ok (D := integer_Gcd.d0) (X := integer_Gcd.x0) (h := integer_Gcd.h0) (f := integer_Gcd.r0) tabs (orc_ok _ integer_Gcd.os) (orcB_ok _ integer_Gcd.osB) (fun x => by rw [hC]; exact integer_Gcd.hf0 x) (Λ := integer_Gcd.L) ?_ (by kernel_rfl) (by kernel_rfl) (K := K) (s := s) (by exact hk)
  exact by
    have e : loops integer_Gcd.c0 integer_Gcd.h0 = [] := by kernel_rfl
    rw [e]
    exact LamOk.nil
theorem integer_Gcd.hk (x) : semK env (orc integer_Gcd.o) (orcB integer_Gcd.oB) 28 (integer_Gcd.L _) integer_Gcd.c integer_Gcd.h (S.init (avs [tZ, tZ] x)) (fin env Tryz.f186 ⟨[tZ, tZ], tZ, false, false⟩) = integer_Gcd.en.g x := by kernel_rfl
theorem integer_Gcd.ok : EnOk prog integer_Gcd.en := by
  refine fun_ok (g := ⟨[tZ, tZ], tZ, false, false⟩) (h := integer_Gcd.h) (Λ := integer_Gcd.L) tabs integer_Gcd.os integer_Gcd.osB Tryz.func186 (c := integer_Gcd.c) (by kernel_rfl) (by decide +kernel) (by decide +kernel) (fun C hC => ?_) (fun x => integer_Gcd.hk x)
  exact by
    have e : loops integer_Gcd.c integer_Gcd.h = [(0, integer_Gcd.c0)] := by kernel_rfl
    rw [e]
    exact LamOk.cons (integer_Gcd.l0 hC) (LamOk.nil)
def rational_fraction__rat (t0 : (Bool × List Int × Unit) × (Bool × List Int × Unit) × Unit) : Option ((Bool × List Int × Unit) × (Bool × List Int × Unit) × Unit) :=
  ((integer_Gcd (t0.1.1, (t0.1.2.1, ())) (t0.2.1.1, (t0.2.1.2.1, ()))).bind fun y1 =>
  ((integer_DivMod (t0.1.1, (t0.1.2.1, ())) (y1.1, (y1.2.1, ()))).bind fun y2 =>
  ((integer_DivMod (t0.2.1.1, (t0.2.1.2.1, ())) (y1.1, (y1.2.1, ()))).bind fun y3 =>
  (some ((y2.1.1, (y2.1.2.1, ())), ((y3.1.1, (y3.1.2.1, ())), ()))))))
def rational_fraction__rat.en : En := ⟨109, [.pair (tZ) (.pair (tZ) (.unit))], .pair (tZ) (.pair (tZ) (.unit)), false, fun x => rational_fraction__rat x.1⟩
def rational_fraction__rat.o : List En := [integer_DivMod.en, integer_Gcd.en]
def rational_fraction__rat.oB : List EnB := []
def rational_fraction__rat.h : HT := .n
def rational_fraction__rat.c : Code := Tryz.f109.body.getD .skip
def rational_fraction__rat.L : Lam := fun _ i s K => none
theorem rational_fraction__rat.os : AllOk prog rational_fraction__rat.o := ⟨integer_DivMod.ok, integer_Gcd.ok, trivial⟩
theorem rational_fraction__rat.osB : AllBOk prog rational_fraction__rat.oB := trivial
theorem rational_fraction__rat.hk (x) : semK env (orc rational_fraction__rat.o) (orcB rational_fraction__rat.oB) 34 (rational_fraction__rat.L _) rational_fraction__rat.c rational_fraction__rat.h (S.init (avs [.pair (tZ) (.pair (tZ) (.unit))] x)) (fin env Tryz.f109 ⟨[.pair (tZ) (.pair (tZ) (.unit))], .pair (tZ) (.pair (tZ) (.unit)), false, false⟩) = rational_fraction__rat.en.g x := by kernel_rfl
theorem rational_fraction__rat.ok : EnOk prog rational_fraction__rat.en := by
  refine fun_ok (g := ⟨[.pair (tZ) (.pair (tZ) (.unit))], .pair (tZ) (.pair (tZ) (.unit)), false, false⟩) (h := rational_fraction__rat.h) (Λ := rational_fraction__rat.L) tabs rational_fraction__rat.os rational_fraction__rat.osB Tryz.func109 (c := rational_fraction__rat.c) (by kernel_rfl) (by decide +kernel) (by decide +kernel) (fun C hC => ?_) (fun x => rational_fraction__rat.hk x)
  exact by
    have e : loops rational_fraction__rat.c rational_fraction__rat.h = [] := by kernel_rfl
    rw [e]
    exact LamOk.nil
def rational_Mul (t0 : (Bool × List Int × Unit) × (Bool × List Int × Unit) × Unit) (t1 : (Bool × List Int × Unit) × (Bool × List Int × Unit) × Unit) : Option ((Bool × List Int × Unit) × (Bool × List Int × Unit) × Unit) :=
  ((rational_of ((t0.1.1, (t0.1.2.1, ())), ((t0.2.1.1, (t0.2.1.2.1, ())), ()))).bind fun y1 =>
  ((rational_of ((t1.1.1, (t1.1.2.1, ())), ((t1.2.1.1, (t1.2.1.2.1, ())), ()))).bind fun y2 =>
  ((rational_product ([(y1.1.1, (y1.1.2.1, ())), (y2.1.1, (y2.1.2.1, ()))] : List (Bool × List Int × Unit))).bind fun y3 =>
  ((rational_product ([(y1.2.1.1, (y1.2.1.2.1, ())), (y2.2.1.1, (y2.2.1.2.1, ()))] : List (Bool × List Int × Unit))).bind fun y4 =>
  ((rational_fraction__rat ((y3.1, (y3.2.1, ())), ((y4.1, (y4.2.1, ())), ()))).bind fun y5 =>
  (some ((y5.1.1, (y5.1.2.1, ())), ((y5.2.1.1, (y5.2.1.2.1, ())), ()))))))))
def rational_Mul.en : En := ⟨50, [.pair (tZ) (.pair (tZ) (.unit)), .pair (tZ) (.pair (tZ) (.unit))], .pair (tZ) (.pair (tZ) (.unit)), false, fun x => rational_Mul x.1 x.2.1⟩
def rational_Mul.o : List En := [rational_of.en, rational_product.en, rational_fraction__rat.en]
def rational_Mul.oB : List EnB := []
def rational_Mul.h : HT := .n
def rational_Mul.c : Code := Tryz.f50.body.getD .skip
def rational_Mul.L : Lam := fun _ i s K => none
theorem rational_Mul.os : AllOk prog rational_Mul.o := ⟨rational_of.ok, rational_product.ok, rational_fraction__rat.ok, trivial⟩
theorem rational_Mul.osB : AllBOk prog rational_Mul.oB := trivial
theorem rational_Mul.hk (x) : semK env (orc rational_Mul.o) (orcB rational_Mul.oB) 25 (rational_Mul.L _) rational_Mul.c rational_Mul.h (S.init (avs [.pair (tZ) (.pair (tZ) (.unit)), .pair (tZ) (.pair (tZ) (.unit))] x)) (fin env Tryz.f50 ⟨[.pair (tZ) (.pair (tZ) (.unit)), .pair (tZ) (.pair (tZ) (.unit))], .pair (tZ) (.pair (tZ) (.unit)), false, false⟩) = rational_Mul.en.g x := by kernel_rfl
theorem rational_Mul.ok : EnOk prog rational_Mul.en := by
  refine fun_ok (g := ⟨[.pair (tZ) (.pair (tZ) (.unit)), .pair (tZ) (.pair (tZ) (.unit))], .pair (tZ) (.pair (tZ) (.unit)), false, false⟩) (h := rational_Mul.h) (Λ := rational_Mul.L) tabs rational_Mul.os rational_Mul.osB Tryz.func50 (c := rational_Mul.c) (by kernel_rfl) (by decide +kernel) (by decide +kernel) (fun C hC => ?_) (fun x => rational_Mul.hk x)
  exact by
    have e : loops rational_Mul.c rational_Mul.h = [] := by kernel_rfl
    rw [e]
    exact LamOk.nil
end
end Go.Proofs.YtgbndganadelpaaGreatDoor.E
