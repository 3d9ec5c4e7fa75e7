/- Functions of the program as_ functions on values, without fuel, and that the evaluator computes them (printed by gen.py). -/
import Derived.Test.YtgbndganadelpaaGreatDoorYLocalmassStandard11
import Derived.Test.YtgbndganadelpaaGreatDoorYLocalmassStandard8
import Derived.Test.YtgbndganadelpaaGreatDoorYLocalmassStandard9
import Derived.Test.YtgbndganadelpaaGreatDoorYLocalmassStandard10
import Derived.Test.YtgbndganadelpaaGreatDoorYLocalmassStandard0
namespace Go.Proofs.YtgbndganadelpaaGreatDoor.E
noncomputable section
open Go
set_option linter.unusedVariables false
set_option maxRecDepth 100000
def r32_field.j1 (t1 : Int) : Option (Int) :=
  ((r22_Discriminant t1).bind fun y2 =>
  (some y2.1))
def r32_field (t0 : Int) (t1 : Int) : Option (Int) :=
  (cond (((Int.tmod (IntKind.wrap .i64 (Int.tdiv t0 (2 : Int))) (2 : Int)) == (1 : Int)))
  ((r32_field.j1 (IntKind.wrap .i64 (0 - t1))))
  ((r32_field.j1 t1)))
def r32_field.en : En := ⟨158, [.int .i64, .int .i64], .int .i64, false, fun x => r32_field x.1 x.2.1⟩
def r32_field.o : List En := [r22_Discriminant.en]
def r32_field.oB : List EnB := []
def r32_field.h : HT := .n
def r32_field.c : Code := Tryz.f158.body.getD .skip
def r32_field.L : Lam := fun _ i s K => none
theorem r32_field.os : AllOk prog r32_field.o := ⟨r22_Discriminant.ok, trivial⟩
theorem r32_field.osB : AllBOk prog r32_field.oB := trivial
theorem r32_field.hk (x) : semK env (orc r32_field.o) (orcB r32_field.oB) 19 (r32_field.L _) r32_field.c r32_field.h (S.init (avs [.int .i64, .int .i64] x)) (fin env Tryz.f158 ⟨[.int .i64, .int .i64], .int .i64, false, false⟩) = r32_field.en.g x := by kernel_rfl
theorem r32_field.ok : EnOk prog r32_field.en := by
  refine fun_ok (g := ⟨[.int .i64, .int .i64], .int .i64, false, false⟩) (h := r32_field.h) (Λ := r32_field.L) tabs r32_field.os r32_field.osB Tryz.func158 (c := r32_field.c) (by kernel_rfl) (by decide +kernel) (by decide +kernel) (fun C hC => ?_) (fun x => r32_field.hk x)
  exact by
    have e : loops r32_field.c r32_field.h = [] := by kernel_rfl
    rw [e]
    exact LamOk.nil
def r32_standard.j1 (t0 : Int) (t1 : Int) (t2 : Int) (t7 : Int) (b6_1 : List Int) (b6_3 : List Int) : Option ((Bool × List Int × Unit) × (Bool × List Int × Unit) × Unit) :=
  ((r32_group t2 t7).bind fun y3 =>
  ((r32_field t0 t1).bind fun y4 =>
  ((r22_Symbol y4 t2).bind fun y5 =>
  ((r32_signed y3 t2 y5 t7).bind fun y6 =>
  (some ((y6.1.1, (y6.1.2.1, ())), ((y6.2.1.1, (y6.2.1.2.1, ())), ())))))))
def r32_standard (t0 : Int) (t1 : Int) (t2 : Int) : Option ((Bool × List Int × Unit) × (Bool × List Int × Unit) × Unit) :=
  let x1 := (IntKind.wrap .i64 (Int.tdiv (IntKind.wrap .i64 (t0 + (1 : Int))) (2 : Int)))
  (cond (((Int.tmod t0 (2 : Int)) == (1 : Int)))
  (((r32_group t2 x1).bind fun y2 =>
  (some ((y2.1.1, (y2.1.2.1, ())), ((y2.2.1.1, (y2.2.1.2.1, ())), ())))))
  ((r32_standard.j1 t0 t1 t2 x1 ([] : List Int) ([] : List Int))))
def r32_standard.en : En := ⟨79, [.int .i64, .int .i64, .int .i64], .pair (tZ) (.pair (tZ) (.unit)), false, fun x => r32_standard x.1 x.2.1 x.2.2.1⟩
def r32_standard.o : List En := [r32_group.en, r32_signed.en, r22_Symbol.en, r32_field.en]
def r32_standard.oB : List EnB := []
def r32_standard.h : HT := .n
def r32_standard.c : Code := Tryz.f79.body.getD .skip
def r32_standard.L : Lam := fun _ i s K => none
theorem r32_standard.os : AllOk prog r32_standard.o := ⟨r32_group.ok, r32_signed.ok, r22_Symbol.ok, r32_field.ok, trivial⟩
theorem r32_standard.osB : AllBOk prog r32_standard.oB := trivial
theorem r32_standard.hk (x) : semK env (orc r32_standard.o) (orcB r32_standard.oB) 28 (r32_standard.L _) r32_standard.c r32_standard.h (S.init (avs [.int .i64, .int .i64, .int .i64] x)) (fin env Tryz.f79 ⟨[.int .i64, .int .i64, .int .i64], .pair (tZ) (.pair (tZ) (.unit)), false, false⟩) = r32_standard.en.g x := by kernel_rfl
theorem r32_standard.ok : EnOk prog r32_standard.en := by
  refine fun_ok (g := ⟨[.int .i64, .int .i64, .int .i64], .pair (tZ) (.pair (tZ) (.unit)), false, false⟩) (h := r32_standard.h) (Λ := r32_standard.L) tabs r32_standard.os r32_standard.osB Tryz.func79 (c := r32_standard.c) (by kernel_rfl) (by decide +kernel) (by decide +kernel) (fun C hC => ?_) (fun x => r32_standard.hk x)
  exact by
    have e : loops r32_standard.c r32_standard.h = [] := by kernel_rfl
    rw [e]
    exact LamOk.nil
def r32_Standard.j2 (t0 : Int) (t1 : Int) (t2 : Int) (b6_1 : List Int) (b6_3 : List Int) : Option (((Bool × List Int × Unit) × (Bool × List Int × Unit) × Unit) × Int × Unit) :=
  ((r32_standard t0 t1 t2).bind fun y2 =>
  (some (((y2.1.1, (y2.1.2.1, ())), ((y2.2.1.1, (y2.2.1.2.1, ())), ())), ((0 : Int), ()))))
def r32_Standard.j1 (t0 : Int) (t1 : Int) (t2 : Int) (b6_1 : List Int) (b6_3 : List Int) : Option (((Bool × List Int × Unit) × (Bool × List Int × Unit) × Unit) × Int × Unit) :=
  ((r24_Small t2).bind fun y1 =>
  (cond ((!y1))
  ((some (((false, (([] : List Int), ())), ((false, (([] : List Int), ())), ())), ((20 : Int), ()))))
  ((r32_Standard.j2 t0 t1 t2 b6_1 b6_3))))
def r32_Standard (t0 : Int) (t1 : Int) (t2 : Int) : Option (((Bool × List Int × Unit) × (Bool × List Int × Unit) × Unit) × Int × Unit) :=
  (cond ((decide (t0 < (2 : Int))))
  ((some (((false, (([] : List Int), ())), ((false, (([] : List Int), ())), ())), ((1 : Int), ()))))
  ((cond ((decide (t0 > (8 : Int))))
  ((some (((false, (([] : List Int), ())), ((false, (([] : List Int), ())), ())), ((1 : Int), ()))))
  ((cond ((decide (t1 < (1 : Int))))
  ((some (((false, (([] : List Int), ())), ((false, (([] : List Int), ())), ())), ((1 : Int), ()))))
  ((cond ((decide (t1 > (10000 : Int))))
  ((some (((false, (([] : List Int), ())), ((false, (([] : List Int), ())), ())), ((1 : Int), ()))))
  ((r32_Standard.j1 t0 t1 t2 ([] : List Int) ([] : List Int))))))))))
def r32_Standard.en : En := ⟨37, [.int .i64, .int .i64, .int .i64], .pair (.pair (tZ) (.pair (tZ) (.unit))) (.pair (.int .i64) (.unit)), true, fun x => r32_Standard x.1 x.2.1 x.2.2.1⟩
def r32_Standard.o : List En := [r24_Small.en, r32_standard.en]
def r32_Standard.oB : List EnB := []
def r32_Standard.h : HT := .n
def r32_Standard.c : Code := Tryz.f37.body.getD .skip
def r32_Standard.L : Lam := fun _ i s K => none
theorem r32_Standard.os : AllOk prog r32_Standard.o := ⟨r24_Small.ok, r32_standard.ok, trivial⟩
theorem r32_Standard.osB : AllBOk prog r32_Standard.oB := trivial
theorem r32_Standard.hk (x) : semK env (orc r32_Standard.o) (orcB r32_Standard.oB) 31 (r32_Standard.L _) r32_Standard.c r32_Standard.h (S.init (avs [.int .i64, .int .i64, .int .i64] x)) (fin env Tryz.f37 ⟨[.int .i64, .int .i64, .int .i64], .pair (.pair (tZ) (.pair (tZ) (.unit))) (.pair (.int .i64) (.unit)), true, false⟩) = r32_Standard.en.g x := by kernel_rfl
theorem r32_Standard.ok : EnOk prog r32_Standard.en := by
  refine fun_ok (g := ⟨[.int .i64, .int .i64, .int .i64], .pair (.pair (tZ) (.pair (tZ) (.unit))) (.pair (.int .i64) (.unit)), true, false⟩) (h := r32_Standard.h) (Λ := r32_Standard.L) tabs r32_Standard.os r32_Standard.osB Tryz.func37 (c := r32_Standard.c) (by kernel_rfl) (by decide +kernel) (by decide +kernel) (fun C hC => ?_) (fun x => r32_Standard.hk x)
  exact by
    have e : loops r32_Standard.c r32_Standard.h = [] := by kernel_rfl
    rw [e]
    exact LamOk.nil
def quadformlaw32_LocalmassStandard.j2 (t0 : Int) (t1 : Int) (t13 : Int) : Option (Bool) :=
  ((localmass_Standard t0 t1 t13).bind fun y2 =>
  ((r32_Standard t0 t1 t13).bind fun y3 =>
  (cond ((y2.2.1 == y3.2.1))
  (((r02_Same ((y2.1.1.1, (y2.1.1.2.1, ())), ((y2.1.2.1.1, (y2.1.2.1.2.1, ())), ())) ((y3.1.1.1, (y3.1.1.2.1, ())), ((y3.1.2.1.1, (y3.1.2.1.2.1, ())), ()))).bind fun y4 =>
  (cond (y4)
  (((quadformlaw32_awake).bind fun y5 =>
  (some y5)))
  ((some false)))))
  ((some false)))))
def quadformlaw32_LocalmassStandard.j1 (t0 : Int) (t1 : Int) (t5 : Bool) (t13 : Int) : Option (Bool) :=
  (cond (t5)
  ((quadformlaw32_LocalmassStandard.j2 (Int.tmod t0 (10 : Int)) (Int.tmod t1 (11000 : Int)) t13))
  ((quadformlaw32_LocalmassStandard.j2 t0 t1 t13)))
def quadformlaw32_LocalmassStandard (t0 : Int) (t1 : Int) (t2 : Int) (t3 : Int) (t4 : Bool) (t5 : Bool) : Option (Bool) :=
  ((quadformscene_Prime t2).bind fun y1 =>
  (cond (t4)
  ((quadformlaw32_LocalmassStandard.j1 t0 t1 t5 t3))
  ((quadformlaw32_LocalmassStandard.j1 t0 t1 t5 y1))))
def quadformlaw32_LocalmassStandard.en : En := ⟨9, [.int .i64, .int .i64, .int .u8, .int .i64, .bool, .bool], .bool, false, fun x => quadformlaw32_LocalmassStandard x.1 x.2.1 x.2.2.1 x.2.2.2.1 x.2.2.2.2.1 x.2.2.2.2.2.1⟩
def quadformlaw32_LocalmassStandard.o : List En := [quadformlaw32_awake.en, localmass_Standard.en, quadformscene_Prime.en, r02_Same.en, r32_Standard.en]
def quadformlaw32_LocalmassStandard.oB : List EnB := []
def quadformlaw32_LocalmassStandard.h : HT := .n
def quadformlaw32_LocalmassStandard.c : Code := Tryz.f9.body.getD .skip
def quadformlaw32_LocalmassStandard.L : Lam := fun _ i s K => none
theorem quadformlaw32_LocalmassStandard.os : AllOk prog quadformlaw32_LocalmassStandard.o := ⟨quadformlaw32_awake.ok, localmass_Standard.ok, quadformscene_Prime.ok, r02_Same.ok, r32_Standard.ok, trivial⟩
theorem quadformlaw32_LocalmassStandard.osB : AllBOk prog quadformlaw32_LocalmassStandard.oB := trivial
theorem quadformlaw32_LocalmassStandard.hk (x) : semK env (orc quadformlaw32_LocalmassStandard.o) (orcB quadformlaw32_LocalmassStandard.oB) 52 (quadformlaw32_LocalmassStandard.L _) quadformlaw32_LocalmassStandard.c quadformlaw32_LocalmassStandard.h (S.init (avs [.int .i64, .int .i64, .int .u8, .int .i64, .bool, .bool] x)) (fin env Tryz.f9 ⟨[.int .i64, .int .i64, .int .u8, .int .i64, .bool, .bool], .bool, false, false⟩) = quadformlaw32_LocalmassStandard.en.g x := by kernel_rfl
theorem quadformlaw32_LocalmassStandard.ok : EnOk prog quadformlaw32_LocalmassStandard.en := by
  refine fun_ok (g := ⟨[.int .i64, .int .i64, .int .u8, .int .i64, .bool, .bool], .bool, false, false⟩) (h := quadformlaw32_LocalmassStandard.h) (Λ := quadformlaw32_LocalmassStandard.L) tabs quadformlaw32_LocalmassStandard.os quadformlaw32_LocalmassStandard.osB Tryz.func9 (c := quadformlaw32_LocalmassStandard.c) (by kernel_rfl) (by decide +kernel) (by decide +kernel) (fun C hC => ?_) (fun x => quadformlaw32_LocalmassStandard.hk x)
  exact by
    have e : loops quadformlaw32_LocalmassStandard.c quadformlaw32_LocalmassStandard.h = [] := by kernel_rfl
    rw [e]
    exact LamOk.nil
end
end Go.Proofs.YtgbndganadelpaaGreatDoor.E
/- All functions. -/
/- Laws of the functions on values: words for all; trim, signs, small numbers, comparison. -/
namespace Go.Proofs.YtgbndganadelpaaGreatDoor.V
open Go Go.Proofs.YtgbndganadelpaaGreatDoor.E Go.Proofs.YtgbndganadelpaaGreatDoor.LI
set_option linter.unusedVariables false
set_option linter.unusedSimpArgs false
theorem wi64 {x : Int} (h : -9223372036854775808 ≤ x) (h' : x ≤ 9223372036854775807) : IntKind.wrap .i64 x = x := by
  simp [IntKind.wrap, IntKind.bits, IntKind.signed]; omega
theorem wu64 (x : Int) : IntKind.wrap .u64 x = x % 18446744073709551616 := by simp [IntKind.wrap, IntKind.bits, IntKind.signed]
theorem wu32 (x : Int) : IntKind.wrap .u32 x = x % 4294967296 := by simp [IntKind.wrap, IntKind.bits, IntKind.signed]
theorem wu64' {x : Int} (h : 0 ≤ x) (h' : x < 18446744073709551616) : IntKind.wrap .u64 x = x := by rw [wu64]; omega
theorem wu32' {x : Int} (h : 0 ≤ x) (h' : x < 4294967296) : IntKind.wrap .u32 x = x := by rw [wu32]; omega
theorem cite {α : Type} (c : Bool) (a b : α) : cond c a b = if c = true then a else b := by cases c <;> rfl
theorem inB_t (i : Int) (n : Nat) : (inB i n = true) = (0 ≤ i ∧ i < n) := by simp [inB]
theorem inC_t (i : Int) (n : Nat) : (inC i n = true) = (0 ≤ i ∧ i ≤ n) := by simp [inC]
theorem up {i : Nat} (h : i < 9223372036854775807) : IntKind.wrap .i64 ((i : Int) + 1) = ((i + 1 : Nat) : Int) := by rw [wi64 (by omega) (by omega)]; rfl
theorem down {i : Nat} (h : i < 9223372036854775807) : IntKind.wrap .i64 (((i + 1 : Nat) : Int) - 1) = (i : Int) := by rw [wi64 (by omega) (by omega)]; omega
theorem gd {l : List Int} (h : Lim l) (i : Nat) : l.getD i 0 = ((dg l i : Nat) : Int) := (dg_int h i).symm
theorem maxL_eq : maxL = 1073741824 := rfl
theorem trim_s_same : r01_trim.s0 = integer_trim.s0 := rfl
theorem trim_loop {l : List Int} (hl : Lim l) (hn : l.length < 17592186044416) : ∀ j, j ≤ l.length → lv (l.take j) = lv l →
    ∃ j' : Nat, j' ≤ l.length ∧ l.take j' = limbs (lv l) ∧ iterL (fun x : List Int × Int × Unit => integer_trim.s0 x.1 x.2.1) (l, (j : Int), ()) = some (l, (j' : Int), ()) := by
  intro j
  induction j with
  | zero =>
    intro _ h
    refine ⟨0, Nat.zero_le _, by rw [← h]; rfl, iterL_done ?_⟩
    simp only [integer_trim.s0, cite, decide_eq_true_eq]
    rw [if_neg (by omega)]
  | succ j ih =>
    intro hj h
    by_cases h0 : dg l j = 0
    · obtain ⟨j', h1, h2, h3⟩ := ih (by omega) (by rw [lv_take_succ, h0] at h; simpa using h)
      refine ⟨j', h1, h2, (iterL_next ?_).trans h3⟩
      simp only [integer_trim.s0, integer_trim.j1, cite, decide_eq_true_eq, inB_t, beq_iff_eq]
      rw [down (by omega), Int.toNat_natCast, gd hl, h0, if_pos (by omega), if_pos (by omega), if_pos (by omega)]
    · refine ⟨j + 1, hj, ?_, iterL_done ?_⟩
      · rw [← h, limbs_lv (hl.take _) (fun hne e => ?_)]
        apply h0
        rw [List.getLast_eq_getElem] at e
        simp only [List.getElem_take, List.length_take, Nat.min_eq_left hj, Nat.add_sub_cancel] at e
        simp only [dg, List.getD, List.getElem?_eq_getElem (show j < l.length by omega), Option.getD_some, e]
        rfl
      · simp only [integer_trim.s0, integer_trim.j1, cite, decide_eq_true_eq, inB_t, beq_iff_eq]
        rw [down (by omega), Int.toNat_natCast, gd hl, if_pos (by omega), if_pos (by omega), if_neg (by omega)]
theorem trim_ok {l : List Int} (hl : Lim l) (hn : l.length < 17592186044416) : integer_trim l = some (limbs (lv l)) := by
  obtain ⟨j, h1, h2, h3⟩ := trim_loop hl hn l.length (Nat.le_refl _) (by rw [List.take_length])
  unfold integer_trim
  rw [h3, Option.bind_some]
  simp only [integer_trim.k0, cite, inC_t, Bool.and_eq_true, decide_eq_true_eq]
  rw [if_pos (by omega), if_pos (by omega), Int.toNat_natCast, h2]
theorem rtrim_ok {l : List Int} (hl : Lim l) (hn : l.length ≤ 1073741824) : r01_trim l = some (limbs (lv l)) := by
  obtain ⟨j, h1, h2, h3⟩ := trim_loop hl (by omega) l.length (Nat.le_refl _) (by rw [List.take_length])
  unfold r01_trim
  rw [trim_s_same, h3, Option.bind_some]
  simp only [r01_trim.k0, cite, inC_t, decide_eq_true_eq, maxL_eq]
  rw [if_pos (by omega), if_pos (by simp; omega), Int.toNat_natCast, h2]
theorem iv_t (l : List Int) : iv true l = -(lv l : Int) := rfl
theorem iv_f (l : List Int) : iv false l = (lv l : Int) := rfl
/-- An integer as_ the program holds it. -/
def mkI (z : Int) : Bool × List Int × Unit := (decide (z < 0), limbs z.natAbs, ())
theorem limbs_len0 (n : Nat) : (((limbs n).length : Int) = 0) = (n = 0) := by
  have := @limbs_len_pos n
  apply propext
  constructor
  · intro h; by_cases h0 : n = 0
    · exact h0
    · have := this.2 h0; omega
  · rintro rfl; rfl
theorem signed_ok {l : List Int} (neg : Bool) (hl : Lim l) (hn : l.length < 17592186044416) : integer_signed neg l = some (mkI (iv neg l)) := by
  unfold integer_signed
  rw [trim_ok hl hn, Option.bind_some]
  simp only [integer_signed.j1, cite, beq_iff_eq, limbs_len0]
  by_cases h : lv l = 0
  · rw [if_pos h]
    have : iv neg l = 0 := by unfold iv; cases neg <;> simp [h]
    rw [this]; rfl
  · rw [if_neg h]
    cases neg with
    | true =>
      have e : decide (iv true l < 0) = true := by simp only [iv, if_true, decide_eq_true_eq]; omega
      simp only [mkI, iv_natAbs, e]
    | false =>
      have e : decide (iv false l < 0) = false := by simp only [iv, decide_eq_false_iff_not]; simp
      simp only [mkI, iv_natAbs, e]
theorem magnitude_ok {l : List Int} (neg : Bool) (u : Unit) (hl : Lim l) (hn : l.length < 17592186044416) : integer_magnitude (neg, l, u) = some (limbs (lv l)) := by
  unfold integer_magnitude
  rw [trim_ok hl hn]; rfl
theorem sign_ok {l : List Int} (neg : Bool) (u : Unit) (hl : Lim l) (hn : l.length < 17592186044416) : integer_Sign (neg, l, u) = some (if iv neg l = 0 then 0 else if iv neg l < 0 then -1 else 1) := by
  unfold integer_Sign
  rw [magnitude_ok neg _ hl hn, Option.bind_some]
  simp only [integer_Sign.j1, integer_Sign.j2, cite, beq_iff_eq, limbs_len0]
  cases neg with
  | true =>
    rw [iv_t]
    by_cases h : lv l = 0
    · rw [if_pos h, if_pos (by omega)]
    · rw [if_neg h, if_pos rfl, if_neg (by omega), if_pos (by omega)]
  | false =>
    rw [iv_f]
    by_cases h : lv l = 0
    · rw [if_pos h, if_pos (by omega)]
    · rw [if_neg h, if_neg (by simp), if_neg (by omega), if_neg (by omega)]
theorem make_ok {l : List Int} (neg : Bool) (hl : Lim l) (hn : l.length ≤ 1073741824) : r01_Make neg l = some (mkI (iv neg l)) := by
  unfold r01_Make
  rw [rtrim_ok hl hn, Option.bind_some]
  have hp := @limbs_len_pos (lv l)
  cases neg with
  | true =>
    rw [show mkI (iv true l) = (decide (iv true l < 0), limbs (iv true l).natAbs, ()) from rfl, iv_natAbs, iv_t, cond_true]
    congr 2
    by_cases h : lv l = 0
    · have h2 : ¬ 0 < (limbs (lv l)).length := fun h3 => hp.1 h3 h
      rw [decide_eq_false (by omega), decide_eq_false (by omega)]
    · have h2 := hp.2 h
      rw [decide_eq_true (by omega), decide_eq_true (by omega)]
  | false =>
    rw [show mkI (iv false l) = (decide (iv false l < 0), limbs (iv false l).natAbs, ()) from rfl, iv_natAbs, iv_f, cond_false, decide_eq_false (by omega)]
theorem rsign_ok {l : List Int} (neg : Bool) (u : Unit) (hl : Lim l) (hn : l.length ≤ 1073741824) : r01_Sign (neg, l, u) = some (if iv neg l = 0 then 0 else if iv neg l < 0 then -1 else 1) := by
  unfold r01_Sign
  rw [rtrim_ok hl hn, Option.bind_some]
  simp only [r01_Sign.j1, r01_Sign.j2, cite, beq_iff_eq, limbs_len0]
  cases neg with
  | true =>
    rw [iv_t]
    by_cases h : lv l = 0
    · rw [if_pos h, if_pos (by omega)]
    · rw [if_neg h, if_pos rfl, if_neg (by omega), if_pos (by omega)]
  | false =>
    rw [iv_f]
    by_cases h : lv l = 0
    · rw [if_pos h, if_pos (by omega)]
    · rw [if_neg h, if_neg (by simp), if_neg (by omega), if_neg (by omega)]
theorem lv_two {u : Nat} (hu : u < 18446744073709551616) : lv [((u % 4294967296 : Nat) : Int), ((u / 4294967296 : Nat) : Int)] = u ∧ Lim [((u % 4294967296 : Nat) : Int), ((u / 4294967296 : Nat) : Int)] := by
  constructor
  · simp only [lv, Int.toNat_natCast]; omega
  · exact Lim.mk (by omega) (Lim.one (by omega))
theorem two_words {u : Nat} (hu : u < 18446744073709551616) : ([IntKind.wrap .u32 (u : Int), IntKind.wrap .u32 (shrI .u64 (u : Int) 32)] : List Int) = [((u % 4294967296 : Nat) : Int), ((u / 4294967296 : Nat) : Int)] := by
  have h1 : shrI .u64 (u : Int) 32 = ((u / 4294967296 : Nat) : Int) := by
    simp only [shrI, IntKind.bits]
    rw [show min (32 : Int).toNat 64 = 32 from rfl, show (2 : Int) ^ 32 = 4294967296 from rfl, Int.fdiv_eq_ediv_of_nonneg _ (by decide)]; omega
  rw [h1, wu32, wu32]
  congr 1
  congr 1
  omega
theorem word_ok (neg : Bool) {u : Nat} (hu : u < 18446744073709551616) : r01_word neg (u : Int) = some (mkI (if neg = true then -(u : Int) else u)) := by
  obtain ⟨h1, h2⟩ := lv_two hu
  unfold r01_word
  rw [two_words hu, make_ok neg h2 (by simp), Option.bind_some]
  have : iv neg [((u % 4294967296 : Nat) : Int), ((u / 4294967296 : Nat) : Int)] = if neg = true then -(u : Int) else u := by
    cases neg with
    | true => rw [iv_t, h1]; rfl
    | false => rw [iv_f, h1]; rfl
  rw [this]
theorem rsmall_ok {n : Int} (h : -9223372036854775808 ≤ n) (h' : n ≤ 9223372036854775807) : r01_Small n = some (mkI n) := by
  unfold r01_Small
  simp only [cite, decide_eq_true_eq]
  by_cases h0 : n < 0
  · rw [if_pos h0]
    have : IntKind.wrap .u64 (0 - IntKind.wrap .u64 n) = ((n.natAbs : Nat) : Int) := by rw [wu64, wu64]; omega
    rw [this, word_ok true (by omega), Option.bind_some, if_pos rfl, show -((n.natAbs : Nat) : Int) = n by omega]
  · rw [if_neg h0]
    have : IntKind.wrap .u64 n = ((n.natAbs : Nat) : Int) := by rw [wu64]; omega
    unfold r01_Small.j1
    rw [this, word_ok false (by omega), Option.bind_some, if_neg (by decide), show ((n.natAbs : Nat) : Int) = n by omega]
theorem small_ok {n : Int} (h : -9223372036854775808 ≤ n) (h' : n ≤ 9223372036854775807) : integer_Small n = some (mkI n) := by
  unfold integer_Small
  simp only [cite, decide_eq_true_eq]
  have key : ∀ b : List Int, integer_Small.j1 n ((n.natAbs : Nat) : Int) b = some (mkI n) := fun b => by
    obtain ⟨h1, h2⟩ := lv_two (u := n.natAbs) (by omega)
    unfold integer_Small.j1
    rw [two_words (by omega), signed_ok _ h2 (by simp), Option.bind_some]
    have : iv (decide (n < 0)) [((n.natAbs % 4294967296 : Nat) : Int), ((n.natAbs / 4294967296 : Nat) : Int)] = n := by
      by_cases h0 : n < 0
      · rw [decide_eq_true h0, iv_t, h1]; omega
      · rw [decide_eq_false h0, iv_f, h1]; omega
    rw [this]
  by_cases h0 : n < 0
  · rw [if_pos h0, show IntKind.wrap .u64 (0 - IntKind.wrap .u64 n) = ((n.natAbs : Nat) : Int) by rw [wu64, wu64]; omega]
    exact key _
  · rw [if_neg h0, show IntKind.wrap .u64 n = ((n.natAbs : Nat) : Int) by rw [wu64]; omega]
    exact key _
end Go.Proofs.YtgbndganadelpaaGreatDoor.V
/- Laws of integer: limb, plus, minus, compare, shortDivide. -/
namespace Go.Proofs.YtgbndganadelpaaGreatDoor.V
open Go Go.Proofs.YtgbndganadelpaaGreatDoor.E Go.Proofs.YtgbndganadelpaaGreatDoor.LI
set_option linter.unusedVariables false
set_option linter.unusedSimpArgs false
theorem orI_nat (a b : Nat) (ha : a < 18446744073709551616) (hb : b < 18446744073709551616) : orI .u64 (a : Int) (b : Int) = ((a ||| b : Nat) : Int) := by
  have h0 : orI .u64 (a : Int) (b : Int) = IntKind.wrap .u64 (((BitVec.ofInt 64 (a : Int) ||| BitVec.ofInt 64 (b : Int)).toNat : Nat) : Int) := rfl
  rw [h0, wu64, BitVec.ofInt_natCast, BitVec.ofInt_natCast, BitVec.toNat_or, BitVec.toNat_ofNat, BitVec.toNat_ofNat, Nat.mod_eq_of_lt ha, Nat.mod_eq_of_lt hb]
  have : a ||| b < 2 ^ 64 := Nat.or_lt_two_pow ha hb
  omega
theorem or_add {a b i : Nat} (hb : b < 2 ^ i) (h : 2 ^ i * a + b < 18446744073709551616) : orI .u64 ((2 ^ i * a : Nat) : Int) (b : Int) = ((2 ^ i * a + b : Nat) : Int) := by
  rw [orI_nat _ _ (by omega) (by omega), ← Nat.two_pow_add_eq_or_of_lt hb]
theorem shl_nat {a i : Nat} (hi : i ≤ 64) (h : a * 2 ^ i < 18446744073709551616) : shlI .u64 (a : Int) (i : Int) = ((2 ^ i * a : Nat) : Int) := by
  unfold shlI
  rw [wu64, show min (i : Int).toNat IntKind.u64.bits = i by rw [Int.toNat_natCast]; exact Nat.min_eq_left hi]
  have : (a : Int) * 2 ^ i = ((a * 2 ^ i : Nat) : Int) := by push_cast; rfl
  rw [this, Nat.mul_comm]
  rw [Nat.mul_comm] at h
  omega
theorem shr_nat {a i : Nat} (hi : i ≤ 64) : shrI .u64 (a : Int) (i : Int) = ((a / 2 ^ i : Nat) : Int) := by
  unfold shrI
  rw [show min (i : Int).toNat IntKind.u64.bits = i by rw [Int.toNat_natCast]; exact Nat.min_eq_left hi]
  have : (2 : Int) ^ i = ((2 ^ i : Nat) : Int) := by push_cast; rfl
  rw [this, Int.fdiv_eq_ediv_of_nonneg _ (Int.natCast_nonneg _)]
  rfl
/-- Two words side by side. -/
theorem pack {a b : Nat} (ha : a < 4294967296) (hb : b < 4294967296) : orI .u64 (shlI .u64 (a : Int) 32) (IntKind.wrap .u64 (b : Int)) = ((4294967296 * a + b : Nat) : Int) := by
  have h1 := @shl_nat a 32 (by omega) (by omega)
  have h2 := @or_add a b 32 (by omega) (by omega)
  rw [show ((32 : Nat) : Int) = 32 from rfl] at h1
  rw [wu64' (by omega) (by omega), h1, h2]
theorem hi_word (a : Nat) : shrI .u64 (a : Int) 32 = ((a / 4294967296 : Nat) : Int) := @shr_nat a 32 (by omega)
theorem top_bit (a : Nat) : shrI .u64 (a : Int) 63 = ((a / 9223372036854775808 : Nat) : Int) := @shr_nat a 63 (by omega)
theorem drop_set (a : List Int) (k : Nat) (x : Int) (hk : k < a.length) : (a.set k x).drop k = x :: a.drop (k + 1) := by
  rw [List.drop_eq_getElem_cons (by simpa using hk), List.drop_set, if_pos (Nat.lt_succ_self k)]
  simp
theorem lv_cons (x : Nat) (l : List Int) : lv ((x : Int) :: l) = x + 4294967296 * lv l := by simp [lv]
theorem short_loop {l : List Int} (hl : Lim l) (hn : l.length < 17592186044416) {d : Nat} (hd : 0 < d) (hd2 : d < 4294967296) : ∀ k, k ≤ l.length → ∀ a : List Int, a.length = l.length → Lim a → lv (a.drop k) = lv (l.drop k) / d →
    ∃ a', iterL (fun x : List Int × Int × Int × Int × List Int × Unit => integer_shortDivide.s0 x.1 x.2.1 x.2.2.1 x.2.2.2.1 x.2.2.2.2.1) (l, (d : Int), ((lv (l.drop k) % d : Nat) : Int), (k : Int) - 1, a, ()) = some (((lv l % d : Nat) : Int), a', ()) ∧
      a'.length = l.length ∧ Lim a' ∧ lv a' = lv l / d := by
  intro k
  induction k with
  | zero =>
    intro _ a h1 h2 h3
    refine ⟨a, iterL_done ?_, h1, h2, by simpa using h3⟩
    simp only [integer_shortDivide.s0, cite, decide_eq_true_eq]
    rw [if_neg (by omega)]
    simp
  | succ k ih =>
    intro hk a h1 h2 h3
    have hr : lv (l.drop (k + 1)) % d < d := Nat.mod_lt _ hd
    have hx := dg_lt hl k
    have hq : (4294967296 * (lv (l.drop (k + 1)) % d) + dg l k) / d < 4294967296 := by
      rw [Nat.div_lt_iff_lt_mul hd]
      have : 4294967296 * (lv (l.drop (k + 1)) % d) + 4294967296 ≤ 4294967296 * d := by
        have : 4294967296 * (lv (l.drop (k + 1)) % d + 1) ≤ 4294967296 * d := Nat.mul_le_mul_left _ hr
        omega
      omega
    obtain ⟨a', g1, g2⟩ := ih (by omega) (a.set k (((4294967296 * (lv (l.drop (k + 1)) % d) + dg l k) / d : Nat) : Int)) (by simpa using h1) (h2.set k ⟨Int.natCast_nonneg _, Int.ofNat_lt.2 hq⟩) (by
      rw [drop_set a k _ (by omega), lv_cons, h3, drop_dg (show k < l.length by omega)]
      have e := Nat.div_add_mod (lv (l.drop (k + 1))) d
      have : dg l k + 4294967296 * lv (l.drop (k + 1)) = (4294967296 * (lv (l.drop (k + 1)) % d) + dg l k) + d * (4294967296 * (lv (l.drop (k + 1)) / d)) := by
        rw [Nat.mul_left_comm]; omega
      rw [this, Nat.add_mul_div_left _ _ hd])
    refine ⟨a', (iterL_next ?_).trans g1, g2⟩
    have e := Nat.div_add_mod (lv (l.drop (k + 1))) d
    have hmod : lv (l.drop k) % d = (4294967296 * (lv (l.drop (k + 1)) % d) + dg l k) % d := by
      rw [drop_dg (show k < l.length by omega)]
      have : dg l k + 4294967296 * lv (l.drop (k + 1)) = (4294967296 * (lv (l.drop (k + 1)) % d) + dg l k) + d * (4294967296 * (lv (l.drop (k + 1)) / d)) := by
        rw [Nat.mul_left_comm]; omega
      rw [this, Nat.add_mul_mod_self_left]
    simp only [integer_shortDivide.s0, integer_shortDivide.j1, cite, decide_eq_true_eq, inB_t, maxL_eq]
    rw [show ((k + 1 : Nat) : Int) - 1 = (k : Int) by omega, Int.toNat_natCast, gd hl, pack (by omega) hx, wu64' (x := (d : Int)) (by omega) (by omega)]
    rw [if_pos (by omega), if_pos (by omega), if_neg (by omega), if_pos (by omega), if_neg (by omega), Nat.zero_add, ← Int.ofNat_tmod, ← Int.ofNat_tdiv, wi64 (by omega) (by omega)]
    have hq0 := Int.natCast_nonneg ((4294967296 * (lv (l.drop (k + 1)) % d) + dg l k) / d)
    have hq1 : (((4294967296 * (lv (l.drop (k + 1)) % d) + dg l k) / d : Nat) : Int) < 4294967296 := Int.ofNat_lt.2 hq
    rw [wu64' hq0 (Int.lt_of_lt_of_le hq1 (by decide)), wu32' hq0 hq1, hmod]
theorem shortDivide_ok {l : List Int} (hl : Lim l) (hn : l.length ≤ 1073741824) {d : Nat} (hd : 0 < d) (hd2 : d < 4294967296) : integer_shortDivide l (d : Int) = some (limbs (lv l / d), ((lv l % d : Nat) : Int), ()) := by
  obtain ⟨a', g1, g2, g3, g4⟩ := short_loop hl (by omega) hd hd2 l.length (Nat.le_refl _) (List.replicate l.length 0) (by simp) (Lim.replicate _) (by rw [List.drop_eq_nil_of_le (by simp), List.drop_eq_nil_of_le (by simp)]; simp [lv])
  unfold integer_shortDivide
  simp only [cite, inC_t, maxL_eq]
  rw [if_pos (by omega), Int.toNat_natCast, wi64 (by omega) (by omega)]
  rw [List.drop_eq_nil_of_le (Nat.le_refl _)] at g1
  rw [show ((lv [] % d : Nat) : Int) = 0 by simp [lv]] at g1
  rw [g1, Option.bind_some]
  simp only [integer_shortDivide.k0]
  rw [trim_ok g3 (by omega), Option.bind_some, g4]
  have : lv l % d < d := Nat.mod_lt _ hd
  rw [wu32' (by omega) (by omega)]
end Go.Proofs.YtgbndganadelpaaGreatDoor.V
/- Laws: comparison; sums and differences, of the reference and of integer. -/
namespace Go.Proofs.YtgbndganadelpaaGreatDoor.V
open Go Go.Proofs.YtgbndganadelpaaGreatDoor.E Go.Proofs.YtgbndganadelpaaGreatDoor.LI
set_option linter.unusedVariables false
set_option linter.unusedSimpArgs false
def cm (a b : Int) : Int := if a < b then -1 else if a = b then 0 else 1
theorem cm_lt {a b : Int} (h : a < b) : cm a b = -1 := if_pos h
theorem cm_gt {a b : Int} (h : b < a) : cm a b = 1 := by unfold cm; rw [if_neg (by omega), if_neg (by omega)]
theorem cm_eq {a b : Int} (h : a = b) : cm a b = 0 := by unfold cm; rw [if_neg (by omega), if_pos h]
theorem top_lt {m n : List Int} (hm : Lim m) {i : Nat} (h1 : i < m.length) (h2 : i < n.length) (hd : m.drop (i + 1) = n.drop (i + 1)) (h : dg m i < dg n i) : lv m < lv n := by
  rw [lv_split m i (by omega), lv_split n i (by omega), drop_dg h1, drop_dg h2, hd]
  have h3 := lv_lt (hm.take i)
  rw [List.length_take, Nat.min_eq_left (by omega)] at h3
  have h4 : 4294967296 ^ i * (dg m i + 1 + 4294967296 * lv (n.drop (i + 1))) ≤ 4294967296 ^ i * (dg n i + 4294967296 * lv (n.drop (i + 1))) := Nat.mul_le_mul_left _ (by omega)
  have h5 : 4294967296 ^ i * (dg m i + 1 + 4294967296 * lv (n.drop (i + 1))) = 4294967296 ^ i * (dg m i + 4294967296 * lv (n.drop (i + 1))) + 4294967296 ^ i := by
    rw [show dg m i + 1 + 4294967296 * lv (n.drop (i + 1)) = (dg m i + 4294967296 * lv (n.drop (i + 1))) + 1 from by omega, Nat.mul_add, Nat.mul_one]
  omega
theorem cmp_loop {m n : List Int} (hm : Lim m) (hn : Lim n) (hl : m.length = n.length) (hb : m.length < 17592186044416) : ∀ i, i ≤ m.length → m.drop i = n.drop i →
    ∃ z, iterL (fun x : List Int × List Int × Int × Unit => integer_compare.s0 x.1 x.2.1 x.2.2.1) (m, n, (i : Int) - 1, ()) = some z ∧ ((z = .inl () ∧ cm (lv m) (lv n) = 0) ∨ z = .inr (cm (lv m) (lv n), ())) := by
  intro i
  induction i with
  | zero =>
    intro _ h
    rw [List.drop_zero, List.drop_zero] at h
    refine ⟨_, iterL_done ?_, .inl ⟨rfl, cm_eq (by rw [h])⟩⟩
    simp only [integer_compare.s0, cite, decide_eq_true_eq]
    rw [if_neg (by omega)]
  | succ i ih =>
    intro hi h
    have hst : integer_compare.s0 m n (((i + 1 : Nat) : Int) - 1) = if (dg m i : Int) = dg n i then some (.inl (m, n, (i : Int) - 1, ())) else if (dg m i : Int) < dg n i then some (.inr (.inr (-1, ()))) else some (.inr (.inr (1, ()))) := by
      simp only [integer_compare.s0, integer_compare.j3, integer_compare.j4, integer_compare.j5, cite, decide_eq_true_eq, inB_t, bne_iff_ne]
      rw [show ((i + 1 : Nat) : Int) - 1 = (i : Int) from by omega, Int.toNat_natCast, gd hm, gd hn, if_pos (by omega), if_pos (by omega), if_pos (by omega)]
      by_cases h0 : (dg m i : Int) = dg n i
      · rw [if_neg (fun h => h h0), if_pos h0, wi64 (by omega) (by omega)]
      · rw [if_pos h0, if_neg h0, if_pos (by omega), if_pos (by omega)]
    by_cases h0 : dg m i = dg n i
    · obtain ⟨z, hz, hz2⟩ := ih (by omega) (by
        rw [List.drop_eq_getElem_cons (l := m) (i := i) (by omega), List.drop_eq_getElem_cons (l := n) (i := i) (by omega), h]
        congr 1
        have h1 := dg_int hm i
        have h2 := dg_int hn i
        rw [h0, h2] at h1
        simp only [List.getD, List.getElem?_eq_getElem (show i < m.length by omega), List.getElem?_eq_getElem (show i < n.length by omega), Option.getD_some] at h1
        exact h1.symm)
      exact ⟨z, (iterL_next (by simp only []; rw [hst, if_pos (by omega)])).trans hz, hz2⟩
    · by_cases h1 : dg m i < dg n i
      · have := top_lt hm (by omega) (by omega) h h1
        exact ⟨_, iterL_done (by simp only []; rw [hst, if_neg (by omega), if_pos (by omega)]), .inr (by rw [cm_lt (by omega)])⟩
      · have := top_lt hn (by omega) (by omega) h.symm (show dg n i < dg m i by omega)
        exact ⟨_, iterL_done (by simp only []; rw [hst, if_neg (by omega), if_neg (by omega)]), .inr (by rw [cm_gt (by omega)])⟩
theorem cmp_same {m n : List Int} (hm : Lim m) (hn : Lim n) (hl : m.length = n.length) (hb : m.length < 17592186044416) : integer_compare m n = some (cm (lv m) (lv n)) := by
  obtain ⟨z, h1, h2⟩ := cmp_loop hm hn hl hb m.length (Nat.le_refl _) (by rw [List.drop_length, hl, List.drop_length])
  unfold integer_compare
  simp only [integer_compare.j2, cite, bne_iff_ne]
  rw [if_neg (by simp [hl]), wi64 (by omega) (by omega), h1, Option.bind_some]
  rcases h2 with ⟨rfl, h2⟩ | rfl
  · simp only [integer_compare.k0_0, h2]
  · rfl
theorem compare_ok {a b : Nat} (ha : (limbs a).length < 17592186044416) : integer_compare (limbs a) (limbs b) = some (cm a b) := by
  by_cases h : (limbs a).length = (limbs b).length
  · have := cmp_same (lim_limbs a) (lim_limbs b) h ha
    rwa [lv_limbs, lv_limbs] at this
  · unfold integer_compare
    simp only [integer_compare.j1, cite, bne_iff_ne, decide_eq_true_eq]
    rw [if_pos (by omega)]
    by_cases h1 : (limbs a).length < (limbs b).length
    · have : ¬ b < 4294967296 ^ (limbs a).length := fun hc => by have := limbs_len.2 hc; omega
      have := limbs_len.1 (Nat.le_refl (limbs a).length)
      rw [if_pos (by omega), cm_lt (by omega)]
    · have : ¬ a < 4294967296 ^ (limbs b).length := fun hc => by have := limbs_len.2 hc; omega
      have := limbs_len.1 (Nat.le_refl (limbs b).length)
      rw [if_neg (by omega), cm_gt (by omega)]
theorem rcmp_eq (m n : List Int) : r01_cmp m n = integer_compare m n := rfl
theorem rcmp_ok {a b : Nat} (ha : (limbs a).length < 17592186044416) : r01_cmp (limbs a) (limbs b) = some (cm a b) := (rcmp_eq _ _).trans (compare_ok ha)
theorem lv_snoc (l : List Int) (d : Nat) : lv (l ++ [(d : Int)]) = lv l + 4294967296 ^ l.length * d := by
  rw [lv_append, lv_one, Int.toNat_natCast]
theorem lim_snoc {l : List Int} (h : Lim l) {d : Nat} (hd : d < 4294967296) : Lim (l ++ [(d : Int)]) := h.append (Lim.one (by omega))
theorem sum_step {m n : List Int} (hm : Lim m) (hn : Lim n) {i c : Nat} {out : List Int} (hi : i < m.length ∨ i < n.length) (hl : out.length = i) (hc : c ≤ 1) (hb : m.length < 1073741824) (hb' : n.length < 1073741824) :
    r01_sum.s0 m n (c : Int) (i : Int) out = some (.inl (m, n, (((c + dg m i + dg n i) / 4294967296 : Nat) : Int), ((i + 1 : Nat) : Int), out ++ [(((c + dg m i + dg n i) % 4294967296 : Nat) : Int)], ())) := by
  have hdm := dg_lt hm i
  have hdn := dg_lt hn i
  have j2 : ∀ x : Nat, x < 12884901888 → r01_sum.j2 m n (x : Int) (i : Int) out = some (.inl (m, n, ((x / 4294967296 : Nat) : Int), ((i + 1 : Nat) : Int), out ++ [((x % 4294967296 : Nat) : Int)], ())) := fun x hx => by
    simp only [r01_sum.j2, cite, decide_eq_true_eq, maxL_eq]
    rw [if_pos (by simp [hl]; omega), hi_word, wu32, up (by omega)]
    congr 5
  have j1 : ∀ x : Nat, x < 8589934592 → r01_sum.j1 m n (x : Int) (i : Int) out = some (.inl (m, n, (((x + dg n i) / 4294967296 : Nat) : Int), ((i + 1 : Nat) : Int), out ++ [(((x + dg n i) % 4294967296 : Nat) : Int)], ())) := fun x hx => by
    simp only [r01_sum.j1, cite, decide_eq_true_eq, inB_t]
    rw [Int.toNat_natCast, gd hn, wu64' (x := ((dg n i : Nat) : Int)) (by omega) (by omega)]
    by_cases h5 : i < n.length
    · rw [if_pos (by omega), if_pos (by omega), wu64' (by omega) (by omega)]
      exact j2 (x + dg n i) (by omega)
    · rw [if_neg (by omega), dg_out (by omega)]
      exact j2 x (by omega)
  simp only [r01_sum.s0, r01_sum.j3, cite, decide_eq_true_eq, inB_t]
  rw [Int.toNat_natCast, gd hm, wu64' (x := ((dg m i : Nat) : Int)) (by omega) (by omega)]
  by_cases h4 : i < m.length
  · rw [if_pos (by omega), if_pos (by omega), if_pos (by omega), wu64' (by omega) (by omega)]
    exact j1 (c + dg m i) (by omega)
  · have h6 : dg m i = 0 := dg_out (by omega)
    rw [if_neg (by omega), if_pos (by omega), if_neg (by omega), h6]
    exact j1 c (by omega)
theorem sum_loop {m n : List Int} (hm : Lim m) (hn : Lim n) (hb : m.length < 1073741824) (hb' : n.length < 1073741824) : ∀ (t i : Nat) (out : List Int) (c : Nat), max m.length n.length - i = t → i ≤ max m.length n.length → out.length = i → Lim out → c ≤ 1 →
    lv out + 4294967296 ^ i * c = lv (m.take i) + lv (n.take i) → ∃ (c' : Nat) (o' : List Int), c' ≤ 1 ∧ Lim o' ∧ lv o' + 4294967296 ^ max m.length n.length * c' = lv m + lv n ∧ o'.length = max m.length n.length ∧
      iterL (fun x : List Int × List Int × Int × Int × List Int × Unit => r01_sum.s0 x.1 x.2.1 x.2.2.1 x.2.2.2.1 x.2.2.2.2.1) (m, n, (c : Int), (i : Int), out, ()) = some ((c' : Int), o', ()) := by
  intro t
  induction t with
  | zero =>
    intro i out c ht hi hl ho hc he
    obtain rfl : i = max m.length n.length := by omega
    refine ⟨c, out, hc, ho, ?_, hl, iterL_done ?_⟩
    · rw [he, List.take_of_length_le (by omega), List.take_of_length_le (by omega)]
    · simp only [r01_sum.s0, cite, decide_eq_true_eq]
      rw [if_neg (by omega), if_neg (by omega)]
  | succ t ih =>
    intro i out c ht hi hl ho hc he
    have hdm := dg_lt hm i
    have hdn := dg_lt hn i
    have h1 := lv_take_succ m i
    have h2 := lv_take_succ n i
    obtain ⟨c', o', hr1, hr2, hr3, hr4, hr5⟩ := ih (i + 1) (out ++ [(((c + dg m i + dg n i) % 4294967296 : Nat) : Int)]) ((c + dg m i + dg n i) / 4294967296) (by omega) (by omega) (by simp [hl]) (lim_snoc ho (by omega)) (by omega) (by
      rw [lv_snoc, hl, h1, h2, Nat.pow_succ]
      have h3 : 4294967296 ^ i * (c + dg m i + dg n i) = 4294967296 ^ i * ((c + dg m i + dg n i) % 4294967296) + 4294967296 ^ i * (4294967296 * ((c + dg m i + dg n i) / 4294967296)) := by
        rw [← Nat.mul_add, Nat.mod_add_div]
      rw [Nat.mul_add, Nat.mul_add] at h3
      rw [Nat.mul_assoc]
      omega)
    exact ⟨c', o', hr1, hr2, hr3, hr4, (iterL_next (sum_step hm hn (by omega) hl hc hb hb')).trans hr5⟩
theorem sum_ok {m n : List Int} (hm : Lim m) (hn : Lim n) (hb : m.length < 1073741824) (hb' : n.length < 1073741824) : ∃ r, Lim r ∧ lv r = lv m + lv n ∧ r.length = max m.length n.length + 1 ∧ r01_sum m n = some r := by
  obtain ⟨c, o, h1, h2, h3, h4, h5⟩ := sum_loop hm hn hb hb' _ 0 [] 0 rfl (by omega) rfl Lim.nil (by omega) (by simp [lv])
  refine ⟨o ++ [(c : Int)], lim_snoc h2 (by omega), by rw [lv_snoc, h4, h3], by simp [h4], ?_⟩
  unfold r01_sum
  rw [show ((0 : Nat) : Int) = 0 from rfl] at h5
  rw [h5, Option.bind_some]
  simp only [r01_sum.k0, cite, decide_eq_true_eq, maxL_eq]
  rw [if_pos (by simp [h4]; omega), wu32' (by omega) (by omega)]
theorem diff_loop {m n : List Int} (hm : Lim m) (hn : Lim n) (hb : m.length < 1073741824) : ∀ (t i : Nat) (out : List Int) (c : Nat), m.length - i = t → i ≤ m.length → out.length = i → Lim out → c ≤ 1 →
    lv (m.take i) + 4294967296 ^ i * c = lv out + lv (n.take i) → ∃ r c', Lim r ∧ lv m + 4294967296 ^ m.length * c' = lv r + lv (n.take m.length) ∧ r.length = m.length ∧
      iterL (fun x : List Int × List Int × Int × Int × List Int × Unit => r01_difference.s0 x.1 x.2.1 x.2.2.1 x.2.2.2.1 x.2.2.2.2.1) (m, n, (c : Int), (i : Int), out, ()) = some (r, ()) := by
  intro t
  induction t with
  | zero =>
    intro i out c ht hi hl ho hc he
    obtain rfl : i = m.length := by omega
    refine ⟨out, c, ho, by rwa [List.take_length] at he, hl, iterL_done ?_⟩
    simp only [r01_difference.s0, cite, decide_eq_true_eq]
    rw [if_neg (by omega)]
  | succ t ih =>
    intro i out c ht hi hl ho hc he
    have hdm := dg_lt hm i
    have hdn := dg_lt hn i
    have h1 := lv_take_succ m i
    have h2 := lv_take_succ n i
    obtain ⟨d, c', hd, hc', h3, h7⟩ : ∃ d c' : Nat, d < 4294967296 ∧ c' ≤ 1 ∧ dg m i + 4294967296 * c' = c + d + dg n i ∧ (c' = if dg m i < c + dg n i then 1 else 0) := by
      by_cases h : dg m i < c + dg n i
      · exact ⟨dg m i + 4294967296 - c - dg n i, 1, by omega, by omega, by omega, by rw [if_pos h]⟩
      · exact ⟨dg m i - c - dg n i, 0, by omega, by omega, by omega, by rw [if_neg h]⟩
    obtain ⟨r, cc, hr1, hr2, hr3, hr4⟩ := ih (i + 1) (out ++ [(d : Int)]) c' (by omega) (by omega) (by simp [hl]) (lim_snoc ho hd) hc' (by
      rw [lv_snoc, hl, h1, h2, Nat.pow_succ]
      have h4 : 4294967296 ^ i * (dg m i + 4294967296 * c') = 4294967296 ^ i * (c + d + dg n i) := by rw [h3]
      rw [Nat.mul_add, Nat.mul_add, Nat.mul_add, ← Nat.mul_assoc] at h4
      omega)
    refine ⟨r, cc, hr1, hr2, hr3, (iterL_next ?_).trans hr4⟩
    have j2 : ∀ x : Nat, x = c + dg n i → r01_difference.j2 m n (i : Int) (x : Int) out = some (.inl (m, n, (c' : Int), ((i + 1 : Nat) : Int), out ++ [(d : Int)], ())) := fun x hx => by
      simp only [r01_difference.j2, r01_difference.j3, r01_difference.j4, cite, decide_eq_true_eq, inB_t, maxL_eq]
      have e3 : IntKind.wrap .u32 (IntKind.wrap .u64 ((dg m i : Int) - (x : Int))) = (d : Int) := by rw [wu64, wu32]; omega
      rw [Int.toNat_natCast, gd hm, wu64' (x := ((dg m i : Nat) : Int)) (by omega) (by omega), e3, if_pos (by omega), if_pos (by simp [hl]; omega), if_pos (by omega), up (by omega)]
      by_cases h6 : dg m i < c + dg n i
      · rw [if_pos h6] at h7
        rw [if_pos (by omega), h7]; rfl
      · rw [if_neg h6] at h7
        rw [if_neg (by omega), h7]; rfl
    simp only [r01_difference.s0, r01_difference.j1, cite, decide_eq_true_eq, inB_t]
    rw [if_pos (by omega), Int.toNat_natCast, gd hn, wu64' (x := ((dg n i : Nat) : Int)) (by omega) (by omega)]
    by_cases h5 : i < n.length
    · rw [if_pos (by omega), if_pos (by omega), wu64' (by omega) (by omega)]
      exact j2 (c + dg n i) rfl
    · rw [if_neg (by omega)]
      exact j2 c (by rw [dg_out (by omega)]; rfl)
theorem diff_ok {m n : List Int} (hm : Lim m) (hn : Lim n) (hb : m.length < 1073741824) (hl : n.length ≤ m.length) (h : lv n ≤ lv m) : ∃ r, Lim r ∧ lv r = lv m - lv n ∧ r.length = m.length ∧ r01_difference m n = some r := by
  obtain ⟨r, c, h1, h2, h3, h4⟩ := diff_loop hm hn hb _ 0 [] 0 rfl (by omega) rfl Lim.nil (by omega) (by simp [lv])
  refine ⟨r, h1, ?_, h3, ?_⟩
  · rw [List.take_of_length_le hl] at h2
    have h5 := lv_lt h1
    rw [h3] at h5
    have : c = 0 := by
      cases c with
      | zero => rfl
      | succ c =>
        have : 4294967296 ^ m.length * 1 ≤ 4294967296 ^ m.length * (c + 1) := Nat.mul_le_mul_left _ (by omega)
        omega
    subst this
    omega
  · unfold r01_difference
    rw [show ((0 : Nat) : Int) = 0 from rfl] at h4
    rw [h4]; rfl
theorem len_le {a b : Nat} (h : a ≤ b) : (limbs a).length ≤ (limbs b).length := limbs_len.2 (Nat.lt_of_le_of_lt h (limbs_len.1 (Nat.le_refl _)))
theorem len_lv {l : List Int} (h : Lim l) : (limbs (lv l)).length ≤ l.length := limbs_len.2 (lv_lt h)
theorem iv_mkI (z : Int) : iv (mkI z).1 (mkI z).2.1 = z := iv_mk z
theorem lim_mkI (z : Int) : Lim (mkI z).2.1 := lim_limbs _
theorem lv_mkI (z : Int) : lv (mkI z).2.1 = z.natAbs := lv_limbs _
theorem radd_ok {l l' : List Int} (s s' : Bool) (u u' : Unit) (h : Lim l) (h' : Lim l') (hb : l.length < 1073741823) (hb' : l'.length < 1073741823) : r01_Add (s, l, u) (s', l', u') = some (mkI (iv s l + iv s' l')) := by
  have hx := len_lv h
  have hy := len_lv h'
  unfold r01_Add
  rw [rtrim_ok h (by omega), Option.bind_some, rtrim_ok h' (by omega), Option.bind_some]
  simp only [cite, beq_iff_eq]
  by_cases hs : s = s'
  · subst hs
    obtain ⟨r, h1, h2, h3, h4⟩ := sum_ok (lim_limbs (lv l)) (lim_limbs (lv l')) (by omega) (by omega)
    have h5 := make_ok s h1 (by rw [h3]; omega)
    rw [lv_limbs, lv_limbs] at h2
    rw [show iv s r = iv s l + iv s l' from by unfold iv; split <;> omega] at h5
    rw [if_pos rfl, h4, Option.bind_some, h5]; rfl
  · rw [if_neg hs]
    simp only [r01_Add.j1, r01_Add.j2, cite, decide_eq_true_eq]
    rw [rcmp_ok (by omega), Option.bind_some]
    by_cases hc : lv l' ≤ lv l
    · obtain ⟨r, h1, h2, h3, h4⟩ := diff_ok (lim_limbs (lv l)) (lim_limbs (lv l')) (by omega) (len_le hc) (by rw [lv_limbs, lv_limbs]; exact hc)
      have h5 := make_ok s h1 (by rw [h3]; omega)
      rw [lv_limbs, lv_limbs] at h2
      rw [show iv s r = iv s l + iv s' l' from by cases s <;> cases s' <;> simp_all [iv] <;> omega] at h5
      rw [if_pos (by unfold cm; split <;> (try split) <;> omega), h4, Option.bind_some, h5]; rfl
    · obtain ⟨r, h1, h2, h3, h4⟩ := diff_ok (lim_limbs (lv l')) (lim_limbs (lv l)) (by omega) (len_le (by omega)) (by rw [lv_limbs, lv_limbs]; omega)
      have h5 := make_ok s' h1 (by rw [h3]; omega)
      rw [lv_limbs, lv_limbs] at h2
      rw [show iv s' r = iv s l + iv s' l' from by cases s <;> cases s' <;> simp_all [iv] <;> omega] at h5
      rw [cm_lt (by omega), if_neg (by omega), h4, Option.bind_some, h5]; rfl
theorem rneg_ok {l : List Int} (neg : Bool) (u : Unit) (hl : Lim l) (hn : l.length ≤ 1073741824) : r01_Neg (neg, l, u) = some (mkI (-iv neg l)) := by
  unfold r01_Neg
  rw [make_ok _ hl hn, Option.bind_some, show iv (!neg) l = -iv neg l by cases neg <;> simp [iv]]
theorem rsub_ok {l l' : List Int} (s s' : Bool) (u u' : Unit) (h : Lim l) (h' : Lim l') (hb : l.length < 1073741823) (hb' : l'.length < 1073741823) : r01_Sub (s, l, u) (s', l', u') = some (mkI (iv s l - iv s' l')) := by
  have hy := len_lv h'
  unfold r01_Sub
  rw [rneg_ok s' _ h' (by omega), Option.bind_some]
  have h2 := radd_ok s (mkI (-iv s' l')).1 u () h (lim_mkI (-iv s' l')) hb (by show (limbs (-iv s' l').natAbs).length < _; rw [Int.natAbs_neg, iv_natAbs]; omega)
  rw [iv_mkI, ← Int.sub_eq_add_neg] at h2
  exact (congrArg (fun o => o.bind fun y => some (y.1, (y.2.1, ()))) h2).trans rfl
end Go.Proofs.YtgbndganadelpaaGreatDoor.V
