-- Written by a program of this session out of the translation.
import Derived.Test.YtcjhbjfkcmncpaaQx0
import Derived.Test.YtcjhbjfkcmncpaaQx8
import Derived.Test.YtcjhbjfkcmncpaaQx11
namespace Go.Proofs.Ytcjhbjfkcmncpaa.Q
open Go.RowKit Go.Proofs.YtcjhbjfkcmncpaaW.PrintWords Go.Proofs.YtcjhbjfkcmncpaaW.PrintLast Go.Proofs.YtcjhbjfkcmncpaaW.PrintMore
attribute [local go_sem] max2_int min2_int max_two min_two max_three min_three max_four min_four   -- for this text's walks alone
set_option linter.unusedVariables false
set_option linter.unusedSimpArgs false

/-! ### quadformlaw22_PrimeMultiplies: function 7 -/
def quadformlaw22_PrimeMultiplies.j0 : Nat → Int → Int → Int → Bool → Option (Bool)
  | 0, _, _, _, _ => none
  | k + 1, x0, x2, x3, x62 => if x62 = true then (some false) else ((prime_Kronecker.f k (wrap64 (x0)) (wrap64 ((wrap64 ((Int.tmod (wrap64 (x2)) 4000) + 1)) * (wrap64 ((Int.tmod (wrap64 (x3)) 4000) + 1))))).bind fun bt198 => ((prime_Kronecker.f k (wrap64 (x0)) (wrap64 ((Int.tmod (wrap64 (x2)) 4000) + 1))).bind fun bt200 => ((prime_Kronecker.f k (wrap64 (x0)) (wrap64 ((Int.tmod (wrap64 (x3)) 4000) + 1))).bind fun bt202 => (if bt198.2 = 0 then (if bt200.2 = 0 then (if bt202.2 = 0 then (if bt198.1 = (wrap64 (bt200.1 * bt202.1)) then ((quadformlaw22_awake.f k).bind fun t204 => (some t204)) else (some false)) else (some false)) else (some false)) else (some false)))))
def quadformlaw22_PrimeMultiplies.f (k : Nat) (a0 : Int) (a1 : Int) (a2 : Int) (a3 : Int) : Option (Bool) := (prime_Kronecker.f k (wrap64 ((wrap64 (a0)) * (wrap64 (a1)))) (wrap64 ((wrap64 (a3)) + 1))).bind fun bt192 => ((prime_Kronecker.f k (wrap64 (a0)) (wrap64 ((wrap64 (a3)) + 1))).bind fun bt194 => ((prime_Kronecker.f k (wrap64 (a1)) (wrap64 ((wrap64 (a3)) + 1))).bind fun bt196 => (if bt192.2 = 0 then (if bt194.2 = 0 then (if bt196.2 = 0 then (quadformlaw22_PrimeMultiplies.j0 k a0 a2 a3 (bt192.1 != (wrap64 (bt194.1 * bt196.1)))) else (quadformlaw22_PrimeMultiplies.j0 k a0 a2 a3 true)) else (quadformlaw22_PrimeMultiplies.j0 k a0 a2 a3 true)) else (quadformlaw22_PrimeMultiplies.j0 k a0 a2 a3 true))))
theorem quadformlaw22_PrimeMultiplies.mono_l : ∀ k, (∀ y0 y1 y2 y3, LeO (quadformlaw22_PrimeMultiplies.j0 k y0 y1 y2 y3) (quadformlaw22_PrimeMultiplies.j0 (k + 1) y0 y1 y2 y3))
  | 0 => fun _ _ _ _ r h => by simp [quadformlaw22_PrimeMultiplies.j0] at h
  | k + 1 => by
    have ih0 := quadformlaw22_PrimeMultiplies.mono_l k
    · intro y0 y1 y2 y3
      unfold quadformlaw22_PrimeMultiplies.j0
      repeat' first
      | (with_reducible exact ih0 _ _ _ _)
      | (with_reducible exact prime_Kronecker.mono _ _ _)
      | (with_reducible exact quadformlaw22_awake.mono _)
      | (with_reducible exact LeO.refl _)
      | (with_reducible exact LeO.none _)
      | (with_reducible refine LeO.ite ?_ ?_)
      | (with_reducible refine LeO.bind ?_ (fun _ => ?_))
      | exact ih0 _ _ _ _
      | exact prime_Kronecker.mono _ _ _
      | exact quadformlaw22_awake.mono _
      | exact LeO.none _
      | refine LeO.ite ?_ ?_
      | refine LeO.bind ?_ (fun _ => ?_)
theorem quadformlaw22_PrimeMultiplies.mono : ∀ a0 a1 a2 a3 k, LeO (quadformlaw22_PrimeMultiplies.f k a0 a1 a2 a3) (quadformlaw22_PrimeMultiplies.f (k + 1) a0 a1 a2 a3) := by
  intro a0 a1 a2 a3 k
  have ih0 := quadformlaw22_PrimeMultiplies.mono_l k
  unfold quadformlaw22_PrimeMultiplies.f
  repeat' first
      | (with_reducible exact ih0 _ _ _ _)
      | (with_reducible exact prime_Kronecker.mono _ _ _)
      | (with_reducible exact quadformlaw22_awake.mono _)
      | (with_reducible exact LeO.refl _)
      | (with_reducible exact LeO.none _)
      | (with_reducible refine LeO.ite ?_ ?_)
      | (with_reducible refine LeO.bind ?_ (fun _ => ?_))
      | exact ih0 _ _ _ _
      | exact prime_Kronecker.mono _ _ _
      | exact quadformlaw22_awake.mono _
      | exact LeO.none _
      | refine LeO.ite ?_ ?_
      | refine LeO.bind ?_ (fun _ => ?_)
set_option maxHeartbeats 8000000 in
set_option maxRecDepth 100000 in
theorem quadformlaw22_PrimeMultiplies.calls (k : Nat) (a0 : Int) (a1 : Int) (a2 : Int) (a3 : Int) (r : Bool) (w : World) (h : quadformlaw22_PrimeMultiplies.f k a0 a1 a2 a3 = some r) :
    Calls Try.prog 7 #[.int .i16 a0, .int .i16 a1, .int .u16 a2, .int .u16 a3] w fun e w' => e = .returned (.bool r) ∧ Below w.heap.size w w' := by
  have HB := Aside0.mk (Below.refl w.heap.size w)
  have H : ((prime_Kronecker.f k (wrap64 ((wrap64 (a0)) * (wrap64 (a1)))) (wrap64 ((wrap64 (a3)) + 1))).bind fun bt192 => ((prime_Kronecker.f k (wrap64 (a0)) (wrap64 ((wrap64 (a3)) + 1))).bind fun bt194 => ((prime_Kronecker.f k (wrap64 (a1)) (wrap64 ((wrap64 (a3)) + 1))).bind fun bt196 => (if bt192.2 = 0 then (if bt194.2 = 0 then (if bt196.2 = 0 then (quadformlaw22_PrimeMultiplies.j0 k a0 a2 a3 (bt192.1 != (wrap64 (bt194.1 * bt196.1)))) else (quadformlaw22_PrimeMultiplies.j0 k a0 a2 a3 true)) else (quadformlaw22_PrimeMultiplies.j0 k a0 a2 a3 true)) else (quadformlaw22_PrimeMultiplies.j0 k a0 a2 a3 true))))) = some r := h
  clear h
  replace H := Option.bind_eq_some_iff.mp H
  obtain ⟨⟨t192, t193⟩, A50, H⟩ := H
  replace H : ((prime_Kronecker.f k (wrap64 (a0)) (wrap64 ((wrap64 (a3)) + 1))).bind fun bt194 => ((prime_Kronecker.f k (wrap64 (a1)) (wrap64 ((wrap64 (a3)) + 1))).bind fun bt196 => (if t193 = 0 then (if bt194.2 = 0 then (if bt196.2 = 0 then (quadformlaw22_PrimeMultiplies.j0 k a0 a2 a3 (t192 != (wrap64 (bt194.1 * bt196.1)))) else (quadformlaw22_PrimeMultiplies.j0 k a0 a2 a3 true)) else (quadformlaw22_PrimeMultiplies.j0 k a0 a2 a3 true)) else (quadformlaw22_PrimeMultiplies.j0 k a0 a2 a3 true)))) = some r := H
  have A5 := Aside0.mk A50
  clear A50
  replace H := Option.bind_eq_some_iff.mp H
  obtain ⟨⟨t194, t195⟩, A60, H⟩ := H
  replace H : ((prime_Kronecker.f k (wrap64 (a1)) (wrap64 ((wrap64 (a3)) + 1))).bind fun bt196 => (if t193 = 0 then (if t195 = 0 then (if bt196.2 = 0 then (quadformlaw22_PrimeMultiplies.j0 k a0 a2 a3 (t192 != (wrap64 (t194 * bt196.1)))) else (quadformlaw22_PrimeMultiplies.j0 k a0 a2 a3 true)) else (quadformlaw22_PrimeMultiplies.j0 k a0 a2 a3 true)) else (quadformlaw22_PrimeMultiplies.j0 k a0 a2 a3 true))) = some r := H
  have A6 := Aside0.mk A60
  clear A60
  replace H := Option.bind_eq_some_iff.mp H
  obtain ⟨⟨t196, t197⟩, A70, H⟩ := H
  replace H : (if t193 = 0 then (if t195 = 0 then (if t197 = 0 then (quadformlaw22_PrimeMultiplies.j0 k a0 a2 a3 (t192 != (wrap64 (t194 * t196)))) else (quadformlaw22_PrimeMultiplies.j0 k a0 a2 a3 true)) else (quadformlaw22_PrimeMultiplies.j0 k a0 a2 a3 true)) else (quadformlaw22_PrimeMultiplies.j0 k a0 a2 a3 true)) = some r := H
  have A7 := Aside0.mk A70
  clear A70
  have HC8 := Aside0.mk H
  clear H
  go_enter Try.func7, Try.ntmps7
  go_upto_region 4 with (first | ((with_reducible refine gate_callee (f := 21) rfl ?_); refine goesL_ (some 25) rfl rfl Try.func21 (by kernel_rfl) rfl #[.int .i64 (wrap64 ((wrap64 (a0)) * (wrap64 (a1)))), .int .i64 (wrap64 ((wrap64 (a3)) + 1))] rfl (by (try simp only [List.map_toArray, List.map_cons, List.map_nil]); first | done | rfl | (simp only [List.length_drop, List.length_take]; rfl)) ?_; (with_reducible refine (prime_Kronecker.calls k (wrap64 ((wrap64 (a0)) * (wrap64 (a1)))) (wrap64 ((wrap64 (a3)) + 1)) t192 t193 _ A5.out).mono ?_); rintro e w9 ⟨rfl, hb⟩; refine ⟨_, rfl, ?_⟩; have n0_ := Aside0.mk (below_step (by repeat (first | (with_reducible first | exact HB.out | apply below_alloc | apply pw_below_drewN | apply below_drew1) | exact HB.out)) hb); clear HB; have HB := n0_; clear n0_; (try clear hb); (try clear hb2); (try clear hk); (try clear hi)) | ((with_reducible refine gate_callee (f := 21) rfl ?_); refine goesL_ (some 34) rfl rfl Try.func21 (by kernel_rfl) rfl #[.int .i64 (wrap64 (a0)), .int .i64 (wrap64 ((wrap64 (a3)) + 1))] rfl (by (try simp only [List.map_toArray, List.map_cons, List.map_nil]); first | done | rfl | (simp only [List.length_drop, List.length_take]; rfl)) ?_; (with_reducible refine (prime_Kronecker.calls k (wrap64 (a0)) (wrap64 ((wrap64 (a3)) + 1)) t194 t195 _ A6.out).mono ?_); rintro e w10 ⟨rfl, hb⟩; refine ⟨_, rfl, ?_⟩; have n0_ := Aside0.mk (below_step (by repeat (first | (with_reducible first | exact HB.out | apply below_alloc | apply pw_below_drewN | apply below_drew1) | exact HB.out)) hb); clear HB; have HB := n0_; clear n0_; (try clear hb); (try clear hb2); (try clear hk); (try clear hi)) | ((with_reducible refine gate_callee (f := 21) rfl ?_); refine goesL_ (some 43) rfl rfl Try.func21 (by kernel_rfl) rfl #[.int .i64 (wrap64 (a1)), .int .i64 (wrap64 ((wrap64 (a3)) + 1))] rfl (by (try simp only [List.map_toArray, List.map_cons, List.map_nil]); first | done | rfl | (simp only [List.length_drop, List.length_take]; rfl)) ?_; (with_reducible refine (prime_Kronecker.calls k (wrap64 (a1)) (wrap64 ((wrap64 (a3)) + 1)) t196 t197 _ A7.out).mono ?_); rintro e w11 ⟨rfl, hb⟩; refine ⟨_, rfl, ?_⟩; have n0_ := Aside0.mk (below_step (by repeat (first | (with_reducible first | exact HB.out | apply below_alloc | apply pw_below_drewN | apply below_drew1) | exact HB.out)) hb); clear HB; have HB := n0_; clear n0_; (try clear hb); (try clear hb2); (try clear hk); (try clear hi)))
  (try simp only [Act.put, List.setIfInBounds_toArray, List.set_cons_zero, List.set_cons_succ])
  go_cut [62] (fun v62 wc => ∃ (kq : Nat) (x62_7 : Bool), v62 = .bool x62_7 ∧ Aside0 (quadformlaw22_PrimeMultiplies.j0 kq a0 a2 a3 x62_7 = some r) ∧ Aside0 (kq ≤ k) ∧ Aside0 (Below w.heap.size w wc))
  case first =>
    have H := HC8.out
    clear HC8
    by_cases c12 : t193 = 0
    · rw [if_pos c12] at H
      have c12b0 : (t193 == 0) = true := beq_iff_eq.mpr c12
      have c12b1 : (t193 != 0) = false := bne_eq_false_iff_eq.mpr c12
      clear c12
      (first | rw [c12b0] | (simp only [i64_w, i32_w]; rw [c12b0]) | skip)
      by_cases c13 : t195 = 0
      · rw [if_pos c13] at H
        have c13b0 : (t195 == 0) = true := beq_iff_eq.mpr c13
        have c13b1 : (t195 != 0) = false := bne_eq_false_iff_eq.mpr c13
        clear c13
        by_cases c14 : t197 = 0
        · rw [if_pos c14] at H
          have c14b0 : (t197 == 0) = true := beq_iff_eq.mpr c14
          have c14b1 : (t197 != 0) = false := bne_eq_false_iff_eq.mpr c14
          clear c14
          have H' := Aside0.mk H
          clear H
          go_wp2
          go_meet
          case rel => exact ⟨_, ((t192 != (wrap64 (t194 * t196)))), (by first | rfl | (simp; done) | (simp [*]; done)), H', ⟨by first | omega | exact Nat.le_refl _⟩, ⟨by repeat (first | (with_reducible first | exact HB.out | apply below_alloc | apply pw_below_drewN | apply below_drew1) | exact HB.out)⟩⟩
        · rw [if_neg c14] at H
          have c14b0 : (t197 == 0) = false := beq_eq_false_iff_ne.mpr c14
          have c14b1 : (t197 != 0) = true := bne_iff_ne.mpr c14
          have H' := Aside0.mk H
          clear H
          go_wp2
          go_meet
          case rel => exact ⟨_, (true), (by first | rfl | (simp; done) | (simp [*]; done)), H', ⟨by first | omega | exact Nat.le_refl _⟩, ⟨by repeat (first | (with_reducible first | exact HB.out | apply below_alloc | apply pw_below_drewN | apply below_drew1) | exact HB.out)⟩⟩
      · rw [if_neg c13] at H
        have c13b0 : (t195 == 0) = false := beq_eq_false_iff_ne.mpr c13
        have c13b1 : (t195 != 0) = true := bne_iff_ne.mpr c13
        have H' := Aside0.mk H
        clear H
        go_wp2
        go_meet
        case rel => exact ⟨_, (true), (by first | rfl | (simp; done) | (simp [*]; done)), H', ⟨by first | omega | exact Nat.le_refl _⟩, ⟨by repeat (first | (with_reducible first | exact HB.out | apply below_alloc | apply pw_below_drewN | apply below_drew1) | exact HB.out)⟩⟩
    · rw [if_neg c12] at H
      have c12b0 : (t193 == 0) = false := beq_eq_false_iff_ne.mpr c12
      have c12b1 : (t193 != 0) = true := bne_iff_ne.mpr c12
      (first | rw [c12b0] | (simp only [i64_w, i32_w]; rw [c12b0]) | skip)
      have H' := Aside0.mk H
      clear H
      go_wp2
      go_meet
      case rel => exact ⟨_, (true), (by first | rfl | (simp; done) | (simp [*]; done)), H', ⟨by first | omega | exact Nat.le_refl _⟩, ⟨by repeat (first | (with_reducible first | exact HB.out | apply below_alloc | apply pw_below_drewN | apply below_drew1) | exact HB.out)⟩⟩
  case rest =>
    clear HC8
    try clear c1
    try clear c2
    try clear p2
    try clear p6
    try clear c7
    try clear c12
    try clear c12b0
    try clear c12b1
    try clear c13
    try clear c13b0
    try clear c13b1
    try clear c14
    try clear c14b0
    try clear c14b1
    obtain ⟨kq, x62_7, rfl, HA, HJ7, HB⟩ := hcut
    cases kq with
    | zero => exact absurd HA.out (by simp [quadformlaw22_PrimeMultiplies.j0])
    | succ kj7 =>
      have H := HA.out
      clear HA
      simp only [quadformlaw22_PrimeMultiplies.j0] at H
      by_cases c15 : x62_7 = true
      · subst c15
        have H1 : (some false) = some r := by rw [if_pos rfl] at H; exact H
        clear H
        have H := H1
        clear H1
        obtain rfl := Option.some.inj H
        go_wp2
        go_ret
        exact ⟨by first | rfl | (simp [errW_none, errW_some] <;> rfl) | (simp [*, errW_none, errW_some] <;> rfl), by repeat (first | (with_reducible first | exact HB.out | apply below_alloc | apply pw_below_drewN | apply below_drew1) | exact HB.out)⟩
      · replace c15 := Bool.eq_false_iff.mpr c15
        subst c15
        have H1 : ((prime_Kronecker.f kj7 (wrap64 (a0)) (wrap64 ((wrap64 ((Int.tmod (wrap64 (a2)) 4000) + 1)) * (wrap64 ((Int.tmod (wrap64 (a3)) 4000) + 1))))).bind fun bt198 => ((prime_Kronecker.f kj7 (wrap64 (a0)) (wrap64 ((Int.tmod (wrap64 (a2)) 4000) + 1))).bind fun bt200 => ((prime_Kronecker.f kj7 (wrap64 (a0)) (wrap64 ((Int.tmod (wrap64 (a3)) 4000) + 1))).bind fun bt202 => (if bt198.2 = 0 then (if bt200.2 = 0 then (if bt202.2 = 0 then (if bt198.1 = (wrap64 (bt200.1 * bt202.1)) then ((quadformlaw22_awake.f kj7).bind fun t204 => (some t204)) else (some false)) else (some false)) else (some false)) else (some false))))) = some r := by rw [if_neg (show ¬ (false = true) by decide)] at H; exact H
        clear H
        have H := H1
        clear H1
        replace H := Option.bind_eq_some_iff.mp H
        obtain ⟨⟨t198, t199⟩, A160, H⟩ := H
        replace H : ((prime_Kronecker.f kj7 (wrap64 (a0)) (wrap64 ((Int.tmod (wrap64 (a2)) 4000) + 1))).bind fun bt200 => ((prime_Kronecker.f kj7 (wrap64 (a0)) (wrap64 ((Int.tmod (wrap64 (a3)) 4000) + 1))).bind fun bt202 => (if t199 = 0 then (if bt200.2 = 0 then (if bt202.2 = 0 then (if t198 = (wrap64 (bt200.1 * bt202.1)) then ((quadformlaw22_awake.f kj7).bind fun t204 => (some t204)) else (some false)) else (some false)) else (some false)) else (some false)))) = some r := H
        have A16 := Aside0.mk A160
        clear A160
        replace H := Option.bind_eq_some_iff.mp H
        obtain ⟨⟨t200, t201⟩, A170, H⟩ := H
        replace H : ((prime_Kronecker.f kj7 (wrap64 (a0)) (wrap64 ((Int.tmod (wrap64 (a3)) 4000) + 1))).bind fun bt202 => (if t199 = 0 then (if t201 = 0 then (if bt202.2 = 0 then (if t198 = (wrap64 (t200 * bt202.1)) then ((quadformlaw22_awake.f kj7).bind fun t204 => (some t204)) else (some false)) else (some false)) else (some false)) else (some false))) = some r := H
        have A17 := Aside0.mk A170
        clear A170
        replace H := Option.bind_eq_some_iff.mp H
        obtain ⟨⟨t202, t203⟩, A180, H⟩ := H
        replace H : (if t199 = 0 then (if t201 = 0 then (if t203 = 0 then (if t198 = (wrap64 (t200 * t202)) then ((quadformlaw22_awake.f kj7).bind fun t204 => (some t204)) else (some false)) else (some false)) else (some false)) else (some false)) = some r := H
        have A18 := Aside0.mk A180
        clear A180
        by_cases c19 : t199 = 0
        · rw [if_pos c19] at H
          have c19b0 : (t199 == 0) = true := beq_iff_eq.mpr c19
          have c19b1 : (t199 != 0) = false := bne_eq_false_iff_eq.mpr c19
          clear c19
          by_cases c20 : t201 = 0
          · rw [if_pos c20] at H
            have c20b0 : (t201 == 0) = true := beq_iff_eq.mpr c20
            have c20b1 : (t201 != 0) = false := bne_eq_false_iff_eq.mpr c20
            clear c20
            by_cases c21 : t203 = 0
            · rw [if_pos c21] at H
              have c21b0 : (t203 == 0) = true := beq_iff_eq.mpr c21
              have c21b1 : (t203 != 0) = false := bne_eq_false_iff_eq.mpr c21
              clear c21
              by_cases c22 : t198 = (wrap64 (t200 * t202))
              · rw [if_pos c22] at H
                have c22b0 : (t198 == (wrap64 (t200 * t202))) = true := beq_iff_eq.mpr c22
                have c22b1 : (t198 != (wrap64 (t200 * t202))) = false := bne_eq_false_iff_eq.mpr c22
                clear c22
                replace H := Option.bind_eq_some_iff.mp H
                obtain ⟨t204, A230, H⟩ := H
                replace H : (some t204) = some r := H
                have A23 := Aside0.mk A230
                clear A230
                obtain rfl := Option.some.inj H
                go_wp2_with (first | ((with_reducible refine gate_callee (f := 21) rfl ?_); refine goesL_ (some 76) rfl rfl Try.func21 (by kernel_rfl) rfl #[.int .i64 (wrap64 (a0)), .int .i64 (wrap64 ((wrap64 ((Int.tmod (wrap64 (a2)) 4000) + 1)) * (wrap64 ((Int.tmod (wrap64 (a3)) 4000) + 1))))] rfl (by (try simp only [List.map_toArray, List.map_cons, List.map_nil]); first | done | rfl | (simp only [List.length_drop, List.length_take]; rfl)) ?_; (with_reducible refine (prime_Kronecker.calls kj7 (wrap64 (a0)) (wrap64 ((wrap64 ((Int.tmod (wrap64 (a2)) 4000) + 1)) * (wrap64 ((Int.tmod (wrap64 (a3)) 4000) + 1)))) t198 t199 _ A16.out).mono ?_); rintro e w24 ⟨rfl, hb⟩; refine ⟨_, rfl, ?_⟩; have n0_ := Aside0.mk (below_step (by repeat (first | (with_reducible first | exact HB.out | apply below_alloc | apply pw_below_drewN | apply below_drew1) | exact HB.out)) hb); clear HB; have HB := n0_; clear n0_; (try clear hb); (try clear hb2); (try clear hk); (try clear hi)) | ((with_reducible refine gate_callee (f := 21) rfl ?_); refine goesL_ (some 86) rfl rfl Try.func21 (by kernel_rfl) rfl #[.int .i64 (wrap64 (a0)), .int .i64 (wrap64 ((Int.tmod (wrap64 (a2)) 4000) + 1))] rfl (by (try simp only [List.map_toArray, List.map_cons, List.map_nil]); first | done | rfl | (simp only [List.length_drop, List.length_take]; rfl)) ?_; (with_reducible refine (prime_Kronecker.calls kj7 (wrap64 (a0)) (wrap64 ((Int.tmod (wrap64 (a2)) 4000) + 1)) t200 t201 _ A17.out).mono ?_); rintro e w25 ⟨rfl, hb⟩; refine ⟨_, rfl, ?_⟩; have n0_ := Aside0.mk (below_step (by repeat (first | (with_reducible first | exact HB.out | apply below_alloc | apply pw_below_drewN | apply below_drew1) | exact HB.out)) hb); clear HB; have HB := n0_; clear n0_; (try clear hb); (try clear hb2); (try clear hk); (try clear hi)) | ((with_reducible refine gate_callee (f := 21) rfl ?_); refine goesL_ (some 96) rfl rfl Try.func21 (by kernel_rfl) rfl #[.int .i64 (wrap64 (a0)), .int .i64 (wrap64 ((Int.tmod (wrap64 (a3)) 4000) + 1))] rfl (by (try simp only [List.map_toArray, List.map_cons, List.map_nil]); first | done | rfl | (simp only [List.length_drop, List.length_take]; rfl)) ?_; (with_reducible refine (prime_Kronecker.calls kj7 (wrap64 (a0)) (wrap64 ((Int.tmod (wrap64 (a3)) 4000) + 1)) t202 t203 _ A18.out).mono ?_); rintro e w26 ⟨rfl, hb⟩; refine ⟨_, rfl, ?_⟩; have n0_ := Aside0.mk (below_step (by repeat (first | (with_reducible first | exact HB.out | apply below_alloc | apply pw_below_drewN | apply below_drew1) | exact HB.out)) hb); clear HB; have HB := n0_; clear n0_; (try clear hb); (try clear hb2); (try clear hk); (try clear hi)) | (go_at_call 17; (with_reducible refine (quadformlaw22_awake.calls kj7  t204 _ A23.out).mono ?_); rintro e w27 ⟨rfl, hb⟩; have n0_ := Aside0.mk (below_step (by repeat (first | (with_reducible first | exact HB.out | apply below_alloc | apply pw_below_drewN | apply below_drew1) | exact HB.out)) hb); clear HB; have HB := n0_; clear n0_; (try clear hb); (try clear hb2); (try clear hk); (try clear hi)))
                go_ret
                exact ⟨by first | rfl | (simp [errW_none, errW_some] <;> rfl) | (simp [*, errW_none, errW_some] <;> rfl), by repeat (first | (with_reducible first | exact HB.out | apply below_alloc | apply pw_below_drewN | apply below_drew1) | exact HB.out)⟩
              · rw [if_neg c22] at H
                have c22b0 : (t198 == (wrap64 (t200 * t202))) = false := beq_eq_false_iff_ne.mpr c22
                have c22b1 : (t198 != (wrap64 (t200 * t202))) = true := bne_iff_ne.mpr c22
                obtain rfl := Option.some.inj H
                go_wp2_with (first | ((with_reducible refine gate_callee (f := 21) rfl ?_); refine goesL_ (some 76) rfl rfl Try.func21 (by kernel_rfl) rfl #[.int .i64 (wrap64 (a0)), .int .i64 (wrap64 ((wrap64 ((Int.tmod (wrap64 (a2)) 4000) + 1)) * (wrap64 ((Int.tmod (wrap64 (a3)) 4000) + 1))))] rfl (by (try simp only [List.map_toArray, List.map_cons, List.map_nil]); first | done | rfl | (simp only [List.length_drop, List.length_take]; rfl)) ?_; (with_reducible refine (prime_Kronecker.calls kj7 (wrap64 (a0)) (wrap64 ((wrap64 ((Int.tmod (wrap64 (a2)) 4000) + 1)) * (wrap64 ((Int.tmod (wrap64 (a3)) 4000) + 1)))) t198 t199 _ A16.out).mono ?_); rintro e w28 ⟨rfl, hb⟩; refine ⟨_, rfl, ?_⟩; have n0_ := Aside0.mk (below_step (by repeat (first | (with_reducible first | exact HB.out | apply below_alloc | apply pw_below_drewN | apply below_drew1) | exact HB.out)) hb); clear HB; have HB := n0_; clear n0_; (try clear hb); (try clear hb2); (try clear hk); (try clear hi)) | ((with_reducible refine gate_callee (f := 21) rfl ?_); refine goesL_ (some 86) rfl rfl Try.func21 (by kernel_rfl) rfl #[.int .i64 (wrap64 (a0)), .int .i64 (wrap64 ((Int.tmod (wrap64 (a2)) 4000) + 1))] rfl (by (try simp only [List.map_toArray, List.map_cons, List.map_nil]); first | done | rfl | (simp only [List.length_drop, List.length_take]; rfl)) ?_; (with_reducible refine (prime_Kronecker.calls kj7 (wrap64 (a0)) (wrap64 ((Int.tmod (wrap64 (a2)) 4000) + 1)) t200 t201 _ A17.out).mono ?_); rintro e w29 ⟨rfl, hb⟩; refine ⟨_, rfl, ?_⟩; have n0_ := Aside0.mk (below_step (by repeat (first | (with_reducible first | exact HB.out | apply below_alloc | apply pw_below_drewN | apply below_drew1) | exact HB.out)) hb); clear HB; have HB := n0_; clear n0_; (try clear hb); (try clear hb2); (try clear hk); (try clear hi)) | ((with_reducible refine gate_callee (f := 21) rfl ?_); refine goesL_ (some 96) rfl rfl Try.func21 (by kernel_rfl) rfl #[.int .i64 (wrap64 (a0)), .int .i64 (wrap64 ((Int.tmod (wrap64 (a3)) 4000) + 1))] rfl (by (try simp only [List.map_toArray, List.map_cons, List.map_nil]); first | done | rfl | (simp only [List.length_drop, List.length_take]; rfl)) ?_; (with_reducible refine (prime_Kronecker.calls kj7 (wrap64 (a0)) (wrap64 ((Int.tmod (wrap64 (a3)) 4000) + 1)) t202 t203 _ A18.out).mono ?_); rintro e w30 ⟨rfl, hb⟩; refine ⟨_, rfl, ?_⟩; have n0_ := Aside0.mk (below_step (by repeat (first | (with_reducible first | exact HB.out | apply below_alloc | apply pw_below_drewN | apply below_drew1) | exact HB.out)) hb); clear HB; have HB := n0_; clear n0_; (try clear hb); (try clear hb2); (try clear hk); (try clear hi)))
                go_ret
                exact ⟨by first | rfl | (simp [errW_none, errW_some] <;> rfl) | (simp [*, errW_none, errW_some] <;> rfl), by repeat (first | (with_reducible first | exact HB.out | apply below_alloc | apply pw_below_drewN | apply below_drew1) | exact HB.out)⟩
            · rw [if_neg c21] at H
              have c21b0 : (t203 == 0) = false := beq_eq_false_iff_ne.mpr c21
              have c21b1 : (t203 != 0) = true := bne_iff_ne.mpr c21
              obtain rfl := Option.some.inj H
              go_wp2_with (first | ((with_reducible refine gate_callee (f := 21) rfl ?_); refine goesL_ (some 76) rfl rfl Try.func21 (by kernel_rfl) rfl #[.int .i64 (wrap64 (a0)), .int .i64 (wrap64 ((wrap64 ((Int.tmod (wrap64 (a2)) 4000) + 1)) * (wrap64 ((Int.tmod (wrap64 (a3)) 4000) + 1))))] rfl (by (try simp only [List.map_toArray, List.map_cons, List.map_nil]); first | done | rfl | (simp only [List.length_drop, List.length_take]; rfl)) ?_; (with_reducible refine (prime_Kronecker.calls kj7 (wrap64 (a0)) (wrap64 ((wrap64 ((Int.tmod (wrap64 (a2)) 4000) + 1)) * (wrap64 ((Int.tmod (wrap64 (a3)) 4000) + 1)))) t198 t199 _ A16.out).mono ?_); rintro e w31 ⟨rfl, hb⟩; refine ⟨_, rfl, ?_⟩; have n0_ := Aside0.mk (below_step (by repeat (first | (with_reducible first | exact HB.out | apply below_alloc | apply pw_below_drewN | apply below_drew1) | exact HB.out)) hb); clear HB; have HB := n0_; clear n0_; (try clear hb); (try clear hb2); (try clear hk); (try clear hi)) | ((with_reducible refine gate_callee (f := 21) rfl ?_); refine goesL_ (some 86) rfl rfl Try.func21 (by kernel_rfl) rfl #[.int .i64 (wrap64 (a0)), .int .i64 (wrap64 ((Int.tmod (wrap64 (a2)) 4000) + 1))] rfl (by (try simp only [List.map_toArray, List.map_cons, List.map_nil]); first | done | rfl | (simp only [List.length_drop, List.length_take]; rfl)) ?_; (with_reducible refine (prime_Kronecker.calls kj7 (wrap64 (a0)) (wrap64 ((Int.tmod (wrap64 (a2)) 4000) + 1)) t200 t201 _ A17.out).mono ?_); rintro e w32 ⟨rfl, hb⟩; refine ⟨_, rfl, ?_⟩; have n0_ := Aside0.mk (below_step (by repeat (first | (with_reducible first | exact HB.out | apply below_alloc | apply pw_below_drewN | apply below_drew1) | exact HB.out)) hb); clear HB; have HB := n0_; clear n0_; (try clear hb); (try clear hb2); (try clear hk); (try clear hi)) | ((with_reducible refine gate_callee (f := 21) rfl ?_); refine goesL_ (some 96) rfl rfl Try.func21 (by kernel_rfl) rfl #[.int .i64 (wrap64 (a0)), .int .i64 (wrap64 ((Int.tmod (wrap64 (a3)) 4000) + 1))] rfl (by (try simp only [List.map_toArray, List.map_cons, List.map_nil]); first | done | rfl | (simp only [List.length_drop, List.length_take]; rfl)) ?_; (with_reducible refine (prime_Kronecker.calls kj7 (wrap64 (a0)) (wrap64 ((Int.tmod (wrap64 (a3)) 4000) + 1)) t202 t203 _ A18.out).mono ?_); rintro e w33 ⟨rfl, hb⟩; refine ⟨_, rfl, ?_⟩; have n0_ := Aside0.mk (below_step (by repeat (first | (with_reducible first | exact HB.out | apply below_alloc | apply pw_below_drewN | apply below_drew1) | exact HB.out)) hb); clear HB; have HB := n0_; clear n0_; (try clear hb); (try clear hb2); (try clear hk); (try clear hi)))
              go_ret
              exact ⟨by first | rfl | (simp [errW_none, errW_some] <;> rfl) | (simp [*, errW_none, errW_some] <;> rfl), by repeat (first | (with_reducible first | exact HB.out | apply below_alloc | apply pw_below_drewN | apply below_drew1) | exact HB.out)⟩
          · rw [if_neg c20] at H
            have c20b0 : (t201 == 0) = false := beq_eq_false_iff_ne.mpr c20
            have c20b1 : (t201 != 0) = true := bne_iff_ne.mpr c20
            obtain rfl := Option.some.inj H
            go_wp2_with (first | ((with_reducible refine gate_callee (f := 21) rfl ?_); refine goesL_ (some 76) rfl rfl Try.func21 (by kernel_rfl) rfl #[.int .i64 (wrap64 (a0)), .int .i64 (wrap64 ((wrap64 ((Int.tmod (wrap64 (a2)) 4000) + 1)) * (wrap64 ((Int.tmod (wrap64 (a3)) 4000) + 1))))] rfl (by (try simp only [List.map_toArray, List.map_cons, List.map_nil]); first | done | rfl | (simp only [List.length_drop, List.length_take]; rfl)) ?_; (with_reducible refine (prime_Kronecker.calls kj7 (wrap64 (a0)) (wrap64 ((wrap64 ((Int.tmod (wrap64 (a2)) 4000) + 1)) * (wrap64 ((Int.tmod (wrap64 (a3)) 4000) + 1)))) t198 t199 _ A16.out).mono ?_); rintro e w34 ⟨rfl, hb⟩; refine ⟨_, rfl, ?_⟩; have n0_ := Aside0.mk (below_step (by repeat (first | (with_reducible first | exact HB.out | apply below_alloc | apply pw_below_drewN | apply below_drew1) | exact HB.out)) hb); clear HB; have HB := n0_; clear n0_; (try clear hb); (try clear hb2); (try clear hk); (try clear hi)) | ((with_reducible refine gate_callee (f := 21) rfl ?_); refine goesL_ (some 86) rfl rfl Try.func21 (by kernel_rfl) rfl #[.int .i64 (wrap64 (a0)), .int .i64 (wrap64 ((Int.tmod (wrap64 (a2)) 4000) + 1))] rfl (by (try simp only [List.map_toArray, List.map_cons, List.map_nil]); first | done | rfl | (simp only [List.length_drop, List.length_take]; rfl)) ?_; (with_reducible refine (prime_Kronecker.calls kj7 (wrap64 (a0)) (wrap64 ((Int.tmod (wrap64 (a2)) 4000) + 1)) t200 t201 _ A17.out).mono ?_); rintro e w35 ⟨rfl, hb⟩; refine ⟨_, rfl, ?_⟩; have n0_ := Aside0.mk (below_step (by repeat (first | (with_reducible first | exact HB.out | apply below_alloc | apply pw_below_drewN | apply below_drew1) | exact HB.out)) hb); clear HB; have HB := n0_; clear n0_; (try clear hb); (try clear hb2); (try clear hk); (try clear hi)) | ((with_reducible refine gate_callee (f := 21) rfl ?_); refine goesL_ (some 96) rfl rfl Try.func21 (by kernel_rfl) rfl #[.int .i64 (wrap64 (a0)), .int .i64 (wrap64 ((Int.tmod (wrap64 (a3)) 4000) + 1))] rfl (by (try simp only [List.map_toArray, List.map_cons, List.map_nil]); first | done | rfl | (simp only [List.length_drop, List.length_take]; rfl)) ?_; (with_reducible refine (prime_Kronecker.calls kj7 (wrap64 (a0)) (wrap64 ((Int.tmod (wrap64 (a3)) 4000) + 1)) t202 t203 _ A18.out).mono ?_); rintro e w36 ⟨rfl, hb⟩; refine ⟨_, rfl, ?_⟩; have n0_ := Aside0.mk (below_step (by repeat (first | (with_reducible first | exact HB.out | apply below_alloc | apply pw_below_drewN | apply below_drew1) | exact HB.out)) hb); clear HB; have HB := n0_; clear n0_; (try clear hb); (try clear hb2); (try clear hk); (try clear hi)))
            go_ret
            exact ⟨by first | rfl | (simp [errW_none, errW_some] <;> rfl) | (simp [*, errW_none, errW_some] <;> rfl), by repeat (first | (with_reducible first | exact HB.out | apply below_alloc | apply pw_below_drewN | apply below_drew1) | exact HB.out)⟩
        · rw [if_neg c19] at H
          have c19b0 : (t199 == 0) = false := beq_eq_false_iff_ne.mpr c19
          have c19b1 : (t199 != 0) = true := bne_iff_ne.mpr c19
          obtain rfl := Option.some.inj H
          go_wp2_with (first | ((with_reducible refine gate_callee (f := 21) rfl ?_); refine goesL_ (some 76) rfl rfl Try.func21 (by kernel_rfl) rfl #[.int .i64 (wrap64 (a0)), .int .i64 (wrap64 ((wrap64 ((Int.tmod (wrap64 (a2)) 4000) + 1)) * (wrap64 ((Int.tmod (wrap64 (a3)) 4000) + 1))))] rfl (by (try simp only [List.map_toArray, List.map_cons, List.map_nil]); first | done | rfl | (simp only [List.length_drop, List.length_take]; rfl)) ?_; (with_reducible refine (prime_Kronecker.calls kj7 (wrap64 (a0)) (wrap64 ((wrap64 ((Int.tmod (wrap64 (a2)) 4000) + 1)) * (wrap64 ((Int.tmod (wrap64 (a3)) 4000) + 1)))) t198 t199 _ A16.out).mono ?_); rintro e w37 ⟨rfl, hb⟩; refine ⟨_, rfl, ?_⟩; have n0_ := Aside0.mk (below_step (by repeat (first | (with_reducible first | exact HB.out | apply below_alloc | apply pw_below_drewN | apply below_drew1) | exact HB.out)) hb); clear HB; have HB := n0_; clear n0_; (try clear hb); (try clear hb2); (try clear hk); (try clear hi)) | ((with_reducible refine gate_callee (f := 21) rfl ?_); refine goesL_ (some 86) rfl rfl Try.func21 (by kernel_rfl) rfl #[.int .i64 (wrap64 (a0)), .int .i64 (wrap64 ((Int.tmod (wrap64 (a2)) 4000) + 1))] rfl (by (try simp only [List.map_toArray, List.map_cons, List.map_nil]); first | done | rfl | (simp only [List.length_drop, List.length_take]; rfl)) ?_; (with_reducible refine (prime_Kronecker.calls kj7 (wrap64 (a0)) (wrap64 ((Int.tmod (wrap64 (a2)) 4000) + 1)) t200 t201 _ A17.out).mono ?_); rintro e w38 ⟨rfl, hb⟩; refine ⟨_, rfl, ?_⟩; have n0_ := Aside0.mk (below_step (by repeat (first | (with_reducible first | exact HB.out | apply below_alloc | apply pw_below_drewN | apply below_drew1) | exact HB.out)) hb); clear HB; have HB := n0_; clear n0_; (try clear hb); (try clear hb2); (try clear hk); (try clear hi)) | ((with_reducible refine gate_callee (f := 21) rfl ?_); refine goesL_ (some 96) rfl rfl Try.func21 (by kernel_rfl) rfl #[.int .i64 (wrap64 (a0)), .int .i64 (wrap64 ((Int.tmod (wrap64 (a3)) 4000) + 1))] rfl (by (try simp only [List.map_toArray, List.map_cons, List.map_nil]); first | done | rfl | (simp only [List.length_drop, List.length_take]; rfl)) ?_; (with_reducible refine (prime_Kronecker.calls kj7 (wrap64 (a0)) (wrap64 ((Int.tmod (wrap64 (a3)) 4000) + 1)) t202 t203 _ A18.out).mono ?_); rintro e w39 ⟨rfl, hb⟩; refine ⟨_, rfl, ?_⟩; have n0_ := Aside0.mk (below_step (by repeat (first | (with_reducible first | exact HB.out | apply below_alloc | apply pw_below_drewN | apply below_drew1) | exact HB.out)) hb); clear HB; have HB := n0_; clear n0_; (try clear hb); (try clear hb2); (try clear hk); (try clear hi)))
          go_ret
          exact ⟨by first | rfl | (simp [errW_none, errW_some] <;> rfl) | (simp [*, errW_none, errW_some] <;> rfl), by repeat (first | (with_reducible first | exact HB.out | apply below_alloc | apply pw_below_drewN | apply below_drew1) | exact HB.out)⟩

/-- THE ONE PURE STATEMENT of quadformlaw22_PrimeMultiplies: yours. -/
def quadformlaw22_PrimeMultiplies.Pure : Prop := ∀ (a0 : Int) (a1 : Int) (a2 : Int) (a3 : Int), (Lit.int .i16 a0).wf = true → (Lit.int .i16 a1).wf = true → (Lit.int .u16 a2).wf = true → (Lit.int .u16 a3).wf = true → ∃ k, quadformlaw22_PrimeMultiplies.f k a0 a1 a2 a3 = some true
theorem quadformlaw22_PrimeMultiplies.walk (P : quadformlaw22_PrimeMultiplies.Pure) (a0 : Int) (a1 : Int) (a2 : Int) (a3 : Int) (w : World) (w0 : (Lit.int .i16 a0).wf = true) (w1 : (Lit.int .i16 a1).wf = true) (w2 : (Lit.int .u16 a2).wf = true) (w3 : (Lit.int .u16 a3).wf = true) :
    Calls Try.prog 7 #[.int .i16 a0, .int .i16 a1, .int .u16 a2, .int .u16 a3] w fun e w' => e = .returned (.bool true) ∧ Below w.heap.size w w' := by
  obtain ⟨k, h⟩ := P a0 a1 a2 a3 w0 w1 w2 w3
  refine (quadformlaw22_PrimeMultiplies.calls k a0 a1 a2 a3 true w h).mono ?_
  rintro e w' ⟨rfl, hd⟩
  exact ⟨rfl, hd⟩

end Go.Proofs.Ytcjhbjfkcmncpaa.Q
