-- Written by a program of this session out of the translation.
import Derived.Test.YtcjhbjfkcmncpaaQx0
import Derived.Test.YtcjhbjfkcmncpaaQx10
import Derived.Test.YtcjhbjfkcmncpaaQx11
import Derived.Test.YtcjhbjfkcmncpaaQx49
namespace Go.Proofs.Ytcjhbjfkcmncpaa.Q
open Go.RowKit Go.Proofs.YtcjhbjfkcmncpaaW.PrintWords Go.Proofs.YtcjhbjfkcmncpaaW.PrintLast Go.Proofs.YtcjhbjfkcmncpaaW.PrintMore
attribute [local go_sem] max2_int min2_int max_two min_two max_three min_three max_four min_four   -- for this text's walks alone
set_option linter.unusedVariables false
set_option linter.unusedSimpArgs false

/-! ### quadformlaw22_PrimeDiscriminant: function 11 -/
mutual
def quadformlaw22_PrimeDiscriminant.j0 : Nat → Int → Int → Option (Bool)
  | 0, _, _ => none
  | k + 1, x0, x1 => (prime_Discriminant.f k x0).bind fun bt474 => ((quadformref22_Discriminant.f k x0).bind fun bt476 => (if bt474.1 = bt476.1 then (quadformlaw22_PrimeDiscriminant.j1 k x0 x1 bt474.1 (bt474.2 != bt476.2)) else (quadformlaw22_PrimeDiscriminant.j1 k x0 x1 bt474.1 true)))
def quadformlaw22_PrimeDiscriminant.j1 : Nat → Int → Int → Int → Bool → Option (Bool)
  | 0, _, _, _, _ => none
  | k + 1, x0, x1, x7, x34 => if x34 = true then (some false) else (if x0 = 0 then (quadformlaw22_PrimeDiscriminant.j2 k x0 x1 x7 true) else (if x0 < (-30000) then (quadformlaw22_PrimeDiscriminant.j2 k x0 x1 x7 true) else (quadformlaw22_PrimeDiscriminant.j2 k x0 x1 x7 (decide (x0 > 30000)))))
def quadformlaw22_PrimeDiscriminant.j2 : Nat → Int → Int → Int → Bool → Option (Bool)
  | 0, _, _, _, _ => none
  | k + 1, x0, x1, x7, x44 => if x44 = true then ((quadformlaw22_awake.f k).bind fun t478 => (some t478)) else ((prime_Discriminant.f k (wrap64 ((wrap64 (x0 * (wrap64 ((wrap64 (x1)) + 1)))) * (wrap64 ((wrap64 (x1)) + 1))))).bind fun bt479 => (if bt479.2 = 0 then (if bt479.1 = x7 then ((quadformlaw22_awake.f k).bind fun t481 => (some t481)) else (some false)) else (some false)))
end
def quadformlaw22_PrimeDiscriminant.f (k : Nat) (a0 : Int) (a1 : Int) (a2 : Bool) : Option (Bool) := if a2 = true then (quadformlaw22_PrimeDiscriminant.j0 k (Int.tmod a0 5000) a1) else (quadformlaw22_PrimeDiscriminant.j0 k a0 a1)
theorem quadformlaw22_PrimeDiscriminant.mono_l : ∀ k, (∀ y0 y1, LeO (quadformlaw22_PrimeDiscriminant.j0 k y0 y1) (quadformlaw22_PrimeDiscriminant.j0 (k + 1) y0 y1)) ∧ (∀ y0 y1 y2 y3, LeO (quadformlaw22_PrimeDiscriminant.j1 k y0 y1 y2 y3) (quadformlaw22_PrimeDiscriminant.j1 (k + 1) y0 y1 y2 y3)) ∧ (∀ y0 y1 y2 y3, LeO (quadformlaw22_PrimeDiscriminant.j2 k y0 y1 y2 y3) (quadformlaw22_PrimeDiscriminant.j2 (k + 1) y0 y1 y2 y3))
  | 0 => ⟨fun _ _ r h => by simp [quadformlaw22_PrimeDiscriminant.j0] at h, fun _ _ _ _ r h => by simp [quadformlaw22_PrimeDiscriminant.j1] at h, fun _ _ _ _ r h => by simp [quadformlaw22_PrimeDiscriminant.j2] at h⟩
  | k + 1 => by
    obtain ⟨ih0, ih1, ih2⟩ := quadformlaw22_PrimeDiscriminant.mono_l k
    refine ⟨?_, ?_, ?_⟩
    · intro y0 y1
      unfold quadformlaw22_PrimeDiscriminant.j0
      repeat' first
      | (with_reducible exact ih0 _ _)
      | (with_reducible exact ih1 _ _ _ _)
      | (with_reducible exact ih2 _ _ _ _)
      | (with_reducible exact prime_Discriminant.mono _ _)
      | (with_reducible exact quadformlaw22_awake.mono _)
      | (with_reducible exact quadformref22_Discriminant.mono _ _)
      | (with_reducible exact LeO.refl _)
      | (with_reducible exact LeO.none _)
      | (with_reducible refine LeO.ite ?_ ?_)
      | (with_reducible refine LeO.bind ?_ (fun _ => ?_))
      | exact ih0 _ _
      | exact ih1 _ _ _ _
      | exact ih2 _ _ _ _
      | exact prime_Discriminant.mono _ _
      | exact quadformlaw22_awake.mono _
      | exact quadformref22_Discriminant.mono _ _
      | exact LeO.none _
      | refine LeO.ite ?_ ?_
      | refine LeO.bind ?_ (fun _ => ?_)
    · intro y0 y1 y2 y3
      unfold quadformlaw22_PrimeDiscriminant.j1
      repeat' first
      | (with_reducible exact ih0 _ _)
      | (with_reducible exact ih1 _ _ _ _)
      | (with_reducible exact ih2 _ _ _ _)
      | (with_reducible exact prime_Discriminant.mono _ _)
      | (with_reducible exact quadformlaw22_awake.mono _)
      | (with_reducible exact quadformref22_Discriminant.mono _ _)
      | (with_reducible exact LeO.refl _)
      | (with_reducible exact LeO.none _)
      | (with_reducible refine LeO.ite ?_ ?_)
      | (with_reducible refine LeO.bind ?_ (fun _ => ?_))
      | exact ih0 _ _
      | exact ih1 _ _ _ _
      | exact ih2 _ _ _ _
      | exact prime_Discriminant.mono _ _
      | exact quadformlaw22_awake.mono _
      | exact quadformref22_Discriminant.mono _ _
      | exact LeO.none _
      | refine LeO.ite ?_ ?_
      | refine LeO.bind ?_ (fun _ => ?_)
    · intro y0 y1 y2 y3
      unfold quadformlaw22_PrimeDiscriminant.j2
      repeat' first
      | (with_reducible exact ih0 _ _)
      | (with_reducible exact ih1 _ _ _ _)
      | (with_reducible exact ih2 _ _ _ _)
      | (with_reducible exact prime_Discriminant.mono _ _)
      | (with_reducible exact quadformlaw22_awake.mono _)
      | (with_reducible exact quadformref22_Discriminant.mono _ _)
      | (with_reducible exact LeO.refl _)
      | (with_reducible exact LeO.none _)
      | (with_reducible refine LeO.ite ?_ ?_)
      | (with_reducible refine LeO.bind ?_ (fun _ => ?_))
      | exact ih0 _ _
      | exact ih1 _ _ _ _
      | exact ih2 _ _ _ _
      | exact prime_Discriminant.mono _ _
      | exact quadformlaw22_awake.mono _
      | exact quadformref22_Discriminant.mono _ _
      | exact LeO.none _
      | refine LeO.ite ?_ ?_
      | refine LeO.bind ?_ (fun _ => ?_)
theorem quadformlaw22_PrimeDiscriminant.mono : ∀ a0 a1 a2 k, LeO (quadformlaw22_PrimeDiscriminant.f k a0 a1 a2) (quadformlaw22_PrimeDiscriminant.f (k + 1) a0 a1 a2) := by
  intro a0 a1 a2 k
  obtain ⟨ih0, ih1, ih2⟩ := quadformlaw22_PrimeDiscriminant.mono_l k
  unfold quadformlaw22_PrimeDiscriminant.f
  repeat' first
      | (with_reducible exact ih0 _ _)
      | (with_reducible exact ih1 _ _ _ _)
      | (with_reducible exact ih2 _ _ _ _)
      | (with_reducible exact prime_Discriminant.mono _ _)
      | (with_reducible exact quadformlaw22_awake.mono _)
      | (with_reducible exact quadformref22_Discriminant.mono _ _)
      | (with_reducible exact LeO.refl _)
      | (with_reducible exact LeO.none _)
      | (with_reducible refine LeO.ite ?_ ?_)
      | (with_reducible refine LeO.bind ?_ (fun _ => ?_))
      | exact ih0 _ _
      | exact ih1 _ _ _ _
      | exact ih2 _ _ _ _
      | exact prime_Discriminant.mono _ _
      | exact quadformlaw22_awake.mono _
      | exact quadformref22_Discriminant.mono _ _
      | exact LeO.none _
      | refine LeO.ite ?_ ?_
      | refine LeO.bind ?_ (fun _ => ?_)
set_option maxHeartbeats 8000000 in
set_option maxRecDepth 100000 in
theorem quadformlaw22_PrimeDiscriminant.calls (k : Nat) (a0 : Int) (a1 : Int) (a2 : Bool) (r : Bool) (w : World) (h : quadformlaw22_PrimeDiscriminant.f k a0 a1 a2 = some r) :
    Calls Try.prog 11 #[.int .i64 a0, .int .u8 a1, .bool a2] w fun e w' => e = .returned (.bool r) ∧ Below w.heap.size w w' := by
  have HB := Aside0.mk (Below.refl w.heap.size w)
  have H : (if a2 = true then (quadformlaw22_PrimeDiscriminant.j0 k (Int.tmod a0 5000) a1) else (quadformlaw22_PrimeDiscriminant.j0 k a0 a1)) = some r := h
  clear h
  have HC4 := Aside0.mk H
  clear H
  go_enter Try.func11, Try.ntmps11
  go_upto_if 14 with (fail)
  go_cut [0] (fun v0 wc => ∃ (kq : Nat) (x0_3 : Int), v0 = .int .i64 x0_3 ∧ Aside0 (quadformlaw22_PrimeDiscriminant.j0 kq x0_3 a1 = some r) ∧ Aside0 (kq ≤ k) ∧ Aside0 (Below w.heap.size w wc))
  case first =>
    have H := HC4.out
    clear HC4
    by_cases c5 : a2 = true
    · subst c5
      have H1 : (quadformlaw22_PrimeDiscriminant.j0 k (Int.tmod a0 5000) a1) = some r := by rw [if_pos rfl] at H; exact H
      clear H
      have H := H1
      clear H1
      have H' := Aside0.mk H
      clear H
      go_wp2
      go_meet
      case rel => exact ⟨_, (Int.tmod a0 5000), (by first | rfl | (simp; done) | (simp [*]; done)), H', ⟨by first | omega | exact Nat.le_refl _⟩, ⟨by repeat (first | (with_reducible first | exact HB.out | apply below_alloc | apply pw_below_drewN | apply below_drew1) | exact HB.out)⟩⟩
    · replace c5 := Bool.eq_false_iff.mpr c5
      subst c5
      have H1 : (quadformlaw22_PrimeDiscriminant.j0 k a0 a1) = some r := by rw [if_neg (show ¬ (false = true) by decide)] at H; exact H
      clear H
      have H := H1
      clear H1
      have H' := Aside0.mk H
      clear H
      go_wp2
      go_meet
      case rel => exact ⟨_, (a0), (by first | rfl | (simp; done) | (simp [*]; done)), H', ⟨by first | omega | exact Nat.le_refl _⟩, ⟨by repeat (first | (with_reducible first | exact HB.out | apply below_alloc | apply pw_below_drewN | apply below_drew1) | exact HB.out)⟩⟩
  case rest =>
    clear HC4
    try clear c1
    try clear p2
    try clear c5
    obtain ⟨kq, x0_3, rfl, HA, HJ3, HB⟩ := hcut
    cases kq with
    | zero => exact absurd HA.out (by simp [quadformlaw22_PrimeDiscriminant.j0])
    | succ kj3 =>
      have H := HA.out
      clear HA
      simp only [quadformlaw22_PrimeDiscriminant.j0] at H
      replace H := Option.bind_eq_some_iff.mp H
      obtain ⟨⟨t474, t475⟩, A60, H⟩ := H
      replace H : ((quadformref22_Discriminant.f kj3 x0_3).bind fun bt476 => (if t474 = bt476.1 then (quadformlaw22_PrimeDiscriminant.j1 kj3 x0_3 a1 t474 (t475 != bt476.2)) else (quadformlaw22_PrimeDiscriminant.j1 kj3 x0_3 a1 t474 true))) = some r := H
      have A6 := Aside0.mk A60
      clear A60
      replace H := Option.bind_eq_some_iff.mp H
      obtain ⟨⟨t476, t477⟩, A70, H⟩ := H
      replace H : (if t474 = t476 then (quadformlaw22_PrimeDiscriminant.j1 kj3 x0_3 a1 t474 (t475 != t477)) else (quadformlaw22_PrimeDiscriminant.j1 kj3 x0_3 a1 t474 true)) = some r := H
      have A7 := Aside0.mk A70
      clear A70
      have HC8 := Aside0.mk H
      clear H
      go_upto_region 5 with (first | ((with_reducible refine gate_callee (f := 29) rfl ?_); refine goesL_ (some 19) rfl rfl Try.func29 (by kernel_rfl) rfl #[.int .i64 x0_3] rfl (by (try simp only [List.map_toArray, List.map_cons, List.map_nil]); first | done | rfl | (simp only [List.length_drop, List.length_take]; rfl)) ?_; (with_reducible refine (prime_Discriminant.calls kj3 x0_3 t474 t475 _ A6.out).mono ?_); rintro e w9 ⟨rfl, hb⟩; refine ⟨_, rfl, ?_⟩; have n0_ := Aside0.mk (below_step (by repeat (first | (with_reducible first | exact HB.out | apply below_alloc | apply pw_below_drewN | apply below_drew1) | exact HB.out)) hb); clear HB; have HB := n0_; clear n0_; (try clear hb); (try clear hb2); (try clear hk); (try clear hi)) | ((with_reducible refine gate_callee (f := 30) rfl ?_); refine goesL_ (some 24) rfl rfl Try.func30 (by kernel_rfl) rfl #[.int .i64 x0_3] rfl (by (try simp only [List.map_toArray, List.map_cons, List.map_nil]); first | done | rfl | (simp only [List.length_drop, List.length_take]; rfl)) ?_; (with_reducible refine (quadformref22_Discriminant.calls kj3 x0_3 t476 t477 _ A7.out).mono ?_); rintro e w' ⟨rfl, ⟨nd, rfl⟩⟩; refine ⟨_, rfl, ?_⟩))
      (try simp only [Act.put, List.setIfInBounds_toArray, List.set_cons_zero, List.set_cons_succ])
      go_cut [34] (fun v34 wc => ∃ (kq : Nat) (x34_7 : Bool), v34 = .bool x34_7 ∧ Aside0 (quadformlaw22_PrimeDiscriminant.j1 kq x0_3 a1 t474 x34_7 = some r) ∧ Aside0 (kq ≤ kj3) ∧ Aside0 (Below w.heap.size w wc))
      case first =>
        have H := HC8.out
        clear HC8
        by_cases c10 : t474 = t476
        · rw [if_pos c10] at H
          have c10b0 : (t474 == t476) = true := beq_iff_eq.mpr c10
          have c10b1 : (t474 != t476) = false := bne_eq_false_iff_eq.mpr c10
          clear c10
          (first | rw [c10b0] | (simp only [i64_w, i32_w]; rw [c10b0]) | skip)
          have H' := Aside0.mk H
          clear H
          go_wp2
          go_meet
          case rel => exact ⟨_, ((t475 != t477)), (by first | rfl | (simp; done) | (simp [*]; done)), H', ⟨by have := HJ3.out; first | omega | exact Nat.le_refl _⟩, ⟨by repeat (first | (with_reducible first | exact HB.out | apply below_alloc | apply pw_below_drewN | apply below_drew1) | exact HB.out)⟩⟩
        · rw [if_neg c10] at H
          have c10b0 : (t474 == t476) = false := beq_eq_false_iff_ne.mpr c10
          have c10b1 : (t474 != t476) = true := bne_iff_ne.mpr c10
          (first | rw [c10b0] | (simp only [i64_w, i32_w]; rw [c10b0]) | skip)
          have H' := Aside0.mk H
          clear H
          go_wp2
          go_meet
          case rel => exact ⟨_, (true), (by first | rfl | (simp; done) | (simp [*]; done)), H', ⟨by have := HJ3.out; first | omega | exact Nat.le_refl _⟩, ⟨by repeat (first | (with_reducible first | exact HB.out | apply below_alloc | apply pw_below_drewN | apply below_drew1) | exact HB.out)⟩⟩
      case rest =>
        clear HC8
        try clear c1
        try clear c2
        try clear p2
        try clear c3
        try clear c5
        try clear c10
        try clear c10b0
        try clear c10b1
        try clear p2
        obtain ⟨kq, x34_7, rfl, HA, HJ7, HB⟩ := hcut
        cases kq with
        | zero => exact absurd HA.out (by simp [quadformlaw22_PrimeDiscriminant.j1])
        | succ kj7 =>
          have H := HA.out
          clear HA
          simp only [quadformlaw22_PrimeDiscriminant.j1] at H
          by_cases c11 : x34_7 = true
          · subst c11
            have H1 : (some false) = some r := by rw [if_pos rfl] at H; exact H
            clear H
            have H := H1
            clear H1
            obtain rfl := Option.some.inj H
            go_wp2
            go_ret
            exact ⟨by first | rfl | (simp [errW_none, errW_some] <;> rfl) | (simp [*, errW_none, errW_some] <;> rfl), by repeat (first | (with_reducible first | exact HB.out | apply below_alloc | apply pw_below_drewN | apply below_drew1) | exact HB.out)⟩
          · replace c11 := Bool.eq_false_iff.mpr c11
            subst c11
            have H1 : (if x0_3 = 0 then (quadformlaw22_PrimeDiscriminant.j2 kj7 x0_3 a1 t474 true) else (if x0_3 < (-30000) then (quadformlaw22_PrimeDiscriminant.j2 kj7 x0_3 a1 t474 true) else (quadformlaw22_PrimeDiscriminant.j2 kj7 x0_3 a1 t474 (decide (x0_3 > 30000))))) = some r := by rw [if_neg (show ¬ (false = true) by decide)] at H; exact H
            clear H
            have H := H1
            clear H1
            have HC12 := Aside0.mk H
            clear H
            go_upto_region 7 with (fail)
            go_cut [44] (fun v44 wc => ∃ (kq : Nat) (x44_11 : Bool), v44 = .bool x44_11 ∧ Aside0 (quadformlaw22_PrimeDiscriminant.j2 kq x0_3 a1 t474 x44_11 = some r) ∧ Aside0 (kq ≤ kj7) ∧ Aside0 (Below w.heap.size w wc))
            case first =>
              have H := HC12.out
              clear HC12
              by_cases c13 : x0_3 = 0
              · rw [if_pos c13] at H
                have c13b0 : (x0_3 == 0) = true := beq_iff_eq.mpr c13
                have c13b1 : (x0_3 != 0) = false := bne_eq_false_iff_eq.mpr c13
                clear c13
                (first | rw [c13b0] | (simp only [i64_w, i32_w]; rw [c13b0]) | skip)
                have H' := Aside0.mk H
                clear H
                go_wp2
                go_meet
                case rel => exact ⟨_, (true), (by first | rfl | (simp; done) | (simp [*]; done)), H', ⟨by have := HJ3.out; have := HJ7.out; first | omega | exact Nat.le_refl _⟩, ⟨by repeat (first | (with_reducible first | exact HB.out | apply below_alloc | apply pw_below_drewN | apply below_drew1) | exact HB.out)⟩⟩
              · rw [if_neg c13] at H
                have c13b0 : (x0_3 == 0) = false := beq_eq_false_iff_ne.mpr c13
                have c13b1 : (x0_3 != 0) = true := bne_iff_ne.mpr c13
                (first | rw [c13b0] | (simp only [i64_w, i32_w]; rw [c13b0]) | skip)
                by_cases c14 : x0_3 < (-30000)
                · rw [if_pos c14] at H
                  have c14b0 : decide (x0_3 < (-30000)) = true := decide_eq_true c14
                  clear c14
                  have H' := Aside0.mk H
                  clear H
                  go_wp2
                  go_meet
                  case rel => exact ⟨_, (true), (by first | rfl | (simp; done) | (simp [*]; done)), H', ⟨by have := HJ3.out; have := HJ7.out; first | omega | exact Nat.le_refl _⟩, ⟨by repeat (first | (with_reducible first | exact HB.out | apply below_alloc | apply pw_below_drewN | apply below_drew1) | exact HB.out)⟩⟩
                · rw [if_neg c14] at H
                  have c14b0 : decide (x0_3 < (-30000)) = false := decide_eq_false c14
                  clear c14
                  have H' := Aside0.mk H
                  clear H
                  go_wp2
                  go_meet
                  case rel => exact ⟨_, (decide (x0_3 > 30000)), (by first | rfl | (simp; done) | (simp [*]; done)), H', ⟨by have := HJ3.out; have := HJ7.out; first | omega | exact Nat.le_refl _⟩, ⟨by repeat (first | (with_reducible first | exact HB.out | apply below_alloc | apply pw_below_drewN | apply below_drew1) | exact HB.out)⟩⟩
            case rest =>
              clear HC12
              try clear c1
              try clear c2
              try clear p2
              try clear c3
              try clear c5
              try clear c10
              try clear c10b0
              try clear c10b1
              try clear c11
              try clear c13
              try clear c13b0
              try clear c13b1
              try clear c14
              try clear c14b0
              try clear p2
              obtain ⟨kq, x44_11, rfl, HA, HJ11, HB⟩ := hcut
              cases kq with
              | zero => exact absurd HA.out (by simp [quadformlaw22_PrimeDiscriminant.j2])
              | succ kj11 =>
                have H := HA.out
                clear HA
                simp only [quadformlaw22_PrimeDiscriminant.j2] at H
                by_cases c15 : x44_11 = true
                · subst c15
                  have H1 : ((quadformlaw22_awake.f kj11).bind fun t478 => (some t478)) = some r := by rw [if_pos rfl] at H; exact H
                  clear H
                  have H := H1
                  clear H1
                  replace H := Option.bind_eq_some_iff.mp H
                  obtain ⟨t478, A160, H⟩ := H
                  replace H : (some t478) = some r := H
                  have A16 := Aside0.mk A160
                  clear A160
                  obtain rfl := Option.some.inj H
                  go_wp2_with (first | ((with_reducible refine gate_callee (f := 17) rfl ?_); refine goesL_ (some 45) rfl rfl Try.func17 (by kernel_rfl) rfl #[] rfl (by (try simp only [List.map_toArray, List.map_cons, List.map_nil]); first | done | rfl | (simp only [List.length_drop, List.length_take]; rfl)) ?_; (with_reducible refine (quadformlaw22_awake.calls kj11  t478 _ A16.out).mono ?_); rintro e w17 ⟨rfl, hb⟩; refine ⟨_, rfl, ?_⟩; have n0_ := Aside0.mk (below_step (by repeat (first | (with_reducible first | exact HB.out | apply below_alloc | apply pw_below_drewN | apply below_drew1) | exact HB.out)) hb); clear HB; have HB := n0_; clear n0_; (try clear hb); (try clear hb2); (try clear hk); (try clear hi)))
                  go_ret
                  exact ⟨by first | rfl | (simp [errW_none, errW_some] <;> rfl) | (simp [*, errW_none, errW_some] <;> rfl), by repeat (first | (with_reducible first | exact HB.out | apply below_alloc | apply pw_below_drewN | apply below_drew1) | exact HB.out)⟩
                · replace c15 := Bool.eq_false_iff.mpr c15
                  subst c15
                  have H1 : ((prime_Discriminant.f kj11 (wrap64 ((wrap64 (x0_3 * (wrap64 ((wrap64 (a1)) + 1)))) * (wrap64 ((wrap64 (a1)) + 1))))).bind fun bt479 => (if bt479.2 = 0 then (if bt479.1 = t474 then ((quadformlaw22_awake.f kj11).bind fun t481 => (some t481)) else (some false)) else (some false))) = some r := by rw [if_neg (show ¬ (false = true) by decide)] at H; exact H
                  clear H
                  have H := H1
                  clear H1
                  replace H := Option.bind_eq_some_iff.mp H
                  obtain ⟨⟨t479, t480⟩, A180, H⟩ := H
                  replace H : (if t480 = 0 then (if t479 = t474 then ((quadformlaw22_awake.f kj11).bind fun t481 => (some t481)) else (some false)) else (some false)) = some r := H
                  have A18 := Aside0.mk A180
                  clear A180
                  by_cases c19 : t480 = 0
                  · rw [if_pos c19] at H
                    have c19b0 : (t480 == 0) = true := beq_iff_eq.mpr c19
                    have c19b1 : (t480 != 0) = false := bne_eq_false_iff_eq.mpr c19
                    clear c19
                    by_cases c20 : t479 = t474
                    · rw [if_pos c20] at H
                      have c20b0 : (t479 == t474) = true := beq_iff_eq.mpr c20
                      have c20b1 : (t479 != t474) = false := bne_eq_false_iff_eq.mpr c20
                      clear c20
                      replace H := Option.bind_eq_some_iff.mp H
                      obtain ⟨t481, A210, H⟩ := H
                      replace H : (some t481) = some r := H
                      have A21 := Aside0.mk A210
                      clear A210
                      obtain rfl := Option.some.inj H
                      go_wp2_with (first | ((with_reducible refine gate_callee (f := 29) rfl ?_); refine goesL_ (some 55) rfl rfl Try.func29 (by kernel_rfl) rfl #[.int .i64 (wrap64 ((wrap64 (x0_3 * (wrap64 ((wrap64 (a1)) + 1)))) * (wrap64 ((wrap64 (a1)) + 1))))] rfl (by (try simp only [List.map_toArray, List.map_cons, List.map_nil]); first | done | rfl | (simp only [List.length_drop, List.length_take]; rfl)) ?_; (with_reducible refine (prime_Discriminant.calls kj11 (wrap64 ((wrap64 (x0_3 * (wrap64 ((wrap64 (a1)) + 1)))) * (wrap64 ((wrap64 (a1)) + 1)))) t479 t480 _ A18.out).mono ?_); rintro e w22 ⟨rfl, hb⟩; refine ⟨_, rfl, ?_⟩; have n0_ := Aside0.mk (below_step (by repeat (first | (with_reducible first | exact HB.out | apply below_alloc | apply pw_below_drewN | apply below_drew1) | exact HB.out)) hb); clear HB; have HB := n0_; clear n0_; (try clear hb); (try clear hb2); (try clear hk); (try clear hi)) | (go_at_call 17; (with_reducible refine (quadformlaw22_awake.calls kj11  t481 _ A21.out).mono ?_); rintro e w23 ⟨rfl, hb⟩; have n0_ := Aside0.mk (below_step (by repeat (first | (with_reducible first | exact HB.out | apply below_alloc | apply pw_below_drewN | apply below_drew1) | exact HB.out)) hb); clear HB; have HB := n0_; clear n0_; (try clear hb); (try clear hb2); (try clear hk); (try clear hi)))
                      go_ret
                      exact ⟨by first | rfl | (simp [errW_none, errW_some] <;> rfl) | (simp [*, errW_none, errW_some] <;> rfl), by repeat (first | (with_reducible first | exact HB.out | apply below_alloc | apply pw_below_drewN | apply below_drew1) | exact HB.out)⟩
                    · rw [if_neg c20] at H
                      have c20b0 : (t479 == t474) = false := beq_eq_false_iff_ne.mpr c20
                      have c20b1 : (t479 != t474) = true := bne_iff_ne.mpr c20
                      obtain rfl := Option.some.inj H
                      go_wp2_with (first | ((with_reducible refine gate_callee (f := 29) rfl ?_); refine goesL_ (some 55) rfl rfl Try.func29 (by kernel_rfl) rfl #[.int .i64 (wrap64 ((wrap64 (x0_3 * (wrap64 ((wrap64 (a1)) + 1)))) * (wrap64 ((wrap64 (a1)) + 1))))] rfl (by (try simp only [List.map_toArray, List.map_cons, List.map_nil]); first | done | rfl | (simp only [List.length_drop, List.length_take]; rfl)) ?_; (with_reducible refine (prime_Discriminant.calls kj11 (wrap64 ((wrap64 (x0_3 * (wrap64 ((wrap64 (a1)) + 1)))) * (wrap64 ((wrap64 (a1)) + 1)))) t479 t480 _ A18.out).mono ?_); rintro e w24 ⟨rfl, hb⟩; refine ⟨_, rfl, ?_⟩; have n0_ := Aside0.mk (below_step (by repeat (first | (with_reducible first | exact HB.out | apply below_alloc | apply pw_below_drewN | apply below_drew1) | exact HB.out)) hb); clear HB; have HB := n0_; clear n0_; (try clear hb); (try clear hb2); (try clear hk); (try clear hi)))
                      go_ret
                      exact ⟨by first | rfl | (simp [errW_none, errW_some] <;> rfl) | (simp [*, errW_none, errW_some] <;> rfl), by repeat (first | (with_reducible first | exact HB.out | apply below_alloc | apply pw_below_drewN | apply below_drew1) | exact HB.out)⟩
                  · rw [if_neg c19] at H
                    have c19b0 : (t480 == 0) = false := beq_eq_false_iff_ne.mpr c19
                    have c19b1 : (t480 != 0) = true := bne_iff_ne.mpr c19
                    obtain rfl := Option.some.inj H
                    go_wp2_with (first | ((with_reducible refine gate_callee (f := 29) rfl ?_); refine goesL_ (some 55) rfl rfl Try.func29 (by kernel_rfl) rfl #[.int .i64 (wrap64 ((wrap64 (x0_3 * (wrap64 ((wrap64 (a1)) + 1)))) * (wrap64 ((wrap64 (a1)) + 1))))] rfl (by (try simp only [List.map_toArray, List.map_cons, List.map_nil]); first | done | rfl | (simp only [List.length_drop, List.length_take]; rfl)) ?_; (with_reducible refine (prime_Discriminant.calls kj11 (wrap64 ((wrap64 (x0_3 * (wrap64 ((wrap64 (a1)) + 1)))) * (wrap64 ((wrap64 (a1)) + 1)))) t479 t480 _ A18.out).mono ?_); rintro e w25 ⟨rfl, hb⟩; refine ⟨_, rfl, ?_⟩; have n0_ := Aside0.mk (below_step (by repeat (first | (with_reducible first | exact HB.out | apply below_alloc | apply pw_below_drewN | apply below_drew1) | exact HB.out)) hb); clear HB; have HB := n0_; clear n0_; (try clear hb); (try clear hb2); (try clear hk); (try clear hi)))
                    go_ret
                    exact ⟨by first | rfl | (simp [errW_none, errW_some] <;> rfl) | (simp [*, errW_none, errW_some] <;> rfl), by repeat (first | (with_reducible first | exact HB.out | apply below_alloc | apply pw_below_drewN | apply below_drew1) | exact HB.out)⟩

/-- THE ONE PURE STATEMENT of quadformlaw22_PrimeDiscriminant: yours. -/
def quadformlaw22_PrimeDiscriminant.Pure : Prop := ∀ (a0 : Int) (a1 : Int) (a2 : Bool), (Lit.int .i64 a0).wf = true → (Lit.int .u8 a1).wf = true → ∃ k, quadformlaw22_PrimeDiscriminant.f k a0 a1 a2 = some true
theorem quadformlaw22_PrimeDiscriminant.walk (P : quadformlaw22_PrimeDiscriminant.Pure) (a0 : Int) (a1 : Int) (a2 : Bool) (w : World) (w0 : (Lit.int .i64 a0).wf = true) (w1 : (Lit.int .u8 a1).wf = true) :
    Calls Try.prog 11 #[.int .i64 a0, .int .u8 a1, .bool a2] w fun e w' => e = .returned (.bool true) ∧ Below w.heap.size w w' := by
  obtain ⟨k, h⟩ := P a0 a1 a2 w0 w1
  refine (quadformlaw22_PrimeDiscriminant.calls k a0 a1 a2 true w h).mono ?_
  rintro e w' ⟨rfl, hd⟩
  exact ⟨rfl, hd⟩

end Go.Proofs.Ytcjhbjfkcmncpaa.Q
