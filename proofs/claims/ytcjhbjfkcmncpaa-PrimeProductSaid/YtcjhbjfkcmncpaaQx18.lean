-- Written by a program of this session out of the translation.
import Derived.Test.YtcjhbjfkcmncpaaQx0
import Derived.Test.YtcjhbjfkcmncpaaQx17
namespace Go.Proofs.Ytcjhbjfkcmncpaa.Q
open Go.RowKit Go.Proofs.YtcjhbjfkcmncpaaW.PrintWords Go.Proofs.YtcjhbjfkcmncpaaW.PrintLast Go.Proofs.YtcjhbjfkcmncpaaW.PrintMore
attribute [local go_sem] max2_int min2_int max_two min_two max_three min_three max_four min_four   -- for this text's walks alone
set_option linter.unusedVariables false
set_option linter.unusedSimpArgs false

/-! ### quadformref22_two: function 54 -/
def quadformref22_two.j0 : Nat → Int → Bool → Option (Int)
  | 0, _, _ => none
  | k + 1, x4, x5 => if x5 = true then (some 1) else (if x4 = 3 then (some (-1)) else (if x4 = 5 then (some (-1)) else (some 0)))
def quadformref22_two.f (k : Nat) (a0 : Int) : Option (Int) := (quadformref22_Mod.f a0 8).bind fun t170 => (if t170 = 1 then (quadformref22_two.j0 k t170 (t170 == 1)) else (quadformref22_two.j0 k t170 (t170 == 7)))
theorem quadformref22_two.mono_l : ∀ k, (∀ y0 y1, LeO (quadformref22_two.j0 k y0 y1) (quadformref22_two.j0 (k + 1) y0 y1))
  | 0 => fun _ _ r h => by simp [quadformref22_two.j0] at h
  | k + 1 => by
    have ih0 := quadformref22_two.mono_l k
    · intro y0 y1
      unfold quadformref22_two.j0
      repeat' first
      | (with_reducible exact ih0 _ _)
      | (with_reducible exact LeO.refl _)
      | (with_reducible exact LeO.none _)
      | (with_reducible refine LeO.ite ?_ ?_)
      | (with_reducible refine LeO.bind ?_ (fun _ => ?_))
      | exact ih0 _ _
      | exact LeO.none _
      | refine LeO.ite ?_ ?_
      | refine LeO.bind ?_ (fun _ => ?_)
theorem quadformref22_two.mono : ∀ a0 k, LeO (quadformref22_two.f k a0) (quadformref22_two.f (k + 1) a0) := by
  intro a0 k
  have ih0 := quadformref22_two.mono_l k
  unfold quadformref22_two.f
  repeat' first
      | (with_reducible exact ih0 _ _)
      | (with_reducible exact LeO.refl _)
      | (with_reducible exact LeO.none _)
      | (with_reducible refine LeO.ite ?_ ?_)
      | (with_reducible refine LeO.bind ?_ (fun _ => ?_))
      | exact ih0 _ _
      | exact LeO.none _
      | refine LeO.ite ?_ ?_
      | refine LeO.bind ?_ (fun _ => ?_)
set_option maxHeartbeats 8000000 in
set_option maxRecDepth 100000 in
theorem quadformref22_two.calls (k : Nat) (a0 : Int) (r : Int) (w : World) (h : quadformref22_two.f k a0 = some r) :
    Calls Try.prog 54 #[.int .i64 a0] w fun e w' => e = .returned (.int .i64 r) ∧ Drawn0 w w' := by
  have H : ((quadformref22_Mod.f a0 8).bind fun t170 => (if t170 = 1 then (quadformref22_two.j0 k t170 (t170 == 1)) else (quadformref22_two.j0 k t170 (t170 == 7)))) = some r := h
  clear h
  replace H := Option.bind_eq_some_iff.mp H
  obtain ⟨t170, A20, H⟩ := H
  replace H : (if t170 = 1 then (quadformref22_two.j0 k t170 (t170 == 1)) else (quadformref22_two.j0 k t170 (t170 == 7))) = some r := H
  have A2 := Aside0.mk A20
  clear A20
  have HC3 := Aside0.mk H
  clear H
  go_enter Try.func54, Try.ntmps54
  go_upto_if 5 with (first | ((with_reducible refine gate_callee (f := 46) rfl ?_); refine goesL_ (some 4) rfl rfl Try.func46 (by kernel_rfl) rfl #[.int .i64 a0, .int .i64 8] rfl (by (try simp only [List.map_toArray, List.map_cons, List.map_nil]); first | done | rfl | (simp only [List.length_drop, List.length_take]; rfl)) ?_; (with_reducible refine (quadformref22_Mod.calls a0 8 t170 _ A2.out).mono ?_); rintro e w' ⟨rfl, ⟨nd, rfl⟩⟩; refine ⟨_, rfl, ?_⟩))
  (try simp only [Act.put, List.setIfInBounds_toArray, List.set_cons_zero, List.set_cons_succ])
  go_cut [5] (fun v5 wc => ∃ (kq : Nat) (x5_2 : Bool), v5 = .bool x5_2 ∧ Aside0 (quadformref22_two.j0 kq t170 x5_2 = some r) ∧ Aside0 (kq ≤ k) ∧ Drawn0 w wc)
  case first =>
    have H := HC3.out
    clear HC3
    by_cases c4 : t170 = 1
    · rw [if_pos c4] at H
      have c4b0 : (t170 == 1) = true := beq_iff_eq.mpr c4
      have c4b1 : (t170 != 1) = false := bne_eq_false_iff_eq.mpr c4
      clear c4
      (first | rw [c4b0] | (simp only [i64_w, i32_w]; rw [c4b0]) | skip)
      have H' := Aside0.mk H
      clear H
      go_wp2
      go_meet
      case rel => exact ⟨_, ((t170 == 1)), (by first | rfl | (simp; done) | (simp [*]; done)), H', ⟨by first | omega | exact Nat.le_refl _⟩, by repeat (first | exact Drawn0.refl _ | apply Drawn0.step)⟩
    · rw [if_neg c4] at H
      have c4b0 : (t170 == 1) = false := beq_eq_false_iff_ne.mpr c4
      have c4b1 : (t170 != 1) = true := bne_iff_ne.mpr c4
      (first | rw [c4b0] | (simp only [i64_w, i32_w]; rw [c4b0]) | skip)
      have H' := Aside0.mk H
      clear H
      go_wp2
      go_meet
      case rel => exact ⟨_, ((t170 == 7)), (by first | rfl | (simp; done) | (simp [*]; done)), H', ⟨by first | omega | exact Nat.le_refl _⟩, by repeat (first | exact Drawn0.refl _ | apply Drawn0.step)⟩
  case rest =>
    clear HC3
    try clear p2
    try clear c4
    try clear c4b0
    try clear c4b1
    obtain ⟨kq, x5_2, rfl, HA, HJ2, ⟨mc2, rfl⟩⟩ := hcut
    cases kq with
    | zero => exact absurd HA.out (by simp [quadformref22_two.j0])
    | succ kj2 =>
      have H := HA.out
      clear HA
      simp only [quadformref22_two.j0] at H
      by_cases c5 : x5_2 = true
      · subst c5
        have H1 : (some 1) = some r := by rw [if_pos rfl] at H; exact H
        clear H
        have H := H1
        clear H1
        obtain rfl := Option.some.inj H
        go_wp2
        go_ret
        exact ⟨by first | rfl | (simp; done) | (simp [*]; done), by repeat (first | exact Drawn0.refl _ | apply Drawn0.step)⟩
      · replace c5 := Bool.eq_false_iff.mpr c5
        subst c5
        have H1 : (if t170 = 3 then (some (-1)) else (if t170 = 5 then (some (-1)) else (some 0))) = some r := by rw [if_neg (show ¬ (false = true) by decide)] at H; exact H
        clear H
        have H := H1
        clear H1
        by_cases c6 : t170 = 3
        · rw [if_pos c6] at H
          have c6b0 : (t170 == 3) = true := beq_iff_eq.mpr c6
          have c6b1 : (t170 != 3) = false := bne_eq_false_iff_eq.mpr c6
          clear c6
          obtain rfl := Option.some.inj H
          go_wp2
          go_ret
          exact ⟨by first | rfl | (simp; done) | (simp [*]; done), by repeat (first | exact Drawn0.refl _ | apply Drawn0.step)⟩
        · rw [if_neg c6] at H
          have c6b0 : (t170 == 3) = false := beq_eq_false_iff_ne.mpr c6
          have c6b1 : (t170 != 3) = true := bne_iff_ne.mpr c6
          by_cases c7 : t170 = 5
          · rw [if_pos c7] at H
            have c7b0 : (t170 == 5) = true := beq_iff_eq.mpr c7
            have c7b1 : (t170 != 5) = false := bne_eq_false_iff_eq.mpr c7
            clear c7
            obtain rfl := Option.some.inj H
            go_wp2
            go_ret
            exact ⟨by first | rfl | (simp; done) | (simp [*]; done), by repeat (first | exact Drawn0.refl _ | apply Drawn0.step)⟩
          · rw [if_neg c7] at H
            have c7b0 : (t170 == 5) = false := beq_eq_false_iff_ne.mpr c7
            have c7b1 : (t170 != 5) = true := bne_iff_ne.mpr c7
            obtain rfl := Option.some.inj H
            go_wp2
            go_ret
            exact ⟨by first | rfl | (simp; done) | (simp [*]; done), by repeat (first | exact Drawn0.refl _ | apply Drawn0.step)⟩

end Go.Proofs.Ytcjhbjfkcmncpaa.Q
