-- Written by a program of this session out of the translation.
import Derived.Test.YtcjhbjfkcmncpaaQx0
namespace Go.Proofs.Ytcjhbjfkcmncpaa.Q
open Go.RowKit Go.Proofs.YtcjhbjfkcmncpaaW.PrintWords Go.Proofs.YtcjhbjfkcmncpaaW.PrintLast Go.Proofs.YtcjhbjfkcmncpaaW.PrintMore
attribute [local go_sem] max2_int min2_int max_two min_two max_three min_three max_four min_four   -- for this text's walks alone
set_option linter.unusedVariables false
set_option linter.unusedSimpArgs false

/-! ### quadformref22_Squarefree: function 28 -/
mutual
def quadformref22_Squarefree.j0 : Nat → Int → Bool → Option (Int × Int × Int)
  | 0, _, _ => none
  | k + 1, x0, x16 => if x16 = true then (some (0, 0, 1)) else (quadformref22_Squarefree.l0 k x0 1 2)
def quadformref22_Squarefree.l0 : Nat → Int → Int → Int → Option (Int × Int × Int)
  | 0, _, _, _ => none
  | k + 1, x0, x5, x6 => if (wrap64 (x6 * x6)) ≤ x0 then (quadformref22_Squarefree.j2 k x0 x5 x6 true) else (quadformref22_Squarefree.j2 k x0 x5 x6 (decide ((wrap64 (x6 * x6)) ≤ (wrap64 (-x0)))))
def quadformref22_Squarefree.j2 : Nat → Int → Int → Int → Bool → Option (Int × Int × Int)
  | 0, _, _, _, _ => none
  | k + 1, x0, x5, x6, x29 => if x29 = true then (quadformref22_Squarefree.l1 k x0 x5 x6) else (some (x0, x5, 0))
def quadformref22_Squarefree.l1 : Nat → Int → Int → Int → Option (Int × Int × Int)
  | 0, _, _, _ => none
  | k + 1, x0, x5, x6 => if (wrap64 (x6 * x6)) = 0 then (none) else (if (Int.tmod x0 (wrap64 (x6 * x6))) = 0 then (quadformref22_Squarefree.l1 k (wrap64 (Int.tdiv x0 (wrap64 (x6 * x6)))) (wrap64 (x5 * x6)) x6) else (quadformref22_Squarefree.l0 k x0 x5 (wrap64 (x6 + 1))))
end
def quadformref22_Squarefree.f (k : Nat) (a0 : Int) : Option (Int × Int × Int) := if a0 = 0 then (quadformref22_Squarefree.j0 k a0 true) else (if a0 < (-2147483647) then (quadformref22_Squarefree.j0 k a0 true) else (quadformref22_Squarefree.j0 k a0 (decide (a0 > 2147483647))))
theorem quadformref22_Squarefree.mono_l : ∀ k, (∀ y0 y1, LeO (quadformref22_Squarefree.j0 k y0 y1) (quadformref22_Squarefree.j0 (k + 1) y0 y1)) ∧ (∀ y0 y1 y2, LeO (quadformref22_Squarefree.l0 k y0 y1 y2) (quadformref22_Squarefree.l0 (k + 1) y0 y1 y2)) ∧ (∀ y0 y1 y2 y3, LeO (quadformref22_Squarefree.j2 k y0 y1 y2 y3) (quadformref22_Squarefree.j2 (k + 1) y0 y1 y2 y3)) ∧ (∀ y0 y1 y2, LeO (quadformref22_Squarefree.l1 k y0 y1 y2) (quadformref22_Squarefree.l1 (k + 1) y0 y1 y2))
  | 0 => ⟨fun _ _ r h => by simp [quadformref22_Squarefree.j0] at h, fun _ _ _ r h => by simp [quadformref22_Squarefree.l0] at h, fun _ _ _ _ r h => by simp [quadformref22_Squarefree.j2] at h, fun _ _ _ r h => by simp [quadformref22_Squarefree.l1] at h⟩
  | k + 1 => by
    obtain ⟨ih0, ih1, ih2, ih3⟩ := quadformref22_Squarefree.mono_l k
    refine ⟨?_, ?_, ?_, ?_⟩
    · intro y0 y1
      unfold quadformref22_Squarefree.j0
      repeat' first
      | (with_reducible exact ih0 _ _)
      | (with_reducible exact ih1 _ _ _)
      | (with_reducible exact ih2 _ _ _ _)
      | (with_reducible exact ih3 _ _ _)
      | (with_reducible exact LeO.refl _)
      | (with_reducible exact LeO.none _)
      | (with_reducible refine LeO.ite ?_ ?_)
      | (with_reducible refine LeO.bind ?_ (fun _ => ?_))
      | exact ih0 _ _
      | exact ih1 _ _ _
      | exact ih2 _ _ _ _
      | exact ih3 _ _ _
      | exact LeO.none _
      | refine LeO.ite ?_ ?_
      | refine LeO.bind ?_ (fun _ => ?_)
    · intro y0 y1 y2
      unfold quadformref22_Squarefree.l0
      repeat' first
      | (with_reducible exact ih0 _ _)
      | (with_reducible exact ih1 _ _ _)
      | (with_reducible exact ih2 _ _ _ _)
      | (with_reducible exact ih3 _ _ _)
      | (with_reducible exact LeO.refl _)
      | (with_reducible exact LeO.none _)
      | (with_reducible refine LeO.ite ?_ ?_)
      | (with_reducible refine LeO.bind ?_ (fun _ => ?_))
      | exact ih0 _ _
      | exact ih1 _ _ _
      | exact ih2 _ _ _ _
      | exact ih3 _ _ _
      | exact LeO.none _
      | refine LeO.ite ?_ ?_
      | refine LeO.bind ?_ (fun _ => ?_)
    · intro y0 y1 y2 y3
      unfold quadformref22_Squarefree.j2
      repeat' first
      | (with_reducible exact ih0 _ _)
      | (with_reducible exact ih1 _ _ _)
      | (with_reducible exact ih2 _ _ _ _)
      | (with_reducible exact ih3 _ _ _)
      | (with_reducible exact LeO.refl _)
      | (with_reducible exact LeO.none _)
      | (with_reducible refine LeO.ite ?_ ?_)
      | (with_reducible refine LeO.bind ?_ (fun _ => ?_))
      | exact ih0 _ _
      | exact ih1 _ _ _
      | exact ih2 _ _ _ _
      | exact ih3 _ _ _
      | exact LeO.none _
      | refine LeO.ite ?_ ?_
      | refine LeO.bind ?_ (fun _ => ?_)
    · intro y0 y1 y2
      unfold quadformref22_Squarefree.l1
      repeat' first
      | (with_reducible exact ih0 _ _)
      | (with_reducible exact ih1 _ _ _)
      | (with_reducible exact ih2 _ _ _ _)
      | (with_reducible exact ih3 _ _ _)
      | (with_reducible exact LeO.refl _)
      | (with_reducible exact LeO.none _)
      | (with_reducible refine LeO.ite ?_ ?_)
      | (with_reducible refine LeO.bind ?_ (fun _ => ?_))
      | exact ih0 _ _
      | exact ih1 _ _ _
      | exact ih2 _ _ _ _
      | exact ih3 _ _ _
      | exact LeO.none _
      | refine LeO.ite ?_ ?_
      | refine LeO.bind ?_ (fun _ => ?_)
theorem quadformref22_Squarefree.mono : ∀ a0 k, LeO (quadformref22_Squarefree.f k a0) (quadformref22_Squarefree.f (k + 1) a0) := by
  intro a0 k
  obtain ⟨ih0, ih1, ih2, ih3⟩ := quadformref22_Squarefree.mono_l k
  unfold quadformref22_Squarefree.f
  repeat' first
      | (with_reducible exact ih0 _ _)
      | (with_reducible exact ih1 _ _ _)
      | (with_reducible exact ih2 _ _ _ _)
      | (with_reducible exact ih3 _ _ _)
      | (with_reducible exact LeO.refl _)
      | (with_reducible exact LeO.none _)
      | (with_reducible refine LeO.ite ?_ ?_)
      | (with_reducible refine LeO.bind ?_ (fun _ => ?_))
      | exact ih0 _ _
      | exact ih1 _ _ _
      | exact ih2 _ _ _ _
      | exact ih3 _ _ _
      | exact LeO.none _
      | refine LeO.ite ?_ ?_
      | refine LeO.bind ?_ (fun _ => ?_)
set_option maxHeartbeats 8000000 in
set_option maxRecDepth 100000 in
theorem quadformref22_Squarefree.calls (k : Nat) (a0 : Int) (r1 : Int) (r2 : Int) (r3 : Int) (w : World) (h : quadformref22_Squarefree.f k a0 = some (r1, r2, r3)) :
    Calls Try.prog 28 #[.int .i64 a0] w fun e w' => e = .returned (.tuple #[.int .i64 r1, .int .i64 r2, .int .i64 r3]) ∧ Drawn0 w w' := by
  have H : (if a0 = 0 then (quadformref22_Squarefree.j0 k a0 true) else (if a0 < (-2147483647) then (quadformref22_Squarefree.j0 k a0 true) else (quadformref22_Squarefree.j0 k a0 (decide (a0 > 2147483647))))) = some (r1, r2, r3) := h
  clear h
  have HC2 := Aside0.mk H
  clear H
  go_enter Try.func28, Try.ntmps28
  go_upto_region 1 with (fail)
  go_cut [16] (fun v16 wc => ∃ (kq : Nat) (x16_1 : Bool), v16 = .bool x16_1 ∧ Aside0 (quadformref22_Squarefree.j0 kq a0 x16_1 = some (r1, r2, r3)) ∧ Aside0 (kq ≤ k) ∧ Drawn0 w wc)
  case first =>
    have H := HC2.out
    clear HC2
    by_cases c3 : a0 = 0
    · rw [if_pos c3] at H
      have c3b0 : (a0 == 0) = true := beq_iff_eq.mpr c3
      have c3b1 : (a0 != 0) = false := bne_eq_false_iff_eq.mpr c3
      clear c3
      (first | rw [c3b0] | (simp only [i64_w, i32_w]; rw [c3b0]) | skip)
      have H' := Aside0.mk H
      clear H
      go_wp2
      go_meet
      case rel => exact ⟨_, (true), (by first | rfl | (simp; done) | (simp [*]; done)), H', ⟨by first | omega | exact Nat.le_refl _⟩, by repeat (first | exact Drawn0.refl _ | apply Drawn0.step)⟩
    · rw [if_neg c3] at H
      have c3b0 : (a0 == 0) = false := beq_eq_false_iff_ne.mpr c3
      have c3b1 : (a0 != 0) = true := bne_iff_ne.mpr c3
      (first | rw [c3b0] | (simp only [i64_w, i32_w]; rw [c3b0]) | skip)
      by_cases c4 : a0 < (-2147483647)
      · rw [if_pos c4] at H
        have c4b0 : decide (a0 < (-2147483647)) = true := decide_eq_true c4
        clear c4
        have H' := Aside0.mk H
        clear H
        go_wp2
        go_meet
        case rel => exact ⟨_, (true), (by first | rfl | (simp; done) | (simp [*]; done)), H', ⟨by first | omega | exact Nat.le_refl _⟩, by repeat (first | exact Drawn0.refl _ | apply Drawn0.step)⟩
      · rw [if_neg c4] at H
        have c4b0 : decide (a0 < (-2147483647)) = false := decide_eq_false c4
        clear c4
        have H' := Aside0.mk H
        clear H
        go_wp2
        go_meet
        case rel => exact ⟨_, (decide (a0 > 2147483647)), (by first | rfl | (simp; done) | (simp [*]; done)), H', ⟨by first | omega | exact Nat.le_refl _⟩, by repeat (first | exact Drawn0.refl _ | apply Drawn0.step)⟩
  case rest =>
    clear HC2
    try clear c2
    try clear p2
    try clear c3
    try clear c3b0
    try clear c3b1
    try clear c4
    try clear c4b0
    obtain ⟨kq, x16_1, rfl, HA, HJ1, ⟨mc1, rfl⟩⟩ := hcut
    cases kq with
    | zero => exact absurd HA.out (by simp [quadformref22_Squarefree.j0])
    | succ kj1 =>
      have H := HA.out
      clear HA
      simp only [quadformref22_Squarefree.j0] at H
      by_cases c5 : x16_1 = true
      · subst c5
        have H1 : (some (0, 0, 1)) = some (r1, r2, r3) := by rw [if_pos rfl] at H; exact H
        clear H
        have H := H1
        clear H1
        simp only [Option.some.injEq, Prod.mk.injEq] at H
        obtain ⟨rfl, rfl, rfl⟩ := H
        go_wp2
        go_ret3
        exact ⟨by first | rfl | (simp; done) | (simp [*]; done), by repeat (first | exact Drawn0.refl _ | apply Drawn0.step)⟩
      · replace c5 := Bool.eq_false_iff.mpr c5
        subst c5
        have H1 : (quadformref22_Squarefree.l0 kj1 a0 1 2) = some (r1, r2, r3) := by rw [if_neg (show ¬ (false = true) by decide)] at H; exact H
        clear H
        have H := H1
        clear H1
        have H' := Aside0.mk H
        clear H
        go_wp2
        go_loopg [0, 5, 6] kj1 (fun kq v0 v5 v6 w' => ∃ (x0_2 : Int) (x5_2 : Int) (x6_2 : Int), v0 = .int .i64 x0_2 ∧ v5 = .int .i64 x5_2 ∧ v6 = .int .i64 x6_2 ∧ Aside0 (quadformref22_Squarefree.l0 kq x0_2 x5_2 x6_2 = some (r1, r2, r3)) ∧ Aside0 (kq ≤ kj1) ∧ Drawn0 w w')
        case atStart => exact ⟨(a0), (1), (2), (by first | rfl | (simp; done) | (simp [*]; done)), (by first | rfl | (simp; done) | (simp [*]; done)), (by first | rfl | (simp; done) | (simp [*]; done)), H', ⟨Nat.le_refl _⟩, by repeat (first | exact Drawn0.refl _ | apply Drawn0.step)⟩
        case round =>
          clear H'
          try clear c1
          try clear c2
          try clear p2
          try clear c3
          try clear c3b0
          try clear c3b1
          try clear c4
          try clear c4b0
          try clear c5
          try clear p2
          obtain ⟨x0_2, x5_2, x6_2, rfl, rfl, rfl, HA, HK2, ⟨m2, rfl⟩⟩ := hrel
          cases gk with
          | zero => exact absurd HA.out (by simp [quadformref22_Squarefree.l0])
          | succ k2 =>
            have H := HA.out
            clear HA
            simp only [quadformref22_Squarefree.l0] at H
            have HC6 := Aside0.mk H
            clear H
            go_upto_region 5 with (fail)
            go_cut [29] (fun v29 wc => ∃ (kq : Nat) (x29_5 : Bool), v29 = .bool x29_5 ∧ Aside0 (quadformref22_Squarefree.j2 kq x0_2 x5_2 x6_2 x29_5 = some (r1, r2, r3)) ∧ Aside0 (kq ≤ k2) ∧ Drawn0 w wc)
            case first =>
              have H := HC6.out
              clear HC6
              by_cases c7 : (wrap64 (x6_2 * x6_2)) ≤ x0_2
              · rw [if_pos c7] at H
                have c7b0 : decide ((wrap64 (x6_2 * x6_2)) ≤ x0_2) = true := decide_eq_true c7
                clear c7
                (first | rw [c7b0] | (simp only [i64_w, i32_w]; rw [c7b0]) | skip)
                have H' := Aside0.mk H
                clear H
                go_wp2
                go_meet
                case rel => exact ⟨_, (true), (by first | rfl | (simp; done) | (simp [*]; done)), H', ⟨by have := HJ1.out; have := HK2.out; first | omega | exact Nat.le_refl _⟩, by repeat (first | exact Drawn0.refl _ | apply Drawn0.step)⟩
              · rw [if_neg c7] at H
                have c7b0 : decide ((wrap64 (x6_2 * x6_2)) ≤ x0_2) = false := decide_eq_false c7
                clear c7
                (first | rw [c7b0] | (simp only [i64_w, i32_w]; rw [c7b0]) | skip)
                have H' := Aside0.mk H
                clear H
                go_wp2
                go_meet
                case rel => exact ⟨_, (decide ((wrap64 (x6_2 * x6_2)) ≤ (wrap64 (-x0_2)))), (by first | rfl | (simp; done) | (simp [*]; done)), H', ⟨by have := HJ1.out; have := HK2.out; first | omega | exact Nat.le_refl _⟩, by repeat (first | exact Drawn0.refl _ | apply Drawn0.step)⟩
            case rest =>
              clear HC6
              try clear c1
              try clear c2
              try clear p2
              try clear c3
              try clear c3b0
              try clear c3b1
              try clear c4
              try clear c4b0
              try clear c5
              try clear p6
              try clear c7
              try clear c7b0
              try clear p2
              obtain ⟨kq, x29_5, rfl, HA, HJ5, ⟨mc5, rfl⟩⟩ := hcut
              cases kq with
              | zero => exact absurd HA.out (by simp [quadformref22_Squarefree.j2])
              | succ kj5 =>
                have H := HA.out
                clear HA
                simp only [quadformref22_Squarefree.j2] at H
                by_cases c8 : x29_5 = true
                · subst c8
                  have H1 : (quadformref22_Squarefree.l1 kj5 x0_2 x5_2 x6_2) = some (r1, r2, r3) := by rw [if_pos rfl] at H; exact H
                  clear H
                  have H := H1
                  clear H1
                  have H' := Aside0.mk H
                  clear H
                  go_wp2
                  go_loopg [0, 5] kj5 (fun kq v0 v5 w' => ∃ (x0_4 : Int) (x5_4 : Int), v0 = .int .i64 x0_4 ∧ v5 = .int .i64 x5_4 ∧ Aside0 (quadformref22_Squarefree.l1 kq x0_4 x5_4 x6_2 = some (r1, r2, r3)) ∧ Aside0 (kq ≤ kj5) ∧ Drawn0 w w')
                  case atStart => exact ⟨(x0_2), (x5_2), (by first | rfl | (simp; done) | (simp [*]; done)), (by first | rfl | (simp; done) | (simp [*]; done)), H', ⟨Nat.le_refl _⟩, by repeat (first | exact Drawn0.refl _ | apply Drawn0.step)⟩
                  case round =>
                    clear H'
                    try clear c1
                    try clear c2
                    try clear p2
                    try clear c3
                    try clear c3b0
                    try clear c3b1
                    try clear c4
                    try clear c4b0
                    try clear c5
                    try clear p6
                    try clear c7
                    try clear c7b0
                    try clear c8
                    try clear p2
                    try clear p6
                    obtain ⟨x0_4, x5_4, rfl, rfl, HA, HK4, ⟨m4, rfl⟩⟩ := hrel
                    cases gk with
                    | zero => exact absurd HA.out (by simp [quadformref22_Squarefree.l1])
                    | succ k4 =>
                      have H := HA.out
                      clear HA
                      simp only [quadformref22_Squarefree.l1] at H
                      by_cases c9 : (wrap64 (x6_2 * x6_2)) = 0
                      · rw [if_pos c9] at H
                        exact absurd H (by simp)
                      · rw [if_neg c9] at H
                        have c9b0 : ((wrap64 (x6_2 * x6_2)) == 0) = false := beq_eq_false_iff_ne.mpr c9
                        have c9b1 : ((wrap64 (x6_2 * x6_2)) != 0) = true := bne_iff_ne.mpr c9
                        by_cases c10 : (Int.tmod x0_4 (wrap64 (x6_2 * x6_2))) = 0
                        · rw [if_pos c10] at H
                          have c10b0 : ((Int.tmod x0_4 (wrap64 (x6_2 * x6_2))) == 0) = true := beq_iff_eq.mpr c10
                          have c10b1 : ((Int.tmod x0_4 (wrap64 (x6_2 * x6_2))) != 0) = false := bne_eq_false_iff_eq.mpr c10
                          clear c10
                          have H' := Aside0.mk H
                          clear H
                          go_wp2
                          go_roundg k4
                          case measure => have := HJ1.out; have := HK2.out; have := HJ5.out; have := HK4.out; omega
                          case rel => exact ⟨(wrap64 (Int.tdiv x0_4 (wrap64 (x6_2 * x6_2)))), (wrap64 (x5_4 * x6_2)), (by first | rfl | (simp; done) | (simp [*]; done)), (by first | rfl | (simp; done) | (simp [*]; done)), H', ⟨by have := HJ1.out; have := HK2.out; have := HJ5.out; have := HK4.out; omega⟩, by repeat (first | exact Drawn0.refl _ | apply Drawn0.step)⟩
                        · rw [if_neg c10] at H
                          have c10b0 : ((Int.tmod x0_4 (wrap64 (x6_2 * x6_2))) == 0) = false := beq_eq_false_iff_ne.mpr c10
                          have c10b1 : ((Int.tmod x0_4 (wrap64 (x6_2 * x6_2))) != 0) = true := bne_iff_ne.mpr c10
                          have H' := Aside0.mk H
                          clear H
                          go_wp2
                          go_roundg k4
                          case measure => have := HJ1.out; have := HK2.out; have := HJ5.out; have := HK4.out; omega
                          case rel => exact ⟨(x0_4), (x5_4), (wrap64 (x6_2 + 1)), (by first | rfl | (simp; done) | (simp [*]; done)), (by first | rfl | (simp; done) | (simp [*]; done)), (by first | rfl | (simp; done) | (simp [*]; done)), H', ⟨by have := HJ1.out; have := HK2.out; have := HJ5.out; have := HK4.out; omega⟩, by repeat (first | exact Drawn0.refl _ | apply Drawn0.step)⟩
                · replace c8 := Bool.eq_false_iff.mpr c8
                  subst c8
                  have H1 : (some (x0_2, x5_2, 0)) = some (r1, r2, r3) := by rw [if_neg (show ¬ (false = true) by decide)] at H; exact H
                  clear H
                  have H := H1
                  clear H1
                  simp only [Option.some.injEq, Prod.mk.injEq] at H
                  obtain ⟨rfl, rfl, rfl⟩ := H
                  go_wp2
                  go_ret3
                  exact ⟨by first | rfl | (simp; done) | (simp [*]; done), by repeat (first | exact Drawn0.refl _ | apply Drawn0.step)⟩

end Go.Proofs.Ytcjhbjfkcmncpaa.Q
