-- Written by a program of this session out of the translation.
import Derived.Test.YtcjhbjfkcmncpaaQx0
import Derived.Test.YtcjhbjfkcmncpaaQx6
namespace Go.Proofs.Ytcjhbjfkcmncpaa.Q
open Go.RowKit Go.Proofs.YtcjhbjfkcmncpaaW.PrintWords Go.Proofs.YtcjhbjfkcmncpaaW.PrintLast Go.Proofs.YtcjhbjfkcmncpaaW.PrintMore
attribute [local go_sem] max2_int min2_int max_two min_two max_three min_three max_four min_four   -- for this text's walks alone
set_option linter.unusedVariables false
set_option linter.unusedSimpArgs false

/-! ### prime_symbol: function 38 -/
mutual
def prime_symbol.j0 : Nat → Int → Bool → Option (Int)
  | 0, _, _ => none
  | k + 1, x10, x11 => if x11 = true then (some 1) else (if x10 = 3 then (some (-1)) else (if x10 = 5 then (some (-1)) else (some 0)))
def prime_symbol.l0 : Nat → Int → Int → Int → Int → Option (Int)
  | 0, _, _, _, _ => none
  | k + 1, x0, x1, x5, x6 => if x6 > 0 then (if (Int.tmod x6 2) = 1 then (if x1 = 0 then (none) else (prime_symbol.l0 k (Int.tmod (wrap64 (x0 * x0)) x1) x1 (Int.tmod (wrap64 (x5 * x0)) x1) (wrap64 (Int.tdiv x6 2)))) else (if x1 = 0 then (none) else (prime_symbol.l0 k (Int.tmod (wrap64 (x0 * x0)) x1) x1 x5 (wrap64 (Int.tdiv x6 2))))) else (if x5 = 1 then (some 1) else (some (-1)))
end
def prime_symbol.f (k : Nat) (a0 : Int) (a1 : Int) : Option (Int) := if a1 = 2 then ((prime_residue.f a0 8).bind fun t107 => (if t107 = 1 then (prime_symbol.j0 k t107 (t107 == 1)) else (prime_symbol.j0 k t107 (t107 == 7)))) else ((prime_residue.f a0 a1).bind fun t108 => (if t108 = 0 then (some 0) else (prime_symbol.l0 k t108 a1 1 (wrap64 (Int.tdiv (wrap64 (a1 - 1)) 2)))))
theorem prime_symbol.mono_l : ∀ k, (∀ y0 y1, LeO (prime_symbol.j0 k y0 y1) (prime_symbol.j0 (k + 1) y0 y1)) ∧ (∀ y0 y1 y2 y3, LeO (prime_symbol.l0 k y0 y1 y2 y3) (prime_symbol.l0 (k + 1) y0 y1 y2 y3))
  | 0 => ⟨fun _ _ r h => by simp [prime_symbol.j0] at h, fun _ _ _ _ r h => by simp [prime_symbol.l0] at h⟩
  | k + 1 => by
    obtain ⟨ih0, ih1⟩ := prime_symbol.mono_l k
    refine ⟨?_, ?_⟩
    · intro y0 y1
      unfold prime_symbol.j0
      repeat' first
      | (with_reducible exact ih0 _ _)
      | (with_reducible exact ih1 _ _ _ _)
      | (with_reducible exact LeO.refl _)
      | (with_reducible exact LeO.none _)
      | (with_reducible refine LeO.ite ?_ ?_)
      | (with_reducible refine LeO.bind ?_ (fun _ => ?_))
      | exact ih0 _ _
      | exact ih1 _ _ _ _
      | exact LeO.none _
      | refine LeO.ite ?_ ?_
      | refine LeO.bind ?_ (fun _ => ?_)
    · intro y0 y1 y2 y3
      unfold prime_symbol.l0
      repeat' first
      | (with_reducible exact ih0 _ _)
      | (with_reducible exact ih1 _ _ _ _)
      | (with_reducible exact LeO.refl _)
      | (with_reducible exact LeO.none _)
      | (with_reducible refine LeO.ite ?_ ?_)
      | (with_reducible refine LeO.bind ?_ (fun _ => ?_))
      | exact ih0 _ _
      | exact ih1 _ _ _ _
      | exact LeO.none _
      | refine LeO.ite ?_ ?_
      | refine LeO.bind ?_ (fun _ => ?_)
theorem prime_symbol.mono : ∀ a0 a1 k, LeO (prime_symbol.f k a0 a1) (prime_symbol.f (k + 1) a0 a1) := by
  intro a0 a1 k
  obtain ⟨ih0, ih1⟩ := prime_symbol.mono_l k
  unfold prime_symbol.f
  repeat' first
      | (with_reducible exact ih0 _ _)
      | (with_reducible exact ih1 _ _ _ _)
      | (with_reducible exact LeO.refl _)
      | (with_reducible exact LeO.none _)
      | (with_reducible refine LeO.ite ?_ ?_)
      | (with_reducible refine LeO.bind ?_ (fun _ => ?_))
      | exact ih0 _ _
      | exact ih1 _ _ _ _
      | exact LeO.none _
      | refine LeO.ite ?_ ?_
      | refine LeO.bind ?_ (fun _ => ?_)
set_option maxHeartbeats 8000000 in
set_option maxRecDepth 100000 in
theorem prime_symbol.calls (k : Nat) (a0 : Int) (a1 : Int) (r : Int) (w : World) (h : prime_symbol.f k a0 a1 = some r) :
    Calls Try.prog 38 #[.int .i64 a0, .int .i64 a1] w fun e w' => e = .returned (.int .i64 r) ∧ Drawn0 w w' := by
  have H : (if a1 = 2 then ((prime_residue.f a0 8).bind fun t107 => (if t107 = 1 then (prime_symbol.j0 k t107 (t107 == 1)) else (prime_symbol.j0 k t107 (t107 == 7)))) else ((prime_residue.f a0 a1).bind fun t108 => (if t108 = 0 then (some 0) else (prime_symbol.l0 k t108 a1 1 (wrap64 (Int.tdiv (wrap64 (a1 - 1)) 2)))))) = some r := h
  clear h
  by_cases c3 : a1 = 2
  · rw [if_pos c3] at H
    have c3b0 : (a1 == 2) = true := beq_iff_eq.mpr c3
    have c3b1 : (a1 != 2) = false := bne_eq_false_iff_eq.mpr c3
    clear c3
    replace H := Option.bind_eq_some_iff.mp H
    obtain ⟨t107, A40, H⟩ := H
    replace H : (if t107 = 1 then (prime_symbol.j0 k t107 (t107 == 1)) else (prime_symbol.j0 k t107 (t107 == 7))) = some r := H
    have A4 := Aside0.mk A40
    clear A40
    have HC5 := Aside0.mk H
    clear H
    go_enter Try.func38, Try.ntmps38
    go_upto_if 11 with (first | ((with_reducible refine gate_callee (f := 45) rfl ?_); refine goesL_ (some 10) rfl rfl Try.func45 (by kernel_rfl) rfl #[.int .i64 a0, .int .i64 8] rfl (by (try simp only [List.map_toArray, List.map_cons, List.map_nil]); first | done | rfl | (simp only [List.length_drop, List.length_take]; rfl)) ?_; (with_reducible refine (prime_residue.calls a0 8 t107 _ A4.out).mono ?_); rintro e w' ⟨rfl, ⟨nd, rfl⟩⟩; refine ⟨_, rfl, ?_⟩))
    (try simp only [Act.put, List.setIfInBounds_toArray, List.set_cons_zero, List.set_cons_succ])
    go_cut [11] (fun v11 wc => ∃ (kq : Nat) (x11_4 : Bool), v11 = .bool x11_4 ∧ Aside0 (prime_symbol.j0 kq t107 x11_4 = some r) ∧ Aside0 (kq ≤ k) ∧ Drawn0 w wc)
    case first =>
      have H := HC5.out
      clear HC5
      by_cases c6 : t107 = 1
      · rw [if_pos c6] at H
        have c6b0 : (t107 == 1) = true := beq_iff_eq.mpr c6
        have c6b1 : (t107 != 1) = false := bne_eq_false_iff_eq.mpr c6
        clear c6
        (first | rw [c6b0] | (simp only [i64_w, i32_w]; rw [c6b0]) | skip)
        have H' := Aside0.mk H
        clear H
        go_wp2
        go_meet
        case rel => exact ⟨_, ((t107 == 1)), (by first | rfl | (simp; done) | (simp [*]; done)), H', ⟨by first | omega | exact Nat.le_refl _⟩, by repeat (first | exact Drawn0.refl _ | apply Drawn0.step)⟩
      · rw [if_neg c6] at H
        have c6b0 : (t107 == 1) = false := beq_eq_false_iff_ne.mpr c6
        have c6b1 : (t107 != 1) = true := bne_iff_ne.mpr c6
        (first | rw [c6b0] | (simp only [i64_w, i32_w]; rw [c6b0]) | skip)
        have H' := Aside0.mk H
        clear H
        go_wp2
        go_meet
        case rel => exact ⟨_, ((t107 == 7)), (by first | rfl | (simp; done) | (simp [*]; done)), H', ⟨by first | omega | exact Nat.le_refl _⟩, by repeat (first | exact Drawn0.refl _ | apply Drawn0.step)⟩
    case rest =>
      clear HC5
      try clear p2
      try clear c3
      try clear c3b0
      try clear c3b1
      try clear c4
      try clear c6
      try clear c6b0
      try clear c6b1
      try clear p6
      obtain ⟨kq, x11_4, rfl, HA, HJ4, ⟨mc4, rfl⟩⟩ := hcut
      cases kq with
      | zero => exact absurd HA.out (by simp [prime_symbol.j0])
      | succ kj4 =>
        have H := HA.out
        clear HA
        simp only [prime_symbol.j0] at H
        by_cases c7 : x11_4 = true
        · subst c7
          have H1 : (some 1) = some r := by rw [if_pos rfl] at H; exact H
          clear H
          have H := H1
          clear H1
          obtain rfl := Option.some.inj H
          go_wp2
          go_ret
          exact ⟨by first | rfl | (simp; done) | (simp [*]; done), by repeat (first | exact Drawn0.refl _ | apply Drawn0.step)⟩
        · replace c7 := Bool.eq_false_iff.mpr c7
          subst c7
          have H1 : (if t107 = 3 then (some (-1)) else (if t107 = 5 then (some (-1)) else (some 0))) = some r := by rw [if_neg (show ¬ (false = true) by decide)] at H; exact H
          clear H
          have H := H1
          clear H1
          by_cases c8 : t107 = 3
          · rw [if_pos c8] at H
            have c8b0 : (t107 == 3) = true := beq_iff_eq.mpr c8
            have c8b1 : (t107 != 3) = false := bne_eq_false_iff_eq.mpr c8
            clear c8
            obtain rfl := Option.some.inj H
            go_wp2
            go_ret
            exact ⟨by first | rfl | (simp; done) | (simp [*]; done), by repeat (first | exact Drawn0.refl _ | apply Drawn0.step)⟩
          · rw [if_neg c8] at H
            have c8b0 : (t107 == 3) = false := beq_eq_false_iff_ne.mpr c8
            have c8b1 : (t107 != 3) = true := bne_iff_ne.mpr c8
            by_cases c9 : t107 = 5
            · rw [if_pos c9] at H
              have c9b0 : (t107 == 5) = true := beq_iff_eq.mpr c9
              have c9b1 : (t107 != 5) = false := bne_eq_false_iff_eq.mpr c9
              clear c9
              obtain rfl := Option.some.inj H
              go_wp2
              go_ret
              exact ⟨by first | rfl | (simp; done) | (simp [*]; done), by repeat (first | exact Drawn0.refl _ | apply Drawn0.step)⟩
            · rw [if_neg c9] at H
              have c9b0 : (t107 == 5) = false := beq_eq_false_iff_ne.mpr c9
              have c9b1 : (t107 != 5) = true := bne_iff_ne.mpr c9
              obtain rfl := Option.some.inj H
              go_wp2
              go_ret
              exact ⟨by first | rfl | (simp; done) | (simp [*]; done), by repeat (first | exact Drawn0.refl _ | apply Drawn0.step)⟩
  · rw [if_neg c3] at H
    have c3b0 : (a1 == 2) = false := beq_eq_false_iff_ne.mpr c3
    have c3b1 : (a1 != 2) = true := bne_iff_ne.mpr c3
    replace H := Option.bind_eq_some_iff.mp H
    obtain ⟨t108, A100, H⟩ := H
    replace H : (if t108 = 0 then (some 0) else (prime_symbol.l0 k t108 a1 1 (wrap64 (Int.tdiv (wrap64 (a1 - 1)) 2)))) = some r := H
    have A10 := Aside0.mk A100
    clear A100
    by_cases c11 : t108 = 0
    · rw [if_pos c11] at H
      have c11b0 : (t108 == 0) = true := beq_iff_eq.mpr c11
      have c11b1 : (t108 != 0) = false := bne_eq_false_iff_eq.mpr c11
      clear c11
      obtain rfl := Option.some.inj H
      go_enter Try.func38, Try.ntmps38
      go_wp2_with (first | ((with_reducible refine gate_callee (f := 45) rfl ?_); refine goesL_ (some 19) rfl rfl Try.func45 (by kernel_rfl) rfl #[.int .i64 a0, .int .i64 a1] rfl (by (try simp only [List.map_toArray, List.map_cons, List.map_nil]); first | done | rfl | (simp only [List.length_drop, List.length_take]; rfl)) ?_; (with_reducible refine (prime_residue.calls a0 a1 t108 _ A10.out).mono ?_); rintro e w' ⟨rfl, ⟨nd, rfl⟩⟩; refine ⟨_, rfl, ?_⟩))
      go_ret
      exact ⟨by first | rfl | (simp; done) | (simp [*]; done), by repeat (first | exact Drawn0.refl _ | apply Drawn0.step)⟩
    · rw [if_neg c11] at H
      have c11b0 : (t108 == 0) = false := beq_eq_false_iff_ne.mpr c11
      have c11b1 : (t108 != 0) = true := bne_iff_ne.mpr c11
      have H' := Aside0.mk H
      clear H
      go_enter Try.func38, Try.ntmps38
      go_wp2_with (first | ((with_reducible refine gate_callee (f := 45) rfl ?_); refine goesL_ (some 19) rfl rfl Try.func45 (by kernel_rfl) rfl #[.int .i64 a0, .int .i64 a1] rfl (by (try simp only [List.map_toArray, List.map_cons, List.map_nil]); first | done | rfl | (simp only [List.length_drop, List.length_take]; rfl)) ?_; (with_reducible refine (prime_residue.calls a0 a1 t108 _ A10.out).mono ?_); rintro e w' ⟨rfl, ⟨nd, rfl⟩⟩; refine ⟨_, rfl, ?_⟩))
      go_loopg [0, 5, 6] k (fun kq v0 v5 v6 w' => ∃ (x0_1 : Int) (x5_1 : Int) (x6_1 : Int), v0 = .int .i64 x0_1 ∧ v5 = .int .i64 x5_1 ∧ v6 = .int .i64 x6_1 ∧ Aside0 (prime_symbol.l0 kq x0_1 a1 x5_1 x6_1 = some r) ∧ Aside0 (kq ≤ k) ∧ Drawn0 w w')
      case atStart => exact ⟨(t108), (1), (wrap64 (Int.tdiv (wrap64 (a1 - 1)) 2)), (by first | rfl | (simp; done) | (simp [*]; done)), (by first | rfl | (simp; done) | (simp [*]; done)), (by first | rfl | (simp; done) | (simp [*]; done)), H', ⟨Nat.le_refl _⟩, by repeat (first | exact Drawn0.refl _ | apply Drawn0.step)⟩
      case round =>
        clear H'
        try clear c1
        try clear p2
        try clear c3
        try clear c3b0
        try clear c3b1
        try clear c4
        try clear c6
        try clear c6b0
        try clear c6b1
        try clear p6
        try clear c7
        try clear c8
        try clear c8b0
        try clear c8b1
        try clear c9
        try clear c9b0
        try clear c9b1
        try clear c11
        try clear c11b0
        try clear c11b1
        try clear p2
        try clear p6
        obtain ⟨x0_1, x5_1, x6_1, rfl, rfl, rfl, HA, HK1, ⟨m1, rfl⟩⟩ := hrel
        cases gk with
        | zero => exact absurd HA.out (by simp [prime_symbol.l0])
        | succ k1 =>
          have H := HA.out
          clear HA
          simp only [prime_symbol.l0] at H
          by_cases c12 : x6_1 > 0
          · rw [if_pos c12] at H
            have c12b0 : decide (0 < x6_1) = true := decide_eq_true c12
            clear c12
            by_cases c13 : (Int.tmod x6_1 2) = 1
            · rw [if_pos c13] at H
              have c13b0 : ((Int.tmod x6_1 2) == 1) = true := beq_iff_eq.mpr c13
              have c13b1 : ((Int.tmod x6_1 2) != 1) = false := bne_eq_false_iff_eq.mpr c13
              clear c13
              by_cases c14 : a1 = 0
              · rw [if_pos c14] at H
                exact absurd H (by simp)
              · rw [if_neg c14] at H
                have c14b0 : (a1 == 0) = false := beq_eq_false_iff_ne.mpr c14
                have c14b1 : (a1 != 0) = true := bne_iff_ne.mpr c14
                have H' := Aside0.mk H
                clear H
                go_wp2
                go_roundg k1
                case measure => have := HK1.out; omega
                case rel => exact ⟨(Int.tmod (wrap64 (x0_1 * x0_1)) a1), (Int.tmod (wrap64 (x5_1 * x0_1)) a1), (wrap64 (Int.tdiv x6_1 2)), (by first | rfl | (simp; done) | (simp [*]; done)), (by first | rfl | (simp; done) | (simp [*]; done)), (by first | rfl | (simp; done) | (simp [*]; done)), H', ⟨by have := HK1.out; omega⟩, by repeat (first | exact Drawn0.refl _ | apply Drawn0.step)⟩
            · rw [if_neg c13] at H
              have c13b0 : ((Int.tmod x6_1 2) == 1) = false := beq_eq_false_iff_ne.mpr c13
              have c13b1 : ((Int.tmod x6_1 2) != 1) = true := bne_iff_ne.mpr c13
              by_cases c15 : a1 = 0
              · rw [if_pos c15] at H
                exact absurd H (by simp)
              · rw [if_neg c15] at H
                have c15b0 : (a1 == 0) = false := beq_eq_false_iff_ne.mpr c15
                have c15b1 : (a1 != 0) = true := bne_iff_ne.mpr c15
                have H' := Aside0.mk H
                clear H
                go_wp2
                go_roundg k1
                case measure => have := HK1.out; omega
                case rel => exact ⟨(Int.tmod (wrap64 (x0_1 * x0_1)) a1), (x5_1), (wrap64 (Int.tdiv x6_1 2)), (by first | rfl | (simp; done) | (simp [*]; done)), (by first | rfl | (simp; done) | (simp [*]; done)), (by first | rfl | (simp; done) | (simp [*]; done)), H', ⟨by have := HK1.out; omega⟩, by repeat (first | exact Drawn0.refl _ | apply Drawn0.step)⟩
          · rw [if_neg c12] at H
            have c12b0 : decide (0 < x6_1) = false := decide_eq_false c12
            clear c12
            by_cases c16 : x5_1 = 1
            · rw [if_pos c16] at H
              have c16b0 : (x5_1 == 1) = true := beq_iff_eq.mpr c16
              have c16b1 : (x5_1 != 1) = false := bne_eq_false_iff_eq.mpr c16
              clear c16
              obtain rfl := Option.some.inj H
              go_wp2
              go_ret
              exact ⟨by first | rfl | (simp; done) | (simp [*]; done), by repeat (first | exact Drawn0.refl _ | apply Drawn0.step)⟩
            · rw [if_neg c16] at H
              have c16b0 : (x5_1 == 1) = false := beq_eq_false_iff_ne.mpr c16
              have c16b1 : (x5_1 != 1) = true := bne_iff_ne.mpr c16
              obtain rfl := Option.some.inj H
              go_wp2
              go_ret
              exact ⟨by first | rfl | (simp; done) | (simp [*]; done), by repeat (first | exact Drawn0.refl _ | apply Drawn0.step)⟩

end Go.Proofs.Ytcjhbjfkcmncpaa.Q
