-- Written by a program of this session out of the translation.
import Derived.Test.YtcjhbjfkcmncpaaQx0
namespace Go.Proofs.Ytcjhbjfkcmncpaa.Q
open Go.RowKit Go.Proofs.YtcjhbjfkcmncpaaW.PrintWords Go.Proofs.YtcjhbjfkcmncpaaW.PrintLast Go.Proofs.YtcjhbjfkcmncpaaW.PrintMore
attribute [local go_sem] max2_int min2_int max_two min_two max_three min_three max_four min_four   -- for this text's walks alone
set_option linter.unusedVariables false
set_option linter.unusedSimpArgs false

/-! ### prime_Factor: function 18 -/
mutual
def prime_Factor.j0 : Nat → Int → Bool → Option ((List (S30)) × Int)
  | 0, _, _ => none
  | k + 1, x0, x12 => if x12 = true then (some (([] : List (S30)), 1)) else (prime_Factor.l0 k x0 ([] : List (S30)) 2)
def prime_Factor.l0 : Nat → Int → List (S30) → Int → Option ((List (S30)) × Int)
  | 0, _, _, _ => none
  | k + 1, x0, x4, x5 => if x0 > 1 then (prime_Factor.l1 k x0 x4 x5) else (some (x4, 0))
def prime_Factor.l1 : Nat → Int → List (S30) → Int → Option ((List (S30)) × Int)
  | 0, _, _, _ => none
  | k + 1, x0, x4, x5 => if (wrap64 (x5 * x5)) > x0 then (if x4.length < 8796093022208 then (some ((x4 ++ [(⟨x0, 1⟩ : S30)]), 0)) else (none)) else (if x5 = 0 then (none) else (if (Int.tmod x0 x5) = 0 then (prime_Factor.l2 k x0 x4 x5 0) else (prime_Factor.l1 k x0 x4 (wrap64 (x5 + 1)))))
def prime_Factor.l2 : Nat → Int → List (S30) → Int → Int → Option ((List (S30)) × Int)
  | 0, _, _, _, _ => none
  | k + 1, x0, x4, x5, x6 => if x5 = 0 then (none) else (if (Int.tmod x0 x5) = 0 then (prime_Factor.l2 k (wrap64 (Int.tdiv x0 x5)) x4 x5 (wrap64 (x6 + 1))) else (if x4.length < 8796093022208 then (prime_Factor.l0 k x0 (x4 ++ [(⟨x5, x6⟩ : S30)]) x5) else (none)))
end
def prime_Factor.f (k : Nat) (a0 : Int) : Option ((List (S30)) × Int) := if a0 < 1 then (prime_Factor.j0 k a0 true) else (prime_Factor.j0 k a0 (decide (a0 > 2147483647)))
theorem prime_Factor.mono_l : ∀ k, (∀ y0 y1, LeO (prime_Factor.j0 k y0 y1) (prime_Factor.j0 (k + 1) y0 y1)) ∧ (∀ y0 y1 y2, LeO (prime_Factor.l0 k y0 y1 y2) (prime_Factor.l0 (k + 1) y0 y1 y2)) ∧ (∀ y0 y1 y2, LeO (prime_Factor.l1 k y0 y1 y2) (prime_Factor.l1 (k + 1) y0 y1 y2)) ∧ (∀ y0 y1 y2 y3, LeO (prime_Factor.l2 k y0 y1 y2 y3) (prime_Factor.l2 (k + 1) y0 y1 y2 y3))
  | 0 => ⟨fun _ _ r h => by simp [prime_Factor.j0] at h, fun _ _ _ r h => by simp [prime_Factor.l0] at h, fun _ _ _ r h => by simp [prime_Factor.l1] at h, fun _ _ _ _ r h => by simp [prime_Factor.l2] at h⟩
  | k + 1 => by
    obtain ⟨ih0, ih1, ih2, ih3⟩ := prime_Factor.mono_l k
    refine ⟨?_, ?_, ?_, ?_⟩
    · intro y0 y1
      unfold prime_Factor.j0
      repeat' first
      | (with_reducible exact ih0 _ _)
      | (with_reducible exact ih1 _ _ _)
      | (with_reducible exact ih2 _ _ _)
      | (with_reducible exact ih3 _ _ _ _)
      | (with_reducible exact LeO.refl _)
      | (with_reducible exact LeO.none _)
      | (with_reducible refine LeO.ite ?_ ?_)
      | (with_reducible refine LeO.bind ?_ (fun _ => ?_))
      | exact ih0 _ _
      | exact ih1 _ _ _
      | exact ih2 _ _ _
      | exact ih3 _ _ _ _
      | exact LeO.none _
      | refine LeO.ite ?_ ?_
      | refine LeO.bind ?_ (fun _ => ?_)
    · intro y0 y1 y2
      unfold prime_Factor.l0
      repeat' first
      | (with_reducible exact ih0 _ _)
      | (with_reducible exact ih1 _ _ _)
      | (with_reducible exact ih2 _ _ _)
      | (with_reducible exact ih3 _ _ _ _)
      | (with_reducible exact LeO.refl _)
      | (with_reducible exact LeO.none _)
      | (with_reducible refine LeO.ite ?_ ?_)
      | (with_reducible refine LeO.bind ?_ (fun _ => ?_))
      | exact ih0 _ _
      | exact ih1 _ _ _
      | exact ih2 _ _ _
      | exact ih3 _ _ _ _
      | exact LeO.none _
      | refine LeO.ite ?_ ?_
      | refine LeO.bind ?_ (fun _ => ?_)
    · intro y0 y1 y2
      unfold prime_Factor.l1
      repeat' first
      | (with_reducible exact ih0 _ _)
      | (with_reducible exact ih1 _ _ _)
      | (with_reducible exact ih2 _ _ _)
      | (with_reducible exact ih3 _ _ _ _)
      | (with_reducible exact LeO.refl _)
      | (with_reducible exact LeO.none _)
      | (with_reducible refine LeO.ite ?_ ?_)
      | (with_reducible refine LeO.bind ?_ (fun _ => ?_))
      | exact ih0 _ _
      | exact ih1 _ _ _
      | exact ih2 _ _ _
      | exact ih3 _ _ _ _
      | exact LeO.none _
      | refine LeO.ite ?_ ?_
      | refine LeO.bind ?_ (fun _ => ?_)
    · intro y0 y1 y2 y3
      unfold prime_Factor.l2
      repeat' first
      | (with_reducible exact ih0 _ _)
      | (with_reducible exact ih1 _ _ _)
      | (with_reducible exact ih2 _ _ _)
      | (with_reducible exact ih3 _ _ _ _)
      | (with_reducible exact LeO.refl _)
      | (with_reducible exact LeO.none _)
      | (with_reducible refine LeO.ite ?_ ?_)
      | (with_reducible refine LeO.bind ?_ (fun _ => ?_))
      | exact ih0 _ _
      | exact ih1 _ _ _
      | exact ih2 _ _ _
      | exact ih3 _ _ _ _
      | exact LeO.none _
      | refine LeO.ite ?_ ?_
      | refine LeO.bind ?_ (fun _ => ?_)
theorem prime_Factor.mono : ∀ a0 k, LeO (prime_Factor.f k a0) (prime_Factor.f (k + 1) a0) := by
  intro a0 k
  obtain ⟨ih0, ih1, ih2, ih3⟩ := prime_Factor.mono_l k
  unfold prime_Factor.f
  repeat' first
      | (with_reducible exact ih0 _ _)
      | (with_reducible exact ih1 _ _ _)
      | (with_reducible exact ih2 _ _ _)
      | (with_reducible exact ih3 _ _ _ _)
      | (with_reducible exact LeO.refl _)
      | (with_reducible exact LeO.none _)
      | (with_reducible refine LeO.ite ?_ ?_)
      | (with_reducible refine LeO.bind ?_ (fun _ => ?_))
      | exact ih0 _ _
      | exact ih1 _ _ _
      | exact ih2 _ _ _
      | exact ih3 _ _ _ _
      | exact LeO.none _
      | refine LeO.ite ?_ ?_
      | refine LeO.bind ?_ (fun _ => ?_)
set_option maxHeartbeats 8000000 in
set_option maxRecDepth 100000 in
theorem prime_Factor.calls (k : Nat) (a0 : Int) (r1 : List (S30)) (r2 : Int) (w : World) (h : prime_Factor.f k a0 = some (r1, r2)) :
    Calls Try.prog 18 #[.int .i64 a0] w fun e w' => ∃ v0_ : Value, e = .returned (.tuple #[v0_, .int .i64 r2]) ∧ Kd.R k30 30 w' w.heap.size (fun _ => True) v0_ r1 ∧ Below w.heap.size w w' := by
  have hu30 := Try.underlying30
  have HB := Aside0.mk (Below.refl w.heap.size w)
  have H : (if a0 < 1 then (prime_Factor.j0 k a0 true) else (prime_Factor.j0 k a0 (decide (a0 > 2147483647)))) = some (r1, r2) := h
  clear h
  have HC2 := Aside0.mk H
  clear H
  go_enter Try.func18, Try.ntmps18
  go_wp2
  go_step3
  go_upto_region 1 with (fail)
  go_cut [12] (fun v12 wc => ∃ (kq : Nat) (x12_1 : Bool), v12 = .bool x12_1 ∧ Aside0 (prime_Factor.j0 kq a0 x12_1 = some (r1, r2)) ∧ Aside0 (kq ≤ k) ∧ Aside0 (Below w.heap.size w wc))
  case first =>
    have H := HC2.out
    clear HC2
    by_cases c3 : a0 < 1
    · rw [if_pos c3] at H
      have c3b0 : decide (a0 < 1) = true := decide_eq_true c3
      clear c3
      (first | rw [c3b0] | (simp only [i64_w, i32_w]; rw [c3b0]) | skip)
      have H' := Aside0.mk H
      clear H
      go_wp2
      go_meet
      case rel => exact ⟨_, (true), (by first | rfl | (simp; done) | (simp [*]; done)), H', ⟨by first | omega | exact Nat.le_refl _⟩, ⟨by repeat (first | (with_reducible first | exact HB.out | apply below_alloc | apply pw_below_drewN | apply below_drew1) | exact HB.out)⟩⟩
    · rw [if_neg c3] at H
      have c3b0 : decide (a0 < 1) = false := decide_eq_false c3
      clear c3
      (first | rw [c3b0] | (simp only [i64_w, i32_w]; rw [c3b0]) | skip)
      have H' := Aside0.mk H
      clear H
      go_wp2
      go_meet
      case rel => exact ⟨_, (decide (a0 > 2147483647)), (by first | rfl | (simp; done) | (simp [*]; done)), H', ⟨by first | omega | exact Nat.le_refl _⟩, ⟨by repeat (first | (with_reducible first | exact HB.out | apply below_alloc | apply pw_below_drewN | apply below_drew1) | exact HB.out)⟩⟩
  case rest =>
    clear HC2
    try clear c1
    try clear p2
    try clear c3
    try clear c3b0
    try clear p3
    obtain ⟨kq, x12_1, rfl, HA, HJ1, HB⟩ := hcut
    cases kq with
    | zero => exact absurd HA.out (by simp [prime_Factor.j0])
    | succ kj1 =>
      have H := HA.out
      clear HA
      simp only [prime_Factor.j0] at H
      by_cases c4 : x12_1 = true
      · subst c4
        have H1 : (some (([] : List (S30)), 1)) = some (r1, r2) := by rw [if_pos rfl] at H; exact H
        clear H
        have H := H1
        clear H1
        simp only [Option.some.injEq, Prod.mk.injEq] at H
        obtain ⟨rfl, rfl⟩ := H
        go_wp2
        (try rw [Exit.noGoto_ret])
        go_ret2
        exact ⟨_, by first | rfl | (simp [errW_none, errW_some] <;> rfl) | (simp [*, errW_none, errW_some] <;> rfl), by first | exact Kd.R_nil _ _ _ _ _ | exact Kd.N_nil _ _ _ _ _ | exact Kd.V_nil _ _ _ _ _ | exact Kd.Q_nil _ _ _ _ _ | exact Kd.S_nil _ _ _ _ _, by repeat (first | (with_reducible first | exact HB.out | apply below_alloc | apply pw_below_drewN | apply below_drew1) | exact HB.out)⟩
      · replace c4 := Bool.eq_false_iff.mpr c4
        subst c4
        have H1 : (prime_Factor.l0 kj1 a0 ([] : List (S30)) 2) = some (r1, r2) := by rw [if_neg (show ¬ (false = true) by decide)] at H; exact H
        clear H
        have H := H1
        clear H1
        have H' := Aside0.mk H
        clear H
        go_wp2
        (go_step3; go_wp2)
        go_loopg [0, 4, 5] kj1 (fun kq v0 v4 v5 w' => ∃ (x0_2 : Int) (x4_2 : List (S30)) (x5_2 : Int), v0 = .int .i64 x0_2 ∧ v5 = .int .i64 x5_2 ∧ Aside0 (prime_Factor.l0 kq x0_2 x4_2 x5_2 = some (r1, r2)) ∧ Aside0 (kq ≤ kj1) ∧ Aside0 (Kd.R k30 30 w' w.heap.size (fun _ => True) v4 x4_2) ∧ Aside0 (Below w.heap.size w w'))
        case atStart => exact ⟨(a0), (([] : List (S30))), (2), (by first | rfl | (simp; done) | (simp [*]; done)), (by first | rfl | (simp; done) | (simp [*]; done)), H', ⟨Nat.le_refl _⟩, ⟨by first | exact Kd.R_nil _ _ _ _ _ | exact Kd.N_nil _ _ _ _ _ | exact Kd.V_nil _ _ _ _ _ | exact Kd.Q_nil _ _ _ _ _ | exact Kd.S_nil _ _ _ _ _⟩, ⟨by repeat (first | (with_reducible first | exact HB.out | apply below_alloc | apply pw_below_drewN | apply below_drew1) | exact HB.out)⟩⟩
        case round =>
          clear H'
          try clear c1
          try clear p2
          try clear c3
          try clear c3b0
          try clear p3
          try clear c4
          try clear p2
          try clear p3
          obtain ⟨x0_2, x4_2, x5_2, rfl, rfl, HA, HK2, HO_4, HB⟩ := hrel
          cases gk with
          | zero => exact absurd HA.out (by simp [prime_Factor.l0])
          | succ k2 =>
            have H := HA.out
            clear HA
            simp only [prime_Factor.l0] at H
            by_cases c5 : x0_2 > 1
            · rw [if_pos c5] at H
              have c5b0 : decide (1 < x0_2) = true := decide_eq_true c5
              clear c5
              have H' := Aside0.mk H
              clear H
              go_wp2
              go_loopg [4, 5] k2 (fun kq v4 v5 w' => ∃ (x4_3 : List (S30)) (x5_3 : Int), v5 = .int .i64 x5_3 ∧ Aside0 (prime_Factor.l1 kq x0_2 x4_3 x5_3 = some (r1, r2)) ∧ Aside0 (kq ≤ k2) ∧ Aside0 (Kd.R k30 30 w' w.heap.size (fun _ => True) v4 x4_3) ∧ Aside0 (Below w.heap.size w w'))
              case atStart => exact ⟨(x4_2), (x5_2), (by first | rfl | (simp; done) | (simp [*]; done)), H', ⟨Nat.le_refl _⟩, ⟨by (with_reducible repeat (first | apply Kd.R_alloc | apply Kd.R_drewN | apply Kd.R_drew)); exact HO_4.out⟩, ⟨by repeat (first | (with_reducible first | exact HB.out | apply below_alloc | apply pw_below_drewN | apply below_drew1) | exact HB.out)⟩⟩
              case round =>
                clear H'
                try clear c1
                try clear p2
                try clear c3
                try clear c3b0
                try clear p3
                try clear c4
                try clear c5
                try clear c5b0
                try clear p2
                try clear p3
                obtain ⟨x4_3, x5_3, rfl, HA, HK3, HO_4, HB⟩ := hrel
                cases gk with
                | zero => exact absurd HA.out (by simp [prime_Factor.l1])
                | succ k3 =>
                  have H := HA.out
                  clear HA
                  simp only [prime_Factor.l1] at H
                  by_cases c6 : (wrap64 (x5_3 * x5_3)) > x0_2
                  · rw [if_pos c6] at H
                    have c6b0 : decide (x0_2 < (wrap64 (x5_3 * x5_3))) = true := decide_eq_true c6
                    clear c6
                    by_cases c7 : x4_3.length < 8796093022208
                    · rw [if_pos c7] at H
                      have LMc7 := Aside0.mk c7
                      clear c7
                      obtain ⟨y101, hy101⟩ : ∃ y_ : List (S30), y_ = (x4_3 ++ [(⟨x0_2, 1⟩ : S30)]) := ⟨_, rfl⟩
                      replace H : (some (y101, 0)) = some (r1, r2) := by first | (rw [hy101]; with_reducible exact H) | (have H2_ := (Option.bind_some _ _).symm.trans H; rw [hy101]; with_reducible exact H2_) | (have H2_ := (Option.bind_some _ _).symm.trans H; with_reducible exact H2_) | with_reducible exact H | (rw [hy101]; exact H) | exact H
                      have Ny101 := Aside0.mk hy101
                      clear hy101
                      simp only [Option.some.injEq, Prod.mk.injEq] at H
                      obtain ⟨rfl, rfl⟩ := H
                      go_wp2_with (first | ((with_reducible refine gate_builtin (b := .append) (xs := #[.tmp 22, .tmp 25]) rfl ?_); at_builtin; refine Kd.R_append k30 (w0 := w) w.heap.size rfl (.tmp 22) (.tmp 25) 24 30 (.agg #[(.int .i64 0), (.int .i64 0)]) 16 rfl Try.underlying24 info30 rfl (by decide) (by omega) u4 x4_3 (⟨x0_2, 1⟩ : S30) [.int .i64 x0_2, .int .i64 1] (fun _ => True) (fun _ => False) rfl rfl ?aP (fun _ hk => hk.elim) ?aF ?aO ?aB ?aS ?aL ?_; (case aP => exact k30_mkM _ _ _ (⟨x0_2, 1⟩ : S30)); (case aB => exact (by repeat (first | (with_reducible first | exact HB.out | apply below_alloc | apply pw_below_drewN | apply below_drew1) | exact HB.out))); (case aF => exact (fun _ _ => trivial)); (case aO => exact (by (with_reducible repeat (first | apply Kd.R_alloc | apply Kd.R_drewN | apply Kd.R_drew)); exact HO_4.out)); (case aS => exact (below_size (by repeat (first | (with_reducible first | exact HB.out | apply below_alloc | apply pw_below_drewN | apply below_drew1) | exact HB.out)))); (case aL => have := LMc7.out; omega); intro v102 w8 ho hb hg hat; rw [← Ny101.out] at ho; have n0_ := Aside0.mk (hb); have n1_ := Aside0.mk (ho); clear HB; clear HO_4; have HB := n0_; have HO103 := n1_; clear n0_ n1_; clear ho hb hg hat))
                      (try rw [Exit.noGoto_ret])
                      go_ret2
                      exact ⟨_, by first | rfl | (simp [errW_none, errW_some] <;> rfl) | (simp [*, errW_none, errW_some] <;> rfl), by (with_reducible repeat (first | apply Kd.R_alloc | apply Kd.R_drewN | apply Kd.R_drew)); exact HO103.out, by repeat (first | (with_reducible first | exact HB.out | apply below_alloc | apply pw_below_drewN | apply below_drew1) | exact HB.out)⟩
                    · rw [if_neg c7] at H
                      exact absurd H (by simp)
                  · rw [if_neg c6] at H
                    have c6b0 : decide (x0_2 < (wrap64 (x5_3 * x5_3))) = false := decide_eq_false c6
                    clear c6
                    by_cases c9 : x5_3 = 0
                    · rw [if_pos c9] at H
                      exact absurd H (by simp)
                    · rw [if_neg c9] at H
                      have c9b0 : (x5_3 == 0) = false := beq_eq_false_iff_ne.mpr c9
                      have c9b1 : (x5_3 != 0) = true := bne_iff_ne.mpr c9
                      by_cases c10 : (Int.tmod x0_2 x5_3) = 0
                      · rw [if_pos c10] at H
                        have c10b0 : ((Int.tmod x0_2 x5_3) == 0) = true := beq_iff_eq.mpr c10
                        have c10b1 : ((Int.tmod x0_2 x5_3) != 0) = false := bne_eq_false_iff_eq.mpr c10
                        clear c10
                        have H' := Aside0.mk H
                        clear H
                        go_wp2
                        go_loopg [0, 6] k3 (fun kq v0 v6 w' => ∃ (x0_4 : Int) (x6_4 : Int), v0 = .int .i64 x0_4 ∧ v6 = .int .i64 x6_4 ∧ Aside0 (prime_Factor.l2 kq x0_4 x4_3 x5_3 x6_4 = some (r1, r2)) ∧ Aside0 (kq ≤ k3) ∧ Aside0 (Kd.R k30 30 w' w.heap.size (fun _ => True) u4 x4_3) ∧ Aside0 (Below w.heap.size w w'))
                        case atStart => exact ⟨(x0_2), (0), (by first | rfl | (simp; done) | (simp [*]; done)), (by first | rfl | (simp; done) | (simp [*]; done)), H', ⟨Nat.le_refl _⟩, ⟨by (with_reducible repeat (first | apply Kd.R_alloc | apply Kd.R_drewN | apply Kd.R_drew)); exact HO_4.out⟩, ⟨by repeat (first | (with_reducible first | exact HB.out | apply below_alloc | apply pw_below_drewN | apply below_drew1) | exact HB.out)⟩⟩
                        case round =>
                          clear H'
                          try clear c1
                          try clear p2
                          try clear c3
                          try clear c3b0
                          try clear p3
                          try clear c4
                          try clear c5
                          try clear c5b0
                          try clear c6
                          try clear c6b0
                          try clear p6
                          try clear c7
                          try clear c9
                          try clear c9b0
                          try clear c9b1
                          try clear c10
                          try clear c10b0
                          try clear c10b1
                          try clear p2
                          try clear p3
                          obtain ⟨x0_4, x6_4, rfl, rfl, HA, HK4, HO_4, HB⟩ := hrel
                          cases gk with
                          | zero => exact absurd HA.out (by simp [prime_Factor.l2])
                          | succ k4 =>
                            have H := HA.out
                            clear HA
                            simp only [prime_Factor.l2] at H
                            by_cases c11 : x5_3 = 0
                            · rw [if_pos c11] at H
                              exact absurd H (by simp)
                            · rw [if_neg c11] at H
                              have c11b0 : (x5_3 == 0) = false := beq_eq_false_iff_ne.mpr c11
                              have c11b1 : (x5_3 != 0) = true := bne_iff_ne.mpr c11
                              by_cases c12 : (Int.tmod x0_4 x5_3) = 0
                              · rw [if_pos c12] at H
                                have c12b0 : ((Int.tmod x0_4 x5_3) == 0) = true := beq_iff_eq.mpr c12
                                have c12b1 : ((Int.tmod x0_4 x5_3) != 0) = false := bne_eq_false_iff_eq.mpr c12
                                clear c12
                                have H' := Aside0.mk H
                                clear H
                                go_wp2
                                go_roundg k4
                                case measure => have := HJ1.out; have := HK2.out; have := HK3.out; have := HK4.out; omega
                                case rel => exact ⟨(wrap64 (Int.tdiv x0_4 x5_3)), (wrap64 (x6_4 + 1)), (by first | rfl | (simp; done) | (simp [*]; done)), (by first | rfl | (simp; done) | (simp [*]; done)), H', ⟨by have := HJ1.out; have := HK2.out; have := HK3.out; have := HK4.out; omega⟩, ⟨by (with_reducible repeat (first | apply Kd.R_alloc | apply Kd.R_drewN | apply Kd.R_drew)); exact HO_4.out⟩, ⟨by repeat (first | (with_reducible first | exact HB.out | apply below_alloc | apply pw_below_drewN | apply below_drew1) | exact HB.out)⟩⟩
                              · rw [if_neg c12] at H
                                have c12b0 : ((Int.tmod x0_4 x5_3) == 0) = false := beq_eq_false_iff_ne.mpr c12
                                have c12b1 : ((Int.tmod x0_4 x5_3) != 0) = true := bne_iff_ne.mpr c12
                                by_cases c13 : x4_3.length < 8796093022208
                                · rw [if_pos c13] at H
                                  have LMc13 := Aside0.mk c13
                                  clear c13
                                  obtain ⟨y104, hy104⟩ : ∃ y_ : List (S30), y_ = (x4_3 ++ [(⟨x5_3, x6_4⟩ : S30)]) := ⟨_, rfl⟩
                                  replace H : (prime_Factor.l0 k4 x0_4 y104 x5_3) = some (r1, r2) := by first | (rw [hy104]; with_reducible exact H) | (have H2_ := (Option.bind_some _ _).symm.trans H; rw [hy104]; with_reducible exact H2_) | (have H2_ := (Option.bind_some _ _).symm.trans H; with_reducible exact H2_) | with_reducible exact H | (rw [hy104]; exact H) | exact H
                                  have Ny104 := Aside0.mk hy104
                                  clear hy104
                                  have H' := Aside0.mk H
                                  clear H
                                  go_wp2_with (first | ((with_reducible refine gate_builtin (b := .append) (xs := #[.tmp 40, .tmp 44]) rfl ?_); at_builtin; refine Kd.R_append k30 (w0 := w) w.heap.size rfl (.tmp 40) (.tmp 44) 24 30 (.agg #[(.int .i64 0), (.int .i64 0)]) 16 rfl Try.underlying24 info30 rfl (by decide) (by omega) u4 x4_3 (⟨x5_3, x6_4⟩ : S30) [.int .i64 x5_3, .int .i64 x6_4] (fun _ => True) (fun _ => False) rfl rfl ?aP (fun _ hk => hk.elim) ?aF ?aO ?aB ?aS ?aL ?_; (case aP => exact k30_mkM _ _ _ (⟨x5_3, x6_4⟩ : S30)); (case aB => exact (by repeat (first | (with_reducible first | exact HB.out | apply below_alloc | apply pw_below_drewN | apply below_drew1) | exact HB.out))); (case aF => exact (fun _ _ => trivial)); (case aO => exact (by (with_reducible repeat (first | apply Kd.R_alloc | apply Kd.R_drewN | apply Kd.R_drew)); exact HO_4.out)); (case aS => exact (below_size (by repeat (first | (with_reducible first | exact HB.out | apply below_alloc | apply pw_below_drewN | apply below_drew1) | exact HB.out)))); (case aL => have := LMc13.out; omega); intro v105 w14 ho hb hg hat; rw [← Ny104.out] at ho; have n0_ := Aside0.mk (hb); have n1_ := Aside0.mk (ho); clear HB; clear HO_4; have HB := n0_; have HO106 := n1_; clear n0_ n1_; clear ho hb hg hat))
                                  go_roundg k4
                                  case measure => have := HJ1.out; have := HK2.out; have := HK3.out; have := HK4.out; omega
                                  case rel => exact ⟨(x0_4), (y104), (x5_3), (by first | rfl | (simp; done) | (simp [*]; done)), (by first | rfl | (simp; done) | (simp [*]; done)), H', ⟨by have := HJ1.out; have := HK2.out; have := HK3.out; have := HK4.out; omega⟩, ⟨by (with_reducible repeat (first | apply Kd.R_alloc | apply Kd.R_drewN | apply Kd.R_drew)); exact HO106.out⟩, ⟨by repeat (first | (with_reducible first | exact HB.out | apply below_alloc | apply pw_below_drewN | apply below_drew1) | exact HB.out)⟩⟩
                                · rw [if_neg c13] at H
                                  exact absurd H (by simp)
                      · rw [if_neg c10] at H
                        have c10b0 : ((Int.tmod x0_2 x5_3) == 0) = false := beq_eq_false_iff_ne.mpr c10
                        have c10b1 : ((Int.tmod x0_2 x5_3) != 0) = true := bne_iff_ne.mpr c10
                        have H' := Aside0.mk H
                        clear H
                        go_wp2
                        go_roundg k3
                        case measure => have := HJ1.out; have := HK2.out; have := HK3.out; omega
                        case rel => exact ⟨(x4_3), (wrap64 (x5_3 + 1)), (by first | rfl | (simp; done) | (simp [*]; done)), H', ⟨by have := HJ1.out; have := HK2.out; have := HK3.out; omega⟩, ⟨by (with_reducible repeat (first | apply Kd.R_alloc | apply Kd.R_drewN | apply Kd.R_drew)); exact HO_4.out⟩, ⟨by repeat (first | (with_reducible first | exact HB.out | apply below_alloc | apply pw_below_drewN | apply below_drew1) | exact HB.out)⟩⟩
            · rw [if_neg c5] at H
              have c5b0 : decide (1 < x0_2) = false := decide_eq_false c5
              clear c5
              simp only [Option.some.injEq, Prod.mk.injEq] at H
              obtain ⟨rfl, rfl⟩ := H
              go_wp2
              (try rw [Exit.noGoto_ret])
              go_ret2
              exact ⟨_, by first | rfl | (simp [errW_none, errW_some] <;> rfl) | (simp [*, errW_none, errW_some] <;> rfl), by (with_reducible repeat (first | apply Kd.R_alloc | apply Kd.R_drewN | apply Kd.R_drew)); exact HO_4.out, by repeat (first | (with_reducible first | exact HB.out | apply below_alloc | apply pw_below_drewN | apply below_drew1) | exact HB.out)⟩

end Go.Proofs.Ytcjhbjfkcmncpaa.Q
