-- Written by a program of this session out of the translation.
import Derived.Test.YtcjhbjfkcmncpaaQx0
import Derived.Test.YtcjhbjfkcmncpaaQx13
import Derived.Test.YtcjhbjfkcmncpaaQx18
import Derived.Test.YtcjhbjfkcmncpaaQx20
namespace Go.Proofs.Ytcjhbjfkcmncpaa.Q
open Go.RowKit Go.Proofs.YtcjhbjfkcmncpaaW.PrintWords Go.Proofs.YtcjhbjfkcmncpaaW.PrintLast Go.Proofs.YtcjhbjfkcmncpaaW.PrintMore
attribute [local go_sem] max2_int min2_int max_two min_two max_three min_three max_four min_four   -- for this text's walks alone
set_option linter.unusedVariables false
set_option linter.unusedSimpArgs false

/-! ### quadformref22_Symbol: function 39 -/
mutual
def quadformref22_Symbol.j0 : Nat → Int → Int → Int → Option (Int)
  | 0, _, _, _ => none
  | k + 1, x0, x1, x5 => (quadformref22_Factor.f k x1).bind fun bt173 => (quadformref22_Symbol.l0 k x0 x5 bt173.1 (bt173.1.length : Int) 0)
def quadformref22_Symbol.l0 : Nat → Int → Int → List (S30) → Int → Int → Option (Int)
  | 0, _, _, _, _, _ => none
  | k + 1, x0, x5, x30, x31, x32 => if x32 < x31 then (if 0 ≤ x32 then (if x32 < (x30.length : Int) then (quadformref22_Symbol.l1 k x0 x5 0 x30 x31 x32 ((rd_T30 x30 x32).f0) ((rd_T30 x30 x32).f1)) else (none)) else (none)) else (some x5)
def quadformref22_Symbol.l1 : Nat → Int → Int → Int → List (S30) → Int → Int → Int → Int → Option (Int)
  | 0, _, _, _, _, _, _, _, _ => none
  | k + 1, x0, x5, x10, x30, x31, x32, x179000, x179001 => if x10 < x179001 then (if x179000 = 2 then ((quadformref22_two.f k x0).bind fun t179 => (quadformref22_Symbol.l1 k x0 (wrap64 (x5 * t179)) (wrap64 (x10 + 1)) x30 x31 x32 x179000 x179001)) else ((quadformref22_Legendre.f k x0 x179000).bind fun t180 => (quadformref22_Symbol.l1 k x0 (wrap64 (x5 * t180)) (wrap64 (x10 + 1)) x30 x31 x32 x179000 x179001))) else (quadformref22_Symbol.l0 k x0 x5 x30 x31 (wrap64 (x32 + 1)))
end
def quadformref22_Symbol.f (k : Nat) (a0 : Int) (a1 : Int) : Option (Int) := if a1 = 0 then (if a0 = 1 then (some 1) else (if a0 = (-1) then (some 1) else (some 0))) else (if a1 < 0 then (if a0 < 0 then (quadformref22_Symbol.j0 k a0 (wrap64 (-a1)) (-1)) else (quadformref22_Symbol.j0 k a0 (wrap64 (-a1)) 1)) else (quadformref22_Symbol.j0 k a0 a1 1))
theorem quadformref22_Symbol.mono_l : ∀ k, (∀ y0 y1 y2, LeO (quadformref22_Symbol.j0 k y0 y1 y2) (quadformref22_Symbol.j0 (k + 1) y0 y1 y2)) ∧ (∀ y0 y1 y2 y3 y4, LeO (quadformref22_Symbol.l0 k y0 y1 y2 y3 y4) (quadformref22_Symbol.l0 (k + 1) y0 y1 y2 y3 y4)) ∧ (∀ y0 y1 y2 y3 y4 y5 y6 y7, LeO (quadformref22_Symbol.l1 k y0 y1 y2 y3 y4 y5 y6 y7) (quadformref22_Symbol.l1 (k + 1) y0 y1 y2 y3 y4 y5 y6 y7))
  | 0 => ⟨fun _ _ _ r h => by simp [quadformref22_Symbol.j0] at h, fun _ _ _ _ _ r h => by simp [quadformref22_Symbol.l0] at h, fun _ _ _ _ _ _ _ _ r h => by simp [quadformref22_Symbol.l1] at h⟩
  | k + 1 => by
    obtain ⟨ih0, ih1, ih2⟩ := quadformref22_Symbol.mono_l k
    refine ⟨?_, ?_, ?_⟩
    · intro y0 y1 y2
      unfold quadformref22_Symbol.j0
      repeat' first
      | (with_reducible exact ih0 _ _ _)
      | (with_reducible exact ih1 _ _ _ _ _)
      | (with_reducible exact ih2 _ _ _ _ _ _ _ _)
      | (with_reducible exact quadformref22_Factor.mono _ _)
      | (with_reducible exact quadformref22_Legendre.mono _ _ _)
      | (with_reducible exact quadformref22_two.mono _ _)
      | (with_reducible exact LeO.refl _)
      | (with_reducible exact LeO.none _)
      | (with_reducible refine LeO.ite ?_ ?_)
      | (with_reducible refine LeO.bind ?_ (fun _ => ?_))
      | exact ih0 _ _ _
      | exact ih1 _ _ _ _ _
      | exact ih2 _ _ _ _ _ _ _ _
      | exact quadformref22_Factor.mono _ _
      | exact quadformref22_Legendre.mono _ _ _
      | exact quadformref22_two.mono _ _
      | exact LeO.none _
      | refine LeO.ite ?_ ?_
      | refine LeO.bind ?_ (fun _ => ?_)
    · intro y0 y1 y2 y3 y4
      unfold quadformref22_Symbol.l0
      repeat' first
      | (with_reducible exact ih0 _ _ _)
      | (with_reducible exact ih1 _ _ _ _ _)
      | (with_reducible exact ih2 _ _ _ _ _ _ _ _)
      | (with_reducible exact quadformref22_Factor.mono _ _)
      | (with_reducible exact quadformref22_Legendre.mono _ _ _)
      | (with_reducible exact quadformref22_two.mono _ _)
      | (with_reducible exact LeO.refl _)
      | (with_reducible exact LeO.none _)
      | (with_reducible refine LeO.ite ?_ ?_)
      | (with_reducible refine LeO.bind ?_ (fun _ => ?_))
      | exact ih0 _ _ _
      | exact ih1 _ _ _ _ _
      | exact ih2 _ _ _ _ _ _ _ _
      | exact quadformref22_Factor.mono _ _
      | exact quadformref22_Legendre.mono _ _ _
      | exact quadformref22_two.mono _ _
      | exact LeO.none _
      | refine LeO.ite ?_ ?_
      | refine LeO.bind ?_ (fun _ => ?_)
    · intro y0 y1 y2 y3 y4 y5 y6 y7
      unfold quadformref22_Symbol.l1
      repeat' first
      | (with_reducible exact ih0 _ _ _)
      | (with_reducible exact ih1 _ _ _ _ _)
      | (with_reducible exact ih2 _ _ _ _ _ _ _ _)
      | (with_reducible exact quadformref22_Factor.mono _ _)
      | (with_reducible exact quadformref22_Legendre.mono _ _ _)
      | (with_reducible exact quadformref22_two.mono _ _)
      | (with_reducible exact LeO.refl _)
      | (with_reducible exact LeO.none _)
      | (with_reducible refine LeO.ite ?_ ?_)
      | (with_reducible refine LeO.bind ?_ (fun _ => ?_))
      | exact ih0 _ _ _
      | exact ih1 _ _ _ _ _
      | exact ih2 _ _ _ _ _ _ _ _
      | exact quadformref22_Factor.mono _ _
      | exact quadformref22_Legendre.mono _ _ _
      | exact quadformref22_two.mono _ _
      | exact LeO.none _
      | refine LeO.ite ?_ ?_
      | refine LeO.bind ?_ (fun _ => ?_)
theorem quadformref22_Symbol.mono : ∀ a0 a1 k, LeO (quadformref22_Symbol.f k a0 a1) (quadformref22_Symbol.f (k + 1) a0 a1) := by
  intro a0 a1 k
  obtain ⟨ih0, ih1, ih2⟩ := quadformref22_Symbol.mono_l k
  unfold quadformref22_Symbol.f
  repeat' first
      | (with_reducible exact ih0 _ _ _)
      | (with_reducible exact ih1 _ _ _ _ _)
      | (with_reducible exact ih2 _ _ _ _ _ _ _ _)
      | (with_reducible exact quadformref22_Factor.mono _ _)
      | (with_reducible exact quadformref22_Legendre.mono _ _ _)
      | (with_reducible exact quadformref22_two.mono _ _)
      | (with_reducible exact LeO.refl _)
      | (with_reducible exact LeO.none _)
      | (with_reducible refine LeO.ite ?_ ?_)
      | (with_reducible refine LeO.bind ?_ (fun _ => ?_))
      | exact ih0 _ _ _
      | exact ih1 _ _ _ _ _
      | exact ih2 _ _ _ _ _ _ _ _
      | exact quadformref22_Factor.mono _ _
      | exact quadformref22_Legendre.mono _ _ _
      | exact quadformref22_two.mono _ _
      | exact LeO.none _
      | refine LeO.ite ?_ ?_
      | refine LeO.bind ?_ (fun _ => ?_)
set_option maxHeartbeats 8000000 in
set_option maxRecDepth 100000 in
theorem quadformref22_Symbol.calls (k : Nat) (a0 : Int) (a1 : Int) (r : Int) (w : World) (h : quadformref22_Symbol.f k a0 a1 = some r) :
    Calls Try.prog 39 #[.int .i64 a0, .int .i64 a1] w fun e w' => e = .returned (.int .i64 r) ∧ Below w.heap.size w w' := by
  have hu30 := Try.underlying30
  have HB := Aside0.mk (Below.refl w.heap.size w)
  have H : (if a1 = 0 then (if a0 = 1 then (some 1) else (if a0 = (-1) then (some 1) else (some 0))) else (if a1 < 0 then (if a0 < 0 then (quadformref22_Symbol.j0 k a0 (wrap64 (-a1)) (-1)) else (quadformref22_Symbol.j0 k a0 (wrap64 (-a1)) 1)) else (quadformref22_Symbol.j0 k a0 a1 1))) = some r := h
  clear h
  by_cases c3 : a1 = 0
  · rw [if_pos c3] at H
    have c3b0 : (a1 == 0) = true := beq_iff_eq.mpr c3
    have c3b1 : (a1 != 0) = false := bne_eq_false_iff_eq.mpr c3
    clear c3
    by_cases c4 : a0 = 1
    · rw [if_pos c4] at H
      have c4b0 : (a0 == 1) = true := beq_iff_eq.mpr c4
      have c4b1 : (a0 != 1) = false := bne_eq_false_iff_eq.mpr c4
      clear c4
      obtain rfl := Option.some.inj H
      go_enter Try.func39, Try.ntmps39
      go_wp2
      go_ret
      exact ⟨by first | rfl | (simp [errW_none, errW_some] <;> rfl) | (simp [*, errW_none, errW_some] <;> rfl), by repeat (first | (with_reducible first | exact HB.out | apply below_alloc | apply pw_below_drewN | apply below_drew1) | exact HB.out)⟩
    · rw [if_neg c4] at H
      have c4b0 : (a0 == 1) = false := beq_eq_false_iff_ne.mpr c4
      have c4b1 : (a0 != 1) = true := bne_iff_ne.mpr c4
      by_cases c5 : a0 = (-1)
      · rw [if_pos c5] at H
        have c5b0 : (a0 == (-1)) = true := beq_iff_eq.mpr c5
        have c5b1 : (a0 != (-1)) = false := bne_eq_false_iff_eq.mpr c5
        clear c5
        obtain rfl := Option.some.inj H
        go_enter Try.func39, Try.ntmps39
        go_wp2
        go_ret
        exact ⟨by first | rfl | (simp [errW_none, errW_some] <;> rfl) | (simp [*, errW_none, errW_some] <;> rfl), by repeat (first | (with_reducible first | exact HB.out | apply below_alloc | apply pw_below_drewN | apply below_drew1) | exact HB.out)⟩
      · rw [if_neg c5] at H
        have c5b0 : (a0 == (-1)) = false := beq_eq_false_iff_ne.mpr c5
        have c5b1 : (a0 != (-1)) = true := bne_iff_ne.mpr c5
        obtain rfl := Option.some.inj H
        go_enter Try.func39, Try.ntmps39
        go_wp2
        go_ret
        exact ⟨by first | rfl | (simp [errW_none, errW_some] <;> rfl) | (simp [*, errW_none, errW_some] <;> rfl), by repeat (first | (with_reducible first | exact HB.out | apply below_alloc | apply pw_below_drewN | apply below_drew1) | exact HB.out)⟩
  · rw [if_neg c3] at H
    have c3b0 : (a1 == 0) = false := beq_eq_false_iff_ne.mpr c3
    have c3b1 : (a1 != 0) = true := bne_iff_ne.mpr c3
    have HC6 := Aside0.mk H
    clear H
    go_enter Try.func39, Try.ntmps39
    go_upto_if 20 with (fail)
    go_cut [1, 5] (fun v1 v5 wc => ∃ (kq : Nat) (x1_5 : Int) (x5_5 : Int), v1 = .int .i64 x1_5 ∧ v5 = .int .i64 x5_5 ∧ Aside0 (quadformref22_Symbol.j0 kq a0 x1_5 x5_5 = some r) ∧ Aside0 (kq ≤ k) ∧ Aside0 (Below w.heap.size w wc))
    case first =>
      have H := HC6.out
      clear HC6
      by_cases c7 : a1 < 0
      · rw [if_pos c7] at H
        have c7b0 : decide (a1 < 0) = true := decide_eq_true c7
        clear c7
        (first | rw [c7b0] | (simp only [i64_w, i32_w]; rw [c7b0]) | skip)
        by_cases c8 : a0 < 0
        · rw [if_pos c8] at H
          have c8b0 : decide (a0 < 0) = true := decide_eq_true c8
          clear c8
          have H' := Aside0.mk H
          clear H
          go_wp2
          go_meet
          case rel => exact ⟨_, (wrap64 (-a1)), ((-1)), (by first | rfl | (simp; done) | (simp [*]; done)), (by first | rfl | (simp; done) | (simp [*]; done)), H', ⟨by first | omega | exact Nat.le_refl _⟩, ⟨by repeat (first | (with_reducible first | exact HB.out | apply below_alloc | apply pw_below_drewN | apply below_drew1) | exact HB.out)⟩⟩
        · rw [if_neg c8] at H
          have c8b0 : decide (a0 < 0) = false := decide_eq_false c8
          clear c8
          have H' := Aside0.mk H
          clear H
          go_wp2
          go_meet
          case rel => exact ⟨_, (wrap64 (-a1)), (1), (by first | rfl | (simp; done) | (simp [*]; done)), (by first | rfl | (simp; done) | (simp [*]; done)), H', ⟨by first | omega | exact Nat.le_refl _⟩, ⟨by repeat (first | (with_reducible first | exact HB.out | apply below_alloc | apply pw_below_drewN | apply below_drew1) | exact HB.out)⟩⟩
      · rw [if_neg c7] at H
        have c7b0 : decide (a1 < 0) = false := decide_eq_false c7
        clear c7
        (first | rw [c7b0] | (simp only [i64_w, i32_w]; rw [c7b0]) | skip)
        have H' := Aside0.mk H
        clear H
        go_wp2
        go_meet
        case rel => exact ⟨_, (a1), (1), (by first | rfl | (simp; done) | (simp [*]; done)), (by first | rfl | (simp; done) | (simp [*]; done)), H', ⟨by first | omega | exact Nat.le_refl _⟩, ⟨by repeat (first | (with_reducible first | exact HB.out | apply below_alloc | apply pw_below_drewN | apply below_drew1) | exact HB.out)⟩⟩
    case rest =>
      clear HC6
      try clear p2
      try clear c3
      try clear c3b0
      try clear c3b1
      try clear c4
      try clear c4b0
      try clear c4b1
      try clear c5
      try clear c5b0
      try clear c5b1
      try clear p6
      try clear c7
      try clear c7b0
      try clear c8
      try clear c8b0
      obtain ⟨kq, x1_5, x5_5, rfl, rfl, HA, HJ5, HB⟩ := hcut
      cases kq with
      | zero => exact absurd HA.out (by simp [quadformref22_Symbol.j0])
      | succ kj5 =>
        have H := HA.out
        clear HA
        simp only [quadformref22_Symbol.j0] at H
        replace H := Option.bind_eq_some_iff.mp H
        obtain ⟨⟨t173, t174⟩, A90, H⟩ := H
        replace H : (quadformref22_Symbol.l0 kj5 a0 x5_5 t173 (t173.length : Int) 0) = some r := H
        have A9 := Aside0.mk A90
        clear A90
        have H' := Aside0.mk H
        clear H
        go_wp2_with (first | ((with_reducible refine gate_callee (f := 19) rfl ?_); refine goesL_ (some 27) rfl rfl Try.func19 (by kernel_rfl) rfl #[.int .i64 x1_5] rfl (by (try simp only [List.map_toArray, List.map_cons, List.map_nil]); first | done | rfl | (simp only [List.length_drop, List.length_take]; rfl)) ?_; (with_reducible refine (quadformref22_Factor.calls kj5 x1_5 t173 t174 _ A9.out).mono ?_); rintro e w10 ⟨v175, rfl, ho0, hb⟩; refine ⟨_, rfl, ?_⟩; have n0_ := Aside0.mk (Kd.R_lower ho0 (below_size (by repeat (first | (with_reducible first | exact HB.out | apply below_alloc | apply pw_below_drewN | apply below_drew1) | exact HB.out)))); have n1_ := Aside0.mk (below_step (by repeat (first | (with_reducible first | exact HB.out | apply below_alloc | apply pw_below_drewN | apply below_drew1) | exact HB.out)) hb); clear HB; have HO176 := n0_; have HB := n1_; clear n0_ n1_; (try clear hb); (try clear hb2); (try clear hk); (try clear hi); (try clear ho0); obtain ⟨Ao11, co11, eo11⟩ := Kd.R_slice HO176.out; subst eo11))
        go_loopg [5, 32] kj5 (fun kq v5 v32 w' => ∃ (x5_2 : Int) (x32_2 : Int), v5 = .int .i64 x5_2 ∧ v32 = .int .i64 x32_2 ∧ Aside0 (quadformref22_Symbol.l0 kq a0 x5_2 t173 (t173.length : Int) x32_2 = some r) ∧ Aside0 (kq ≤ kj5) ∧ Aside0 (Kd.R k30 30 w' w.heap.size (fun _ => True) (.slice Ao11 t173.length co11) t173) ∧ Aside0 (Below w.heap.size w w'))
        case atStart => exact ⟨(x5_5), (0), (by first | rfl | (simp; done) | (simp [*]; done)), (by first | rfl | (simp; done) | (simp [*]; done)), H', ⟨Nat.le_refl _⟩, ⟨by (with_reducible repeat (first | apply Kd.R_alloc | apply Kd.R_drewN | apply Kd.R_drew)); exact HO176.out⟩, ⟨by repeat (first | (with_reducible first | exact HB.out | apply below_alloc | apply pw_below_drewN | apply below_drew1) | exact HB.out)⟩⟩
        case round =>
          clear H'
          try clear c1
          try clear p2
          try clear c3
          try clear c3b0
          try clear c3b1
          try clear c4
          try clear c4b0
          try clear c4b1
          try clear c5
          try clear c5b0
          try clear c5b1
          try clear p6
          try clear c7
          try clear c7b0
          try clear c8
          try clear c8b0
          try clear p2
          try clear p6
          obtain ⟨x5_2, x32_2, rfl, rfl, HA, HK2, HO_30, HB⟩ := hrel
          cases gk with
          | zero => exact absurd HA.out (by simp [quadformref22_Symbol.l0])
          | succ k2 =>
            have H := HA.out
            clear HA
            simp only [quadformref22_Symbol.l0] at H
            by_cases c12 : x32_2 < (t173.length : Int)
            · rw [if_pos c12] at H
              have c12b0 : decide (x32_2 < (t173.length : Int)) = true := decide_eq_true c12
              clear c12
              by_cases c13 : 0 ≤ x32_2
              · rw [if_pos c13] at H
                have c13b0 : decide (0 ≤ x32_2) = true := decide_eq_true c13
                clear c13
                by_cases c14 : x32_2 < (t173.length : Int)
                · rw [if_pos c14] at H
                  have c14b0 : decide (x32_2 < (t173.length : Int)) = true := decide_eq_true c14
                  clear c14
                  have H' := Aside0.mk H
                  clear H
                  have p177 : 0 ≤ (x32_2 : Int) := of_decide_eq_true (by first | (with_reducible assumption) | assumption)
                  have q177 : x32_2 < (t173.length : Int) := of_decide_eq_true (by first | (with_reducible assumption) | assumption)
                  obtain ⟨ad177, e177, hx177_0, hx177_1⟩ := at_T30 (Kd.R_reads' HO_30.out).2.2 x32_2 p177 q177
                  cases e177
                  replace p177 := eq_true p177
                  replace q177 := eq_true q177
                  go_wp2_with (first | ((with_reducible refine gate_dst (N := 9) rfl ?_); refine box_event ?hg (N := 9) ?hd (cs := #[.int .i64 0, .int .i64 0]) (t := 30) ?hr ?_; (case hd => rfl); (case hg => rfl); (case hr => first | (go_simp; done) | (go_simp; rfl)); intro gb178 hg w15 hbox hb; have n0_ := Aside0.mk (Kd.R_below (Kd.R_elderB (by (with_reducible repeat (first | apply Kd.R_alloc | apply Kd.R_drewN | apply Kd.R_drew)); exact HO_30.out) gb178 (Nat.le_of_eq hg.symm)) hb); have n1_ := Aside0.mk (below_step (by repeat (first | (with_reducible first | exact HB.out | apply below_alloc | apply pw_below_drewN | apply below_drew1) | exact HB.out)) hb); have n2_ := Aside0.mk (hbox); have n3_ := Aside0.mk ((by rw [hg]; exact (below_size (by repeat (first | (with_reducible first | exact HB.out | apply below_alloc | apply pw_below_drewN | apply below_drew1) | exact HB.out))) : w.heap.size ≤ gb178)); have n4_ := Aside0.mk ((by rw [hg]; exact (below_size (by repeat (first | (with_reducible first | exact HB.out | apply below_alloc | apply pw_below_drewN | apply below_drew1) | exact HB.out))) : w.heap.size ≤ gb178)); clear HO_30; clear HB; have HO_30 := n0_; have HB := n1_; have BK178 := n2_; have GW178 := n3_; have GE178 := n4_; clear n0_ n1_ n2_ n3_ n4_; clear hb hbox hg; have hcz16_0 : w15.cell? ⟨gb178, 0, none⟩ = some (.int .i64 0) := (blk_cell BK178.out 0).trans rfl; have hcz16_1 : w15.cell? ⟨gb178, 1, none⟩ = some (.int .i64 0) := (blk_cell BK178.out 1).trans rfl; have hfz16_0 := blk_frozen BK178.out 0; have hfz16_1 := blk_frozen BK178.out 1))
                  go_loopg [5, 10] k2 (fun kq v5 v10 w' => ∃ (x5_3 : Int) (x10_3 : Int), v5 = .int .i64 x5_3 ∧ v10 = .int .i64 x10_3 ∧ Aside0 (quadformref22_Symbol.l1 kq a0 x5_3 x10_3 t173 (t173.length : Int) x32_2 ((rd_T30 t173 x32_2).f0) ((rd_T30 t173 x32_2).f1) = some r) ∧ Aside0 (kq ≤ k2) ∧ Aside0 (Kd.R k30 30 w' w.heap.size (fun k_ => k_ ≠ gb178) (.slice (some ad177) t173.length co11) t173) ∧ Aside0 (w'.heap[gb178]? = some (.cells #[.int .i64 ((rd_T30 t173 x32_2).f0), .int .i64 ((rd_T30 t173 x32_2).f1)] 30 (0, 0))) ∧ Aside0 (Below w.heap.size w w'))
                  case atStart => exact ⟨(x5_2), (0), (by first | rfl | (simp; done) | (simp [*]; done)), (by first | rfl | (simp; done) | (simp [*]; done)), H', ⟨Nat.le_refl _⟩, ⟨by (with_reducible repeat (first | apply Kd.R_alloc | apply Kd.R_drewN | apply Kd.R_drew)); exact Kd.R_mono (Kd.R_far (p := ⟨gb178, 1, none⟩) (Kd.R_far (p := ⟨gb178, 0, none⟩) (Kd.R_mono HO_30.out (fun k_ hk => (⟨hk, hk.2⟩ : _ ∧ k_ ≠ gb178))) (fun _ hk => hk.2) (.int .i64 ((rd_T30 t173 x32_2).f0))) (fun _ hk => hk.2) (.int .i64 ((rd_T30 t173 x32_2).f1))) (fun _ hk => hk.1.2)⟩, ⟨by (with_reducible repeat (first | refine blk_drewN ?_ _ | refine blk_drew ?_ | refine blk_alloc ?_ _)); refine blk_put (cs := #[.int .i64 ((rd_T30 t173 x32_2).f0), .int .i64 0]) ?_ 1 _ rfl; (with_reducible repeat (first | refine blk_drewN ?_ _ | refine blk_drew ?_ | refine blk_alloc ?_ _)); refine blk_put (cs := #[.int .i64 0, .int .i64 0]) ?_ 0 _ rfl; (with_reducible repeat (first | refine blk_drewN ?_ _ | refine blk_drew ?_ | refine blk_alloc ?_ _)); exact BK178.out⟩, ⟨by repeat (first | (with_reducible first | exact HB.out | apply below_alloc | apply pw_below_drewN | apply below_drew1 | refine below_set ?_ GE178.out) | exact HB.out)⟩⟩
                  case round =>
                    clear H'
                    try clear c1
                    try clear p1
                    try clear q1
                    try clear hx1
                    try clear p2
                    try clear c3
                    try clear c3b0
                    try clear c3b1
                    try clear c4
                    try clear c4b0
                    try clear c4b1
                    try clear c5
                    try clear c5b0
                    try clear c5b1
                    try clear p6
                    try clear c7
                    try clear c7b0
                    try clear c8
                    try clear c8b0
                    try clear c12
                    try clear c12b0
                    try clear c13
                    try clear c13b0
                    try clear c14
                    try clear c14b0
                    try clear hcz16_0
                    try clear hcz16_1
                    try clear hfz16_0
                    try clear hfz16_1
                    try clear hx177_0
                    try clear hx177_1
                    try clear p177
                    try clear p2
                    try clear p6
                    try clear q177
                    obtain ⟨x5_3, x10_3, rfl, rfl, HA, HK3, HO_30, BK178, HB⟩ := hrel
                    cases gk with
                    | zero => exact absurd HA.out (by simp [quadformref22_Symbol.l1])
                    | succ k3 =>
                      have H := HA.out
                      clear HA
                      simp only [quadformref22_Symbol.l1] at H
                      by_cases c17 : x10_3 < ((rd_T30 t173 x32_2).f1)
                      · rw [if_pos c17] at H
                        have c17b0 : decide (x10_3 < ((rd_T30 t173 x32_2).f1)) = true := decide_eq_true c17
                        clear c17
                        by_cases c18 : ((rd_T30 t173 x32_2).f0) = 2
                        · rw [if_pos c18] at H
                          have c18b0 : (((rd_T30 t173 x32_2).f0) == 2) = true := beq_iff_eq.mpr c18
                          have c18b1 : (((rd_T30 t173 x32_2).f0) != 2) = false := bne_eq_false_iff_eq.mpr c18
                          clear c18
                          replace H := Option.bind_eq_some_iff.mp H
                          obtain ⟨t179, A190, H⟩ := H
                          replace H : (quadformref22_Symbol.l1 k3 a0 (wrap64 (x5_3 * t179)) (wrap64 (x10_3 + 1)) t173 (t173.length : Int) x32_2 ((rd_T30 t173 x32_2).f0) ((rd_T30 t173 x32_2).f1)) = some r := H
                          have A19 := Aside0.mk A190
                          clear A190
                          have H' := Aside0.mk H
                          clear H
                          have hcz20_0 : wr.cell? ⟨gb178, 0, none⟩ = some (.int .i64 ((rd_T30 t173 x32_2).f0)) := (blk_cell BK178.out 0).trans rfl
                          have hcz20_1 : wr.cell? ⟨gb178, 1, none⟩ = some (.int .i64 ((rd_T30 t173 x32_2).f1)) := (blk_cell BK178.out 1).trans rfl
                          have hfz20_0 := blk_frozen BK178.out 0
                          have hfz20_1 := blk_frozen BK178.out 1
                          go_wp2_with (first | ((with_reducible refine gate_callee (f := 54) rfl ?_); refine goesL_ (some 47) rfl rfl Try.func54 (by kernel_rfl) rfl #[.int .i64 a0] rfl (by (try simp only [List.map_toArray, List.map_cons, List.map_nil]); first | done | rfl | (simp only [List.length_drop, List.length_take]; rfl)) ?_; (with_reducible refine (quadformref22_two.calls k3 a0 t179 _ A19.out).mono ?_); rintro e w' ⟨rfl, ⟨nd, rfl⟩⟩; refine ⟨_, rfl, ?_⟩))
                          go_roundg k3
                          case measure => have := HJ5.out; have := HK2.out; have := HK3.out; omega
                          case rel => exact ⟨(wrap64 (x5_3 * t179)), (wrap64 (x10_3 + 1)), (by first | rfl | (simp; done) | (simp [*]; done)), (by first | rfl | (simp; done) | (simp [*]; done)), H', ⟨by have := HJ5.out; have := HK2.out; have := HK3.out; omega⟩, ⟨by (with_reducible repeat (first | apply Kd.R_alloc | apply Kd.R_drewN | apply Kd.R_drew)); exact HO_30.out⟩, ⟨by (with_reducible repeat (first | refine blk_drewN ?_ _ | refine blk_drew ?_ | refine blk_alloc ?_ _)); exact BK178.out⟩, ⟨by repeat (first | (with_reducible first | exact HB.out | apply below_alloc | apply pw_below_drewN | apply below_drew1 | refine below_set ?_ GE178.out) | exact HB.out)⟩⟩
                        · rw [if_neg c18] at H
                          have c18b0 : (((rd_T30 t173 x32_2).f0) == 2) = false := beq_eq_false_iff_ne.mpr c18
                          have c18b1 : (((rd_T30 t173 x32_2).f0) != 2) = true := bne_iff_ne.mpr c18
                          replace H := Option.bind_eq_some_iff.mp H
                          obtain ⟨t180, A210, H⟩ := H
                          replace H : (quadformref22_Symbol.l1 k3 a0 (wrap64 (x5_3 * t180)) (wrap64 (x10_3 + 1)) t173 (t173.length : Int) x32_2 ((rd_T30 t173 x32_2).f0) ((rd_T30 t173 x32_2).f1)) = some r := H
                          have A21 := Aside0.mk A210
                          clear A210
                          have H' := Aside0.mk H
                          clear H
                          have hcz22_0 : wr.cell? ⟨gb178, 0, none⟩ = some (.int .i64 ((rd_T30 t173 x32_2).f0)) := (blk_cell BK178.out 0).trans rfl
                          have hcz22_1 : wr.cell? ⟨gb178, 1, none⟩ = some (.int .i64 ((rd_T30 t173 x32_2).f1)) := (blk_cell BK178.out 1).trans rfl
                          have hfz22_0 := blk_frozen BK178.out 0
                          have hfz22_1 := blk_frozen BK178.out 1
                          go_wp2_with (first | ((with_reducible refine gate_callee (f := 55) rfl ?_); refine goesL_ (some 53) rfl rfl Try.func55 (by kernel_rfl) rfl #[.int .i64 a0, .int .i64 ((rd_T30 t173 x32_2).f0)] rfl (by (try simp only [List.map_toArray, List.map_cons, List.map_nil]); first | done | rfl | (simp only [List.length_drop, List.length_take]; rfl)) ?_; (with_reducible refine (quadformref22_Legendre.calls k3 a0 ((rd_T30 t173 x32_2).f0) t180 _ A21.out).mono ?_); rintro e w' ⟨rfl, ⟨nd, rfl⟩⟩; refine ⟨_, rfl, ?_⟩))
                          go_roundg k3
                          case measure => have := HJ5.out; have := HK2.out; have := HK3.out; omega
                          case rel => exact ⟨(wrap64 (x5_3 * t180)), (wrap64 (x10_3 + 1)), (by first | rfl | (simp; done) | (simp [*]; done)), (by first | rfl | (simp; done) | (simp [*]; done)), H', ⟨by have := HJ5.out; have := HK2.out; have := HK3.out; omega⟩, ⟨by (with_reducible repeat (first | apply Kd.R_alloc | apply Kd.R_drewN | apply Kd.R_drew)); exact HO_30.out⟩, ⟨by (with_reducible repeat (first | refine blk_drewN ?_ _ | refine blk_drew ?_ | refine blk_alloc ?_ _)); exact BK178.out⟩, ⟨by repeat (first | (with_reducible first | exact HB.out | apply below_alloc | apply pw_below_drewN | apply below_drew1 | refine below_set ?_ GE178.out) | exact HB.out)⟩⟩
                      · rw [if_neg c17] at H
                        have c17b0 : decide (x10_3 < ((rd_T30 t173 x32_2).f1)) = false := decide_eq_false c17
                        clear c17
                        have H' := Aside0.mk H
                        clear H
                        have hcz23_0 : wr.cell? ⟨gb178, 0, none⟩ = some (.int .i64 ((rd_T30 t173 x32_2).f0)) := (blk_cell BK178.out 0).trans rfl
                        have hcz23_1 : wr.cell? ⟨gb178, 1, none⟩ = some (.int .i64 ((rd_T30 t173 x32_2).f1)) := (blk_cell BK178.out 1).trans rfl
                        have hfz23_0 := blk_frozen BK178.out 0
                        have hfz23_1 := blk_frozen BK178.out 1
                        go_wp2
                        go_roundg k3
                        case measure => have := HJ5.out; have := HK2.out; have := HK3.out; omega
                        case rel => exact ⟨(x5_3), (wrap64 (x32_2 + 1)), (by first | rfl | (simp; done) | (simp [*]; done)), (by first | rfl | (simp; done) | (simp [*]; done)), H', ⟨by have := HJ5.out; have := HK2.out; have := HK3.out; omega⟩, ⟨by (with_reducible repeat (first | apply Kd.R_alloc | apply Kd.R_drewN | apply Kd.R_drew)); exact Kd.R_mono HO_30.out (fun _ hk => trivial)⟩, ⟨by repeat (first | (with_reducible first | exact HB.out | apply below_alloc | apply pw_below_drewN | apply below_drew1 | refine below_set ?_ GE178.out) | exact HB.out)⟩⟩
                · rw [if_neg c14] at H
                  exact absurd H (by simp)
              · rw [if_neg c13] at H
                exact absurd H (by simp)
            · rw [if_neg c12] at H
              have c12b0 : decide (x32_2 < (t173.length : Int)) = false := decide_eq_false c12
              clear c12
              obtain rfl := Option.some.inj H
              go_wp2
              go_ret
              exact ⟨by first | rfl | (simp [errW_none, errW_some] <;> rfl) | (simp [*, errW_none, errW_some] <;> rfl), by repeat (first | (with_reducible first | exact HB.out | apply below_alloc | apply pw_below_drewN | apply below_drew1) | exact HB.out)⟩

end Go.Proofs.Ytcjhbjfkcmncpaa.Q
