-- Written by a program of this session out of the translation.
import Derived.Test.YtcjhbjfkcmncpaaQx0
import Derived.Test.YtcjhbjfkcmncpaaQx2
import Derived.Test.YtcjhbjfkcmncpaaQx4
import Derived.Test.YtcjhbjfkcmncpaaQx11
namespace Go.Proofs.Ytcjhbjfkcmncpaa.Q
open Go.RowKit Go.Proofs.YtcjhbjfkcmncpaaW.PrintWords Go.Proofs.YtcjhbjfkcmncpaaW.PrintLast Go.Proofs.YtcjhbjfkcmncpaaW.PrintMore
attribute [local go_sem] max2_int min2_int max_two min_two max_three min_three max_four min_four   -- for this text's walks alone
set_option linter.unusedVariables false
set_option linter.unusedSimpArgs false

/-! ### quadformlaw22_PrimeProduct: function 5 -/
mutual
def quadformlaw22_PrimeProduct.j0 : Nat → Int → Option (Bool)
  | 0, _ => none
  | k + 1, x3 => (prime_Factor.f k x3).bind fun bt161 => (quadformlaw22_PrimeProduct.l0 k x3 bt161.1 bt161.2 1 bt161.1 (bt161.1.length : Int) 0)
def quadformlaw22_PrimeProduct.l0 : Nat → Int → List (S30) → Int → Int → List (S30) → Int → Int → Option (Bool)
  | 0, _, _, _, _, _, _, _ => none
  | k + 1, x3, x4, x5, x6, x22, x23, x24 => if x24 < x23 then (if 0 ≤ x24 then (if x24 < (x22.length : Int) then ((prime_Is.f k ((rd_T30 x22 x24).f0)).bind fun t168 => (if t168 = true then (if ((rd_T30 x22 x24).f1) < 1 then (quadformlaw22_PrimeProduct.j2 k x3 x4 x5 x6 x22 x23 x24 true ((rd_T30 x22 x24).f0) ((rd_T30 x22 x24).f1)) else (if ((rd_T30 x22 x24).f1) > 31 then (quadformlaw22_PrimeProduct.j2 k x3 x4 x5 x6 x22 x23 x24 true ((rd_T30 x22 x24).f0) ((rd_T30 x22 x24).f1)) else (if x24 > 0 then (if 0 ≤ (wrap64 (x24 - 1)) then (if (wrap64 (x24 - 1)) < (x4.length : Int) then (quadformlaw22_PrimeProduct.j2 k x3 x4 x5 x6 x22 x23 x24 (decide (((rd_T30 x22 x24).f0) ≤ ((rd_T30 x4 (wrap64 (x24 - 1))).f0))) ((rd_T30 x22 x24).f0) ((rd_T30 x22 x24).f1)) else (none)) else (none)) else (quadformlaw22_PrimeProduct.j2 k x3 x4 x5 x6 x22 x23 x24 false ((rd_T30 x22 x24).f0) ((rd_T30 x22 x24).f1))))) else (quadformlaw22_PrimeProduct.j2 k x3 x4 x5 x6 x22 x23 x24 true ((rd_T30 x22 x24).f0) ((rd_T30 x22 x24).f1)))) else (none)) else (none)) else (if x5 = 0 then (if x6 = x3 then ((quadformlaw22_awake.f k).bind fun t165 => (some t165)) else (some false)) else (some false))
def quadformlaw22_PrimeProduct.j2 : Nat → Int → List (S30) → Int → Int → List (S30) → Int → Int → Bool → Int → Int → Option (Bool)
  | 0, _, _, _, _, _, _, _, _, _, _ => none
  | k + 1, x3, x4, x5, x6, x22, x23, x24, x57, x168000, x168001 => if x57 = true then (some false) else (quadformlaw22_PrimeProduct.l1 k x3 x4 x5 x6 0 x22 x23 x24 x168000 x168001)
def quadformlaw22_PrimeProduct.l1 : Nat → Int → List (S30) → Int → Int → Int → List (S30) → Int → Int → Int → Int → Option (Bool)
  | 0, _, _, _, _, _, _, _, _, _, _ => none
  | k + 1, x3, x4, x5, x6, x9, x22, x23, x24, x168000, x168001 => if x9 < x168001 then (if x6 ≤ x3 then (quadformlaw22_PrimeProduct.l1 k x3 x4 x5 (wrap64 (x6 * x168000)) (wrap64 (x9 + 1)) x22 x23 x24 x168000 x168001) else (quadformlaw22_PrimeProduct.l0 k x3 x4 x5 x6 x22 x23 (wrap64 (x24 + 1)))) else (quadformlaw22_PrimeProduct.l0 k x3 x4 x5 x6 x22 x23 (wrap64 (x24 + 1)))
end
def quadformlaw22_PrimeProduct.f (k : Nat) (a0 : Int) : Option (Bool) := if (wrap64 ((Int.tmod a0 2147483647) + 1)) < 1 then (quadformlaw22_PrimeProduct.j0 k (wrap64 (2 - (wrap64 ((Int.tmod a0 2147483647) + 1))))) else (quadformlaw22_PrimeProduct.j0 k (wrap64 ((Int.tmod a0 2147483647) + 1)))
theorem quadformlaw22_PrimeProduct.mono_l : ∀ k, (∀ y0, LeO (quadformlaw22_PrimeProduct.j0 k y0) (quadformlaw22_PrimeProduct.j0 (k + 1) y0)) ∧ (∀ y0 y1 y2 y3 y4 y5 y6, LeO (quadformlaw22_PrimeProduct.l0 k y0 y1 y2 y3 y4 y5 y6) (quadformlaw22_PrimeProduct.l0 (k + 1) y0 y1 y2 y3 y4 y5 y6)) ∧ (∀ y0 y1 y2 y3 y4 y5 y6 y7 y8 y9, LeO (quadformlaw22_PrimeProduct.j2 k y0 y1 y2 y3 y4 y5 y6 y7 y8 y9) (quadformlaw22_PrimeProduct.j2 (k + 1) y0 y1 y2 y3 y4 y5 y6 y7 y8 y9)) ∧ (∀ y0 y1 y2 y3 y4 y5 y6 y7 y8 y9, LeO (quadformlaw22_PrimeProduct.l1 k y0 y1 y2 y3 y4 y5 y6 y7 y8 y9) (quadformlaw22_PrimeProduct.l1 (k + 1) y0 y1 y2 y3 y4 y5 y6 y7 y8 y9))
  | 0 => ⟨fun _ r h => by simp [quadformlaw22_PrimeProduct.j0] at h, fun _ _ _ _ _ _ _ r h => by simp [quadformlaw22_PrimeProduct.l0] at h, fun _ _ _ _ _ _ _ _ _ _ r h => by simp [quadformlaw22_PrimeProduct.j2] at h, fun _ _ _ _ _ _ _ _ _ _ r h => by simp [quadformlaw22_PrimeProduct.l1] at h⟩
  | k + 1 => by
    obtain ⟨ih0, ih1, ih2, ih3⟩ := quadformlaw22_PrimeProduct.mono_l k
    refine ⟨?_, ?_, ?_, ?_⟩
    · intro y0
      unfold quadformlaw22_PrimeProduct.j0
      repeat' first
      | (with_reducible exact ih0 _)
      | (with_reducible exact ih1 _ _ _ _ _ _ _)
      | (with_reducible exact ih2 _ _ _ _ _ _ _ _ _ _)
      | (with_reducible exact ih3 _ _ _ _ _ _ _ _ _ _)
      | (with_reducible exact prime_Factor.mono _ _)
      | (with_reducible exact prime_Is.mono _ _)
      | (with_reducible exact quadformlaw22_awake.mono _)
      | (with_reducible exact LeO.refl _)
      | (with_reducible exact LeO.none _)
      | (with_reducible refine LeO.ite ?_ ?_)
      | (with_reducible refine LeO.bind ?_ (fun _ => ?_))
      | exact ih0 _
      | exact ih1 _ _ _ _ _ _ _
      | exact ih2 _ _ _ _ _ _ _ _ _ _
      | exact ih3 _ _ _ _ _ _ _ _ _ _
      | exact prime_Factor.mono _ _
      | exact prime_Is.mono _ _
      | exact quadformlaw22_awake.mono _
      | exact LeO.none _
      | refine LeO.ite ?_ ?_
      | refine LeO.bind ?_ (fun _ => ?_)
    · intro y0 y1 y2 y3 y4 y5 y6
      unfold quadformlaw22_PrimeProduct.l0
      repeat' first
      | (with_reducible exact ih0 _)
      | (with_reducible exact ih1 _ _ _ _ _ _ _)
      | (with_reducible exact ih2 _ _ _ _ _ _ _ _ _ _)
      | (with_reducible exact ih3 _ _ _ _ _ _ _ _ _ _)
      | (with_reducible exact prime_Factor.mono _ _)
      | (with_reducible exact prime_Is.mono _ _)
      | (with_reducible exact quadformlaw22_awake.mono _)
      | (with_reducible exact LeO.refl _)
      | (with_reducible exact LeO.none _)
      | (with_reducible refine LeO.ite ?_ ?_)
      | (with_reducible refine LeO.bind ?_ (fun _ => ?_))
      | exact ih0 _
      | exact ih1 _ _ _ _ _ _ _
      | exact ih2 _ _ _ _ _ _ _ _ _ _
      | exact ih3 _ _ _ _ _ _ _ _ _ _
      | exact prime_Factor.mono _ _
      | exact prime_Is.mono _ _
      | exact quadformlaw22_awake.mono _
      | exact LeO.none _
      | refine LeO.ite ?_ ?_
      | refine LeO.bind ?_ (fun _ => ?_)
    · intro y0 y1 y2 y3 y4 y5 y6 y7 y8 y9
      unfold quadformlaw22_PrimeProduct.j2
      repeat' first
      | (with_reducible exact ih0 _)
      | (with_reducible exact ih1 _ _ _ _ _ _ _)
      | (with_reducible exact ih2 _ _ _ _ _ _ _ _ _ _)
      | (with_reducible exact ih3 _ _ _ _ _ _ _ _ _ _)
      | (with_reducible exact prime_Factor.mono _ _)
      | (with_reducible exact prime_Is.mono _ _)
      | (with_reducible exact quadformlaw22_awake.mono _)
      | (with_reducible exact LeO.refl _)
      | (with_reducible exact LeO.none _)
      | (with_reducible refine LeO.ite ?_ ?_)
      | (with_reducible refine LeO.bind ?_ (fun _ => ?_))
      | exact ih0 _
      | exact ih1 _ _ _ _ _ _ _
      | exact ih2 _ _ _ _ _ _ _ _ _ _
      | exact ih3 _ _ _ _ _ _ _ _ _ _
      | exact prime_Factor.mono _ _
      | exact prime_Is.mono _ _
      | exact quadformlaw22_awake.mono _
      | exact LeO.none _
      | refine LeO.ite ?_ ?_
      | refine LeO.bind ?_ (fun _ => ?_)
    · intro y0 y1 y2 y3 y4 y5 y6 y7 y8 y9
      unfold quadformlaw22_PrimeProduct.l1
      repeat' first
      | (with_reducible exact ih0 _)
      | (with_reducible exact ih1 _ _ _ _ _ _ _)
      | (with_reducible exact ih2 _ _ _ _ _ _ _ _ _ _)
      | (with_reducible exact ih3 _ _ _ _ _ _ _ _ _ _)
      | (with_reducible exact prime_Factor.mono _ _)
      | (with_reducible exact prime_Is.mono _ _)
      | (with_reducible exact quadformlaw22_awake.mono _)
      | (with_reducible exact LeO.refl _)
      | (with_reducible exact LeO.none _)
      | (with_reducible refine LeO.ite ?_ ?_)
      | (with_reducible refine LeO.bind ?_ (fun _ => ?_))
      | exact ih0 _
      | exact ih1 _ _ _ _ _ _ _
      | exact ih2 _ _ _ _ _ _ _ _ _ _
      | exact ih3 _ _ _ _ _ _ _ _ _ _
      | exact prime_Factor.mono _ _
      | exact prime_Is.mono _ _
      | exact quadformlaw22_awake.mono _
      | exact LeO.none _
      | refine LeO.ite ?_ ?_
      | refine LeO.bind ?_ (fun _ => ?_)
theorem quadformlaw22_PrimeProduct.mono : ∀ a0 k, LeO (quadformlaw22_PrimeProduct.f k a0) (quadformlaw22_PrimeProduct.f (k + 1) a0) := by
  intro a0 k
  obtain ⟨ih0, ih1, ih2, ih3⟩ := quadformlaw22_PrimeProduct.mono_l k
  unfold quadformlaw22_PrimeProduct.f
  repeat' first
      | (with_reducible exact ih0 _)
      | (with_reducible exact ih1 _ _ _ _ _ _ _)
      | (with_reducible exact ih2 _ _ _ _ _ _ _ _ _ _)
      | (with_reducible exact ih3 _ _ _ _ _ _ _ _ _ _)
      | (with_reducible exact prime_Factor.mono _ _)
      | (with_reducible exact prime_Is.mono _ _)
      | (with_reducible exact quadformlaw22_awake.mono _)
      | (with_reducible exact LeO.refl _)
      | (with_reducible exact LeO.none _)
      | (with_reducible refine LeO.ite ?_ ?_)
      | (with_reducible refine LeO.bind ?_ (fun _ => ?_))
      | exact ih0 _
      | exact ih1 _ _ _ _ _ _ _
      | exact ih2 _ _ _ _ _ _ _ _ _ _
      | exact ih3 _ _ _ _ _ _ _ _ _ _
      | exact prime_Factor.mono _ _
      | exact prime_Is.mono _ _
      | exact quadformlaw22_awake.mono _
      | exact LeO.none _
      | refine LeO.ite ?_ ?_
      | refine LeO.bind ?_ (fun _ => ?_)
set_option maxHeartbeats 8000000 in
set_option maxRecDepth 100000 in
theorem quadformlaw22_PrimeProduct.calls (k : Nat) (a0 : Int) (r : Bool) (w : World) (h : quadformlaw22_PrimeProduct.f k a0 = some r) :
    Calls Try.prog 5 #[.int .i64 a0] w fun e w' => e = .returned (.bool r) ∧ Below w.heap.size w w' := by
  have hu30 := Try.underlying30
  have HB := Aside0.mk (Below.refl w.heap.size w)
  have H : (if (wrap64 ((Int.tmod a0 2147483647) + 1)) < 1 then (quadformlaw22_PrimeProduct.j0 k (wrap64 (2 - (wrap64 ((Int.tmod a0 2147483647) + 1))))) else (quadformlaw22_PrimeProduct.j0 k (wrap64 ((Int.tmod a0 2147483647) + 1)))) = some r := h
  clear h
  have HC2 := Aside0.mk H
  clear H
  go_enter Try.func5, Try.ntmps5
  go_upto_if 14 with (fail)
  repeat (go_quiet (fail); go_upto_if 14 with (fail))
  go_cut [3] (fun v3 wc => ∃ (kq : Nat) (x3_1 : Int), v3 = .int .i64 x3_1 ∧ Aside0 (quadformlaw22_PrimeProduct.j0 kq x3_1 = some r) ∧ Aside0 (kq ≤ k) ∧ Aside0 (Below w.heap.size w wc))
  case first =>
    have H := HC2.out
    clear HC2
    by_cases c3 : (wrap64 ((Int.tmod a0 2147483647) + 1)) < 1
    · rw [if_pos c3] at H
      have c3b0 : decide ((wrap64 ((Int.tmod a0 2147483647) + 1)) < 1) = true := decide_eq_true c3
      clear c3
      (first | rw [c3b0] | (simp only [i64_w, i32_w]; rw [c3b0]) | skip)
      have H' := Aside0.mk H
      clear H
      go_wp2
      repeat (go_quiet (fail); try go_wp2)
      go_meet
      case rel => exact ⟨_, (wrap64 (2 - (wrap64 ((Int.tmod a0 2147483647) + 1)))), (by first | rfl | (simp; done) | (simp [*]; done)), H', ⟨by first | omega | exact Nat.le_refl _⟩, ⟨by repeat (first | (with_reducible first | exact HB.out | apply below_alloc | apply pw_below_drewN | apply below_drew1) | exact HB.out)⟩⟩
    · rw [if_neg c3] at H
      have c3b0 : decide ((wrap64 ((Int.tmod a0 2147483647) + 1)) < 1) = false := decide_eq_false c3
      clear c3
      (first | rw [c3b0] | (simp only [i64_w, i32_w]; rw [c3b0]) | skip)
      have H' := Aside0.mk H
      clear H
      go_wp2
      repeat (go_quiet (fail); try go_wp2)
      go_meet
      case rel => exact ⟨_, (wrap64 ((Int.tmod a0 2147483647) + 1)), (by first | rfl | (simp; done) | (simp [*]; done)), H', ⟨by first | omega | exact Nat.le_refl _⟩, ⟨by repeat (first | (with_reducible first | exact HB.out | apply below_alloc | apply pw_below_drewN | apply below_drew1) | exact HB.out)⟩⟩
  case rest =>
    clear HC2
    try clear p2
    try clear c3
    try clear c3b0
    obtain ⟨kq, x3_1, rfl, HA, HJ1, HB⟩ := hcut
    cases kq with
    | zero => exact absurd HA.out (by simp [quadformlaw22_PrimeProduct.j0])
    | succ kj1 =>
      have H := HA.out
      clear HA
      simp only [quadformlaw22_PrimeProduct.j0] at H
      replace H := Option.bind_eq_some_iff.mp H
      obtain ⟨⟨t161, t162⟩, A40, H⟩ := H
      replace H : (quadformlaw22_PrimeProduct.l0 kj1 x3_1 t161 t162 1 t161 (t161.length : Int) 0) = some r := H
      have A4 := Aside0.mk A40
      clear A40
      have H' := Aside0.mk H
      clear H
      go_wp2_with (first | (go_at_call 18; (with_reducible refine (prime_Factor.calls kj1 x3_1 t161 t162 _ A4.out).mono ?_); rintro e w5 ⟨v163, rfl, ho0, hb⟩; have n0_ := Aside0.mk (Kd.R_lower ho0 (below_size (by repeat (first | (with_reducible first | exact HB.out | apply below_alloc | apply pw_below_drewN | apply below_drew1) | exact HB.out)))); have n1_ := Aside0.mk (below_step (by repeat (first | (with_reducible first | exact HB.out | apply below_alloc | apply pw_below_drewN | apply below_drew1) | exact HB.out)) hb); clear HB; have HO164 := n0_; have HB := n1_; clear n0_ n1_; (try clear hb); (try clear hb2); (try clear hk); (try clear hi); (try clear ho0); obtain ⟨Ao6, co6, eo6⟩ := Kd.R_slice HO164.out; subst eo6))
      repeat (go_quiet (first | (go_at_call 18; (with_reducible refine (prime_Factor.calls kj1 x3_1 t161 t162 _ A4.out).mono ?_); rintro e w5 ⟨v163, rfl, ho0, hb⟩; have n0_ := Aside0.mk (Kd.R_lower ho0 (below_size (by repeat (first | (with_reducible first | exact HB.out | apply below_alloc | apply pw_below_drewN | apply below_drew1) | exact HB.out)))); have n1_ := Aside0.mk (below_step (by repeat (first | (with_reducible first | exact HB.out | apply below_alloc | apply pw_below_drewN | apply below_drew1) | exact HB.out)) hb); clear HB; have HO164 := n0_; have HB := n1_; clear n0_ n1_; (try clear hb); (try clear hb2); (try clear hk); (try clear hi); (try clear ho0); obtain ⟨Ao6, co6, eo6⟩ := Kd.R_slice HO164.out; subst eo6)); try go_wp2_with (first | (go_at_call 18; (with_reducible refine (prime_Factor.calls kj1 x3_1 t161 t162 _ A4.out).mono ?_); rintro e w5 ⟨v163, rfl, ho0, hb⟩; have n0_ := Aside0.mk (Kd.R_lower ho0 (below_size (by repeat (first | (with_reducible first | exact HB.out | apply below_alloc | apply pw_below_drewN | apply below_drew1) | exact HB.out)))); have n1_ := Aside0.mk (below_step (by repeat (first | (with_reducible first | exact HB.out | apply below_alloc | apply pw_below_drewN | apply below_drew1) | exact HB.out)) hb); clear HB; have HO164 := n0_; have HB := n1_; clear n0_ n1_; (try clear hb); (try clear hb2); (try clear hk); (try clear hi); (try clear ho0); obtain ⟨Ao6, co6, eo6⟩ := Kd.R_slice HO164.out; subst eo6)))
      go_loopg [6, 24] kj1 (fun kq v6 v24 w' => ∃ (x6_2 : Int) (x24_2 : Int), v6 = .int .i64 x6_2 ∧ v24 = .int .i64 x24_2 ∧ Aside0 (quadformlaw22_PrimeProduct.l0 kq x3_1 t161 t162 x6_2 t161 (t161.length : Int) x24_2 = some r) ∧ Aside0 (kq ≤ kj1) ∧ Aside0 (Kd.R k30 30 w' w.heap.size (fun _ => True) (.slice Ao6 t161.length co6) t161) ∧ Aside0 (Kd.R k30 30 w' w.heap.size (fun _ => True) (.slice Ao6 t161.length co6) t161) ∧ Aside0 (Below w.heap.size w w'))
      case atStart => exact ⟨(1), (0), (by first | rfl | (simp; done) | (simp [*]; done)), (by first | rfl | (simp; done) | (simp [*]; done)), H', ⟨Nat.le_refl _⟩, ⟨by (with_reducible repeat (first | apply Kd.R_alloc | apply Kd.R_drewN | apply Kd.R_drew)); exact HO164.out⟩, ⟨by (with_reducible repeat (first | apply Kd.R_alloc | apply Kd.R_drewN | apply Kd.R_drew)); exact HO164.out⟩, ⟨by repeat (first | (with_reducible first | exact HB.out | apply below_alloc | apply pw_below_drewN | apply below_drew1) | exact HB.out)⟩⟩
      case round =>
        clear H'
        try clear p2
        try clear c3
        try clear c3b0
        try clear c5
        try clear p6
        try clear p2
        obtain ⟨x6_2, x24_2, rfl, rfl, HA, HK2, HO_4, HO_22, HB⟩ := hrel
        cases gk with
        | zero => exact absurd HA.out (by simp [quadformlaw22_PrimeProduct.l0])
        | succ k2 =>
          have H := HA.out
          clear HA
          simp only [quadformlaw22_PrimeProduct.l0] at H
          by_cases c7 : x24_2 < (t161.length : Int)
          · rw [if_pos c7] at H
            have c7b0 : decide (x24_2 < (t161.length : Int)) = true := decide_eq_true c7
            clear c7
            by_cases c8 : 0 ≤ x24_2
            · rw [if_pos c8] at H
              have c8b0 : decide (0 ≤ x24_2) = true := decide_eq_true c8
              clear c8
              by_cases c9 : x24_2 < (t161.length : Int)
              · rw [if_pos c9] at H
                have c9b0 : decide (x24_2 < (t161.length : Int)) = true := decide_eq_true c9
                clear c9
                have HC10 := Aside0.mk H
                clear H
                have p166 : 0 ≤ (x24_2 : Int) := of_decide_eq_true (by first | (with_reducible assumption) | assumption)
                have q166 : x24_2 < (t161.length : Int) := of_decide_eq_true (by first | (with_reducible assumption) | assumption)
                obtain ⟨ad166, e166, hx166_0, hx166_1⟩ := at_T30 (Kd.R_reads' HO_22.out).2.2 x24_2 p166 q166
                cases e166
                replace p166 := eq_true p166
                replace q166 := eq_true q166
                go_upto_region 9 with (first | ((with_reducible refine gate_dst (N := 8) rfl ?_); refine box_event ?hg (N := 8) ?hd (cs := #[.int .i64 0, .int .i64 0]) (t := 30) ?hr ?_; (case hd => rfl); (case hg => rfl); (case hr => first | (go_simp; done) | (go_simp; rfl)); intro gb167 hg w11 hbox hb; have n0_ := Aside0.mk (Kd.R_below (Kd.R_elderB (by (with_reducible repeat (first | apply Kd.R_alloc | apply Kd.R_drewN | apply Kd.R_drew)); exact HO_4.out) gb167 (Nat.le_of_eq hg.symm)) hb); have n1_ := Aside0.mk (Kd.R_below (Kd.R_elderB (by (with_reducible repeat (first | apply Kd.R_alloc | apply Kd.R_drewN | apply Kd.R_drew)); exact HO_22.out) gb167 (Nat.le_of_eq hg.symm)) hb); have n2_ := Aside0.mk (below_step (by repeat (first | (with_reducible first | exact HB.out | apply below_alloc | apply pw_below_drewN | apply below_drew1) | exact HB.out)) hb); have n3_ := Aside0.mk (hbox); have n4_ := Aside0.mk ((by rw [hg]; exact (below_size (by repeat (first | (with_reducible first | exact HB.out | apply below_alloc | apply pw_below_drewN | apply below_drew1) | exact HB.out))) : w.heap.size ≤ gb167)); have n5_ := Aside0.mk ((by rw [hg]; exact (below_size (by repeat (first | (with_reducible first | exact HB.out | apply below_alloc | apply pw_below_drewN | apply below_drew1) | exact HB.out))) : w.heap.size ≤ gb167)); clear HO_4; clear HO_22; clear HB; have HO_4 := n0_; have HO_22 := n1_; have HB := n2_; have BK167 := n3_; have GW167 := n4_; have GE167 := n5_; clear n0_ n1_ n2_ n3_ n4_ n5_; clear hb hbox hg; have hcz12_0 : w11.cell? ⟨gb167, 0, none⟩ = some (.int .i64 0) := (blk_cell BK167.out 0).trans rfl; have hcz12_1 : w11.cell? ⟨gb167, 1, none⟩ = some (.int .i64 0) := (blk_cell BK167.out 1).trans rfl; have hfz12_0 := blk_frozen BK167.out 0; have hfz12_1 := blk_frozen BK167.out 1))
                repeat (go_quiet (first | ((with_reducible refine gate_dst (N := 8) rfl ?_); refine box_event ?hg (N := 8) ?hd (cs := #[.int .i64 0, .int .i64 0]) (t := 30) ?hr ?_; (case hd => rfl); (case hg => rfl); (case hr => first | (go_simp; done) | (go_simp; rfl)); intro gb167 hg w11 hbox hb; have n0_ := Aside0.mk (Kd.R_below (Kd.R_elderB (by (with_reducible repeat (first | apply Kd.R_alloc | apply Kd.R_drewN | apply Kd.R_drew)); exact HO_4.out) gb167 (Nat.le_of_eq hg.symm)) hb); have n1_ := Aside0.mk (Kd.R_below (Kd.R_elderB (by (with_reducible repeat (first | apply Kd.R_alloc | apply Kd.R_drewN | apply Kd.R_drew)); exact HO_22.out) gb167 (Nat.le_of_eq hg.symm)) hb); have n2_ := Aside0.mk (below_step (by repeat (first | (with_reducible first | exact HB.out | apply below_alloc | apply pw_below_drewN | apply below_drew1) | exact HB.out)) hb); have n3_ := Aside0.mk (hbox); have n4_ := Aside0.mk ((by rw [hg]; exact (below_size (by repeat (first | (with_reducible first | exact HB.out | apply below_alloc | apply pw_below_drewN | apply below_drew1) | exact HB.out))) : w.heap.size ≤ gb167)); have n5_ := Aside0.mk ((by rw [hg]; exact (below_size (by repeat (first | (with_reducible first | exact HB.out | apply below_alloc | apply pw_below_drewN | apply below_drew1) | exact HB.out))) : w.heap.size ≤ gb167)); clear HO_4; clear HO_22; clear HB; have HO_4 := n0_; have HO_22 := n1_; have HB := n2_; have BK167 := n3_; have GW167 := n4_; have GE167 := n5_; clear n0_ n1_ n2_ n3_ n4_ n5_; clear hb hbox hg; have hcz12_0 : w11.cell? ⟨gb167, 0, none⟩ = some (.int .i64 0) := (blk_cell BK167.out 0).trans rfl; have hcz12_1 : w11.cell? ⟨gb167, 1, none⟩ = some (.int .i64 0) := (blk_cell BK167.out 1).trans rfl; have hfz12_0 := blk_frozen BK167.out 0; have hfz12_1 := blk_frozen BK167.out 1)); go_upto_region 9 with (first | ((with_reducible refine gate_dst (N := 8) rfl ?_); refine box_event ?hg (N := 8) ?hd (cs := #[.int .i64 0, .int .i64 0]) (t := 30) ?hr ?_; (case hd => rfl); (case hg => rfl); (case hr => first | (go_simp; done) | (go_simp; rfl)); intro gb167 hg w11 hbox hb; have n0_ := Aside0.mk (Kd.R_below (Kd.R_elderB (by (with_reducible repeat (first | apply Kd.R_alloc | apply Kd.R_drewN | apply Kd.R_drew)); exact HO_4.out) gb167 (Nat.le_of_eq hg.symm)) hb); have n1_ := Aside0.mk (Kd.R_below (Kd.R_elderB (by (with_reducible repeat (first | apply Kd.R_alloc | apply Kd.R_drewN | apply Kd.R_drew)); exact HO_22.out) gb167 (Nat.le_of_eq hg.symm)) hb); have n2_ := Aside0.mk (below_step (by repeat (first | (with_reducible first | exact HB.out | apply below_alloc | apply pw_below_drewN | apply below_drew1) | exact HB.out)) hb); have n3_ := Aside0.mk (hbox); have n4_ := Aside0.mk ((by rw [hg]; exact (below_size (by repeat (first | (with_reducible first | exact HB.out | apply below_alloc | apply pw_below_drewN | apply below_drew1) | exact HB.out))) : w.heap.size ≤ gb167)); have n5_ := Aside0.mk ((by rw [hg]; exact (below_size (by repeat (first | (with_reducible first | exact HB.out | apply below_alloc | apply pw_below_drewN | apply below_drew1) | exact HB.out))) : w.heap.size ≤ gb167)); clear HO_4; clear HO_22; clear HB; have HO_4 := n0_; have HO_22 := n1_; have HB := n2_; have BK167 := n3_; have GW167 := n4_; have GE167 := n5_; clear n0_ n1_ n2_ n3_ n4_ n5_; clear hb hbox hg; have hcz12_0 : w11.cell? ⟨gb167, 0, none⟩ = some (.int .i64 0) := (blk_cell BK167.out 0).trans rfl; have hcz12_1 : w11.cell? ⟨gb167, 1, none⟩ = some (.int .i64 0) := (blk_cell BK167.out 1).trans rfl; have hfz12_0 := blk_frozen BK167.out 0; have hfz12_1 := blk_frozen BK167.out 1)))
                (try simp only [Act.put, List.setIfInBounds_toArray, List.set_cons_zero, List.set_cons_succ])
                go_cut [57] (fun v57 wc => ∃ (kq : Nat) (x57_9 : Bool), v57 = .bool x57_9 ∧ Aside0 (quadformlaw22_PrimeProduct.j2 kq x3_1 t161 t162 x6_2 t161 (t161.length : Int) x24_2 x57_9 ((rd_T30 t161 x24_2).f0) ((rd_T30 t161 x24_2).f1) = some r) ∧ Aside0 (kq ≤ k2) ∧ Aside0 (Kd.R k30 30 wc w.heap.size (fun k_ => k_ ≠ gb167) (.slice (some ad166) t161.length co6) t161) ∧ Aside0 (Kd.R k30 30 wc w.heap.size (fun k_ => k_ ≠ gb167) (.slice (some ad166) t161.length co6) t161) ∧ Aside0 (wc.heap[gb167]? = some (.cells #[.int .i64 ((rd_T30 t161 x24_2).f0), .int .i64 ((rd_T30 t161 x24_2).f1)] 30 (0, 0))) ∧ Aside0 (Below w.heap.size w wc))
                case first =>
                  have H := HC10.out
                  clear HC10
                  replace H := Option.bind_eq_some_iff.mp H
                  obtain ⟨t168, A130, H⟩ := H
                  replace H : (if t168 = true then (if ((rd_T30 t161 x24_2).f1) < 1 then (quadformlaw22_PrimeProduct.j2 k2 x3_1 t161 t162 x6_2 t161 (t161.length : Int) x24_2 true ((rd_T30 t161 x24_2).f0) ((rd_T30 t161 x24_2).f1)) else (if ((rd_T30 t161 x24_2).f1) > 31 then (quadformlaw22_PrimeProduct.j2 k2 x3_1 t161 t162 x6_2 t161 (t161.length : Int) x24_2 true ((rd_T30 t161 x24_2).f0) ((rd_T30 t161 x24_2).f1)) else (if x24_2 > 0 then (if 0 ≤ (wrap64 (x24_2 - 1)) then (if (wrap64 (x24_2 - 1)) < (t161.length : Int) then (quadformlaw22_PrimeProduct.j2 k2 x3_1 t161 t162 x6_2 t161 (t161.length : Int) x24_2 (decide (((rd_T30 t161 x24_2).f0) ≤ ((rd_T30 t161 (wrap64 (x24_2 - 1))).f0))) ((rd_T30 t161 x24_2).f0) ((rd_T30 t161 x24_2).f1)) else (none)) else (none)) else (quadformlaw22_PrimeProduct.j2 k2 x3_1 t161 t162 x6_2 t161 (t161.length : Int) x24_2 false ((rd_T30 t161 x24_2).f0) ((rd_T30 t161 x24_2).f1))))) else (quadformlaw22_PrimeProduct.j2 k2 x3_1 t161 t162 x6_2 t161 (t161.length : Int) x24_2 true ((rd_T30 t161 x24_2).f0) ((rd_T30 t161 x24_2).f1))) = some r := H
                  have A13 := Aside0.mk A130
                  clear A130
                  by_cases c14 : t168 = true
                  · subst c14
                    have H1 : (if ((rd_T30 t161 x24_2).f1) < 1 then (quadformlaw22_PrimeProduct.j2 k2 x3_1 t161 t162 x6_2 t161 (t161.length : Int) x24_2 true ((rd_T30 t161 x24_2).f0) ((rd_T30 t161 x24_2).f1)) else (if ((rd_T30 t161 x24_2).f1) > 31 then (quadformlaw22_PrimeProduct.j2 k2 x3_1 t161 t162 x6_2 t161 (t161.length : Int) x24_2 true ((rd_T30 t161 x24_2).f0) ((rd_T30 t161 x24_2).f1)) else (if x24_2 > 0 then (if 0 ≤ (wrap64 (x24_2 - 1)) then (if (wrap64 (x24_2 - 1)) < (t161.length : Int) then (quadformlaw22_PrimeProduct.j2 k2 x3_1 t161 t162 x6_2 t161 (t161.length : Int) x24_2 (decide (((rd_T30 t161 x24_2).f0) ≤ ((rd_T30 t161 (wrap64 (x24_2 - 1))).f0))) ((rd_T30 t161 x24_2).f0) ((rd_T30 t161 x24_2).f1)) else (none)) else (none)) else (quadformlaw22_PrimeProduct.j2 k2 x3_1 t161 t162 x6_2 t161 (t161.length : Int) x24_2 false ((rd_T30 t161 x24_2).f0) ((rd_T30 t161 x24_2).f1))))) = some r := by rw [if_pos rfl] at H; exact H
                    clear H
                    have H := H1
                    clear H1
                    by_cases c15 : ((rd_T30 t161 x24_2).f1) < 1
                    · rw [if_pos c15] at H
                      have c15b0 : decide (((rd_T30 t161 x24_2).f1) < 1) = true := decide_eq_true c15
                      clear c15
                      (first | rw [c15b0] | (simp only [i64_w, i32_w]; rw [c15b0]) | skip)
                      have H' := Aside0.mk H
                      clear H
                      have hcz16_0 : w11.cell? ⟨gb167, 0, none⟩ = some (.int .i64 0) := (blk_cell BK167.out 0).trans rfl
                      have hcz16_1 : w11.cell? ⟨gb167, 1, none⟩ = some (.int .i64 0) := (blk_cell BK167.out 1).trans rfl
                      have hfz16_0 := blk_frozen BK167.out 0
                      have hfz16_1 := blk_frozen BK167.out 1
                      go_wp2_with (first | (go_at_call 15; (with_reducible refine (prime_Is.calls k2 ((rd_T30 t161 x24_2).f0) true _ A13.out).mono ?_); rintro e w' ⟨rfl, ⟨nd, rfl⟩⟩; (try first | exact ⟨rfl, _, World.drewN_drewN _ _ _⟩ | exact ⟨rfl, _, Eq.trans (World.drewN_drewN _ _ _) (congrArg (World.drewN _) (Nat.add_assoc _ _ _))⟩)))
                      repeat (go_quiet (first | (go_at_call 15; (with_reducible refine (prime_Is.calls k2 ((rd_T30 t161 x24_2).f0) true _ A13.out).mono ?_); rintro e w' ⟨rfl, ⟨nd, rfl⟩⟩; (try first | exact ⟨rfl, _, World.drewN_drewN _ _ _⟩ | exact ⟨rfl, _, Eq.trans (World.drewN_drewN _ _ _) (congrArg (World.drewN _) (Nat.add_assoc _ _ _))⟩))); try go_wp2_with (first | (go_at_call 15; (with_reducible refine (prime_Is.calls k2 ((rd_T30 t161 x24_2).f0) true _ A13.out).mono ?_); rintro e w' ⟨rfl, ⟨nd, rfl⟩⟩; (try first | exact ⟨rfl, _, World.drewN_drewN _ _ _⟩ | exact ⟨rfl, _, Eq.trans (World.drewN_drewN _ _ _) (congrArg (World.drewN _) (Nat.add_assoc _ _ _))⟩))))
                      go_meet
                      case rel => exact ⟨_, (true), (by first | rfl | (simp; done) | (simp [*]; done)), H', ⟨by have := HJ1.out; have := HK2.out; first | omega | exact Nat.le_refl _⟩, ⟨by (with_reducible repeat (first | apply Kd.R_alloc | apply Kd.R_drewN | apply Kd.R_drew)); exact Kd.R_mono (Kd.R_far (p := ⟨gb167, 1, none⟩) (Kd.R_far (p := ⟨gb167, 0, none⟩) (Kd.R_mono HO_4.out (fun k_ hk => (⟨hk, hk.2⟩ : _ ∧ k_ ≠ gb167))) (fun _ hk => hk.2) (.int .i64 ((rd_T30 t161 x24_2).f0))) (fun _ hk => hk.2) (.int .i64 ((rd_T30 t161 x24_2).f1))) (fun _ hk => hk.1.2)⟩, ⟨by (with_reducible repeat (first | apply Kd.R_alloc | apply Kd.R_drewN | apply Kd.R_drew)); exact Kd.R_mono (Kd.R_far (p := ⟨gb167, 1, none⟩) (Kd.R_far (p := ⟨gb167, 0, none⟩) (Kd.R_mono HO_22.out (fun k_ hk => (⟨hk, hk.2⟩ : _ ∧ k_ ≠ gb167))) (fun _ hk => hk.2) (.int .i64 ((rd_T30 t161 x24_2).f0))) (fun _ hk => hk.2) (.int .i64 ((rd_T30 t161 x24_2).f1))) (fun _ hk => hk.1.2)⟩, ⟨by (with_reducible repeat (first | refine blk_drewN ?_ _ | refine blk_drew ?_ | refine blk_alloc ?_ _)); refine blk_put (cs := #[.int .i64 ((rd_T30 t161 x24_2).f0), .int .i64 0]) ?_ 1 _ rfl; (with_reducible repeat (first | refine blk_drewN ?_ _ | refine blk_drew ?_ | refine blk_alloc ?_ _)); refine blk_put (cs := #[.int .i64 0, .int .i64 0]) ?_ 0 _ rfl; (with_reducible repeat (first | refine blk_drewN ?_ _ | refine blk_drew ?_ | refine blk_alloc ?_ _)); exact BK167.out⟩, ⟨by repeat (first | (with_reducible first | exact HB.out | apply below_alloc | apply pw_below_drewN | apply below_drew1 | refine below_set ?_ GE167.out) | exact HB.out)⟩⟩
                    · rw [if_neg c15] at H
                      have c15b0 : decide (((rd_T30 t161 x24_2).f1) < 1) = false := decide_eq_false c15
                      clear c15
                      (first | rw [c15b0] | (simp only [i64_w, i32_w]; rw [c15b0]) | skip)
                      by_cases c17 : ((rd_T30 t161 x24_2).f1) > 31
                      · rw [if_pos c17] at H
                        have c17b0 : decide (31 < ((rd_T30 t161 x24_2).f1)) = true := decide_eq_true c17
                        clear c17
                        have H' := Aside0.mk H
                        clear H
                        have hcz18_0 : w11.cell? ⟨gb167, 0, none⟩ = some (.int .i64 0) := (blk_cell BK167.out 0).trans rfl
                        have hcz18_1 : w11.cell? ⟨gb167, 1, none⟩ = some (.int .i64 0) := (blk_cell BK167.out 1).trans rfl
                        have hfz18_0 := blk_frozen BK167.out 0
                        have hfz18_1 := blk_frozen BK167.out 1
                        go_wp2_with (first | (go_at_call 15; (with_reducible refine (prime_Is.calls k2 ((rd_T30 t161 x24_2).f0) true _ A13.out).mono ?_); rintro e w' ⟨rfl, ⟨nd, rfl⟩⟩; (try first | exact ⟨rfl, _, World.drewN_drewN _ _ _⟩ | exact ⟨rfl, _, Eq.trans (World.drewN_drewN _ _ _) (congrArg (World.drewN _) (Nat.add_assoc _ _ _))⟩)))
                        repeat (go_quiet (first | (go_at_call 15; (with_reducible refine (prime_Is.calls k2 ((rd_T30 t161 x24_2).f0) true _ A13.out).mono ?_); rintro e w' ⟨rfl, ⟨nd, rfl⟩⟩; (try first | exact ⟨rfl, _, World.drewN_drewN _ _ _⟩ | exact ⟨rfl, _, Eq.trans (World.drewN_drewN _ _ _) (congrArg (World.drewN _) (Nat.add_assoc _ _ _))⟩))); try go_wp2_with (first | (go_at_call 15; (with_reducible refine (prime_Is.calls k2 ((rd_T30 t161 x24_2).f0) true _ A13.out).mono ?_); rintro e w' ⟨rfl, ⟨nd, rfl⟩⟩; (try first | exact ⟨rfl, _, World.drewN_drewN _ _ _⟩ | exact ⟨rfl, _, Eq.trans (World.drewN_drewN _ _ _) (congrArg (World.drewN _) (Nat.add_assoc _ _ _))⟩))))
                        go_meet
                        case rel => exact ⟨_, (true), (by first | rfl | (simp; done) | (simp [*]; done)), H', ⟨by have := HJ1.out; have := HK2.out; first | omega | exact Nat.le_refl _⟩, ⟨by (with_reducible repeat (first | apply Kd.R_alloc | apply Kd.R_drewN | apply Kd.R_drew)); exact Kd.R_mono (Kd.R_far (p := ⟨gb167, 1, none⟩) (Kd.R_far (p := ⟨gb167, 0, none⟩) (Kd.R_mono HO_4.out (fun k_ hk => (⟨hk, hk.2⟩ : _ ∧ k_ ≠ gb167))) (fun _ hk => hk.2) (.int .i64 ((rd_T30 t161 x24_2).f0))) (fun _ hk => hk.2) (.int .i64 ((rd_T30 t161 x24_2).f1))) (fun _ hk => hk.1.2)⟩, ⟨by (with_reducible repeat (first | apply Kd.R_alloc | apply Kd.R_drewN | apply Kd.R_drew)); exact Kd.R_mono (Kd.R_far (p := ⟨gb167, 1, none⟩) (Kd.R_far (p := ⟨gb167, 0, none⟩) (Kd.R_mono HO_22.out (fun k_ hk => (⟨hk, hk.2⟩ : _ ∧ k_ ≠ gb167))) (fun _ hk => hk.2) (.int .i64 ((rd_T30 t161 x24_2).f0))) (fun _ hk => hk.2) (.int .i64 ((rd_T30 t161 x24_2).f1))) (fun _ hk => hk.1.2)⟩, ⟨by (with_reducible repeat (first | refine blk_drewN ?_ _ | refine blk_drew ?_ | refine blk_alloc ?_ _)); refine blk_put (cs := #[.int .i64 ((rd_T30 t161 x24_2).f0), .int .i64 0]) ?_ 1 _ rfl; (with_reducible repeat (first | refine blk_drewN ?_ _ | refine blk_drew ?_ | refine blk_alloc ?_ _)); refine blk_put (cs := #[.int .i64 0, .int .i64 0]) ?_ 0 _ rfl; (with_reducible repeat (first | refine blk_drewN ?_ _ | refine blk_drew ?_ | refine blk_alloc ?_ _)); exact BK167.out⟩, ⟨by repeat (first | (with_reducible first | exact HB.out | apply below_alloc | apply pw_below_drewN | apply below_drew1 | refine below_set ?_ GE167.out) | exact HB.out)⟩⟩
                      · rw [if_neg c17] at H
                        have c17b0 : decide (31 < ((rd_T30 t161 x24_2).f1)) = false := decide_eq_false c17
                        clear c17
                        by_cases c19 : x24_2 > 0
                        · rw [if_pos c19] at H
                          have c19b0 : decide (0 < x24_2) = true := decide_eq_true c19
                          clear c19
                          obtain ⟨ji20, hji20⟩ : ∃ j_ : Int, (wrap64 (x24_2 - 1)) = j_ := ⟨_, rfl⟩
                          replace H : (if 0 ≤ (ji20) then (if (ji20) < (t161.length : Int) then (quadformlaw22_PrimeProduct.j2 k2 x3_1 t161 t162 x6_2 t161 (t161.length : Int) x24_2 (decide (((rd_T30 t161 x24_2).f0) ≤ ((rd_T30 t161 (ji20)).f0))) ((rd_T30 t161 x24_2).f0) ((rd_T30 t161 x24_2).f1)) else (none)) else (none)) = some r := by first | (rw [hji20] at H; exact H) | (simp only [hji20] at H ⊢; exact H)
                          (try rw [hji20] at A13)
                          have hji20w : (IntKind.i64.wrap (x24_2 - 1)) = ji20 := (i64_w _).trans hji20
                          by_cases c21 : 0 ≤ (ji20)
                          · rw [if_pos c21] at H
                            have c21b0 : decide (0 ≤ (ji20)) = true := decide_eq_true c21
                            clear c21
                            by_cases c22 : (ji20) < (t161.length : Int)
                            · rw [if_pos c22] at H
                              have c22b0 : decide ((ji20) < (t161.length : Int)) = true := decide_eq_true c22
                              clear c22
                              have H' := Aside0.mk H
                              clear H
                              have hcz23_0 : w11.cell? ⟨gb167, 0, none⟩ = some (.int .i64 0) := (blk_cell BK167.out 0).trans rfl
                              have hcz23_1 : w11.cell? ⟨gb167, 1, none⟩ = some (.int .i64 0) := (blk_cell BK167.out 1).trans rfl
                              have hfz23_0 := blk_frozen BK167.out 0
                              have hfz23_1 := blk_frozen BK167.out 1
                              go_wp2_with (first | (go_at_call 15; (with_reducible refine (prime_Is.calls k2 ((rd_T30 t161 x24_2).f0) true _ A13.out).mono ?_); rintro e w' ⟨rfl, ⟨nd, rfl⟩⟩; (try first | exact ⟨rfl, _, World.drewN_drewN _ _ _⟩ | exact ⟨rfl, _, Eq.trans (World.drewN_drewN _ _ _) (congrArg (World.drewN _) (Nat.add_assoc _ _ _))⟩); have p169 : 0 ≤ ((ji20) : Int) := of_decide_eq_true (by first | (with_reducible assumption) | assumption); have q169 : (ji20) < (t161.length : Int) := of_decide_eq_true (by first | (with_reducible assumption) | assumption); obtain ⟨ad169, e169, hx169_0, hx169_1⟩ := at_T30 (Kd.R_reads' HO_4.out).2.2 (ji20) p169 q169; obtain rfl : ad166 = ad169 := (by injection e169); have hn169_0 : ad166.block ≠ gb167 := Kd.own_blk (Kd.R_away HO_4.out (fun _ hk => hk.2)); have hn169_1 : ad166.block ≠ gb167 := Kd.own_blk (Kd.R_away HO_4.out (fun _ hk => hk.2)); replace hx169_0 := (cell_far (p := ⟨gb167, 0, none⟩) (by first | (rw [add_block]; exact hn169_0) | (show (Addr.add _ _).block ≠ _; rw [add_block]; exact hn169_0) | exact hn169_0) (.int .i64 ((rd_T30 t161 x24_2).f0))).trans hx169_0; replace hx169_1 := (cell_far (p := ⟨gb167, 0, none⟩) (by first | (rw [add_block]; exact hn169_0) | (show (Addr.add _ _).block ≠ _; rw [add_block]; exact hn169_0) | exact hn169_0) (.int .i64 ((rd_T30 t161 x24_2).f0))).trans hx169_1; replace hx169_0 := (cell_far (p := ⟨gb167, 1, none⟩) (by first | (rw [add_block]; exact hn169_1) | (show (Addr.add _ _).block ≠ _; rw [add_block]; exact hn169_1) | exact hn169_1) (.int .i64 ((rd_T30 t161 x24_2).f1))).trans hx169_0; replace hx169_1 := (cell_far (p := ⟨gb167, 1, none⟩) (by first | (rw [add_block]; exact hn169_1) | (show (Addr.add _ _).block ≠ _; rw [add_block]; exact hn169_1) | exact hn169_1) (.int .i64 ((rd_T30 t161 x24_2).f1))).trans hx169_1; (try have hy169_0 := fun (n_ : Nat) => (show ((((w11.drewN n_).setCell ⟨gb167, 0, none⟩ (.int .i64 ((rd_T30 t161 x24_2).f0))).setCell ⟨gb167, 1, none⟩ (.int .i64 ((rd_T30 t161 x24_2).f1)))).cell? _ = some _ from hx169_0)); (try have hy169_1 := fun (n_ : Nat) => (show ((((w11.drewN n_).setCell ⟨gb167, 0, none⟩ (.int .i64 ((rd_T30 t161 x24_2).f0))).setCell ⟨gb167, 1, none⟩ (.int .i64 ((rd_T30 t161 x24_2).f1)))).cell? _ = some _ from hx169_1)); clear hn169_0; clear hn169_1; replace p169 := eq_true p169; replace q169 := eq_true q169))
                              (try (have p169 : 0 ≤ ((ji20) : Int) := of_decide_eq_true (by first | (with_reducible assumption) | assumption); have q169 : (ji20) < (t161.length : Int) := of_decide_eq_true (by first | (with_reducible assumption) | assumption); obtain ⟨ad169, e169, hx169_0, hx169_1⟩ := at_T30 (Kd.R_reads' HO_4.out).2.2 (ji20) p169 q169; obtain rfl : ad166 = ad169 := (by injection e169); have hn169_0 : ad166.block ≠ gb167 := Kd.own_blk (Kd.R_away HO_4.out (fun _ hk => hk.2)); have hn169_1 : ad166.block ≠ gb167 := Kd.own_blk (Kd.R_away HO_4.out (fun _ hk => hk.2)); replace hx169_0 := (cell_far (p := ⟨gb167, 0, none⟩) (by first | (rw [add_block]; exact hn169_0) | (show (Addr.add _ _).block ≠ _; rw [add_block]; exact hn169_0) | exact hn169_0) (.int .i64 ((rd_T30 t161 x24_2).f0))).trans hx169_0; replace hx169_1 := (cell_far (p := ⟨gb167, 0, none⟩) (by first | (rw [add_block]; exact hn169_0) | (show (Addr.add _ _).block ≠ _; rw [add_block]; exact hn169_0) | exact hn169_0) (.int .i64 ((rd_T30 t161 x24_2).f0))).trans hx169_1; replace hx169_0 := (cell_far (p := ⟨gb167, 1, none⟩) (by first | (rw [add_block]; exact hn169_1) | (show (Addr.add _ _).block ≠ _; rw [add_block]; exact hn169_1) | exact hn169_1) (.int .i64 ((rd_T30 t161 x24_2).f1))).trans hx169_0; replace hx169_1 := (cell_far (p := ⟨gb167, 1, none⟩) (by first | (rw [add_block]; exact hn169_1) | (show (Addr.add _ _).block ≠ _; rw [add_block]; exact hn169_1) | exact hn169_1) (.int .i64 ((rd_T30 t161 x24_2).f1))).trans hx169_1; (try have hy169_0 := fun (n_ : Nat) => (show ((((w11.drewN n_).setCell ⟨gb167, 0, none⟩ (.int .i64 ((rd_T30 t161 x24_2).f0))).setCell ⟨gb167, 1, none⟩ (.int .i64 ((rd_T30 t161 x24_2).f1)))).cell? _ = some _ from hx169_0)); (try have hy169_1 := fun (n_ : Nat) => (show ((((w11.drewN n_).setCell ⟨gb167, 0, none⟩ (.int .i64 ((rd_T30 t161 x24_2).f0))).setCell ⟨gb167, 1, none⟩ (.int .i64 ((rd_T30 t161 x24_2).f1)))).cell? _ = some _ from hx169_1)); clear hn169_0; clear hn169_1; replace p169 := eq_true p169; replace q169 := eq_true q169))
                              repeat (go_quiet (first | (go_at_call 15; (with_reducible refine (prime_Is.calls k2 ((rd_T30 t161 x24_2).f0) true _ A13.out).mono ?_); rintro e w' ⟨rfl, ⟨nd, rfl⟩⟩; (try first | exact ⟨rfl, _, World.drewN_drewN _ _ _⟩ | exact ⟨rfl, _, Eq.trans (World.drewN_drewN _ _ _) (congrArg (World.drewN _) (Nat.add_assoc _ _ _))⟩))); try go_wp2_with (first | (go_at_call 15; (with_reducible refine (prime_Is.calls k2 ((rd_T30 t161 x24_2).f0) true _ A13.out).mono ?_); rintro e w' ⟨rfl, ⟨nd, rfl⟩⟩; (try first | exact ⟨rfl, _, World.drewN_drewN _ _ _⟩ | exact ⟨rfl, _, Eq.trans (World.drewN_drewN _ _ _) (congrArg (World.drewN _) (Nat.add_assoc _ _ _))⟩); have p169 : 0 ≤ ((ji20) : Int) := of_decide_eq_true (by first | (with_reducible assumption) | assumption); have q169 : (ji20) < (t161.length : Int) := of_decide_eq_true (by first | (with_reducible assumption) | assumption); obtain ⟨ad169, e169, hx169_0, hx169_1⟩ := at_T30 (Kd.R_reads' HO_4.out).2.2 (ji20) p169 q169; obtain rfl : ad166 = ad169 := (by injection e169); have hn169_0 : ad166.block ≠ gb167 := Kd.own_blk (Kd.R_away HO_4.out (fun _ hk => hk.2)); have hn169_1 : ad166.block ≠ gb167 := Kd.own_blk (Kd.R_away HO_4.out (fun _ hk => hk.2)); replace hx169_0 := (cell_far (p := ⟨gb167, 0, none⟩) (by first | (rw [add_block]; exact hn169_0) | (show (Addr.add _ _).block ≠ _; rw [add_block]; exact hn169_0) | exact hn169_0) (.int .i64 ((rd_T30 t161 x24_2).f0))).trans hx169_0; replace hx169_1 := (cell_far (p := ⟨gb167, 0, none⟩) (by first | (rw [add_block]; exact hn169_0) | (show (Addr.add _ _).block ≠ _; rw [add_block]; exact hn169_0) | exact hn169_0) (.int .i64 ((rd_T30 t161 x24_2).f0))).trans hx169_1; replace hx169_0 := (cell_far (p := ⟨gb167, 1, none⟩) (by first | (rw [add_block]; exact hn169_1) | (show (Addr.add _ _).block ≠ _; rw [add_block]; exact hn169_1) | exact hn169_1) (.int .i64 ((rd_T30 t161 x24_2).f1))).trans hx169_0; replace hx169_1 := (cell_far (p := ⟨gb167, 1, none⟩) (by first | (rw [add_block]; exact hn169_1) | (show (Addr.add _ _).block ≠ _; rw [add_block]; exact hn169_1) | exact hn169_1) (.int .i64 ((rd_T30 t161 x24_2).f1))).trans hx169_1; (try have hy169_0 := fun (n_ : Nat) => (show ((((w11.drewN n_).setCell ⟨gb167, 0, none⟩ (.int .i64 ((rd_T30 t161 x24_2).f0))).setCell ⟨gb167, 1, none⟩ (.int .i64 ((rd_T30 t161 x24_2).f1)))).cell? _ = some _ from hx169_0)); (try have hy169_1 := fun (n_ : Nat) => (show ((((w11.drewN n_).setCell ⟨gb167, 0, none⟩ (.int .i64 ((rd_T30 t161 x24_2).f0))).setCell ⟨gb167, 1, none⟩ (.int .i64 ((rd_T30 t161 x24_2).f1)))).cell? _ = some _ from hx169_1)); clear hn169_0; clear hn169_1; replace p169 := eq_true p169; replace q169 := eq_true q169)))
                              go_meet
                              case rel => exact ⟨_, (decide (((rd_T30 t161 x24_2).f0) ≤ ((rd_T30 t161 (ji20)).f0))), (by first | rfl | (simp; done) | (simp only [← hji20] <;> (first | rfl | simp)) | (simp [*]; done)), H', ⟨by have := HJ1.out; have := HK2.out; first | omega | exact Nat.le_refl _⟩, ⟨by (with_reducible repeat (first | apply Kd.R_alloc | apply Kd.R_drewN | apply Kd.R_drew)); exact Kd.R_mono (Kd.R_far (p := ⟨gb167, 1, none⟩) (Kd.R_far (p := ⟨gb167, 0, none⟩) (Kd.R_mono HO_4.out (fun k_ hk => (⟨hk, hk.2⟩ : _ ∧ k_ ≠ gb167))) (fun _ hk => hk.2) (.int .i64 ((rd_T30 t161 x24_2).f0))) (fun _ hk => hk.2) (.int .i64 ((rd_T30 t161 x24_2).f1))) (fun _ hk => hk.1.2)⟩, ⟨by (with_reducible repeat (first | apply Kd.R_alloc | apply Kd.R_drewN | apply Kd.R_drew)); exact Kd.R_mono (Kd.R_far (p := ⟨gb167, 1, none⟩) (Kd.R_far (p := ⟨gb167, 0, none⟩) (Kd.R_mono HO_22.out (fun k_ hk => (⟨hk, hk.2⟩ : _ ∧ k_ ≠ gb167))) (fun _ hk => hk.2) (.int .i64 ((rd_T30 t161 x24_2).f0))) (fun _ hk => hk.2) (.int .i64 ((rd_T30 t161 x24_2).f1))) (fun _ hk => hk.1.2)⟩, ⟨by (with_reducible repeat (first | refine blk_drewN ?_ _ | refine blk_drew ?_ | refine blk_alloc ?_ _)); refine blk_put (cs := #[.int .i64 ((rd_T30 t161 x24_2).f0), .int .i64 0]) ?_ 1 _ rfl; (with_reducible repeat (first | refine blk_drewN ?_ _ | refine blk_drew ?_ | refine blk_alloc ?_ _)); refine blk_put (cs := #[.int .i64 0, .int .i64 0]) ?_ 0 _ rfl; (with_reducible repeat (first | refine blk_drewN ?_ _ | refine blk_drew ?_ | refine blk_alloc ?_ _)); exact BK167.out⟩, ⟨by repeat (first | (with_reducible first | exact HB.out | apply below_alloc | apply pw_below_drewN | apply below_drew1 | refine below_set ?_ GE167.out) | exact HB.out)⟩⟩
                            · rw [if_neg c22] at H
                              exact absurd H (by simp)
                          · rw [if_neg c21] at H
                            exact absurd H (by simp)
                        · rw [if_neg c19] at H
                          have c19b0 : decide (0 < x24_2) = false := decide_eq_false c19
                          clear c19
                          have H' := Aside0.mk H
                          clear H
                          have hcz24_0 : w11.cell? ⟨gb167, 0, none⟩ = some (.int .i64 0) := (blk_cell BK167.out 0).trans rfl
                          have hcz24_1 : w11.cell? ⟨gb167, 1, none⟩ = some (.int .i64 0) := (blk_cell BK167.out 1).trans rfl
                          have hfz24_0 := blk_frozen BK167.out 0
                          have hfz24_1 := blk_frozen BK167.out 1
                          go_wp2_with (first | (go_at_call 15; (with_reducible refine (prime_Is.calls k2 ((rd_T30 t161 x24_2).f0) true _ A13.out).mono ?_); rintro e w' ⟨rfl, ⟨nd, rfl⟩⟩; (try first | exact ⟨rfl, _, World.drewN_drewN _ _ _⟩ | exact ⟨rfl, _, Eq.trans (World.drewN_drewN _ _ _) (congrArg (World.drewN _) (Nat.add_assoc _ _ _))⟩)))
                          repeat (go_quiet (first | (go_at_call 15; (with_reducible refine (prime_Is.calls k2 ((rd_T30 t161 x24_2).f0) true _ A13.out).mono ?_); rintro e w' ⟨rfl, ⟨nd, rfl⟩⟩; (try first | exact ⟨rfl, _, World.drewN_drewN _ _ _⟩ | exact ⟨rfl, _, Eq.trans (World.drewN_drewN _ _ _) (congrArg (World.drewN _) (Nat.add_assoc _ _ _))⟩))); try go_wp2_with (first | (go_at_call 15; (with_reducible refine (prime_Is.calls k2 ((rd_T30 t161 x24_2).f0) true _ A13.out).mono ?_); rintro e w' ⟨rfl, ⟨nd, rfl⟩⟩; (try first | exact ⟨rfl, _, World.drewN_drewN _ _ _⟩ | exact ⟨rfl, _, Eq.trans (World.drewN_drewN _ _ _) (congrArg (World.drewN _) (Nat.add_assoc _ _ _))⟩))))
                          go_meet
                          case rel => exact ⟨_, (false), (by first | rfl | (simp; done) | (simp [*]; done)), H', ⟨by have := HJ1.out; have := HK2.out; first | omega | exact Nat.le_refl _⟩, ⟨by (with_reducible repeat (first | apply Kd.R_alloc | apply Kd.R_drewN | apply Kd.R_drew)); exact Kd.R_mono (Kd.R_far (p := ⟨gb167, 1, none⟩) (Kd.R_far (p := ⟨gb167, 0, none⟩) (Kd.R_mono HO_4.out (fun k_ hk => (⟨hk, hk.2⟩ : _ ∧ k_ ≠ gb167))) (fun _ hk => hk.2) (.int .i64 ((rd_T30 t161 x24_2).f0))) (fun _ hk => hk.2) (.int .i64 ((rd_T30 t161 x24_2).f1))) (fun _ hk => hk.1.2)⟩, ⟨by (with_reducible repeat (first | apply Kd.R_alloc | apply Kd.R_drewN | apply Kd.R_drew)); exact Kd.R_mono (Kd.R_far (p := ⟨gb167, 1, none⟩) (Kd.R_far (p := ⟨gb167, 0, none⟩) (Kd.R_mono HO_22.out (fun k_ hk => (⟨hk, hk.2⟩ : _ ∧ k_ ≠ gb167))) (fun _ hk => hk.2) (.int .i64 ((rd_T30 t161 x24_2).f0))) (fun _ hk => hk.2) (.int .i64 ((rd_T30 t161 x24_2).f1))) (fun _ hk => hk.1.2)⟩, ⟨by (with_reducible repeat (first | refine blk_drewN ?_ _ | refine blk_drew ?_ | refine blk_alloc ?_ _)); refine blk_put (cs := #[.int .i64 ((rd_T30 t161 x24_2).f0), .int .i64 0]) ?_ 1 _ rfl; (with_reducible repeat (first | refine blk_drewN ?_ _ | refine blk_drew ?_ | refine blk_alloc ?_ _)); refine blk_put (cs := #[.int .i64 0, .int .i64 0]) ?_ 0 _ rfl; (with_reducible repeat (first | refine blk_drewN ?_ _ | refine blk_drew ?_ | refine blk_alloc ?_ _)); exact BK167.out⟩, ⟨by repeat (first | (with_reducible first | exact HB.out | apply below_alloc | apply pw_below_drewN | apply below_drew1 | refine below_set ?_ GE167.out) | exact HB.out)⟩⟩
                  · replace c14 := Bool.eq_false_iff.mpr c14
                    subst c14
                    have H1 : (quadformlaw22_PrimeProduct.j2 k2 x3_1 t161 t162 x6_2 t161 (t161.length : Int) x24_2 true ((rd_T30 t161 x24_2).f0) ((rd_T30 t161 x24_2).f1)) = some r := by rw [if_neg (show ¬ (false = true) by decide)] at H; exact H
                    clear H
                    have H := H1
                    clear H1
                    have H' := Aside0.mk H
                    clear H
                    have hcz25_0 : w11.cell? ⟨gb167, 0, none⟩ = some (.int .i64 0) := (blk_cell BK167.out 0).trans rfl
                    have hcz25_1 : w11.cell? ⟨gb167, 1, none⟩ = some (.int .i64 0) := (blk_cell BK167.out 1).trans rfl
                    have hfz25_0 := blk_frozen BK167.out 0
                    have hfz25_1 := blk_frozen BK167.out 1
                    go_wp2_with (first | (go_at_call 15; (with_reducible refine (prime_Is.calls k2 ((rd_T30 t161 x24_2).f0) false _ A13.out).mono ?_); rintro e w' ⟨rfl, ⟨nd, rfl⟩⟩; (try first | exact ⟨rfl, _, World.drewN_drewN _ _ _⟩ | exact ⟨rfl, _, Eq.trans (World.drewN_drewN _ _ _) (congrArg (World.drewN _) (Nat.add_assoc _ _ _))⟩)))
                    repeat (go_quiet (first | (go_at_call 15; (with_reducible refine (prime_Is.calls k2 ((rd_T30 t161 x24_2).f0) false _ A13.out).mono ?_); rintro e w' ⟨rfl, ⟨nd, rfl⟩⟩; (try first | exact ⟨rfl, _, World.drewN_drewN _ _ _⟩ | exact ⟨rfl, _, Eq.trans (World.drewN_drewN _ _ _) (congrArg (World.drewN _) (Nat.add_assoc _ _ _))⟩))); try go_wp2_with (first | (go_at_call 15; (with_reducible refine (prime_Is.calls k2 ((rd_T30 t161 x24_2).f0) false _ A13.out).mono ?_); rintro e w' ⟨rfl, ⟨nd, rfl⟩⟩; (try first | exact ⟨rfl, _, World.drewN_drewN _ _ _⟩ | exact ⟨rfl, _, Eq.trans (World.drewN_drewN _ _ _) (congrArg (World.drewN _) (Nat.add_assoc _ _ _))⟩))))
                    go_meet
                    case rel => exact ⟨_, (true), (by first | rfl | (simp; done) | (simp [*]; done)), H', ⟨by have := HJ1.out; have := HK2.out; first | omega | exact Nat.le_refl _⟩, ⟨by (with_reducible repeat (first | apply Kd.R_alloc | apply Kd.R_drewN | apply Kd.R_drew)); exact Kd.R_mono (Kd.R_far (p := ⟨gb167, 1, none⟩) (Kd.R_far (p := ⟨gb167, 0, none⟩) (Kd.R_mono HO_4.out (fun k_ hk => (⟨hk, hk.2⟩ : _ ∧ k_ ≠ gb167))) (fun _ hk => hk.2) (.int .i64 ((rd_T30 t161 x24_2).f0))) (fun _ hk => hk.2) (.int .i64 ((rd_T30 t161 x24_2).f1))) (fun _ hk => hk.1.2)⟩, ⟨by (with_reducible repeat (first | apply Kd.R_alloc | apply Kd.R_drewN | apply Kd.R_drew)); exact Kd.R_mono (Kd.R_far (p := ⟨gb167, 1, none⟩) (Kd.R_far (p := ⟨gb167, 0, none⟩) (Kd.R_mono HO_22.out (fun k_ hk => (⟨hk, hk.2⟩ : _ ∧ k_ ≠ gb167))) (fun _ hk => hk.2) (.int .i64 ((rd_T30 t161 x24_2).f0))) (fun _ hk => hk.2) (.int .i64 ((rd_T30 t161 x24_2).f1))) (fun _ hk => hk.1.2)⟩, ⟨by (with_reducible repeat (first | refine blk_drewN ?_ _ | refine blk_drew ?_ | refine blk_alloc ?_ _)); refine blk_put (cs := #[.int .i64 ((rd_T30 t161 x24_2).f0), .int .i64 0]) ?_ 1 _ rfl; (with_reducible repeat (first | refine blk_drewN ?_ _ | refine blk_drew ?_ | refine blk_alloc ?_ _)); refine blk_put (cs := #[.int .i64 0, .int .i64 0]) ?_ 0 _ rfl; (with_reducible repeat (first | refine blk_drewN ?_ _ | refine blk_drew ?_ | refine blk_alloc ?_ _)); exact BK167.out⟩, ⟨by repeat (first | (with_reducible first | exact HB.out | apply below_alloc | apply pw_below_drewN | apply below_drew1 | refine below_set ?_ GE167.out) | exact HB.out)⟩⟩
                case rest =>
                  clear HC10
                  try clear c1
                  try clear p1
                  try clear q1
                  try clear hx1
                  try clear c2
                  try clear p2
                  try clear c3
                  try clear c3b0
                  try clear c5
                  try clear p6
                  try clear c7
                  try clear c7b0
                  try clear c8
                  try clear c8b0
                  try clear c9
                  try clear c9b0
                  try clear c14
                  try clear c15
                  try clear c15b0
                  try clear p16
                  try clear q16
                  try clear hx16
                  try clear c17
                  try clear c17b0
                  try clear c19
                  try clear c19b0
                  try clear c21
                  try clear c21b0
                  try clear c22
                  try clear c22b0
                  try clear hcz12_0
                  try clear hcz12_1
                  try clear hcz16_0
                  try clear hcz16_1
                  try clear hcz18_0
                  try clear hcz18_1
                  try clear hcz23_0
                  try clear hcz23_1
                  try clear hcz24_0
                  try clear hcz24_1
                  try clear hcz25_0
                  try clear hcz25_1
                  try clear hfz12_0
                  try clear hfz12_1
                  try clear hfz16_0
                  try clear hfz16_1
                  try clear hfz18_0
                  try clear hfz18_1
                  try clear hfz23_0
                  try clear hfz23_1
                  try clear hfz24_0
                  try clear hfz24_1
                  try clear hfz25_0
                  try clear hfz25_1
                  try clear hx166_0
                  try clear hx166_1
                  try clear hx169_0
                  try clear hx169_1
                  try clear p166
                  try clear p169
                  try clear p2
                  try clear p6
                  try clear q166
                  try clear q169
                  obtain ⟨kq, x57_9, rfl, HA, HJ9, HO_4, HO_22, BK167, HB⟩ := hcut
                  cases kq with
                  | zero => exact absurd HA.out (by simp [quadformlaw22_PrimeProduct.j2])
                  | succ kj9 =>
                    have H := HA.out
                    clear HA
                    simp only [quadformlaw22_PrimeProduct.j2] at H
                    by_cases c26 : x57_9 = true
                    · subst c26
                      have H1 : (some false) = some r := by rw [if_pos rfl] at H; exact H
                      clear H
                      have H := H1
                      clear H1
                      obtain rfl := Option.some.inj H
                      go_wp2
                      repeat (go_quiet (fail); try go_wp2)
                      go_ret
                      exact ⟨by first | rfl | (simp [errW_none, errW_some] <;> rfl) | (simp [*, errW_none, errW_some] <;> rfl), by repeat (first | (with_reducible first | exact HB.out | apply below_alloc | apply pw_below_drewN | apply below_drew1 | refine below_set ?_ GE167.out) | exact HB.out)⟩
                    · replace c26 := Bool.eq_false_iff.mpr c26
                      subst c26
                      have H1 : (quadformlaw22_PrimeProduct.l1 kj9 x3_1 t161 t162 x6_2 0 t161 (t161.length : Int) x24_2 ((rd_T30 t161 x24_2).f0) ((rd_T30 t161 x24_2).f1)) = some r := by rw [if_neg (show ¬ (false = true) by decide)] at H; exact H
                      clear H
                      have H := H1
                      clear H1
                      have H' := Aside0.mk H
                      clear H
                      go_wp2
                      repeat (go_quiet (fail); try go_wp2)
                      go_loopg [6, 9] kj9 (fun kq v6 v9 w' => ∃ (x6_4 : Int) (x9_4 : Int), v6 = .int .i64 x6_4 ∧ v9 = .int .i64 x9_4 ∧ Aside0 (quadformlaw22_PrimeProduct.l1 kq x3_1 t161 t162 x6_4 x9_4 t161 (t161.length : Int) x24_2 ((rd_T30 t161 x24_2).f0) ((rd_T30 t161 x24_2).f1) = some r) ∧ Aside0 (kq ≤ kj9) ∧ Aside0 (Kd.R k30 30 w' w.heap.size (fun k_ => k_ ≠ gb167) (.slice (some ad166) t161.length co6) t161) ∧ Aside0 (Kd.R k30 30 w' w.heap.size (fun k_ => k_ ≠ gb167) (.slice (some ad166) t161.length co6) t161) ∧ Aside0 (w'.heap[gb167]? = some (.cells #[.int .i64 ((rd_T30 t161 x24_2).f0), .int .i64 ((rd_T30 t161 x24_2).f1)] 30 (0, 0))) ∧ Aside0 (Below w.heap.size w w'))
                      case atStart => exact ⟨(x6_2), (0), (by first | rfl | (simp; done) | (simp [*]; done)), (by first | rfl | (simp; done) | (simp [*]; done)), H', ⟨Nat.le_refl _⟩, ⟨by (with_reducible repeat (first | apply Kd.R_alloc | apply Kd.R_drewN | apply Kd.R_drew)); exact HO_4.out⟩, ⟨by (with_reducible repeat (first | apply Kd.R_alloc | apply Kd.R_drewN | apply Kd.R_drew)); exact HO_22.out⟩, ⟨by (with_reducible repeat (first | refine blk_drewN ?_ _ | refine blk_drew ?_ | refine blk_alloc ?_ _)); exact BK167.out⟩, ⟨by repeat (first | (with_reducible first | exact HB.out | apply below_alloc | apply pw_below_drewN | apply below_drew1 | refine below_set ?_ GE167.out) | exact HB.out)⟩⟩
                      case round =>
                        clear H'
                        try clear c1
                        try clear p1
                        try clear q1
                        try clear hx1
                        try clear c2
                        try clear p2
                        try clear c3
                        try clear c3b0
                        try clear c5
                        try clear p6
                        try clear c7
                        try clear c7b0
                        try clear c8
                        try clear c8b0
                        try clear c9
                        try clear c9b0
                        try clear c14
                        try clear c15
                        try clear c15b0
                        try clear p16
                        try clear q16
                        try clear hx16
                        try clear c17
                        try clear c17b0
                        try clear c19
                        try clear c19b0
                        try clear c21
                        try clear c21b0
                        try clear c22
                        try clear c22b0
                        try clear c26
                        try clear hcz12_0
                        try clear hcz12_1
                        try clear hcz16_0
                        try clear hcz16_1
                        try clear hcz18_0
                        try clear hcz18_1
                        try clear hcz23_0
                        try clear hcz23_1
                        try clear hcz24_0
                        try clear hcz24_1
                        try clear hcz25_0
                        try clear hcz25_1
                        try clear hfz12_0
                        try clear hfz12_1
                        try clear hfz16_0
                        try clear hfz16_1
                        try clear hfz18_0
                        try clear hfz18_1
                        try clear hfz23_0
                        try clear hfz23_1
                        try clear hfz24_0
                        try clear hfz24_1
                        try clear hfz25_0
                        try clear hfz25_1
                        try clear hx166_0
                        try clear hx166_1
                        try clear hx169_0
                        try clear hx169_1
                        try clear p1
                        try clear p16
                        try clear p166
                        try clear p169
                        try clear p2
                        try clear p6
                        try clear q1
                        try clear q16
                        try clear q166
                        try clear q169
                        obtain ⟨x6_4, x9_4, rfl, rfl, HA, HK4, HO_4, HO_22, BK167, HB⟩ := hrel
                        cases gk with
                        | zero => exact absurd HA.out (by simp [quadformlaw22_PrimeProduct.l1])
                        | succ k4 =>
                          have H := HA.out
                          clear HA
                          simp only [quadformlaw22_PrimeProduct.l1] at H
                          by_cases c27 : x9_4 < ((rd_T30 t161 x24_2).f1)
                          · rw [if_pos c27] at H
                            have c27b0 : decide (x9_4 < ((rd_T30 t161 x24_2).f1)) = true := decide_eq_true c27
                            clear c27
                            by_cases c28 : x6_4 ≤ x3_1
                            · rw [if_pos c28] at H
                              have c28b0 : decide (x6_4 ≤ x3_1) = true := decide_eq_true c28
                              clear c28
                              have H' := Aside0.mk H
                              clear H
                              have hcz29_0 : wr.cell? ⟨gb167, 0, none⟩ = some (.int .i64 ((rd_T30 t161 x24_2).f0)) := (blk_cell BK167.out 0).trans rfl
                              have hcz29_1 : wr.cell? ⟨gb167, 1, none⟩ = some (.int .i64 ((rd_T30 t161 x24_2).f1)) := (blk_cell BK167.out 1).trans rfl
                              have hfz29_0 := blk_frozen BK167.out 0
                              have hfz29_1 := blk_frozen BK167.out 1
                              go_wp2
                              repeat (go_quiet (fail); try go_wp2)
                              go_roundg k4
                              case measure => have := HJ1.out; have := HK2.out; have := HJ9.out; have := HK4.out; omega
                              case rel => exact ⟨(wrap64 (x6_4 * ((rd_T30 t161 x24_2).f0))), (wrap64 (x9_4 + 1)), (by first | rfl | (simp; done) | (simp [*]; done)), (by first | rfl | (simp; done) | (simp [*]; done)), H', ⟨by have := HJ1.out; have := HK2.out; have := HJ9.out; have := HK4.out; omega⟩, ⟨by (with_reducible repeat (first | apply Kd.R_alloc | apply Kd.R_drewN | apply Kd.R_drew)); exact HO_4.out⟩, ⟨by (with_reducible repeat (first | apply Kd.R_alloc | apply Kd.R_drewN | apply Kd.R_drew)); exact HO_22.out⟩, ⟨by (with_reducible repeat (first | refine blk_drewN ?_ _ | refine blk_drew ?_ | refine blk_alloc ?_ _)); exact BK167.out⟩, ⟨by repeat (first | (with_reducible first | exact HB.out | apply below_alloc | apply pw_below_drewN | apply below_drew1 | refine below_set ?_ GE167.out) | exact HB.out)⟩⟩
                            · rw [if_neg c28] at H
                              have c28b0 : decide (x6_4 ≤ x3_1) = false := decide_eq_false c28
                              clear c28
                              have H' := Aside0.mk H
                              clear H
                              have hcz30_0 : wr.cell? ⟨gb167, 0, none⟩ = some (.int .i64 ((rd_T30 t161 x24_2).f0)) := (blk_cell BK167.out 0).trans rfl
                              have hcz30_1 : wr.cell? ⟨gb167, 1, none⟩ = some (.int .i64 ((rd_T30 t161 x24_2).f1)) := (blk_cell BK167.out 1).trans rfl
                              have hfz30_0 := blk_frozen BK167.out 0
                              have hfz30_1 := blk_frozen BK167.out 1
                              go_wp2
                              repeat (go_quiet (fail); try go_wp2)
                              go_roundg k4
                              case measure => have := HJ1.out; have := HK2.out; have := HJ9.out; have := HK4.out; omega
                              case rel => exact ⟨(x6_4), (wrap64 (x24_2 + 1)), (by first | rfl | (simp; done) | (simp [*]; done)), (by first | rfl | (simp; done) | (simp [*]; done)), H', ⟨by have := HJ1.out; have := HK2.out; have := HJ9.out; have := HK4.out; omega⟩, ⟨by (with_reducible repeat (first | apply Kd.R_alloc | apply Kd.R_drewN | apply Kd.R_drew)); exact Kd.R_mono HO_4.out (fun _ hk => trivial)⟩, ⟨by (with_reducible repeat (first | apply Kd.R_alloc | apply Kd.R_drewN | apply Kd.R_drew)); exact Kd.R_mono HO_22.out (fun _ hk => trivial)⟩, ⟨by repeat (first | (with_reducible first | exact HB.out | apply below_alloc | apply pw_below_drewN | apply below_drew1 | refine below_set ?_ GE167.out) | exact HB.out)⟩⟩
                          · rw [if_neg c27] at H
                            have c27b0 : decide (x9_4 < ((rd_T30 t161 x24_2).f1)) = false := decide_eq_false c27
                            clear c27
                            have H' := Aside0.mk H
                            clear H
                            have hcz31_0 : wr.cell? ⟨gb167, 0, none⟩ = some (.int .i64 ((rd_T30 t161 x24_2).f0)) := (blk_cell BK167.out 0).trans rfl
                            have hcz31_1 : wr.cell? ⟨gb167, 1, none⟩ = some (.int .i64 ((rd_T30 t161 x24_2).f1)) := (blk_cell BK167.out 1).trans rfl
                            have hfz31_0 := blk_frozen BK167.out 0
                            have hfz31_1 := blk_frozen BK167.out 1
                            go_wp2
                            repeat (go_quiet (fail); try go_wp2)
                            go_roundg k4
                            case measure => have := HJ1.out; have := HK2.out; have := HJ9.out; have := HK4.out; omega
                            case rel => exact ⟨(x6_4), (wrap64 (x24_2 + 1)), (by first | rfl | (simp; done) | (simp [*]; done)), (by first | rfl | (simp; done) | (simp [*]; done)), H', ⟨by have := HJ1.out; have := HK2.out; have := HJ9.out; have := HK4.out; omega⟩, ⟨by (with_reducible repeat (first | apply Kd.R_alloc | apply Kd.R_drewN | apply Kd.R_drew)); exact Kd.R_mono HO_4.out (fun _ hk => trivial)⟩, ⟨by (with_reducible repeat (first | apply Kd.R_alloc | apply Kd.R_drewN | apply Kd.R_drew)); exact Kd.R_mono HO_22.out (fun _ hk => trivial)⟩, ⟨by repeat (first | (with_reducible first | exact HB.out | apply below_alloc | apply pw_below_drewN | apply below_drew1 | refine below_set ?_ GE167.out) | exact HB.out)⟩⟩
              · rw [if_neg c9] at H
                exact absurd H (by simp)
            · rw [if_neg c8] at H
              exact absurd H (by simp)
          · rw [if_neg c7] at H
            have c7b0 : decide (x24_2 < (t161.length : Int)) = false := decide_eq_false c7
            clear c7
            by_cases c32 : t162 = 0
            · rw [if_pos c32] at H
              have c32b0 : (t162 == 0) = true := beq_iff_eq.mpr c32
              have c32b1 : (t162 != 0) = false := bne_eq_false_iff_eq.mpr c32
              clear c32
              by_cases c33 : x6_2 = x3_1
              · rw [if_pos c33] at H
                have c33b0 : (x6_2 == x3_1) = true := beq_iff_eq.mpr c33
                have c33b1 : (x6_2 != x3_1) = false := bne_eq_false_iff_eq.mpr c33
                clear c33
                replace H := Option.bind_eq_some_iff.mp H
                obtain ⟨t165, A340, H⟩ := H
                replace H : (some t165) = some r := H
                have A34 := Aside0.mk A340
                clear A340
                obtain rfl := Option.some.inj H
                go_wp2_with (first | (go_at_call 17; (with_reducible refine (quadformlaw22_awake.calls k2  t165 _ A34.out).mono ?_); rintro e w35 ⟨rfl, hb⟩; have n0_ := Aside0.mk (Kd.R_below (by (with_reducible repeat (first | apply Kd.R_alloc | apply Kd.R_drewN | apply Kd.R_drew)); exact HO_4.out) hb); have n1_ := Aside0.mk (Kd.R_below (by (with_reducible repeat (first | apply Kd.R_alloc | apply Kd.R_drewN | apply Kd.R_drew)); exact HO_22.out) hb); have n2_ := Aside0.mk (below_step (by repeat (first | (with_reducible first | exact HB.out | apply below_alloc | apply pw_below_drewN | apply below_drew1) | exact HB.out)) hb); clear HO_4; clear HO_22; clear HB; have HO_4 := n0_; have HO_22 := n1_; have HB := n2_; clear n0_ n1_ n2_; (try clear hb); (try clear hb2); (try clear hk); (try clear hi)))
                repeat (go_quiet (first | (go_at_call 17; (with_reducible refine (quadformlaw22_awake.calls k2  t165 _ A34.out).mono ?_); rintro e w35 ⟨rfl, hb⟩; have n0_ := Aside0.mk (Kd.R_below (by (with_reducible repeat (first | apply Kd.R_alloc | apply Kd.R_drewN | apply Kd.R_drew)); exact HO_4.out) hb); have n1_ := Aside0.mk (Kd.R_below (by (with_reducible repeat (first | apply Kd.R_alloc | apply Kd.R_drewN | apply Kd.R_drew)); exact HO_22.out) hb); have n2_ := Aside0.mk (below_step (by repeat (first | (with_reducible first | exact HB.out | apply below_alloc | apply pw_below_drewN | apply below_drew1) | exact HB.out)) hb); clear HO_4; clear HO_22; clear HB; have HO_4 := n0_; have HO_22 := n1_; have HB := n2_; clear n0_ n1_ n2_; (try clear hb); (try clear hb2); (try clear hk); (try clear hi))); try go_wp2_with (first | (go_at_call 17; (with_reducible refine (quadformlaw22_awake.calls k2  t165 _ A34.out).mono ?_); rintro e w35 ⟨rfl, hb⟩; have n0_ := Aside0.mk (Kd.R_below (by (with_reducible repeat (first | apply Kd.R_alloc | apply Kd.R_drewN | apply Kd.R_drew)); exact HO_4.out) hb); have n1_ := Aside0.mk (Kd.R_below (by (with_reducible repeat (first | apply Kd.R_alloc | apply Kd.R_drewN | apply Kd.R_drew)); exact HO_22.out) hb); have n2_ := Aside0.mk (below_step (by repeat (first | (with_reducible first | exact HB.out | apply below_alloc | apply pw_below_drewN | apply below_drew1) | exact HB.out)) hb); clear HO_4; clear HO_22; clear HB; have HO_4 := n0_; have HO_22 := n1_; have HB := n2_; clear n0_ n1_ n2_; (try clear hb); (try clear hb2); (try clear hk); (try clear hi))))
                go_ret
                exact ⟨by first | rfl | (simp [errW_none, errW_some] <;> rfl) | (simp [*, errW_none, errW_some] <;> rfl), by repeat (first | (with_reducible first | exact HB.out | apply below_alloc | apply pw_below_drewN | apply below_drew1) | exact HB.out)⟩
              · rw [if_neg c33] at H
                have c33b0 : (x6_2 == x3_1) = false := beq_eq_false_iff_ne.mpr c33
                have c33b1 : (x6_2 != x3_1) = true := bne_iff_ne.mpr c33
                obtain rfl := Option.some.inj H
                go_wp2
                repeat (go_quiet (fail); try go_wp2)
                go_ret
                exact ⟨by first | rfl | (simp [errW_none, errW_some] <;> rfl) | (simp [*, errW_none, errW_some] <;> rfl), by repeat (first | (with_reducible first | exact HB.out | apply below_alloc | apply pw_below_drewN | apply below_drew1) | exact HB.out)⟩
            · rw [if_neg c32] at H
              have c32b0 : (t162 == 0) = false := beq_eq_false_iff_ne.mpr c32
              have c32b1 : (t162 != 0) = true := bne_iff_ne.mpr c32
              obtain rfl := Option.some.inj H
              go_wp2
              repeat (go_quiet (fail); try go_wp2)
              go_ret
              exact ⟨by first | rfl | (simp [errW_none, errW_some] <;> rfl) | (simp [*, errW_none, errW_some] <;> rfl), by repeat (first | (with_reducible first | exact HB.out | apply below_alloc | apply pw_below_drewN | apply below_drew1) | exact HB.out)⟩

/-- THE ONE PURE STATEMENT of quadformlaw22_PrimeProduct: yours. -/
def quadformlaw22_PrimeProduct.Pure : Prop := ∀ (a0 : Int), (Lit.int .i64 a0).wf = true → ∃ k, quadformlaw22_PrimeProduct.f k a0 = some true
theorem quadformlaw22_PrimeProduct.walk (P : quadformlaw22_PrimeProduct.Pure) (a0 : Int) (w : World) (w0 : (Lit.int .i64 a0).wf = true) :
    Calls Try.prog 5 #[.int .i64 a0] w fun e w' => e = .returned (.bool true) ∧ Below w.heap.size w w' := by
  obtain ⟨k, h⟩ := P a0 w0
  refine (quadformlaw22_PrimeProduct.calls k a0 true w h).mono ?_
  rintro e w' ⟨rfl, hd⟩
  exact ⟨rfl, hd⟩

end Go.Proofs.Ytcjhbjfkcmncpaa.Q
