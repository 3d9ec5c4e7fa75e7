-- Written by a program of this session out of the translation.
import Derived.Test.YtcjhbjfkcmncpaaQx0
import Derived.Test.YtcjhbjfkcmncpaaQx4
import Derived.Test.YtcjhbjfkcmncpaaQx5
import Derived.Test.YtcjhbjfkcmncpaaQx7
namespace Go.Proofs.Ytcjhbjfkcmncpaa.Q
open Go.RowKit Go.Proofs.YtcjhbjfkcmncpaaW.PrintWords Go.Proofs.YtcjhbjfkcmncpaaW.PrintLast Go.Proofs.YtcjhbjfkcmncpaaW.PrintMore
attribute [local go_sem] max2_int min2_int max_two min_two max_three min_three max_four min_four   -- for this text's walks alone
set_option linter.unusedVariables false
set_option linter.unusedSimpArgs false

/-! ### prime_Kronecker: function 21 -/
mutual
def prime_Kronecker.j0 : Nat → Int → Int → Bool → Option (Int × Int)
  | 0, _, _, _ => none
  | k + 1, x0, x1, x17 => if x17 = true then (some (0, 1)) else (if x1 = 0 then (if x0 = 1 then (some (1, 0)) else (if x0 = (-1) then (some (1, 0)) else (some (0, 0)))) else (if x1 < 0 then (if x0 < 0 then (prime_Kronecker.j1 k x0 (wrap64 (-x1)) (-1)) else (prime_Kronecker.j1 k x0 (wrap64 (-x1)) 1)) else (prime_Kronecker.j1 k x0 x1 1)))
def prime_Kronecker.j1 : Nat → Int → Int → Int → Option (Int × Int)
  | 0, _, _, _ => none
  | k + 1, x0, x1, x6 => (prime_Factor.f k x1).bind fun bt111 => (prime_Kronecker.l0 k x0 x6 bt111.1 (bt111.1.length : Int) 0)
def prime_Kronecker.l0 : Nat → Int → Int → List (S30) → Int → Int → Option (Int × Int)
  | 0, _, _, _, _, _ => none
  | k + 1, x0, x6, x37, x38, x39 => if x39 < x38 then (if 0 ≤ x39 then (if x39 < (x37.length : Int) then ((prime_symbol.f k x0 ((rd_T30 x37 x39).f0)).bind fun t117 => (if t117 = 0 then (some (0, 0)) else (if (Int.tmod ((rd_T30 x37 x39).f1) 2) = 1 then (prime_Kronecker.l0 k x0 (wrap64 (x6 * t117)) x37 x38 (wrap64 (x39 + 1))) else (prime_Kronecker.l0 k x0 x6 x37 x38 (wrap64 (x39 + 1)))))) else (none)) else (none)) else (some (x6, 0))
end
def prime_Kronecker.f (k : Nat) (a0 : Int) (a1 : Int) : Option (Int × Int) := (prime_beyond.f a0).bind fun t109 => (if t109 = true then (prime_Kronecker.j0 k a0 a1 true) else ((prime_beyond.f a1).bind fun t110 => (prime_Kronecker.j0 k a0 a1 t110)))
theorem prime_Kronecker.mono_l : ∀ k, (∀ y0 y1 y2, LeO (prime_Kronecker.j0 k y0 y1 y2) (prime_Kronecker.j0 (k + 1) y0 y1 y2)) ∧ (∀ y0 y1 y2, LeO (prime_Kronecker.j1 k y0 y1 y2) (prime_Kronecker.j1 (k + 1) y0 y1 y2)) ∧ (∀ y0 y1 y2 y3 y4, LeO (prime_Kronecker.l0 k y0 y1 y2 y3 y4) (prime_Kronecker.l0 (k + 1) y0 y1 y2 y3 y4))
  | 0 => ⟨fun _ _ _ r h => by simp [prime_Kronecker.j0] at h, fun _ _ _ r h => by simp [prime_Kronecker.j1] at h, fun _ _ _ _ _ r h => by simp [prime_Kronecker.l0] at h⟩
  | k + 1 => by
    obtain ⟨ih0, ih1, ih2⟩ := prime_Kronecker.mono_l k
    refine ⟨?_, ?_, ?_⟩
    · intro y0 y1 y2
      unfold prime_Kronecker.j0
      repeat' first
      | (with_reducible exact ih0 _ _ _)
      | (with_reducible exact ih1 _ _ _)
      | (with_reducible exact ih2 _ _ _ _ _)
      | (with_reducible exact prime_Factor.mono _ _)
      | (with_reducible exact prime_symbol.mono _ _ _)
      | (with_reducible exact LeO.refl _)
      | (with_reducible exact LeO.none _)
      | (with_reducible refine LeO.ite ?_ ?_)
      | (with_reducible refine LeO.bind ?_ (fun _ => ?_))
      | exact ih0 _ _ _
      | exact ih1 _ _ _
      | exact ih2 _ _ _ _ _
      | exact prime_Factor.mono _ _
      | exact prime_symbol.mono _ _ _
      | exact LeO.none _
      | refine LeO.ite ?_ ?_
      | refine LeO.bind ?_ (fun _ => ?_)
    · intro y0 y1 y2
      unfold prime_Kronecker.j1
      repeat' first
      | (with_reducible exact ih0 _ _ _)
      | (with_reducible exact ih1 _ _ _)
      | (with_reducible exact ih2 _ _ _ _ _)
      | (with_reducible exact prime_Factor.mono _ _)
      | (with_reducible exact prime_symbol.mono _ _ _)
      | (with_reducible exact LeO.refl _)
      | (with_reducible exact LeO.none _)
      | (with_reducible refine LeO.ite ?_ ?_)
      | (with_reducible refine LeO.bind ?_ (fun _ => ?_))
      | exact ih0 _ _ _
      | exact ih1 _ _ _
      | exact ih2 _ _ _ _ _
      | exact prime_Factor.mono _ _
      | exact prime_symbol.mono _ _ _
      | exact LeO.none _
      | refine LeO.ite ?_ ?_
      | refine LeO.bind ?_ (fun _ => ?_)
    · intro y0 y1 y2 y3 y4
      unfold prime_Kronecker.l0
      repeat' first
      | (with_reducible exact ih0 _ _ _)
      | (with_reducible exact ih1 _ _ _)
      | (with_reducible exact ih2 _ _ _ _ _)
      | (with_reducible exact prime_Factor.mono _ _)
      | (with_reducible exact prime_symbol.mono _ _ _)
      | (with_reducible exact LeO.refl _)
      | (with_reducible exact LeO.none _)
      | (with_reducible refine LeO.ite ?_ ?_)
      | (with_reducible refine LeO.bind ?_ (fun _ => ?_))
      | exact ih0 _ _ _
      | exact ih1 _ _ _
      | exact ih2 _ _ _ _ _
      | exact prime_Factor.mono _ _
      | exact prime_symbol.mono _ _ _
      | exact LeO.none _
      | refine LeO.ite ?_ ?_
      | refine LeO.bind ?_ (fun _ => ?_)
theorem prime_Kronecker.mono : ∀ a0 a1 k, LeO (prime_Kronecker.f k a0 a1) (prime_Kronecker.f (k + 1) a0 a1) := by
  intro a0 a1 k
  obtain ⟨ih0, ih1, ih2⟩ := prime_Kronecker.mono_l k
  unfold prime_Kronecker.f
  repeat' first
      | (with_reducible exact ih0 _ _ _)
      | (with_reducible exact ih1 _ _ _)
      | (with_reducible exact ih2 _ _ _ _ _)
      | (with_reducible exact prime_Factor.mono _ _)
      | (with_reducible exact prime_symbol.mono _ _ _)
      | (with_reducible exact LeO.refl _)
      | (with_reducible exact LeO.none _)
      | (with_reducible refine LeO.ite ?_ ?_)
      | (with_reducible refine LeO.bind ?_ (fun _ => ?_))
      | exact ih0 _ _ _
      | exact ih1 _ _ _
      | exact ih2 _ _ _ _ _
      | exact prime_Factor.mono _ _
      | exact prime_symbol.mono _ _ _
      | exact LeO.none _
      | refine LeO.ite ?_ ?_
      | refine LeO.bind ?_ (fun _ => ?_)
set_option maxHeartbeats 8000000 in
set_option maxRecDepth 100000 in
theorem prime_Kronecker.calls (k : Nat) (a0 : Int) (a1 : Int) (r1 : Int) (r2 : Int) (w : World) (h : prime_Kronecker.f k a0 a1 = some (r1, r2)) :
    Calls Try.prog 21 #[.int .i64 a0, .int .i64 a1] w fun e w' => e = .returned (.tuple #[.int .i64 r1, .int .i64 r2]) ∧ Below w.heap.size w w' := by
  have hu30 := Try.underlying30
  have HB := Aside0.mk (Below.refl w.heap.size w)
  have H : ((prime_beyond.f a0).bind fun t109 => (if t109 = true then (prime_Kronecker.j0 k a0 a1 true) else ((prime_beyond.f a1).bind fun t110 => (prime_Kronecker.j0 k a0 a1 t110)))) = some (r1, r2) := h
  clear h
  have HC3 := Aside0.mk H
  clear H
  go_enter Try.func21, Try.ntmps21
  go_upto_region 1 with (fail)
  go_cut [17] (fun v17 wc => ∃ (kq : Nat) (x17_2 : Bool), v17 = .bool x17_2 ∧ Aside0 (prime_Kronecker.j0 kq a0 a1 x17_2 = some (r1, r2)) ∧ Aside0 (kq ≤ k) ∧ Aside0 (Below w.heap.size w wc))
  case first =>
    have H := HC3.out
    clear HC3
    replace H := Option.bind_eq_some_iff.mp H
    obtain ⟨t109, A40, H⟩ := H
    replace H : (if t109 = true then (prime_Kronecker.j0 k a0 a1 true) else ((prime_beyond.f a1).bind fun t110 => (prime_Kronecker.j0 k a0 a1 t110))) = some (r1, r2) := H
    have A4 := Aside0.mk A40
    clear A40
    by_cases c5 : t109 = true
    · subst c5
      have H1 : (prime_Kronecker.j0 k a0 a1 true) = some (r1, r2) := by rw [if_pos rfl] at H; exact H
      clear H
      have H := H1
      clear H1
      have H' := Aside0.mk H
      clear H
      go_wp2_with (first | ((with_reducible refine gate_callee (f := 37) rfl ?_); refine goesL_ (some 13) rfl rfl Try.func37 (by kernel_rfl) rfl #[.int .i64 a0] rfl (by (try simp only [List.map_toArray, List.map_cons, List.map_nil]); first | done | rfl | (simp only [List.length_drop, List.length_take]; rfl)) ?_; (with_reducible refine (prime_beyond.calls a0 true _ A4.out).mono ?_); rintro e w' ⟨rfl, ⟨nd, rfl⟩⟩; refine ⟨_, rfl, ?_⟩))
      go_meet
      case rel => exact ⟨_, (true), (by first | rfl | (simp; done) | (simp [*]; done)), H', ⟨by first | omega | exact Nat.le_refl _⟩, ⟨by repeat (first | (with_reducible first | exact HB.out | apply below_alloc | apply pw_below_drewN | apply below_drew1) | exact HB.out)⟩⟩
    · replace c5 := Bool.eq_false_iff.mpr c5
      subst c5
      have H1 : ((prime_beyond.f a1).bind fun t110 => (prime_Kronecker.j0 k a0 a1 t110)) = some (r1, r2) := by rw [if_neg (show ¬ (false = true) by decide)] at H; exact H
      clear H
      have H := H1
      clear H1
      replace H := Option.bind_eq_some_iff.mp H
      obtain ⟨t110, A60, H⟩ := H
      replace H : (prime_Kronecker.j0 k a0 a1 t110) = some (r1, r2) := H
      have A6 := Aside0.mk A60
      clear A60
      have H' := Aside0.mk H
      clear H
      go_wp2_with (first | ((with_reducible refine gate_callee (f := 37) rfl ?_); refine goesL_ (some 13) rfl rfl Try.func37 (by kernel_rfl) rfl #[.int .i64 a0] rfl (by (try simp only [List.map_toArray, List.map_cons, List.map_nil]); first | done | rfl | (simp only [List.length_drop, List.length_take]; rfl)) ?_; (with_reducible refine (prime_beyond.calls a0 false _ A4.out).mono ?_); rintro e w' ⟨rfl, ⟨nd, rfl⟩⟩; refine ⟨_, rfl, ?_⟩) | (go_at_call 37; (with_reducible refine (prime_beyond.calls a1 t110 _ A6.out).mono ?_); rintro e w' ⟨rfl, ⟨nd, rfl⟩⟩))
      go_meet
      case rel => exact ⟨_, (t110), (by first | rfl | (simp; done) | (simp [*]; done)), H', ⟨by first | omega | exact Nat.le_refl _⟩, ⟨by repeat (first | (with_reducible first | exact HB.out | apply below_alloc | apply pw_below_drewN | apply below_drew1) | exact HB.out)⟩⟩
  case rest =>
    clear HC3
    try clear c2
    try clear p2
    try clear c3
    try clear c5
    obtain ⟨kq, x17_2, rfl, HA, HJ2, HB⟩ := hcut
    cases kq with
    | zero => exact absurd HA.out (by simp [prime_Kronecker.j0])
    | succ kj2 =>
      have H := HA.out
      clear HA
      simp only [prime_Kronecker.j0] at H
      by_cases c7 : x17_2 = true
      · subst c7
        have H1 : (some (0, 1)) = some (r1, r2) := by rw [if_pos rfl] at H; exact H
        clear H
        have H := H1
        clear H1
        simp only [Option.some.injEq, Prod.mk.injEq] at H
        obtain ⟨rfl, rfl⟩ := H
        go_wp2
        go_ret2
        exact ⟨by first | rfl | (simp [errW_none, errW_some] <;> rfl) | (simp [*, errW_none, errW_some] <;> rfl), by repeat (first | (with_reducible first | exact HB.out | apply below_alloc | apply pw_below_drewN | apply below_drew1) | exact HB.out)⟩
      · replace c7 := Bool.eq_false_iff.mpr c7
        subst c7
        have H1 : (if a1 = 0 then (if a0 = 1 then (some (1, 0)) else (if a0 = (-1) then (some (1, 0)) else (some (0, 0)))) else (if a1 < 0 then (if a0 < 0 then (prime_Kronecker.j1 kj2 a0 (wrap64 (-a1)) (-1)) else (prime_Kronecker.j1 kj2 a0 (wrap64 (-a1)) 1)) else (prime_Kronecker.j1 kj2 a0 a1 1))) = some (r1, r2) := by rw [if_neg (show ¬ (false = true) by decide)] at H; exact H
        clear H
        have H := H1
        clear H1
        by_cases c8 : a1 = 0
        · rw [if_pos c8] at H
          have c8b0 : (a1 == 0) = true := beq_iff_eq.mpr c8
          have c8b1 : (a1 != 0) = false := bne_eq_false_iff_eq.mpr c8
          clear c8
          by_cases c9 : a0 = 1
          · rw [if_pos c9] at H
            have c9b0 : (a0 == 1) = true := beq_iff_eq.mpr c9
            have c9b1 : (a0 != 1) = false := bne_eq_false_iff_eq.mpr c9
            clear c9
            simp only [Option.some.injEq, Prod.mk.injEq] at H
            obtain ⟨rfl, rfl⟩ := H
            go_wp2
            go_ret2
            exact ⟨by first | rfl | (simp [errW_none, errW_some] <;> rfl) | (simp [*, errW_none, errW_some] <;> rfl), by repeat (first | (with_reducible first | exact HB.out | apply below_alloc | apply pw_below_drewN | apply below_drew1) | exact HB.out)⟩
          · rw [if_neg c9] at H
            have c9b0 : (a0 == 1) = false := beq_eq_false_iff_ne.mpr c9
            have c9b1 : (a0 != 1) = true := bne_iff_ne.mpr c9
            by_cases c10 : a0 = (-1)
            · rw [if_pos c10] at H
              have c10b0 : (a0 == (-1)) = true := beq_iff_eq.mpr c10
              have c10b1 : (a0 != (-1)) = false := bne_eq_false_iff_eq.mpr c10
              clear c10
              simp only [Option.some.injEq, Prod.mk.injEq] at H
              obtain ⟨rfl, rfl⟩ := H
              go_wp2
              go_ret2
              exact ⟨by first | rfl | (simp [errW_none, errW_some] <;> rfl) | (simp [*, errW_none, errW_some] <;> rfl), by repeat (first | (with_reducible first | exact HB.out | apply below_alloc | apply pw_below_drewN | apply below_drew1) | exact HB.out)⟩
            · rw [if_neg c10] at H
              have c10b0 : (a0 == (-1)) = false := beq_eq_false_iff_ne.mpr c10
              have c10b1 : (a0 != (-1)) = true := bne_iff_ne.mpr c10
              simp only [Option.some.injEq, Prod.mk.injEq] at H
              obtain ⟨rfl, rfl⟩ := H
              go_wp2
              go_ret2
              exact ⟨by first | rfl | (simp [errW_none, errW_some] <;> rfl) | (simp [*, errW_none, errW_some] <;> rfl), by repeat (first | (with_reducible first | exact HB.out | apply below_alloc | apply pw_below_drewN | apply below_drew1) | exact HB.out)⟩
        · rw [if_neg c8] at H
          have c8b0 : (a1 == 0) = false := beq_eq_false_iff_ne.mpr c8
          have c8b1 : (a1 != 0) = true := bne_iff_ne.mpr c8
          have HC11 := Aside0.mk H
          clear H
          go_upto_if 27 with (fail)
          go_cut [1, 6] (fun v1 v6 wc => ∃ (kq : Nat) (x1_10 : Int) (x6_10 : Int), v1 = .int .i64 x1_10 ∧ v6 = .int .i64 x6_10 ∧ Aside0 (prime_Kronecker.j1 kq a0 x1_10 x6_10 = some (r1, r2)) ∧ Aside0 (kq ≤ kj2) ∧ Aside0 (Below w.heap.size w wc))
          case first =>
            have H := HC11.out
            clear HC11
            by_cases c12 : a1 < 0
            · rw [if_pos c12] at H
              have c12b0 : decide (a1 < 0) = true := decide_eq_true c12
              clear c12
              (first | rw [c12b0] | (simp only [i64_w, i32_w]; rw [c12b0]) | skip)
              by_cases c13 : a0 < 0
              · rw [if_pos c13] at H
                have c13b0 : decide (a0 < 0) = true := decide_eq_true c13
                clear c13
                have H' := Aside0.mk H
                clear H
                go_wp2
                go_meet
                case rel => exact ⟨_, (wrap64 (-a1)), ((-1)), (by first | rfl | (simp; done) | (simp [*]; done)), (by first | rfl | (simp; done) | (simp [*]; done)), H', ⟨by have := HJ2.out; first | omega | exact Nat.le_refl _⟩, ⟨by repeat (first | (with_reducible first | exact HB.out | apply below_alloc | apply pw_below_drewN | apply below_drew1) | exact HB.out)⟩⟩
              · rw [if_neg c13] at H
                have c13b0 : decide (a0 < 0) = false := decide_eq_false c13
                clear c13
                have H' := Aside0.mk H
                clear H
                go_wp2
                go_meet
                case rel => exact ⟨_, (wrap64 (-a1)), (1), (by first | rfl | (simp; done) | (simp [*]; done)), (by first | rfl | (simp; done) | (simp [*]; done)), H', ⟨by have := HJ2.out; first | omega | exact Nat.le_refl _⟩, ⟨by repeat (first | (with_reducible first | exact HB.out | apply below_alloc | apply pw_below_drewN | apply below_drew1) | exact HB.out)⟩⟩
            · rw [if_neg c12] at H
              have c12b0 : decide (a1 < 0) = false := decide_eq_false c12
              clear c12
              (first | rw [c12b0] | (simp only [i64_w, i32_w]; rw [c12b0]) | skip)
              have H' := Aside0.mk H
              clear H
              go_wp2
              go_meet
              case rel => exact ⟨_, (a1), (1), (by first | rfl | (simp; done) | (simp [*]; done)), (by first | rfl | (simp; done) | (simp [*]; done)), H', ⟨by have := HJ2.out; first | omega | exact Nat.le_refl _⟩, ⟨by repeat (first | (with_reducible first | exact HB.out | apply below_alloc | apply pw_below_drewN | apply below_drew1) | exact HB.out)⟩⟩
          case rest =>
            clear HC11
            try clear c1
            try clear c2
            try clear p2
            try clear c3
            try clear c5
            try clear p6
            try clear c7
            try clear c8
            try clear c8b0
            try clear c8b1
            try clear c9
            try clear c9b0
            try clear c9b1
            try clear c10
            try clear c10b0
            try clear c10b1
            try clear c12
            try clear c12b0
            try clear c13
            try clear c13b0
            try clear p2
            obtain ⟨kq, x1_10, x6_10, rfl, rfl, HA, HJ10, HB⟩ := hcut
            cases kq with
            | zero => exact absurd HA.out (by simp [prime_Kronecker.j1])
            | succ kj10 =>
              have H := HA.out
              clear HA
              simp only [prime_Kronecker.j1] at H
              replace H := Option.bind_eq_some_iff.mp H
              obtain ⟨⟨t111, t112⟩, A140, H⟩ := H
              replace H : (prime_Kronecker.l0 kj10 a0 x6_10 t111 (t111.length : Int) 0) = some (r1, r2) := H
              have A14 := Aside0.mk A140
              clear A140
              have H' := Aside0.mk H
              clear H
              go_wp2_with (first | ((with_reducible refine gate_callee (f := 18) rfl ?_); refine goesL_ (some 34) rfl rfl Try.func18 (by kernel_rfl) rfl #[.int .i64 x1_10] rfl (by (try simp only [List.map_toArray, List.map_cons, List.map_nil]); first | done | rfl | (simp only [List.length_drop, List.length_take]; rfl)) ?_; (with_reducible refine (prime_Factor.calls kj10 x1_10 t111 t112 _ A14.out).mono ?_); rintro e w15 ⟨v113, rfl, ho0, hb⟩; refine ⟨_, rfl, ?_⟩; have n0_ := Aside0.mk (Kd.R_lower ho0 (below_size (by repeat (first | (with_reducible first | exact HB.out | apply below_alloc | apply pw_below_drewN | apply below_drew1) | exact HB.out)))); have n1_ := Aside0.mk (below_step (by repeat (first | (with_reducible first | exact HB.out | apply below_alloc | apply pw_below_drewN | apply below_drew1) | exact HB.out)) hb); clear HB; have HO114 := n0_; have HB := n1_; clear n0_ n1_; (try clear hb); (try clear hb2); (try clear hk); (try clear hi); (try clear ho0); obtain ⟨Ao16, co16, eo16⟩ := Kd.R_slice HO114.out; subst eo16))
              go_loopg [6, 39] kj10 (fun kq v6 v39 w' => ∃ (x6_3 : Int) (x39_3 : Int), v6 = .int .i64 x6_3 ∧ v39 = .int .i64 x39_3 ∧ Aside0 (prime_Kronecker.l0 kq a0 x6_3 t111 (t111.length : Int) x39_3 = some (r1, r2)) ∧ Aside0 (kq ≤ kj10) ∧ Aside0 (Kd.R k30 30 w' w.heap.size (fun _ => True) (.slice Ao16 t111.length co16) t111) ∧ Aside0 (Below w.heap.size w w'))
              case atStart => exact ⟨(x6_10), (0), (by first | rfl | (simp; done) | (simp [*]; done)), (by first | rfl | (simp; done) | (simp [*]; done)), H', ⟨Nat.le_refl _⟩, ⟨by (with_reducible repeat (first | apply Kd.R_alloc | apply Kd.R_drewN | apply Kd.R_drew)); exact HO114.out⟩, ⟨by repeat (first | (with_reducible first | exact HB.out | apply below_alloc | apply pw_below_drewN | apply below_drew1) | exact HB.out)⟩⟩
              case round =>
                clear H'
                try clear c1
                try clear c2
                try clear p2
                try clear c3
                try clear c5
                try clear p6
                try clear c7
                try clear c8
                try clear c8b0
                try clear c8b1
                try clear c9
                try clear c9b0
                try clear c9b1
                try clear c10
                try clear c10b0
                try clear c10b1
                try clear c12
                try clear c12b0
                try clear c13
                try clear c13b0
                try clear p2
                try clear p6
                obtain ⟨x6_3, x39_3, rfl, rfl, HA, HK3, HO_37, HB⟩ := hrel
                cases gk with
                | zero => exact absurd HA.out (by simp [prime_Kronecker.l0])
                | succ k3 =>
                  have H := HA.out
                  clear HA
                  simp only [prime_Kronecker.l0] at H
                  by_cases c17 : x39_3 < (t111.length : Int)
                  · rw [if_pos c17] at H
                    have c17b0 : decide (x39_3 < (t111.length : Int)) = true := decide_eq_true c17
                    clear c17
                    by_cases c18 : 0 ≤ x39_3
                    · rw [if_pos c18] at H
                      have c18b0 : decide (0 ≤ x39_3) = true := decide_eq_true c18
                      clear c18
                      by_cases c19 : x39_3 < (t111.length : Int)
                      · rw [if_pos c19] at H
                        have c19b0 : decide (x39_3 < (t111.length : Int)) = true := decide_eq_true c19
                        clear c19
                        replace H := Option.bind_eq_some_iff.mp H
                        obtain ⟨t117, A200, H⟩ := H
                        replace H : (if t117 = 0 then (some (0, 0)) else (if (Int.tmod ((rd_T30 t111 x39_3).f1) 2) = 1 then (prime_Kronecker.l0 k3 a0 (wrap64 (x6_3 * t117)) t111 (t111.length : Int) (wrap64 (x39_3 + 1))) else (prime_Kronecker.l0 k3 a0 x6_3 t111 (t111.length : Int) (wrap64 (x39_3 + 1))))) = some (r1, r2) := H
                        have A20 := Aside0.mk A200
                        clear A200
                        by_cases c21 : t117 = 0
                        · rw [if_pos c21] at H
                          have c21b0 : (t117 == 0) = true := beq_iff_eq.mpr c21
                          have c21b1 : (t117 != 0) = false := bne_eq_false_iff_eq.mpr c21
                          clear c21
                          simp only [Option.some.injEq, Prod.mk.injEq] at H
                          obtain ⟨rfl, rfl⟩ := H
                          have p115 : 0 ≤ (x39_3 : Int) := of_decide_eq_true (by first | (with_reducible assumption) | assumption)
                          have q115 : x39_3 < (t111.length : Int) := of_decide_eq_true (by first | (with_reducible assumption) | assumption)
                          obtain ⟨ad115, e115, hx115_0, hx115_1⟩ := at_T30 (Kd.R_reads' HO_37.out).2.2 x39_3 p115 q115
                          cases e115
                          replace p115 := eq_true p115
                          replace q115 := eq_true q115
                          go_wp2_with (first | ((with_reducible refine gate_dst (N := 10) rfl ?_); refine box_event ?hg (N := 10) ?hd (cs := #[.int .i64 0, .int .i64 0]) (t := 30) ?hr ?_; (case hd => rfl); (case hg => rfl); (case hr => first | (go_simp; done) | (go_simp; rfl)); intro gb116 hg w22 hbox hb; have n0_ := Aside0.mk (Kd.R_below (Kd.R_elderB (by (with_reducible repeat (first | apply Kd.R_alloc | apply Kd.R_drewN | apply Kd.R_drew)); exact HO_37.out) gb116 (Nat.le_of_eq hg.symm)) hb); have n1_ := Aside0.mk (below_step (by repeat (first | (with_reducible first | exact HB.out | apply below_alloc | apply pw_below_drewN | apply below_drew1) | exact HB.out)) hb); have n2_ := Aside0.mk (hbox); have n3_ := Aside0.mk ((by rw [hg]; exact (below_size (by repeat (first | (with_reducible first | exact HB.out | apply below_alloc | apply pw_below_drewN | apply below_drew1) | exact HB.out))) : w.heap.size ≤ gb116)); have n4_ := Aside0.mk ((by rw [hg]; exact (below_size (by repeat (first | (with_reducible first | exact HB.out | apply below_alloc | apply pw_below_drewN | apply below_drew1) | exact HB.out))) : w.heap.size ≤ gb116)); clear HO_37; clear HB; have HO_37 := n0_; have HB := n1_; have BK116 := n2_; have GW116 := n3_; have GE116 := n4_; clear n0_ n1_ n2_ n3_ n4_; clear hb hbox hg; have hcz23_0 : w22.cell? ⟨gb116, 0, none⟩ = some (.int .i64 0) := (blk_cell BK116.out 0).trans rfl; have hcz23_1 : w22.cell? ⟨gb116, 1, none⟩ = some (.int .i64 0) := (blk_cell BK116.out 1).trans rfl; have hfz23_0 := blk_frozen BK116.out 0; have hfz23_1 := blk_frozen BK116.out 1) | ((with_reducible refine gate_callee (f := 38) rfl ?_); refine goesL_ (some 46) rfl rfl Try.func38 (by kernel_rfl) rfl #[.int .i64 a0, .int .i64 ((rd_T30 t111 x39_3).f0)] rfl (by (try simp only [List.map_toArray, List.map_cons, List.map_nil]); first | done | rfl | (simp only [List.length_drop, List.length_take]; rfl)) ?_; (with_reducible refine (prime_symbol.calls k3 a0 ((rd_T30 t111 x39_3).f0) t117 _ A20.out).mono ?_); rintro e w' ⟨rfl, ⟨nd, rfl⟩⟩; refine ⟨_, rfl, ?_⟩))
                          go_ret2
                          exact ⟨by first | rfl | (simp [errW_none, errW_some] <;> rfl) | (simp [*, errW_none, errW_some] <;> rfl), by repeat (first | (with_reducible first | exact HB.out | apply below_alloc | apply pw_below_drewN | apply below_drew1 | refine below_set ?_ GE116.out) | exact HB.out)⟩
                        · rw [if_neg c21] at H
                          have c21b0 : (t117 == 0) = false := beq_eq_false_iff_ne.mpr c21
                          have c21b1 : (t117 != 0) = true := bne_iff_ne.mpr c21
                          by_cases c24 : (Int.tmod ((rd_T30 t111 x39_3).f1) 2) = 1
                          · rw [if_pos c24] at H
                            have c24b0 : ((Int.tmod ((rd_T30 t111 x39_3).f1) 2) == 1) = true := beq_iff_eq.mpr c24
                            have c24b1 : ((Int.tmod ((rd_T30 t111 x39_3).f1) 2) != 1) = false := bne_eq_false_iff_eq.mpr c24
                            clear c24
                            have H' := Aside0.mk H
                            clear H
                            have p115 : 0 ≤ (x39_3 : Int) := of_decide_eq_true (by first | (with_reducible assumption) | assumption)
                            have q115 : x39_3 < (t111.length : Int) := of_decide_eq_true (by first | (with_reducible assumption) | assumption)
                            obtain ⟨ad115, e115, hx115_0, hx115_1⟩ := at_T30 (Kd.R_reads' HO_37.out).2.2 x39_3 p115 q115
                            cases e115
                            replace p115 := eq_true p115
                            replace q115 := eq_true q115
                            go_wp2_with (first | ((with_reducible refine gate_dst (N := 10) rfl ?_); refine box_event ?hg (N := 10) ?hd (cs := #[.int .i64 0, .int .i64 0]) (t := 30) ?hr ?_; (case hd => rfl); (case hg => rfl); (case hr => first | (go_simp; done) | (go_simp; rfl)); intro gb116 hg w25 hbox hb; have n0_ := Aside0.mk (Kd.R_below (Kd.R_elderB (by (with_reducible repeat (first | apply Kd.R_alloc | apply Kd.R_drewN | apply Kd.R_drew)); exact HO_37.out) gb116 (Nat.le_of_eq hg.symm)) hb); have n1_ := Aside0.mk (below_step (by repeat (first | (with_reducible first | exact HB.out | apply below_alloc | apply pw_below_drewN | apply below_drew1) | exact HB.out)) hb); have n2_ := Aside0.mk (hbox); have n3_ := Aside0.mk ((by rw [hg]; exact (below_size (by repeat (first | (with_reducible first | exact HB.out | apply below_alloc | apply pw_below_drewN | apply below_drew1) | exact HB.out))) : w.heap.size ≤ gb116)); have n4_ := Aside0.mk ((by rw [hg]; exact (below_size (by repeat (first | (with_reducible first | exact HB.out | apply below_alloc | apply pw_below_drewN | apply below_drew1) | exact HB.out))) : w.heap.size ≤ gb116)); clear HO_37; clear HB; have HO_37 := n0_; have HB := n1_; have BK116 := n2_; have GW116 := n3_; have GE116 := n4_; clear n0_ n1_ n2_ n3_ n4_; clear hb hbox hg; have hcz26_0 : w25.cell? ⟨gb116, 0, none⟩ = some (.int .i64 0) := (blk_cell BK116.out 0).trans rfl; have hcz26_1 : w25.cell? ⟨gb116, 1, none⟩ = some (.int .i64 0) := (blk_cell BK116.out 1).trans rfl; have hfz26_0 := blk_frozen BK116.out 0; have hfz26_1 := blk_frozen BK116.out 1) | ((with_reducible refine gate_callee (f := 38) rfl ?_); refine goesL_ (some 46) rfl rfl Try.func38 (by kernel_rfl) rfl #[.int .i64 a0, .int .i64 ((rd_T30 t111 x39_3).f0)] rfl (by (try simp only [List.map_toArray, List.map_cons, List.map_nil]); first | done | rfl | (simp only [List.length_drop, List.length_take]; rfl)) ?_; (with_reducible refine (prime_symbol.calls k3 a0 ((rd_T30 t111 x39_3).f0) t117 _ A20.out).mono ?_); rintro e w' ⟨rfl, ⟨nd, rfl⟩⟩; refine ⟨_, rfl, ?_⟩))
                            go_roundg k3
                            case measure => have := HJ2.out; have := HJ10.out; have := HK3.out; omega
                            case rel => exact ⟨(wrap64 (x6_3 * t117)), (wrap64 (x39_3 + 1)), (by first | rfl | (simp; done) | (simp [*]; done)), (by first | rfl | (simp; done) | (simp [*]; done)), H', ⟨by have := HJ2.out; have := HJ10.out; have := HK3.out; omega⟩, ⟨by (with_reducible repeat (first | apply Kd.R_alloc | apply Kd.R_drewN | apply Kd.R_drew)); exact Kd.R_mono (Kd.R_far (p := ⟨gb116, 1, none⟩) (Kd.R_far (p := ⟨gb116, 0, none⟩) (Kd.R_mono HO_37.out (fun k_ hk => (⟨hk, hk.2⟩ : _ ∧ k_ ≠ gb116))) (fun _ hk => hk.2) (.int .i64 ((rd_T30 t111 x39_3).f0))) (fun _ hk => hk.2) (.int .i64 ((rd_T30 t111 x39_3).f1))) (fun _ hk => trivial)⟩, ⟨by repeat (first | (with_reducible first | exact HB.out | apply below_alloc | apply pw_below_drewN | apply below_drew1 | refine below_set ?_ GE116.out) | exact HB.out)⟩⟩
                          · rw [if_neg c24] at H
                            have c24b0 : ((Int.tmod ((rd_T30 t111 x39_3).f1) 2) == 1) = false := beq_eq_false_iff_ne.mpr c24
                            have c24b1 : ((Int.tmod ((rd_T30 t111 x39_3).f1) 2) != 1) = true := bne_iff_ne.mpr c24
                            have H' := Aside0.mk H
                            clear H
                            have p115 : 0 ≤ (x39_3 : Int) := of_decide_eq_true (by first | (with_reducible assumption) | assumption)
                            have q115 : x39_3 < (t111.length : Int) := of_decide_eq_true (by first | (with_reducible assumption) | assumption)
                            obtain ⟨ad115, e115, hx115_0, hx115_1⟩ := at_T30 (Kd.R_reads' HO_37.out).2.2 x39_3 p115 q115
                            cases e115
                            replace p115 := eq_true p115
                            replace q115 := eq_true q115
                            go_wp2_with (first | ((with_reducible refine gate_dst (N := 10) rfl ?_); refine box_event ?hg (N := 10) ?hd (cs := #[.int .i64 0, .int .i64 0]) (t := 30) ?hr ?_; (case hd => rfl); (case hg => rfl); (case hr => first | (go_simp; done) | (go_simp; rfl)); intro gb116 hg w27 hbox hb; have n0_ := Aside0.mk (Kd.R_below (Kd.R_elderB (by (with_reducible repeat (first | apply Kd.R_alloc | apply Kd.R_drewN | apply Kd.R_drew)); exact HO_37.out) gb116 (Nat.le_of_eq hg.symm)) hb); have n1_ := Aside0.mk (below_step (by repeat (first | (with_reducible first | exact HB.out | apply below_alloc | apply pw_below_drewN | apply below_drew1) | exact HB.out)) hb); have n2_ := Aside0.mk (hbox); have n3_ := Aside0.mk ((by rw [hg]; exact (below_size (by repeat (first | (with_reducible first | exact HB.out | apply below_alloc | apply pw_below_drewN | apply below_drew1) | exact HB.out))) : w.heap.size ≤ gb116)); have n4_ := Aside0.mk ((by rw [hg]; exact (below_size (by repeat (first | (with_reducible first | exact HB.out | apply below_alloc | apply pw_below_drewN | apply below_drew1) | exact HB.out))) : w.heap.size ≤ gb116)); clear HO_37; clear HB; have HO_37 := n0_; have HB := n1_; have BK116 := n2_; have GW116 := n3_; have GE116 := n4_; clear n0_ n1_ n2_ n3_ n4_; clear hb hbox hg; have hcz28_0 : w27.cell? ⟨gb116, 0, none⟩ = some (.int .i64 0) := (blk_cell BK116.out 0).trans rfl; have hcz28_1 : w27.cell? ⟨gb116, 1, none⟩ = some (.int .i64 0) := (blk_cell BK116.out 1).trans rfl; have hfz28_0 := blk_frozen BK116.out 0; have hfz28_1 := blk_frozen BK116.out 1) | ((with_reducible refine gate_callee (f := 38) rfl ?_); refine goesL_ (some 46) rfl rfl Try.func38 (by kernel_rfl) rfl #[.int .i64 a0, .int .i64 ((rd_T30 t111 x39_3).f0)] rfl (by (try simp only [List.map_toArray, List.map_cons, List.map_nil]); first | done | rfl | (simp only [List.length_drop, List.length_take]; rfl)) ?_; (with_reducible refine (prime_symbol.calls k3 a0 ((rd_T30 t111 x39_3).f0) t117 _ A20.out).mono ?_); rintro e w' ⟨rfl, ⟨nd, rfl⟩⟩; refine ⟨_, rfl, ?_⟩))
                            go_roundg k3
                            case measure => have := HJ2.out; have := HJ10.out; have := HK3.out; omega
                            case rel => exact ⟨(x6_3), (wrap64 (x39_3 + 1)), (by first | rfl | (simp; done) | (simp [*]; done)), (by first | rfl | (simp; done) | (simp [*]; done)), H', ⟨by have := HJ2.out; have := HJ10.out; have := HK3.out; omega⟩, ⟨by (with_reducible repeat (first | apply Kd.R_alloc | apply Kd.R_drewN | apply Kd.R_drew)); exact Kd.R_mono (Kd.R_far (p := ⟨gb116, 1, none⟩) (Kd.R_far (p := ⟨gb116, 0, none⟩) (Kd.R_mono HO_37.out (fun k_ hk => (⟨hk, hk.2⟩ : _ ∧ k_ ≠ gb116))) (fun _ hk => hk.2) (.int .i64 ((rd_T30 t111 x39_3).f0))) (fun _ hk => hk.2) (.int .i64 ((rd_T30 t111 x39_3).f1))) (fun _ hk => trivial)⟩, ⟨by repeat (first | (with_reducible first | exact HB.out | apply below_alloc | apply pw_below_drewN | apply below_drew1 | refine below_set ?_ GE116.out) | exact HB.out)⟩⟩
                      · rw [if_neg c19] at H
                        exact absurd H (by simp)
                    · rw [if_neg c18] at H
                      exact absurd H (by simp)
                  · rw [if_neg c17] at H
                    have c17b0 : decide (x39_3 < (t111.length : Int)) = false := decide_eq_false c17
                    clear c17
                    simp only [Option.some.injEq, Prod.mk.injEq] at H
                    obtain ⟨rfl, rfl⟩ := H
                    go_wp2
                    go_ret2
                    exact ⟨by first | rfl | (simp [errW_none, errW_some] <;> rfl) | (simp [*, errW_none, errW_some] <;> rfl), by repeat (first | (with_reducible first | exact HB.out | apply below_alloc | apply pw_below_drewN | apply below_drew1) | exact HB.out)⟩

end Go.Proofs.Ytcjhbjfkcmncpaa.Q
