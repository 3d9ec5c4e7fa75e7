-- Written by a program of this session out of the translation.
import Derived.Test.YtcjhbjfkcmncpaaQx0
import Derived.Test.YtcjhbjfkcmncpaaQx2
import Derived.Test.YtcjhbjfkcmncpaaQx11
import Derived.Test.YtcjhbjfkcmncpaaQx51
namespace Go.Proofs.Ytcjhbjfkcmncpaa.Q
open Go.RowKit Go.Proofs.YtcjhbjfkcmncpaaW.PrintWords Go.Proofs.YtcjhbjfkcmncpaaW.PrintLast Go.Proofs.YtcjhbjfkcmncpaaW.PrintMore
attribute [local go_sem] max2_int min2_int max_two min_two max_three min_three max_four min_four   -- for this text's walks alone
set_option linter.unusedVariables false
set_option linter.unusedSimpArgs false

/-! ### quadformlaw22_PrimeGaps: function 13 -/
mutual
def quadformlaw22_PrimeGaps.j0 : Nat → Int → Int → Bool → Option (Bool)
  | 0, _, _, _ => none
  | k + 1, x3, x4, x25 => if x25 = true then (some false) else (quadformlaw22_PrimeGaps.l0 k x4 (mx (wrap64 (x3 + 1)) 2))
def quadformlaw22_PrimeGaps.l0 : Nat → Int → Int → Option (Bool)
  | 0, _, _ => none
  | k + 1, x4, x6 => if x6 < x4 then ((prime_Is.f k x6).bind fun t492 => (if t492 = true then (some false) else (quadformlaw22_PrimeGaps.l0 k x4 (wrap64 (x6 + 1))))) else ((quadformlaw22_awake.f k).bind fun t493 => (some t493))
end
def quadformlaw22_PrimeGaps.f (k : Nat) (a0 : Int) : Option (Bool) := (prime_Next.f k (Int.tmod a0 1000000)).bind fun bt489 => (if bt489.2 = true then (if bt489.1 ≤ (Int.tmod a0 1000000) then (quadformlaw22_PrimeGaps.j0 k (Int.tmod a0 1000000) bt489.1 true) else ((prime_Is.f k bt489.1).bind fun t491 => (quadformlaw22_PrimeGaps.j0 k (Int.tmod a0 1000000) bt489.1 (!t491)))) else (quadformlaw22_PrimeGaps.j0 k (Int.tmod a0 1000000) bt489.1 true))
theorem quadformlaw22_PrimeGaps.mono_l : ∀ k, (∀ y0 y1 y2, LeO (quadformlaw22_PrimeGaps.j0 k y0 y1 y2) (quadformlaw22_PrimeGaps.j0 (k + 1) y0 y1 y2)) ∧ (∀ y0 y1, LeO (quadformlaw22_PrimeGaps.l0 k y0 y1) (quadformlaw22_PrimeGaps.l0 (k + 1) y0 y1))
  | 0 => ⟨fun _ _ _ r h => by simp [quadformlaw22_PrimeGaps.j0] at h, fun _ _ r h => by simp [quadformlaw22_PrimeGaps.l0] at h⟩
  | k + 1 => by
    obtain ⟨ih0, ih1⟩ := quadformlaw22_PrimeGaps.mono_l k
    refine ⟨?_, ?_⟩
    · intro y0 y1 y2
      unfold quadformlaw22_PrimeGaps.j0
      repeat' first
      | (with_reducible exact ih0 _ _ _)
      | (with_reducible exact ih1 _ _)
      | (with_reducible exact prime_Is.mono _ _)
      | (with_reducible exact prime_Next.mono _ _)
      | (with_reducible exact quadformlaw22_awake.mono _)
      | (with_reducible exact LeO.refl _)
      | (with_reducible exact LeO.none _)
      | (with_reducible refine LeO.ite ?_ ?_)
      | (with_reducible refine LeO.bind ?_ (fun _ => ?_))
      | exact ih0 _ _ _
      | exact ih1 _ _
      | exact prime_Is.mono _ _
      | exact prime_Next.mono _ _
      | exact quadformlaw22_awake.mono _
      | exact LeO.none _
      | refine LeO.ite ?_ ?_
      | refine LeO.bind ?_ (fun _ => ?_)
    · intro y0 y1
      unfold quadformlaw22_PrimeGaps.l0
      repeat' first
      | (with_reducible exact ih0 _ _ _)
      | (with_reducible exact ih1 _ _)
      | (with_reducible exact prime_Is.mono _ _)
      | (with_reducible exact prime_Next.mono _ _)
      | (with_reducible exact quadformlaw22_awake.mono _)
      | (with_reducible exact LeO.refl _)
      | (with_reducible exact LeO.none _)
      | (with_reducible refine LeO.ite ?_ ?_)
      | (with_reducible refine LeO.bind ?_ (fun _ => ?_))
      | exact ih0 _ _ _
      | exact ih1 _ _
      | exact prime_Is.mono _ _
      | exact prime_Next.mono _ _
      | exact quadformlaw22_awake.mono _
      | exact LeO.none _
      | refine LeO.ite ?_ ?_
      | refine LeO.bind ?_ (fun _ => ?_)
theorem quadformlaw22_PrimeGaps.mono : ∀ a0 k, LeO (quadformlaw22_PrimeGaps.f k a0) (quadformlaw22_PrimeGaps.f (k + 1) a0) := by
  intro a0 k
  obtain ⟨ih0, ih1⟩ := quadformlaw22_PrimeGaps.mono_l k
  unfold quadformlaw22_PrimeGaps.f
  repeat' first
      | (with_reducible exact ih0 _ _ _)
      | (with_reducible exact ih1 _ _)
      | (with_reducible exact prime_Is.mono _ _)
      | (with_reducible exact prime_Next.mono _ _)
      | (with_reducible exact quadformlaw22_awake.mono _)
      | (with_reducible exact LeO.refl _)
      | (with_reducible exact LeO.none _)
      | (with_reducible refine LeO.ite ?_ ?_)
      | (with_reducible refine LeO.bind ?_ (fun _ => ?_))
      | exact ih0 _ _ _
      | exact ih1 _ _
      | exact prime_Is.mono _ _
      | exact prime_Next.mono _ _
      | exact quadformlaw22_awake.mono _
      | exact LeO.none _
      | refine LeO.ite ?_ ?_
      | refine LeO.bind ?_ (fun _ => ?_)
set_option maxHeartbeats 8000000 in
set_option maxRecDepth 100000 in
theorem quadformlaw22_PrimeGaps.calls (k : Nat) (a0 : Int) (r : Bool) (w : World) (h : quadformlaw22_PrimeGaps.f k a0 = some r) :
    Calls Try.prog 13 #[.int .i64 a0] w fun e w' => e = .returned (.bool r) ∧ Below w.heap.size w w' := by
  have HB := Aside0.mk (Below.refl w.heap.size w)
  have H : ((prime_Next.f k (Int.tmod a0 1000000)).bind fun bt489 => (if bt489.2 = true then (if bt489.1 ≤ (Int.tmod a0 1000000) then (quadformlaw22_PrimeGaps.j0 k (Int.tmod a0 1000000) bt489.1 true) else ((prime_Is.f k bt489.1).bind fun t491 => (quadformlaw22_PrimeGaps.j0 k (Int.tmod a0 1000000) bt489.1 (!t491)))) else (quadformlaw22_PrimeGaps.j0 k (Int.tmod a0 1000000) bt489.1 true))) = some r := h
  clear h
  replace H := Option.bind_eq_some_iff.mp H
  obtain ⟨⟨t489, t490⟩, A20, H⟩ := H
  replace H : (if t490 = true then (if t489 ≤ (Int.tmod a0 1000000) then (quadformlaw22_PrimeGaps.j0 k (Int.tmod a0 1000000) t489 true) else ((prime_Is.f k t489).bind fun t491 => (quadformlaw22_PrimeGaps.j0 k (Int.tmod a0 1000000) t489 (!t491)))) else (quadformlaw22_PrimeGaps.j0 k (Int.tmod a0 1000000) t489 true)) = some r := H
  have A2 := Aside0.mk A20
  clear A20
  have HC3 := Aside0.mk H
  clear H
  go_enter Try.func13, Try.ntmps13
  go_upto_region 3 with (first | ((with_reducible refine gate_callee (f := 31) rfl ?_); refine goesL_ (some 11) rfl rfl Try.func31 (by kernel_rfl) rfl #[.int .i64 (Int.tmod a0 1000000)] rfl (by (try simp only [List.map_toArray, List.map_cons, List.map_nil]); first | done | rfl | (simp only [List.length_drop, List.length_take]; rfl)) ?_; (with_reducible refine (prime_Next.calls k (Int.tmod a0 1000000) t489 t490 _ A2.out).mono ?_); rintro e w' ⟨rfl, ⟨nd, rfl⟩⟩; refine ⟨_, rfl, ?_⟩))
  (try simp only [Act.put, List.setIfInBounds_toArray, List.set_cons_zero, List.set_cons_succ])
  go_cut [25] (fun v25 wc => ∃ (kq : Nat) (x25_2 : Bool), v25 = .bool x25_2 ∧ Aside0 (quadformlaw22_PrimeGaps.j0 kq (Int.tmod a0 1000000) t489 x25_2 = some r) ∧ Aside0 (kq ≤ k) ∧ Aside0 (Below w.heap.size w wc))
  case first =>
    have H := HC3.out
    clear HC3
    by_cases c4 : t490 = true
    · subst c4
      have H1 : (if t489 ≤ (Int.tmod a0 1000000) then (quadformlaw22_PrimeGaps.j0 k (Int.tmod a0 1000000) t489 true) else ((prime_Is.f k t489).bind fun t491 => (quadformlaw22_PrimeGaps.j0 k (Int.tmod a0 1000000) t489 (!t491)))) = some r := by rw [if_pos rfl] at H; exact H
      clear H
      have H := H1
      clear H1
      by_cases c5 : t489 ≤ (Int.tmod a0 1000000)
      · rw [if_pos c5] at H
        have c5b0 : decide (t489 ≤ (Int.tmod a0 1000000)) = true := decide_eq_true c5
        clear c5
        (first | rw [c5b0] | (simp only [i64_w, i32_w]; rw [c5b0]) | skip)
        have H' := Aside0.mk H
        clear H
        go_wp2
        go_meet
        case rel => exact ⟨_, (true), (by first | rfl | (simp; done) | (simp [*]; done)), H', ⟨by first | omega | exact Nat.le_refl _⟩, ⟨by repeat (first | (with_reducible first | exact HB.out | apply below_alloc | apply pw_below_drewN | apply below_drew1) | exact HB.out)⟩⟩
      · rw [if_neg c5] at H
        have c5b0 : decide (t489 ≤ (Int.tmod a0 1000000)) = false := decide_eq_false c5
        clear c5
        (first | rw [c5b0] | (simp only [i64_w, i32_w]; rw [c5b0]) | skip)
        replace H := Option.bind_eq_some_iff.mp H
        obtain ⟨t491, A60, H⟩ := H
        replace H : (quadformlaw22_PrimeGaps.j0 k (Int.tmod a0 1000000) t489 (!t491)) = some r := H
        have A6 := Aside0.mk A60
        clear A60
        have H' := Aside0.mk H
        clear H
        go_wp2_with (first | (go_at_call 15; (with_reducible refine (prime_Is.calls k t489 t491 _ A6.out).mono ?_); rintro e w' ⟨rfl, ⟨nd, rfl⟩⟩))
        go_meet
        case rel => exact ⟨_, (!t491), (by first | rfl | (simp; done) | (simp [*]; done)), H', ⟨by first | omega | exact Nat.le_refl _⟩, ⟨by repeat (first | (with_reducible first | exact HB.out | apply below_alloc | apply pw_below_drewN | apply below_drew1) | exact HB.out)⟩⟩
    · replace c4 := Bool.eq_false_iff.mpr c4
      subst c4
      have H1 : (quadformlaw22_PrimeGaps.j0 k (Int.tmod a0 1000000) t489 true) = some r := by rw [if_neg (show ¬ (false = true) by decide)] at H; exact H
      clear H
      have H := H1
      clear H1
      have H' := Aside0.mk H
      clear H
      go_wp2
      go_meet
      case rel => exact ⟨_, (true), (by first | rfl | (simp; done) | (simp [*]; done)), H', ⟨by first | omega | exact Nat.le_refl _⟩, ⟨by repeat (first | (with_reducible first | exact HB.out | apply below_alloc | apply pw_below_drewN | apply below_drew1) | exact HB.out)⟩⟩
  case rest =>
    clear HC3
    try clear c1
    try clear p2
    try clear c3
    try clear c4
    try clear c5
    try clear c5b0
    obtain ⟨kq, x25_2, rfl, HA, HJ2, HB⟩ := hcut
    cases kq with
    | zero => exact absurd HA.out (by simp [quadformlaw22_PrimeGaps.j0])
    | succ kj2 =>
      have H := HA.out
      clear HA
      simp only [quadformlaw22_PrimeGaps.j0] at H
      by_cases c7 : x25_2 = true
      · subst c7
        have H1 : (some false) = some r := by rw [if_pos rfl] at H; exact H
        clear H
        have H := H1
        clear H1
        obtain rfl := Option.some.inj H
        go_wp2
        go_ret
        exact ⟨by first | rfl | (simp [errW_none, errW_some] <;> rfl) | (simp [*, errW_none, errW_some] <;> rfl), by repeat (first | (with_reducible first | exact HB.out | apply below_alloc | apply pw_below_drewN | apply below_drew1) | exact HB.out)⟩
      · replace c7 := Bool.eq_false_iff.mpr c7
        subst c7
        have H1 : (quadformlaw22_PrimeGaps.l0 kj2 t489 (mx (wrap64 ((Int.tmod a0 1000000) + 1)) 2)) = some r := by rw [if_neg (show ¬ (false = true) by decide)] at H; exact H
        clear H
        have H := H1
        clear H1
        obtain ⟨ji8, hji8⟩ : ∃ j_ : Int, (mx (wrap64 ((Int.tmod a0 1000000) + 1)) 2) = j_ := ⟨_, rfl⟩
        replace H : (quadformlaw22_PrimeGaps.l0 kj2 t489 ji8) = some r := by first | (rw [hji8] at H; exact H) | (simp only [hji8] at H ⊢; exact H)
        have hji8_ : (if (wrap64 ((Int.tmod a0 1000000) + 1)) < 2 then 2 else (wrap64 ((Int.tmod a0 1000000) + 1))) = ji8 := hji8
        have H' := Aside0.mk H
        clear H
        go_wp2
        go_loopg [6] kj2 (fun kq v6 w' => ∃ (x6_2 : Int), v6 = .int .i64 x6_2 ∧ Aside0 (quadformlaw22_PrimeGaps.l0 kq t489 x6_2 = some r) ∧ Aside0 (kq ≤ kj2) ∧ Aside0 (Below w.heap.size w w'))
        case atStart => exact ⟨(ji8), (by first | rfl | (simp; done) | (simp only [← hji8] <;> (first | rfl | simp)) | (simp [*]; done)), H', ⟨Nat.le_refl _⟩, ⟨by repeat (first | (with_reducible first | exact HB.out | apply below_alloc | apply pw_below_drewN | apply below_drew1) | exact HB.out)⟩⟩
        case round =>
          clear H'
          try clear c1
          try clear p2
          try clear c3
          try clear c4
          try clear c5
          try clear c5b0
          try clear p6
          try clear c7
          try clear p2
          obtain ⟨x6_2, rfl, HA, HK2, HB⟩ := hrel
          cases gk with
          | zero => exact absurd HA.out (by simp [quadformlaw22_PrimeGaps.l0])
          | succ k2 =>
            have H := HA.out
            clear HA
            simp only [quadformlaw22_PrimeGaps.l0] at H
            by_cases c9 : x6_2 < t489
            · rw [if_pos c9] at H
              have c9b0 : decide (x6_2 < t489) = true := decide_eq_true c9
              clear c9
              replace H := Option.bind_eq_some_iff.mp H
              obtain ⟨t492, A100, H⟩ := H
              replace H : (if t492 = true then (some false) else (quadformlaw22_PrimeGaps.l0 k2 t489 (wrap64 (x6_2 + 1)))) = some r := H
              have A10 := Aside0.mk A100
              clear A100
              by_cases c11 : t492 = true
              · subst c11
                have H1 : (some false) = some r := by rw [if_pos rfl] at H; exact H
                clear H
                have H := H1
                clear H1
                obtain rfl := Option.some.inj H
                go_wp2_with (first | ((with_reducible refine gate_callee (f := 15) rfl ?_); refine goesL_ (some 35) rfl rfl Try.func15 (by kernel_rfl) rfl #[.int .i64 x6_2] rfl (by (try simp only [List.map_toArray, List.map_cons, List.map_nil]); first | done | rfl | (simp only [List.length_drop, List.length_take]; rfl)) ?_; (with_reducible refine (prime_Is.calls k2 x6_2 true _ A10.out).mono ?_); rintro e w' ⟨rfl, ⟨nd, rfl⟩⟩; refine ⟨_, rfl, ?_⟩))
                go_ret
                exact ⟨by first | rfl | (simp [errW_none, errW_some] <;> rfl) | (simp only [← hji8]; first | rfl | (simp [errW_none, errW_some] <;> rfl)) | (simp [*, errW_none, errW_some] <;> rfl), by repeat (first | (with_reducible first | exact HB.out | apply below_alloc | apply pw_below_drewN | apply below_drew1) | exact HB.out)⟩
              · replace c11 := Bool.eq_false_iff.mpr c11
                subst c11
                have H1 : (quadformlaw22_PrimeGaps.l0 k2 t489 (wrap64 (x6_2 + 1))) = some r := by rw [if_neg (show ¬ (false = true) by decide)] at H; exact H
                clear H
                have H := H1
                clear H1
                have H' := Aside0.mk H
                clear H
                go_wp2_with (first | ((with_reducible refine gate_callee (f := 15) rfl ?_); refine goesL_ (some 35) rfl rfl Try.func15 (by kernel_rfl) rfl #[.int .i64 x6_2] rfl (by (try simp only [List.map_toArray, List.map_cons, List.map_nil]); first | done | rfl | (simp only [List.length_drop, List.length_take]; rfl)) ?_; (with_reducible refine (prime_Is.calls k2 x6_2 false _ A10.out).mono ?_); rintro e w' ⟨rfl, ⟨nd, rfl⟩⟩; refine ⟨_, rfl, ?_⟩))
                go_roundg k2
                case measure => have := HJ2.out; have := HK2.out; omega
                case rel => exact ⟨(wrap64 (x6_2 + 1)), (by first | rfl | (simp; done) | (simp [*]; done)), H', ⟨by have := HJ2.out; have := HK2.out; omega⟩, ⟨by repeat (first | (with_reducible first | exact HB.out | apply below_alloc | apply pw_below_drewN | apply below_drew1) | exact HB.out)⟩⟩
            · rw [if_neg c9] at H
              have c9b0 : decide (x6_2 < t489) = false := decide_eq_false c9
              clear c9
              replace H := Option.bind_eq_some_iff.mp H
              obtain ⟨t493, A120, H⟩ := H
              replace H : (some t493) = some r := H
              have A12 := Aside0.mk A120
              clear A120
              obtain rfl := Option.some.inj H
              go_wp2_with (first | ((with_reducible refine gate_callee (f := 17) rfl ?_); refine goesL_ (some 36) rfl rfl Try.func17 (by kernel_rfl) rfl #[] rfl (by (try simp only [List.map_toArray, List.map_cons, List.map_nil]); first | done | rfl | (simp only [List.length_drop, List.length_take]; rfl)) ?_; (with_reducible refine (quadformlaw22_awake.calls k2  t493 _ A12.out).mono ?_); rintro e w13 ⟨rfl, hb⟩; refine ⟨_, rfl, ?_⟩; have n0_ := Aside0.mk (below_step (by repeat (first | (with_reducible first | exact HB.out | apply below_alloc | apply pw_below_drewN | apply below_drew1) | exact HB.out)) hb); clear HB; have HB := n0_; clear n0_; (try clear hb); (try clear hb2); (try clear hk); (try clear hi)))
              go_ret
              exact ⟨by first | rfl | (simp [errW_none, errW_some] <;> rfl) | (simp only [← hji8]; first | rfl | (simp [errW_none, errW_some] <;> rfl)) | (simp [*, errW_none, errW_some] <;> rfl), by repeat (first | (with_reducible first | exact HB.out | apply below_alloc | apply pw_below_drewN | apply below_drew1) | exact HB.out)⟩

/-- THE ONE PURE STATEMENT of quadformlaw22_PrimeGaps: yours. -/
def quadformlaw22_PrimeGaps.Pure : Prop := ∀ (a0 : Int), (Lit.int .i64 a0).wf = true → ∃ k, quadformlaw22_PrimeGaps.f k a0 = some true
theorem quadformlaw22_PrimeGaps.walk (P : quadformlaw22_PrimeGaps.Pure) (a0 : Int) (w : World) (w0 : (Lit.int .i64 a0).wf = true) :
    Calls Try.prog 13 #[.int .i64 a0] w fun e w' => e = .returned (.bool true) ∧ Below w.heap.size w w' := by
  obtain ⟨k, h⟩ := P a0 w0
  refine (quadformlaw22_PrimeGaps.calls k a0 true w h).mono ?_
  rintro e w' ⟨rfl, hd⟩
  exact ⟨rfl, hd⟩

end Go.Proofs.Ytcjhbjfkcmncpaa.Q
