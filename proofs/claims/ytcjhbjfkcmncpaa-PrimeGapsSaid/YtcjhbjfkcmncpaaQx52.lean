-- Written by a program of this session out of the translation.
import Derived.Test.YtcjhbjfkcmncpaaQx0
import Derived.Test.YtcjhbjfkcmncpaaQx3
namespace Go.Proofs.Ytcjhbjfkcmncpaa.Q
open Go.RowKit Go.Proofs.YtcjhbjfkcmncpaaW.PrintWords Go.Proofs.YtcjhbjfkcmncpaaW.PrintLast Go.Proofs.YtcjhbjfkcmncpaaW.PrintMore
attribute [local go_sem] max2_int min2_int max_two min_two max_three min_three max_four min_four   -- for this text's walks alone
set_option linter.unusedVariables false
set_option linter.unusedSimpArgs false

/-! ### quadformref22_Next: function 32 -/
def quadformref22_Next.l0 : Nat → Int → Option (Int × Bool)
  | 0, _ => none
  | k + 1, x4 => if x4 ≤ 2147483647 then ((quadformref22_Is.f k x4).bind fun t483 => (if t483 = true then (some (x4, true)) else (quadformref22_Next.l0 k (wrap64 (x4 + 1))))) else (some (0, false))
def quadformref22_Next.f (k : Nat) (a0 : Int) : Option (Int × Bool) := if a0 ≥ 2147483647 then (some (0, false)) else (quadformref22_Next.l0 k (wrap64 ((mx a0 1) + 1)))
theorem quadformref22_Next.mono_l : ∀ k, (∀ y0, LeO (quadformref22_Next.l0 k y0) (quadformref22_Next.l0 (k + 1) y0))
  | 0 => fun _ r h => by simp [quadformref22_Next.l0] at h
  | k + 1 => by
    have ih0 := quadformref22_Next.mono_l k
    · intro y0
      unfold quadformref22_Next.l0
      repeat' first
      | (with_reducible exact ih0 _)
      | (with_reducible exact quadformref22_Is.mono _ _)
      | (with_reducible exact LeO.refl _)
      | (with_reducible exact LeO.none _)
      | (with_reducible refine LeO.ite ?_ ?_)
      | (with_reducible refine LeO.bind ?_ (fun _ => ?_))
      | exact ih0 _
      | exact quadformref22_Is.mono _ _
      | exact LeO.none _
      | refine LeO.ite ?_ ?_
      | refine LeO.bind ?_ (fun _ => ?_)
theorem quadformref22_Next.mono : ∀ a0 k, LeO (quadformref22_Next.f k a0) (quadformref22_Next.f (k + 1) a0) := by
  intro a0 k
  have ih0 := quadformref22_Next.mono_l k
  unfold quadformref22_Next.f
  repeat' first
      | (with_reducible exact ih0 _)
      | (with_reducible exact quadformref22_Is.mono _ _)
      | (with_reducible exact LeO.refl _)
      | (with_reducible exact LeO.none _)
      | (with_reducible refine LeO.ite ?_ ?_)
      | (with_reducible refine LeO.bind ?_ (fun _ => ?_))
      | exact ih0 _
      | exact quadformref22_Is.mono _ _
      | exact LeO.none _
      | refine LeO.ite ?_ ?_
      | refine LeO.bind ?_ (fun _ => ?_)
set_option maxHeartbeats 8000000 in
set_option maxRecDepth 100000 in
theorem quadformref22_Next.calls (k : Nat) (a0 : Int) (r1 : Int) (r2 : Bool) (w : World) (h : quadformref22_Next.f k a0 = some (r1, r2)) :
    Calls Try.prog 32 #[.int .i64 a0] w fun e w' => e = .returned (.tuple #[.int .i64 r1, .bool r2]) ∧ Below w.heap.size w w' := by
  have HB := Aside0.mk (Below.refl w.heap.size w)
  have H : (if a0 ≥ 2147483647 then (some (0, false)) else (quadformref22_Next.l0 k (wrap64 ((mx a0 1) + 1)))) = some (r1, r2) := h
  clear h
  by_cases c2 : a0 ≥ 2147483647
  · rw [if_pos c2] at H
    have c2b0 : decide (2147483647 ≤ a0) = true := decide_eq_true c2
    clear c2
    simp only [Option.some.injEq, Prod.mk.injEq] at H
    obtain ⟨rfl, rfl⟩ := H
    go_enter Try.func32, Try.ntmps32
    go_wp2
    go_ret2
    exact ⟨by first | rfl | (simp [errW_none, errW_some] <;> rfl) | (simp [*, errW_none, errW_some] <;> rfl), by repeat (first | (with_reducible first | exact HB.out | apply below_alloc | apply pw_below_drewN | apply below_drew1) | exact HB.out)⟩
  · rw [if_neg c2] at H
    have c2b0 : decide (2147483647 ≤ a0) = false := decide_eq_false c2
    clear c2
    obtain ⟨ji3, hji3⟩ : ∃ j_ : Int, (mx a0 1) = j_ := ⟨_, rfl⟩
    replace H : (quadformref22_Next.l0 k (wrap64 ((ji3) + 1))) = some (r1, r2) := by first | (rw [hji3] at H; exact H) | (simp only [hji3] at H ⊢; exact H)
    (try (have hji3l : 1 ≤ ji3 := by (rw [← hji3]; unfold mx; (repeat' split) <;> omega)))
    (try (have hji3m : 0 ≤ ji3 := by omega))
    have hji3_ : (if a0 < 1 then 1 else a0) = ji3 := hji3
    have H' := Aside0.mk H
    clear H
    go_enter Try.func32, Try.ntmps32
    go_wp2
    go_loopg [4] k (fun kq v4 w' => ∃ (x4_1 : Int), v4 = .int .i64 x4_1 ∧ Aside0 (quadformref22_Next.l0 kq x4_1 = some (r1, r2)) ∧ Aside0 (kq ≤ k) ∧ Aside0 (Below w.heap.size w w'))
    case atStart => exact ⟨(wrap64 ((ji3) + 1)), (by first | rfl | (simp; done) | (simp only [← hji3] <;> (first | rfl | simp)) | (simp [*]; done)), H', ⟨Nat.le_refl _⟩, ⟨by repeat (first | (with_reducible first | exact HB.out | apply below_alloc | apply pw_below_drewN | apply below_drew1) | exact HB.out)⟩⟩
    case round =>
      clear H'
      try clear c2
      try clear c2b0
      try clear p2
      try clear c3
      obtain ⟨x4_1, rfl, HA, HK1, HB⟩ := hrel
      cases gk with
      | zero => exact absurd HA.out (by simp [quadformref22_Next.l0])
      | succ k1 =>
        have H := HA.out
        clear HA
        simp only [quadformref22_Next.l0] at H
        by_cases c4 : x4_1 ≤ 2147483647
        · rw [if_pos c4] at H
          have c4b0 : decide (x4_1 ≤ 2147483647) = true := decide_eq_true c4
          clear c4
          replace H := Option.bind_eq_some_iff.mp H
          obtain ⟨t483, A50, H⟩ := H
          replace H : (if t483 = true then (some (x4_1, true)) else (quadformref22_Next.l0 k1 (wrap64 (x4_1 + 1)))) = some (r1, r2) := H
          have A5 := Aside0.mk A50
          clear A50
          by_cases c6 : t483 = true
          · subst c6
            have H1 : (some (x4_1, true)) = some (r1, r2) := by rw [if_pos rfl] at H; exact H
            clear H
            have H := H1
            clear H1
            simp only [Option.some.injEq, Prod.mk.injEq] at H
            obtain ⟨rfl, rfl⟩ := H
            go_wp2_with (first | ((with_reducible refine gate_callee (f := 16) rfl ?_); refine goesL_ (some 15) rfl rfl Try.func16 (by kernel_rfl) rfl #[.int .i64 x4_1] rfl (by (try simp only [List.map_toArray, List.map_cons, List.map_nil]); first | done | rfl | (simp only [List.length_drop, List.length_take]; rfl)) ?_; (with_reducible refine (quadformref22_Is.calls k1 x4_1 true _ A5.out).mono ?_); rintro e w' ⟨rfl, ⟨nd, rfl⟩⟩; refine ⟨_, rfl, ?_⟩))
            go_ret2
            exact ⟨by first | rfl | (simp [errW_none, errW_some] <;> rfl) | (simp only [← hji3]; first | rfl | (simp [errW_none, errW_some] <;> rfl)) | (simp [*, errW_none, errW_some] <;> rfl), by repeat (first | (with_reducible first | exact HB.out | apply below_alloc | apply pw_below_drewN | apply below_drew1) | exact HB.out)⟩
          · replace c6 := Bool.eq_false_iff.mpr c6
            subst c6
            have H1 : (quadformref22_Next.l0 k1 (wrap64 (x4_1 + 1))) = some (r1, r2) := by rw [if_neg (show ¬ (false = true) by decide)] at H; exact H
            clear H
            have H := H1
            clear H1
            have H' := Aside0.mk H
            clear H
            go_wp2_with (first | ((with_reducible refine gate_callee (f := 16) rfl ?_); refine goesL_ (some 15) rfl rfl Try.func16 (by kernel_rfl) rfl #[.int .i64 x4_1] rfl (by (try simp only [List.map_toArray, List.map_cons, List.map_nil]); first | done | rfl | (simp only [List.length_drop, List.length_take]; rfl)) ?_; (with_reducible refine (quadformref22_Is.calls k1 x4_1 false _ A5.out).mono ?_); rintro e w' ⟨rfl, ⟨nd, rfl⟩⟩; refine ⟨_, rfl, ?_⟩))
            go_roundg k1
            case measure => have := HK1.out; omega
            case rel => exact ⟨(wrap64 (x4_1 + 1)), (by first | rfl | (simp; done) | (simp [*]; done)), H', ⟨by have := HK1.out; omega⟩, ⟨by repeat (first | (with_reducible first | exact HB.out | apply below_alloc | apply pw_below_drewN | apply below_drew1) | exact HB.out)⟩⟩
        · rw [if_neg c4] at H
          have c4b0 : decide (x4_1 ≤ 2147483647) = false := decide_eq_false c4
          clear c4
          simp only [Option.some.injEq, Prod.mk.injEq] at H
          obtain ⟨rfl, rfl⟩ := H
          go_wp2
          go_ret2
          exact ⟨by first | rfl | (simp [errW_none, errW_some] <;> rfl) | (simp only [← hji3]; first | rfl | (simp [errW_none, errW_some] <;> rfl)) | (simp [*, errW_none, errW_some] <;> rfl), by repeat (first | (with_reducible first | exact HB.out | apply below_alloc | apply pw_below_drewN | apply below_drew1) | exact HB.out)⟩

end Go.Proofs.Ytcjhbjfkcmncpaa.Q
