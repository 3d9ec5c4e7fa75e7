-- Written by a program of this session out of the translation.
import Derived.Test.YtcjhbjfkcmncpaaQx0
namespace Go.Proofs.Ytcjhbjfkcmncpaa.Q
open Go.RowKit Go.Proofs.YtcjhbjfkcmncpaaW.PrintWords Go.Proofs.YtcjhbjfkcmncpaaW.PrintLast Go.Proofs.YtcjhbjfkcmncpaaW.PrintMore
attribute [local go_sem] max2_int min2_int max_two min_two max_three min_three max_four min_four   -- for this text's walks alone
set_option linter.unusedVariables false
set_option linter.unusedSimpArgs false

/-! ### quadformscene_OddPrime: function 26 -/
def quadformscene_OddPrime.f (a0 : Int) : Option (Int) := (some (([3, 5, 7, 11, 13, 17, 19, 23] : List Int) : List Int)).bind fun y446 => (if 0 ≤ (Int.tmod a0 8) then (if (Int.tmod a0 8) < (y446.length : Int) then (some (rd y446 (Int.tmod a0 8))) else (none)) else (none))
set_option maxHeartbeats 8000000 in
set_option maxRecDepth 100000 in
theorem quadformscene_OddPrime.calls (a0 : Int) (r : Int) (w : World) (h : quadformscene_OddPrime.f a0 = some r) :
    Calls Try.prog 26 #[.int .u8 a0] w fun e w' => e = .returned (.int .i64 r) ∧ Below w.heap.size w w' := by
  have HB := Aside0.mk (Below.refl w.heap.size w)
  have H : ((some (([3, 5, 7, 11, 13, 17, 19, 23] : List Int) : List Int)).bind fun y446 => (if 0 ≤ (Int.tmod a0 8) then (if (Int.tmod a0 8) < (y446.length : Int) then (some (rd y446 (Int.tmod a0 8))) else (none)) else (none))) = some r := h
  clear h
  obtain ⟨y446, hy446⟩ : ∃ y_ : List Int, y_ = (([3, 5, 7, 11, 13, 17, 19, 23] : List Int)) := ⟨_, rfl⟩
  replace H : (if 0 ≤ (Int.tmod a0 8) then (if (Int.tmod a0 8) < (y446.length : Int) then (some (rd y446 (Int.tmod a0 8))) else (none)) else (none)) = some r := by first | (rw [hy446]; with_reducible exact H) | (have H2_ := (Option.bind_some _ _).symm.trans H; rw [hy446]; with_reducible exact H2_) | (have H2_ := (Option.bind_some _ _).symm.trans H; with_reducible exact H2_) | with_reducible exact H | (rw [hy446]; exact H) | exact H
  have Ny446 := Aside0.mk hy446
  clear hy446
  obtain ⟨ji2, hji2⟩ : ∃ j_ : Int, (Int.tmod a0 8) = j_ := ⟨_, rfl⟩
  replace H : (if 0 ≤ (ji2) then (if (ji2) < (y446.length : Int) then (some (rd y446 (ji2))) else (none)) else (none)) = some r := by first | (rw [hji2] at H; exact H) | (simp only [hji2] at H ⊢; exact H)
  by_cases c3 : 0 ≤ (ji2)
  · rw [if_pos c3] at H
    have c3b0 : decide (0 ≤ (ji2)) = true := decide_eq_true c3
    clear c3
    by_cases c4 : (ji2) < (y446.length : Int)
    · rw [if_pos c4] at H
      have c4b0 : decide ((ji2) < (y446.length : Int)) = true := decide_eq_true c4
      clear c4
      obtain rfl := Option.some.inj H
      go_enter Try.func26, Try.ntmps26
      go_wp2_with (first | ((with_reducible refine gate_dst (N := 3) rfl ?_); refine Kd.R_lit (Kd.int .i64) _ 2 ?hg (N := 3) ?hd (xs := ([3, 5, 7, 11, 13, 17, 19, 23] : List Int)) (inner := [.int .i64 3, .int .i64 5, .int .i64 7, .int .i64 11, .int .i64 13, .int .i64 17, .int .i64 19, .int .i64 23]) (ok := fun _ => True) (okp := fun _ => True) ?hr ?hp (fun _ hk => hk) trivial (Below.refl _ _) (Nat.le_refl _) (by simp) ?_; (case hd => rfl); (case hg => rfl); (case hr => first | (go_simp; done) | (go_simp; rfl)); (case hp => exact (Reps.one (show Kd.M (Kd.int .i64) _ _ _ 3 [.int .i64 3] from rfl) (Reps.one (show Kd.M (Kd.int .i64) _ _ _ 5 [.int .i64 5] from rfl) (Reps.one (show Kd.M (Kd.int .i64) _ _ _ 7 [.int .i64 7] from rfl) (Reps.one (show Kd.M (Kd.int .i64) _ _ _ 11 [.int .i64 11] from rfl) (Reps.one (show Kd.M (Kd.int .i64) _ _ _ 13 [.int .i64 13] from rfl) (Reps.one (show Kd.M (Kd.int .i64) _ _ _ 17 [.int .i64 17] from rfl) (Reps.one (show Kd.M (Kd.int .i64) _ _ _ 19 [.int .i64 19] from rfl) (Reps.one (show Kd.M (Kd.int .i64) _ _ _ 23 [.int .i64 23] from rfl) (Reps.none _ _)))))))))); intro v447 w5 ho6 hb hg_ hnew_; clear hg_ hnew_; (first | rw [← Ny446.out] at ho6 | (simp only [Int.reduceToNat] at ho6; rw [← Ny446.out] at ho6)); have n0_ := Aside0.mk (Kd.R_lower ho6 (below_size (by repeat (first | (with_reducible first | exact HB.out | apply below_alloc | apply pw_below_drewN | apply below_drew1) | exact HB.out)))); have n1_ := Aside0.mk (below_step (by repeat (first | (with_reducible first | exact HB.out | apply below_alloc | apply pw_below_drewN | apply below_drew1) | exact HB.out)) hb); clear HB; have HO448 := n0_; have HB := n1_; clear n0_ n1_; clear hb ho6; obtain ⟨Ao7, co7, eo7⟩ := Kd.R_slice HO448.out; subst eo7; have p449 : 0 ≤ ((ji2) : Int) := of_decide_eq_true (by first | (with_reducible assumption) | assumption); have q449 : (ji2) < (y446.length : Int) := of_decide_eq_true (by first | (with_reducible assumption) | assumption); obtain ⟨ad449, e449, hx449_0⟩ := Kd.at_int (Kd.R_reads' HO448.out).2.2 (ji2) p449 q449; cases e449; replace p449 := eq_true p449; replace q449 := eq_true q449))
      go_ret
      exact ⟨by first | rfl | (simp [errW_none, errW_some] <;> rfl) | (simp only [← hji2]; first | rfl | (simp [errW_none, errW_some] <;> rfl)) | (simp [*, errW_none, errW_some] <;> rfl), by repeat (first | (with_reducible first | exact HB.out | apply below_alloc | apply pw_below_drewN | apply below_drew1) | exact HB.out)⟩
    · rw [if_neg c4] at H
      exact absurd H (by simp)
  · rw [if_neg c3] at H
    exact absurd H (by simp)

end Go.Proofs.Ytcjhbjfkcmncpaa.Q
