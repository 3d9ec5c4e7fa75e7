/- What this text shows is said at each of its parts; the statement of the claim is shown in the last text. -/
import Derived.Test.YtcjhbjfkcmncpaaYPrimeReciprocity2
namespace Go.Proofs.Ytcjhbjfkcmncpaa.Q
open Go.RowKit Go.Proofs.YtcjhbjfkcmncpaaW.PrintWords Go.Proofs.YtcjhbjfkcmncpaaW.PrintLast Go.Proofs.YtcjhbjfkcmncpaaW.PrintMore
attribute [local go_sem] max2_int min2_int max_two min_two max_three min_three max_four min_four   -- for this text's walks alone
set_option linter.unusedVariables false
set_option linter.unusedSimpArgs false
mutual
def quadformref01_DivMod.j0 : Nat → List Int → Bool → Bool → List Int → Bool → List Int → Bool → List Int → Option (Bool × List Int × Bool × List Int × Bool)
  | 0, _, _, _, _, _, _, _, _ => none
  | k + 1, x8, x43, x103000, x103001, x126000, x126001, x127000, x127001 => if x43 = true then ((quadformref01_Make.f k false x8).bind fun bt128 => ((quadformref01_Add.f k x127000 x127001 bt128.1 bt128.2).bind fun bt132 => ((quadformref01_Sign.f k x103000 x103001).bind fun t136 => (quadformref01_DivMod.j1 k (decide (t136 < 0)) x126000 x126001 bt132.1 bt132.2)))) else (some (x126000, x126001, x127000, x127001, true))
def quadformref01_DivMod.j1 : Nat → Bool → Bool → List Int → Bool → List Int → Option (Bool × List Int × Bool × List Int × Bool)
  | 0, _, _, _, _, _ => none
  | k + 1, x50, x126000, x126001, x127000, x127001 => if x50 = true then ((quadformref01_Small.f k 1).bind fun bt137 => ((quadformref01_Add.f k x126000 x126001 bt137.1 bt137.2).bind fun bt141 => (some (bt141.1, bt141.2, x127000, x127001, true)))) else ((quadformref01_Small.f k 1).bind fun bt145 => ((quadformref01_Sub.f k x126000 x126001 bt145.1 bt145.2).bind fun bt149 => (some (bt149.1, bt149.2, x127000, x127001, true))))
end
def quadformref01_DivMod.f (k : Nat) (a0_0 : Bool) (l0_1 : List Int) (a1_0 : Bool) (l1_1 : List Int) : Option (Bool × List Int × Bool × List Int × Bool) := (quadformref01_trim.f k l0_1).bind fun t105 => ((quadformref01_trim.f k l1_1).bind fun t108 => (if (t108.length : Int) = 0 then (some (false, ([] : List Int), false, ([] : List Int), false)) else ((quadformref01_divide.f k t105 t108).bind fun bt111 => ((quadformref01_Make.f k (a0_0 != a1_0) bt111.1).bind fun bt117 => ((quadformref01_Make.f k a0_0 bt111.2).bind fun bt121 => ((quadformref01_Sign.f k bt121.1 bt121.2).bind fun t127 => (quadformref01_DivMod.j0 k t108 (decide (t127 < 0)) a1_0 l1_1 bt117.1 bt117.2 bt121.1 bt121.2)))))))
theorem quadformref01_DivMod.mono_l : ∀ k, (∀ y0 y1 y2 y3 y4 y5 y6 y7, LeO (quadformref01_DivMod.j0 k y0 y1 y2 y3 y4 y5 y6 y7) (quadformref01_DivMod.j0 (k + 1) y0 y1 y2 y3 y4 y5 y6 y7)) ∧ (∀ y0 y1 y2 y3 y4, LeO (quadformref01_DivMod.j1 k y0 y1 y2 y3 y4) (quadformref01_DivMod.j1 (k + 1) y0 y1 y2 y3 y4))
  | 0 => ⟨fun _ _ _ _ _ _ _ _ r h => by simp [quadformref01_DivMod.j0] at h, fun _ _ _ _ _ r h => by simp [quadformref01_DivMod.j1] at h⟩
  | k + 1 => by
    obtain ⟨ih0, ih1⟩ := quadformref01_DivMod.mono_l k
    refine ⟨?_, ?_⟩
    · intro y0 y1 y2 y3 y4 y5 y6 y7
      unfold quadformref01_DivMod.j0
      repeat' first
      | (with_reducible exact ih0 _ _ _ _ _ _ _ _)
      | (with_reducible exact ih1 _ _ _ _ _)
      | (with_reducible exact quadformref01_Add.mono _ _ _ _ _)
      | (with_reducible exact quadformref01_Make.mono _ _ _)
      | (with_reducible exact quadformref01_Sign.mono _ _ _)
      | (with_reducible exact quadformref01_Small.mono _ _)
      | (with_reducible exact quadformref01_Sub.mono _ _ _ _ _)
      | (with_reducible exact quadformref01_divide.mono _ _ _)
      | (with_reducible exact quadformref01_trim.mono _ _)
      | (with_reducible exact LeO.refl _)
      | (with_reducible exact LeO.none _)
      | (with_reducible refine LeO.ite ?_ ?_)
      | (with_reducible refine LeO.bind ?_ (fun _ => ?_))
      | exact ih0 _ _ _ _ _ _ _ _
      | exact ih1 _ _ _ _ _
      | exact quadformref01_Add.mono _ _ _ _ _
      | exact quadformref01_Make.mono _ _ _
      | exact quadformref01_Sign.mono _ _ _
      | exact quadformref01_Small.mono _ _
      | exact quadformref01_Sub.mono _ _ _ _ _
      | exact quadformref01_divide.mono _ _ _
      | exact quadformref01_trim.mono _ _
      | exact LeO.none _
      | refine LeO.ite ?_ ?_
      | refine LeO.bind ?_ (fun _ => ?_)
    · intro y0 y1 y2 y3 y4
      unfold quadformref01_DivMod.j1
      repeat' first
      | (with_reducible exact ih0 _ _ _ _ _ _ _ _)
      | (with_reducible exact ih1 _ _ _ _ _)
      | (with_reducible exact quadformref01_Add.mono _ _ _ _ _)
      | (with_reducible exact quadformref01_Make.mono _ _ _)
      | (with_reducible exact quadformref01_Sign.mono _ _ _)
      | (with_reducible exact quadformref01_Small.mono _ _)
      | (with_reducible exact quadformref01_Sub.mono _ _ _ _ _)
      | (with_reducible exact quadformref01_divide.mono _ _ _)
      | (with_reducible exact quadformref01_trim.mono _ _)
      | (with_reducible exact LeO.refl _)
      | (with_reducible exact LeO.none _)
      | (with_reducible refine LeO.ite ?_ ?_)
      | (with_reducible refine LeO.bind ?_ (fun _ => ?_))
      | exact ih0 _ _ _ _ _ _ _ _
      | exact ih1 _ _ _ _ _
      | exact quadformref01_Add.mono _ _ _ _ _
      | exact quadformref01_Make.mono _ _ _
      | exact quadformref01_Sign.mono _ _ _
      | exact quadformref01_Small.mono _ _
      | exact quadformref01_Sub.mono _ _ _ _ _
      | exact quadformref01_divide.mono _ _ _
      | exact quadformref01_trim.mono _ _
      | exact LeO.none _
      | refine LeO.ite ?_ ?_
      | refine LeO.bind ?_ (fun _ => ?_)
theorem quadformref01_DivMod.mono : ∀ a0 a1 a2 a3 k, LeO (quadformref01_DivMod.f k a0 a1 a2 a3) (quadformref01_DivMod.f (k + 1) a0 a1 a2 a3) := by
  intro a0 a1 a2 a3 k
  obtain ⟨ih0, ih1⟩ := quadformref01_DivMod.mono_l k
  unfold quadformref01_DivMod.f
  repeat' first
      | (with_reducible exact ih0 _ _ _ _ _ _ _ _)
      | (with_reducible exact ih1 _ _ _ _ _)
      | (with_reducible exact quadformref01_Add.mono _ _ _ _ _)
      | (with_reducible exact quadformref01_Make.mono _ _ _)
      | (with_reducible exact quadformref01_Sign.mono _ _ _)
      | (with_reducible exact quadformref01_Small.mono _ _)
      | (with_reducible exact quadformref01_Sub.mono _ _ _ _ _)
      | (with_reducible exact quadformref01_divide.mono _ _ _)
      | (with_reducible exact quadformref01_trim.mono _ _)
      | (with_reducible exact LeO.refl _)
      | (with_reducible exact LeO.none _)
      | (with_reducible refine LeO.ite ?_ ?_)
      | (with_reducible refine LeO.bind ?_ (fun _ => ?_))
      | exact ih0 _ _ _ _ _ _ _ _
      | exact ih1 _ _ _ _ _
      | exact quadformref01_Add.mono _ _ _ _ _
      | exact quadformref01_Make.mono _ _ _
      | exact quadformref01_Sign.mono _ _ _
      | exact quadformref01_Small.mono _ _
      | exact quadformref01_Sub.mono _ _ _ _ _
      | exact quadformref01_divide.mono _ _ _
      | exact quadformref01_trim.mono _ _
      | exact LeO.none _
      | refine LeO.ite ?_ ?_
      | refine LeO.bind ?_ (fun _ => ?_)
def quadformref01_DivMod.T1 : Bool × List (List Nat × List Nat) := (true, [([], []), ([0], [0]), ([1], [1]), ([], []), ([3], [3]), ([4, 2], [4]), ([2, 5, 0, 1, 2], [2]), ([5, 6, 0, 1, 2, 3, 4, 5, 6], [5])])
def quadformref01_DivMod.B1 : List Nat := [0, 1, 3, 0, 8, 31, 63, 127]
theorem quadformref01_DivMod.tab1 : rtab .any (opsOf Try.f58 1) = quadformref01_DivMod.T1 := by kernel_rfl
theorem quadformref01_DivMod.bits1 : waitsOk quadformref01_DivMod.T1.2 quadformref01_DivMod.B1 = true := by kernel_rfl
def quadformref01_DivMod.T5 : Bool × List (List Nat × List Nat) := (true, [([], []), ([0], [0]), ([], []), ([2], [2]), ([1, 3], [1, 3]), ([], []), ([4, 5], [4, 5]), ([], []), ([7], [7]), ([], []), ([8, 9, 6], [8, 9]), ([], []), ([], []), ([11, 6, 10, 0, 1, 2, 3, 4, 5, 6, 11, 12], [6, 11]), ([12, 10, 13, 0, 1, 2, 3, 4, 5, 6, 7, 8, 9, 10, 11, 12, 13], [10, 12])])
def quadformref01_DivMod.B5 : List Nat := [0, 1, 0, 4, 15, 0, 63, 0, 128, 0, 1023, 0, 0, 8191, 16383]
theorem quadformref01_DivMod.tab5 : rtab .any (opsOf Try.f58 5) = quadformref01_DivMod.T5 := by kernel_rfl
theorem quadformref01_DivMod.bits5 : waitsOk quadformref01_DivMod.T5.2 quadformref01_DivMod.B5 = true := by kernel_rfl
set_option maxHeartbeats 8000000 in
set_option maxRecDepth 100000 in
theorem quadformref01_DivMod.calls (k : Nat) (a0_0 : Bool) (A0_1 : Option Addr) (c0_1 : Nat) (l0_1 : List Int) (a1_0 : Bool) (A1_1 : Option Addr) (c1_1 : Nat) (l1_1 : List Int) (r1 : Bool) (r2 : List Int) (r3 : Bool) (r4 : List Int) (r5 : Bool) (w : World) (hr0_1 : Kd.C (Kd.int .u32) w A0_1 l0_1.length l0_1) (hc0_1 : l0_1.length ≤ c0_1) (hr1_1 : Kd.C (Kd.int .u32) w A1_1 l1_1.length l1_1) (hc1_1 : l1_1.length ≤ c1_1) (h : quadformref01_DivMod.f k a0_0 l0_1 a1_0 l1_1 = some (r1, r2, r3, r4, r5)) :
    Calls Try.prog 58 #[.agg #[.bool a0_0, .slice A0_1 l0_1.length c0_1], .agg #[.bool a1_0, .slice A1_1 l1_1.length c1_1]] w fun e w' => ∃ v1_ v3_ : Value, e = .returned (.tuple #[.agg #[.bool r1, v1_], .agg #[.bool r3, v3_], .bool r5]) ∧ Kd.R (Kd.int .u32) 69 w' w.heap.size (fun _ => True) v1_ r2 ∧ Kd.R (Kd.int .u32) 69 w' w.heap.size (fun _ => True) v3_ r4 ∧ Below w.heap.size w w' := by
  have hu40 := Try.underlying40
  have HR0_1 := Aside0.mk hr0_1
  have HC0_1 := Aside0.mk hc0_1
  clear hr0_1 hc0_1
  have HR1_1 := Aside0.mk hr1_1
  have HC1_1 := Aside0.mk hc1_1
  clear hr1_1 hc1_1
  have HB := Aside0.mk (Below.refl w.heap.size w)
  have H : ((quadformref01_trim.f k l0_1).bind fun t105 => ((quadformref01_trim.f k l1_1).bind fun t108 => (if (t108.length : Int) = 0 then (some (false, ([] : List Int), false, ([] : List Int), false)) else ((quadformref01_divide.f k t105 t108).bind fun bt111 => ((quadformref01_Make.f k (a0_0 != a1_0) bt111.1).bind fun bt117 => ((quadformref01_Make.f k a0_0 bt111.2).bind fun bt121 => ((quadformref01_Sign.f k bt121.1 bt121.2).bind fun t127 => (quadformref01_DivMod.j0 k t108 (decide (t127 < 0)) a1_0 l1_1 bt117.1 bt117.2 bt121.1 bt121.2)))))))) = some (r1, r2, r3, r4, r5) := h
  clear h
  replace H := Option.bind_eq_some_iff.mp H
  obtain ⟨t105, A30, H⟩ := H
  replace H : ((quadformref01_trim.f k l1_1).bind fun t108 => (if (t108.length : Int) = 0 then (some (false, ([] : List Int), false, ([] : List Int), false)) else ((quadformref01_divide.f k t105 t108).bind fun bt111 => ((quadformref01_Make.f k (a0_0 != a1_0) bt111.1).bind fun bt117 => ((quadformref01_Make.f k a0_0 bt111.2).bind fun bt121 => ((quadformref01_Sign.f k bt121.1 bt121.2).bind fun t127 => (quadformref01_DivMod.j0 k t108 (decide (t127 < 0)) a1_0 l1_1 bt117.1 bt117.2 bt121.1 bt121.2))))))) = some (r1, r2, r3, r4, r5) := H
  have A3 := Aside0.mk A30
  clear A30
  replace H := Option.bind_eq_some_iff.mp H
  obtain ⟨t108, A40, H⟩ := H
  replace H : (if (t108.length : Int) = 0 then (some (false, ([] : List Int), false, ([] : List Int), false)) else ((quadformref01_divide.f k t105 t108).bind fun bt111 => ((quadformref01_Make.f k (a0_0 != a1_0) bt111.1).bind fun bt117 => ((quadformref01_Make.f k a0_0 bt111.2).bind fun bt121 => ((quadformref01_Sign.f k bt121.1 bt121.2).bind fun t127 => (quadformref01_DivMod.j0 k t108 (decide (t127 < 0)) a1_0 l1_1 bt117.1 bt117.2 bt121.1 bt121.2)))))) = some (r1, r2, r3, r4, r5) := H
  have A4 := Aside0.mk A40
  clear A40
  by_cases c5 : (t108.length : Int) = 0
  · rw [if_pos c5] at H
    have c5b0 : ((t108.length : Int) == 0) = true := beq_iff_eq.mpr c5
    have c5b1 : ((t108.length : Int) != 0) = false := bne_eq_false_iff_eq.mpr c5
    clear c5
    simp only [Option.some.injEq, Prod.mk.injEq] at H
    obtain ⟨rfl, rfl, rfl, rfl, rfl⟩ := H
    go_enter Try.func58, Try.ntmps58
    try go_wp2_with (first | ((with_reducible refine gate_dst (N := 2) rfl ?_); refine box_event ?hg (N := 2) ?hd (cs := #[.bool a0_0, .slice A0_1 l0_1.length c0_1]) (t := 40) ?hr ?_; (case hd => rfl); (case hg => rfl); (case hr => first | (go_simp; done) | (go_simp; rfl)); intro gb101 hg w6 hbox hb; have n0_ := Aside0.mk (below_step bw hb); have n1_ := Aside0.mk (hbox); have n2_ := Aside0.mk ((gsz hg : w.heap.size ≤ gb101)); have n3_ := Aside0.mk ((gsz hg : w.heap.size ≤ gb101)); clear HB; have HB := n0_; have BK101 := n1_; have GW101 := n2_; have GE101 := n3_; clear n0_ n1_ n2_ n3_; clear hb hbox hg) | ((with_reducible refine gate_dst (N := 3) rfl ?_); refine box_event ?hg (N := 3) ?hd (cs := #[.bool a1_0, .slice A1_1 l1_1.length c1_1]) (t := 40) ?hr ?_; (case hd => rfl); (case hg => rfl); (case hr => first | (go_simp; done) | (go_simp; rfl)); intro gb102 hg w7 hbox hb; have n0_ := Aside0.mk (bb BK101.out hb); have n1_ := Aside0.mk (below_step bw hb); have n2_ := Aside0.mk (hbox); have n3_ := Aside0.mk ((gsz hg : w.heap.size ≤ gb102)); have n4_ := Aside0.mk ((gsz hg : w.heap.size ≤ gb102)); have n5_ := Aside0.mk (nlt hg BK101.out); have n6_ := Aside0.mk (ngt hg BK101.out); clear BK101; clear HB; have BK101 := n0_; have HB := n1_; have BK102 := n2_; have GW102 := n3_; have GE102 := n4_; have NB101_102 := n5_; have NB102_101 := n6_; clear n0_ n1_ n2_ n3_ n4_ n5_ n6_; clear hb hbox hg) | ((with_reducible refine gate_dst (N := 4) rfl ?_); refine box_event ?hg (N := 4) ?hd (cs := #[.bool false, .slice none 0 0]) (t := 40) ?hr ?_; (case hd => rfl); (case hg => rfl); (case hr => first | (go_simp; done) | (go_simp; rfl)); intro gb103 hg w8 hbox hb; have n0_ := Aside0.mk (bb BK101.out hb); have n1_ := Aside0.mk (bb BK102.out hb); have n2_ := Aside0.mk (below_step bw hb); have n3_ := Aside0.mk (hbox); have n4_ := Aside0.mk ((gsz hg : w.heap.size ≤ gb103)); have n5_ := Aside0.mk ((gsz hg : w.heap.size ≤ gb103)); have n6_ := Aside0.mk (nlt hg BK101.out); have n7_ := Aside0.mk (ngt hg BK101.out); have n8_ := Aside0.mk (nlt hg BK102.out); have n9_ := Aside0.mk (ngt hg BK102.out); clear BK101; clear BK102; clear HB; have BK101 := n0_; have BK102 := n1_; have HB := n2_; have BK103 := n3_; have GW103 := n4_; have GE103 := n5_; have NB101_103 := n6_; have NB103_101 := n7_; have NB102_103 := n8_; have NB103_102 := n9_; clear n0_ n1_ n2_ n3_ n4_ n5_ n6_ n7_ n8_ n9_; clear hb hbox hg) | ((with_reducible refine gate_dst (N := 5) rfl ?_); refine box_event ?hg (N := 5) ?hd (cs := #[.bool false, .slice none 0 0]) (t := 40) ?hr ?_; (case hd => rfl); (case hg => rfl); (case hr => first | (go_simp; done) | (go_simp; rfl)); intro gb104 hg w9 hbox hb; have n0_ := Aside0.mk (bb BK101.out hb); have n1_ := Aside0.mk (bb BK102.out hb); have n2_ := Aside0.mk (bb BK103.out hb); have n3_ := Aside0.mk (below_step bw hb); have n4_ := Aside0.mk (hbox); have n5_ := Aside0.mk ((gsz hg : w.heap.size ≤ gb104)); have n6_ := Aside0.mk ((gsz hg : w.heap.size ≤ gb104)); have n7_ := Aside0.mk (nlt hg BK101.out); have n8_ := Aside0.mk (ngt hg BK101.out); have n9_ := Aside0.mk (nlt hg BK102.out); have n10_ := Aside0.mk (ngt hg BK102.out); have n11_ := Aside0.mk (nlt hg BK103.out); have n12_ := Aside0.mk (ngt hg BK103.out); clear BK101; clear BK102; clear BK103; clear HB; have BK101 := n0_; have BK102 := n1_; have BK103 := n2_; have HB := n3_; have BK104 := n4_; have GW104 := n5_; have GE104 := n6_; have NB101_104 := n7_; have NB104_101 := n8_; have NB102_104 := n9_; have NB104_102 := n10_; have NB103_104 := n11_; have NB104_103 := n12_; clear n0_ n1_ n2_ n3_ n4_ n5_ n6_ n7_ n8_ n9_ n10_ n11_ n12_; clear hb hbox hg))
    replace BK101 := Aside0.mk (blk_drew BK101.out)
    replace BK102 := Aside0.mk (blk_drew BK102.out)
    replace BK103 := Aside0.mk (blk_drew BK103.out)
    replace BK104 := Aside0.mk (blk_drew BK104.out)
    replace HB := Aside0.mk (below_drew1 HB.out)
    refine start_ (n := 8) (S := fun w' => w'.cell? ⟨gb101, 0, none⟩ = some (.bool a0_0) ∧ w'.cell? ⟨gb101, 1, none⟩ = some (.slice A0_1 l0_1.length c0_1) ∧ w'.cell? ⟨gb102, 0, none⟩ = some (.bool a1_0) ∧ w'.cell? ⟨gb102, 1, none⟩ = some (.slice A1_1 l1_1.length c1_1)) (ds := []) #[false, false, false, false, false, false, false, false] (by kernel_rfl) rfl rfl ⟨(blk_cell BK101.out 0).trans rfl, (blk_cell BK101.out 1).trans rfl, (blk_cell BK102.out 0).trans rfl, (blk_cell BK102.out 1).trans rfl⟩ (fun hHeld => ?_); refine with_tabW quadformref01_DivMod.tab1 quadformref01_DivMod.bits1 (fun HT_ HW_ => ?_)
    generalize w9.drew = w10 at BK101 BK102 BK103 BK104 HB hHeld ⊢
    refine pure_ (i := 0) (N := some 13) (v := ?_) (a' := ?_) #[true, false, false, false, false, false, false, false] rfl rfl (any_of HT_.out (by kernel_rfl)) (fun _ _ _ h => h) (Or.inl ⟨by rfl, ?_⟩) ?_ ?_
    rotate_left
    · intro w'
      go_simp
      with_reducible rfl
    rotate_left
    · simp only [Act.put, List.setIfInBounds_toArray, List.set_cons_zero, List.set_cons_succ, i64_w, i32_w]
      rfl
    refine pure_ (i := 3) (N := some 16) (v := ?_) (a' := ?_) #[true, false, false, true, false, false, false, false] rfl rfl (any_of HT_.out (by kernel_rfl)) (fun _ _ _ h => h) (Or.inl ⟨by rfl, ?_⟩) ?_ ?_
    rotate_left
    · intro w'
      go_simp
      with_reducible rfl
    rotate_left
    · simp only [Act.put, List.setIfInBounds_toArray, List.set_cons_zero, List.set_cons_succ, i64_w, i32_w]
      rfl
    refine take_ (i := 1) (N := some 14) (v := ?_) (a' := ?_) #[true, true, false, true, false, false, false, false] rfl rfl (take_ofW HT_.out HW_.out (by kernel_rfl)) (fun _ _ _ h => h) (Or.inl ⟨by rfl, ?_⟩) hHeld ?_ ?_
    rotate_left
    · rintro w' ⟨s0, s1, s2, s3⟩
      go_simp
      with_reducible rfl
    rotate_left
    · simp only [Act.put, List.setIfInBounds_toArray, List.set_cons_zero, List.set_cons_succ, i64_w, i32_w]
      rfl
    refine take_ (i := 4) (N := some 17) (v := ?_) (a' := ?_) #[true, true, false, true, true, false, false, false] rfl rfl (take_ofW HT_.out HW_.out (by kernel_rfl)) (fun _ _ _ h => h) (Or.inl ⟨by rfl, ?_⟩) hHeld ?_ ?_
    rotate_left
    · rintro w' ⟨s0, s1, s2, s3⟩
      go_simp
      with_reducible rfl
    rotate_left
    · simp only [Act.put, List.setIfInBounds_toArray, List.set_cons_zero, List.set_cons_succ, i64_w, i32_w]
      rfl
    refine one_ (i := 2) (N := some 15) #[true, true, true, true, true, false, false, false] rfl rfl (one_of HT_.out (by kernel_rfl)) (by decide) (fun K hK => ?_)
    refine goes_ Try.func57 (by kernel_rfl) rfl #[.slice A0_1 l0_1.length c0_1] (by rfl) rfl rfl (by (try simp only [List.map_toArray, List.map_cons, List.map_nil]); first | done | rfl | (simp only [List.length_drop, List.length_take]; rfl)) ?_
    with_reducible refine (quadformref01_trim.calls k _ _ l0_1 t105 _ ?side1 ?side2 A3.out).mono ?_
    (case side1 => exact cbw HR0_1.out)
    (case side2 => exact HC0_1.out)
    rintro e w11 ⟨v106, rfl, ho0, hb⟩
    refine ⟨_, rfl, ?_⟩
    have HO107 := Aside0.mk (Kd.R_lower ho0 (below_size bw))
    replace BK101 := Aside0.mk (bb BK101.out hb)
    replace BK102 := Aside0.mk (bb BK102.out hb)
    replace BK103 := Aside0.mk (bb BK103.out hb)
    replace BK104 := Aside0.mk (bb BK104.out hb)
    replace HB := Aside0.mk (below_step bw hb)
    (try clear hb)
    (try clear hb2)
    (try clear hk)
    (try clear hi)
    (try clear ho0)
    refine hK.out _ _ ⟨(blk_cell BK101.out 0).trans rfl, (blk_cell BK101.out 1).trans rfl, (blk_cell BK102.out 0).trans rfl, (blk_cell BK102.out 1).trans rfl⟩ (fun hHeld => ?_)
    clear hK K
    refine norm_ (a' := ?_) ?_ ?_
    rotate_left
    · show Act.put _ (some 15) _ = _
      simp only [Act.put, List.setIfInBounds_toArray, List.set_cons_zero, List.set_cons_succ, i64_w, i32_w]
      rfl
    refine one_ (i := 5) (N := some 18) #[true, true, true, true, true, true, false, false] rfl rfl (one_of HT_.out (by kernel_rfl)) (by decide) (fun K hK => ?_)
    refine goes_ Try.func57 (by kernel_rfl) rfl #[.slice A1_1 l1_1.length c1_1] (by rfl) rfl rfl (by (try simp only [List.map_toArray, List.map_cons, List.map_nil]); first | done | rfl | (simp only [List.length_drop, List.length_take]; rfl)) ?_
    with_reducible refine (quadformref01_trim.calls k _ _ l1_1 t108 _ ?side1 ?side2 A4.out).mono ?_
    (case side1 => exact cbw HR1_1.out)
    (case side2 => exact HC1_1.out)
    rintro e w12 ⟨v109, rfl, ho0, hb⟩
    refine ⟨_, rfl, ?_⟩
    replace HO107 := Aside0.mk (Kd.R_below (rr HO107.out) hb)
    have HO110 := Aside0.mk (Kd.R_lower ho0 (below_size bw))
    replace BK101 := Aside0.mk (bb BK101.out hb)
    replace BK102 := Aside0.mk (bb BK102.out hb)
    replace BK103 := Aside0.mk (bb BK103.out hb)
    replace BK104 := Aside0.mk (bb BK104.out hb)
    replace HB := Aside0.mk (below_step bw hb)
    (try clear hb)
    (try clear hb2)
    (try clear hk)
    (try clear hi)
    (try clear ho0)
    refine hK.out _ _ ⟨(blk_cell BK101.out 0).trans rfl, (blk_cell BK101.out 1).trans rfl, (blk_cell BK102.out 0).trans rfl, (blk_cell BK102.out 1).trans rfl⟩ (fun hHeld => ?_)
    clear hK K
    refine norm_ (a' := ?_) ?_ ?_
    rotate_left
    · show Act.put _ (some 18) _ = _
      simp only [Act.put, List.setIfInBounds_toArray, List.set_cons_zero, List.set_cons_succ, i64_w, i32_w]
      rfl
    refine pure_ (i := 6) (N := some 7) (v := ?_) (a' := ?_) #[true, true, true, true, true, true, true, false] rfl rfl (any_of HT_.out (by kernel_rfl)) (fun _ _ _ h => h) (Or.inl ⟨by rfl, ?_⟩) ?_ ?_
    rotate_left
    · intro w'
      go_simp
      with_reducible rfl
    rotate_left
    · simp only [Act.put, List.setIfInBounds_toArray, List.set_cons_zero, List.set_cons_succ, i64_w, i32_w]
      rfl
    refine pure_ (i := 7) (N := some 8) (v := ?_) (a' := ?_) #[true, true, true, true, true, true, true, true] rfl rfl (any_of HT_.out (by kernel_rfl)) (fun _ _ _ h => h) (Or.inl ⟨by rfl, ?_⟩) ?_ ?_
    rotate_left
    · intro w'
      go_simp
      with_reducible rfl
    rotate_left
    · simp only [Act.put, List.setIfInBounds_toArray, List.set_cons_zero, List.set_cons_succ, i64_w, i32_w]
      rfl
    refine done_ (done_of HT_.out (by kernel_rfl)) ?_
    obtain ⟨Ao13, co13, eo13⟩ := Kd.R_slice HO110.out
    subst eo13
    have hnb14 := NB103_101.out
    have hnc14 := NB101_103.out
    have hnb15 := NB103_102.out
    have hnc15 := NB102_103.out
    have hnb16 := NB103_104.out
    have hnc16 := NB104_103.out
    have hcz17_0 : w12.cell? ⟨gb103, 0, none⟩ = some (.bool false) := (blk_cell BK103.out 0).trans rfl
    have hcz17_1 : w12.cell? ⟨gb103, 1, none⟩ = some (.slice none 0 0) := (blk_cell BK103.out 1).trans rfl
    have hfz17_0 := blk_frozen BK103.out 0
    have hfz17_1 := blk_frozen BK103.out 1
    have hnb18 := NB104_101.out
    have hnc18 := NB101_104.out
    have hnb19 := NB104_102.out
    have hnc19 := NB102_104.out
    have hcz20_0 : w12.cell? ⟨gb104, 0, none⟩ = some (.bool false) := (blk_cell BK104.out 0).trans rfl
    have hcz20_1 : w12.cell? ⟨gb104, 1, none⟩ = some (.slice none 0 0) := (blk_cell BK104.out 1).trans rfl
    have hfz20_0 := blk_frozen BK104.out 0
    have hfz20_1 := blk_frozen BK104.out 1
    try go_wp2
    refine bodyPost_ret (results_list (rs := [.cell 4 40, .cell 5 40, .tmp 6]) rfl (by simp) (.cell gb103 40 #[.bool false, .slice none 0 0] (0, 0) _ rfl (by (with_reducible repeat (first | refine blk_drewN ?_ _ | refine blk_drew ?_ | refine blk_alloc ?_ _)); refine blk_far ?_ NB103_104.out _; (with_reducible repeat (first | refine blk_drewN ?_ _ | refine blk_drew ?_ | refine blk_alloc ?_ _)); refine blk_far ?_ NB103_104.out _; (with_reducible repeat (first | refine blk_drewN ?_ _ | refine blk_drew ?_ | refine blk_alloc ?_ _)); refine blk_put (cs := #[.bool false, .slice none 0 0]) ?_ 1 _ rfl; (with_reducible repeat (first | refine blk_drewN ?_ _ | refine blk_drew ?_ | refine blk_alloc ?_ _)); refine blk_put (cs := #[.bool false, .slice none 0 0]) ?_ 0 _ rfl; (with_reducible repeat (first | refine blk_drewN ?_ _ | refine blk_drew ?_ | refine blk_alloc ?_ _)); exact BK103.out) Try.underlying40 rfl (by kernel_rfl) (.cell gb104 40 #[.bool false, .slice none 0 0] (0, 0) _ rfl (by (with_reducible repeat (first | refine blk_drewN ?_ _ | refine blk_drew ?_ | refine blk_alloc ?_ _)); refine blk_put (cs := #[.bool false, .slice none 0 0]) ?_ 1 _ rfl; (with_reducible repeat (first | refine blk_drewN ?_ _ | refine blk_drew ?_ | refine blk_alloc ?_ _)); refine blk_put (cs := #[.bool false, .slice none 0 0]) ?_ 0 _ rfl; (with_reducible repeat (first | refine blk_drewN ?_ _ | refine blk_drew ?_ | refine blk_alloc ?_ _)); refine blk_far ?_ NB104_103.out _; (with_reducible repeat (first | refine blk_drewN ?_ _ | refine blk_drew ?_ | refine blk_alloc ?_ _)); refine blk_far ?_ NB104_103.out _; (with_reducible repeat (first | refine blk_drewN ?_ _ | refine blk_drew ?_ | refine blk_alloc ?_ _)); exact BK104.out) Try.underlying40 rfl (by kernel_rfl) (.tmp .nil)))) rfl ?_
    exact ⟨_, _, by first | rfl | (simp [errW_none, errW_some] <;> rfl) | (simp [*, errW_none, errW_some] <;> rfl), by first | exact Kd.R_nil _ _ _ _ _ | exact Kd.N_nil _ _ _ _ _ | exact Kd.V_nil _ _ _ _ _ | exact Kd.Q_nil _ _ _ _ _ | exact Kd.S_nil _ _ _ _ _, by first | exact Kd.R_nil _ _ _ _ _ | exact Kd.N_nil _ _ _ _ _ | exact Kd.V_nil _ _ _ _ _ | exact Kd.Q_nil _ _ _ _ _ | exact Kd.S_nil _ _ _ _ _, bw⟩
  · rw [if_neg c5] at H
    have c5b0 : ((t108.length : Int) == 0) = false := beq_eq_false_iff_ne.mpr c5
    have c5b1 : ((t108.length : Int) != 0) = true := bne_iff_ne.mpr c5
    have c5b2 : ¬ (t108 = []) := fun h_ => c5 (by rw [h_]; rfl)
    replace H := Option.bind_eq_some_iff.mp H
    obtain ⟨⟨t111, t112⟩, A210, H⟩ := H
    replace H : ((quadformref01_Make.f k (a0_0 != a1_0) t111).bind fun bt117 => ((quadformref01_Make.f k a0_0 t112).bind fun bt121 => ((quadformref01_Sign.f k bt121.1 bt121.2).bind fun t127 => (quadformref01_DivMod.j0 k t108 (decide (t127 < 0)) a1_0 l1_1 bt117.1 bt117.2 bt121.1 bt121.2)))) = some (r1, r2, r3, r4, r5) := H
    have A21 := Aside0.mk A210
    clear A210
    replace H := Option.bind_eq_some_iff.mp H
    obtain ⟨⟨t117, t118⟩, A220, H⟩ := H
    replace H : ((quadformref01_Make.f k a0_0 t112).bind fun bt121 => ((quadformref01_Sign.f k bt121.1 bt121.2).bind fun t127 => (quadformref01_DivMod.j0 k t108 (decide (t127 < 0)) a1_0 l1_1 t117 t118 bt121.1 bt121.2))) = some (r1, r2, r3, r4, r5) := H
    have A22 := Aside0.mk A220
    clear A220
    replace H := Option.bind_eq_some_iff.mp H
    obtain ⟨⟨t121, t122⟩, A230, H⟩ := H
    replace H : ((quadformref01_Sign.f k t121 t122).bind fun t127 => (quadformref01_DivMod.j0 k t108 (decide (t127 < 0)) a1_0 l1_1 t117 t118 t121 t122)) = some (r1, r2, r3, r4, r5) := H
    have A23 := Aside0.mk A230
    clear A230
    have HC24 := Aside0.mk H
    clear H
    go_enter Try.func58, Try.ntmps58
    try go_wp2_with (first | ((with_reducible refine gate_dst (N := 2) rfl ?_); refine box_event ?hg (N := 2) ?hd (cs := #[.bool a0_0, .slice A0_1 l0_1.length c0_1]) (t := 40) ?hr ?_; (case hd => rfl); (case hg => rfl); (case hr => first | (go_simp; done) | (go_simp; rfl)); intro gb101 hg w25 hbox hb; have n0_ := Aside0.mk (below_step bw hb); have n1_ := Aside0.mk (hbox); have n2_ := Aside0.mk ((gsz hg : w.heap.size ≤ gb101)); have n3_ := Aside0.mk ((gsz hg : w.heap.size ≤ gb101)); clear HB; have HB := n0_; have BK101 := n1_; have GW101 := n2_; have GE101 := n3_; clear n0_ n1_ n2_ n3_; clear hb hbox hg) | ((with_reducible refine gate_dst (N := 3) rfl ?_); refine box_event ?hg (N := 3) ?hd (cs := #[.bool a1_0, .slice A1_1 l1_1.length c1_1]) (t := 40) ?hr ?_; (case hd => rfl); (case hg => rfl); (case hr => first | (go_simp; done) | (go_simp; rfl)); intro gb102 hg w26 hbox hb; have n0_ := Aside0.mk (bb BK101.out hb); have n1_ := Aside0.mk (below_step bw hb); have n2_ := Aside0.mk (hbox); have n3_ := Aside0.mk ((gsz hg : w.heap.size ≤ gb102)); have n4_ := Aside0.mk ((gsz hg : w.heap.size ≤ gb102)); have n5_ := Aside0.mk (nlt hg BK101.out); have n6_ := Aside0.mk (ngt hg BK101.out); clear BK101; clear HB; have BK101 := n0_; have HB := n1_; have BK102 := n2_; have GW102 := n3_; have GE102 := n4_; have NB101_102 := n5_; have NB102_101 := n6_; clear n0_ n1_ n2_ n3_ n4_ n5_ n6_; clear hb hbox hg) | ((with_reducible refine gate_dst (N := 4) rfl ?_); refine box_event ?hg (N := 4) ?hd (cs := #[.bool false, .slice none 0 0]) (t := 40) ?hr ?_; (case hd => rfl); (case hg => rfl); (case hr => first | (go_simp; done) | (go_simp; rfl)); intro gb103 hg w27 hbox hb; have n0_ := Aside0.mk (bb BK101.out hb); have n1_ := Aside0.mk (bb BK102.out hb); have n2_ := Aside0.mk (below_step bw hb); have n3_ := Aside0.mk (hbox); have n4_ := Aside0.mk ((gsz hg : w.heap.size ≤ gb103)); have n5_ := Aside0.mk ((gsz hg : w.heap.size ≤ gb103)); have n6_ := Aside0.mk (nlt hg BK101.out); have n7_ := Aside0.mk (ngt hg BK101.out); have n8_ := Aside0.mk (nlt hg BK102.out); have n9_ := Aside0.mk (ngt hg BK102.out); clear BK101; clear BK102; clear HB; have BK101 := n0_; have BK102 := n1_; have HB := n2_; have BK103 := n3_; have GW103 := n4_; have GE103 := n5_; have NB101_103 := n6_; have NB103_101 := n7_; have NB102_103 := n8_; have NB103_102 := n9_; clear n0_ n1_ n2_ n3_ n4_ n5_ n6_ n7_ n8_ n9_; clear hb hbox hg) | ((with_reducible refine gate_dst (N := 5) rfl ?_); refine box_event ?hg (N := 5) ?hd (cs := #[.bool false, .slice none 0 0]) (t := 40) ?hr ?_; (case hd => rfl); (case hg => rfl); (case hr => first | (go_simp; done) | (go_simp; rfl)); intro gb104 hg w28 hbox hb; have n0_ := Aside0.mk (bb BK101.out hb); have n1_ := Aside0.mk (bb BK102.out hb); have n2_ := Aside0.mk (bb BK103.out hb); have n3_ := Aside0.mk (below_step bw hb); have n4_ := Aside0.mk (hbox); have n5_ := Aside0.mk ((gsz hg : w.heap.size ≤ gb104)); have n6_ := Aside0.mk ((gsz hg : w.heap.size ≤ gb104)); have n7_ := Aside0.mk (nlt hg BK101.out); have n8_ := Aside0.mk (ngt hg BK101.out); have n9_ := Aside0.mk (nlt hg BK102.out); have n10_ := Aside0.mk (ngt hg BK102.out); have n11_ := Aside0.mk (nlt hg BK103.out); have n12_ := Aside0.mk (ngt hg BK103.out); clear BK101; clear BK102; clear BK103; clear HB; have BK101 := n0_; have BK102 := n1_; have BK103 := n2_; have HB := n3_; have BK104 := n4_; have GW104 := n5_; have GE104 := n6_; have NB101_104 := n7_; have NB104_101 := n8_; have NB102_104 := n9_; have NB104_102 := n10_; have NB103_104 := n11_; have NB104_103 := n12_; clear n0_ n1_ n2_ n3_ n4_ n5_ n6_ n7_ n8_ n9_ n10_ n11_ n12_; clear hb hbox hg))
    replace BK101 := Aside0.mk (blk_drew BK101.out)
    replace BK102 := Aside0.mk (blk_drew BK102.out)
    replace BK103 := Aside0.mk (blk_drew BK103.out)
    replace BK104 := Aside0.mk (blk_drew BK104.out)
    replace HB := Aside0.mk (below_drew1 HB.out)
    refine start_ (n := 8) (S := fun w' => w'.cell? ⟨gb101, 0, none⟩ = some (.bool a0_0) ∧ w'.cell? ⟨gb101, 1, none⟩ = some (.slice A0_1 l0_1.length c0_1) ∧ w'.cell? ⟨gb102, 0, none⟩ = some (.bool a1_0) ∧ w'.cell? ⟨gb102, 1, none⟩ = some (.slice A1_1 l1_1.length c1_1)) (ds := []) #[false, false, false, false, false, false, false, false] (by kernel_rfl) rfl rfl ⟨(blk_cell BK101.out 0).trans rfl, (blk_cell BK101.out 1).trans rfl, (blk_cell BK102.out 0).trans rfl, (blk_cell BK102.out 1).trans rfl⟩ (fun hHeld => ?_); refine with_tabW quadformref01_DivMod.tab1 quadformref01_DivMod.bits1 (fun HT_ HW_ => ?_)
    generalize w28.drew = w29 at BK101 BK102 BK103 BK104 HB hHeld ⊢
    refine pure_ (i := 0) (N := some 13) (v := ?_) (a' := ?_) #[true, false, false, false, false, false, false, false] rfl rfl (any_of HT_.out (by kernel_rfl)) (fun _ _ _ h => h) (Or.inl ⟨by rfl, ?_⟩) ?_ ?_
    rotate_left
    · intro w'
      go_simp
      with_reducible rfl
    rotate_left
    · simp only [Act.put, List.setIfInBounds_toArray, List.set_cons_zero, List.set_cons_succ, i64_w, i32_w]
      rfl
    refine pure_ (i := 3) (N := some 16) (v := ?_) (a' := ?_) #[true, false, false, true, false, false, false, false] rfl rfl (any_of HT_.out (by kernel_rfl)) (fun _ _ _ h => h) (Or.inl ⟨by rfl, ?_⟩) ?_ ?_
    rotate_left
    · intro w'
      go_simp
      with_reducible rfl
    rotate_left
    · simp only [Act.put, List.setIfInBounds_toArray, List.set_cons_zero, List.set_cons_succ, i64_w, i32_w]
      rfl
    refine take_ (i := 1) (N := some 14) (v := ?_) (a' := ?_) #[true, true, false, true, false, false, false, false] rfl rfl (take_ofW HT_.out HW_.out (by kernel_rfl)) (fun _ _ _ h => h) (Or.inl ⟨by rfl, ?_⟩) hHeld ?_ ?_
    rotate_left
    · rintro w' ⟨s0, s1, s2, s3⟩
      go_simp
      with_reducible rfl
    rotate_left
    · simp only [Act.put, List.setIfInBounds_toArray, List.set_cons_zero, List.set_cons_succ, i64_w, i32_w]
      rfl
    refine take_ (i := 4) (N := some 17) (v := ?_) (a' := ?_) #[true, true, false, true, true, false, false, false] rfl rfl (take_ofW HT_.out HW_.out (by kernel_rfl)) (fun _ _ _ h => h) (Or.inl ⟨by rfl, ?_⟩) hHeld ?_ ?_
    rotate_left
    · rintro w' ⟨s0, s1, s2, s3⟩
      go_simp
      with_reducible rfl
    rotate_left
    · simp only [Act.put, List.setIfInBounds_toArray, List.set_cons_zero, List.set_cons_succ, i64_w, i32_w]
      rfl
    refine one_ (i := 2) (N := some 15) #[true, true, true, true, true, false, false, false] rfl rfl (one_of HT_.out (by kernel_rfl)) (by decide) (fun K hK => ?_)
    refine goes_ Try.func57 (by kernel_rfl) rfl #[.slice A0_1 l0_1.length c0_1] (by rfl) rfl rfl (by (try simp only [List.map_toArray, List.map_cons, List.map_nil]); first | done | rfl | (simp only [List.length_drop, List.length_take]; rfl)) ?_
    with_reducible refine (quadformref01_trim.calls k _ _ l0_1 t105 _ ?side1 ?side2 A3.out).mono ?_
    (case side1 => exact cbw HR0_1.out)
    (case side2 => exact HC0_1.out)
    rintro e w30 ⟨v106, rfl, ho0, hb⟩
    refine ⟨_, rfl, ?_⟩
    have HO107 := Aside0.mk (Kd.R_lower ho0 (below_size bw))
    replace BK101 := Aside0.mk (bb BK101.out hb)
    replace BK102 := Aside0.mk (bb BK102.out hb)
    replace BK103 := Aside0.mk (bb BK103.out hb)
    replace BK104 := Aside0.mk (bb BK104.out hb)
    replace HB := Aside0.mk (below_step bw hb)
    (try clear hb)
    (try clear hb2)
    (try clear hk)
    (try clear hi)
    (try clear ho0)
    refine hK.out _ _ ⟨(blk_cell BK101.out 0).trans rfl, (blk_cell BK101.out 1).trans rfl, (blk_cell BK102.out 0).trans rfl, (blk_cell BK102.out 1).trans rfl⟩ (fun hHeld => ?_)
    clear hK K
    refine norm_ (a' := ?_) ?_ ?_
    rotate_left
    · show Act.put _ (some 15) _ = _
      simp only [Act.put, List.setIfInBounds_toArray, List.set_cons_zero, List.set_cons_succ, i64_w, i32_w]
      rfl
    refine one_ (i := 5) (N := some 18) #[true, true, true, true, true, true, false, false] rfl rfl (one_of HT_.out (by kernel_rfl)) (by decide) (fun K hK => ?_)
    refine goes_ Try.func57 (by kernel_rfl) rfl #[.slice A1_1 l1_1.length c1_1] (by rfl) rfl rfl (by (try simp only [List.map_toArray, List.map_cons, List.map_nil]); first | done | rfl | (simp only [List.length_drop, List.length_take]; rfl)) ?_
    with_reducible refine (quadformref01_trim.calls k _ _ l1_1 t108 _ ?side1 ?side2 A4.out).mono ?_
    (case side1 => exact cbw HR1_1.out)
    (case side2 => exact HC1_1.out)
    rintro e w31 ⟨v109, rfl, ho0, hb⟩
    refine ⟨_, rfl, ?_⟩
    replace HO107 := Aside0.mk (Kd.R_below (rr HO107.out) hb)
    have HO110 := Aside0.mk (Kd.R_lower ho0 (below_size bw))
    replace BK101 := Aside0.mk (bb BK101.out hb)
    replace BK102 := Aside0.mk (bb BK102.out hb)
    replace BK103 := Aside0.mk (bb BK103.out hb)
    replace BK104 := Aside0.mk (bb BK104.out hb)
    replace HB := Aside0.mk (below_step bw hb)
    (try clear hb)
    (try clear hb2)
    (try clear hk)
    (try clear hi)
    (try clear ho0)
    refine hK.out _ _ ⟨(blk_cell BK101.out 0).trans rfl, (blk_cell BK101.out 1).trans rfl, (blk_cell BK102.out 0).trans rfl, (blk_cell BK102.out 1).trans rfl⟩ (fun hHeld => ?_)
    clear hK K
    refine norm_ (a' := ?_) ?_ ?_
    rotate_left
    · show Act.put _ (some 18) _ = _
      simp only [Act.put, List.setIfInBounds_toArray, List.set_cons_zero, List.set_cons_succ, i64_w, i32_w]
      rfl
    refine pure_ (i := 6) (N := some 7) (v := ?_) (a' := ?_) #[true, true, true, true, true, true, true, false] rfl rfl (any_of HT_.out (by kernel_rfl)) (fun _ _ _ h => h) (Or.inl ⟨by rfl, ?_⟩) ?_ ?_
    rotate_left
    · intro w'
      go_simp
      with_reducible rfl
    rotate_left
    · simp only [Act.put, List.setIfInBounds_toArray, List.set_cons_zero, List.set_cons_succ, i64_w, i32_w]
      rfl
    refine pure_ (i := 7) (N := some 8) (v := ?_) (a' := ?_) #[true, true, true, true, true, true, true, true] rfl rfl (any_of HT_.out (by kernel_rfl)) (fun _ _ _ h => h) (Or.inl ⟨by rfl, ?_⟩) ?_ ?_
    rotate_left
    · intro w'
      go_simp
      with_reducible rfl
    rotate_left
    · simp only [Act.put, List.setIfInBounds_toArray, List.set_cons_zero, List.set_cons_succ, i64_w, i32_w]
      rfl
    refine done_ (done_of HT_.out (by kernel_rfl)) ?_
    obtain ⟨Ao32, co32, eo32⟩ := Kd.R_slice HO110.out
    subst eo32
    obtain ⟨Ao33, co33, eo33⟩ := Kd.R_slice HO107.out
    subst eo33
    try go_wp2_with (first | ((with_reducible refine gate_callee (f := 65) rfl ?_); refine goesL_ (some 27) rfl rfl Try.func65 (by kernel_rfl) rfl #[.slice Ao33 t105.length co33, .slice Ao32 t108.length co32] rfl (by (try simp only [List.map_toArray, List.map_cons, List.map_nil]); first | done | rfl | (simp only [List.length_drop, List.length_take]; rfl)) ?_; (with_reducible refine (quadformref01_divide.calls k _ _ t105 _ _ t108 t111 t112 _ ?side1 ?side2 ?side3 ?side4 A21.out).mono ?_); (case side1 => repeat (first | exact (Kd.R_reads' HO107.out).2.2 | (with_reducible refine Kd.C_alloc ?_ _) | (with_reducible refine Kd.C_drewN ?_ _) | (with_reducible refine Kd.C_drew ?_))); (case side2 => exact (Kd.R_reads' HO107.out).2.1); (case side3 => repeat (first | exact (Kd.R_reads' HO110.out).2.2 | (with_reducible refine Kd.C_alloc ?_ _) | (with_reducible refine Kd.C_drewN ?_ _) | (with_reducible refine Kd.C_drew ?_))); (case side4 => exact (Kd.R_reads' HO110.out).2.1); rintro e w34 ⟨v113, v115, rfl, ho0, ho1, hb⟩; refine ⟨_, rfl, ?_⟩; have n0_ := Aside0.mk (Kd.R_below (rr HO107.out) hb); have n1_ := Aside0.mk (Kd.R_below (rr HO110.out) hb); have n2_ := Aside0.mk (Kd.R_lower ho0 (below_size bw)); have n3_ := Aside0.mk (Kd.R_lower ho1 (below_size bw)); have n4_ := Aside0.mk (bb BK101.out hb); have n5_ := Aside0.mk (bb BK102.out hb); have n6_ := Aside0.mk (bb BK103.out hb); have n7_ := Aside0.mk (bb BK104.out hb); have n8_ := Aside0.mk (below_step bw hb); clear HO107; clear HO110; clear BK101; clear BK102; clear BK103; clear BK104; clear HB; have HO107 := n0_; have HO110 := n1_; have HO114 := n2_; have HO116 := n3_; have BK101 := n4_; have BK102 := n5_; have BK103 := n6_; have BK104 := n7_; have HB := n8_; clear n0_ n1_ n2_ n3_ n4_ n5_ n6_ n7_ n8_; (try clear hb); (try clear hb2); (try clear hk); (try clear hi); (try clear ho0); (try clear ho1); obtain ⟨Ao35, co35, eo35⟩ := Kd.R_slice HO114.out; subst eo35; obtain ⟨Ao36, co36, eo36⟩ := Kd.R_slice HO116.out; subst eo36))
    replace HO107 := Aside0.mk (Kd.R_drew HO107.out)
    replace HO110 := Aside0.mk (Kd.R_drew HO110.out)
    replace HO114 := Aside0.mk (Kd.R_drew HO114.out)
    replace HO116 := Aside0.mk (Kd.R_drew HO116.out)
    replace BK101 := Aside0.mk (blk_drew BK101.out)
    replace BK102 := Aside0.mk (blk_drew BK102.out)
    replace BK103 := Aside0.mk (blk_drew BK103.out)
    replace BK104 := Aside0.mk (blk_drew BK104.out)
    replace HB := Aside0.mk (below_drew1 HB.out)
    refine start_ (n := 15) (S := fun w' => w'.cell? ⟨gb101, 0, none⟩ = some (.bool a0_0) ∧ w'.cell? ⟨gb101, 1, none⟩ = some (.slice A0_1 l0_1.length c0_1) ∧ w'.cell? ⟨gb102, 0, none⟩ = some (.bool a1_0) ∧ w'.cell? ⟨gb102, 1, none⟩ = some (.slice A1_1 l1_1.length c1_1)) (ds := []) #[false, false, false, false, false, false, false, false, false, false, false, false, false, false, false] (by kernel_rfl) rfl rfl ⟨(blk_cell BK101.out 0).trans rfl, (blk_cell BK101.out 1).trans rfl, (blk_cell BK102.out 0).trans rfl, (blk_cell BK102.out 1).trans rfl⟩ (fun hHeld => ?_); refine with_tabW quadformref01_DivMod.tab5 quadformref01_DivMod.bits5 (fun HT_ HW_ => ?_)
    generalize w34.drew = w37 at HO107 HO110 HO114 HO116 BK101 BK102 BK103 BK104 HB hHeld ⊢
    refine pure_ (i := 0) (N := some 30) (v := ?_) (a' := ?_) #[true, false, false, false, false, false, false, false, false, false, false, false, false, false, false] rfl rfl (any_of HT_.out (by kernel_rfl)) (fun _ _ _ h => h) (Or.inl ⟨by rfl, ?_⟩) ?_ ?_
    rotate_left
    · intro w'
      go_simp
      with_reducible rfl
    rotate_left
    · simp only [Act.put, List.setIfInBounds_toArray, List.set_cons_zero, List.set_cons_succ, i64_w, i32_w]
      rfl
    refine pure_ (i := 2) (N := some 32) (v := ?_) (a' := ?_) #[true, false, true, false, false, false, false, false, false, false, false, false, false, false, false] rfl rfl (any_of HT_.out (by kernel_rfl)) (fun _ _ _ h => h) (Or.inl ⟨by rfl, ?_⟩) ?_ ?_
    rotate_left
    · intro w'
      go_simp
      with_reducible rfl
    rotate_left
    · simp only [Act.put, List.setIfInBounds_toArray, List.set_cons_zero, List.set_cons_succ, i64_w, i32_w]
      rfl
    refine pure_ (i := 5) (N := some 35) (v := ?_) (a' := ?_) #[true, false, true, false, false, true, false, false, false, false, false, false, false, false, false] rfl rfl (any_of HT_.out (by kernel_rfl)) (fun _ _ _ h => h) (Or.inl ⟨by rfl, ?_⟩) ?_ ?_
    rotate_left
    · intro w'
      go_simp
      with_reducible rfl
    rotate_left
    · simp only [Act.put, List.setIfInBounds_toArray, List.set_cons_zero, List.set_cons_succ, i64_w, i32_w]
      rfl
    refine pure_ (i := 7) (N := some 37) (v := ?_) (a' := ?_) #[true, false, true, false, false, true, false, true, false, false, false, false, false, false, false] rfl rfl (any_of HT_.out (by kernel_rfl)) (fun _ _ _ h => h) (Or.inl ⟨by rfl, ?_⟩) ?_ ?_
    rotate_left
    · intro w'
      go_simp
      with_reducible rfl
    rotate_left
    · simp only [Act.put, List.setIfInBounds_toArray, List.set_cons_zero, List.set_cons_succ, i64_w, i32_w]
      rfl
    refine pure_ (i := 9) (N := some 39) (v := ?_) (a' := ?_) #[true, false, true, false, false, true, false, true, false, true, false, false, false, false, false] rfl rfl (any_of HT_.out (by kernel_rfl)) (fun _ _ _ h => h) (Or.inl ⟨by rfl, ?_⟩) ?_ ?_
    rotate_left
    · intro w'
      go_simp
      with_reducible rfl
    rotate_left
    · simp only [Act.put, List.setIfInBounds_toArray, List.set_cons_zero, List.set_cons_succ, i64_w, i32_w]
      rfl
    refine take_ (i := 1) (N := some 31) (v := ?_) (a' := ?_) #[true, true, true, false, false, true, false, true, false, true, false, false, false, false, false] rfl rfl (take_ofW HT_.out HW_.out (by kernel_rfl)) (fun _ _ _ h => h) (Or.inl ⟨by rfl, ?_⟩) hHeld ?_ ?_
    rotate_left
    · rintro w' ⟨s0, s1, s2, s3⟩
      go_simp
      with_reducible rfl
    rotate_left
    · simp only [Act.put, List.setIfInBounds_toArray, List.set_cons_zero, List.set_cons_succ, i64_w, i32_w]
      rfl
    refine take_ (i := 3) (N := some 33) (v := ?_) (a' := ?_) #[true, true, true, true, false, true, false, true, false, true, false, false, false, false, false] rfl rfl (take_ofW HT_.out HW_.out (by kernel_rfl)) (fun _ _ _ h => h) (Or.inl ⟨by rfl, ?_⟩) hHeld ?_ ?_
    rotate_left
    · rintro w' ⟨s0, s1, s2, s3⟩
      go_simp
      with_reducible rfl
    rotate_left
    · simp only [Act.put, List.setIfInBounds_toArray, List.set_cons_zero, List.set_cons_succ, i64_w, i32_w]
      rfl
    refine pure_ (i := 4) (N := some 34) (v := ?_) (a' := ?_) #[true, true, true, true, true, true, false, true, false, true, false, false, false, false, false] rfl rfl (any_of HT_.out (by kernel_rfl)) (fun _ _ _ h => h) (Or.inl ⟨by rfl, ?_⟩) ?_ ?_
    rotate_left
    · intro w'
      go_simp
      with_reducible rfl
    rotate_left
    · simp only [Act.put, List.setIfInBounds_toArray, List.set_cons_zero, List.set_cons_succ, i64_w, i32_w]
      rfl
    refine take_ (i := 8) (N := some 38) (v := ?_) (a' := ?_) #[true, true, true, true, true, true, false, true, true, true, false, false, false, false, false] rfl rfl (take_ofW HT_.out HW_.out (by kernel_rfl)) (fun _ _ _ h => h) (Or.inl ⟨by rfl, ?_⟩) hHeld ?_ ?_
    rotate_left
    · rintro w' ⟨s0, s1, s2, s3⟩
      go_simp
      with_reducible rfl
    rotate_left
    · simp only [Act.put, List.setIfInBounds_toArray, List.set_cons_zero, List.set_cons_succ, i64_w, i32_w]
      rfl
    refine join_ (σ := Value × Value × Nat × Nat) 2 #[true, true, true, true, true, true, true, true, true, true, true, true, true, false, false] (fun s_ => [(36, .agg #[.bool t117, s_.1]), (40, .agg #[.bool t121, s_.2.1]), (11, .pointer (some ⟨s_.2.2.1, 0, none⟩)), (12, .pointer (some ⟨s_.2.2.2, 0, none⟩))]) (fun s_ w' => (w'.cell? ⟨gb101, 0, none⟩ = some (.bool a0_0) ∧ w'.cell? ⟨gb101, 1, none⟩ = some (.slice A0_1 l0_1.length c0_1) ∧ w'.cell? ⟨gb102, 0, none⟩ = some (.bool a1_0) ∧ w'.cell? ⟨gb102, 1, none⟩ = some (.slice A1_1 l1_1.length c1_1)) ∧ (Kd.R (Kd.int .u32) 69 w' w.heap.size (fun _ => True) (.slice Ao33 t105.length co33) t105) ∧ (Kd.R (Kd.int .u32) 69 w' w.heap.size (fun _ => True) (.slice Ao32 t108.length co32) t108) ∧ (Kd.R (Kd.int .u32) 69 w' w.heap.size (fun _ => True) (.slice Ao35 t111.length co35) t111) ∧ (Kd.R (Kd.int .u32) 69 w' w.heap.size (fun _ => True) (.slice Ao36 t112.length co36) t112) ∧ (Kd.R (Kd.int .u32) 69 w' w.heap.size (fun _ => True) s_.1 t118) ∧ (Kd.R (Kd.int .u32) 69 w' w.heap.size (fun _ => True) s_.2.1 t122) ∧ (w'.heap[gb101]? = some (.cells #[.bool a0_0, .slice A0_1 l0_1.length c0_1] 40 (0, 0))) ∧ (w'.heap[gb102]? = some (.cells #[.bool a1_0, .slice A1_1 l1_1.length c1_1] 40 (0, 0))) ∧ (w'.heap[gb103]? = some (.cells #[.bool false, .slice none 0 0] 40 (0, 0))) ∧ (w'.heap[gb104]? = some (.cells #[.bool false, .slice none 0 0] 40 (0, 0))) ∧ (w'.heap[s_.2.2.1]? = some (.cells #[.bool false, .slice none 0 0] 40 (0, 0))) ∧ (w'.heap[s_.2.2.2]? = some (.cells #[.bool false, .slice none 0 0] 40 (0, 0))) ∧ (w.heap.size ≤ s_.2.2.1) ∧ (w.heap.size ≤ s_.2.2.1) ∧ (gb101 ≠ s_.2.2.1) ∧ (s_.2.2.1 ≠ gb101) ∧ (gb102 ≠ s_.2.2.1) ∧ (s_.2.2.1 ≠ gb102) ∧ (gb103 ≠ s_.2.2.1) ∧ (s_.2.2.1 ≠ gb103) ∧ (gb104 ≠ s_.2.2.1) ∧ (s_.2.2.1 ≠ gb104) ∧ (s_.2.2.2 ≠ s_.2.2.1) ∧ (s_.2.2.1 ≠ s_.2.2.2) ∧ (w.heap.size ≤ s_.2.2.2) ∧ (w.heap.size ≤ s_.2.2.2) ∧ (gb101 ≠ s_.2.2.2) ∧ (s_.2.2.2 ≠ gb101) ∧ (gb102 ≠ s_.2.2.2) ∧ (s_.2.2.2 ≠ gb102) ∧ (gb103 ≠ s_.2.2.2) ∧ (s_.2.2.2 ≠ gb103) ∧ (gb104 ≠ s_.2.2.2) ∧ (s_.2.2.2 ≠ gb104) ∧ (Below w.heap.size w w')) ?_ ?_
    rotate_left
    · intro hJ6_10_11_12
      refine join_ (σ := Value × Value × Nat) 3 #[true, true, true, true, true, true, true, true, true, true, true, true, false, false, false] (fun s_ => [(36, .agg #[.bool t117, s_.1]), (40, .agg #[.bool t121, s_.2.1]), (11, .pointer (some ⟨s_.2.2, 0, none⟩))]) (fun s_ w' => (w'.cell? ⟨gb101, 0, none⟩ = some (.bool a0_0) ∧ w'.cell? ⟨gb101, 1, none⟩ = some (.slice A0_1 l0_1.length c0_1) ∧ w'.cell? ⟨gb102, 0, none⟩ = some (.bool a1_0) ∧ w'.cell? ⟨gb102, 1, none⟩ = some (.slice A1_1 l1_1.length c1_1)) ∧ (Kd.R (Kd.int .u32) 69 w' w.heap.size (fun _ => True) (.slice Ao33 t105.length co33) t105) ∧ (Kd.R (Kd.int .u32) 69 w' w.heap.size (fun _ => True) (.slice Ao32 t108.length co32) t108) ∧ (Kd.R (Kd.int .u32) 69 w' w.heap.size (fun _ => True) (.slice Ao35 t111.length co35) t111) ∧ (Kd.R (Kd.int .u32) 69 w' w.heap.size (fun _ => True) (.slice Ao36 t112.length co36) t112) ∧ (Kd.R (Kd.int .u32) 69 w' w.heap.size (fun _ => True) s_.1 t118) ∧ (Kd.R (Kd.int .u32) 69 w' w.heap.size (fun _ => True) s_.2.1 t122) ∧ (w'.heap[gb101]? = some (.cells #[.bool a0_0, .slice A0_1 l0_1.length c0_1] 40 (0, 0))) ∧ (w'.heap[gb102]? = some (.cells #[.bool a1_0, .slice A1_1 l1_1.length c1_1] 40 (0, 0))) ∧ (w'.heap[gb103]? = some (.cells #[.bool false, .slice none 0 0] 40 (0, 0))) ∧ (w'.heap[gb104]? = some (.cells #[.bool false, .slice none 0 0] 40 (0, 0))) ∧ (w'.heap[s_.2.2]? = some (.cells #[.bool false, .slice none 0 0] 40 (0, 0))) ∧ (w.heap.size ≤ s_.2.2) ∧ (w.heap.size ≤ s_.2.2) ∧ (gb101 ≠ s_.2.2) ∧ (s_.2.2 ≠ gb101) ∧ (gb102 ≠ s_.2.2) ∧ (s_.2.2 ≠ gb102) ∧ (gb103 ≠ s_.2.2) ∧ (s_.2.2 ≠ gb103) ∧ (gb104 ≠ s_.2.2) ∧ (s_.2.2 ≠ gb104) ∧ (Below w.heap.size w w')) ?_ ?_
      rotate_left
      · intro hJ6_10_11
        refine join_ (σ := Value × Value × Nat) 3 #[true, true, true, true, true, true, true, true, true, true, true, false, true, false, false] (fun s_ => [(36, .agg #[.bool t117, s_.1]), (40, .agg #[.bool t121, s_.2.1]), (12, .pointer (some ⟨s_.2.2, 0, none⟩))]) (fun s_ w' => (w'.cell? ⟨gb101, 0, none⟩ = some (.bool a0_0) ∧ w'.cell? ⟨gb101, 1, none⟩ = some (.slice A0_1 l0_1.length c0_1) ∧ w'.cell? ⟨gb102, 0, none⟩ = some (.bool a1_0) ∧ w'.cell? ⟨gb102, 1, none⟩ = some (.slice A1_1 l1_1.length c1_1)) ∧ (Kd.R (Kd.int .u32) 69 w' w.heap.size (fun _ => True) (.slice Ao33 t105.length co33) t105) ∧ (Kd.R (Kd.int .u32) 69 w' w.heap.size (fun _ => True) (.slice Ao32 t108.length co32) t108) ∧ (Kd.R (Kd.int .u32) 69 w' w.heap.size (fun _ => True) (.slice Ao35 t111.length co35) t111) ∧ (Kd.R (Kd.int .u32) 69 w' w.heap.size (fun _ => True) (.slice Ao36 t112.length co36) t112) ∧ (Kd.R (Kd.int .u32) 69 w' w.heap.size (fun _ => True) s_.1 t118) ∧ (Kd.R (Kd.int .u32) 69 w' w.heap.size (fun _ => True) s_.2.1 t122) ∧ (w'.heap[gb101]? = some (.cells #[.bool a0_0, .slice A0_1 l0_1.length c0_1] 40 (0, 0))) ∧ (w'.heap[gb102]? = some (.cells #[.bool a1_0, .slice A1_1 l1_1.length c1_1] 40 (0, 0))) ∧ (w'.heap[gb103]? = some (.cells #[.bool false, .slice none 0 0] 40 (0, 0))) ∧ (w'.heap[gb104]? = some (.cells #[.bool false, .slice none 0 0] 40 (0, 0))) ∧ (w'.heap[s_.2.2]? = some (.cells #[.bool false, .slice none 0 0] 40 (0, 0))) ∧ (w.heap.size ≤ s_.2.2) ∧ (w.heap.size ≤ s_.2.2) ∧ (gb101 ≠ s_.2.2) ∧ (s_.2.2 ≠ gb101) ∧ (gb102 ≠ s_.2.2) ∧ (s_.2.2 ≠ gb102) ∧ (gb103 ≠ s_.2.2) ∧ (s_.2.2 ≠ gb103) ∧ (gb104 ≠ s_.2.2) ∧ (s_.2.2 ≠ gb104) ∧ (Below w.heap.size w w')) ?_ ?_
        rotate_left
        · intro hJ6_10_12
          refine join_ (σ := Value × Nat × Nat) 3 #[true, true, true, true, true, true, true, true, true, true, false, true, true, false, false] (fun s_ => [(36, .agg #[.bool t117, s_.1]), (11, .pointer (some ⟨s_.2.1, 0, none⟩)), (12, .pointer (some ⟨s_.2.2, 0, none⟩))]) (fun s_ w' => (w'.cell? ⟨gb101, 0, none⟩ = some (.bool a0_0) ∧ w'.cell? ⟨gb101, 1, none⟩ = some (.slice A0_1 l0_1.length c0_1) ∧ w'.cell? ⟨gb102, 0, none⟩ = some (.bool a1_0) ∧ w'.cell? ⟨gb102, 1, none⟩ = some (.slice A1_1 l1_1.length c1_1)) ∧ (Kd.R (Kd.int .u32) 69 w' w.heap.size (fun _ => True) (.slice Ao33 t105.length co33) t105) ∧ (Kd.R (Kd.int .u32) 69 w' w.heap.size (fun _ => True) (.slice Ao32 t108.length co32) t108) ∧ (Kd.R (Kd.int .u32) 69 w' w.heap.size (fun _ => True) (.slice Ao35 t111.length co35) t111) ∧ (Kd.R (Kd.int .u32) 69 w' w.heap.size (fun _ => True) (.slice Ao36 t112.length co36) t112) ∧ (Kd.R (Kd.int .u32) 69 w' w.heap.size (fun _ => True) s_.1 t118) ∧ (w'.heap[gb101]? = some (.cells #[.bool a0_0, .slice A0_1 l0_1.length c0_1] 40 (0, 0))) ∧ (w'.heap[gb102]? = some (.cells #[.bool a1_0, .slice A1_1 l1_1.length c1_1] 40 (0, 0))) ∧ (w'.heap[gb103]? = some (.cells #[.bool false, .slice none 0 0] 40 (0, 0))) ∧ (w'.heap[gb104]? = some (.cells #[.bool false, .slice none 0 0] 40 (0, 0))) ∧ (w'.heap[s_.2.1]? = some (.cells #[.bool false, .slice none 0 0] 40 (0, 0))) ∧ (w'.heap[s_.2.2]? = some (.cells #[.bool false, .slice none 0 0] 40 (0, 0))) ∧ (w.heap.size ≤ s_.2.1) ∧ (w.heap.size ≤ s_.2.1) ∧ (gb101 ≠ s_.2.1) ∧ (s_.2.1 ≠ gb101) ∧ (gb102 ≠ s_.2.1) ∧ (s_.2.1 ≠ gb102) ∧ (gb103 ≠ s_.2.1) ∧ (s_.2.1 ≠ gb103) ∧ (gb104 ≠ s_.2.1) ∧ (s_.2.1 ≠ gb104) ∧ (s_.2.2 ≠ s_.2.1) ∧ (s_.2.1 ≠ s_.2.2) ∧ (w.heap.size ≤ s_.2.2) ∧ (w.heap.size ≤ s_.2.2) ∧ (gb101 ≠ s_.2.2) ∧ (s_.2.2 ≠ gb101) ∧ (gb102 ≠ s_.2.2) ∧ (s_.2.2 ≠ gb102) ∧ (gb103 ≠ s_.2.2) ∧ (s_.2.2 ≠ gb103) ∧ (gb104 ≠ s_.2.2) ∧ (s_.2.2 ≠ gb104) ∧ (Below w.heap.size w w')) ?_ ?_
          rotate_left
          · intro hJ6_11_12
            refine join_ (σ := Value × Value) 4 #[true, true, true, true, true, true, true, true, true, true, true, false, false, false, false] (fun s_ => [(36, .agg #[.bool t117, s_.1]), (40, .agg #[.bool t121, s_.2])]) (fun s_ w' => (w'.cell? ⟨gb101, 0, none⟩ = some (.bool a0_0) ∧ w'.cell? ⟨gb101, 1, none⟩ = some (.slice A0_1 l0_1.length c0_1) ∧ w'.cell? ⟨gb102, 0, none⟩ = some (.bool a1_0) ∧ w'.cell? ⟨gb102, 1, none⟩ = some (.slice A1_1 l1_1.length c1_1)) ∧ (Kd.R (Kd.int .u32) 69 w' w.heap.size (fun _ => True) (.slice Ao33 t105.length co33) t105) ∧ (Kd.R (Kd.int .u32) 69 w' w.heap.size (fun _ => True) (.slice Ao32 t108.length co32) t108) ∧ (Kd.R (Kd.int .u32) 69 w' w.heap.size (fun _ => True) (.slice Ao35 t111.length co35) t111) ∧ (Kd.R (Kd.int .u32) 69 w' w.heap.size (fun _ => True) (.slice Ao36 t112.length co36) t112) ∧ (Kd.R (Kd.int .u32) 69 w' w.heap.size (fun _ => True) s_.1 t118) ∧ (Kd.R (Kd.int .u32) 69 w' w.heap.size (fun _ => True) s_.2 t122) ∧ (w'.heap[gb101]? = some (.cells #[.bool a0_0, .slice A0_1 l0_1.length c0_1] 40 (0, 0))) ∧ (w'.heap[gb102]? = some (.cells #[.bool a1_0, .slice A1_1 l1_1.length c1_1] 40 (0, 0))) ∧ (w'.heap[gb103]? = some (.cells #[.bool false, .slice none 0 0] 40 (0, 0))) ∧ (w'.heap[gb104]? = some (.cells #[.bool false, .slice none 0 0] 40 (0, 0))) ∧ (Below w.heap.size w w')) ?_ ?_
            rotate_left
            · intro hJ6_10
              refine join_ (σ := Value × Nat) 4 #[true, true, true, true, true, true, true, true, true, true, false, true, false, false, false] (fun s_ => [(36, .agg #[.bool t117, s_.1]), (11, .pointer (some ⟨s_.2, 0, none⟩))]) (fun s_ w' => (w'.cell? ⟨gb101, 0, none⟩ = some (.bool a0_0) ∧ w'.cell? ⟨gb101, 1, none⟩ = some (.slice A0_1 l0_1.length c0_1) ∧ w'.cell? ⟨gb102, 0, none⟩ = some (.bool a1_0) ∧ w'.cell? ⟨gb102, 1, none⟩ = some (.slice A1_1 l1_1.length c1_1)) ∧ (Kd.R (Kd.int .u32) 69 w' w.heap.size (fun _ => True) (.slice Ao33 t105.length co33) t105) ∧ (Kd.R (Kd.int .u32) 69 w' w.heap.size (fun _ => True) (.slice Ao32 t108.length co32) t108) ∧ (Kd.R (Kd.int .u32) 69 w' w.heap.size (fun _ => True) (.slice Ao35 t111.length co35) t111) ∧ (Kd.R (Kd.int .u32) 69 w' w.heap.size (fun _ => True) (.slice Ao36 t112.length co36) t112) ∧ (Kd.R (Kd.int .u32) 69 w' w.heap.size (fun _ => True) s_.1 t118) ∧ (w'.heap[gb101]? = some (.cells #[.bool a0_0, .slice A0_1 l0_1.length c0_1] 40 (0, 0))) ∧ (w'.heap[gb102]? = some (.cells #[.bool a1_0, .slice A1_1 l1_1.length c1_1] 40 (0, 0))) ∧ (w'.heap[gb103]? = some (.cells #[.bool false, .slice none 0 0] 40 (0, 0))) ∧ (w'.heap[gb104]? = some (.cells #[.bool false, .slice none 0 0] 40 (0, 0))) ∧ (w'.heap[s_.2]? = some (.cells #[.bool false, .slice none 0 0] 40 (0, 0))) ∧ (w.heap.size ≤ s_.2) ∧ (w.heap.size ≤ s_.2) ∧ (gb101 ≠ s_.2) ∧ (s_.2 ≠ gb101) ∧ (gb102 ≠ s_.2) ∧ (s_.2 ≠ gb102) ∧ (gb103 ≠ s_.2) ∧ (s_.2 ≠ gb103) ∧ (gb104 ≠ s_.2) ∧ (s_.2 ≠ gb104) ∧ (Below w.heap.size w w')) ?_ ?_
              rotate_left
              · intro hJ6_11
                refine join_ (σ := Value × Nat) 4 #[true, true, true, true, true, true, true, true, true, true, false, false, true, false, false] (fun s_ => [(36, .agg #[.bool t117, s_.1]), (12, .pointer (some ⟨s_.2, 0, none⟩))]) (fun s_ w' => (w'.cell? ⟨gb101, 0, none⟩ = some (.bool a0_0) ∧ w'.cell? ⟨gb101, 1, none⟩ = some (.slice A0_1 l0_1.length c0_1) ∧ w'.cell? ⟨gb102, 0, none⟩ = some (.bool a1_0) ∧ w'.cell? ⟨gb102, 1, none⟩ = some (.slice A1_1 l1_1.length c1_1)) ∧ (Kd.R (Kd.int .u32) 69 w' w.heap.size (fun _ => True) (.slice Ao33 t105.length co33) t105) ∧ (Kd.R (Kd.int .u32) 69 w' w.heap.size (fun _ => True) (.slice Ao32 t108.length co32) t108) ∧ (Kd.R (Kd.int .u32) 69 w' w.heap.size (fun _ => True) (.slice Ao35 t111.length co35) t111) ∧ (Kd.R (Kd.int .u32) 69 w' w.heap.size (fun _ => True) (.slice Ao36 t112.length co36) t112) ∧ (Kd.R (Kd.int .u32) 69 w' w.heap.size (fun _ => True) s_.1 t118) ∧ (w'.heap[gb101]? = some (.cells #[.bool a0_0, .slice A0_1 l0_1.length c0_1] 40 (0, 0))) ∧ (w'.heap[gb102]? = some (.cells #[.bool a1_0, .slice A1_1 l1_1.length c1_1] 40 (0, 0))) ∧ (w'.heap[gb103]? = some (.cells #[.bool false, .slice none 0 0] 40 (0, 0))) ∧ (w'.heap[gb104]? = some (.cells #[.bool false, .slice none 0 0] 40 (0, 0))) ∧ (w'.heap[s_.2]? = some (.cells #[.bool false, .slice none 0 0] 40 (0, 0))) ∧ (w.heap.size ≤ s_.2) ∧ (w.heap.size ≤ s_.2) ∧ (gb101 ≠ s_.2) ∧ (s_.2 ≠ gb101) ∧ (gb102 ≠ s_.2) ∧ (s_.2 ≠ gb102) ∧ (gb103 ≠ s_.2) ∧ (s_.2 ≠ gb103) ∧ (gb104 ≠ s_.2) ∧ (s_.2 ≠ gb104) ∧ (Below w.heap.size w w')) ?_ ?_
                rotate_left
                · intro hJ6_12
                  refine join_ (σ := Nat × Nat) 4 #[true, true, true, true, true, true, false, true, true, true, false, true, true, false, false] (fun s_ => [(11, .pointer (some ⟨s_.1, 0, none⟩)), (12, .pointer (some ⟨s_.2, 0, none⟩))]) (fun s_ w' => (w'.cell? ⟨gb101, 0, none⟩ = some (.bool a0_0) ∧ w'.cell? ⟨gb101, 1, none⟩ = some (.slice A0_1 l0_1.length c0_1) ∧ w'.cell? ⟨gb102, 0, none⟩ = some (.bool a1_0) ∧ w'.cell? ⟨gb102, 1, none⟩ = some (.slice A1_1 l1_1.length c1_1)) ∧ (Kd.R (Kd.int .u32) 69 w' w.heap.size (fun _ => True) (.slice Ao33 t105.length co33) t105) ∧ (Kd.R (Kd.int .u32) 69 w' w.heap.size (fun _ => True) (.slice Ao32 t108.length co32) t108) ∧ (Kd.R (Kd.int .u32) 69 w' w.heap.size (fun _ => True) (.slice Ao35 t111.length co35) t111) ∧ (Kd.R (Kd.int .u32) 69 w' w.heap.size (fun _ => True) (.slice Ao36 t112.length co36) t112) ∧ (w'.heap[gb101]? = some (.cells #[.bool a0_0, .slice A0_1 l0_1.length c0_1] 40 (0, 0))) ∧ (w'.heap[gb102]? = some (.cells #[.bool a1_0, .slice A1_1 l1_1.length c1_1] 40 (0, 0))) ∧ (w'.heap[gb103]? = some (.cells #[.bool false, .slice none 0 0] 40 (0, 0))) ∧ (w'.heap[gb104]? = some (.cells #[.bool false, .slice none 0 0] 40 (0, 0))) ∧ (w'.heap[s_.1]? = some (.cells #[.bool false, .slice none 0 0] 40 (0, 0))) ∧ (w'.heap[s_.2]? = some (.cells #[.bool false, .slice none 0 0] 40 (0, 0))) ∧ (w.heap.size ≤ s_.1) ∧ (w.heap.size ≤ s_.1) ∧ (gb101 ≠ s_.1) ∧ (s_.1 ≠ gb101) ∧ (gb102 ≠ s_.1) ∧ (s_.1 ≠ gb102) ∧ (gb103 ≠ s_.1) ∧ (s_.1 ≠ gb103) ∧ (gb104 ≠ s_.1) ∧ (s_.1 ≠ gb104) ∧ (s_.2 ≠ s_.1) ∧ (s_.1 ≠ s_.2) ∧ (w.heap.size ≤ s_.2) ∧ (w.heap.size ≤ s_.2) ∧ (gb101 ≠ s_.2) ∧ (s_.2 ≠ gb101) ∧ (gb102 ≠ s_.2) ∧ (s_.2 ≠ gb102) ∧ (gb103 ≠ s_.2) ∧ (s_.2 ≠ gb103) ∧ (gb104 ≠ s_.2) ∧ (s_.2 ≠ gb104) ∧ (Below w.heap.size w w')) ?_ ?_
                  rotate_left
                  · intro hJ11_12
                    refine join_ (σ := Value) 5 #[true, true, true, true, true, true, true, true, true, true, false, false, false, false, false] (fun s_ => [(36, .agg #[.bool t117, s_])]) (fun s_ w' => (w'.cell? ⟨gb101, 0, none⟩ = some (.bool a0_0) ∧ w'.cell? ⟨gb101, 1, none⟩ = some (.slice A0_1 l0_1.length c0_1) ∧ w'.cell? ⟨gb102, 0, none⟩ = some (.bool a1_0) ∧ w'.cell? ⟨gb102, 1, none⟩ = some (.slice A1_1 l1_1.length c1_1)) ∧ (Kd.R (Kd.int .u32) 69 w' w.heap.size (fun _ => True) (.slice Ao33 t105.length co33) t105) ∧ (Kd.R (Kd.int .u32) 69 w' w.heap.size (fun _ => True) (.slice Ao32 t108.length co32) t108) ∧ (Kd.R (Kd.int .u32) 69 w' w.heap.size (fun _ => True) (.slice Ao35 t111.length co35) t111) ∧ (Kd.R (Kd.int .u32) 69 w' w.heap.size (fun _ => True) (.slice Ao36 t112.length co36) t112) ∧ (Kd.R (Kd.int .u32) 69 w' w.heap.size (fun _ => True) s_ t118) ∧ (w'.heap[gb101]? = some (.cells #[.bool a0_0, .slice A0_1 l0_1.length c0_1] 40 (0, 0))) ∧ (w'.heap[gb102]? = some (.cells #[.bool a1_0, .slice A1_1 l1_1.length c1_1] 40 (0, 0))) ∧ (w'.heap[gb103]? = some (.cells #[.bool false, .slice none 0 0] 40 (0, 0))) ∧ (w'.heap[gb104]? = some (.cells #[.bool false, .slice none 0 0] 40 (0, 0))) ∧ (Below w.heap.size w w')) ?_ ?_
                    rotate_left
                    · intro hJ6
                      refine join_ (σ := Nat) 5 #[true, true, true, true, true, true, false, true, true, true, false, true, false, false, false] (fun s_ => [(11, .pointer (some ⟨s_, 0, none⟩))]) (fun s_ w' => (w'.cell? ⟨gb101, 0, none⟩ = some (.bool a0_0) ∧ w'.cell? ⟨gb101, 1, none⟩ = some (.slice A0_1 l0_1.length c0_1) ∧ w'.cell? ⟨gb102, 0, none⟩ = some (.bool a1_0) ∧ w'.cell? ⟨gb102, 1, none⟩ = some (.slice A1_1 l1_1.length c1_1)) ∧ (Kd.R (Kd.int .u32) 69 w' w.heap.size (fun _ => True) (.slice Ao33 t105.length co33) t105) ∧ (Kd.R (Kd.int .u32) 69 w' w.heap.size (fun _ => True) (.slice Ao32 t108.length co32) t108) ∧ (Kd.R (Kd.int .u32) 69 w' w.heap.size (fun _ => True) (.slice Ao35 t111.length co35) t111) ∧ (Kd.R (Kd.int .u32) 69 w' w.heap.size (fun _ => True) (.slice Ao36 t112.length co36) t112) ∧ (w'.heap[gb101]? = some (.cells #[.bool a0_0, .slice A0_1 l0_1.length c0_1] 40 (0, 0))) ∧ (w'.heap[gb102]? = some (.cells #[.bool a1_0, .slice A1_1 l1_1.length c1_1] 40 (0, 0))) ∧ (w'.heap[gb103]? = some (.cells #[.bool false, .slice none 0 0] 40 (0, 0))) ∧ (w'.heap[gb104]? = some (.cells #[.bool false, .slice none 0 0] 40 (0, 0))) ∧ (w'.heap[s_]? = some (.cells #[.bool false, .slice none 0 0] 40 (0, 0))) ∧ (w.heap.size ≤ s_) ∧ (w.heap.size ≤ s_) ∧ (gb101 ≠ s_) ∧ (s_ ≠ gb101) ∧ (gb102 ≠ s_) ∧ (s_ ≠ gb102) ∧ (gb103 ≠ s_) ∧ (s_ ≠ gb103) ∧ (gb104 ≠ s_) ∧ (s_ ≠ gb104) ∧ (Below w.heap.size w w')) ?_ ?_
                      rotate_left
                      · intro hJ11
                        refine join_ (σ := Nat) 5 #[true, true, true, true, true, true, false, true, true, true, false, false, true, false, false] (fun s_ => [(12, .pointer (some ⟨s_, 0, none⟩))]) (fun s_ w' => (w'.cell? ⟨gb101, 0, none⟩ = some (.bool a0_0) ∧ w'.cell? ⟨gb101, 1, none⟩ = some (.slice A0_1 l0_1.length c0_1) ∧ w'.cell? ⟨gb102, 0, none⟩ = some (.bool a1_0) ∧ w'.cell? ⟨gb102, 1, none⟩ = some (.slice A1_1 l1_1.length c1_1)) ∧ (Kd.R (Kd.int .u32) 69 w' w.heap.size (fun _ => True) (.slice Ao33 t105.length co33) t105) ∧ (Kd.R (Kd.int .u32) 69 w' w.heap.size (fun _ => True) (.slice Ao32 t108.length co32) t108) ∧ (Kd.R (Kd.int .u32) 69 w' w.heap.size (fun _ => True) (.slice Ao35 t111.length co35) t111) ∧ (Kd.R (Kd.int .u32) 69 w' w.heap.size (fun _ => True) (.slice Ao36 t112.length co36) t112) ∧ (w'.heap[gb101]? = some (.cells #[.bool a0_0, .slice A0_1 l0_1.length c0_1] 40 (0, 0))) ∧ (w'.heap[gb102]? = some (.cells #[.bool a1_0, .slice A1_1 l1_1.length c1_1] 40 (0, 0))) ∧ (w'.heap[gb103]? = some (.cells #[.bool false, .slice none 0 0] 40 (0, 0))) ∧ (w'.heap[gb104]? = some (.cells #[.bool false, .slice none 0 0] 40 (0, 0))) ∧ (w'.heap[s_]? = some (.cells #[.bool false, .slice none 0 0] 40 (0, 0))) ∧ (w.heap.size ≤ s_) ∧ (w.heap.size ≤ s_) ∧ (gb101 ≠ s_) ∧ (s_ ≠ gb101) ∧ (gb102 ≠ s_) ∧ (s_ ≠ gb102) ∧ (gb103 ≠ s_) ∧ (s_ ≠ gb103) ∧ (gb104 ≠ s_) ∧ (s_ ≠ gb104) ∧ (Below w.heap.size w w')) ?_ ?_
                        rotate_left
                        · intro hJ12
                          refine three_ (i := 6) (j := 11) (k := 12) (Ni := some 36) (Nj := some 11) (Nk := some 12) #[true, true, true, true, true, true, true, true, true, true, false, false, false, false, false] #[true, true, true, true, true, true, false, true, true, true, false, true, false, false, false] #[true, true, true, true, true, true, false, true, true, true, false, false, true, false, false] rfl rfl rfl rfl rfl rfl (three_of HT_.out (by kernel_rfl)) (by decide) (by decide) (by decide) (fun K hK => ?_) (fun K hK => ?_) (fun K hK => ?_)
                          · skip
                            refine goes_ Try.func56 (by kernel_rfl) rfl #[.bool (a0_0 != a1_0), .slice Ao35 t111.length co35] (by rfl) rfl rfl (by (try simp only [List.map_toArray, List.map_cons, List.map_nil]); first | done | rfl | (simp only [List.length_drop, List.length_take]; rfl)) ?_
                            with_reducible refine (quadformref01_Make.calls k (a0_0 != a1_0) _ _ t111 t117 t118 _ ?side1 ?side2 A22.out).mono ?_
                            (case side1 => repeat (first | exact (Kd.R_reads' HO114.out).2.2 | (with_reducible refine Kd.C_alloc ?_ _) | (with_reducible refine Kd.C_drewN ?_ _) | (with_reducible refine Kd.C_drew ?_)))
                            (case side2 => exact (Kd.R_reads' HO114.out).2.1)
                            rintro e w38 ⟨v119, rfl, ho0, hb⟩
                            refine ⟨_, rfl, ?_⟩
                            replace HO107 := Aside0.mk (Kd.R_below (rr HO107.out) hb)
                            replace HO110 := Aside0.mk (Kd.R_below (rr HO110.out) hb)
                            replace HO114 := Aside0.mk (Kd.R_below (rr HO114.out) hb)
                            replace HO116 := Aside0.mk (Kd.R_below (rr HO116.out) hb)
                            have HO120 := Aside0.mk (Kd.R_lower ho0 (below_size bw))
                            replace BK101 := Aside0.mk (bb BK101.out hb)
                            replace BK102 := Aside0.mk (bb BK102.out hb)
                            replace BK103 := Aside0.mk (bb BK103.out hb)
                            replace BK104 := Aside0.mk (bb BK104.out hb)
                            replace HB := Aside0.mk (below_step bw hb)
                            (try clear hb)
                            (try clear hb2)
                            (try clear hk)
                            (try clear hi)
                            (try clear ho0)
                            refine hK.out _ _ ⟨(blk_cell BK101.out 0).trans rfl, (blk_cell BK101.out 1).trans rfl, (blk_cell BK102.out 0).trans rfl, (blk_cell BK102.out 1).trans rfl⟩ (fun hHeld => ?_)
                            clear hK K
                            refine norm_ (a' := ?_) ?_ ?_
                            rotate_left
                            · show Act.put _ (some 36) _ = _
                              simp only [Act.put, List.setIfInBounds_toArray, List.set_cons_zero, List.set_cons_succ, i64_w, i32_w]
                              rfl
                            exact nmp (hJ6 (v119) _ ⟨hHeld, (rr HO107.out), (rr HO110.out), (rr HO114.out), (rr HO116.out), (rr HO120.out), (bk BK101.out), (bk BK102.out), (bk BK103.out), (bk BK104.out), bw⟩)
                          · skip
                            refine box_step ?hg (N := 11) ?hd (cs := #[.bool false, .slice none 0 0]) (t := 40) ?hr ?_; (case hd => rfl); (case hg => rfl); (case hr => first | (go_simp; done) | (go_simp; rfl))
                            intro gb125 hg w38 hbox hb
                            replace HO107 := Aside0.mk (Kd.R_below (rr HO107.out) hb)
                            replace HO110 := Aside0.mk (Kd.R_below (rr HO110.out) hb)
                            replace HO114 := Aside0.mk (Kd.R_below (rr HO114.out) hb)
                            replace HO116 := Aside0.mk (Kd.R_below (rr HO116.out) hb)
                            have BK125 := Aside0.mk (hbox)
                            have GW125 := Aside0.mk ((gsz hg : w.heap.size ≤ gb125))
                            have GE125 := Aside0.mk ((gsz hg : w.heap.size ≤ gb125))
                            replace HB := Aside0.mk (below_step bw hb)
                            have NB101_125 := Aside0.mk (nlt hg BK101.out)
                            have NB125_101 := Aside0.mk (ngt hg BK101.out)
                            replace BK101 := Aside0.mk (bb BK101.out hb)
                            have NB102_125 := Aside0.mk (nlt hg BK102.out)
                            have NB125_102 := Aside0.mk (ngt hg BK102.out)
                            replace BK102 := Aside0.mk (bb BK102.out hb)
                            have NB103_125 := Aside0.mk (nlt hg BK103.out)
                            have NB125_103 := Aside0.mk (ngt hg BK103.out)
                            replace BK103 := Aside0.mk (bb BK103.out hb)
                            have NB104_125 := Aside0.mk (nlt hg BK104.out)
                            have NB125_104 := Aside0.mk (ngt hg BK104.out)
                            replace BK104 := Aside0.mk (bb BK104.out hb)
                            clear hb hbox hg
                            refine hK.out _ _ ⟨(blk_cell BK101.out 0).trans rfl, (blk_cell BK101.out 1).trans rfl, (blk_cell BK102.out 0).trans rfl, (blk_cell BK102.out 1).trans rfl⟩ (fun hHeld => ?_)
                            clear hK K
                            refine norm_ (a' := ?_) ?_ ?_
                            rotate_left
                            · show Act.put _ (some 11) _ = _
                              simp only [Act.put, List.setIfInBounds_toArray, List.set_cons_zero, List.set_cons_succ, i64_w, i32_w]
                              rfl
                            exact nmp (hJ11 (gb125) _ ⟨hHeld, (rr HO107.out), (rr HO110.out), (rr HO114.out), (rr HO116.out), (bk BK101.out), (bk BK102.out), (bk BK103.out), (bk BK104.out), (bk BK125.out), GW125.out, GE125.out, NB101_125.out, NB125_101.out, NB102_125.out, NB125_102.out, NB103_125.out, NB125_103.out, NB104_125.out, NB125_104.out, bw⟩)
                          · skip
                            refine box_step ?hg (N := 12) ?hd (cs := #[.bool false, .slice none 0 0]) (t := 40) ?hr ?_; (case hd => rfl); (case hg => rfl); (case hr => first | (go_simp; done) | (go_simp; rfl))
                            intro gb126 hg w38 hbox hb
                            replace HO107 := Aside0.mk (Kd.R_below (rr HO107.out) hb)
                            replace HO110 := Aside0.mk (Kd.R_below (rr HO110.out) hb)
                            replace HO114 := Aside0.mk (Kd.R_below (rr HO114.out) hb)
                            replace HO116 := Aside0.mk (Kd.R_below (rr HO116.out) hb)
                            have BK126 := Aside0.mk (hbox)
                            have GW126 := Aside0.mk ((gsz hg : w.heap.size ≤ gb126))
                            have GE126 := Aside0.mk ((gsz hg : w.heap.size ≤ gb126))
                            replace HB := Aside0.mk (below_step bw hb)
                            have NB101_126 := Aside0.mk (nlt hg BK101.out)
                            have NB126_101 := Aside0.mk (ngt hg BK101.out)
                            replace BK101 := Aside0.mk (bb BK101.out hb)
                            have NB102_126 := Aside0.mk (nlt hg BK102.out)
                            have NB126_102 := Aside0.mk (ngt hg BK102.out)
                            replace BK102 := Aside0.mk (bb BK102.out hb)
                            have NB103_126 := Aside0.mk (nlt hg BK103.out)
                            have NB126_103 := Aside0.mk (ngt hg BK103.out)
                            replace BK103 := Aside0.mk (bb BK103.out hb)
                            have NB104_126 := Aside0.mk (nlt hg BK104.out)
                            have NB126_104 := Aside0.mk (ngt hg BK104.out)
                            replace BK104 := Aside0.mk (bb BK104.out hb)
                            clear hb hbox hg
                            refine hK.out _ _ ⟨(blk_cell BK101.out 0).trans rfl, (blk_cell BK101.out 1).trans rfl, (blk_cell BK102.out 0).trans rfl, (blk_cell BK102.out 1).trans rfl⟩ (fun hHeld => ?_)
                            clear hK K
                            refine norm_ (a' := ?_) ?_ ?_
                            rotate_left
                            · show Act.put _ (some 12) _ = _
                              simp only [Act.put, List.setIfInBounds_toArray, List.set_cons_zero, List.set_cons_succ, i64_w, i32_w]
                              rfl
                            exact nmp (hJ12 (gb126) _ ⟨hHeld, (rr HO107.out), (rr HO110.out), (rr HO114.out), (rr HO116.out), (bk BK101.out), (bk BK102.out), (bk BK103.out), (bk BK104.out), (bk BK126.out), GW126.out, GE126.out, NB101_126.out, NB126_101.out, NB102_126.out, NB126_102.out, NB103_126.out, NB126_103.out, NB104_126.out, NB126_104.out, bw⟩)
                        · skip
                          rintro gb126 w39 ⟨hS_, h0_, h1_, h2_, h3_, h4_, h5_, h6_, h7_, h8_, h9_, h10_, h11_, h12_, h13_, h14_, h15_, h16_, h17_, h18_, h19_⟩
                          (try dsimp only at h0_ h1_ h2_ h3_ h4_ h5_ h6_ h7_ h8_ h9_ h10_ h11_ h12_ h13_ h14_ h15_ h16_ h17_ h18_ h19_)
                          replace HO107 := Aside0.mk h0_
                          replace HO110 := Aside0.mk h1_
                          replace HO114 := Aside0.mk h2_
                          replace HO116 := Aside0.mk h3_
                          replace BK101 := Aside0.mk h4_
                          replace BK102 := Aside0.mk h5_
                          replace BK103 := Aside0.mk h6_
                          replace BK104 := Aside0.mk h7_
                          have BK126 := Aside0.mk h8_
                          have GW126 := Aside0.mk h9_
                          have GE126 := Aside0.mk h10_
                          have NB101_126 := Aside0.mk h11_
                          have NB126_101 := Aside0.mk h12_
                          have NB102_126 := Aside0.mk h13_
                          have NB126_102 := Aside0.mk h14_
                          have NB103_126 := Aside0.mk h15_
                          have NB126_103 := Aside0.mk h16_
                          have NB104_126 := Aside0.mk h17_
                          have NB126_104 := Aside0.mk h18_
                          replace HB := Aside0.mk h19_
                          clear h0_ h1_ h2_ h3_ h4_ h5_ h6_ h7_ h8_ h9_ h10_ h11_ h12_ h13_ h14_ h15_ h16_ h17_ h18_ h19_
                          have hHeld : w39.cell? ⟨gb101, 0, none⟩ = some (.bool a0_0) ∧ w39.cell? ⟨gb101, 1, none⟩ = some (.slice A0_1 l0_1.length c0_1) ∧ w39.cell? ⟨gb102, 0, none⟩ = some (.bool a1_0) ∧ w39.cell? ⟨gb102, 1, none⟩ = some (.slice A1_1 l1_1.length c1_1) := hS_
                          refine norm_ (a' := ?_) ?_ ?_
                          rotate_left
                          · simp only [putAll, Act.put, List.setIfInBounds_toArray, List.set_cons_zero, List.set_cons_succ]
                            rfl
                          refine two_ (i := 6) (j := 11) (Ni := some 36) (Nj := some 11) #[true, true, true, true, true, true, true, true, true, true, false, false, true, false, false] #[true, true, true, true, true, true, false, true, true, true, false, true, true, false, false] rfl rfl rfl rfl (two_of HT_.out (by kernel_rfl)) (by decide) (by decide) (fun K hK => ?_) (fun K hK => ?_)
                          · skip
                            refine goes_ Try.func56 (by kernel_rfl) rfl #[.bool (a0_0 != a1_0), .slice Ao35 t111.length co35] (by rfl) rfl rfl (by (try simp only [List.map_toArray, List.map_cons, List.map_nil]); first | done | rfl | (simp only [List.length_drop, List.length_take]; rfl)) ?_
                            with_reducible refine (quadformref01_Make.calls k (a0_0 != a1_0) _ _ t111 t117 t118 _ ?side1 ?side2 A22.out).mono ?_
                            (case side1 => repeat (first | exact (Kd.R_reads' HO114.out).2.2 | (with_reducible refine Kd.C_alloc ?_ _) | (with_reducible refine Kd.C_drewN ?_ _) | (with_reducible refine Kd.C_drew ?_)))
                            (case side2 => exact (Kd.R_reads' HO114.out).2.1)
                            rintro e w40 ⟨v119, rfl, ho0, hb⟩
                            refine ⟨_, rfl, ?_⟩
                            replace HO107 := Aside0.mk (Kd.R_below (rr HO107.out) hb)
                            replace HO110 := Aside0.mk (Kd.R_below (rr HO110.out) hb)
                            replace HO114 := Aside0.mk (Kd.R_below (rr HO114.out) hb)
                            replace HO116 := Aside0.mk (Kd.R_below (rr HO116.out) hb)
                            have HO120 := Aside0.mk (Kd.R_lower ho0 (below_size bw))
                            replace BK101 := Aside0.mk (bb BK101.out hb)
                            replace BK102 := Aside0.mk (bb BK102.out hb)
                            replace BK103 := Aside0.mk (bb BK103.out hb)
                            replace BK104 := Aside0.mk (bb BK104.out hb)
                            replace BK126 := Aside0.mk (bb BK126.out hb)
                            replace HB := Aside0.mk (below_step bw hb)
                            (try clear hb)
                            (try clear hb2)
                            (try clear hk)
                            (try clear hi)
                            (try clear ho0)
                            refine hK.out _ _ ⟨(blk_cell BK101.out 0).trans rfl, (blk_cell BK101.out 1).trans rfl, (blk_cell BK102.out 0).trans rfl, (blk_cell BK102.out 1).trans rfl⟩ (fun hHeld => ?_)
                            clear hK K
                            refine norm_ (a' := ?_) ?_ ?_
                            rotate_left
                            · show Act.put _ (some 36) _ = _
                              simp only [Act.put, List.setIfInBounds_toArray, List.set_cons_zero, List.set_cons_succ, i64_w, i32_w]
                              rfl
                            exact nmp (hJ6_12 (v119, gb126) _ ⟨hHeld, (rr HO107.out), (rr HO110.out), (rr HO114.out), (rr HO116.out), (rr HO120.out), (bk BK101.out), (bk BK102.out), (bk BK103.out), (bk BK104.out), (bk BK126.out), GW126.out, GE126.out, NB101_126.out, NB126_101.out, NB102_126.out, NB126_102.out, NB103_126.out, NB126_103.out, NB104_126.out, NB126_104.out, bw⟩)
                          · skip
                            refine box_step ?hg (N := 11) ?hd (cs := #[.bool false, .slice none 0 0]) (t := 40) ?hr ?_; (case hd => rfl); (case hg => rfl); (case hr => first | (go_simp; done) | (go_simp; rfl))
                            intro gb125 hg w40 hbox hb
                            replace HO107 := Aside0.mk (Kd.R_below (rr HO107.out) hb)
                            replace HO110 := Aside0.mk (Kd.R_below (rr HO110.out) hb)
                            replace HO114 := Aside0.mk (Kd.R_below (rr HO114.out) hb)
                            replace HO116 := Aside0.mk (Kd.R_below (rr HO116.out) hb)
                            have BK125 := Aside0.mk (hbox)
                            have GW125 := Aside0.mk ((gsz hg : w.heap.size ≤ gb125))
                            have GE125 := Aside0.mk ((gsz hg : w.heap.size ≤ gb125))
                            replace HB := Aside0.mk (below_step bw hb)
                            have NB101_125 := Aside0.mk (nlt hg BK101.out)
                            have NB125_101 := Aside0.mk (ngt hg BK101.out)
                            replace BK101 := Aside0.mk (bb BK101.out hb)
                            have NB102_125 := Aside0.mk (nlt hg BK102.out)
                            have NB125_102 := Aside0.mk (ngt hg BK102.out)
                            replace BK102 := Aside0.mk (bb BK102.out hb)
                            have NB103_125 := Aside0.mk (nlt hg BK103.out)
                            have NB125_103 := Aside0.mk (ngt hg BK103.out)
                            replace BK103 := Aside0.mk (bb BK103.out hb)
                            have NB104_125 := Aside0.mk (nlt hg BK104.out)
                            have NB125_104 := Aside0.mk (ngt hg BK104.out)
                            replace BK104 := Aside0.mk (bb BK104.out hb)
                            have NB126_125 := Aside0.mk (nlt hg BK126.out)
                            have NB125_126 := Aside0.mk (ngt hg BK126.out)
                            replace BK126 := Aside0.mk (bb BK126.out hb)
                            clear hb hbox hg
                            refine hK.out _ _ ⟨(blk_cell BK101.out 0).trans rfl, (blk_cell BK101.out 1).trans rfl, (blk_cell BK102.out 0).trans rfl, (blk_cell BK102.out 1).trans rfl⟩ (fun hHeld => ?_)
                            clear hK K
                            refine norm_ (a' := ?_) ?_ ?_
                            rotate_left
                            · show Act.put _ (some 11) _ = _
                              simp only [Act.put, List.setIfInBounds_toArray, List.set_cons_zero, List.set_cons_succ, i64_w, i32_w]
                              rfl
                            exact nmp (hJ11_12 (gb125, gb126) _ ⟨hHeld, (rr HO107.out), (rr HO110.out), (rr HO114.out), (rr HO116.out), (bk BK101.out), (bk BK102.out), (bk BK103.out), (bk BK104.out), (bk BK125.out), (bk BK126.out), GW125.out, GE125.out, NB101_125.out, NB125_101.out, NB102_125.out, NB125_102.out, NB103_125.out, NB125_103.out, NB104_125.out, NB125_104.out, NB126_125.out, NB125_126.out, GW126.out, GE126.out, NB101_126.out, NB126_101.out, NB102_126.out, NB126_102.out, NB103_126.out, NB126_103.out, NB104_126.out, NB126_104.out, bw⟩)
                      · skip
                        rintro gb125 w39 ⟨hS_, h0_, h1_, h2_, h3_, h4_, h5_, h6_, h7_, h8_, h9_, h10_, h11_, h12_, h13_, h14_, h15_, h16_, h17_, h18_, h19_⟩
                        (try dsimp only at h0_ h1_ h2_ h3_ h4_ h5_ h6_ h7_ h8_ h9_ h10_ h11_ h12_ h13_ h14_ h15_ h16_ h17_ h18_ h19_)
                        replace HO107 := Aside0.mk h0_
                        replace HO110 := Aside0.mk h1_
                        replace HO114 := Aside0.mk h2_
                        replace HO116 := Aside0.mk h3_
                        replace BK101 := Aside0.mk h4_
                        replace BK102 := Aside0.mk h5_
                        replace BK103 := Aside0.mk h6_
                        replace BK104 := Aside0.mk h7_
                        have BK125 := Aside0.mk h8_
                        have GW125 := Aside0.mk h9_
                        have GE125 := Aside0.mk h10_
                        have NB101_125 := Aside0.mk h11_
                        have NB125_101 := Aside0.mk h12_
                        have NB102_125 := Aside0.mk h13_
                        have NB125_102 := Aside0.mk h14_
                        have NB103_125 := Aside0.mk h15_
                        have NB125_103 := Aside0.mk h16_
                        have NB104_125 := Aside0.mk h17_
                        have NB125_104 := Aside0.mk h18_
                        replace HB := Aside0.mk h19_
                        clear h0_ h1_ h2_ h3_ h4_ h5_ h6_ h7_ h8_ h9_ h10_ h11_ h12_ h13_ h14_ h15_ h16_ h17_ h18_ h19_
                        have hHeld : w39.cell? ⟨gb101, 0, none⟩ = some (.bool a0_0) ∧ w39.cell? ⟨gb101, 1, none⟩ = some (.slice A0_1 l0_1.length c0_1) ∧ w39.cell? ⟨gb102, 0, none⟩ = some (.bool a1_0) ∧ w39.cell? ⟨gb102, 1, none⟩ = some (.slice A1_1 l1_1.length c1_1) := hS_
                        refine norm_ (a' := ?_) ?_ ?_
                        rotate_left
                        · simp only [putAll, Act.put, List.setIfInBounds_toArray, List.set_cons_zero, List.set_cons_succ]
                          rfl
                        refine two_ (i := 6) (j := 12) (Ni := some 36) (Nj := some 12) #[true, true, true, true, true, true, true, true, true, true, false, true, false, false, false] #[true, true, true, true, true, true, false, true, true, true, false, true, true, false, false] rfl rfl rfl rfl (two_of HT_.out (by kernel_rfl)) (by decide) (by decide) (fun K hK => ?_) (fun K hK => ?_)
                        · skip
                          refine goes_ Try.func56 (by kernel_rfl) rfl #[.bool (a0_0 != a1_0), .slice Ao35 t111.length co35] (by rfl) rfl rfl (by (try simp only [List.map_toArray, List.map_cons, List.map_nil]); first | done | rfl | (simp only [List.length_drop, List.length_take]; rfl)) ?_
                          with_reducible refine (quadformref01_Make.calls k (a0_0 != a1_0) _ _ t111 t117 t118 _ ?side1 ?side2 A22.out).mono ?_
                          (case side1 => repeat (first | exact (Kd.R_reads' HO114.out).2.2 | (with_reducible refine Kd.C_alloc ?_ _) | (with_reducible refine Kd.C_drewN ?_ _) | (with_reducible refine Kd.C_drew ?_)))
                          (case side2 => exact (Kd.R_reads' HO114.out).2.1)
                          rintro e w40 ⟨v119, rfl, ho0, hb⟩
                          refine ⟨_, rfl, ?_⟩
                          replace HO107 := Aside0.mk (Kd.R_below (rr HO107.out) hb)
                          replace HO110 := Aside0.mk (Kd.R_below (rr HO110.out) hb)
                          replace HO114 := Aside0.mk (Kd.R_below (rr HO114.out) hb)
                          replace HO116 := Aside0.mk (Kd.R_below (rr HO116.out) hb)
                          have HO120 := Aside0.mk (Kd.R_lower ho0 (below_size bw))
                          replace BK101 := Aside0.mk (bb BK101.out hb)
                          replace BK102 := Aside0.mk (bb BK102.out hb)
                          replace BK103 := Aside0.mk (bb BK103.out hb)
                          replace BK104 := Aside0.mk (bb BK104.out hb)
                          replace BK125 := Aside0.mk (bb BK125.out hb)
                          replace HB := Aside0.mk (below_step bw hb)
                          (try clear hb)
                          (try clear hb2)
                          (try clear hk)
                          (try clear hi)
                          (try clear ho0)
                          refine hK.out _ _ ⟨(blk_cell BK101.out 0).trans rfl, (blk_cell BK101.out 1).trans rfl, (blk_cell BK102.out 0).trans rfl, (blk_cell BK102.out 1).trans rfl⟩ (fun hHeld => ?_)
                          clear hK K
                          refine norm_ (a' := ?_) ?_ ?_
                          rotate_left
                          · show Act.put _ (some 36) _ = _
                            simp only [Act.put, List.setIfInBounds_toArray, List.set_cons_zero, List.set_cons_succ, i64_w, i32_w]
                            rfl
                          exact nmp (hJ6_11 (v119, gb125) _ ⟨hHeld, (rr HO107.out), (rr HO110.out), (rr HO114.out), (rr HO116.out), (rr HO120.out), (bk BK101.out), (bk BK102.out), (bk BK103.out), (bk BK104.out), (bk BK125.out), GW125.out, GE125.out, NB101_125.out, NB125_101.out, NB102_125.out, NB125_102.out, NB103_125.out, NB125_103.out, NB104_125.out, NB125_104.out, bw⟩)
                        · skip
                          refine box_step ?hg (N := 12) ?hd (cs := #[.bool false, .slice none 0 0]) (t := 40) ?hr ?_; (case hd => rfl); (case hg => rfl); (case hr => first | (go_simp; done) | (go_simp; rfl))
                          intro gb126 hg w40 hbox hb
                          replace HO107 := Aside0.mk (Kd.R_below (rr HO107.out) hb)
                          replace HO110 := Aside0.mk (Kd.R_below (rr HO110.out) hb)
                          replace HO114 := Aside0.mk (Kd.R_below (rr HO114.out) hb)
                          replace HO116 := Aside0.mk (Kd.R_below (rr HO116.out) hb)
                          have BK126 := Aside0.mk (hbox)
                          have GW126 := Aside0.mk ((gsz hg : w.heap.size ≤ gb126))
                          have GE126 := Aside0.mk ((gsz hg : w.heap.size ≤ gb126))
                          replace HB := Aside0.mk (below_step bw hb)
                          have NB101_126 := Aside0.mk (nlt hg BK101.out)
                          have NB126_101 := Aside0.mk (ngt hg BK101.out)
                          replace BK101 := Aside0.mk (bb BK101.out hb)
                          have NB102_126 := Aside0.mk (nlt hg BK102.out)
                          have NB126_102 := Aside0.mk (ngt hg BK102.out)
                          replace BK102 := Aside0.mk (bb BK102.out hb)
                          have NB103_126 := Aside0.mk (nlt hg BK103.out)
                          have NB126_103 := Aside0.mk (ngt hg BK103.out)
                          replace BK103 := Aside0.mk (bb BK103.out hb)
                          have NB104_126 := Aside0.mk (nlt hg BK104.out)
                          have NB126_104 := Aside0.mk (ngt hg BK104.out)
                          replace BK104 := Aside0.mk (bb BK104.out hb)
                          have NB125_126 := Aside0.mk (nlt hg BK125.out)
                          have NB126_125 := Aside0.mk (ngt hg BK125.out)
                          replace BK125 := Aside0.mk (bb BK125.out hb)
                          clear hb hbox hg
                          refine hK.out _ _ ⟨(blk_cell BK101.out 0).trans rfl, (blk_cell BK101.out 1).trans rfl, (blk_cell BK102.out 0).trans rfl, (blk_cell BK102.out 1).trans rfl⟩ (fun hHeld => ?_)
                          clear hK K
                          refine norm_ (a' := ?_) ?_ ?_
                          rotate_left
                          · show Act.put _ (some 12) _ = _
                            simp only [Act.put, List.setIfInBounds_toArray, List.set_cons_zero, List.set_cons_succ, i64_w, i32_w]
                            rfl
                          exact nmp (hJ11_12 (gb125, gb126) _ ⟨hHeld, (rr HO107.out), (rr HO110.out), (rr HO114.out), (rr HO116.out), (bk BK101.out), (bk BK102.out), (bk BK103.out), (bk BK104.out), (bk BK125.out), (bk BK126.out), GW125.out, GE125.out, NB101_125.out, NB125_101.out, NB102_125.out, NB125_102.out, NB103_125.out, NB125_103.out, NB104_125.out, NB125_104.out, NB126_125.out, NB125_126.out, GW126.out, GE126.out, NB101_126.out, NB126_101.out, NB102_126.out, NB126_102.out, NB103_126.out, NB126_103.out, NB104_126.out, NB126_104.out, bw⟩)
                    · skip
                      rintro v119 w39 ⟨hS_, h0_, h1_, h2_, h3_, h4_, h5_, h6_, h7_, h8_, h9_⟩
                      (try dsimp only at h0_ h1_ h2_ h3_ h4_ h5_ h6_ h7_ h8_ h9_)
                      replace HO107 := Aside0.mk h0_
                      replace HO110 := Aside0.mk h1_
                      replace HO114 := Aside0.mk h2_
                      replace HO116 := Aside0.mk h3_
                      have HO120 := Aside0.mk h4_
                      replace BK101 := Aside0.mk h5_
                      replace BK102 := Aside0.mk h6_
                      replace BK103 := Aside0.mk h7_
                      replace BK104 := Aside0.mk h8_
                      replace HB := Aside0.mk h9_
                      clear h0_ h1_ h2_ h3_ h4_ h5_ h6_ h7_ h8_ h9_
                      have hHeld : w39.cell? ⟨gb101, 0, none⟩ = some (.bool a0_0) ∧ w39.cell? ⟨gb101, 1, none⟩ = some (.slice A0_1 l0_1.length c0_1) ∧ w39.cell? ⟨gb102, 0, none⟩ = some (.bool a1_0) ∧ w39.cell? ⟨gb102, 1, none⟩ = some (.slice A1_1 l1_1.length c1_1) := hS_
                      refine norm_ (a' := ?_) ?_ ?_
                      rotate_left
                      · simp only [putAll, Act.put, List.setIfInBounds_toArray, List.set_cons_zero, List.set_cons_succ]
                        rfl
                      refine three_ (i := 10) (j := 11) (k := 12) (Ni := some 40) (Nj := some 11) (Nk := some 12) #[true, true, true, true, true, true, true, true, true, true, true, false, false, false, false] #[true, true, true, true, true, true, true, true, true, true, false, true, false, false, false] #[true, true, true, true, true, true, true, true, true, true, false, false, true, false, false] rfl rfl rfl rfl rfl rfl (three_of HT_.out (by kernel_rfl)) (by decide) (by decide) (by decide) (fun K hK => ?_) (fun K hK => ?_) (fun K hK => ?_)
                      · skip
                        refine goes_ Try.func56 (by kernel_rfl) rfl #[.bool a0_0, .slice Ao36 t112.length co36] (by rfl) rfl rfl (by (try simp only [List.map_toArray, List.map_cons, List.map_nil]); first | done | rfl | (simp only [List.length_drop, List.length_take]; rfl)) ?_
                        with_reducible refine (quadformref01_Make.calls k a0_0 _ _ t112 t121 t122 _ ?side1 ?side2 A23.out).mono ?_
                        (case side1 => repeat (first | exact (Kd.R_reads' HO116.out).2.2 | (with_reducible refine Kd.C_alloc ?_ _) | (with_reducible refine Kd.C_drewN ?_ _) | (with_reducible refine Kd.C_drew ?_)))
                        (case side2 => exact (Kd.R_reads' HO116.out).2.1)
                        rintro e w40 ⟨v123, rfl, ho0, hb⟩
                        refine ⟨_, rfl, ?_⟩
                        replace HO107 := Aside0.mk (Kd.R_below (rr HO107.out) hb)
                        replace HO110 := Aside0.mk (Kd.R_below (rr HO110.out) hb)
                        replace HO114 := Aside0.mk (Kd.R_below (rr HO114.out) hb)
                        replace HO116 := Aside0.mk (Kd.R_below (rr HO116.out) hb)
                        replace HO120 := Aside0.mk (Kd.R_below (rr HO120.out) hb)
                        have HO124 := Aside0.mk (Kd.R_lower ho0 (below_size bw))
                        replace BK101 := Aside0.mk (bb BK101.out hb)
                        replace BK102 := Aside0.mk (bb BK102.out hb)
                        replace BK103 := Aside0.mk (bb BK103.out hb)
                        replace BK104 := Aside0.mk (bb BK104.out hb)
                        replace HB := Aside0.mk (below_step bw hb)
                        (try clear hb)
                        (try clear hb2)
                        (try clear hk)
                        (try clear hi)
                        (try clear ho0)
                        refine hK.out _ _ ⟨(blk_cell BK101.out 0).trans rfl, (blk_cell BK101.out 1).trans rfl, (blk_cell BK102.out 0).trans rfl, (blk_cell BK102.out 1).trans rfl⟩ (fun hHeld => ?_)
                        clear hK K
                        refine norm_ (a' := ?_) ?_ ?_
                        rotate_left
                        · show Act.put _ (some 40) _ = _
                          simp only [Act.put, List.setIfInBounds_toArray, List.set_cons_zero, List.set_cons_succ, i64_w, i32_w]
                          rfl
                        exact nmp (hJ6_10 (v119, v123) _ ⟨hHeld, (rr HO107.out), (rr HO110.out), (rr HO114.out), (rr HO116.out), (rr HO120.out), (rr HO124.out), (bk BK101.out), (bk BK102.out), (bk BK103.out), (bk BK104.out), bw⟩)
                      · skip
                        refine box_step ?hg (N := 11) ?hd (cs := #[.bool false, .slice none 0 0]) (t := 40) ?hr ?_; (case hd => rfl); (case hg => rfl); (case hr => first | (go_simp; done) | (go_simp; rfl))
                        intro gb125 hg w40 hbox hb
                        replace HO107 := Aside0.mk (Kd.R_below (rr HO107.out) hb)
                        replace HO110 := Aside0.mk (Kd.R_below (rr HO110.out) hb)
                        replace HO114 := Aside0.mk (Kd.R_below (rr HO114.out) hb)
                        replace HO116 := Aside0.mk (Kd.R_below (rr HO116.out) hb)
                        replace HO120 := Aside0.mk (Kd.R_below (rr HO120.out) hb)
                        have BK125 := Aside0.mk (hbox)
                        have GW125 := Aside0.mk ((gsz hg : w.heap.size ≤ gb125))
                        have GE125 := Aside0.mk ((gsz hg : w.heap.size ≤ gb125))
                        replace HB := Aside0.mk (below_step bw hb)
                        have NB101_125 := Aside0.mk (nlt hg BK101.out)
                        have NB125_101 := Aside0.mk (ngt hg BK101.out)
                        replace BK101 := Aside0.mk (bb BK101.out hb)
                        have NB102_125 := Aside0.mk (nlt hg BK102.out)
                        have NB125_102 := Aside0.mk (ngt hg BK102.out)
                        replace BK102 := Aside0.mk (bb BK102.out hb)
                        have NB103_125 := Aside0.mk (nlt hg BK103.out)
                        have NB125_103 := Aside0.mk (ngt hg BK103.out)
                        replace BK103 := Aside0.mk (bb BK103.out hb)
                        have NB104_125 := Aside0.mk (nlt hg BK104.out)
                        have NB125_104 := Aside0.mk (ngt hg BK104.out)
                        replace BK104 := Aside0.mk (bb BK104.out hb)
                        clear hb hbox hg
                        refine hK.out _ _ ⟨(blk_cell BK101.out 0).trans rfl, (blk_cell BK101.out 1).trans rfl, (blk_cell BK102.out 0).trans rfl, (blk_cell BK102.out 1).trans rfl⟩ (fun hHeld => ?_)
                        clear hK K
                        refine norm_ (a' := ?_) ?_ ?_
                        rotate_left
                        · show Act.put _ (some 11) _ = _
                          simp only [Act.put, List.setIfInBounds_toArray, List.set_cons_zero, List.set_cons_succ, i64_w, i32_w]
                          rfl
                        exact nmp (hJ6_11 (v119, gb125) _ ⟨hHeld, (rr HO107.out), (rr HO110.out), (rr HO114.out), (rr HO116.out), (rr HO120.out), (bk BK101.out), (bk BK102.out), (bk BK103.out), (bk BK104.out), (bk BK125.out), GW125.out, GE125.out, NB101_125.out, NB125_101.out, NB102_125.out, NB125_102.out, NB103_125.out, NB125_103.out, NB104_125.out, NB125_104.out, bw⟩)
                      · skip
                        refine box_step ?hg (N := 12) ?hd (cs := #[.bool false, .slice none 0 0]) (t := 40) ?hr ?_; (case hd => rfl); (case hg => rfl); (case hr => first | (go_simp; done) | (go_simp; rfl))
                        intro gb126 hg w40 hbox hb
                        replace HO107 := Aside0.mk (Kd.R_below (rr HO107.out) hb)
                        replace HO110 := Aside0.mk (Kd.R_below (rr HO110.out) hb)
                        replace HO114 := Aside0.mk (Kd.R_below (rr HO114.out) hb)
                        replace HO116 := Aside0.mk (Kd.R_below (rr HO116.out) hb)
                        replace HO120 := Aside0.mk (Kd.R_below (rr HO120.out) hb)
                        have BK126 := Aside0.mk (hbox)
                        have GW126 := Aside0.mk ((gsz hg : w.heap.size ≤ gb126))
                        have GE126 := Aside0.mk ((gsz hg : w.heap.size ≤ gb126))
                        replace HB := Aside0.mk (below_step bw hb)
                        have NB101_126 := Aside0.mk (nlt hg BK101.out)
                        have NB126_101 := Aside0.mk (ngt hg BK101.out)
                        replace BK101 := Aside0.mk (bb BK101.out hb)
                        have NB102_126 := Aside0.mk (nlt hg BK102.out)
                        have NB126_102 := Aside0.mk (ngt hg BK102.out)
                        replace BK102 := Aside0.mk (bb BK102.out hb)
                        have NB103_126 := Aside0.mk (nlt hg BK103.out)
                        have NB126_103 := Aside0.mk (ngt hg BK103.out)
                        replace BK103 := Aside0.mk (bb BK103.out hb)
                        have NB104_126 := Aside0.mk (nlt hg BK104.out)
                        have NB126_104 := Aside0.mk (ngt hg BK104.out)
                        replace BK104 := Aside0.mk (bb BK104.out hb)
                        clear hb hbox hg
                        refine hK.out _ _ ⟨(blk_cell BK101.out 0).trans rfl, (blk_cell BK101.out 1).trans rfl, (blk_cell BK102.out 0).trans rfl, (blk_cell BK102.out 1).trans rfl⟩ (fun hHeld => ?_)
                        clear hK K
                        refine norm_ (a' := ?_) ?_ ?_
                        rotate_left
                        · show Act.put _ (some 12) _ = _
                          simp only [Act.put, List.setIfInBounds_toArray, List.set_cons_zero, List.set_cons_succ, i64_w, i32_w]
                          rfl
                        exact nmp (hJ6_12 (v119, gb126) _ ⟨hHeld, (rr HO107.out), (rr HO110.out), (rr HO114.out), (rr HO116.out), (rr HO120.out), (bk BK101.out), (bk BK102.out), (bk BK103.out), (bk BK104.out), (bk BK126.out), GW126.out, GE126.out, NB101_126.out, NB126_101.out, NB102_126.out, NB126_102.out, NB103_126.out, NB126_103.out, NB104_126.out, NB126_104.out, bw⟩)
                  · skip
                    rintro ⟨gb125, gb126⟩ w40 ⟨hS_, h0_, h1_, h2_, h3_, h4_, h5_, h6_, h7_, h8_, h9_, h10_, h11_, h12_, h13_, h14_, h15_, h16_, h17_, h18_, h19_, h20_, h21_, h22_, h23_, h24_, h25_, h26_, h27_, h28_, h29_, h30_, h31_, h32_⟩
                    (try dsimp only at h0_ h1_ h2_ h3_ h4_ h5_ h6_ h7_ h8_ h9_ h10_ h11_ h12_ h13_ h14_ h15_ h16_ h17_ h18_ h19_ h20_ h21_ h22_ h23_ h24_ h25_ h26_ h27_ h28_ h29_ h30_ h31_ h32_)
                    replace HO107 := Aside0.mk h0_
                    replace HO110 := Aside0.mk h1_
                    replace HO114 := Aside0.mk h2_
                    replace HO116 := Aside0.mk h3_
                    replace BK101 := Aside0.mk h4_
                    replace BK102 := Aside0.mk h5_
                    replace BK103 := Aside0.mk h6_
                    replace BK104 := Aside0.mk h7_
                    have BK125 := Aside0.mk h8_
                    have BK126 := Aside0.mk h9_
                    have GW125 := Aside0.mk h10_
                    have GE125 := Aside0.mk h11_
                    have NB101_125 := Aside0.mk h12_
                    have NB125_101 := Aside0.mk h13_
                    have NB102_125 := Aside0.mk h14_
                    have NB125_102 := Aside0.mk h15_
                    have NB103_125 := Aside0.mk h16_
                    have NB125_103 := Aside0.mk h17_
                    have NB104_125 := Aside0.mk h18_
                    have NB125_104 := Aside0.mk h19_
                    have NB126_125 := Aside0.mk h20_
                    have NB125_126 := Aside0.mk h21_
                    have GW126 := Aside0.mk h22_
                    have GE126 := Aside0.mk h23_
                    have NB101_126 := Aside0.mk h24_
                    have NB126_101 := Aside0.mk h25_
                    have NB102_126 := Aside0.mk h26_
                    have NB126_102 := Aside0.mk h27_
                    have NB103_126 := Aside0.mk h28_
                    have NB126_103 := Aside0.mk h29_
                    have NB104_126 := Aside0.mk h30_
                    have NB126_104 := Aside0.mk h31_
                    replace HB := Aside0.mk h32_
                    clear h0_ h1_ h2_ h3_ h4_ h5_ h6_ h7_ h8_ h9_ h10_ h11_ h12_ h13_ h14_ h15_ h16_ h17_ h18_ h19_ h20_ h21_ h22_ h23_ h24_ h25_ h26_ h27_ h28_ h29_ h30_ h31_ h32_
                    have hHeld : w40.cell? ⟨gb101, 0, none⟩ = some (.bool a0_0) ∧ w40.cell? ⟨gb101, 1, none⟩ = some (.slice A0_1 l0_1.length c0_1) ∧ w40.cell? ⟨gb102, 0, none⟩ = some (.bool a1_0) ∧ w40.cell? ⟨gb102, 1, none⟩ = some (.slice A1_1 l1_1.length c1_1) := hS_
                    refine norm_ (a' := ?_) ?_ ?_
                    rotate_left
                    · simp only [putAll, Act.put, List.setIfInBounds_toArray, List.set_cons_zero, List.set_cons_succ]
                      rfl
                    refine one_ (i := 6) (N := some 36) #[true, true, true, true, true, true, true, true, true, true, false, true, true, false, false] rfl rfl (one_of HT_.out (by kernel_rfl)) (by decide) (fun K hK => ?_)
                    refine goes_ Try.func56 (by kernel_rfl) rfl #[.bool (a0_0 != a1_0), .slice Ao35 t111.length co35] (by rfl) rfl rfl (by (try simp only [List.map_toArray, List.map_cons, List.map_nil]); first | done | rfl | (simp only [List.length_drop, List.length_take]; rfl)) ?_
                    with_reducible refine (quadformref01_Make.calls k (a0_0 != a1_0) _ _ t111 t117 t118 _ ?side1 ?side2 A22.out).mono ?_
                    (case side1 => repeat (first | exact (Kd.R_reads' HO114.out).2.2 | (with_reducible refine Kd.C_alloc ?_ _) | (with_reducible refine Kd.C_drewN ?_ _) | (with_reducible refine Kd.C_drew ?_)))
                    (case side2 => exact (Kd.R_reads' HO114.out).2.1)
                    rintro e w41 ⟨v119, rfl, ho0, hb⟩
                    refine ⟨_, rfl, ?_⟩
                    replace HO107 := Aside0.mk (Kd.R_below (rr HO107.out) hb)
                    replace HO110 := Aside0.mk (Kd.R_below (rr HO110.out) hb)
                    replace HO114 := Aside0.mk (Kd.R_below (rr HO114.out) hb)
                    replace HO116 := Aside0.mk (Kd.R_below (rr HO116.out) hb)
                    have HO120 := Aside0.mk (Kd.R_lower ho0 (below_size bw))
                    replace BK101 := Aside0.mk (bb BK101.out hb)
                    replace BK102 := Aside0.mk (bb BK102.out hb)
                    replace BK103 := Aside0.mk (bb BK103.out hb)
                    replace BK104 := Aside0.mk (bb BK104.out hb)
                    replace BK125 := Aside0.mk (bb BK125.out hb)
                    replace BK126 := Aside0.mk (bb BK126.out hb)
                    replace HB := Aside0.mk (below_step bw hb)
                    (try clear hb)
                    (try clear hb2)
                    (try clear hk)
                    (try clear hi)
                    (try clear ho0)
                    refine hK.out _ _ ⟨(blk_cell BK101.out 0).trans rfl, (blk_cell BK101.out 1).trans rfl, (blk_cell BK102.out 0).trans rfl, (blk_cell BK102.out 1).trans rfl⟩ (fun hHeld => ?_)
                    clear hK K
                    refine norm_ (a' := ?_) ?_ ?_
                    rotate_left
                    · show Act.put _ (some 36) _ = _
                      simp only [Act.put, List.setIfInBounds_toArray, List.set_cons_zero, List.set_cons_succ, i64_w, i32_w]
                      rfl
                    exact nmp (hJ6_11_12 (v119, gb125, gb126) _ ⟨hHeld, (rr HO107.out), (rr HO110.out), (rr HO114.out), (rr HO116.out), (rr HO120.out), (bk BK101.out), (bk BK102.out), (bk BK103.out), (bk BK104.out), (bk BK125.out), (bk BK126.out), GW125.out, GE125.out, NB101_125.out, NB125_101.out, NB102_125.out, NB125_102.out, NB103_125.out, NB125_103.out, NB104_125.out, NB125_104.out, NB126_125.out, NB125_126.out, GW126.out, GE126.out, NB101_126.out, NB126_101.out, NB102_126.out, NB126_102.out, NB103_126.out, NB126_103.out, NB104_126.out, NB126_104.out, bw⟩)
                · skip
                  rintro ⟨v119, gb126⟩ w40 ⟨hS_, h0_, h1_, h2_, h3_, h4_, h5_, h6_, h7_, h8_, h9_, h10_, h11_, h12_, h13_, h14_, h15_, h16_, h17_, h18_, h19_, h20_⟩
                  (try dsimp only at h0_ h1_ h2_ h3_ h4_ h5_ h6_ h7_ h8_ h9_ h10_ h11_ h12_ h13_ h14_ h15_ h16_ h17_ h18_ h19_ h20_)
                  replace HO107 := Aside0.mk h0_
                  replace HO110 := Aside0.mk h1_
                  replace HO114 := Aside0.mk h2_
                  replace HO116 := Aside0.mk h3_
                  have HO120 := Aside0.mk h4_
                  replace BK101 := Aside0.mk h5_
                  replace BK102 := Aside0.mk h6_
                  replace BK103 := Aside0.mk h7_
                  replace BK104 := Aside0.mk h8_
                  have BK126 := Aside0.mk h9_
                  have GW126 := Aside0.mk h10_
                  have GE126 := Aside0.mk h11_
                  have NB101_126 := Aside0.mk h12_
                  have NB126_101 := Aside0.mk h13_
                  have NB102_126 := Aside0.mk h14_
                  have NB126_102 := Aside0.mk h15_
                  have NB103_126 := Aside0.mk h16_
                  have NB126_103 := Aside0.mk h17_
                  have NB104_126 := Aside0.mk h18_
                  have NB126_104 := Aside0.mk h19_
                  replace HB := Aside0.mk h20_
                  clear h0_ h1_ h2_ h3_ h4_ h5_ h6_ h7_ h8_ h9_ h10_ h11_ h12_ h13_ h14_ h15_ h16_ h17_ h18_ h19_ h20_
                  have hHeld : w40.cell? ⟨gb101, 0, none⟩ = some (.bool a0_0) ∧ w40.cell? ⟨gb101, 1, none⟩ = some (.slice A0_1 l0_1.length c0_1) ∧ w40.cell? ⟨gb102, 0, none⟩ = some (.bool a1_0) ∧ w40.cell? ⟨gb102, 1, none⟩ = some (.slice A1_1 l1_1.length c1_1) := hS_
                  refine norm_ (a' := ?_) ?_ ?_
                  rotate_left
                  · simp only [putAll, Act.put, List.setIfInBounds_toArray, List.set_cons_zero, List.set_cons_succ]
                    rfl
                  refine two_ (i := 10) (j := 11) (Ni := some 40) (Nj := some 11) #[true, true, true, true, true, true, true, true, true, true, true, false, true, false, false] #[true, true, true, true, true, true, true, true, true, true, false, true, true, false, false] rfl rfl rfl rfl (two_of HT_.out (by kernel_rfl)) (by decide) (by decide) (fun K hK => ?_) (fun K hK => ?_)
                  · skip
                    refine goes_ Try.func56 (by kernel_rfl) rfl #[.bool a0_0, .slice Ao36 t112.length co36] (by rfl) rfl rfl (by (try simp only [List.map_toArray, List.map_cons, List.map_nil]); first | done | rfl | (simp only [List.length_drop, List.length_take]; rfl)) ?_
                    with_reducible refine (quadformref01_Make.calls k a0_0 _ _ t112 t121 t122 _ ?side1 ?side2 A23.out).mono ?_
                    (case side1 => repeat (first | exact (Kd.R_reads' HO116.out).2.2 | (with_reducible refine Kd.C_alloc ?_ _) | (with_reducible refine Kd.C_drewN ?_ _) | (with_reducible refine Kd.C_drew ?_)))
                    (case side2 => exact (Kd.R_reads' HO116.out).2.1)
                    rintro e w41 ⟨v123, rfl, ho0, hb⟩
                    refine ⟨_, rfl, ?_⟩
                    replace HO107 := Aside0.mk (Kd.R_below (rr HO107.out) hb)
                    replace HO110 := Aside0.mk (Kd.R_below (rr HO110.out) hb)
                    replace HO114 := Aside0.mk (Kd.R_below (rr HO114.out) hb)
                    replace HO116 := Aside0.mk (Kd.R_below (rr HO116.out) hb)
                    replace HO120 := Aside0.mk (Kd.R_below (rr HO120.out) hb)
                    have HO124 := Aside0.mk (Kd.R_lower ho0 (below_size bw))
                    replace BK101 := Aside0.mk (bb BK101.out hb)
                    replace BK102 := Aside0.mk (bb BK102.out hb)
                    replace BK103 := Aside0.mk (bb BK103.out hb)
                    replace BK104 := Aside0.mk (bb BK104.out hb)
                    replace BK126 := Aside0.mk (bb BK126.out hb)
                    replace HB := Aside0.mk (below_step bw hb)
                    (try clear hb)
                    (try clear hb2)
                    (try clear hk)
                    (try clear hi)
                    (try clear ho0)
                    refine hK.out _ _ ⟨(blk_cell BK101.out 0).trans rfl, (blk_cell BK101.out 1).trans rfl, (blk_cell BK102.out 0).trans rfl, (blk_cell BK102.out 1).trans rfl⟩ (fun hHeld => ?_)
                    clear hK K
                    refine norm_ (a' := ?_) ?_ ?_
                    rotate_left
                    · show Act.put _ (some 40) _ = _
                      simp only [Act.put, List.setIfInBounds_toArray, List.set_cons_zero, List.set_cons_succ, i64_w, i32_w]
                      rfl
                    exact nmp (hJ6_10_12 (v119, v123, gb126) _ ⟨hHeld, (rr HO107.out), (rr HO110.out), (rr HO114.out), (rr HO116.out), (rr HO120.out), (rr HO124.out), (bk BK101.out), (bk BK102.out), (bk BK103.out), (bk BK104.out), (bk BK126.out), GW126.out, GE126.out, NB101_126.out, NB126_101.out, NB102_126.out, NB126_102.out, NB103_126.out, NB126_103.out, NB104_126.out, NB126_104.out, bw⟩)
                  · skip
                    refine box_step ?hg (N := 11) ?hd (cs := #[.bool false, .slice none 0 0]) (t := 40) ?hr ?_; (case hd => rfl); (case hg => rfl); (case hr => first | (go_simp; done) | (go_simp; rfl))
                    intro gb125 hg w41 hbox hb
                    replace HO107 := Aside0.mk (Kd.R_below (rr HO107.out) hb)
                    replace HO110 := Aside0.mk (Kd.R_below (rr HO110.out) hb)
                    replace HO114 := Aside0.mk (Kd.R_below (rr HO114.out) hb)
                    replace HO116 := Aside0.mk (Kd.R_below (rr HO116.out) hb)
                    replace HO120 := Aside0.mk (Kd.R_below (rr HO120.out) hb)
                    have BK125 := Aside0.mk (hbox)
                    have GW125 := Aside0.mk ((gsz hg : w.heap.size ≤ gb125))
                    have GE125 := Aside0.mk ((gsz hg : w.heap.size ≤ gb125))
                    replace HB := Aside0.mk (below_step bw hb)
                    have NB101_125 := Aside0.mk (nlt hg BK101.out)
                    have NB125_101 := Aside0.mk (ngt hg BK101.out)
                    replace BK101 := Aside0.mk (bb BK101.out hb)
                    have NB102_125 := Aside0.mk (nlt hg BK102.out)
                    have NB125_102 := Aside0.mk (ngt hg BK102.out)
                    replace BK102 := Aside0.mk (bb BK102.out hb)
                    have NB103_125 := Aside0.mk (nlt hg BK103.out)
                    have NB125_103 := Aside0.mk (ngt hg BK103.out)
                    replace BK103 := Aside0.mk (bb BK103.out hb)
                    have NB104_125 := Aside0.mk (nlt hg BK104.out)
                    have NB125_104 := Aside0.mk (ngt hg BK104.out)
                    replace BK104 := Aside0.mk (bb BK104.out hb)
                    have NB126_125 := Aside0.mk (nlt hg BK126.out)
                    have NB125_126 := Aside0.mk (ngt hg BK126.out)
                    replace BK126 := Aside0.mk (bb BK126.out hb)
                    clear hb hbox hg
                    refine hK.out _ _ ⟨(blk_cell BK101.out 0).trans rfl, (blk_cell BK101.out 1).trans rfl, (blk_cell BK102.out 0).trans rfl, (blk_cell BK102.out 1).trans rfl⟩ (fun hHeld => ?_)
                    clear hK K
                    refine norm_ (a' := ?_) ?_ ?_
                    rotate_left
                    · show Act.put _ (some 11) _ = _
                      simp only [Act.put, List.setIfInBounds_toArray, List.set_cons_zero, List.set_cons_succ, i64_w, i32_w]
                      rfl
                    exact nmp (hJ6_11_12 (v119, gb125, gb126) _ ⟨hHeld, (rr HO107.out), (rr HO110.out), (rr HO114.out), (rr HO116.out), (rr HO120.out), (bk BK101.out), (bk BK102.out), (bk BK103.out), (bk BK104.out), (bk BK125.out), (bk BK126.out), GW125.out, GE125.out, NB101_125.out, NB125_101.out, NB102_125.out, NB125_102.out, NB103_125.out, NB125_103.out, NB104_125.out, NB125_104.out, NB126_125.out, NB125_126.out, GW126.out, GE126.out, NB101_126.out, NB126_101.out, NB102_126.out, NB126_102.out, NB103_126.out, NB126_103.out, NB104_126.out, NB126_104.out, bw⟩)
              · skip
                rintro ⟨v119, gb125⟩ w40 ⟨hS_, h0_, h1_, h2_, h3_, h4_, h5_, h6_, h7_, h8_, h9_, h10_, h11_, h12_, h13_, h14_, h15_, h16_, h17_, h18_, h19_, h20_⟩
                (try dsimp only at h0_ h1_ h2_ h3_ h4_ h5_ h6_ h7_ h8_ h9_ h10_ h11_ h12_ h13_ h14_ h15_ h16_ h17_ h18_ h19_ h20_)
                replace HO107 := Aside0.mk h0_
                replace HO110 := Aside0.mk h1_
                replace HO114 := Aside0.mk h2_
                replace HO116 := Aside0.mk h3_
                have HO120 := Aside0.mk h4_
                replace BK101 := Aside0.mk h5_
                replace BK102 := Aside0.mk h6_
                replace BK103 := Aside0.mk h7_
                replace BK104 := Aside0.mk h8_
                have BK125 := Aside0.mk h9_
                have GW125 := Aside0.mk h10_
                have GE125 := Aside0.mk h11_
                have NB101_125 := Aside0.mk h12_
                have NB125_101 := Aside0.mk h13_
                have NB102_125 := Aside0.mk h14_
                have NB125_102 := Aside0.mk h15_
                have NB103_125 := Aside0.mk h16_
                have NB125_103 := Aside0.mk h17_
                have NB104_125 := Aside0.mk h18_
                have NB125_104 := Aside0.mk h19_
                replace HB := Aside0.mk h20_
                clear h0_ h1_ h2_ h3_ h4_ h5_ h6_ h7_ h8_ h9_ h10_ h11_ h12_ h13_ h14_ h15_ h16_ h17_ h18_ h19_ h20_
                have hHeld : w40.cell? ⟨gb101, 0, none⟩ = some (.bool a0_0) ∧ w40.cell? ⟨gb101, 1, none⟩ = some (.slice A0_1 l0_1.length c0_1) ∧ w40.cell? ⟨gb102, 0, none⟩ = some (.bool a1_0) ∧ w40.cell? ⟨gb102, 1, none⟩ = some (.slice A1_1 l1_1.length c1_1) := hS_
                refine norm_ (a' := ?_) ?_ ?_
                rotate_left
                · simp only [putAll, Act.put, List.setIfInBounds_toArray, List.set_cons_zero, List.set_cons_succ]
                  rfl
                refine two_ (i := 10) (j := 12) (Ni := some 40) (Nj := some 12) #[true, true, true, true, true, true, true, true, true, true, true, true, false, false, false] #[true, true, true, true, true, true, true, true, true, true, false, true, true, false, false] rfl rfl rfl rfl (two_of HT_.out (by kernel_rfl)) (by decide) (by decide) (fun K hK => ?_) (fun K hK => ?_)
                · skip
                  refine goes_ Try.func56 (by kernel_rfl) rfl #[.bool a0_0, .slice Ao36 t112.length co36] (by rfl) rfl rfl (by (try simp only [List.map_toArray, List.map_cons, List.map_nil]); first | done | rfl | (simp only [List.length_drop, List.length_take]; rfl)) ?_
                  with_reducible refine (quadformref01_Make.calls k a0_0 _ _ t112 t121 t122 _ ?side1 ?side2 A23.out).mono ?_
                  (case side1 => repeat (first | exact (Kd.R_reads' HO116.out).2.2 | (with_reducible refine Kd.C_alloc ?_ _) | (with_reducible refine Kd.C_drewN ?_ _) | (with_reducible refine Kd.C_drew ?_)))
                  (case side2 => exact (Kd.R_reads' HO116.out).2.1)
                  rintro e w41 ⟨v123, rfl, ho0, hb⟩
                  refine ⟨_, rfl, ?_⟩
                  replace HO107 := Aside0.mk (Kd.R_below (rr HO107.out) hb)
                  replace HO110 := Aside0.mk (Kd.R_below (rr HO110.out) hb)
                  replace HO114 := Aside0.mk (Kd.R_below (rr HO114.out) hb)
                  replace HO116 := Aside0.mk (Kd.R_below (rr HO116.out) hb)
                  replace HO120 := Aside0.mk (Kd.R_below (rr HO120.out) hb)
                  have HO124 := Aside0.mk (Kd.R_lower ho0 (below_size bw))
                  replace BK101 := Aside0.mk (bb BK101.out hb)
                  replace BK102 := Aside0.mk (bb BK102.out hb)
                  replace BK103 := Aside0.mk (bb BK103.out hb)
                  replace BK104 := Aside0.mk (bb BK104.out hb)
                  replace BK125 := Aside0.mk (bb BK125.out hb)
                  replace HB := Aside0.mk (below_step bw hb)
                  (try clear hb)
                  (try clear hb2)
                  (try clear hk)
                  (try clear hi)
                  (try clear ho0)
                  refine hK.out _ _ ⟨(blk_cell BK101.out 0).trans rfl, (blk_cell BK101.out 1).trans rfl, (blk_cell BK102.out 0).trans rfl, (blk_cell BK102.out 1).trans rfl⟩ (fun hHeld => ?_)
                  clear hK K
                  refine norm_ (a' := ?_) ?_ ?_
                  rotate_left
                  · show Act.put _ (some 40) _ = _
                    simp only [Act.put, List.setIfInBounds_toArray, List.set_cons_zero, List.set_cons_succ, i64_w, i32_w]
                    rfl
                  exact nmp (hJ6_10_11 (v119, v123, gb125) _ ⟨hHeld, (rr HO107.out), (rr HO110.out), (rr HO114.out), (rr HO116.out), (rr HO120.out), (rr HO124.out), (bk BK101.out), (bk BK102.out), (bk BK103.out), (bk BK104.out), (bk BK125.out), GW125.out, GE125.out, NB101_125.out, NB125_101.out, NB102_125.out, NB125_102.out, NB103_125.out, NB125_103.out, NB104_125.out, NB125_104.out, bw⟩)
                · skip
                  refine box_step ?hg (N := 12) ?hd (cs := #[.bool false, .slice none 0 0]) (t := 40) ?hr ?_; (case hd => rfl); (case hg => rfl); (case hr => first | (go_simp; done) | (go_simp; rfl))
                  intro gb126 hg w41 hbox hb
                  replace HO107 := Aside0.mk (Kd.R_below (rr HO107.out) hb)
                  replace HO110 := Aside0.mk (Kd.R_below (rr HO110.out) hb)
                  replace HO114 := Aside0.mk (Kd.R_below (rr HO114.out) hb)
                  replace HO116 := Aside0.mk (Kd.R_below (rr HO116.out) hb)
                  replace HO120 := Aside0.mk (Kd.R_below (rr HO120.out) hb)
                  have BK126 := Aside0.mk (hbox)
                  have GW126 := Aside0.mk ((gsz hg : w.heap.size ≤ gb126))
                  have GE126 := Aside0.mk ((gsz hg : w.heap.size ≤ gb126))
                  replace HB := Aside0.mk (below_step bw hb)
                  have NB101_126 := Aside0.mk (nlt hg BK101.out)
                  have NB126_101 := Aside0.mk (ngt hg BK101.out)
                  replace BK101 := Aside0.mk (bb BK101.out hb)
                  have NB102_126 := Aside0.mk (nlt hg BK102.out)
                  have NB126_102 := Aside0.mk (ngt hg BK102.out)
                  replace BK102 := Aside0.mk (bb BK102.out hb)
                  have NB103_126 := Aside0.mk (nlt hg BK103.out)
                  have NB126_103 := Aside0.mk (ngt hg BK103.out)
                  replace BK103 := Aside0.mk (bb BK103.out hb)
                  have NB104_126 := Aside0.mk (nlt hg BK104.out)
                  have NB126_104 := Aside0.mk (ngt hg BK104.out)
                  replace BK104 := Aside0.mk (bb BK104.out hb)
                  have NB125_126 := Aside0.mk (nlt hg BK125.out)
                  have NB126_125 := Aside0.mk (ngt hg BK125.out)
                  replace BK125 := Aside0.mk (bb BK125.out hb)
                  clear hb hbox hg
                  refine hK.out _ _ ⟨(blk_cell BK101.out 0).trans rfl, (blk_cell BK101.out 1).trans rfl, (blk_cell BK102.out 0).trans rfl, (blk_cell BK102.out 1).trans rfl⟩ (fun hHeld => ?_)
                  clear hK K
                  refine norm_ (a' := ?_) ?_ ?_
                  rotate_left
                  · show Act.put _ (some 12) _ = _
                    simp only [Act.put, List.setIfInBounds_toArray, List.set_cons_zero, List.set_cons_succ, i64_w, i32_w]
                    rfl
                  exact nmp (hJ6_11_12 (v119, gb125, gb126) _ ⟨hHeld, (rr HO107.out), (rr HO110.out), (rr HO114.out), (rr HO116.out), (rr HO120.out), (bk BK101.out), (bk BK102.out), (bk BK103.out), (bk BK104.out), (bk BK125.out), (bk BK126.out), GW125.out, GE125.out, NB101_125.out, NB125_101.out, NB102_125.out, NB125_102.out, NB103_125.out, NB125_103.out, NB104_125.out, NB125_104.out, NB126_125.out, NB125_126.out, GW126.out, GE126.out, NB101_126.out, NB126_101.out, NB102_126.out, NB126_102.out, NB103_126.out, NB126_103.out, NB104_126.out, NB126_104.out, bw⟩)
            · skip
              rintro ⟨v119, v123⟩ w40 ⟨hS_, h0_, h1_, h2_, h3_, h4_, h5_, h6_, h7_, h8_, h9_, h10_⟩
              (try dsimp only at h0_ h1_ h2_ h3_ h4_ h5_ h6_ h7_ h8_ h9_ h10_)
              replace HO107 := Aside0.mk h0_
              replace HO110 := Aside0.mk h1_
              replace HO114 := Aside0.mk h2_
              replace HO116 := Aside0.mk h3_
              have HO120 := Aside0.mk h4_
              have HO124 := Aside0.mk h5_
              replace BK101 := Aside0.mk h6_
              replace BK102 := Aside0.mk h7_
              replace BK103 := Aside0.mk h8_
              replace BK104 := Aside0.mk h9_
              replace HB := Aside0.mk h10_
              clear h0_ h1_ h2_ h3_ h4_ h5_ h6_ h7_ h8_ h9_ h10_
              have hHeld : w40.cell? ⟨gb101, 0, none⟩ = some (.bool a0_0) ∧ w40.cell? ⟨gb101, 1, none⟩ = some (.slice A0_1 l0_1.length c0_1) ∧ w40.cell? ⟨gb102, 0, none⟩ = some (.bool a1_0) ∧ w40.cell? ⟨gb102, 1, none⟩ = some (.slice A1_1 l1_1.length c1_1) := hS_
              refine norm_ (a' := ?_) ?_ ?_
              rotate_left
              · simp only [putAll, Act.put, List.setIfInBounds_toArray, List.set_cons_zero, List.set_cons_succ]
                rfl
              refine two_ (i := 11) (j := 12) (Ni := some 11) (Nj := some 12) #[true, true, true, true, true, true, true, true, true, true, true, true, false, false, false] #[true, true, true, true, true, true, true, true, true, true, true, false, true, false, false] rfl rfl rfl rfl (two_of HT_.out (by kernel_rfl)) (by decide) (by decide) (fun K hK => ?_) (fun K hK => ?_)
              · skip
                refine box_step ?hg (N := 11) ?hd (cs := #[.bool false, .slice none 0 0]) (t := 40) ?hr ?_; (case hd => rfl); (case hg => rfl); (case hr => first | (go_simp; done) | (go_simp; rfl))
                intro gb125 hg w41 hbox hb
                replace HO107 := Aside0.mk (Kd.R_below (rr HO107.out) hb)
                replace HO110 := Aside0.mk (Kd.R_below (rr HO110.out) hb)
                replace HO114 := Aside0.mk (Kd.R_below (rr HO114.out) hb)
                replace HO116 := Aside0.mk (Kd.R_below (rr HO116.out) hb)
                replace HO120 := Aside0.mk (Kd.R_below (rr HO120.out) hb)
                replace HO124 := Aside0.mk (Kd.R_below (rr HO124.out) hb)
                have BK125 := Aside0.mk (hbox)
                have GW125 := Aside0.mk ((gsz hg : w.heap.size ≤ gb125))
                have GE125 := Aside0.mk ((gsz hg : w.heap.size ≤ gb125))
                replace HB := Aside0.mk (below_step bw hb)
                have NB101_125 := Aside0.mk (nlt hg BK101.out)
                have NB125_101 := Aside0.mk (ngt hg BK101.out)
                replace BK101 := Aside0.mk (bb BK101.out hb)
                have NB102_125 := Aside0.mk (nlt hg BK102.out)
                have NB125_102 := Aside0.mk (ngt hg BK102.out)
                replace BK102 := Aside0.mk (bb BK102.out hb)
                have NB103_125 := Aside0.mk (nlt hg BK103.out)
                have NB125_103 := Aside0.mk (ngt hg BK103.out)
                replace BK103 := Aside0.mk (bb BK103.out hb)
                have NB104_125 := Aside0.mk (nlt hg BK104.out)
                have NB125_104 := Aside0.mk (ngt hg BK104.out)
                replace BK104 := Aside0.mk (bb BK104.out hb)
                clear hb hbox hg
                refine hK.out _ _ ⟨(blk_cell BK101.out 0).trans rfl, (blk_cell BK101.out 1).trans rfl, (blk_cell BK102.out 0).trans rfl, (blk_cell BK102.out 1).trans rfl⟩ (fun hHeld => ?_)
                clear hK K
                refine norm_ (a' := ?_) ?_ ?_
                rotate_left
                · show Act.put _ (some 11) _ = _
                  simp only [Act.put, List.setIfInBounds_toArray, List.set_cons_zero, List.set_cons_succ, i64_w, i32_w]
                  rfl
                exact nmp (hJ6_10_11 (v119, v123, gb125) _ ⟨hHeld, (rr HO107.out), (rr HO110.out), (rr HO114.out), (rr HO116.out), (rr HO120.out), (rr HO124.out), (bk BK101.out), (bk BK102.out), (bk BK103.out), (bk BK104.out), (bk BK125.out), GW125.out, GE125.out, NB101_125.out, NB125_101.out, NB102_125.out, NB125_102.out, NB103_125.out, NB125_103.out, NB104_125.out, NB125_104.out, bw⟩)
              · skip
                refine box_step ?hg (N := 12) ?hd (cs := #[.bool false, .slice none 0 0]) (t := 40) ?hr ?_; (case hd => rfl); (case hg => rfl); (case hr => first | (go_simp; done) | (go_simp; rfl))
                intro gb126 hg w41 hbox hb
                replace HO107 := Aside0.mk (Kd.R_below (rr HO107.out) hb)
                replace HO110 := Aside0.mk (Kd.R_below (rr HO110.out) hb)
                replace HO114 := Aside0.mk (Kd.R_below (rr HO114.out) hb)
                replace HO116 := Aside0.mk (Kd.R_below (rr HO116.out) hb)
                replace HO120 := Aside0.mk (Kd.R_below (rr HO120.out) hb)
                replace HO124 := Aside0.mk (Kd.R_below (rr HO124.out) hb)
                have BK126 := Aside0.mk (hbox)
                have GW126 := Aside0.mk ((gsz hg : w.heap.size ≤ gb126))
                have GE126 := Aside0.mk ((gsz hg : w.heap.size ≤ gb126))
                replace HB := Aside0.mk (below_step bw hb)
                have NB101_126 := Aside0.mk (nlt hg BK101.out)
                have NB126_101 := Aside0.mk (ngt hg BK101.out)
                replace BK101 := Aside0.mk (bb BK101.out hb)
                have NB102_126 := Aside0.mk (nlt hg BK102.out)
                have NB126_102 := Aside0.mk (ngt hg BK102.out)
                replace BK102 := Aside0.mk (bb BK102.out hb)
                have NB103_126 := Aside0.mk (nlt hg BK103.out)
                have NB126_103 := Aside0.mk (ngt hg BK103.out)
                replace BK103 := Aside0.mk (bb BK103.out hb)
                have NB104_126 := Aside0.mk (nlt hg BK104.out)
                have NB126_104 := Aside0.mk (ngt hg BK104.out)
                replace BK104 := Aside0.mk (bb BK104.out hb)
                clear hb hbox hg
                refine hK.out _ _ ⟨(blk_cell BK101.out 0).trans rfl, (blk_cell BK101.out 1).trans rfl, (blk_cell BK102.out 0).trans rfl, (blk_cell BK102.out 1).trans rfl⟩ (fun hHeld => ?_)
                clear hK K
                refine norm_ (a' := ?_) ?_ ?_
                rotate_left
                · show Act.put _ (some 12) _ = _
                  simp only [Act.put, List.setIfInBounds_toArray, List.set_cons_zero, List.set_cons_succ, i64_w, i32_w]
                  rfl
                exact nmp (hJ6_10_12 (v119, v123, gb126) _ ⟨hHeld, (rr HO107.out), (rr HO110.out), (rr HO114.out), (rr HO116.out), (rr HO120.out), (rr HO124.out), (bk BK101.out), (bk BK102.out), (bk BK103.out), (bk BK104.out), (bk BK126.out), GW126.out, GE126.out, NB101_126.out, NB126_101.out, NB102_126.out, NB126_102.out, NB103_126.out, NB126_103.out, NB104_126.out, NB126_104.out, bw⟩)
          · skip
            rintro ⟨v119, gb125, gb126⟩ w41 ⟨hS_, h0_, h1_, h2_, h3_, h4_, h5_, h6_, h7_, h8_, h9_, h10_, h11_, h12_, h13_, h14_, h15_, h16_, h17_, h18_, h19_, h20_, h21_, h22_, h23_, h24_, h25_, h26_, h27_, h28_, h29_, h30_, h31_, h32_, h33_⟩
            (try dsimp only at h0_ h1_ h2_ h3_ h4_ h5_ h6_ h7_ h8_ h9_ h10_ h11_ h12_ h13_ h14_ h15_ h16_ h17_ h18_ h19_ h20_ h21_ h22_ h23_ h24_ h25_ h26_ h27_ h28_ h29_ h30_ h31_ h32_ h33_)
            replace HO107 := Aside0.mk h0_
            replace HO110 := Aside0.mk h1_
            replace HO114 := Aside0.mk h2_
            replace HO116 := Aside0.mk h3_
            have HO120 := Aside0.mk h4_
            replace BK101 := Aside0.mk h5_
            replace BK102 := Aside0.mk h6_
            replace BK103 := Aside0.mk h7_
            replace BK104 := Aside0.mk h8_
            have BK125 := Aside0.mk h9_
            have BK126 := Aside0.mk h10_
            have GW125 := Aside0.mk h11_
            have GE125 := Aside0.mk h12_
            have NB101_125 := Aside0.mk h13_
            have NB125_101 := Aside0.mk h14_
            have NB102_125 := Aside0.mk h15_
            have NB125_102 := Aside0.mk h16_
            have NB103_125 := Aside0.mk h17_
            have NB125_103 := Aside0.mk h18_
            have NB104_125 := Aside0.mk h19_
            have NB125_104 := Aside0.mk h20_
            have NB126_125 := Aside0.mk h21_
            have NB125_126 := Aside0.mk h22_
            have GW126 := Aside0.mk h23_
            have GE126 := Aside0.mk h24_
            have NB101_126 := Aside0.mk h25_
            have NB126_101 := Aside0.mk h26_
            have NB102_126 := Aside0.mk h27_
            have NB126_102 := Aside0.mk h28_
            have NB103_126 := Aside0.mk h29_
            have NB126_103 := Aside0.mk h30_
            have NB104_126 := Aside0.mk h31_
            have NB126_104 := Aside0.mk h32_
            replace HB := Aside0.mk h33_
            clear h0_ h1_ h2_ h3_ h4_ h5_ h6_ h7_ h8_ h9_ h10_ h11_ h12_ h13_ h14_ h15_ h16_ h17_ h18_ h19_ h20_ h21_ h22_ h23_ h24_ h25_ h26_ h27_ h28_ h29_ h30_ h31_ h32_ h33_
            have hHeld : w41.cell? ⟨gb101, 0, none⟩ = some (.bool a0_0) ∧ w41.cell? ⟨gb101, 1, none⟩ = some (.slice A0_1 l0_1.length c0_1) ∧ w41.cell? ⟨gb102, 0, none⟩ = some (.bool a1_0) ∧ w41.cell? ⟨gb102, 1, none⟩ = some (.slice A1_1 l1_1.length c1_1) := hS_
            refine norm_ (a' := ?_) ?_ ?_
            rotate_left
            · simp only [putAll, Act.put, List.setIfInBounds_toArray, List.set_cons_zero, List.set_cons_succ]
              rfl
            refine one_ (i := 10) (N := some 40) #[true, true, true, true, true, true, true, true, true, true, true, true, true, false, false] rfl rfl (one_of HT_.out (by kernel_rfl)) (by decide) (fun K hK => ?_)
            refine goes_ Try.func56 (by kernel_rfl) rfl #[.bool a0_0, .slice Ao36 t112.length co36] (by rfl) rfl rfl (by (try simp only [List.map_toArray, List.map_cons, List.map_nil]); first | done | rfl | (simp only [List.length_drop, List.length_take]; rfl)) ?_
            with_reducible refine (quadformref01_Make.calls k a0_0 _ _ t112 t121 t122 _ ?side1 ?side2 A23.out).mono ?_
            (case side1 => repeat (first | exact (Kd.R_reads' HO116.out).2.2 | (with_reducible refine Kd.C_alloc ?_ _) | (with_reducible refine Kd.C_drewN ?_ _) | (with_reducible refine Kd.C_drew ?_)))
            (case side2 => exact (Kd.R_reads' HO116.out).2.1)
            rintro e w42 ⟨v123, rfl, ho0, hb⟩
            refine ⟨_, rfl, ?_⟩
            replace HO107 := Aside0.mk (Kd.R_below (rr HO107.out) hb)
            replace HO110 := Aside0.mk (Kd.R_below (rr HO110.out) hb)
            replace HO114 := Aside0.mk (Kd.R_below (rr HO114.out) hb)
            replace HO116 := Aside0.mk (Kd.R_below (rr HO116.out) hb)
            replace HO120 := Aside0.mk (Kd.R_below (rr HO120.out) hb)
            have HO124 := Aside0.mk (Kd.R_lower ho0 (below_size bw))
            replace BK101 := Aside0.mk (bb BK101.out hb)
            replace BK102 := Aside0.mk (bb BK102.out hb)
            replace BK103 := Aside0.mk (bb BK103.out hb)
            replace BK104 := Aside0.mk (bb BK104.out hb)
            replace BK125 := Aside0.mk (bb BK125.out hb)
            replace BK126 := Aside0.mk (bb BK126.out hb)
            replace HB := Aside0.mk (below_step bw hb)
            (try clear hb)
            (try clear hb2)
            (try clear hk)
            (try clear hi)
            (try clear ho0)
            refine hK.out _ _ ⟨(blk_cell BK101.out 0).trans rfl, (blk_cell BK101.out 1).trans rfl, (blk_cell BK102.out 0).trans rfl, (blk_cell BK102.out 1).trans rfl⟩ (fun hHeld => ?_)
            clear hK K
            refine norm_ (a' := ?_) ?_ ?_
            rotate_left
            · show Act.put _ (some 40) _ = _
              simp only [Act.put, List.setIfInBounds_toArray, List.set_cons_zero, List.set_cons_succ, i64_w, i32_w]
              rfl
            exact nmp (hJ6_10_11_12 (v119, v123, gb125, gb126) _ ⟨hHeld, (rr HO107.out), (rr HO110.out), (rr HO114.out), (rr HO116.out), (rr HO120.out), (rr HO124.out), (bk BK101.out), (bk BK102.out), (bk BK103.out), (bk BK104.out), (bk BK125.out), (bk BK126.out), GW125.out, GE125.out, NB101_125.out, NB125_101.out, NB102_125.out, NB125_102.out, NB103_125.out, NB125_103.out, NB104_125.out, NB125_104.out, NB126_125.out, NB125_126.out, GW126.out, GE126.out, NB101_126.out, NB126_101.out, NB102_126.out, NB126_102.out, NB103_126.out, NB126_103.out, NB104_126.out, NB126_104.out, bw⟩)
        · skip
          rintro ⟨v119, v123, gb126⟩ w41 ⟨hS_, h0_, h1_, h2_, h3_, h4_, h5_, h6_, h7_, h8_, h9_, h10_, h11_, h12_, h13_, h14_, h15_, h16_, h17_, h18_, h19_, h20_, h21_⟩
          (try dsimp only at h0_ h1_ h2_ h3_ h4_ h5_ h6_ h7_ h8_ h9_ h10_ h11_ h12_ h13_ h14_ h15_ h16_ h17_ h18_ h19_ h20_ h21_)
          replace HO107 := Aside0.mk h0_
          replace HO110 := Aside0.mk h1_
          replace HO114 := Aside0.mk h2_
          replace HO116 := Aside0.mk h3_
          have HO120 := Aside0.mk h4_
          have HO124 := Aside0.mk h5_
          replace BK101 := Aside0.mk h6_
          replace BK102 := Aside0.mk h7_
          replace BK103 := Aside0.mk h8_
          replace BK104 := Aside0.mk h9_
          have BK126 := Aside0.mk h10_
          have GW126 := Aside0.mk h11_
          have GE126 := Aside0.mk h12_
          have NB101_126 := Aside0.mk h13_
          have NB126_101 := Aside0.mk h14_
          have NB102_126 := Aside0.mk h15_
          have NB126_102 := Aside0.mk h16_
          have NB103_126 := Aside0.mk h17_
          have NB126_103 := Aside0.mk h18_
          have NB104_126 := Aside0.mk h19_
          have NB126_104 := Aside0.mk h20_
          replace HB := Aside0.mk h21_
          clear h0_ h1_ h2_ h3_ h4_ h5_ h6_ h7_ h8_ h9_ h10_ h11_ h12_ h13_ h14_ h15_ h16_ h17_ h18_ h19_ h20_ h21_
          have hHeld : w41.cell? ⟨gb101, 0, none⟩ = some (.bool a0_0) ∧ w41.cell? ⟨gb101, 1, none⟩ = some (.slice A0_1 l0_1.length c0_1) ∧ w41.cell? ⟨gb102, 0, none⟩ = some (.bool a1_0) ∧ w41.cell? ⟨gb102, 1, none⟩ = some (.slice A1_1 l1_1.length c1_1) := hS_
          refine norm_ (a' := ?_) ?_ ?_
          rotate_left
          · simp only [putAll, Act.put, List.setIfInBounds_toArray, List.set_cons_zero, List.set_cons_succ]
            rfl
          refine one_ (i := 11) (N := some 11) #[true, true, true, true, true, true, true, true, true, true, true, true, true, false, false] rfl rfl (one_of HT_.out (by kernel_rfl)) (by decide) (fun K hK => ?_)
          refine box_step ?hg (N := 11) ?hd (cs := #[.bool false, .slice none 0 0]) (t := 40) ?hr ?_; (case hd => rfl); (case hg => rfl); (case hr => first | (go_simp; done) | (go_simp; rfl))
          intro gb125 hg w42 hbox hb
          replace HO107 := Aside0.mk (Kd.R_below (rr HO107.out) hb)
          replace HO110 := Aside0.mk (Kd.R_below (rr HO110.out) hb)
          replace HO114 := Aside0.mk (Kd.R_below (rr HO114.out) hb)
          replace HO116 := Aside0.mk (Kd.R_below (rr HO116.out) hb)
          replace HO120 := Aside0.mk (Kd.R_below (rr HO120.out) hb)
          replace HO124 := Aside0.mk (Kd.R_below (rr HO124.out) hb)
          have BK125 := Aside0.mk (hbox)
          have GW125 := Aside0.mk ((gsz hg : w.heap.size ≤ gb125))
          have GE125 := Aside0.mk ((gsz hg : w.heap.size ≤ gb125))
          replace HB := Aside0.mk (below_step bw hb)
          have NB101_125 := Aside0.mk (nlt hg BK101.out)
          have NB125_101 := Aside0.mk (ngt hg BK101.out)
          replace BK101 := Aside0.mk (bb BK101.out hb)
          have NB102_125 := Aside0.mk (nlt hg BK102.out)
          have NB125_102 := Aside0.mk (ngt hg BK102.out)
          replace BK102 := Aside0.mk (bb BK102.out hb)
          have NB103_125 := Aside0.mk (nlt hg BK103.out)
          have NB125_103 := Aside0.mk (ngt hg BK103.out)
          replace BK103 := Aside0.mk (bb BK103.out hb)
          have NB104_125 := Aside0.mk (nlt hg BK104.out)
          have NB125_104 := Aside0.mk (ngt hg BK104.out)
          replace BK104 := Aside0.mk (bb BK104.out hb)
          have NB126_125 := Aside0.mk (nlt hg BK126.out)
          have NB125_126 := Aside0.mk (ngt hg BK126.out)
          replace BK126 := Aside0.mk (bb BK126.out hb)
          clear hb hbox hg
          refine hK.out _ _ ⟨(blk_cell BK101.out 0).trans rfl, (blk_cell BK101.out 1).trans rfl, (blk_cell BK102.out 0).trans rfl, (blk_cell BK102.out 1).trans rfl⟩ (fun hHeld => ?_)
          clear hK K
          refine norm_ (a' := ?_) ?_ ?_
          rotate_left
          · show Act.put _ (some 11) _ = _
            simp only [Act.put, List.setIfInBounds_toArray, List.set_cons_zero, List.set_cons_succ, i64_w, i32_w]
            rfl
          exact nmp (hJ6_10_11_12 (v119, v123, gb125, gb126) _ ⟨hHeld, (rr HO107.out), (rr HO110.out), (rr HO114.out), (rr HO116.out), (rr HO120.out), (rr HO124.out), (bk BK101.out), (bk BK102.out), (bk BK103.out), (bk BK104.out), (bk BK125.out), (bk BK126.out), GW125.out, GE125.out, NB101_125.out, NB125_101.out, NB102_125.out, NB125_102.out, NB103_125.out, NB125_103.out, NB104_125.out, NB125_104.out, NB126_125.out, NB125_126.out, GW126.out, GE126.out, NB101_126.out, NB126_101.out, NB102_126.out, NB126_102.out, NB103_126.out, NB126_103.out, NB104_126.out, NB126_104.out, bw⟩)
      · skip
        rintro ⟨v119, v123, gb125⟩ w41 ⟨hS_, h0_, h1_, h2_, h3_, h4_, h5_, h6_, h7_, h8_, h9_, h10_, h11_, h12_, h13_, h14_, h15_, h16_, h17_, h18_, h19_, h20_, h21_⟩
        (try dsimp only at h0_ h1_ h2_ h3_ h4_ h5_ h6_ h7_ h8_ h9_ h10_ h11_ h12_ h13_ h14_ h15_ h16_ h17_ h18_ h19_ h20_ h21_)
        replace HO107 := Aside0.mk h0_
        replace HO110 := Aside0.mk h1_
        replace HO114 := Aside0.mk h2_
        replace HO116 := Aside0.mk h3_
        have HO120 := Aside0.mk h4_
        have HO124 := Aside0.mk h5_
        replace BK101 := Aside0.mk h6_
        replace BK102 := Aside0.mk h7_
        replace BK103 := Aside0.mk h8_
        replace BK104 := Aside0.mk h9_
        have BK125 := Aside0.mk h10_
        have GW125 := Aside0.mk h11_
        have GE125 := Aside0.mk h12_
        have NB101_125 := Aside0.mk h13_
        have NB125_101 := Aside0.mk h14_
        have NB102_125 := Aside0.mk h15_
        have NB125_102 := Aside0.mk h16_
        have NB103_125 := Aside0.mk h17_
        have NB125_103 := Aside0.mk h18_
        have NB104_125 := Aside0.mk h19_
        have NB125_104 := Aside0.mk h20_
        replace HB := Aside0.mk h21_
        clear h0_ h1_ h2_ h3_ h4_ h5_ h6_ h7_ h8_ h9_ h10_ h11_ h12_ h13_ h14_ h15_ h16_ h17_ h18_ h19_ h20_ h21_
        have hHeld : w41.cell? ⟨gb101, 0, none⟩ = some (.bool a0_0) ∧ w41.cell? ⟨gb101, 1, none⟩ = some (.slice A0_1 l0_1.length c0_1) ∧ w41.cell? ⟨gb102, 0, none⟩ = some (.bool a1_0) ∧ w41.cell? ⟨gb102, 1, none⟩ = some (.slice A1_1 l1_1.length c1_1) := hS_
        refine norm_ (a' := ?_) ?_ ?_
        rotate_left
        · simp only [putAll, Act.put, List.setIfInBounds_toArray, List.set_cons_zero, List.set_cons_succ]
          rfl
        refine one_ (i := 12) (N := some 12) #[true, true, true, true, true, true, true, true, true, true, true, true, true, false, false] rfl rfl (one_of HT_.out (by kernel_rfl)) (by decide) (fun K hK => ?_)
        refine box_step ?hg (N := 12) ?hd (cs := #[.bool false, .slice none 0 0]) (t := 40) ?hr ?_; (case hd => rfl); (case hg => rfl); (case hr => first | (go_simp; done) | (go_simp; rfl))
        intro gb126 hg w42 hbox hb
        replace HO107 := Aside0.mk (Kd.R_below (rr HO107.out) hb)
        replace HO110 := Aside0.mk (Kd.R_below (rr HO110.out) hb)
        replace HO114 := Aside0.mk (Kd.R_below (rr HO114.out) hb)
        replace HO116 := Aside0.mk (Kd.R_below (rr HO116.out) hb)
        replace HO120 := Aside0.mk (Kd.R_below (rr HO120.out) hb)
        replace HO124 := Aside0.mk (Kd.R_below (rr HO124.out) hb)
        have BK126 := Aside0.mk (hbox)
        have GW126 := Aside0.mk ((gsz hg : w.heap.size ≤ gb126))
        have GE126 := Aside0.mk ((gsz hg : w.heap.size ≤ gb126))
        replace HB := Aside0.mk (below_step bw hb)
        have NB101_126 := Aside0.mk (nlt hg BK101.out)
        have NB126_101 := Aside0.mk (ngt hg BK101.out)
        replace BK101 := Aside0.mk (bb BK101.out hb)
        have NB102_126 := Aside0.mk (nlt hg BK102.out)
        have NB126_102 := Aside0.mk (ngt hg BK102.out)
        replace BK102 := Aside0.mk (bb BK102.out hb)
        have NB103_126 := Aside0.mk (nlt hg BK103.out)
        have NB126_103 := Aside0.mk (ngt hg BK103.out)
        replace BK103 := Aside0.mk (bb BK103.out hb)
        have NB104_126 := Aside0.mk (nlt hg BK104.out)
        have NB126_104 := Aside0.mk (ngt hg BK104.out)
        replace BK104 := Aside0.mk (bb BK104.out hb)
        have NB125_126 := Aside0.mk (nlt hg BK125.out)
        have NB126_125 := Aside0.mk (ngt hg BK125.out)
        replace BK125 := Aside0.mk (bb BK125.out hb)
        clear hb hbox hg
        refine hK.out _ _ ⟨(blk_cell BK101.out 0).trans rfl, (blk_cell BK101.out 1).trans rfl, (blk_cell BK102.out 0).trans rfl, (blk_cell BK102.out 1).trans rfl⟩ (fun hHeld => ?_)
        clear hK K
        refine norm_ (a' := ?_) ?_ ?_
        rotate_left
        · show Act.put _ (some 12) _ = _
          simp only [Act.put, List.setIfInBounds_toArray, List.set_cons_zero, List.set_cons_succ, i64_w, i32_w]
          rfl
        exact nmp (hJ6_10_11_12 (v119, v123, gb125, gb126) _ ⟨hHeld, (rr HO107.out), (rr HO110.out), (rr HO114.out), (rr HO116.out), (rr HO120.out), (rr HO124.out), (bk BK101.out), (bk BK102.out), (bk BK103.out), (bk BK104.out), (bk BK125.out), (bk BK126.out), GW125.out, GE125.out, NB101_125.out, NB125_101.out, NB102_125.out, NB125_102.out, NB103_125.out, NB125_103.out, NB104_125.out, NB125_104.out, NB126_125.out, NB125_126.out, GW126.out, GE126.out, NB101_126.out, NB126_101.out, NB102_126.out, NB126_102.out, NB103_126.out, NB126_103.out, NB104_126.out, NB126_104.out, bw⟩)
    rintro ⟨v119, v123, gb125, gb126⟩ w42 ⟨hS_, h0_, h1_, h2_, h3_, h4_, h5_, h6_, h7_, h8_, h9_, h10_, h11_, h12_, h13_, h14_, h15_, h16_, h17_, h18_, h19_, h20_, h21_, h22_, h23_, h24_, h25_, h26_, h27_, h28_, h29_, h30_, h31_, h32_, h33_, h34_⟩
    (try dsimp only at h0_ h1_ h2_ h3_ h4_ h5_ h6_ h7_ h8_ h9_ h10_ h11_ h12_ h13_ h14_ h15_ h16_ h17_ h18_ h19_ h20_ h21_ h22_ h23_ h24_ h25_ h26_ h27_ h28_ h29_ h30_ h31_ h32_ h33_ h34_)
    replace HO107 := Aside0.mk h0_
    replace HO110 := Aside0.mk h1_
    replace HO114 := Aside0.mk h2_
    replace HO116 := Aside0.mk h3_
    have HO120 := Aside0.mk h4_
    have HO124 := Aside0.mk h5_
    replace BK101 := Aside0.mk h6_
    replace BK102 := Aside0.mk h7_
    replace BK103 := Aside0.mk h8_
    replace BK104 := Aside0.mk h9_
    have BK125 := Aside0.mk h10_
    have BK126 := Aside0.mk h11_
    have GW125 := Aside0.mk h12_
    have GE125 := Aside0.mk h13_
    have NB101_125 := Aside0.mk h14_
    have NB125_101 := Aside0.mk h15_
    have NB102_125 := Aside0.mk h16_
    have NB125_102 := Aside0.mk h17_
    have NB103_125 := Aside0.mk h18_
    have NB125_103 := Aside0.mk h19_
    have NB104_125 := Aside0.mk h20_
    have NB125_104 := Aside0.mk h21_
    have NB126_125 := Aside0.mk h22_
    have NB125_126 := Aside0.mk h23_
    have GW126 := Aside0.mk h24_
    have GE126 := Aside0.mk h25_
    have NB101_126 := Aside0.mk h26_
    have NB126_101 := Aside0.mk h27_
    have NB102_126 := Aside0.mk h28_
    have NB126_102 := Aside0.mk h29_
    have NB103_126 := Aside0.mk h30_
    have NB126_103 := Aside0.mk h31_
    have NB104_126 := Aside0.mk h32_
    have NB126_104 := Aside0.mk h33_
    replace HB := Aside0.mk h34_
    clear h0_ h1_ h2_ h3_ h4_ h5_ h6_ h7_ h8_ h9_ h10_ h11_ h12_ h13_ h14_ h15_ h16_ h17_ h18_ h19_ h20_ h21_ h22_ h23_ h24_ h25_ h26_ h27_ h28_ h29_ h30_ h31_ h32_ h33_ h34_
    have hHeld : w42.cell? ⟨gb101, 0, none⟩ = some (.bool a0_0) ∧ w42.cell? ⟨gb101, 1, none⟩ = some (.slice A0_1 l0_1.length c0_1) ∧ w42.cell? ⟨gb102, 0, none⟩ = some (.bool a1_0) ∧ w42.cell? ⟨gb102, 1, none⟩ = some (.slice A1_1 l1_1.length c1_1) := hS_
    obtain ⟨Ao44, co44, eo44⟩ := Kd.R_slice HO120.out
    (first | subst eo44 | (injection eo44 with f1_ f2_ f3_; have f4_ := f1_.symm; have f5_ := f3_.symm; clear f1_ f2_ f3_; subst f4_; subst f5_))
    obtain ⟨Ao47, co47, eo47⟩ := Kd.R_slice HO124.out
    (first | subst eo47 | (injection eo47 with f1_ f2_ f3_; have f4_ := f1_.symm; have f5_ := f3_.symm; clear f1_ f2_ f3_; subst f4_; subst f5_))
    refine norm_ (a' := ?_) ?_ ?_
    rotate_left
    · simp only [putAll, Act.put, List.setIfInBounds_toArray, List.set_cons_zero, List.set_cons_succ]
      rfl
    refine one_ (i := 13) (N := none) #[true, true, true, true, true, true, true, true, true, true, true, true, true, true, false] rfl rfl (one_of HT_.out (by kernel_rfl)) (by decide) (fun K hK => ?_)
    have hs43 : w42.cell? ⟨gb125, 0, none⟩ = some (.bool false) := (blk_cell BK125.out 0).trans rfl
    have hfs43 := blk_frozen BK125.out 0
    have hns43_0 := NB101_125.out
    have hns43_1 := NB102_125.out
    have hns43_2 := NB103_125.out
    have hns43_3 := NB104_125.out
    have hns43_5 := NB126_125.out
    have hms43_0 := NB125_101.out
    have hms43_1 := NB125_102.out
    have hms43_2 := NB125_103.out
    have hms43_3 := NB125_104.out
    have hms43_5 := NB125_126.out
    have hs45 : w42.cell? ⟨gb125, 1, none⟩ = some (.slice none 0 0) := (blk_cell BK125.out 1).trans rfl
    have hfs45 := blk_frozen BK125.out 1
    have hns45_0 := NB101_125.out
    have hns45_1 := NB102_125.out
    have hns45_2 := NB103_125.out
    have hns45_3 := NB104_125.out
    have hns45_5 := NB126_125.out
    have hms45_0 := NB125_101.out
    have hms45_1 := NB125_102.out
    have hms45_2 := NB125_103.out
    have hms45_3 := NB125_104.out
    have hms45_5 := NB125_126.out
    refine skip_ (w1 := ?_) (by rfl) rfl ?_ ?_
    rotate_left
    · go_simp
      rfl
    refine hK.out _ _ ⟨((cell_far (p := ⟨gb125, _, none⟩) NB101_125.out _).trans (((cell_far (p := ⟨gb125, _, none⟩) NB101_125.out _).trans (hHeld.1)))), ((cell_far (p := ⟨gb125, _, none⟩) NB101_125.out _).trans (((cell_far (p := ⟨gb125, _, none⟩) NB101_125.out _).trans (hHeld.2.1)))), ((cell_far (p := ⟨gb125, _, none⟩) NB102_125.out _).trans (((cell_far (p := ⟨gb125, _, none⟩) NB102_125.out _).trans (hHeld.2.2.1)))), ((cell_far (p := ⟨gb125, _, none⟩) NB102_125.out _).trans (((cell_far (p := ⟨gb125, _, none⟩) NB102_125.out _).trans (hHeld.2.2.2))))⟩ (fun hHeld => ?_)
    clear hK K
    refine one_ (i := 14) (N := none) #[true, true, true, true, true, true, true, true, true, true, true, true, true, true, true] rfl rfl (one_of HT_.out (by kernel_rfl)) (by decide) (fun K hK => ?_)
    have hs46 : w42.cell? ⟨gb126, 0, none⟩ = some (.bool false) := (blk_cell BK126.out 0).trans rfl
    have hfs46 := blk_frozen BK126.out 0
    have hns46_0 := NB101_126.out
    have hns46_1 := NB102_126.out
    have hns46_2 := NB103_126.out
    have hns46_3 := NB104_126.out
    have hns46_4 := NB125_126.out
    have hms46_0 := NB126_101.out
    have hms46_1 := NB126_102.out
    have hms46_2 := NB126_103.out
    have hms46_3 := NB126_104.out
    have hms46_4 := NB126_125.out
    have hs48 : w42.cell? ⟨gb126, 1, none⟩ = some (.slice none 0 0) := (blk_cell BK126.out 1).trans rfl
    have hfs48 := blk_frozen BK126.out 1
    have hns48_0 := NB101_126.out
    have hns48_1 := NB102_126.out
    have hns48_2 := NB103_126.out
    have hns48_3 := NB104_126.out
    have hns48_4 := NB125_126.out
    have hms48_0 := NB126_101.out
    have hms48_1 := NB126_102.out
    have hms48_2 := NB126_103.out
    have hms48_3 := NB126_104.out
    have hms48_4 := NB126_125.out
    refine skip_ (w1 := ?_) (by rfl) rfl ?_ ?_
    rotate_left
    · go_simp
      rfl
    refine hK.out _ _ ⟨((cell_far (p := ⟨gb126, _, none⟩) NB101_126.out _).trans (((cell_far (p := ⟨gb126, _, none⟩) NB101_126.out _).trans (hHeld.1)))), ((cell_far (p := ⟨gb126, _, none⟩) NB101_126.out _).trans (((cell_far (p := ⟨gb126, _, none⟩) NB101_126.out _).trans (hHeld.2.1)))), ((cell_far (p := ⟨gb126, _, none⟩) NB102_126.out _).trans (((cell_far (p := ⟨gb126, _, none⟩) NB102_126.out _).trans (hHeld.2.2.1)))), ((cell_far (p := ⟨gb126, _, none⟩) NB102_126.out _).trans (((cell_far (p := ⟨gb126, _, none⟩) NB102_126.out _).trans (hHeld.2.2.2))))⟩ (fun hHeld => ?_)
    clear hK K
    refine done_ (done_of HT_.out (by kernel_rfl)) ?_
    go_upto_region 6 with (fail)
    go_cut [43] (fun v43 wc => ∃ (kq : Nat) (x43_23 : Bool), v43 = .bool x43_23 ∧ Aside0 (quadformref01_DivMod.j0 kq t108 x43_23 a1_0 l1_1 t117 t118 t121 t122 = some (r1, r2, r3, r4, r5)) ∧ Aside0 (kq ≤ k) ∧ Aside0 (Kd.R (Kd.int .u32) 69 wc w.heap.size (fun _ => True) (.slice Ao32 t108.length co32) t108) ∧ Aside0 (Kd.R (Kd.int .u32) 69 wc w.heap.size (fun _ => True) (.slice Ao44 t118.length co44) t118) ∧ Aside0 (Kd.R (Kd.int .u32) 69 wc w.heap.size (fun _ => True) (.slice Ao47 t122.length co47) t122) ∧ Aside0 (wc.heap[gb101]? = some (.cells #[.bool a0_0, (.slice A0_1 l0_1.length c0_1)] 40 (0, 0))) ∧ Aside0 (wc.heap[gb102]? = some (.cells #[.bool a1_0, (.slice A1_1 l1_1.length c1_1)] 40 (0, 0))) ∧ Aside0 (wc.heap[gb103]? = some (.cells #[.bool false, (.slice none 0 0)] 40 (0, 0))) ∧ Aside0 (wc.heap[gb104]? = some (.cells #[.bool false, (.slice none 0 0)] 40 (0, 0))) ∧ Aside0 (wc.heap[gb125]? = some (.cells #[.bool t117, (.slice Ao44 t118.length co44)] 40 (0, 0))) ∧ Aside0 (wc.heap[gb126]? = some (.cells #[.bool t121, (.slice Ao47 t122.length co47)] 40 (0, 0))) ∧ Aside0 (Below w.heap.size w wc))
    case first =>
      have H := HC24.out
      clear HC24
      replace H := Option.bind_eq_some_iff.mp H
      obtain ⟨t127, A490, H⟩ := H
      replace H : (quadformref01_DivMod.j0 k t108 (decide (t127 < 0)) a1_0 l1_1 t117 t118 t121 t122) = some (r1, r2, r3, r4, r5) := H
      have A49 := Aside0.mk A490
      clear A490
      have H' := Aside0.mk H
      clear H
      have hnb50 := NB126_101.out
      have hnc50 := NB101_126.out
      have hnb51 := NB126_102.out
      have hnc51 := NB102_126.out
      have hnb52 := NB126_103.out
      have hnc52 := NB103_126.out
      have hnb53 := NB126_104.out
      have hnc53 := NB104_126.out
      have hnb54 := NB126_125.out
      have hnc54 := NB125_126.out
      have hcz55_0 : w42.cell? ⟨gb126, 0, none⟩ = some (.bool false) := (blk_cell BK126.out 0).trans rfl
      have hcz55_1 : w42.cell? ⟨gb126, 1, none⟩ = some (.slice none 0 0) := (blk_cell BK126.out 1).trans rfl
      have hfz55_0 := blk_frozen BK126.out 0
      have hfz55_1 := blk_frozen BK126.out 1
      go_wp2_with (first | ((with_reducible refine gate_callee (f := 42) rfl ?_); refine goesL_ (some 42) rfl rfl Try.func42 (by kernel_rfl) rfl #[.agg #[.bool t121, .slice Ao47 t122.length co47]] rfl (by (try simp only [List.map_toArray, List.map_cons, List.map_nil]); first | done | rfl | (simp only [List.length_drop, List.length_take]; rfl)) ?_; (with_reducible refine (quadformref01_Sign.calls k t121 _ _ t122 t127 _ ?side1 ?side2 A49.out).mono ?_); (case side1 => refine (Kd.R_reads' (e := 69) (base := w.heap.size) (ok := fun k_ => True) (n := t122.length) (c := co47) ?_).2.2; exact (rr ((Kd.R_mono (Kd.R_mono (Kd.R_far (p := ⟨gb126, 1, none⟩) (Kd.R_far (p := ⟨gb126, 0, none⟩) (Kd.R_far (p := ⟨gb125, 1, none⟩) (Kd.R_far (p := ⟨gb125, 0, none⟩) (Kd.R_types (Kd.R_types HO124.out BK125.out (by decide)) BK126.out (by decide)) (fun _ hk => hk.1.2) (.bool t117)) (fun _ hk => hk.1.2) (.slice Ao44 t118.length co44)) (fun _ hk => hk.2) (.bool t121)) (fun _ hk => hk.2) (.slice Ao47 t122.length co47)) (fun _ h_ => h_.1)) (fun _ h_ => h_.1))))); (case side2 => exact (Kd.R_reads' HO124.out).2.1); rintro e w56 ⟨rfl, hb⟩; refine ⟨_, rfl, ?_⟩; have n0_ := Aside0.mk (Kd.R_below (rr ((Kd.R_mono (Kd.R_mono (Kd.R_far (p := ⟨gb126, 1, none⟩) (Kd.R_far (p := ⟨gb126, 0, none⟩) (Kd.R_far (p := ⟨gb125, 1, none⟩) (Kd.R_far (p := ⟨gb125, 0, none⟩) (Kd.R_types (Kd.R_types HO107.out BK125.out (by decide)) BK126.out (by decide)) (fun _ hk => hk.1.2) (.bool t117)) (fun _ hk => hk.1.2) (.slice Ao44 t118.length co44)) (fun _ hk => hk.2) (.bool t121)) (fun _ hk => hk.2) (.slice Ao47 t122.length co47)) (fun _ h_ => h_.1)) (fun _ h_ => h_.1)))) hb); have n1_ := Aside0.mk (Kd.R_below (rr ((Kd.R_mono (Kd.R_mono (Kd.R_far (p := ⟨gb126, 1, none⟩) (Kd.R_far (p := ⟨gb126, 0, none⟩) (Kd.R_far (p := ⟨gb125, 1, none⟩) (Kd.R_far (p := ⟨gb125, 0, none⟩) (Kd.R_types (Kd.R_types HO110.out BK125.out (by decide)) BK126.out (by decide)) (fun _ hk => hk.1.2) (.bool t117)) (fun _ hk => hk.1.2) (.slice Ao44 t118.length co44)) (fun _ hk => hk.2) (.bool t121)) (fun _ hk => hk.2) (.slice Ao47 t122.length co47)) (fun _ h_ => h_.1)) (fun _ h_ => h_.1)))) hb); have n2_ := Aside0.mk (Kd.R_below (rr ((Kd.R_mono (Kd.R_mono (Kd.R_far (p := ⟨gb126, 1, none⟩) (Kd.R_far (p := ⟨gb126, 0, none⟩) (Kd.R_far (p := ⟨gb125, 1, none⟩) (Kd.R_far (p := ⟨gb125, 0, none⟩) (Kd.R_types (Kd.R_types HO114.out BK125.out (by decide)) BK126.out (by decide)) (fun _ hk => hk.1.2) (.bool t117)) (fun _ hk => hk.1.2) (.slice Ao44 t118.length co44)) (fun _ hk => hk.2) (.bool t121)) (fun _ hk => hk.2) (.slice Ao47 t122.length co47)) (fun _ h_ => h_.1)) (fun _ h_ => h_.1)))) hb); have n3_ := Aside0.mk (Kd.R_below (rr ((Kd.R_mono (Kd.R_mono (Kd.R_far (p := ⟨gb126, 1, none⟩) (Kd.R_far (p := ⟨gb126, 0, none⟩) (Kd.R_far (p := ⟨gb125, 1, none⟩) (Kd.R_far (p := ⟨gb125, 0, none⟩) (Kd.R_types (Kd.R_types HO116.out BK125.out (by decide)) BK126.out (by decide)) (fun _ hk => hk.1.2) (.bool t117)) (fun _ hk => hk.1.2) (.slice Ao44 t118.length co44)) (fun _ hk => hk.2) (.bool t121)) (fun _ hk => hk.2) (.slice Ao47 t122.length co47)) (fun _ h_ => h_.1)) (fun _ h_ => h_.1)))) hb); have n4_ := Aside0.mk (Kd.R_below (rr ((Kd.R_mono (Kd.R_mono (Kd.R_far (p := ⟨gb126, 1, none⟩) (Kd.R_far (p := ⟨gb126, 0, none⟩) (Kd.R_far (p := ⟨gb125, 1, none⟩) (Kd.R_far (p := ⟨gb125, 0, none⟩) (Kd.R_types (Kd.R_types HO120.out BK125.out (by decide)) BK126.out (by decide)) (fun _ hk => hk.1.2) (.bool t117)) (fun _ hk => hk.1.2) (.slice Ao44 t118.length co44)) (fun _ hk => hk.2) (.bool t121)) (fun _ hk => hk.2) (.slice Ao47 t122.length co47)) (fun _ h_ => h_.1)) (fun _ h_ => h_.1)))) hb); have n5_ := Aside0.mk (Kd.R_below (rr ((Kd.R_mono (Kd.R_mono (Kd.R_far (p := ⟨gb126, 1, none⟩) (Kd.R_far (p := ⟨gb126, 0, none⟩) (Kd.R_far (p := ⟨gb125, 1, none⟩) (Kd.R_far (p := ⟨gb125, 0, none⟩) (Kd.R_types (Kd.R_types HO124.out BK125.out (by decide)) BK126.out (by decide)) (fun _ hk => hk.1.2) (.bool t117)) (fun _ hk => hk.1.2) (.slice Ao44 t118.length co44)) (fun _ hk => hk.2) (.bool t121)) (fun _ hk => hk.2) (.slice Ao47 t122.length co47)) (fun _ h_ => h_.1)) (fun _ h_ => h_.1)))) hb); have n6_ := Aside0.mk (blk_below (g := gb101) (o := .cells #[.bool a0_0, .slice A0_1 l0_1.length c0_1] 40 (0, 0)) (by (with_reducible repeat (first | refine blk_drewN ?_ _ | refine blk_drew ?_ | refine blk_alloc ?_ _)); refine blk_far ?_ NB101_126.out _; (with_reducible repeat (first | refine blk_drewN ?_ _ | refine blk_drew ?_ | refine blk_alloc ?_ _)); refine blk_far ?_ NB101_126.out _; (with_reducible repeat (first | refine blk_drewN ?_ _ | refine blk_drew ?_ | refine blk_alloc ?_ _)); refine blk_far ?_ NB101_125.out _; (with_reducible repeat (first | refine blk_drewN ?_ _ | refine blk_drew ?_ | refine blk_alloc ?_ _)); refine blk_far ?_ NB101_125.out _; (with_reducible repeat (first | refine blk_drewN ?_ _ | refine blk_drew ?_ | refine blk_alloc ?_ _)); exact BK101.out) hb); have n7_ := Aside0.mk (blk_below (g := gb102) (o := .cells #[.bool a1_0, .slice A1_1 l1_1.length c1_1] 40 (0, 0)) (by (with_reducible repeat (first | refine blk_drewN ?_ _ | refine blk_drew ?_ | refine blk_alloc ?_ _)); refine blk_far ?_ NB102_126.out _; (with_reducible repeat (first | refine blk_drewN ?_ _ | refine blk_drew ?_ | refine blk_alloc ?_ _)); refine blk_far ?_ NB102_126.out _; (with_reducible repeat (first | refine blk_drewN ?_ _ | refine blk_drew ?_ | refine blk_alloc ?_ _)); refine blk_far ?_ NB102_125.out _; (with_reducible repeat (first | refine blk_drewN ?_ _ | refine blk_drew ?_ | refine blk_alloc ?_ _)); refine blk_far ?_ NB102_125.out _; (with_reducible repeat (first | refine blk_drewN ?_ _ | refine blk_drew ?_ | refine blk_alloc ?_ _)); exact BK102.out) hb); have n8_ := Aside0.mk (blk_below (g := gb103) (o := .cells #[.bool false, .slice none 0 0] 40 (0, 0)) (by (with_reducible repeat (first | refine blk_drewN ?_ _ | refine blk_drew ?_ | refine blk_alloc ?_ _)); refine blk_far ?_ NB103_126.out _; (with_reducible repeat (first | refine blk_drewN ?_ _ | refine blk_drew ?_ | refine blk_alloc ?_ _)); refine blk_far ?_ NB103_126.out _; (with_reducible repeat (first | refine blk_drewN ?_ _ | refine blk_drew ?_ | refine blk_alloc ?_ _)); refine blk_far ?_ NB103_125.out _; (with_reducible repeat (first | refine blk_drewN ?_ _ | refine blk_drew ?_ | refine blk_alloc ?_ _)); refine blk_far ?_ NB103_125.out _; (with_reducible repeat (first | refine blk_drewN ?_ _ | refine blk_drew ?_ | refine blk_alloc ?_ _)); exact BK103.out) hb); have n9_ := Aside0.mk (blk_below (g := gb104) (o := .cells #[.bool false, .slice none 0 0] 40 (0, 0)) (by (with_reducible repeat (first | refine blk_drewN ?_ _ | refine blk_drew ?_ | refine blk_alloc ?_ _)); refine blk_far ?_ NB104_126.out _; (with_reducible repeat (first | refine blk_drewN ?_ _ | refine blk_drew ?_ | refine blk_alloc ?_ _)); refine blk_far ?_ NB104_126.out _; (with_reducible repeat (first | refine blk_drewN ?_ _ | refine blk_drew ?_ | refine blk_alloc ?_ _)); refine blk_far ?_ NB104_125.out _; (with_reducible repeat (first | refine blk_drewN ?_ _ | refine blk_drew ?_ | refine blk_alloc ?_ _)); refine blk_far ?_ NB104_125.out _; (with_reducible repeat (first | refine blk_drewN ?_ _ | refine blk_drew ?_ | refine blk_alloc ?_ _)); exact BK104.out) hb); have n10_ := Aside0.mk (blk_below (g := gb125) (o := .cells #[.bool t117, .slice Ao44 t118.length co44] 40 (0, 0)) (by (with_reducible repeat (first | refine blk_drewN ?_ _ | refine blk_drew ?_ | refine blk_alloc ?_ _)); refine blk_far ?_ NB125_126.out _; (with_reducible repeat (first | refine blk_drewN ?_ _ | refine blk_drew ?_ | refine blk_alloc ?_ _)); refine blk_far ?_ NB125_126.out _; (with_reducible repeat (first | refine blk_drewN ?_ _ | refine blk_drew ?_ | refine blk_alloc ?_ _)); refine blk_put (cs := #[.bool t117, .slice none 0 0]) ?_ 1 _ rfl; (with_reducible repeat (first | refine blk_drewN ?_ _ | refine blk_drew ?_ | refine blk_alloc ?_ _)); refine blk_put (cs := #[.bool false, .slice none 0 0]) ?_ 0 _ rfl; (with_reducible repeat (first | refine blk_drewN ?_ _ | refine blk_drew ?_ | refine blk_alloc ?_ _)); exact BK125.out) hb); have n11_ := Aside0.mk (blk_below (g := gb126) (o := .cells #[.bool t121, .slice Ao47 t122.length co47] 40 (0, 0)) (by (with_reducible repeat (first | refine blk_drewN ?_ _ | refine blk_drew ?_ | refine blk_alloc ?_ _)); refine blk_put (cs := #[.bool t121, .slice none 0 0]) ?_ 1 _ rfl; (with_reducible repeat (first | refine blk_drewN ?_ _ | refine blk_drew ?_ | refine blk_alloc ?_ _)); refine blk_put (cs := #[.bool false, .slice none 0 0]) ?_ 0 _ rfl; (with_reducible repeat (first | refine blk_drewN ?_ _ | refine blk_drew ?_ | refine blk_alloc ?_ _)); refine blk_far ?_ NB126_125.out _; (with_reducible repeat (first | refine blk_drewN ?_ _ | refine blk_drew ?_ | refine blk_alloc ?_ _)); refine blk_far ?_ NB126_125.out _; (with_reducible repeat (first | refine blk_drewN ?_ _ | refine blk_drew ?_ | refine blk_alloc ?_ _)); exact BK126.out) hb); have n12_ := Aside0.mk (below_step bw hb); clear HO107; clear HO110; clear HO114; clear HO116; clear HO120; clear HO124; clear BK101; clear BK102; clear BK103; clear BK104; clear BK125; clear BK126; clear HB; have HO107 := n0_; have HO110 := n1_; have HO114 := n2_; have HO116 := n3_; have HO120 := n4_; have HO124 := n5_; have BK101 := n6_; have BK102 := n7_; have BK103 := n8_; have BK104 := n9_; have BK125 := n10_; have BK126 := n11_; have HB := n12_; clear n0_ n1_ n2_ n3_ n4_ n5_ n6_ n7_ n8_ n9_ n10_ n11_ n12_; (try clear hb); (try clear hb2); (try clear hk); (try clear hi)))
      go_meet
      case rel => exact ⟨_, (decide (t127 < 0)), sd, H', ⟨by first | omega | exact Nat.le_refl _⟩, ⟨rr HO110.out⟩, ⟨rr HO120.out⟩, ⟨rr HO124.out⟩, ⟨bk BK101.out⟩, ⟨bk BK102.out⟩, ⟨bk BK103.out⟩, ⟨bk BK104.out⟩, ⟨bk BK125.out⟩, ⟨bk BK126.out⟩, ⟨bw⟩⟩
    case rest =>
      clear HC24
      try clear c1
      try clear p2
      try clear c4
      try clear c5
      try clear c42
      try clear c50
      try clear c51
      try clear c52
      try clear c53
      try clear c54
      try clear c56
      try clear hcz55_0
      try clear hcz55_1
      try clear hfz55_0
      try clear hfz55_1
      obtain ⟨kq, x43_23, rfl, HA, HJ23, HO_8, HO_126001, HO_127001, BK101, BK102, BK103, BK104, BK125, BK126, HB⟩ := hcut
      cases kq with
      | zero => exact absurd HA.out (by simp [quadformref01_DivMod.j0])
      | succ kj23 =>
        have H := HA.out
        clear HA
        simp only [quadformref01_DivMod.j0] at H
        by_cases c57 : x43_23 = true
        · subst c57
          have H1 : ((quadformref01_Make.f kj23 false t108).bind fun bt128 => ((quadformref01_Add.f kj23 t121 t122 bt128.1 bt128.2).bind fun bt132 => ((quadformref01_Sign.f kj23 a1_0 l1_1).bind fun t136 => (quadformref01_DivMod.j1 kj23 (decide (t136 < 0)) t117 t118 bt132.1 bt132.2)))) = some (r1, r2, r3, r4, r5) := by rw [if_pos rfl] at H; exact H
          clear H
          have H := H1
          clear H1
          replace H := Option.bind_eq_some_iff.mp H
          obtain ⟨⟨t128, t129⟩, A580, H⟩ := H
          replace H : ((quadformref01_Add.f kj23 t121 t122 t128 t129).bind fun bt132 => ((quadformref01_Sign.f kj23 a1_0 l1_1).bind fun t136 => (quadformref01_DivMod.j1 kj23 (decide (t136 < 0)) t117 t118 bt132.1 bt132.2))) = some (r1, r2, r3, r4, r5) := H
          have A58 := Aside0.mk A580
          clear A580
          replace H := Option.bind_eq_some_iff.mp H
          obtain ⟨⟨t132, t133⟩, A590, H⟩ := H
          replace H : ((quadformref01_Sign.f kj23 a1_0 l1_1).bind fun t136 => (quadformref01_DivMod.j1 kj23 (decide (t136 < 0)) t117 t118 t132 t133)) = some (r1, r2, r3, r4, r5) := H
          have A59 := Aside0.mk A590
          clear A590
          have HC60 := Aside0.mk H
          clear H
          try go_wp2
          replace HO_8 := Aside0.mk (Kd.R_drew HO_8.out)
          replace HO_126001 := Aside0.mk (Kd.R_drew HO_126001.out)
          replace HO_127001 := Aside0.mk (Kd.R_drew HO_127001.out)
          replace BK101 := Aside0.mk (blk_drew BK101.out)
          replace BK102 := Aside0.mk (blk_drew BK102.out)
          replace BK103 := Aside0.mk (blk_drew BK103.out)
          replace BK104 := Aside0.mk (blk_drew BK104.out)
          replace BK125 := Aside0.mk (blk_drew BK125.out)
          replace BK126 := Aside0.mk (blk_drew BK126.out)
          replace HB := Aside0.mk (below_drew1 HB.out)
          refine start_ (n := 5) (S := fun w' => w'.cell? ⟨gb126, 0, none⟩ = some (.bool t121) ∧ w'.cell? ⟨gb126, 1, none⟩ = some (.slice Ao47 t122.length co47)) (ds := [4]) #[false, false, false, false, false] (by kernel_rfl) rfl rfl ⟨(blk_cell BK126.out 0).trans rfl, (blk_cell BK126.out 1).trans rfl⟩ (fun hHeld => ?_)
          generalize wc.drew = w61 at HO_8 HO_126001 HO_127001 BK101 BK102 BK103 BK104 BK125 BK126 HB hHeld ⊢
          refine pure_ (i := 1) (N := some 45) (v := ?_) (a' := ?_) #[false, true, false, false, false] rfl rfl (by kernel_rfl) (fun _ _ _ h => h) (Or.inl ⟨by rfl, ?_⟩) ?_ ?_
          rotate_left
          · intro w'
            go_simp
            with_reducible rfl
          rotate_left
          · simp only [Act.put, List.setIfInBounds_toArray, List.set_cons_zero, List.set_cons_succ, i64_w, i32_w]
            rfl
          refine take_ (i := 0) (N := some 44) (v := ?_) (a' := ?_) #[true, true, false, false, false] rfl rfl (by kernel_rfl) (fun _ _ _ h => h) (Or.inl ⟨by rfl, ?_⟩) hHeld ?_ ?_
          rotate_left
          · rintro w' ⟨s0, s1⟩
            go_simp
            with_reducible rfl
          rotate_left
          · simp only [Act.put, List.setIfInBounds_toArray, List.set_cons_zero, List.set_cons_succ, i64_w, i32_w]
            rfl
          refine one_ (i := 2) (N := some 46) #[true, true, true, false, false] rfl rfl (by kernel_rfl) (by decide) (fun K hK => ?_)
          refine goes_ Try.func56 (by kernel_rfl) rfl #[.bool false, .slice Ao32 t108.length co32] (by rfl) rfl rfl (by (try simp only [List.map_toArray, List.map_cons, List.map_nil]); first | done | rfl | (simp only [List.length_drop, List.length_take]; rfl)) ?_
          with_reducible refine (quadformref01_Make.calls kj23 false _ _ t108 t128 t129 _ ?side1 ?side2 A58.out).mono ?_
          (case side1 => repeat (first | exact (Kd.R_reads' HO_8.out).2.2 | (with_reducible refine Kd.C_alloc ?_ _) | (with_reducible refine Kd.C_drewN ?_ _) | (with_reducible refine Kd.C_drew ?_)))
          (case side2 => exact (Kd.R_reads' HO_8.out).2.1)
          rintro e w62 ⟨v130, rfl, ho0, hb⟩
          refine ⟨_, rfl, ?_⟩
          replace HO_8 := Aside0.mk (Kd.R_below (rr HO_8.out) hb)
          replace HO_126001 := Aside0.mk (Kd.R_below (rr HO_126001.out) hb)
          replace HO_127001 := Aside0.mk (Kd.R_below (rr HO_127001.out) hb)
          have HO131 := Aside0.mk (Kd.R_lower ho0 (below_size bw))
          replace BK101 := Aside0.mk (bb BK101.out hb)
          replace BK102 := Aside0.mk (bb BK102.out hb)
          replace BK103 := Aside0.mk (bb BK103.out hb)
          replace BK104 := Aside0.mk (bb BK104.out hb)
          replace BK125 := Aside0.mk (bb BK125.out hb)
          replace BK126 := Aside0.mk (bb BK126.out hb)
          replace HB := Aside0.mk (below_step bw hb)
          (try clear hb)
          (try clear hb2)
          (try clear hk)
          (try clear hi)
          (try clear ho0)
          obtain ⟨Ao63, co63, eo63⟩ := Kd.R_slice HO131.out
          (first | subst eo63 | (injection eo63 with f1_ f2_ f3_; have f4_ := f1_.symm; have f5_ := f3_.symm; clear f1_ f2_ f3_; subst f4_; subst f5_))
          refine hK.out _ _ ⟨(blk_cell BK126.out 0).trans rfl, (blk_cell BK126.out 1).trans rfl⟩ (fun hHeld => ?_)
          clear hK K
          refine norm_ (a' := ?_) ?_ ?_
          rotate_left
          · show Act.put _ (some 46) _ = _
            simp only [Act.put, List.setIfInBounds_toArray, List.set_cons_zero, List.set_cons_succ, i64_w, i32_w]
            rfl
          refine one_ (i := 3) (N := some 47) #[true, true, true, true, false] rfl rfl (by kernel_rfl) (by decide) (fun K hK => ?_)
          refine goes_ Try.func66 (by kernel_rfl) rfl #[.agg #[.bool t121, .slice Ao47 t122.length co47], .agg #[.bool t128, .slice Ao63 t129.length co63]] (by rfl) rfl rfl (by (try simp only [List.map_toArray, List.map_cons, List.map_nil]); first | done | rfl | (simp only [List.length_drop, List.length_take]; rfl)) ?_
          with_reducible refine (quadformref01_Add.calls kj23 t121 _ _ t122 t128 _ _ t129 t132 t133 _ ?side1 ?side2 ?side3 ?side4 A59.out).mono ?_
          (case side1 => repeat (first | exact (Kd.R_reads' HO_127001.out).2.2 | (with_reducible refine Kd.C_alloc ?_ _) | (with_reducible refine Kd.C_drewN ?_ _) | (with_reducible refine Kd.C_drew ?_)))
          (case side2 => exact (Kd.R_reads' HO_127001.out).2.1)
          (case side3 => repeat (first | exact (Kd.R_reads' HO131.out).2.2 | (with_reducible refine Kd.C_alloc ?_ _) | (with_reducible refine Kd.C_drewN ?_ _) | (with_reducible refine Kd.C_drew ?_)))
          (case side4 => exact (Kd.R_reads' HO131.out).2.1)
          rintro e w64 ⟨v134, rfl, ho0, hb⟩
          refine ⟨_, rfl, ?_⟩
          replace HO_8 := Aside0.mk (Kd.R_below (rr HO_8.out) hb)
          replace HO_126001 := Aside0.mk (Kd.R_below (rr HO_126001.out) hb)
          replace HO_127001 := Aside0.mk (Kd.R_below (rr HO_127001.out) hb)
          replace HO131 := Aside0.mk (Kd.R_below (rr HO131.out) hb)
          have HO135 := Aside0.mk (Kd.R_lower ho0 (below_size bw))
          replace BK101 := Aside0.mk (bb BK101.out hb)
          replace BK102 := Aside0.mk (bb BK102.out hb)
          replace BK103 := Aside0.mk (bb BK103.out hb)
          replace BK104 := Aside0.mk (bb BK104.out hb)
          replace BK125 := Aside0.mk (bb BK125.out hb)
          replace BK126 := Aside0.mk (bb BK126.out hb)
          replace HB := Aside0.mk (below_step bw hb)
          (try clear hb)
          (try clear hb2)
          (try clear hk)
          (try clear hi)
          (try clear ho0)
          obtain ⟨Ao66, co66, eo66⟩ := Kd.R_slice HO135.out
          (first | subst eo66 | (injection eo66 with f1_ f2_ f3_; have f4_ := f1_.symm; have f5_ := f3_.symm; clear f1_ f2_ f3_; subst f4_; subst f5_))
          refine hK.out _ _ ⟨(blk_cell BK126.out 0).trans rfl, (blk_cell BK126.out 1).trans rfl⟩ (fun hHeld => ?_)
          clear hK K
          refine norm_ (a' := ?_) ?_ ?_
          rotate_left
          · show Act.put _ (some 47) _ = _
            simp only [Act.put, List.setIfInBounds_toArray, List.set_cons_zero, List.set_cons_succ, i64_w, i32_w]
            rfl
          refine last_ (i := 4) (N := none) #[true, true, true, true, true] rfl rfl (by kernel_rfl) (by decide) (fun K hK => ?_)
          have hs65 : w64.cell? ⟨gb126, 0, none⟩ = some (.bool t121) := (blk_cell BK126.out 0).trans rfl
          have hfs65 := blk_frozen BK126.out 0
          have hns65_0 := NB101_126.out
          have hns65_1 := NB102_126.out
          have hns65_2 := NB103_126.out
          have hns65_3 := NB104_126.out
          have hns65_4 := NB125_126.out
          have hms65_0 := NB126_101.out
          have hms65_1 := NB126_102.out
          have hms65_2 := NB126_103.out
          have hms65_3 := NB126_104.out
          have hms65_4 := NB126_125.out
          have hs67 : w64.cell? ⟨gb126, 1, none⟩ = some (.slice Ao47 t122.length co47) := (blk_cell BK126.out 1).trans rfl
          have hfs67 := blk_frozen BK126.out 1
          have hns67_0 := NB101_126.out
          have hns67_1 := NB102_126.out
          have hns67_2 := NB103_126.out
          have hns67_3 := NB104_126.out
          have hns67_4 := NB125_126.out
          have hms67_0 := NB126_101.out
          have hms67_1 := NB126_102.out
          have hms67_2 := NB126_103.out
          have hms67_3 := NB126_104.out
          have hms67_4 := NB126_125.out
          refine skip_ (w1 := ?_) (by rfl) rfl ?_ ?_
          rotate_left
          · go_simp
            rfl
          refine hK.out _ _ ?_
          clear hK K
          refine done_ (by kernel_rfl) ?_
          go_upto_region 8 with (fail)
          go_cut [50] (fun v50 wc => ∃ (kq : Nat) (x50_59 : Bool), v50 = .bool x50_59 ∧ Aside0 (quadformref01_DivMod.j1 kq x50_59 t117 t118 t132 t133 = some (r1, r2, r3, r4, r5)) ∧ Aside0 (kq ≤ kj23) ∧ Aside0 (Kd.R (Kd.int .u32) 69 wc w.heap.size (fun _ => True) (.slice Ao44 t118.length co44) t118) ∧ Aside0 (Kd.R (Kd.int .u32) 69 wc w.heap.size (fun _ => True) (.slice Ao66 t133.length co66) t133) ∧ Aside0 (wc.heap[gb101]? = some (.cells #[.bool a0_0, (.slice A0_1 l0_1.length c0_1)] 40 (0, 0))) ∧ Aside0 (wc.heap[gb102]? = some (.cells #[.bool a1_0, (.slice A1_1 l1_1.length c1_1)] 40 (0, 0))) ∧ Aside0 (wc.heap[gb103]? = some (.cells #[.bool false, (.slice none 0 0)] 40 (0, 0))) ∧ Aside0 (wc.heap[gb104]? = some (.cells #[.bool false, (.slice none 0 0)] 40 (0, 0))) ∧ Aside0 (wc.heap[gb125]? = some (.cells #[.bool t117, (.slice Ao44 t118.length co44)] 40 (0, 0))) ∧ Aside0 (wc.heap[gb126]? = some (.cells #[.bool t132, (.slice Ao66 t133.length co66)] 40 (0, 0))) ∧ Aside0 (Below w.heap.size w wc))
          case first =>
            have H := HC60.out
            clear HC60
            replace H := Option.bind_eq_some_iff.mp H
            obtain ⟨t136, A680, H⟩ := H
            replace H : (quadformref01_DivMod.j1 kj23 (decide (t136 < 0)) t117 t118 t132 t133) = some (r1, r2, r3, r4, r5) := H
            have A68 := Aside0.mk A680
            clear A680
            have H' := Aside0.mk H
            clear H
            have hnb69 := NB102_101.out
            have hnc69 := NB101_102.out
            have hnb70 := NB102_103.out
            have hnc70 := NB103_102.out
            have hnb71 := NB102_104.out
            have hnc71 := NB104_102.out
            have hnb72 := NB102_125.out
            have hnc72 := NB125_102.out
            have hnb73 := NB102_126.out
            have hnc73 := NB126_102.out
            have hcz74_0 : w64.cell? ⟨gb102, 0, none⟩ = some (.bool a1_0) := (blk_cell BK102.out 0).trans rfl
            have hcz74_1 : w64.cell? ⟨gb102, 1, none⟩ = some (.slice A1_1 l1_1.length c1_1) := (blk_cell BK102.out 1).trans rfl
            have hfz74_0 := blk_frozen BK102.out 0
            have hfz74_1 := blk_frozen BK102.out 1
            go_wp2_with (first | ((with_reducible refine gate_callee (f := 42) rfl ?_); refine goesL_ (some 49) rfl rfl Try.func42 (by kernel_rfl) rfl #[.agg #[.bool a1_0, .slice A1_1 l1_1.length c1_1]] rfl (by (try simp only [List.map_toArray, List.map_cons, List.map_nil]); first | done | rfl | (simp only [List.length_drop, List.length_take]; rfl)) ?_; (with_reducible refine (quadformref01_Sign.calls kj23 a1_0 _ _ l1_1 t136 _ ?side1 ?side2 A68.out).mono ?_); (case side1 => exact Kd.C_below HR1_1.out bw); (case side2 => exact HC1_1.out); rintro e w75 ⟨rfl, hb⟩; refine ⟨_, rfl, ?_⟩; have n0_ := Aside0.mk (Kd.R_below (rr ((Kd.R_mono (Kd.R_far (p := ⟨gb126, 1, none⟩) (Kd.R_far (p := ⟨gb126, 0, none⟩) (Kd.R_types HO_8.out BK126.out (by decide)) (fun _ hk => hk.2) (.bool t132)) (fun _ hk => hk.2) (.slice Ao66 t133.length co66)) (fun _ h_ => h_.1)))) hb); have n1_ := Aside0.mk (Kd.R_below (rr ((Kd.R_mono (Kd.R_far (p := ⟨gb126, 1, none⟩) (Kd.R_far (p := ⟨gb126, 0, none⟩) (Kd.R_types HO_126001.out BK126.out (by decide)) (fun _ hk => hk.2) (.bool t132)) (fun _ hk => hk.2) (.slice Ao66 t133.length co66)) (fun _ h_ => h_.1)))) hb); have n2_ := Aside0.mk (Kd.R_below (rr ((Kd.R_mono (Kd.R_far (p := ⟨gb126, 1, none⟩) (Kd.R_far (p := ⟨gb126, 0, none⟩) (Kd.R_types HO_127001.out BK126.out (by decide)) (fun _ hk => hk.2) (.bool t132)) (fun _ hk => hk.2) (.slice Ao66 t133.length co66)) (fun _ h_ => h_.1)))) hb); have n3_ := Aside0.mk (Kd.R_below (rr ((Kd.R_mono (Kd.R_far (p := ⟨gb126, 1, none⟩) (Kd.R_far (p := ⟨gb126, 0, none⟩) (Kd.R_types HO131.out BK126.out (by decide)) (fun _ hk => hk.2) (.bool t132)) (fun _ hk => hk.2) (.slice Ao66 t133.length co66)) (fun _ h_ => h_.1)))) hb); have n4_ := Aside0.mk (Kd.R_below (rr ((Kd.R_mono (Kd.R_far (p := ⟨gb126, 1, none⟩) (Kd.R_far (p := ⟨gb126, 0, none⟩) (Kd.R_types HO135.out BK126.out (by decide)) (fun _ hk => hk.2) (.bool t132)) (fun _ hk => hk.2) (.slice Ao66 t133.length co66)) (fun _ h_ => h_.1)))) hb); have n5_ := Aside0.mk (blk_below (g := gb101) (o := .cells #[.bool a0_0, .slice A0_1 l0_1.length c0_1] 40 (0, 0)) (by (with_reducible repeat (first | refine blk_drewN ?_ _ | refine blk_drew ?_ | refine blk_alloc ?_ _)); refine blk_far ?_ NB101_126.out _; (with_reducible repeat (first | refine blk_drewN ?_ _ | refine blk_drew ?_ | refine blk_alloc ?_ _)); refine blk_far ?_ NB101_126.out _; (with_reducible repeat (first | refine blk_drewN ?_ _ | refine blk_drew ?_ | refine blk_alloc ?_ _)); exact BK101.out) hb); have n6_ := Aside0.mk (blk_below (g := gb102) (o := .cells #[.bool a1_0, .slice A1_1 l1_1.length c1_1] 40 (0, 0)) (by (with_reducible repeat (first | refine blk_drewN ?_ _ | refine blk_drew ?_ | refine blk_alloc ?_ _)); refine blk_far ?_ NB102_126.out _; (with_reducible repeat (first | refine blk_drewN ?_ _ | refine blk_drew ?_ | refine blk_alloc ?_ _)); refine blk_far ?_ NB102_126.out _; (with_reducible repeat (first | refine blk_drewN ?_ _ | refine blk_drew ?_ | refine blk_alloc ?_ _)); exact BK102.out) hb); have n7_ := Aside0.mk (blk_below (g := gb103) (o := .cells #[.bool false, .slice none 0 0] 40 (0, 0)) (by (with_reducible repeat (first | refine blk_drewN ?_ _ | refine blk_drew ?_ | refine blk_alloc ?_ _)); refine blk_far ?_ NB103_126.out _; (with_reducible repeat (first | refine blk_drewN ?_ _ | refine blk_drew ?_ | refine blk_alloc ?_ _)); refine blk_far ?_ NB103_126.out _; (with_reducible repeat (first | refine blk_drewN ?_ _ | refine blk_drew ?_ | refine blk_alloc ?_ _)); exact BK103.out) hb); have n8_ := Aside0.mk (blk_below (g := gb104) (o := .cells #[.bool false, .slice none 0 0] 40 (0, 0)) (by (with_reducible repeat (first | refine blk_drewN ?_ _ | refine blk_drew ?_ | refine blk_alloc ?_ _)); refine blk_far ?_ NB104_126.out _; (with_reducible repeat (first | refine blk_drewN ?_ _ | refine blk_drew ?_ | refine blk_alloc ?_ _)); refine blk_far ?_ NB104_126.out _; (with_reducible repeat (first | refine blk_drewN ?_ _ | refine blk_drew ?_ | refine blk_alloc ?_ _)); exact BK104.out) hb); have n9_ := Aside0.mk (blk_below (g := gb125) (o := .cells #[.bool t117, .slice Ao44 t118.length co44] 40 (0, 0)) (by (with_reducible repeat (first | refine blk_drewN ?_ _ | refine blk_drew ?_ | refine blk_alloc ?_ _)); refine blk_far ?_ NB125_126.out _; (with_reducible repeat (first | refine blk_drewN ?_ _ | refine blk_drew ?_ | refine blk_alloc ?_ _)); refine blk_far ?_ NB125_126.out _; (with_reducible repeat (first | refine blk_drewN ?_ _ | refine blk_drew ?_ | refine blk_alloc ?_ _)); exact BK125.out) hb); have n10_ := Aside0.mk (blk_below (g := gb126) (o := .cells #[.bool t132, .slice Ao66 t133.length co66] 40 (0, 0)) (by (with_reducible repeat (first | refine blk_drewN ?_ _ | refine blk_drew ?_ | refine blk_alloc ?_ _)); refine blk_put (cs := #[.bool t132, .slice Ao47 t122.length co47]) ?_ 1 _ rfl; (with_reducible repeat (first | refine blk_drewN ?_ _ | refine blk_drew ?_ | refine blk_alloc ?_ _)); refine blk_put (cs := #[.bool t121, .slice Ao47 t122.length co47]) ?_ 0 _ rfl; (with_reducible repeat (first | refine blk_drewN ?_ _ | refine blk_drew ?_ | refine blk_alloc ?_ _)); exact BK126.out) hb); have n11_ := Aside0.mk (below_step bw hb); clear HO_8; clear HO_126001; clear HO_127001; clear HO131; clear HO135; clear BK101; clear BK102; clear BK103; clear BK104; clear BK125; clear BK126; clear HB; have HO_8 := n0_; have HO_126001 := n1_; have HO_127001 := n2_; have HO131 := n3_; have HO135 := n4_; have BK101 := n5_; have BK102 := n6_; have BK103 := n7_; have BK104 := n8_; have BK125 := n9_; have BK126 := n10_; have HB := n11_; clear n0_ n1_ n2_ n3_ n4_ n5_ n6_ n7_ n8_ n9_ n10_ n11_; (try clear hb); (try clear hb2); (try clear hk); (try clear hi)))
            go_meet
            case rel => exact ⟨_, (decide (t136 < 0)), sd, H', ⟨by have := HJ23.out; first | omega | exact Nat.le_refl _⟩, ⟨rr HO_126001.out⟩, ⟨rr HO135.out⟩, ⟨bk BK101.out⟩, ⟨bk BK102.out⟩, ⟨bk BK103.out⟩, ⟨bk BK104.out⟩, ⟨bk BK125.out⟩, ⟨bk BK126.out⟩, ⟨bw⟩⟩
          case rest =>
            clear HC60
            try clear c1
            try clear p2
            try clear c4
            try clear c5
            try clear c6
            try clear c7
            try clear c42
            try clear c50
            try clear c51
            try clear c52
            try clear c53
            try clear c54
            try clear c56
            try clear c57
            try clear c66
            try clear c69
            try clear c70
            try clear c71
            try clear c72
            try clear c73
            try clear hcz55_0
            try clear hcz55_1
            try clear hcz74_0
            try clear hcz74_1
            try clear hfz55_0
            try clear hfz55_1
            try clear hfz74_0
            try clear hfz74_1
            try clear p2
            obtain ⟨kq, x50_59, rfl, HA, HJ59, HO_126001, HO_127001, BK101, BK102, BK103, BK104, BK125, BK126, HB⟩ := hcut
            cases kq with
            | zero => exact absurd HA.out (by simp [quadformref01_DivMod.j1])
            | succ kj59 =>
              have H := HA.out
              clear HA
              simp only [quadformref01_DivMod.j1] at H
              by_cases c76 : x50_59 = true
              · subst c76
                have H1 : ((quadformref01_Small.f kj59 1).bind fun bt137 => ((quadformref01_Add.f kj59 t117 t118 bt137.1 bt137.2).bind fun bt141 => (some (bt141.1, bt141.2, t132, t133, true)))) = some (r1, r2, r3, r4, r5) := by rw [if_pos rfl] at H; exact H
                clear H
                have H := H1
                clear H1
                replace H := Option.bind_eq_some_iff.mp H
                obtain ⟨⟨t137, t138⟩, A770, H⟩ := H
                replace H : ((quadformref01_Add.f kj59 t117 t118 t137 t138).bind fun bt141 => (some (bt141.1, bt141.2, t132, t133, true))) = some (r1, r2, r3, r4, r5) := H
                have A77 := Aside0.mk A770
                clear A770
                replace H := Option.bind_eq_some_iff.mp H
                obtain ⟨⟨t141, t142⟩, A780, H⟩ := H
                replace H : (some (t141, t142, t132, t133, true)) = some (r1, r2, r3, r4, r5) := H
                have A78 := Aside0.mk A780
                clear A780
                simp only [Option.some.injEq, Prod.mk.injEq] at H
                obtain ⟨rfl, rfl, rfl, rfl, rfl⟩ := H
                try go_wp2
                replace HO_126001 := Aside0.mk (Kd.R_drew HO_126001.out)
                replace HO_127001 := Aside0.mk (Kd.R_drew HO_127001.out)
                replace BK101 := Aside0.mk (blk_drew BK101.out)
                replace BK102 := Aside0.mk (blk_drew BK102.out)
                replace BK103 := Aside0.mk (blk_drew BK103.out)
                replace BK104 := Aside0.mk (blk_drew BK104.out)
                replace BK125 := Aside0.mk (blk_drew BK125.out)
                replace BK126 := Aside0.mk (blk_drew BK126.out)
                replace HB := Aside0.mk (below_drew1 HB.out)
                refine start_ (n := 7) (S := fun w' => w'.cell? ⟨gb125, 0, none⟩ = some (.bool t117) ∧ w'.cell? ⟨gb125, 1, none⟩ = some (.slice Ao44 t118.length co44) ∧ w'.cell? ⟨gb126, 0, none⟩ = some (.bool t132) ∧ w'.cell? ⟨gb126, 1, none⟩ = some (.slice Ao66 t133.length co66)) (ds := []) #[false, false, false, false, false, false, false] (by kernel_rfl) rfl rfl ⟨(blk_cell BK125.out 0).trans rfl, (blk_cell BK125.out 1).trans rfl, (blk_cell BK126.out 0).trans rfl, (blk_cell BK126.out 1).trans rfl⟩ (fun hHeld => ?_)
                generalize wc.drew = w79 at HO_126001 HO_127001 BK101 BK102 BK103 BK104 BK125 BK126 HB hHeld ⊢
                refine take_ (i := 0) (N := some 51) (v := ?_) (a' := ?_) #[true, false, false, false, false, false, false] rfl rfl (by kernel_rfl) (fun _ _ _ h => h) (Or.inl ⟨by rfl, ?_⟩) hHeld ?_ ?_
                rotate_left
                · rintro w' ⟨s0, s1, s2, s3⟩
                  go_simp
                  with_reducible rfl
                rotate_left
                · simp only [Act.put, List.setIfInBounds_toArray, List.set_cons_zero, List.set_cons_succ, i64_w, i32_w]
                  rfl
                refine take_ (i := 3) (N := some 54) (v := ?_) (a' := ?_) #[true, false, false, true, false, false, false] rfl rfl (by kernel_rfl) (fun _ _ _ h => h) (Or.inl ⟨by rfl, ?_⟩) hHeld ?_ ?_
                rotate_left
                · rintro w' ⟨s0, s1, s2, s3⟩
                  go_simp
                  with_reducible rfl
                rotate_left
                · simp only [Act.put, List.setIfInBounds_toArray, List.set_cons_zero, List.set_cons_succ, i64_w, i32_w]
                  rfl
                refine one_ (i := 1) (N := some 52) #[true, true, false, true, false, false, false] rfl rfl (by kernel_rfl) (by decide) (fun K hK => ?_)
                refine goes_ Try.func25 (by kernel_rfl) rfl #[.int .i64 1] (by rfl) rfl rfl (by (try simp only [List.map_toArray, List.map_cons, List.map_nil]); first | done | rfl | (simp only [List.length_drop, List.length_take]; rfl)) ?_
                with_reducible refine (quadformref01_Small.calls kj59 1 t137 t138 _ A77.out).mono ?_
                rintro e w80 ⟨v139, rfl, ho0, hb⟩
                refine ⟨_, rfl, ?_⟩
                replace HO_126001 := Aside0.mk (Kd.R_below (rr HO_126001.out) hb)
                replace HO_127001 := Aside0.mk (Kd.R_below (rr HO_127001.out) hb)
                have HO140 := Aside0.mk (Kd.R_lower ho0 (below_size bw))
                replace BK101 := Aside0.mk (bb BK101.out hb)
                replace BK102 := Aside0.mk (bb BK102.out hb)
                replace BK103 := Aside0.mk (bb BK103.out hb)
                replace BK104 := Aside0.mk (bb BK104.out hb)
                replace BK125 := Aside0.mk (bb BK125.out hb)
                replace BK126 := Aside0.mk (bb BK126.out hb)
                replace HB := Aside0.mk (below_step bw hb)
                (try clear hb)
                (try clear hb2)
                (try clear hk)
                (try clear hi)
                (try clear ho0)
                obtain ⟨Ao81, co81, eo81⟩ := Kd.R_slice HO140.out
                (first | subst eo81 | (injection eo81 with f1_ f2_ f3_; have f4_ := f1_.symm; have f5_ := f3_.symm; clear f1_ f2_ f3_; subst f4_; subst f5_))
                refine hK.out _ _ ⟨(blk_cell BK125.out 0).trans rfl, (blk_cell BK125.out 1).trans rfl, (blk_cell BK126.out 0).trans rfl, (blk_cell BK126.out 1).trans rfl⟩ (fun hHeld => ?_)
                clear hK K
                refine norm_ (a' := ?_) ?_ ?_
                rotate_left
                · show Act.put _ (some 52) _ = _
                  simp only [Act.put, List.setIfInBounds_toArray, List.set_cons_zero, List.set_cons_succ, i64_w, i32_w]
                  rfl
                refine one_ (i := 2) (N := some 53) #[true, true, true, true, false, false, false] rfl rfl (by kernel_rfl) (by decide) (fun K hK => ?_)
                refine goes_ Try.func66 (by kernel_rfl) rfl #[.agg #[.bool t117, .slice Ao44 t118.length co44], .agg #[.bool t137, .slice Ao81 t138.length co81]] (by rfl) rfl rfl (by (try simp only [List.map_toArray, List.map_cons, List.map_nil]); first | done | rfl | (simp only [List.length_drop, List.length_take]; rfl)) ?_
                with_reducible refine (quadformref01_Add.calls kj59 t117 _ _ t118 t137 _ _ t138 t141 t142 _ ?side1 ?side2 ?side3 ?side4 A78.out).mono ?_
                (case side1 => repeat (first | exact (Kd.R_reads' HO_126001.out).2.2 | (with_reducible refine Kd.C_alloc ?_ _) | (with_reducible refine Kd.C_drewN ?_ _) | (with_reducible refine Kd.C_drew ?_)))
                (case side2 => exact (Kd.R_reads' HO_126001.out).2.1)
                (case side3 => repeat (first | exact (Kd.R_reads' HO140.out).2.2 | (with_reducible refine Kd.C_alloc ?_ _) | (with_reducible refine Kd.C_drewN ?_ _) | (with_reducible refine Kd.C_drew ?_)))
                (case side4 => exact (Kd.R_reads' HO140.out).2.1)
                rintro e w82 ⟨v143, rfl, ho0, hb⟩
                refine ⟨_, rfl, ?_⟩
                replace HO_126001 := Aside0.mk (Kd.R_below (rr HO_126001.out) hb)
                replace HO_127001 := Aside0.mk (Kd.R_below (rr HO_127001.out) hb)
                replace HO140 := Aside0.mk (Kd.R_below (rr HO140.out) hb)
                have HO144 := Aside0.mk (Kd.R_lower ho0 (below_size bw))
                replace BK101 := Aside0.mk (bb BK101.out hb)
                replace BK102 := Aside0.mk (bb BK102.out hb)
                replace BK103 := Aside0.mk (bb BK103.out hb)
                replace BK104 := Aside0.mk (bb BK104.out hb)
                replace BK125 := Aside0.mk (bb BK125.out hb)
                replace BK126 := Aside0.mk (bb BK126.out hb)
                replace HB := Aside0.mk (below_step bw hb)
                (try clear hb)
                (try clear hb2)
                (try clear hk)
                (try clear hi)
                (try clear ho0)
                obtain ⟨Ao84, co84, eo84⟩ := Kd.R_slice HO144.out
                (first | subst eo84 | (injection eo84 with f1_ f2_ f3_; have f4_ := f1_.symm; have f5_ := f3_.symm; clear f1_ f2_ f3_; subst f4_; subst f5_))
                refine hK.out _ _ ⟨(blk_cell BK125.out 0).trans rfl, (blk_cell BK125.out 1).trans rfl, (blk_cell BK126.out 0).trans rfl, (blk_cell BK126.out 1).trans rfl⟩ (fun hHeld => ?_)
                clear hK K
                refine norm_ (a' := ?_) ?_ ?_
                rotate_left
                · show Act.put _ (some 53) _ = _
                  simp only [Act.put, List.setIfInBounds_toArray, List.set_cons_zero, List.set_cons_succ, i64_w, i32_w]
                  rfl
                refine one_ (i := 4) (N := none) #[true, true, true, true, true, false, false] rfl rfl (by kernel_rfl) (by decide) (fun K hK => ?_)
                have hs83 : w82.cell? ⟨gb103, 0, none⟩ = some (.bool false) := (blk_cell BK103.out 0).trans rfl
                have hfs83 := blk_frozen BK103.out 0
                have hns83_0 := NB101_103.out
                have hns83_1 := NB102_103.out
                have hns83_3 := NB104_103.out
                have hns83_4 := NB125_103.out
                have hns83_5 := NB126_103.out
                have hms83_0 := NB103_101.out
                have hms83_1 := NB103_102.out
                have hms83_3 := NB103_104.out
                have hms83_4 := NB103_125.out
                have hms83_5 := NB103_126.out
                have hs85 : w82.cell? ⟨gb103, 1, none⟩ = some (.slice none 0 0) := (blk_cell BK103.out 1).trans rfl
                have hfs85 := blk_frozen BK103.out 1
                have hns85_0 := NB101_103.out
                have hns85_1 := NB102_103.out
                have hns85_3 := NB104_103.out
                have hns85_4 := NB125_103.out
                have hns85_5 := NB126_103.out
                have hms85_0 := NB103_101.out
                have hms85_1 := NB103_102.out
                have hms85_3 := NB103_104.out
                have hms85_4 := NB103_125.out
                have hms85_5 := NB103_126.out
                refine skip_ (w1 := ?_) (by rfl) rfl ?_ ?_
                rotate_left
                · go_simp
                  rfl
                refine hK.out _ _ ⟨((cell_far (p := ⟨gb103, _, none⟩) NB125_103.out _).trans (((cell_far (p := ⟨gb103, _, none⟩) NB125_103.out _).trans (hHeld.1)))), ((cell_far (p := ⟨gb103, _, none⟩) NB125_103.out _).trans (((cell_far (p := ⟨gb103, _, none⟩) NB125_103.out _).trans (hHeld.2.1)))), ((cell_far (p := ⟨gb103, _, none⟩) NB126_103.out _).trans (((cell_far (p := ⟨gb103, _, none⟩) NB126_103.out _).trans (hHeld.2.2.1)))), ((cell_far (p := ⟨gb103, _, none⟩) NB126_103.out _).trans (((cell_far (p := ⟨gb103, _, none⟩) NB126_103.out _).trans (hHeld.2.2.2))))⟩ (fun hHeld => ?_)
                clear hK K
                refine one_ (i := 5) (N := none) #[true, true, true, true, true, true, false] rfl rfl (by kernel_rfl) (by decide) (fun K hK => ?_)
                have hs86 : w82.cell? ⟨gb104, 0, none⟩ = some (.bool false) := (blk_cell BK104.out 0).trans rfl
                have hfs86 := blk_frozen BK104.out 0
                have hns86_0 := NB101_104.out
                have hns86_1 := NB102_104.out
                have hns86_2 := NB103_104.out
                have hns86_4 := NB125_104.out
                have hns86_5 := NB126_104.out
                have hms86_0 := NB104_101.out
                have hms86_1 := NB104_102.out
                have hms86_2 := NB104_103.out
                have hms86_4 := NB104_125.out
                have hms86_5 := NB104_126.out
                have hs87 : w82.cell? ⟨gb104, 1, none⟩ = some (.slice none 0 0) := (blk_cell BK104.out 1).trans rfl
                have hfs87 := blk_frozen BK104.out 1
                have hns87_0 := NB101_104.out
                have hns87_1 := NB102_104.out
                have hns87_2 := NB103_104.out
                have hns87_4 := NB125_104.out
                have hns87_5 := NB126_104.out
                have hms87_0 := NB104_101.out
                have hms87_1 := NB104_102.out
                have hms87_2 := NB104_103.out
                have hms87_4 := NB104_125.out
                have hms87_5 := NB104_126.out
                refine skip_ (w1 := ?_) (by rfl) rfl ?_ ?_
                rotate_left
                · go_simp
                  rfl
                refine hK.out _ _ ⟨((cell_far (p := ⟨gb104, _, none⟩) NB125_104.out _).trans (((cell_far (p := ⟨gb104, _, none⟩) NB125_104.out _).trans (hHeld.1)))), ((cell_far (p := ⟨gb104, _, none⟩) NB125_104.out _).trans (((cell_far (p := ⟨gb104, _, none⟩) NB125_104.out _).trans (hHeld.2.1)))), ((cell_far (p := ⟨gb104, _, none⟩) NB126_104.out _).trans (((cell_far (p := ⟨gb104, _, none⟩) NB126_104.out _).trans (hHeld.2.2.1)))), ((cell_far (p := ⟨gb104, _, none⟩) NB126_104.out _).trans (((cell_far (p := ⟨gb104, _, none⟩) NB126_104.out _).trans (hHeld.2.2.2))))⟩ (fun hHeld => ?_)
                clear hK K
                refine pure_ (i := 6) (N := some 6) (v := ?_) (a' := ?_) #[true, true, true, true, true, true, true] rfl rfl (by kernel_rfl) (fun _ _ _ h => h) (Or.inl ⟨by rfl, ?_⟩) ?_ ?_
                rotate_left
                · intro w'
                  go_simp
                  with_reducible rfl
                rotate_left
                · simp only [Act.put, List.setIfInBounds_toArray, List.set_cons_zero, List.set_cons_succ, i64_w, i32_w]
                  rfl
                refine done_ (by kernel_rfl) ?_
                try go_wp2
                refine bodyPost_ret (results_list (rs := [.cell 4 40, .cell 5 40, .tmp 6]) rfl (by simp) (.cell gb103 40 #[.bool t141, .slice Ao84 t142.length co84] (0, 0) _ rfl (by (with_reducible repeat (first | refine blk_drewN ?_ _ | refine blk_drew ?_ | refine blk_alloc ?_ _)); refine blk_far ?_ NB103_104.out _; (with_reducible repeat (first | refine blk_drewN ?_ _ | refine blk_drew ?_ | refine blk_alloc ?_ _)); refine blk_far ?_ NB103_104.out _; (with_reducible repeat (first | refine blk_drewN ?_ _ | refine blk_drew ?_ | refine blk_alloc ?_ _)); refine blk_put (cs := #[.bool t141, .slice none 0 0]) ?_ 1 _ rfl; (with_reducible repeat (first | refine blk_drewN ?_ _ | refine blk_drew ?_ | refine blk_alloc ?_ _)); refine blk_put (cs := #[.bool false, .slice none 0 0]) ?_ 0 _ rfl; (with_reducible repeat (first | refine blk_drewN ?_ _ | refine blk_drew ?_ | refine blk_alloc ?_ _)); exact BK103.out) Try.underlying40 rfl (by kernel_rfl) (.cell gb104 40 #[.bool t132, .slice Ao66 t133.length co66] (0, 0) _ rfl (by (with_reducible repeat (first | refine blk_drewN ?_ _ | refine blk_drew ?_ | refine blk_alloc ?_ _)); refine blk_put (cs := #[.bool t132, .slice none 0 0]) ?_ 1 _ rfl; (with_reducible repeat (first | refine blk_drewN ?_ _ | refine blk_drew ?_ | refine blk_alloc ?_ _)); refine blk_put (cs := #[.bool false, .slice none 0 0]) ?_ 0 _ rfl; (with_reducible repeat (first | refine blk_drewN ?_ _ | refine blk_drew ?_ | refine blk_alloc ?_ _)); refine blk_far ?_ NB104_103.out _; (with_reducible repeat (first | refine blk_drewN ?_ _ | refine blk_drew ?_ | refine blk_alloc ?_ _)); refine blk_far ?_ NB104_103.out _; (with_reducible repeat (first | refine blk_drewN ?_ _ | refine blk_drew ?_ | refine blk_alloc ?_ _)); exact BK104.out) Try.underlying40 rfl (by kernel_rfl) (.tmp .nil)))) rfl ?_
                exact ⟨_, _, by first | rfl | (simp [errW_none, errW_some] <;> rfl) | (simp [*, errW_none, errW_some] <;> rfl), rr (Kd.R_mono (Kd.R_far (p := ⟨gb104, 1, none⟩) (Kd.R_far (p := ⟨gb104, 0, none⟩) (Kd.R_far (p := ⟨gb103, 1, none⟩) (Kd.R_far (p := ⟨gb103, 0, none⟩) (Kd.R_types (Kd.R_types HO144.out BK103.out (by decide)) BK104.out (by decide)) (fun _ hk => hk.1.2) (.bool t141)) (fun _ hk => hk.1.2) (.slice Ao84 t142.length co84)) (fun _ hk => hk.2) (.bool t132)) (fun _ hk => hk.2) (.slice Ao66 t133.length co66)) (fun _ hk => trivial)), rr (Kd.R_mono (Kd.R_far (p := ⟨gb104, 1, none⟩) (Kd.R_far (p := ⟨gb104, 0, none⟩) (Kd.R_far (p := ⟨gb103, 1, none⟩) (Kd.R_far (p := ⟨gb103, 0, none⟩) (Kd.R_types (Kd.R_types HO_127001.out BK103.out (by decide)) BK104.out (by decide)) (fun _ hk => hk.1.2) (.bool t141)) (fun _ hk => hk.1.2) (.slice Ao84 t142.length co84)) (fun _ hk => hk.2) (.bool t132)) (fun _ hk => hk.2) (.slice Ao66 t133.length co66)) (fun _ hk => trivial)), bw⟩
              · replace c76 := Bool.eq_false_iff.mpr c76
                subst c76
                have H1 : ((quadformref01_Small.f kj59 1).bind fun bt145 => ((quadformref01_Sub.f kj59 t117 t118 bt145.1 bt145.2).bind fun bt149 => (some (bt149.1, bt149.2, t132, t133, true)))) = some (r1, r2, r3, r4, r5) := by rw [if_neg (show ¬ (false = true) by decide)] at H; exact H
                clear H
                have H := H1
                clear H1
                replace H := Option.bind_eq_some_iff.mp H
                obtain ⟨⟨t145, t146⟩, A880, H⟩ := H
                replace H : ((quadformref01_Sub.f kj59 t117 t118 t145 t146).bind fun bt149 => (some (bt149.1, bt149.2, t132, t133, true))) = some (r1, r2, r3, r4, r5) := H
                have A88 := Aside0.mk A880
                clear A880
                replace H := Option.bind_eq_some_iff.mp H
                obtain ⟨⟨t149, t150⟩, A890, H⟩ := H
                replace H : (some (t149, t150, t132, t133, true)) = some (r1, r2, r3, r4, r5) := H
                have A89 := Aside0.mk A890
                clear A890
                simp only [Option.some.injEq, Prod.mk.injEq] at H
                obtain ⟨rfl, rfl, rfl, rfl, rfl⟩ := H
                try go_wp2
                replace HO_126001 := Aside0.mk (Kd.R_drew HO_126001.out)
                replace HO_127001 := Aside0.mk (Kd.R_drew HO_127001.out)
                replace BK101 := Aside0.mk (blk_drew BK101.out)
                replace BK102 := Aside0.mk (blk_drew BK102.out)
                replace BK103 := Aside0.mk (blk_drew BK103.out)
                replace BK104 := Aside0.mk (blk_drew BK104.out)
                replace BK125 := Aside0.mk (blk_drew BK125.out)
                replace BK126 := Aside0.mk (blk_drew BK126.out)
                replace HB := Aside0.mk (below_drew1 HB.out)
                refine start_ (n := 7) (S := fun w' => w'.cell? ⟨gb125, 0, none⟩ = some (.bool t117) ∧ w'.cell? ⟨gb125, 1, none⟩ = some (.slice Ao44 t118.length co44) ∧ w'.cell? ⟨gb126, 0, none⟩ = some (.bool t132) ∧ w'.cell? ⟨gb126, 1, none⟩ = some (.slice Ao66 t133.length co66)) (ds := []) #[false, false, false, false, false, false, false] (by kernel_rfl) rfl rfl ⟨(blk_cell BK125.out 0).trans rfl, (blk_cell BK125.out 1).trans rfl, (blk_cell BK126.out 0).trans rfl, (blk_cell BK126.out 1).trans rfl⟩ (fun hHeld => ?_)
                generalize wc.drew = w90 at HO_126001 HO_127001 BK101 BK102 BK103 BK104 BK125 BK126 HB hHeld ⊢
                refine take_ (i := 0) (N := some 55) (v := ?_) (a' := ?_) #[true, false, false, false, false, false, false] rfl rfl (by kernel_rfl) (fun _ _ _ h => h) (Or.inl ⟨by rfl, ?_⟩) hHeld ?_ ?_
                rotate_left
                · rintro w' ⟨s0, s1, s2, s3⟩
                  go_simp
                  with_reducible rfl
                rotate_left
                · simp only [Act.put, List.setIfInBounds_toArray, List.set_cons_zero, List.set_cons_succ, i64_w, i32_w]
                  rfl
                refine take_ (i := 3) (N := some 58) (v := ?_) (a' := ?_) #[true, false, false, true, false, false, false] rfl rfl (by kernel_rfl) (fun _ _ _ h => h) (Or.inl ⟨by rfl, ?_⟩) hHeld ?_ ?_
                rotate_left
                · rintro w' ⟨s0, s1, s2, s3⟩
                  go_simp
                  with_reducible rfl
                rotate_left
                · simp only [Act.put, List.setIfInBounds_toArray, List.set_cons_zero, List.set_cons_succ, i64_w, i32_w]
                  rfl
                refine one_ (i := 1) (N := some 56) #[true, true, false, true, false, false, false] rfl rfl (by kernel_rfl) (by decide) (fun K hK => ?_)
                refine goes_ Try.func25 (by kernel_rfl) rfl #[.int .i64 1] (by rfl) rfl rfl (by (try simp only [List.map_toArray, List.map_cons, List.map_nil]); first | done | rfl | (simp only [List.length_drop, List.length_take]; rfl)) ?_
                with_reducible refine (quadformref01_Small.calls kj59 1 t145 t146 _ A88.out).mono ?_
                rintro e w91 ⟨v147, rfl, ho0, hb⟩
                refine ⟨_, rfl, ?_⟩
                replace HO_126001 := Aside0.mk (Kd.R_below (rr HO_126001.out) hb)
                replace HO_127001 := Aside0.mk (Kd.R_below (rr HO_127001.out) hb)
                have HO148 := Aside0.mk (Kd.R_lower ho0 (below_size bw))
                replace BK101 := Aside0.mk (bb BK101.out hb)
                replace BK102 := Aside0.mk (bb BK102.out hb)
                replace BK103 := Aside0.mk (bb BK103.out hb)
                replace BK104 := Aside0.mk (bb BK104.out hb)
                replace BK125 := Aside0.mk (bb BK125.out hb)
                replace BK126 := Aside0.mk (bb BK126.out hb)
                replace HB := Aside0.mk (below_step bw hb)
                (try clear hb)
                (try clear hb2)
                (try clear hk)
                (try clear hi)
                (try clear ho0)
                obtain ⟨Ao92, co92, eo92⟩ := Kd.R_slice HO148.out
                (first | subst eo92 | (injection eo92 with f1_ f2_ f3_; have f4_ := f1_.symm; have f5_ := f3_.symm; clear f1_ f2_ f3_; subst f4_; subst f5_))
                refine hK.out _ _ ⟨(blk_cell BK125.out 0).trans rfl, (blk_cell BK125.out 1).trans rfl, (blk_cell BK126.out 0).trans rfl, (blk_cell BK126.out 1).trans rfl⟩ (fun hHeld => ?_)
                clear hK K
                refine norm_ (a' := ?_) ?_ ?_
                rotate_left
                · show Act.put _ (some 56) _ = _
                  simp only [Act.put, List.setIfInBounds_toArray, List.set_cons_zero, List.set_cons_succ, i64_w, i32_w]
                  rfl
                refine one_ (i := 2) (N := some 57) #[true, true, true, true, false, false, false] rfl rfl (by kernel_rfl) (by decide) (fun K hK => ?_)
                refine goes_ Try.func67 (by kernel_rfl) rfl #[.agg #[.bool t117, .slice Ao44 t118.length co44], .agg #[.bool t145, .slice Ao92 t146.length co92]] (by rfl) rfl rfl (by (try simp only [List.map_toArray, List.map_cons, List.map_nil]); first | done | rfl | (simp only [List.length_drop, List.length_take]; rfl)) ?_
                with_reducible refine (quadformref01_Sub.calls kj59 t117 _ _ t118 t145 _ _ t146 t149 t150 _ ?side1 ?side2 ?side3 ?side4 A89.out).mono ?_
                (case side1 => repeat (first | exact (Kd.R_reads' HO_126001.out).2.2 | (with_reducible refine Kd.C_alloc ?_ _) | (with_reducible refine Kd.C_drewN ?_ _) | (with_reducible refine Kd.C_drew ?_)))
                (case side2 => exact (Kd.R_reads' HO_126001.out).2.1)
                (case side3 => repeat (first | exact (Kd.R_reads' HO148.out).2.2 | (with_reducible refine Kd.C_alloc ?_ _) | (with_reducible refine Kd.C_drewN ?_ _) | (with_reducible refine Kd.C_drew ?_)))
                (case side4 => exact (Kd.R_reads' HO148.out).2.1)
                rintro e w93 ⟨v151, rfl, ho0, hb⟩
                refine ⟨_, rfl, ?_⟩
                replace HO_126001 := Aside0.mk (Kd.R_below (rr HO_126001.out) hb)
                replace HO_127001 := Aside0.mk (Kd.R_below (rr HO_127001.out) hb)
                replace HO148 := Aside0.mk (Kd.R_below (rr HO148.out) hb)
                have HO152 := Aside0.mk (Kd.R_lower ho0 (below_size bw))
                replace BK101 := Aside0.mk (bb BK101.out hb)
                replace BK102 := Aside0.mk (bb BK102.out hb)
                replace BK103 := Aside0.mk (bb BK103.out hb)
                replace BK104 := Aside0.mk (bb BK104.out hb)
                replace BK125 := Aside0.mk (bb BK125.out hb)
                replace BK126 := Aside0.mk (bb BK126.out hb)
                replace HB := Aside0.mk (below_step bw hb)
                (try clear hb)
                (try clear hb2)
                (try clear hk)
                (try clear hi)
                (try clear ho0)
                obtain ⟨Ao95, co95, eo95⟩ := Kd.R_slice HO152.out
                (first | subst eo95 | (injection eo95 with f1_ f2_ f3_; have f4_ := f1_.symm; have f5_ := f3_.symm; clear f1_ f2_ f3_; subst f4_; subst f5_))
                refine hK.out _ _ ⟨(blk_cell BK125.out 0).trans rfl, (blk_cell BK125.out 1).trans rfl, (blk_cell BK126.out 0).trans rfl, (blk_cell BK126.out 1).trans rfl⟩ (fun hHeld => ?_)
                clear hK K
                refine norm_ (a' := ?_) ?_ ?_
                rotate_left
                · show Act.put _ (some 57) _ = _
                  simp only [Act.put, List.setIfInBounds_toArray, List.set_cons_zero, List.set_cons_succ, i64_w, i32_w]
                  rfl
                refine one_ (i := 4) (N := none) #[true, true, true, true, true, false, false] rfl rfl (by kernel_rfl) (by decide) (fun K hK => ?_)
                have hs94 : w93.cell? ⟨gb103, 0, none⟩ = some (.bool false) := (blk_cell BK103.out 0).trans rfl
                have hfs94 := blk_frozen BK103.out 0
                have hns94_0 := NB101_103.out
                have hns94_1 := NB102_103.out
                have hns94_3 := NB104_103.out
                have hns94_4 := NB125_103.out
                have hns94_5 := NB126_103.out
                have hms94_0 := NB103_101.out
                have hms94_1 := NB103_102.out
                have hms94_3 := NB103_104.out
                have hms94_4 := NB103_125.out
                have hms94_5 := NB103_126.out
                have hs96 : w93.cell? ⟨gb103, 1, none⟩ = some (.slice none 0 0) := (blk_cell BK103.out 1).trans rfl
                have hfs96 := blk_frozen BK103.out 1
                have hns96_0 := NB101_103.out
                have hns96_1 := NB102_103.out
                have hns96_3 := NB104_103.out
                have hns96_4 := NB125_103.out
                have hns96_5 := NB126_103.out
                have hms96_0 := NB103_101.out
                have hms96_1 := NB103_102.out
                have hms96_3 := NB103_104.out
                have hms96_4 := NB103_125.out
                have hms96_5 := NB103_126.out
                refine skip_ (w1 := ?_) (by rfl) rfl ?_ ?_
                rotate_left
                · go_simp
                  rfl
                refine hK.out _ _ ⟨((cell_far (p := ⟨gb103, _, none⟩) NB125_103.out _).trans (((cell_far (p := ⟨gb103, _, none⟩) NB125_103.out _).trans (hHeld.1)))), ((cell_far (p := ⟨gb103, _, none⟩) NB125_103.out _).trans (((cell_far (p := ⟨gb103, _, none⟩) NB125_103.out _).trans (hHeld.2.1)))), ((cell_far (p := ⟨gb103, _, none⟩) NB126_103.out _).trans (((cell_far (p := ⟨gb103, _, none⟩) NB126_103.out _).trans (hHeld.2.2.1)))), ((cell_far (p := ⟨gb103, _, none⟩) NB126_103.out _).trans (((cell_far (p := ⟨gb103, _, none⟩) NB126_103.out _).trans (hHeld.2.2.2))))⟩ (fun hHeld => ?_)
                clear hK K
                refine one_ (i := 5) (N := none) #[true, true, true, true, true, true, false] rfl rfl (by kernel_rfl) (by decide) (fun K hK => ?_)
                have hs97 : w93.cell? ⟨gb104, 0, none⟩ = some (.bool false) := (blk_cell BK104.out 0).trans rfl
                have hfs97 := blk_frozen BK104.out 0
                have hns97_0 := NB101_104.out
                have hns97_1 := NB102_104.out
                have hns97_2 := NB103_104.out
                have hns97_4 := NB125_104.out
                have hns97_5 := NB126_104.out
                have hms97_0 := NB104_101.out
                have hms97_1 := NB104_102.out
                have hms97_2 := NB104_103.out
                have hms97_4 := NB104_125.out
                have hms97_5 := NB104_126.out
                have hs98 : w93.cell? ⟨gb104, 1, none⟩ = some (.slice none 0 0) := (blk_cell BK104.out 1).trans rfl
                have hfs98 := blk_frozen BK104.out 1
                have hns98_0 := NB101_104.out
                have hns98_1 := NB102_104.out
                have hns98_2 := NB103_104.out
                have hns98_4 := NB125_104.out
                have hns98_5 := NB126_104.out
                have hms98_0 := NB104_101.out
                have hms98_1 := NB104_102.out
                have hms98_2 := NB104_103.out
                have hms98_4 := NB104_125.out
                have hms98_5 := NB104_126.out
                refine skip_ (w1 := ?_) (by rfl) rfl ?_ ?_
                rotate_left
                · go_simp
                  rfl
                refine hK.out _ _ ⟨((cell_far (p := ⟨gb104, _, none⟩) NB125_104.out _).trans (((cell_far (p := ⟨gb104, _, none⟩) NB125_104.out _).trans (hHeld.1)))), ((cell_far (p := ⟨gb104, _, none⟩) NB125_104.out _).trans (((cell_far (p := ⟨gb104, _, none⟩) NB125_104.out _).trans (hHeld.2.1)))), ((cell_far (p := ⟨gb104, _, none⟩) NB126_104.out _).trans (((cell_far (p := ⟨gb104, _, none⟩) NB126_104.out _).trans (hHeld.2.2.1)))), ((cell_far (p := ⟨gb104, _, none⟩) NB126_104.out _).trans (((cell_far (p := ⟨gb104, _, none⟩) NB126_104.out _).trans (hHeld.2.2.2))))⟩ (fun hHeld => ?_)
                clear hK K
                refine pure_ (i := 6) (N := some 6) (v := ?_) (a' := ?_) #[true, true, true, true, true, true, true] rfl rfl (by kernel_rfl) (fun _ _ _ h => h) (Or.inl ⟨by rfl, ?_⟩) ?_ ?_
                rotate_left
                · intro w'
                  go_simp
                  with_reducible rfl
                rotate_left
                · simp only [Act.put, List.setIfInBounds_toArray, List.set_cons_zero, List.set_cons_succ, i64_w, i32_w]
                  rfl
                refine done_ (by kernel_rfl) ?_
                try go_wp2
                refine bodyPost_ret (results_list (rs := [.cell 4 40, .cell 5 40, .tmp 6]) rfl (by simp) (.cell gb103 40 #[.bool t149, .slice Ao95 t150.length co95] (0, 0) _ rfl (by (with_reducible repeat (first | refine blk_drewN ?_ _ | refine blk_drew ?_ | refine blk_alloc ?_ _)); refine blk_far ?_ NB103_104.out _; (with_reducible repeat (first | refine blk_drewN ?_ _ | refine blk_drew ?_ | refine blk_alloc ?_ _)); refine blk_far ?_ NB103_104.out _; (with_reducible repeat (first | refine blk_drewN ?_ _ | refine blk_drew ?_ | refine blk_alloc ?_ _)); refine blk_put (cs := #[.bool t149, .slice none 0 0]) ?_ 1 _ rfl; (with_reducible repeat (first | refine blk_drewN ?_ _ | refine blk_drew ?_ | refine blk_alloc ?_ _)); refine blk_put (cs := #[.bool false, .slice none 0 0]) ?_ 0 _ rfl; (with_reducible repeat (first | refine blk_drewN ?_ _ | refine blk_drew ?_ | refine blk_alloc ?_ _)); exact BK103.out) Try.underlying40 rfl (by kernel_rfl) (.cell gb104 40 #[.bool t132, .slice Ao66 t133.length co66] (0, 0) _ rfl (by (with_reducible repeat (first | refine blk_drewN ?_ _ | refine blk_drew ?_ | refine blk_alloc ?_ _)); refine blk_put (cs := #[.bool t132, .slice none 0 0]) ?_ 1 _ rfl; (with_reducible repeat (first | refine blk_drewN ?_ _ | refine blk_drew ?_ | refine blk_alloc ?_ _)); refine blk_put (cs := #[.bool false, .slice none 0 0]) ?_ 0 _ rfl; (with_reducible repeat (first | refine blk_drewN ?_ _ | refine blk_drew ?_ | refine blk_alloc ?_ _)); refine blk_far ?_ NB104_103.out _; (with_reducible repeat (first | refine blk_drewN ?_ _ | refine blk_drew ?_ | refine blk_alloc ?_ _)); refine blk_far ?_ NB104_103.out _; (with_reducible repeat (first | refine blk_drewN ?_ _ | refine blk_drew ?_ | refine blk_alloc ?_ _)); exact BK104.out) Try.underlying40 rfl (by kernel_rfl) (.tmp .nil)))) rfl ?_
                exact ⟨_, _, by first | rfl | (simp [errW_none, errW_some] <;> rfl) | (simp [*, errW_none, errW_some] <;> rfl), rr (Kd.R_mono (Kd.R_far (p := ⟨gb104, 1, none⟩) (Kd.R_far (p := ⟨gb104, 0, none⟩) (Kd.R_far (p := ⟨gb103, 1, none⟩) (Kd.R_far (p := ⟨gb103, 0, none⟩) (Kd.R_types (Kd.R_types HO152.out BK103.out (by decide)) BK104.out (by decide)) (fun _ hk => hk.1.2) (.bool t149)) (fun _ hk => hk.1.2) (.slice Ao95 t150.length co95)) (fun _ hk => hk.2) (.bool t132)) (fun _ hk => hk.2) (.slice Ao66 t133.length co66)) (fun _ hk => trivial)), rr (Kd.R_mono (Kd.R_far (p := ⟨gb104, 1, none⟩) (Kd.R_far (p := ⟨gb104, 0, none⟩) (Kd.R_far (p := ⟨gb103, 1, none⟩) (Kd.R_far (p := ⟨gb103, 0, none⟩) (Kd.R_types (Kd.R_types HO_127001.out BK103.out (by decide)) BK104.out (by decide)) (fun _ hk => hk.1.2) (.bool t149)) (fun _ hk => hk.1.2) (.slice Ao95 t150.length co95)) (fun _ hk => hk.2) (.bool t132)) (fun _ hk => hk.2) (.slice Ao66 t133.length co66)) (fun _ hk => trivial)), bw⟩
        · replace c57 := Bool.eq_false_iff.mpr c57
          subst c57
          have H1 : (some (t117, t118, t121, t122, true)) = some (r1, r2, r3, r4, r5) := by rw [if_neg (show ¬ (false = true) by decide)] at H; exact H
          clear H
          have H := H1
          clear H1
          simp only [Option.some.injEq, Prod.mk.injEq] at H
          obtain ⟨rfl, rfl, rfl, rfl, rfl⟩ := H
          try go_wp2
          replace HO_8 := Aside0.mk (Kd.R_drew HO_8.out)
          replace HO_126001 := Aside0.mk (Kd.R_drew HO_126001.out)
          replace HO_127001 := Aside0.mk (Kd.R_drew HO_127001.out)
          replace BK101 := Aside0.mk (blk_drew BK101.out)
          replace BK102 := Aside0.mk (blk_drew BK102.out)
          replace BK103 := Aside0.mk (blk_drew BK103.out)
          replace BK104 := Aside0.mk (blk_drew BK104.out)
          replace BK125 := Aside0.mk (blk_drew BK125.out)
          replace BK126 := Aside0.mk (blk_drew BK126.out)
          replace HB := Aside0.mk (below_drew1 HB.out)
          refine start_ (n := 5) (S := fun w' => w'.cell? ⟨gb125, 0, none⟩ = some (.bool t117) ∧ w'.cell? ⟨gb125, 1, none⟩ = some (.slice Ao44 t118.length co44) ∧ w'.cell? ⟨gb126, 0, none⟩ = some (.bool t121) ∧ w'.cell? ⟨gb126, 1, none⟩ = some (.slice Ao47 t122.length co47)) (ds := []) #[false, false, false, false, false] (by kernel_rfl) rfl rfl ⟨(blk_cell BK125.out 0).trans rfl, (blk_cell BK125.out 1).trans rfl, (blk_cell BK126.out 0).trans rfl, (blk_cell BK126.out 1).trans rfl⟩ (fun hHeld => ?_)
          generalize wc.drew = w99 at HO_8 HO_126001 HO_127001 BK101 BK102 BK103 BK104 BK125 BK126 HB hHeld ⊢
          refine take_ (i := 0) (N := some 59) (v := ?_) (a' := ?_) #[true, false, false, false, false] rfl rfl (by kernel_rfl) (fun _ _ _ h => h) (Or.inl ⟨by rfl, ?_⟩) hHeld ?_ ?_
          rotate_left
          · rintro w' ⟨s0, s1, s2, s3⟩
            go_simp
            with_reducible rfl
          rotate_left
          · simp only [Act.put, List.setIfInBounds_toArray, List.set_cons_zero, List.set_cons_succ, i64_w, i32_w]
            rfl
          refine take_ (i := 1) (N := some 60) (v := ?_) (a' := ?_) #[true, true, false, false, false] rfl rfl (by kernel_rfl) (fun _ _ _ h => h) (Or.inl ⟨by rfl, ?_⟩) hHeld ?_ ?_
          rotate_left
          · rintro w' ⟨s0, s1, s2, s3⟩
            go_simp
            with_reducible rfl
          rotate_left
          · simp only [Act.put, List.setIfInBounds_toArray, List.set_cons_zero, List.set_cons_succ, i64_w, i32_w]
            rfl
          refine one_ (i := 2) (N := none) #[true, true, true, false, false] rfl rfl (by kernel_rfl) (by decide) (fun K hK => ?_)
          have hs100 : w99.cell? ⟨gb103, 0, none⟩ = some (.bool false) := (blk_cell BK103.out 0).trans rfl
          have hfs100 := blk_frozen BK103.out 0
          have hns100_0 := NB101_103.out
          have hns100_1 := NB102_103.out
          have hns100_3 := NB104_103.out
          have hns100_4 := NB125_103.out
          have hns100_5 := NB126_103.out
          have hms100_0 := NB103_101.out
          have hms100_1 := NB103_102.out
          have hms100_3 := NB103_104.out
          have hms100_4 := NB103_125.out
          have hms100_5 := NB103_126.out
          have hs101 : w99.cell? ⟨gb103, 1, none⟩ = some (.slice none 0 0) := (blk_cell BK103.out 1).trans rfl
          have hfs101 := blk_frozen BK103.out 1
          have hns101_0 := NB101_103.out
          have hns101_1 := NB102_103.out
          have hns101_3 := NB104_103.out
          have hns101_4 := NB125_103.out
          have hns101_5 := NB126_103.out
          have hms101_0 := NB103_101.out
          have hms101_1 := NB103_102.out
          have hms101_3 := NB103_104.out
          have hms101_4 := NB103_125.out
          have hms101_5 := NB103_126.out
          refine skip_ (w1 := ?_) (by rfl) rfl ?_ ?_
          rotate_left
          · go_simp
            rfl
          refine hK.out _ _ ⟨((cell_far (p := ⟨gb103, _, none⟩) NB125_103.out _).trans (((cell_far (p := ⟨gb103, _, none⟩) NB125_103.out _).trans (hHeld.1)))), ((cell_far (p := ⟨gb103, _, none⟩) NB125_103.out _).trans (((cell_far (p := ⟨gb103, _, none⟩) NB125_103.out _).trans (hHeld.2.1)))), ((cell_far (p := ⟨gb103, _, none⟩) NB126_103.out _).trans (((cell_far (p := ⟨gb103, _, none⟩) NB126_103.out _).trans (hHeld.2.2.1)))), ((cell_far (p := ⟨gb103, _, none⟩) NB126_103.out _).trans (((cell_far (p := ⟨gb103, _, none⟩) NB126_103.out _).trans (hHeld.2.2.2))))⟩ (fun hHeld => ?_)
          clear hK K
          refine one_ (i := 3) (N := none) #[true, true, true, true, false] rfl rfl (by kernel_rfl) (by decide) (fun K hK => ?_)
          have hs102 : w99.cell? ⟨gb104, 0, none⟩ = some (.bool false) := (blk_cell BK104.out 0).trans rfl
          have hfs102 := blk_frozen BK104.out 0
          have hns102_0 := NB101_104.out
          have hns102_1 := NB102_104.out
          have hns102_2 := NB103_104.out
          have hns102_4 := NB125_104.out
          have hns102_5 := NB126_104.out
          have hms102_0 := NB104_101.out
          have hms102_1 := NB104_102.out
          have hms102_2 := NB104_103.out
          have hms102_4 := NB104_125.out
          have hms102_5 := NB104_126.out
          have hs103 : w99.cell? ⟨gb104, 1, none⟩ = some (.slice none 0 0) := (blk_cell BK104.out 1).trans rfl
          have hfs103 := blk_frozen BK104.out 1
          have hns103_0 := NB101_104.out
          have hns103_1 := NB102_104.out
          have hns103_2 := NB103_104.out
          have hns103_4 := NB125_104.out
          have hns103_5 := NB126_104.out
          have hms103_0 := NB104_101.out
          have hms103_1 := NB104_102.out
          have hms103_2 := NB104_103.out
          have hms103_4 := NB104_125.out
          have hms103_5 := NB104_126.out
          refine skip_ (w1 := ?_) (by rfl) rfl ?_ ?_
          rotate_left
          · go_simp
            rfl
          refine hK.out _ _ ⟨((cell_far (p := ⟨gb104, _, none⟩) NB125_104.out _).trans (((cell_far (p := ⟨gb104, _, none⟩) NB125_104.out _).trans (hHeld.1)))), ((cell_far (p := ⟨gb104, _, none⟩) NB125_104.out _).trans (((cell_far (p := ⟨gb104, _, none⟩) NB125_104.out _).trans (hHeld.2.1)))), ((cell_far (p := ⟨gb104, _, none⟩) NB126_104.out _).trans (((cell_far (p := ⟨gb104, _, none⟩) NB126_104.out _).trans (hHeld.2.2.1)))), ((cell_far (p := ⟨gb104, _, none⟩) NB126_104.out _).trans (((cell_far (p := ⟨gb104, _, none⟩) NB126_104.out _).trans (hHeld.2.2.2))))⟩ (fun hHeld => ?_)
          clear hK K
          refine pure_ (i := 4) (N := some 6) (v := ?_) (a' := ?_) #[true, true, true, true, true] rfl rfl (by kernel_rfl) (fun _ _ _ h => h) (Or.inl ⟨by rfl, ?_⟩) ?_ ?_
          rotate_left
          · intro w'
            go_simp
            with_reducible rfl
          rotate_left
          · simp only [Act.put, List.setIfInBounds_toArray, List.set_cons_zero, List.set_cons_succ, i64_w, i32_w]
            rfl
          refine done_ (by kernel_rfl) ?_
          try go_wp2
          refine bodyPost_ret (results_list (rs := [.cell 4 40, .cell 5 40, .tmp 6]) rfl (by simp) (.cell gb103 40 #[.bool t117, .slice Ao44 t118.length co44] (0, 0) _ rfl (by (with_reducible repeat (first | refine blk_drewN ?_ _ | refine blk_drew ?_ | refine blk_alloc ?_ _)); refine blk_far ?_ NB103_104.out _; (with_reducible repeat (first | refine blk_drewN ?_ _ | refine blk_drew ?_ | refine blk_alloc ?_ _)); refine blk_far ?_ NB103_104.out _; (with_reducible repeat (first | refine blk_drewN ?_ _ | refine blk_drew ?_ | refine blk_alloc ?_ _)); refine blk_put (cs := #[.bool t117, .slice none 0 0]) ?_ 1 _ rfl; (with_reducible repeat (first | refine blk_drewN ?_ _ | refine blk_drew ?_ | refine blk_alloc ?_ _)); refine blk_put (cs := #[.bool false, .slice none 0 0]) ?_ 0 _ rfl; (with_reducible repeat (first | refine blk_drewN ?_ _ | refine blk_drew ?_ | refine blk_alloc ?_ _)); exact BK103.out) Try.underlying40 rfl (by kernel_rfl) (.cell gb104 40 #[.bool t121, .slice Ao47 t122.length co47] (0, 0) _ rfl (by (with_reducible repeat (first | refine blk_drewN ?_ _ | refine blk_drew ?_ | refine blk_alloc ?_ _)); refine blk_put (cs := #[.bool t121, .slice none 0 0]) ?_ 1 _ rfl; (with_reducible repeat (first | refine blk_drewN ?_ _ | refine blk_drew ?_ | refine blk_alloc ?_ _)); refine blk_put (cs := #[.bool false, .slice none 0 0]) ?_ 0 _ rfl; (with_reducible repeat (first | refine blk_drewN ?_ _ | refine blk_drew ?_ | refine blk_alloc ?_ _)); refine blk_far ?_ NB104_103.out _; (with_reducible repeat (first | refine blk_drewN ?_ _ | refine blk_drew ?_ | refine blk_alloc ?_ _)); refine blk_far ?_ NB104_103.out _; (with_reducible repeat (first | refine blk_drewN ?_ _ | refine blk_drew ?_ | refine blk_alloc ?_ _)); exact BK104.out) Try.underlying40 rfl (by kernel_rfl) (.tmp .nil)))) rfl ?_
          exact ⟨_, _, by first | rfl | (simp [errW_none, errW_some] <;> rfl) | (simp [*, errW_none, errW_some] <;> rfl), rr (Kd.R_mono (Kd.R_far (p := ⟨gb104, 1, none⟩) (Kd.R_far (p := ⟨gb104, 0, none⟩) (Kd.R_far (p := ⟨gb103, 1, none⟩) (Kd.R_far (p := ⟨gb103, 0, none⟩) (Kd.R_types (Kd.R_types HO_126001.out BK103.out (by decide)) BK104.out (by decide)) (fun _ hk => hk.1.2) (.bool t117)) (fun _ hk => hk.1.2) (.slice Ao44 t118.length co44)) (fun _ hk => hk.2) (.bool t121)) (fun _ hk => hk.2) (.slice Ao47 t122.length co47)) (fun _ hk => trivial)), rr (Kd.R_mono (Kd.R_far (p := ⟨gb104, 1, none⟩) (Kd.R_far (p := ⟨gb104, 0, none⟩) (Kd.R_far (p := ⟨gb103, 1, none⟩) (Kd.R_far (p := ⟨gb103, 0, none⟩) (Kd.R_types (Kd.R_types HO_127001.out BK103.out (by decide)) BK104.out (by decide)) (fun _ hk => hk.1.2) (.bool t117)) (fun _ hk => hk.1.2) (.slice Ao44 t118.length co44)) (fun _ hk => hk.2) (.bool t121)) (fun _ hk => hk.2) (.slice Ao47 t122.length co47)) (fun _ hk => trivial)), bw⟩
end Go.Proofs.Ytcjhbjfkcmncpaa.Q
namespace Go.Proofs.Ytcjhbjfkcmncpaa.Q
open Go.RowKit Go.Proofs.YtcjhbjfkcmncpaaW.PrintWords Go.Proofs.YtcjhbjfkcmncpaaW.PrintLast Go.Proofs.YtcjhbjfkcmncpaaW.PrintMore
attribute [local go_sem] max2_int min2_int max_two min_two max_three min_three max_four min_four   -- for this text's walks alone
set_option linter.unusedVariables false
set_option linter.unusedSimpArgs false
def quadformref01_Rem.f (k : Nat) (a0_0 : Bool) (l0_1 : List Int) (a1_0 : Bool) (l1_1 : List Int) : Option (Bool × List Int) := (quadformref01_DivMod.f k a0_0 l0_1 a1_0 l1_1).bind fun bt104 => (some (bt104.2.2.1, bt104.2.2.2.1))
theorem quadformref01_Rem.mono : ∀ a0 a1 a2 a3 k, LeO (quadformref01_Rem.f k a0 a1 a2 a3) (quadformref01_Rem.f (k + 1) a0 a1 a2 a3) := by
  intro a0 a1 a2 a3 k
  unfold quadformref01_Rem.f
  repeat' first
      | (with_reducible exact quadformref01_DivMod.mono _ _ _ _ _)
      | (with_reducible exact LeO.refl _)
      | (with_reducible exact LeO.none _)
      | (with_reducible refine LeO.ite ?_ ?_)
      | (with_reducible refine LeO.bind ?_ (fun _ => ?_))
      | exact quadformref01_DivMod.mono _ _ _ _ _
      | exact LeO.none _
      | refine LeO.ite ?_ ?_
      | refine LeO.bind ?_ (fun _ => ?_)
set_option maxHeartbeats 8000000 in
set_option maxRecDepth 100000 in
theorem quadformref01_Rem.calls (k : Nat) (a0_0 : Bool) (A0_1 : Option Addr) (c0_1 : Nat) (l0_1 : List Int) (a1_0 : Bool) (A1_1 : Option Addr) (c1_1 : Nat) (l1_1 : List Int) (r1 : Bool) (r2 : List Int) (w : World) (hr0_1 : Kd.C (Kd.int .u32) w A0_1 l0_1.length l0_1) (hc0_1 : l0_1.length ≤ c0_1) (hr1_1 : Kd.C (Kd.int .u32) w A1_1 l1_1.length l1_1) (hc1_1 : l1_1.length ≤ c1_1) (h : quadformref01_Rem.f k a0_0 l0_1 a1_0 l1_1 = some (r1, r2)) :
    Calls Try.prog 43 #[.agg #[.bool a0_0, .slice A0_1 l0_1.length c0_1], .agg #[.bool a1_0, .slice A1_1 l1_1.length c1_1]] w fun e w' => ∃ v1_ : Value, e = .returned (.agg #[.bool r1, v1_]) ∧ Kd.R (Kd.int .u32) 69 w' w.heap.size (fun _ => True) v1_ r2 ∧ Below w.heap.size w w' := by
  have hu40 := Try.underlying40
  have HR0_1 := Aside0.mk hr0_1
  have HC0_1 := Aside0.mk hc0_1
  clear hr0_1 hc0_1
  have HR1_1 := Aside0.mk hr1_1
  have HC1_1 := Aside0.mk hc1_1
  clear hr1_1 hc1_1
  have HB := Aside0.mk (Below.refl w.heap.size w)
  have H : ((quadformref01_DivMod.f k a0_0 l0_1 a1_0 l1_1).bind fun bt104 => (some (bt104.2.2.1, bt104.2.2.2.1))) = some (r1, r2) := h
  clear h
  replace H := Option.bind_eq_some_iff.mp H
  obtain ⟨⟨t104, t105, t108, t109, t112⟩, A30, H⟩ := H
  replace H : (some (t108, t109)) = some (r1, r2) := H
  have A3 := Aside0.mk A30
  clear A30
  simp only [Option.some.injEq, Prod.mk.injEq] at H
  obtain ⟨rfl, rfl⟩ := H
  go_enter Try.func43, Try.ntmps43
  go_wp2_with (first | ((with_reducible refine gate_dst (N := 2) rfl ?_); refine box_event ?hg (N := 2) ?hd (cs := #[.bool a0_0, .slice A0_1 l0_1.length c0_1]) (t := 40) ?hr ?_; (case hd => rfl); (case hg => rfl); (case hr => first | (go_simp; done) | (go_simp; rfl)); intro gb101 hg w4 hbox hb; have n0_ := Aside0.mk (below_step bw hb); have n1_ := Aside0.mk (hbox); have n2_ := Aside0.mk ((gsz hg : w.heap.size ≤ gb101)); have n3_ := Aside0.mk ((gsz hg : w.heap.size ≤ gb101)); clear HB; have HB := n0_; have BK101 := n1_; have GW101 := n2_; have GE101 := n3_; clear n0_ n1_ n2_ n3_; clear hb hbox hg) | ((with_reducible refine gate_dst (N := 3) rfl ?_); refine box_event ?hg (N := 3) ?hd (cs := #[.bool a1_0, .slice A1_1 l1_1.length c1_1]) (t := 40) ?hr ?_; (case hd => rfl); (case hg => rfl); (case hr => first | (go_simp; done) | (go_simp; rfl)); intro gb102 hg w5 hbox hb; have n0_ := Aside0.mk (bb BK101.out hb); have n1_ := Aside0.mk (below_step bw hb); have n2_ := Aside0.mk (hbox); have n3_ := Aside0.mk ((gsz hg : w.heap.size ≤ gb102)); have n4_ := Aside0.mk ((gsz hg : w.heap.size ≤ gb102)); have n5_ := Aside0.mk (nlt hg BK101.out); have n6_ := Aside0.mk (ngt hg BK101.out); clear BK101; clear HB; have BK101 := n0_; have HB := n1_; have BK102 := n2_; have GW102 := n3_; have GE102 := n4_; have NB101_102 := n5_; have NB102_101 := n6_; clear n0_ n1_ n2_ n3_ n4_ n5_ n6_; clear hb hbox hg) | ((with_reducible refine gate_dst (N := 4) rfl ?_); refine box_event ?hg (N := 4) ?hd (cs := #[.bool false, .slice none 0 0]) (t := 40) ?hr ?_; (case hd => rfl); (case hg => rfl); (case hr => first | (go_simp; done) | (go_simp; rfl)); intro gb103 hg w6 hbox hb; have n0_ := Aside0.mk (bb BK101.out hb); have n1_ := Aside0.mk (bb BK102.out hb); have n2_ := Aside0.mk (below_step bw hb); have n3_ := Aside0.mk (hbox); have n4_ := Aside0.mk ((gsz hg : w.heap.size ≤ gb103)); have n5_ := Aside0.mk ((gsz hg : w.heap.size ≤ gb103)); have n6_ := Aside0.mk (nlt hg BK101.out); have n7_ := Aside0.mk (ngt hg BK101.out); have n8_ := Aside0.mk (nlt hg BK102.out); have n9_ := Aside0.mk (ngt hg BK102.out); clear BK101; clear BK102; clear HB; have BK101 := n0_; have BK102 := n1_; have HB := n2_; have BK103 := n3_; have GW103 := n4_; have GE103 := n5_; have NB101_103 := n6_; have NB103_101 := n7_; have NB102_103 := n8_; have NB103_102 := n9_; clear n0_ n1_ n2_ n3_ n4_ n5_ n6_ n7_ n8_ n9_; clear hb hbox hg; have hnb7 := NB101_102.out; have hnc7 := NB102_101.out; have hnb8 := NB101_103.out; have hnc8 := NB103_101.out; have hcz9_0 : w6.cell? ⟨gb101, 0, none⟩ = some (.bool a0_0) := (blk_cell BK101.out 0).trans rfl; have hcz9_1 : w6.cell? ⟨gb101, 1, none⟩ = some (.slice A0_1 l0_1.length c0_1) := (blk_cell BK101.out 1).trans rfl; have hfz9_0 := blk_frozen BK101.out 0; have hfz9_1 := blk_frozen BK101.out 1; have hnb10 := NB102_103.out; have hnc10 := NB103_102.out; have hcz11_0 : w6.cell? ⟨gb102, 0, none⟩ = some (.bool a1_0) := (blk_cell BK102.out 0).trans rfl; have hcz11_1 : w6.cell? ⟨gb102, 1, none⟩ = some (.slice A1_1 l1_1.length c1_1) := (blk_cell BK102.out 1).trans rfl; have hfz11_0 := blk_frozen BK102.out 0; have hfz11_1 := blk_frozen BK102.out 1) | ((with_reducible refine gate_callee (f := 58) rfl ?_); refine goesL_ (some 11) rfl rfl Try.func58 (by kernel_rfl) rfl #[.agg #[.bool a0_0, .slice A0_1 l0_1.length c0_1], .agg #[.bool a1_0, .slice A1_1 l1_1.length c1_1]] rfl (by (try simp only [List.map_toArray, List.map_cons, List.map_nil]); first | done | rfl | (simp only [List.length_drop, List.length_take]; rfl)) ?_; (with_reducible refine (quadformref01_DivMod.calls k a0_0 _ _ l0_1 a1_0 _ _ l1_1 t104 t105 t108 t109 t112 _ ?side1 ?side2 ?side3 ?side4 A3.out).mono ?_); (case side1 => exact cbw HR0_1.out); (case side2 => exact HC0_1.out); (case side3 => exact cbw HR1_1.out); (case side4 => exact HC1_1.out); rintro e w12 ⟨v106, v110, rfl, ho0, ho1, hb⟩; refine ⟨_, rfl, ?_⟩; have n0_ := Aside0.mk (Kd.R_lower ho0 (below_size bw)); have n1_ := Aside0.mk (Kd.R_lower ho1 (below_size bw)); have n2_ := Aside0.mk (bb BK101.out hb); have n3_ := Aside0.mk (bb BK102.out hb); have n4_ := Aside0.mk (bb BK103.out hb); have n5_ := Aside0.mk (below_step bw hb); clear BK101; clear BK102; clear BK103; clear HB; have HO107 := n0_; have HO111 := n1_; have BK101 := n2_; have BK102 := n3_; have BK103 := n4_; have HB := n5_; clear n0_ n1_ n2_ n3_ n4_ n5_; (try clear hb); (try clear hb2); (try clear hk); (try clear hi); (try clear ho0); (try clear ho1)) | ((with_reducible refine gate_dst (N := 5) rfl ?_); refine box_event ?hg (N := 5) ?hd (cs := #[.bool false, .slice none 0 0]) (t := 40) ?hr ?_; (case hd => rfl); (case hg => rfl); (case hr => first | (go_simp; done) | (go_simp; rfl)); intro gb113 hg w13 hbox hb; have n0_ := Aside0.mk (Kd.R_below (rr HO107.out) hb); have n1_ := Aside0.mk (Kd.R_below (rr HO111.out) hb); have n2_ := Aside0.mk (bb BK101.out hb); have n3_ := Aside0.mk (bb BK102.out hb); have n4_ := Aside0.mk (bb BK103.out hb); have n5_ := Aside0.mk (below_step bw hb); have n6_ := Aside0.mk (hbox); have n7_ := Aside0.mk ((gsz hg : w.heap.size ≤ gb113)); have n8_ := Aside0.mk ((gsz hg : w.heap.size ≤ gb113)); have n9_ := Aside0.mk (nlt hg BK101.out); have n10_ := Aside0.mk (ngt hg BK101.out); have n11_ := Aside0.mk (nlt hg BK102.out); have n12_ := Aside0.mk (ngt hg BK102.out); have n13_ := Aside0.mk (nlt hg BK103.out); have n14_ := Aside0.mk (ngt hg BK103.out); clear HO107; clear HO111; clear BK101; clear BK102; clear BK103; clear HB; have HO107 := n0_; have HO111 := n1_; have BK101 := n2_; have BK102 := n3_; have BK103 := n4_; have HB := n5_; have BK113 := n6_; have GW113 := n7_; have GE113 := n8_; have NB101_113 := n9_; have NB113_101 := n10_; have NB102_113 := n11_; have NB113_102 := n12_; have NB103_113 := n13_; have NB113_103 := n14_; clear n0_ n1_ n2_ n3_ n4_ n5_ n6_ n7_ n8_ n9_ n10_ n11_ n12_ n13_ n14_; clear hb hbox hg) | ((with_reducible refine gate_dst (N := 6) rfl ?_); refine box_event ?hg (N := 6) ?hd (cs := #[.bool false, .slice none 0 0]) (t := 40) ?hr ?_; (case hd => rfl); (case hg => rfl); (case hr => first | (go_simp; done) | (go_simp; rfl)); intro gb114 hg w14 hbox hb; have n0_ := Aside0.mk (Kd.R_below (rr HO107.out) hb); have n1_ := Aside0.mk (Kd.R_below (rr HO111.out) hb); have n2_ := Aside0.mk (bb BK101.out hb); have n3_ := Aside0.mk (bb BK102.out hb); have n4_ := Aside0.mk (bb BK103.out hb); have n5_ := Aside0.mk (bb BK113.out hb); have n6_ := Aside0.mk (below_step bw hb); have n7_ := Aside0.mk (hbox); have n8_ := Aside0.mk ((gsz hg : w.heap.size ≤ gb114)); have n9_ := Aside0.mk ((gsz hg : w.heap.size ≤ gb114)); have n10_ := Aside0.mk (nlt hg BK101.out); have n11_ := Aside0.mk (ngt hg BK101.out); have n12_ := Aside0.mk (nlt hg BK102.out); have n13_ := Aside0.mk (ngt hg BK102.out); have n14_ := Aside0.mk (nlt hg BK103.out); have n15_ := Aside0.mk (ngt hg BK103.out); have n16_ := Aside0.mk (nlt hg BK113.out); have n17_ := Aside0.mk (ngt hg BK113.out); clear HO107; clear HO111; clear BK101; clear BK102; clear BK103; clear BK113; clear HB; have HO107 := n0_; have HO111 := n1_; have BK101 := n2_; have BK102 := n3_; have BK103 := n4_; have BK113 := n5_; have HB := n6_; have BK114 := n7_; have GW114 := n8_; have GE114 := n9_; have NB101_114 := n10_; have NB114_101 := n11_; have NB102_114 := n12_; have NB114_102 := n13_; have NB103_114 := n14_; have NB114_103 := n15_; have NB113_114 := n16_; have NB114_113 := n17_; clear n0_ n1_ n2_ n3_ n4_ n5_ n6_ n7_ n8_ n9_ n10_ n11_ n12_ n13_ n14_ n15_ n16_ n17_; clear hb hbox hg; have hnb15 := NB113_101.out; have hnc15 := NB101_113.out; have hnb16 := NB113_102.out; have hnc16 := NB102_113.out; have hnb17 := NB113_103.out; have hnc17 := NB103_113.out; have hnb18 := NB113_114.out; have hnc18 := NB114_113.out; have hcz19_0 : w14.cell? ⟨gb113, 0, none⟩ = some (.bool false) := (blk_cell BK113.out 0).trans rfl; have hcz19_1 : w14.cell? ⟨gb113, 1, none⟩ = some (.slice none 0 0) := (blk_cell BK113.out 1).trans rfl; have hfz19_0 := blk_frozen BK113.out 0; have hfz19_1 := blk_frozen BK113.out 1; obtain ⟨Ao20, co20, eo20⟩ := Kd.R_slice HO107.out; subst eo20; have hnb21 := NB114_101.out; have hnc21 := NB101_114.out; have hnb22 := NB114_102.out; have hnc22 := NB102_114.out; have hnb23 := NB114_103.out; have hnc23 := NB103_114.out; have hcz24_0 : w14.cell? ⟨gb114, 0, none⟩ = some (.bool false) := (blk_cell BK114.out 0).trans rfl; have hcz24_1 : w14.cell? ⟨gb114, 1, none⟩ = some (.slice none 0 0) := (blk_cell BK114.out 1).trans rfl; have hfz24_0 := blk_frozen BK114.out 0; have hfz24_1 := blk_frozen BK114.out 1; obtain ⟨Ao25, co25, eo25⟩ := Kd.R_slice HO111.out; subst eo25; have hcz26_0 : w14.cell? ⟨gb103, 0, none⟩ = some (.bool false) := (blk_cell BK103.out 0).trans rfl; have hcz26_1 : w14.cell? ⟨gb103, 1, none⟩ = some (.slice none 0 0) := (blk_cell BK103.out 1).trans rfl; have hfz26_0 := blk_frozen BK103.out 0; have hfz26_1 := blk_frozen BK103.out 1))
  refine bodyPost_ret (results_cell_row rfl _ _ gb103 40 #[.bool t108, .slice Ao25 t109.length co25] (0, 0) _ rfl (by (with_reducible repeat (first | refine blk_drewN ?_ _ | refine blk_drew ?_ | refine blk_alloc ?_ _)); refine blk_put (cs := #[.bool t108, .slice none 0 0]) ?_ 1 _ rfl; (with_reducible repeat (first | refine blk_drewN ?_ _ | refine blk_drew ?_ | refine blk_alloc ?_ _)); refine blk_put (cs := #[.bool false, .slice none 0 0]) ?_ 0 _ rfl; (with_reducible repeat (first | refine blk_drewN ?_ _ | refine blk_drew ?_ | refine blk_alloc ?_ _)); refine blk_far ?_ NB103_114.out _; (with_reducible repeat (first | refine blk_drewN ?_ _ | refine blk_drew ?_ | refine blk_alloc ?_ _)); refine blk_far ?_ NB103_114.out _; (with_reducible repeat (first | refine blk_drewN ?_ _ | refine blk_drew ?_ | refine blk_alloc ?_ _)); refine blk_far ?_ NB103_113.out _; (with_reducible repeat (first | refine blk_drewN ?_ _ | refine blk_drew ?_ | refine blk_alloc ?_ _)); refine blk_far ?_ NB103_113.out _; (with_reducible repeat (first | refine blk_drewN ?_ _ | refine blk_drew ?_ | refine blk_alloc ?_ _)); exact BK103.out) Try.underlying40 rfl (by kernel_rfl)) rfl ?_
  exact ⟨_, by first | rfl | (simp [errW_none, errW_some] <;> rfl) | (simp [*, errW_none, errW_some] <;> rfl), rr (Kd.R_mono (Kd.R_far (p := ⟨gb103, 1, none⟩) (Kd.R_far (p := ⟨gb103, 0, none⟩) (Kd.R_far (p := ⟨gb114, 1, none⟩) (Kd.R_far (p := ⟨gb114, 0, none⟩) (Kd.R_far (p := ⟨gb113, 1, none⟩) (Kd.R_far (p := ⟨gb113, 0, none⟩) (Kd.R_types (Kd.R_types (Kd.R_types HO111.out BK113.out (by decide)) BK114.out (by decide)) BK103.out (by decide)) (fun _ hk => hk.1.1.2) (.bool t104)) (fun _ hk => hk.1.1.2) (.slice Ao20 t105.length co20)) (fun _ hk => hk.1.2) (.bool t108)) (fun _ hk => hk.1.2) (.slice Ao25 t109.length co25)) (fun _ hk => hk.2) (.bool t108)) (fun _ hk => hk.2) (.slice Ao25 t109.length co25)) (fun _ hk => trivial)), bw⟩
end Go.Proofs.Ytcjhbjfkcmncpaa.Q
