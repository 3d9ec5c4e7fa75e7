/- What this text shows is said at each of its parts; the statement of the claim is shown in the last text. -/
import Derived.Test.YtcjhbjfkcmncpaaYPrimeReciprocity3
namespace Go.Proofs.Ytcjhbjfkcmncpaa.Q
open Go.RowKit Go.Proofs.YtcjhbjfkcmncpaaW.PrintWords Go.Proofs.YtcjhbjfkcmncpaaW.PrintLast Go.Proofs.YtcjhbjfkcmncpaaW.PrintMore
attribute [local go_sem] max2_int min2_int max_two min_two max_three min_three max_four min_four   -- for this text's walks alone
set_option linter.unusedVariables false
set_option linter.unusedSimpArgs false
def quadformref01_Gcd.l0 : Nat → Bool → List Int → Bool → List Int → Option (Bool × List Int)
  | 0, _, _, _, _ => none
  | k + 1, x113000, x113001, x114000, x114001 => (quadformref01_Sign.f k x114000 x114001).bind fun t114 => (if t114 = 0 then (some (x113000, x113001)) else ((quadformref01_Rem.f k x113000 x113001 x114000 x114001).bind fun bt115 => (quadformref01_Gcd.l0 k x114000 x114001 bt115.1 bt115.2)))
def quadformref01_Gcd.f (k : Nat) (a0_0 : Bool) (l0_1 : List Int) (a1_0 : Bool) (l1_1 : List Int) : Option (Bool × List Int) := (quadformref01_Abs.f k a0_0 l0_1).bind fun bt104 => ((quadformref01_Abs.f k a1_0 l1_1).bind fun bt108 => (quadformref01_Gcd.l0 k bt104.1 bt104.2 bt108.1 bt108.2))
theorem quadformref01_Gcd.mono_l : ∀ k, (∀ y0 y1 y2 y3, LeO (quadformref01_Gcd.l0 k y0 y1 y2 y3) (quadformref01_Gcd.l0 (k + 1) y0 y1 y2 y3))
  | 0 => fun _ _ _ _ r h => by simp [quadformref01_Gcd.l0] at h
  | k + 1 => by
    have ih0 := quadformref01_Gcd.mono_l k
    · intro y0 y1 y2 y3
      unfold quadformref01_Gcd.l0
      repeat' first
      | (with_reducible exact ih0 _ _ _ _)
      | (with_reducible exact quadformref01_Abs.mono _ _ _)
      | (with_reducible exact quadformref01_Rem.mono _ _ _ _ _)
      | (with_reducible exact quadformref01_Sign.mono _ _ _)
      | (with_reducible exact LeO.refl _)
      | (with_reducible exact LeO.none _)
      | (with_reducible refine LeO.ite ?_ ?_)
      | (with_reducible refine LeO.bind ?_ (fun _ => ?_))
      | exact ih0 _ _ _ _
      | exact quadformref01_Abs.mono _ _ _
      | exact quadformref01_Rem.mono _ _ _ _ _
      | exact quadformref01_Sign.mono _ _ _
      | exact LeO.none _
      | refine LeO.ite ?_ ?_
      | refine LeO.bind ?_ (fun _ => ?_)
theorem quadformref01_Gcd.mono : ∀ a0 a1 a2 a3 k, LeO (quadformref01_Gcd.f k a0 a1 a2 a3) (quadformref01_Gcd.f (k + 1) a0 a1 a2 a3) := by
  intro a0 a1 a2 a3 k
  have ih0 := quadformref01_Gcd.mono_l k
  unfold quadformref01_Gcd.f
  repeat' first
      | (with_reducible exact ih0 _ _ _ _)
      | (with_reducible exact quadformref01_Abs.mono _ _ _)
      | (with_reducible exact quadformref01_Rem.mono _ _ _ _ _)
      | (with_reducible exact quadformref01_Sign.mono _ _ _)
      | (with_reducible exact LeO.refl _)
      | (with_reducible exact LeO.none _)
      | (with_reducible refine LeO.ite ?_ ?_)
      | (with_reducible refine LeO.bind ?_ (fun _ => ?_))
      | exact ih0 _ _ _ _
      | exact quadformref01_Abs.mono _ _ _
      | exact quadformref01_Rem.mono _ _ _ _ _
      | exact quadformref01_Sign.mono _ _ _
      | exact LeO.none _
      | refine LeO.ite ?_ ?_
      | refine LeO.bind ?_ (fun _ => ?_)
def quadformref01_Gcd.T1 : Bool × List (List Nat × List Nat) := (true, [([], []), ([0], [0]), ([], []), ([2, 1], [2]), ([], []), ([], []), ([4, 1, 3, 0, 1, 4, 5], [1, 4]), ([5, 3, 6, 0, 1, 2, 3, 4, 5, 6], [3, 5])])
def quadformref01_Gcd.B1 : List Nat := [0, 1, 0, 7, 0, 0, 63, 127]
theorem quadformref01_Gcd.tab1 : rtab .any (opsOf Try.f24 1) = quadformref01_Gcd.T1 := by kernel_rfl
theorem quadformref01_Gcd.bits1 : waitsOk quadformref01_Gcd.T1.2 quadformref01_Gcd.B1 = true := by kernel_rfl
set_option maxHeartbeats 8000000 in
set_option maxRecDepth 100000 in
theorem quadformref01_Gcd.calls (k : Nat) (a0_0 : Bool) (A0_1 : Option Addr) (c0_1 : Nat) (l0_1 : List Int) (a1_0 : Bool) (A1_1 : Option Addr) (c1_1 : Nat) (l1_1 : List Int) (r1 : Bool) (r2 : List Int) (w : World) (hr0_1 : Kd.C (Kd.int .u32) w A0_1 l0_1.length l0_1) (hc0_1 : l0_1.length ≤ c0_1) (hr1_1 : Kd.C (Kd.int .u32) w A1_1 l1_1.length l1_1) (hc1_1 : l1_1.length ≤ c1_1) (h : quadformref01_Gcd.f k a0_0 l0_1 a1_0 l1_1 = some (r1, r2)) :
    Calls Try.prog 24 #[.agg #[.bool a0_0, .slice A0_1 l0_1.length c0_1], .agg #[.bool a1_0, .slice A1_1 l1_1.length c1_1]] w fun e w' => ∃ v1_ : Value, e = .returned (.agg #[.bool r1, v1_]) ∧ Kd.R (Kd.int .u32) 69 w' w.heap.size (fun _ => True) v1_ r2 ∧ Below w.heap.size w w' := by
  have hu40 := Try.underlying40
  have HR0_1 := Aside0.mk hr0_1
  have HC0_1 := Aside0.mk hc0_1
  clear hr0_1 hc0_1
  have HR1_1 := Aside0.mk hr1_1
  have HC1_1 := Aside0.mk hc1_1
  clear hr1_1 hc1_1
  have HB := Aside0.mk (Below.refl w.heap.size w)
  have H : ((quadformref01_Abs.f k a0_0 l0_1).bind fun bt104 => ((quadformref01_Abs.f k a1_0 l1_1).bind fun bt108 => (quadformref01_Gcd.l0 k bt104.1 bt104.2 bt108.1 bt108.2))) = some (r1, r2) := h
  clear h
  replace H := Option.bind_eq_some_iff.mp H
  obtain ⟨⟨t104, t105⟩, A30, H⟩ := H
  replace H : ((quadformref01_Abs.f k a1_0 l1_1).bind fun bt108 => (quadformref01_Gcd.l0 k t104 t105 bt108.1 bt108.2)) = some (r1, r2) := H
  have A3 := Aside0.mk A30
  clear A30
  replace H := Option.bind_eq_some_iff.mp H
  obtain ⟨⟨t108, t109⟩, A40, H⟩ := H
  replace H : (quadformref01_Gcd.l0 k t104 t105 t108 t109) = some (r1, r2) := H
  have A4 := Aside0.mk A40
  clear A40
  have H' := Aside0.mk H
  clear H
  go_enter Try.func24, Try.ntmps24
  try go_wp2_with (first | ((with_reducible refine gate_dst (N := 2) rfl ?_); refine box_event ?hg (N := 2) ?hd (cs := #[.bool a0_0, .slice A0_1 l0_1.length c0_1]) (t := 40) ?hr ?_; (case hd => rfl); (case hg => rfl); (case hr => first | (go_simp; done) | (go_simp; rfl)); intro gb101 hg w5 hbox hb; have n0_ := Aside0.mk (below_step bw hb); have n1_ := Aside0.mk (hbox); have n2_ := Aside0.mk ((gsz hg : w.heap.size ≤ gb101)); have n3_ := Aside0.mk ((gsz hg : w.heap.size ≤ gb101)); clear HB; have HB := n0_; have BK101 := n1_; have GW101 := n2_; have GE101 := n3_; clear n0_ n1_ n2_ n3_; clear hb hbox hg) | ((with_reducible refine gate_dst (N := 3) rfl ?_); refine box_event ?hg (N := 3) ?hd (cs := #[.bool a1_0, .slice A1_1 l1_1.length c1_1]) (t := 40) ?hr ?_; (case hd => rfl); (case hg => rfl); (case hr => first | (go_simp; done) | (go_simp; rfl)); intro gb102 hg w6 hbox hb; have n0_ := Aside0.mk (bb BK101.out hb); have n1_ := Aside0.mk (below_step bw hb); have n2_ := Aside0.mk (hbox); have n3_ := Aside0.mk ((gsz hg : w.heap.size ≤ gb102)); have n4_ := Aside0.mk ((gsz hg : w.heap.size ≤ gb102)); have n5_ := Aside0.mk (nlt hg BK101.out); have n6_ := Aside0.mk (ngt hg BK101.out); clear BK101; clear HB; have BK101 := n0_; have HB := n1_; have BK102 := n2_; have GW102 := n3_; have GE102 := n4_; have NB101_102 := n5_; have NB102_101 := n6_; clear n0_ n1_ n2_ n3_ n4_ n5_ n6_; clear hb hbox hg) | ((with_reducible refine gate_dst (N := 4) rfl ?_); refine box_event ?hg (N := 4) ?hd (cs := #[.bool false, .slice none 0 0]) (t := 40) ?hr ?_; (case hd => rfl); (case hg => rfl); (case hr => first | (go_simp; done) | (go_simp; rfl)); intro gb103 hg w7 hbox hb; have n0_ := Aside0.mk (bb BK101.out hb); have n1_ := Aside0.mk (bb BK102.out hb); have n2_ := Aside0.mk (below_step bw hb); have n3_ := Aside0.mk (hbox); have n4_ := Aside0.mk ((gsz hg : w.heap.size ≤ gb103)); have n5_ := Aside0.mk ((gsz hg : w.heap.size ≤ gb103)); have n6_ := Aside0.mk (nlt hg BK101.out); have n7_ := Aside0.mk (ngt hg BK101.out); have n8_ := Aside0.mk (nlt hg BK102.out); have n9_ := Aside0.mk (ngt hg BK102.out); clear BK101; clear BK102; clear HB; have BK101 := n0_; have BK102 := n1_; have HB := n2_; have BK103 := n3_; have GW103 := n4_; have GE103 := n5_; have NB101_103 := n6_; have NB103_101 := n7_; have NB102_103 := n8_; have NB103_102 := n9_; clear n0_ n1_ n2_ n3_ n4_ n5_ n6_ n7_ n8_ n9_; clear hb hbox hg))
  replace BK101 := Aside0.mk (blk_drew BK101.out)
  replace BK102 := Aside0.mk (blk_drew BK102.out)
  replace BK103 := Aside0.mk (blk_drew BK103.out)
  replace HB := Aside0.mk (below_drew1 HB.out)
  refine start_ (n := 8) (S := fun w' => True) (ds := []) #[false, false, false, false, false, false, false, false] (by kernel_rfl) rfl rfl trivial (fun hHeld => ?_); refine with_tabW quadformref01_Gcd.tab1 quadformref01_Gcd.bits1 (fun HT_ HW_ => ?_)
  generalize w7.drew = w8 at BK101 BK102 BK103 HB hHeld ⊢
  refine inv_at [0, 1, 2, 3, 4, 5, 6, 7] (fun a0_ b a w' => ∃ (v106 : Value) (v110 : Value) (gb112 : Nat) (gb113 : Nat) (m1_ : Value) (m3_ : Value) (m4_ : Value) (m5_ : Value), a = putSel a0_ b [(0, 7, .agg #[.bool a0_0, .slice A0_1 l0_1.length c0_1]), (1, 8, m1_), (2, 9, .agg #[.bool a1_0, .slice A1_1 l1_1.length c1_1]), (3, 10, m3_), (4, 5, m4_), (5, 6, m5_)] ∧ (w'.heap[gb101]? = some (.cells #[.bool a0_0, .slice A0_1 l0_1.length c0_1] 40 (0, 0))) ∧ (w'.heap[gb102]? = some (.cells #[.bool a1_0, .slice A1_1 l1_1.length c1_1] 40 (0, 0))) ∧ (w'.heap[gb103]? = some (.cells #[.bool false, .slice none 0 0] 40 (0, 0))) ∧ (Below w.heap.size w w') ∧ (b 4 = true → b 5 = true → gb113 ≠ gb112) ∧ (b 4 = true → b 5 = true → gb112 ≠ gb113) ∧ (b 1 = true → Kd.R (Kd.int .u32) 69 w' w.heap.size (fun _ => True) v106 t105) ∧ (b 3 = true → Kd.R (Kd.int .u32) 69 w' w.heap.size (fun _ => True) v110 t109) ∧ (b 4 = true → b 6 = false → w'.heap[gb112]? = some (.cells #[.bool false, .slice none 0 0] 40 (0, 0))) ∧ (b 4 = true → w.heap.size ≤ gb112) ∧ (b 4 = true → w.heap.size ≤ gb112) ∧ (b 4 = true → gb101 ≠ gb112) ∧ (b 4 = true → gb112 ≠ gb101) ∧ (b 4 = true → gb102 ≠ gb112) ∧ (b 4 = true → gb112 ≠ gb102) ∧ (b 4 = true → gb103 ≠ gb112) ∧ (b 4 = true → gb112 ≠ gb103) ∧ (b 5 = true → b 7 = false → w'.heap[gb113]? = some (.cells #[.bool false, .slice none 0 0] 40 (0, 0))) ∧ (b 5 = true → w.heap.size ≤ gb113) ∧ (b 5 = true → w.heap.size ≤ gb113) ∧ (b 5 = true → gb101 ≠ gb113) ∧ (b 5 = true → gb113 ≠ gb101) ∧ (b 5 = true → gb102 ≠ gb113) ∧ (b 5 = true → gb113 ≠ gb102) ∧ (b 5 = true → gb103 ≠ gb113) ∧ (b 5 = true → gb113 ≠ gb103) ∧ (b 6 = true → w'.heap[gb112]? = some (.cells #[.bool t104, v106] 40 (0, 0))) ∧ (b 7 = true → w'.heap[gb113]? = some (.cells #[.bool t108, v110] 40 (0, 0))) ∧ (b 1 = true → (m1_ : Value) = .agg #[.bool t104, v106]) ∧ (b 3 = true → (m3_ : Value) = .agg #[.bool t108, v110]) ∧ (b 4 = true → (m4_ : Value) = .pointer (some ⟨gb112, 0, none⟩)) ∧ (b 5 = true → (m5_ : Value) = .pointer (some ⟨gb113, 0, none⟩))) HT_.out HW_.out (by kernel_rfl) (by kernel_rfl) ?_ ?_ ?_
  · exact ⟨.bool false, .bool false, 0, 0, .bool false, .bool false, .bool false, .bool false, by simp only [putSel, Bool.false_eq_true, if_false], BK101.out, BK102.out, BK103.out, HB.out, fun h_ => absurd h_ (by decide), fun h_ => absurd h_ (by decide), fun h_ => absurd h_ (by decide), fun h_ => absurd h_ (by decide), fun h_ => absurd h_ (by decide), fun h_ => absurd h_ (by decide), fun h_ => absurd h_ (by decide), fun h_ => absurd h_ (by decide), fun h_ => absurd h_ (by decide), fun h_ => absurd h_ (by decide), fun h_ => absurd h_ (by decide), fun h_ => absurd h_ (by decide), fun h_ => absurd h_ (by decide), fun h_ => absurd h_ (by decide), fun h_ => absurd h_ (by decide), fun h_ => absurd h_ (by decide), fun h_ => absurd h_ (by decide), fun h_ => absurd h_ (by decide), fun h_ => absurd h_ (by decide), fun h_ => absurd h_ (by decide), fun h_ => absurd h_ (by decide), fun h_ => absurd h_ (by decide), fun h_ => absurd h_ (by decide), fun h_ => absurd h_ (by decide), fun h_ => absurd h_ (by decide), fun h_ => absurd h_ (by decide), fun h_ => absurd h_ (by decide), fun h_ => absurd h_ (by decide)⟩
  · skip
    clear BK101 BK102 BK103 HB
    refine steps_cons ?_ ?_
    · rintro b a w' ⟨v106, v110, gb112, gb113, m1_, m3_, m4_, m5_, ha, Q_BK101, Q_BK102, Q_BK103, Q_HB, Q_NB113_112, Q_NB112_113, Q_HO107, Q_HO111, Q_BK112, Q_GW112, Q_GE112, Q_NB101_112, Q_NB112_101, Q_NB102_112, Q_NB112_102, Q_NB103_112, Q_NB112_103, Q_BK113, Q_GW113, Q_GE113, Q_NB101_113, Q_NB113_101, Q_NB102_113, Q_NB113_102, Q_NB103_113, Q_NB113_103, Q_BK112_e6, Q_BK113_e7, Q_X1_, Q_X3_, Q_X4_, Q_X5_⟩ hb_ hon hoff
      refine ⟨_, rfl, fun K hK => ?_⟩
      have e2 : a.tmps[2]? = some (.pointer (some ⟨gb101, 0, none⟩)) := by rw [ha]; exact (putSel_off rfl).trans rfl
      replace ha := Aside0.mk ha
      have BK101 := Aside0.mk Q_BK101
      have BK102 := Aside0.mk Q_BK102
      have BK103 := Aside0.mk Q_BK103
      have HB := Aside0.mk Q_HB
      have hc0_ : w'.cell? ⟨gb101, 0, none⟩ = some (.bool a0_0) := (blk_cell BK101.out 0).trans rfl
      have hc1_ : w'.cell? ⟨gb101, 1, none⟩ = some (.slice A0_1 l0_1.length c0_1) := (blk_cell BK101.out 1).trans rfl
      refine value_ (w1 := w') (v := .agg #[.bool a0_0, .slice A0_1 l0_1.length c0_1]) (by rfl) rfl ?_ ?_
      · go_simp
        (try simp only [i64_w])
        try rfl
      refine hK.out _ _ ⟨v106, v110, gb112, gb113, m1_, m3_, m4_, m5_, (by rw [ha.out]; exact putSel_upk 0 hb_ rfl rfl rfl), Q_BK101, Q_BK102, Q_BK103, Q_HB, Q_NB113_112, Q_NB112_113, fun h0_ => absurd ((hoff 1 (by kernel_rfl)).symm.trans h0_) (by decide), fun h0_ => absurd ((hoff 3 (by kernel_rfl)).symm.trans h0_) (by decide), Q_BK112, Q_GW112, Q_GE112, Q_NB101_112, Q_NB112_101, Q_NB102_112, Q_NB112_102, Q_NB103_112, Q_NB112_103, Q_BK113, Q_GW113, Q_GE113, Q_NB101_113, Q_NB113_101, Q_NB102_113, Q_NB113_102, Q_NB103_113, Q_NB113_103, fun h0_ => absurd ((hoff 6 (by kernel_rfl)).symm.trans h0_) (by decide), fun h0_ => absurd ((hoff 7 (by kernel_rfl)).symm.trans h0_) (by decide), fun h0_ => absurd ((hoff 1 (by kernel_rfl)).symm.trans h0_) (by decide), fun h0_ => absurd ((hoff 3 (by kernel_rfl)).symm.trans h0_) (by decide), Q_X4_, Q_X5_⟩
    refine steps_cons ?_ ?_
    · rintro b a w' ⟨v106, v110, gb112, gb113, m1_, m3_, m4_, m5_, ha, Q_BK101, Q_BK102, Q_BK103, Q_HB, Q_NB113_112, Q_NB112_113, Q_HO107, Q_HO111, Q_BK112, Q_GW112, Q_GE112, Q_NB101_112, Q_NB112_101, Q_NB102_112, Q_NB112_102, Q_NB103_112, Q_NB112_103, Q_BK113, Q_GW113, Q_GE113, Q_NB101_113, Q_NB113_101, Q_NB102_113, Q_NB113_102, Q_NB103_113, Q_NB113_103, Q_BK112_e6, Q_BK113_e7, Q_X1_, Q_X3_, Q_X4_, Q_X5_⟩ hb_ hon hoff
      refine ⟨_, rfl, fun K hK => ?_⟩
      have e7 : a.tmps[7]? = some (.agg #[.bool a0_0, .slice A0_1 l0_1.length c0_1]) := by rw [ha]; exact putSel_on (e := (0, 7, .agg #[.bool a0_0, .slice A0_1 l0_1.length c0_1])) 0 rfl rfl (hon 0 (by kernel_rfl)) rfl
      replace ha := Aside0.mk ha
      have BK101 := Aside0.mk Q_BK101
      have BK102 := Aside0.mk Q_BK102
      have BK103 := Aside0.mk Q_BK103
      have HB := Aside0.mk Q_HB
      refine goes_ Try.func41 (by kernel_rfl) rfl #[.agg #[.bool a0_0, .slice A0_1 l0_1.length c0_1]] (by rfl) rfl rfl (by first | (simp only [List.map_toArray, List.map_cons, List.map_nil, Act.eval, Array.getD_eq_getD_getElem?, Option.getD_some, e7]; done) | (simp only [List.map_toArray, List.map_cons, List.map_nil, Act.eval, Array.getD_eq_getD_getElem?, Option.getD_some, e7]; rfl)) ?_
      with_reducible refine (quadformref01_Abs.calls k a0_0 _ _ l0_1 t104 t105 _ ?side1 ?side2 A3.out).mono ?_
      (case side1 => exact cbw HR0_1.out)
      (case side2 => exact HC0_1.out)
      rintro e w9 ⟨v106, rfl, ho0, hb⟩
      refine ⟨_, rfl, ?_⟩
      have z_BK112 := fun (h0_ : b 4 = true) (h1_ : b 6 = false) => (show w9.heap[gb112]? = some (.cells #[.bool false, .slice none 0 0] 40 (0, 0)) from by first | exact (blk_below (g := gb112) (o := .cells #[.bool false, .slice none 0 0] 40 (0, 0)) (bk ((Q_BK112 h0_ h1_))) hb))
      have z_BK113 := fun (h0_ : b 5 = true) (h1_ : b 7 = false) => (show w9.heap[gb113]? = some (.cells #[.bool false, .slice none 0 0] 40 (0, 0)) from by first | exact (blk_below (g := gb113) (o := .cells #[.bool false, .slice none 0 0] 40 (0, 0)) (bk ((Q_BK113 h0_ h1_))) hb))
      have HO107 := Aside0.mk (Kd.R_lower ho0 (below_size bw))
      replace BK101 := Aside0.mk (bb BK101.out hb)
      replace BK102 := Aside0.mk (bb BK102.out hb)
      replace BK103 := Aside0.mk (bb BK103.out hb)
      replace HB := Aside0.mk (below_step bw hb)
      (try clear hb)
      (try clear hb2)
      (try clear hk)
      (try clear hi)
      (try clear ho0)
      refine hK.out _ _ ⟨v106, v110, gb112, gb113, (.agg #[.bool t104, v106]), m3_, m4_, m5_, (by rw [ha.out]; exact putSel_upk 1 hb_ rfl rfl rfl), (bk BK101.out), (bk BK102.out), (bk BK103.out), bw, Q_NB113_112, Q_NB112_113, fun _ => (rr HO107.out), fun h0_ => absurd ((hoff 3 (by kernel_rfl)).symm.trans h0_) (by decide), z_BK112, Q_GW112, Q_GE112, Q_NB101_112, Q_NB112_101, Q_NB102_112, Q_NB112_102, Q_NB103_112, Q_NB112_103, z_BK113, Q_GW113, Q_GE113, Q_NB101_113, Q_NB113_101, Q_NB102_113, Q_NB113_102, Q_NB103_113, Q_NB113_103, fun h0_ => absurd ((hoff 6 (by kernel_rfl)).symm.trans h0_) (by decide), fun h0_ => absurd ((hoff 7 (by kernel_rfl)).symm.trans h0_) (by decide), fun _ => rfl, fun h0_ => absurd ((hoff 3 (by kernel_rfl)).symm.trans h0_) (by decide), Q_X4_, Q_X5_⟩
    refine steps_cons ?_ ?_
    · rintro b a w' ⟨v106, v110, gb112, gb113, m1_, m3_, m4_, m5_, ha, Q_BK101, Q_BK102, Q_BK103, Q_HB, Q_NB113_112, Q_NB112_113, Q_HO107, Q_HO111, Q_BK112, Q_GW112, Q_GE112, Q_NB101_112, Q_NB112_101, Q_NB102_112, Q_NB112_102, Q_NB103_112, Q_NB112_103, Q_BK113, Q_GW113, Q_GE113, Q_NB101_113, Q_NB113_101, Q_NB102_113, Q_NB113_102, Q_NB103_113, Q_NB113_103, Q_BK112_e6, Q_BK113_e7, Q_X1_, Q_X3_, Q_X4_, Q_X5_⟩ hb_ hon hoff
      refine ⟨_, rfl, fun K hK => ?_⟩
      have e3 : a.tmps[3]? = some (.pointer (some ⟨gb102, 0, none⟩)) := by rw [ha]; exact (putSel_off rfl).trans rfl
      replace ha := Aside0.mk ha
      have BK101 := Aside0.mk Q_BK101
      have BK102 := Aside0.mk Q_BK102
      have BK103 := Aside0.mk Q_BK103
      have HB := Aside0.mk Q_HB
      have hc0_ : w'.cell? ⟨gb102, 0, none⟩ = some (.bool a1_0) := (blk_cell BK102.out 0).trans rfl
      have hc1_ : w'.cell? ⟨gb102, 1, none⟩ = some (.slice A1_1 l1_1.length c1_1) := (blk_cell BK102.out 1).trans rfl
      refine value_ (w1 := w') (v := .agg #[.bool a1_0, .slice A1_1 l1_1.length c1_1]) (by rfl) rfl ?_ ?_
      · go_simp
        (try simp only [i64_w])
        try rfl
      refine hK.out _ _ ⟨v106, v110, gb112, gb113, m1_, m3_, m4_, m5_, (by rw [ha.out]; exact putSel_upk 2 hb_ rfl rfl rfl), Q_BK101, Q_BK102, Q_BK103, Q_HB, Q_NB113_112, Q_NB112_113, Q_HO107, fun h0_ => absurd ((hoff 3 (by kernel_rfl)).symm.trans h0_) (by decide), Q_BK112, Q_GW112, Q_GE112, Q_NB101_112, Q_NB112_101, Q_NB102_112, Q_NB112_102, Q_NB103_112, Q_NB112_103, Q_BK113, Q_GW113, Q_GE113, Q_NB101_113, Q_NB113_101, Q_NB102_113, Q_NB113_102, Q_NB103_113, Q_NB113_103, fun h0_ => absurd ((hoff 6 (by kernel_rfl)).symm.trans h0_) (by decide), fun h0_ => absurd ((hoff 7 (by kernel_rfl)).symm.trans h0_) (by decide), Q_X1_, fun h0_ => absurd ((hoff 3 (by kernel_rfl)).symm.trans h0_) (by decide), Q_X4_, Q_X5_⟩
    refine steps_cons ?_ ?_
    · rintro b a w' ⟨v106, v110, gb112, gb113, m1_, m3_, m4_, m5_, ha, Q_BK101, Q_BK102, Q_BK103, Q_HB, Q_NB113_112, Q_NB112_113, Q_HO107, Q_HO111, Q_BK112, Q_GW112, Q_GE112, Q_NB101_112, Q_NB112_101, Q_NB102_112, Q_NB112_102, Q_NB103_112, Q_NB112_103, Q_BK113, Q_GW113, Q_GE113, Q_NB101_113, Q_NB113_101, Q_NB102_113, Q_NB113_102, Q_NB103_113, Q_NB113_103, Q_BK112_e6, Q_BK113_e7, Q_X1_, Q_X3_, Q_X4_, Q_X5_⟩ hb_ hon hoff
      refine ⟨_, rfl, fun K hK => ?_⟩
      have e9 : a.tmps[9]? = some (.agg #[.bool a1_0, .slice A1_1 l1_1.length c1_1]) := by rw [ha]; exact putSel_on (e := (2, 9, .agg #[.bool a1_0, .slice A1_1 l1_1.length c1_1])) 2 rfl rfl (hon 2 (by kernel_rfl)) rfl
      replace ha := Aside0.mk ha
      have BK101 := Aside0.mk Q_BK101
      have BK102 := Aside0.mk Q_BK102
      have BK103 := Aside0.mk Q_BK103
      have HB := Aside0.mk Q_HB
      have HO107 := Aside0.mk (Q_HO107 (hon 1 (by kernel_rfl)))
      refine goes_ Try.func41 (by kernel_rfl) rfl #[.agg #[.bool a1_0, .slice A1_1 l1_1.length c1_1]] (by rfl) rfl rfl (by first | (simp only [List.map_toArray, List.map_cons, List.map_nil, Act.eval, Array.getD_eq_getD_getElem?, Option.getD_some, e9]; done) | (simp only [List.map_toArray, List.map_cons, List.map_nil, Act.eval, Array.getD_eq_getD_getElem?, Option.getD_some, e9]; rfl)) ?_
      with_reducible refine (quadformref01_Abs.calls k a1_0 _ _ l1_1 t108 t109 _ ?side1 ?side2 A4.out).mono ?_
      (case side1 => exact cbw HR1_1.out)
      (case side2 => exact HC1_1.out)
      rintro e w11 ⟨v110, rfl, ho0, hb⟩
      refine ⟨_, rfl, ?_⟩
      have z_BK112 := fun (h0_ : b 4 = true) (h1_ : b 6 = false) => (show w11.heap[gb112]? = some (.cells #[.bool false, .slice none 0 0] 40 (0, 0)) from by first | exact (blk_below (g := gb112) (o := .cells #[.bool false, .slice none 0 0] 40 (0, 0)) (bk ((Q_BK112 h0_ h1_))) hb))
      have z_BK113 := fun (h0_ : b 5 = true) (h1_ : b 7 = false) => (show w11.heap[gb113]? = some (.cells #[.bool false, .slice none 0 0] 40 (0, 0)) from by first | exact (blk_below (g := gb113) (o := .cells #[.bool false, .slice none 0 0] 40 (0, 0)) (bk ((Q_BK113 h0_ h1_))) hb))
      replace HO107 := Aside0.mk (Kd.R_below (rr HO107.out) hb)
      have HO111 := Aside0.mk (Kd.R_lower ho0 (below_size bw))
      replace BK101 := Aside0.mk (bb BK101.out hb)
      replace BK102 := Aside0.mk (bb BK102.out hb)
      replace BK103 := Aside0.mk (bb BK103.out hb)
      replace HB := Aside0.mk (below_step bw hb)
      (try clear hb)
      (try clear hb2)
      (try clear hk)
      (try clear hi)
      (try clear ho0)
      refine hK.out _ _ ⟨v106, v110, gb112, gb113, m1_, (.agg #[.bool t108, v110]), m4_, m5_, (by rw [ha.out]; exact putSel_upk 3 hb_ rfl rfl rfl), (bk BK101.out), (bk BK102.out), (bk BK103.out), bw, Q_NB113_112, Q_NB112_113, fun _ => (rr HO107.out), fun _ => (rr HO111.out), z_BK112, Q_GW112, Q_GE112, Q_NB101_112, Q_NB112_101, Q_NB102_112, Q_NB112_102, Q_NB103_112, Q_NB112_103, z_BK113, Q_GW113, Q_GE113, Q_NB101_113, Q_NB113_101, Q_NB102_113, Q_NB113_102, Q_NB103_113, Q_NB113_103, fun h0_ => absurd ((hoff 6 (by kernel_rfl)).symm.trans h0_) (by decide), fun h0_ => absurd ((hoff 7 (by kernel_rfl)).symm.trans h0_) (by decide), Q_X1_, fun _ => rfl, Q_X4_, Q_X5_⟩
    refine steps_cons ?_ ?_
    · rintro b a w' ⟨v106, v110, gb112, gb113, m1_, m3_, m4_, m5_, ha, Q_BK101, Q_BK102, Q_BK103, Q_HB, Q_NB113_112, Q_NB112_113, Q_HO107, Q_HO111, Q_BK112, Q_GW112, Q_GE112, Q_NB101_112, Q_NB112_101, Q_NB102_112, Q_NB112_102, Q_NB103_112, Q_NB112_103, Q_BK113, Q_GW113, Q_GE113, Q_NB101_113, Q_NB113_101, Q_NB102_113, Q_NB113_102, Q_NB103_113, Q_NB113_103, Q_BK112_e6, Q_BK113_e7, Q_X1_, Q_X3_, Q_X4_, Q_X5_⟩ hb_ hon hoff
      refine ⟨_, rfl, fun K hK => ?_⟩
      replace ha := Aside0.mk ha
      have BK101 := Aside0.mk Q_BK101
      have BK102 := Aside0.mk Q_BK102
      have BK103 := Aside0.mk Q_BK103
      have HB := Aside0.mk Q_HB
      refine box_step ?hg (N := 5) ?hd (cs := #[.bool false, .slice none 0 0]) (t := 40) ?hr ?_; (case hd => rfl); (case hg => rfl); (case hr => first | (go_simp; done) | (go_simp; rfl))
      intro gb112 hg w9 hbox hb
      have z_NB113_112 := fun (h0_ : up b 4 4 = true) (h1_ : up b 4 5 = true) => (show gb113 ≠ gb112 from ((by rw [hg]; exact Nat.ne_of_lt (blk_lt (g := gb113) (o := .cells #[.bool false, .slice none 0 0] 40 (0, 0)) (bk ((Q_BK113 h1_ (hoff 7 (by kernel_rfl)))))) : gb113 ≠ gb112)))
      have z_NB112_113 := fun (h0_ : up b 4 4 = true) (h1_ : up b 4 5 = true) => (show gb112 ≠ gb113 from ((by rw [hg]; exact Nat.ne_of_gt (blk_lt (g := gb113) (o := .cells #[.bool false, .slice none 0 0] 40 (0, 0)) (bk ((Q_BK113 h1_ (hoff 7 (by kernel_rfl)))))) : gb112 ≠ gb113)))
      have z_HO107 := fun (h0_ : b 1 = true) => (show Kd.R (Kd.int .u32) 69 w9 w.heap.size (fun _ => True) v106 t105 from by first | exact (Kd.R_below (rr ((Q_HO107 h0_))) hb) | exact Kd.R_mono (Kd.R_below (rr ((Q_HO107 h0_))) hb) (fun _ h_ => by first | trivial | exact h_ | exact h_.1))
      have z_HO111 := fun (h0_ : b 3 = true) => (show Kd.R (Kd.int .u32) 69 w9 w.heap.size (fun _ => True) v110 t109 from by first | exact (Kd.R_below (rr ((Q_HO111 h0_))) hb) | exact Kd.R_mono (Kd.R_below (rr ((Q_HO111 h0_))) hb) (fun _ h_ => by first | trivial | exact h_ | exact h_.1))
      have z_BK113 := fun (h0_ : b 5 = true) (h1_ : b 7 = false) => (show w9.heap[gb113]? = some (.cells #[.bool false, .slice none 0 0] 40 (0, 0)) from by first | exact (blk_below (g := gb113) (o := .cells #[.bool false, .slice none 0 0] 40 (0, 0)) (bk ((Q_BK113 h0_ h1_))) hb))
      have BK112 := Aside0.mk (hbox)
      have GW112 := Aside0.mk ((gsz hg : w.heap.size ≤ gb112))
      have GE112 := Aside0.mk ((gsz hg : w.heap.size ≤ gb112))
      replace HB := Aside0.mk (below_step bw hb)
      have NB101_112 := Aside0.mk (nlt hg BK101.out)
      have NB112_101 := Aside0.mk (ngt hg BK101.out)
      replace BK101 := Aside0.mk (bb BK101.out hb)
      have NB102_112 := Aside0.mk (nlt hg BK102.out)
      have NB112_102 := Aside0.mk (ngt hg BK102.out)
      replace BK102 := Aside0.mk (bb BK102.out hb)
      have NB103_112 := Aside0.mk (nlt hg BK103.out)
      have NB112_103 := Aside0.mk (ngt hg BK103.out)
      replace BK103 := Aside0.mk (bb BK103.out hb)
      clear hb hbox hg
      refine hK.out _ _ ⟨v106, v110, gb112, gb113, m1_, m3_, (.pointer (some ⟨gb112, 0, none⟩)), m5_, (by rw [ha.out]; exact putSel_upk 4 hb_ rfl rfl rfl), (bk BK101.out), (bk BK102.out), (bk BK103.out), bw, z_NB113_112, z_NB112_113, z_HO107, z_HO111, fun _ _ => (bk BK112.out), fun _ => GW112.out, fun _ => GE112.out, fun _ => NB101_112.out, fun _ => NB112_101.out, fun _ => NB102_112.out, fun _ => NB112_102.out, fun _ => NB103_112.out, fun _ => NB112_103.out, z_BK113, Q_GW113, Q_GE113, Q_NB101_113, Q_NB113_101, Q_NB102_113, Q_NB113_102, Q_NB103_113, Q_NB113_103, fun h0_ => absurd ((hoff 6 (by kernel_rfl)).symm.trans h0_) (by decide), fun h0_ => absurd ((hoff 7 (by kernel_rfl)).symm.trans h0_) (by decide), Q_X1_, Q_X3_, fun _ => rfl, Q_X5_⟩
    refine steps_cons ?_ ?_
    · rintro b a w' ⟨v106, v110, gb112, gb113, m1_, m3_, m4_, m5_, ha, Q_BK101, Q_BK102, Q_BK103, Q_HB, Q_NB113_112, Q_NB112_113, Q_HO107, Q_HO111, Q_BK112, Q_GW112, Q_GE112, Q_NB101_112, Q_NB112_101, Q_NB102_112, Q_NB112_102, Q_NB103_112, Q_NB112_103, Q_BK113, Q_GW113, Q_GE113, Q_NB101_113, Q_NB113_101, Q_NB102_113, Q_NB113_102, Q_NB103_113, Q_NB113_103, Q_BK112_e6, Q_BK113_e7, Q_X1_, Q_X3_, Q_X4_, Q_X5_⟩ hb_ hon hoff
      refine ⟨_, rfl, fun K hK => ?_⟩
      replace ha := Aside0.mk ha
      have BK101 := Aside0.mk Q_BK101
      have BK102 := Aside0.mk Q_BK102
      have BK103 := Aside0.mk Q_BK103
      have HB := Aside0.mk Q_HB
      refine box_step ?hg (N := 6) ?hd (cs := #[.bool false, .slice none 0 0]) (t := 40) ?hr ?_; (case hd => rfl); (case hg => rfl); (case hr => first | (go_simp; done) | (go_simp; rfl))
      intro gb113 hg w9 hbox hb
      have z_NB113_112 := fun (h0_ : up b 5 4 = true) (h1_ : up b 5 5 = true) => (show gb113 ≠ gb112 from ((by rw [hg]; exact Nat.ne_of_gt (blk_lt (g := gb112) (o := .cells #[.bool false, .slice none 0 0] 40 (0, 0)) (bk ((Q_BK112 h0_ (hoff 6 (by kernel_rfl)))))) : gb113 ≠ gb112)))
      have z_NB112_113 := fun (h0_ : up b 5 4 = true) (h1_ : up b 5 5 = true) => (show gb112 ≠ gb113 from ((by rw [hg]; exact Nat.ne_of_lt (blk_lt (g := gb112) (o := .cells #[.bool false, .slice none 0 0] 40 (0, 0)) (bk ((Q_BK112 h0_ (hoff 6 (by kernel_rfl)))))) : gb112 ≠ gb113)))
      have z_HO107 := fun (h0_ : b 1 = true) => (show Kd.R (Kd.int .u32) 69 w9 w.heap.size (fun _ => True) v106 t105 from by first | exact (Kd.R_below (rr ((Q_HO107 h0_))) hb) | exact Kd.R_mono (Kd.R_below (rr ((Q_HO107 h0_))) hb) (fun _ h_ => by first | trivial | exact h_ | exact h_.1))
      have z_HO111 := fun (h0_ : b 3 = true) => (show Kd.R (Kd.int .u32) 69 w9 w.heap.size (fun _ => True) v110 t109 from by first | exact (Kd.R_below (rr ((Q_HO111 h0_))) hb) | exact Kd.R_mono (Kd.R_below (rr ((Q_HO111 h0_))) hb) (fun _ h_ => by first | trivial | exact h_ | exact h_.1))
      have z_BK112 := fun (h0_ : b 4 = true) (h1_ : b 6 = false) => (show w9.heap[gb112]? = some (.cells #[.bool false, .slice none 0 0] 40 (0, 0)) from by first | exact (blk_below (g := gb112) (o := .cells #[.bool false, .slice none 0 0] 40 (0, 0)) (bk ((Q_BK112 h0_ h1_))) hb))
      have BK113 := Aside0.mk (hbox)
      have GW113 := Aside0.mk ((gsz hg : w.heap.size ≤ gb113))
      have GE113 := Aside0.mk ((gsz hg : w.heap.size ≤ gb113))
      replace HB := Aside0.mk (below_step bw hb)
      have NB101_113 := Aside0.mk (nlt hg BK101.out)
      have NB113_101 := Aside0.mk (ngt hg BK101.out)
      replace BK101 := Aside0.mk (bb BK101.out hb)
      have NB102_113 := Aside0.mk (nlt hg BK102.out)
      have NB113_102 := Aside0.mk (ngt hg BK102.out)
      replace BK102 := Aside0.mk (bb BK102.out hb)
      have NB103_113 := Aside0.mk (nlt hg BK103.out)
      have NB113_103 := Aside0.mk (ngt hg BK103.out)
      replace BK103 := Aside0.mk (bb BK103.out hb)
      clear hb hbox hg
      refine hK.out _ _ ⟨v106, v110, gb112, gb113, m1_, m3_, m4_, (.pointer (some ⟨gb113, 0, none⟩)), (by rw [ha.out]; exact putSel_upk 5 hb_ rfl rfl rfl), (bk BK101.out), (bk BK102.out), (bk BK103.out), bw, z_NB113_112, z_NB112_113, z_HO107, z_HO111, z_BK112, Q_GW112, Q_GE112, Q_NB101_112, Q_NB112_101, Q_NB102_112, Q_NB112_102, Q_NB103_112, Q_NB112_103, fun _ _ => (bk BK113.out), fun _ => GW113.out, fun _ => GE113.out, fun _ => NB101_113.out, fun _ => NB113_101.out, fun _ => NB102_113.out, fun _ => NB113_102.out, fun _ => NB103_113.out, fun _ => NB113_103.out, fun h0_ => absurd ((hoff 6 (by kernel_rfl)).symm.trans h0_) (by decide), fun h0_ => absurd ((hoff 7 (by kernel_rfl)).symm.trans h0_) (by decide), Q_X1_, Q_X3_, Q_X4_, fun _ => rfl⟩
    refine steps_cons ?_ ?_
    · rintro b a w' ⟨v106, v110, gb112, gb113, m1_, m3_, m4_, m5_, ha, Q_BK101, Q_BK102, Q_BK103, Q_HB, Q_NB113_112, Q_NB112_113, Q_HO107, Q_HO111, Q_BK112, Q_GW112, Q_GE112, Q_NB101_112, Q_NB112_101, Q_NB102_112, Q_NB112_102, Q_NB103_112, Q_NB112_103, Q_BK113, Q_GW113, Q_GE113, Q_NB101_113, Q_NB113_101, Q_NB102_113, Q_NB113_102, Q_NB103_113, Q_NB113_103, Q_BK112_e6, Q_BK113_e7, Q_X1_, Q_X3_, Q_X4_, Q_X5_⟩ hb_ hon hoff
      refine ⟨_, rfl, fun K hK => ?_⟩
      have e5 : a.tmps[5]? = some (m4_) := by rw [ha]; exact putSel_on (e := (4, 5, m4_)) 4 rfl rfl (hon 4 (by kernel_rfl)) rfl
      rw [Q_X4_ (hon 4 (by kernel_rfl))] at e5
      have e8 : a.tmps[8]? = some (m1_) := by rw [ha]; exact putSel_on (e := (1, 8, m1_)) 1 rfl rfl (hon 1 (by kernel_rfl)) rfl
      rw [Q_X1_ (hon 1 (by kernel_rfl))] at e8
      replace ha := Aside0.mk ha
      have BK101 := Aside0.mk Q_BK101
      have BK102 := Aside0.mk Q_BK102
      have BK103 := Aside0.mk Q_BK103
      have HB := Aside0.mk Q_HB
      have NB113_112 := Aside0.mk (Q_NB113_112 (hon 4 (by kernel_rfl)) (hon 5 (by kernel_rfl)))
      have NB112_113 := Aside0.mk (Q_NB112_113 (hon 4 (by kernel_rfl)) (hon 5 (by kernel_rfl)))
      have HO107 := Aside0.mk (Q_HO107 (hon 1 (by kernel_rfl)))
      have HO111 := Aside0.mk (Q_HO111 (hon 3 (by kernel_rfl)))
      have BK112 := Aside0.mk (Q_BK112 (hon 4 (by kernel_rfl)) hb_)
      have GW112 := Aside0.mk (Q_GW112 (hon 4 (by kernel_rfl)))
      have GE112 := Aside0.mk (Q_GE112 (hon 4 (by kernel_rfl)))
      have NB101_112 := Aside0.mk (Q_NB101_112 (hon 4 (by kernel_rfl)))
      have NB112_101 := Aside0.mk (Q_NB112_101 (hon 4 (by kernel_rfl)))
      have NB102_112 := Aside0.mk (Q_NB102_112 (hon 4 (by kernel_rfl)))
      have NB112_102 := Aside0.mk (Q_NB112_102 (hon 4 (by kernel_rfl)))
      have NB103_112 := Aside0.mk (Q_NB103_112 (hon 4 (by kernel_rfl)))
      have NB112_103 := Aside0.mk (Q_NB112_103 (hon 4 (by kernel_rfl)))
      have BK113 := Aside0.mk (Q_BK113 (hon 5 (by kernel_rfl)) (hoff 7 (by kernel_rfl)))
      have GW113 := Aside0.mk (Q_GW113 (hon 5 (by kernel_rfl)))
      have GE113 := Aside0.mk (Q_GE113 (hon 5 (by kernel_rfl)))
      have NB101_113 := Aside0.mk (Q_NB101_113 (hon 5 (by kernel_rfl)))
      have NB113_101 := Aside0.mk (Q_NB113_101 (hon 5 (by kernel_rfl)))
      have NB102_113 := Aside0.mk (Q_NB102_113 (hon 5 (by kernel_rfl)))
      have NB113_102 := Aside0.mk (Q_NB113_102 (hon 5 (by kernel_rfl)))
      have NB103_113 := Aside0.mk (Q_NB103_113 (hon 5 (by kernel_rfl)))
      have NB113_103 := Aside0.mk (Q_NB113_103 (hon 5 (by kernel_rfl)))
      obtain ⟨Ao15, co15, eo15⟩ := Kd.R_slice HO107.out
      (first | subst eo15 | (injection eo15 with f1_ f2_ f3_; have f4_ := f1_.symm; have f5_ := f3_.symm; clear f1_ f2_ f3_; subst f4_; subst f5_))
      have hs14 : w'.cell? ⟨gb112, 0, none⟩ = some (.bool false) := (blk_cell BK112.out 0).trans rfl
      have hfs14 := blk_frozen BK112.out 0
      have hns14_0 := NB101_112.out
      have hns14_1 := NB102_112.out
      have hns14_2 := NB103_112.out
      have hns14_4 := NB113_112.out
      have hms14_0 := NB112_101.out
      have hms14_1 := NB112_102.out
      have hms14_2 := NB112_103.out
      have hms14_4 := NB112_113.out
      have hs16 : w'.cell? ⟨gb112, 1, none⟩ = some (.slice none 0 0) := (blk_cell BK112.out 1).trans rfl
      have hfs16 := blk_frozen BK112.out 1
      have hns16_0 := NB101_112.out
      have hns16_1 := NB102_112.out
      have hns16_2 := NB103_112.out
      have hns16_4 := NB113_112.out
      have hms16_0 := NB112_101.out
      have hms16_1 := NB112_102.out
      have hms16_2 := NB112_103.out
      have hms16_4 := NB112_113.out
      refine skip_ (w1 := ?_) (by rfl) rfl ?_ ?_
      rotate_left
      · go_simp
        rfl
      refine hK.out _ _ ⟨.slice Ao15 t105.length co15, v110, gb112, gb113, m1_, m3_, m4_, m5_, (by rw [ha.out]; exact putSel_none (v := undef) rfl), (by (with_reducible repeat (first | refine blk_drewN ?_ _ | refine blk_drew ?_ | refine blk_alloc ?_ _)); refine blk_far ?_ NB101_112.out _; (with_reducible repeat (first | refine blk_drewN ?_ _ | refine blk_drew ?_ | refine blk_alloc ?_ _)); refine blk_far ?_ NB101_112.out _; (with_reducible repeat (first | refine blk_drewN ?_ _ | refine blk_drew ?_ | refine blk_alloc ?_ _)); exact BK101.out), (by (with_reducible repeat (first | refine blk_drewN ?_ _ | refine blk_drew ?_ | refine blk_alloc ?_ _)); refine blk_far ?_ NB102_112.out _; (with_reducible repeat (first | refine blk_drewN ?_ _ | refine blk_drew ?_ | refine blk_alloc ?_ _)); refine blk_far ?_ NB102_112.out _; (with_reducible repeat (first | refine blk_drewN ?_ _ | refine blk_drew ?_ | refine blk_alloc ?_ _)); exact BK102.out), (by (with_reducible repeat (first | refine blk_drewN ?_ _ | refine blk_drew ?_ | refine blk_alloc ?_ _)); refine blk_far ?_ NB103_112.out _; (with_reducible repeat (first | refine blk_drewN ?_ _ | refine blk_drew ?_ | refine blk_alloc ?_ _)); refine blk_far ?_ NB103_112.out _; (with_reducible repeat (first | refine blk_drewN ?_ _ | refine blk_drew ?_ | refine blk_alloc ?_ _)); exact BK103.out), bw, fun _ _ => NB113_112.out, fun _ _ => NB112_113.out, fun _ => (rr (Kd.R_mono (Kd.R_far (p := ⟨gb112, 1, none⟩) (Kd.R_far (p := ⟨gb112, 0, none⟩) (Kd.R_types HO107.out BK112.out (by decide)) (fun _ hk => hk.2) (.bool t104)) (fun _ hk => hk.2) (.slice Ao15 t105.length co15)) (fun _ hk => trivial))), fun _ => (rr (Kd.R_mono (Kd.R_far (p := ⟨gb112, 1, none⟩) (Kd.R_far (p := ⟨gb112, 0, none⟩) (Kd.R_types HO111.out BK112.out (by decide)) (fun _ hk => hk.2) (.bool t104)) (fun _ hk => hk.2) (.slice Ao15 t105.length co15)) (fun _ hk => trivial))), fun _ h1_ => absurd ((up_self b 6).symm.trans h1_) (by decide), fun _ => GW112.out, fun _ => GE112.out, fun _ => NB101_112.out, fun _ => NB112_101.out, fun _ => NB102_112.out, fun _ => NB112_102.out, fun _ => NB103_112.out, fun _ => NB112_103.out, fun _ _ => (by (with_reducible repeat (first | refine blk_drewN ?_ _ | refine blk_drew ?_ | refine blk_alloc ?_ _)); refine blk_far ?_ NB113_112.out _; (with_reducible repeat (first | refine blk_drewN ?_ _ | refine blk_drew ?_ | refine blk_alloc ?_ _)); refine blk_far ?_ NB113_112.out _; (with_reducible repeat (first | refine blk_drewN ?_ _ | refine blk_drew ?_ | refine blk_alloc ?_ _)); exact BK113.out), fun _ => GW113.out, fun _ => GE113.out, fun _ => NB101_113.out, fun _ => NB113_101.out, fun _ => NB102_113.out, fun _ => NB113_102.out, fun _ => NB103_113.out, fun _ => NB113_103.out, fun _ => (by (with_reducible repeat (first | refine blk_drewN ?_ _ | refine blk_drew ?_ | refine blk_alloc ?_ _)); refine blk_put (cs := #[.bool t104, .slice none 0 0]) ?_ 1 _ rfl; (with_reducible repeat (first | refine blk_drewN ?_ _ | refine blk_drew ?_ | refine blk_alloc ?_ _)); refine blk_put (cs := #[.bool false, .slice none 0 0]) ?_ 0 _ rfl; (with_reducible repeat (first | refine blk_drewN ?_ _ | refine blk_drew ?_ | refine blk_alloc ?_ _)); exact BK112.out), fun h0_ => absurd ((hoff 7 (by kernel_rfl)).symm.trans h0_) (by decide), Q_X1_, Q_X3_, Q_X4_, Q_X5_⟩
    refine steps_cons ?_ ?_
    · rintro b a w' ⟨v106, v110, gb112, gb113, m1_, m3_, m4_, m5_, ha, Q_BK101, Q_BK102, Q_BK103, Q_HB, Q_NB113_112, Q_NB112_113, Q_HO107, Q_HO111, Q_BK112, Q_GW112, Q_GE112, Q_NB101_112, Q_NB112_101, Q_NB102_112, Q_NB112_102, Q_NB103_112, Q_NB112_103, Q_BK113, Q_GW113, Q_GE113, Q_NB101_113, Q_NB113_101, Q_NB102_113, Q_NB113_102, Q_NB103_113, Q_NB113_103, Q_BK112_e6, Q_BK113_e7, Q_X1_, Q_X3_, Q_X4_, Q_X5_⟩ hb_ hon hoff
      refine ⟨_, rfl, fun K hK => ?_⟩
      have e6 : a.tmps[6]? = some (m5_) := by rw [ha]; exact putSel_on (e := (5, 6, m5_)) 5 rfl rfl (hon 5 (by kernel_rfl)) rfl
      rw [Q_X5_ (hon 5 (by kernel_rfl))] at e6
      have e10 : a.tmps[10]? = some (m3_) := by rw [ha]; exact putSel_on (e := (3, 10, m3_)) 3 rfl rfl (hon 3 (by kernel_rfl)) rfl
      rw [Q_X3_ (hon 3 (by kernel_rfl))] at e10
      replace ha := Aside0.mk ha
      have BK101 := Aside0.mk Q_BK101
      have BK102 := Aside0.mk Q_BK102
      have BK103 := Aside0.mk Q_BK103
      have HB := Aside0.mk Q_HB
      have NB113_112 := Aside0.mk (Q_NB113_112 (hon 4 (by kernel_rfl)) (hon 5 (by kernel_rfl)))
      have NB112_113 := Aside0.mk (Q_NB112_113 (hon 4 (by kernel_rfl)) (hon 5 (by kernel_rfl)))
      have HO107 := Aside0.mk (Q_HO107 (hon 1 (by kernel_rfl)))
      have HO111 := Aside0.mk (Q_HO111 (hon 3 (by kernel_rfl)))
      have GW112 := Aside0.mk (Q_GW112 (hon 4 (by kernel_rfl)))
      have GE112 := Aside0.mk (Q_GE112 (hon 4 (by kernel_rfl)))
      have NB101_112 := Aside0.mk (Q_NB101_112 (hon 4 (by kernel_rfl)))
      have NB112_101 := Aside0.mk (Q_NB112_101 (hon 4 (by kernel_rfl)))
      have NB102_112 := Aside0.mk (Q_NB102_112 (hon 4 (by kernel_rfl)))
      have NB112_102 := Aside0.mk (Q_NB112_102 (hon 4 (by kernel_rfl)))
      have NB103_112 := Aside0.mk (Q_NB103_112 (hon 4 (by kernel_rfl)))
      have NB112_103 := Aside0.mk (Q_NB112_103 (hon 4 (by kernel_rfl)))
      have BK113 := Aside0.mk (Q_BK113 (hon 5 (by kernel_rfl)) hb_)
      have GW113 := Aside0.mk (Q_GW113 (hon 5 (by kernel_rfl)))
      have GE113 := Aside0.mk (Q_GE113 (hon 5 (by kernel_rfl)))
      have NB101_113 := Aside0.mk (Q_NB101_113 (hon 5 (by kernel_rfl)))
      have NB113_101 := Aside0.mk (Q_NB113_101 (hon 5 (by kernel_rfl)))
      have NB102_113 := Aside0.mk (Q_NB102_113 (hon 5 (by kernel_rfl)))
      have NB113_102 := Aside0.mk (Q_NB113_102 (hon 5 (by kernel_rfl)))
      have NB103_113 := Aside0.mk (Q_NB103_113 (hon 5 (by kernel_rfl)))
      have NB113_103 := Aside0.mk (Q_NB113_103 (hon 5 (by kernel_rfl)))
      have BK112 := Aside0.mk (Q_BK112_e6 (hon 6 (by kernel_rfl)))
      obtain ⟨Ao18, co18, eo18⟩ := Kd.R_slice HO111.out
      (first | subst eo18 | (injection eo18 with f1_ f2_ f3_; have f4_ := f1_.symm; have f5_ := f3_.symm; clear f1_ f2_ f3_; subst f4_; subst f5_))
      have hs17 : w'.cell? ⟨gb113, 0, none⟩ = some (.bool false) := (blk_cell BK113.out 0).trans rfl
      have hfs17 := blk_frozen BK113.out 0
      have hns17_0 := NB101_113.out
      have hns17_1 := NB102_113.out
      have hns17_2 := NB103_113.out
      have hns17_3 := NB112_113.out
      have hms17_0 := NB113_101.out
      have hms17_1 := NB113_102.out
      have hms17_2 := NB113_103.out
      have hms17_3 := NB113_112.out
      have hs19 : w'.cell? ⟨gb113, 1, none⟩ = some (.slice none 0 0) := (blk_cell BK113.out 1).trans rfl
      have hfs19 := blk_frozen BK113.out 1
      have hns19_0 := NB101_113.out
      have hns19_1 := NB102_113.out
      have hns19_2 := NB103_113.out
      have hns19_3 := NB112_113.out
      have hms19_0 := NB113_101.out
      have hms19_1 := NB113_102.out
      have hms19_2 := NB113_103.out
      have hms19_3 := NB113_112.out
      refine skip_ (w1 := ?_) (by rfl) rfl ?_ ?_
      rotate_left
      · go_simp
        rfl
      refine hK.out _ _ ⟨v106, .slice Ao18 t109.length co18, gb112, gb113, m1_, m3_, m4_, m5_, (by rw [ha.out]; exact putSel_none (v := undef) rfl), (by (with_reducible repeat (first | refine blk_drewN ?_ _ | refine blk_drew ?_ | refine blk_alloc ?_ _)); refine blk_far ?_ NB101_113.out _; (with_reducible repeat (first | refine blk_drewN ?_ _ | refine blk_drew ?_ | refine blk_alloc ?_ _)); refine blk_far ?_ NB101_113.out _; (with_reducible repeat (first | refine blk_drewN ?_ _ | refine blk_drew ?_ | refine blk_alloc ?_ _)); exact BK101.out), (by (with_reducible repeat (first | refine blk_drewN ?_ _ | refine blk_drew ?_ | refine blk_alloc ?_ _)); refine blk_far ?_ NB102_113.out _; (with_reducible repeat (first | refine blk_drewN ?_ _ | refine blk_drew ?_ | refine blk_alloc ?_ _)); refine blk_far ?_ NB102_113.out _; (with_reducible repeat (first | refine blk_drewN ?_ _ | refine blk_drew ?_ | refine blk_alloc ?_ _)); exact BK102.out), (by (with_reducible repeat (first | refine blk_drewN ?_ _ | refine blk_drew ?_ | refine blk_alloc ?_ _)); refine blk_far ?_ NB103_113.out _; (with_reducible repeat (first | refine blk_drewN ?_ _ | refine blk_drew ?_ | refine blk_alloc ?_ _)); refine blk_far ?_ NB103_113.out _; (with_reducible repeat (first | refine blk_drewN ?_ _ | refine blk_drew ?_ | refine blk_alloc ?_ _)); exact BK103.out), bw, fun _ _ => NB113_112.out, fun _ _ => NB112_113.out, fun _ => (rr (Kd.R_mono (Kd.R_far (p := ⟨gb113, 1, none⟩) (Kd.R_far (p := ⟨gb113, 0, none⟩) (Kd.R_types HO107.out BK113.out (by decide)) (fun _ hk => hk.2) (.bool t108)) (fun _ hk => hk.2) (.slice Ao18 t109.length co18)) (fun _ hk => trivial))), fun _ => (rr (Kd.R_mono (Kd.R_far (p := ⟨gb113, 1, none⟩) (Kd.R_far (p := ⟨gb113, 0, none⟩) (Kd.R_types HO111.out BK113.out (by decide)) (fun _ hk => hk.2) (.bool t108)) (fun _ hk => hk.2) (.slice Ao18 t109.length co18)) (fun _ hk => trivial))), fun _ h1_ => absurd ((hon 6 (by kernel_rfl)).symm.trans h1_) (by decide), fun _ => GW112.out, fun _ => GE112.out, fun _ => NB101_112.out, fun _ => NB112_101.out, fun _ => NB102_112.out, fun _ => NB112_102.out, fun _ => NB103_112.out, fun _ => NB112_103.out, fun _ h1_ => absurd ((up_self b 7).symm.trans h1_) (by decide), fun _ => GW113.out, fun _ => GE113.out, fun _ => NB101_113.out, fun _ => NB113_101.out, fun _ => NB102_113.out, fun _ => NB113_102.out, fun _ => NB103_113.out, fun _ => NB113_103.out, fun _ => (by (with_reducible repeat (first | refine blk_drewN ?_ _ | refine blk_drew ?_ | refine blk_alloc ?_ _)); refine blk_far ?_ NB112_113.out _; (with_reducible repeat (first | refine blk_drewN ?_ _ | refine blk_drew ?_ | refine blk_alloc ?_ _)); refine blk_far ?_ NB112_113.out _; (with_reducible repeat (first | refine blk_drewN ?_ _ | refine blk_drew ?_ | refine blk_alloc ?_ _)); exact BK112.out), fun _ => (by (with_reducible repeat (first | refine blk_drewN ?_ _ | refine blk_drew ?_ | refine blk_alloc ?_ _)); refine blk_put (cs := #[.bool t108, .slice none 0 0]) ?_ 1 _ rfl; (with_reducible repeat (first | refine blk_drewN ?_ _ | refine blk_drew ?_ | refine blk_alloc ?_ _)); refine blk_put (cs := #[.bool false, .slice none 0 0]) ?_ 0 _ rfl; (with_reducible repeat (first | refine blk_drewN ?_ _ | refine blk_drew ?_ | refine blk_alloc ?_ _)); exact BK113.out), Q_X1_, Q_X3_, Q_X4_, Q_X5_⟩
    exact steps_nil
  rintro b a w19 hall ⟨v106, v110, gb112, gb113, m1_, m3_, m4_, m5_, ha, Q_BK101, Q_BK102, Q_BK103, Q_HB, Q_NB113_112, Q_NB112_113, Q_HO107, Q_HO111, Q_BK112, Q_GW112, Q_GE112, Q_NB101_112, Q_NB112_101, Q_NB102_112, Q_NB112_102, Q_NB103_112, Q_NB112_103, Q_BK113, Q_GW113, Q_GE113, Q_NB101_113, Q_NB113_101, Q_NB102_113, Q_NB113_102, Q_NB103_113, Q_NB113_103, Q_BK112_e6, Q_BK113_e7, Q_X1_, Q_X3_, Q_X4_, Q_X5_⟩
  clear BK101 BK102 BK103 HB
  have hb0_ := hall 0 (by kernel_rfl)
  have hb1_ := hall 1 (by kernel_rfl)
  have hb2_ := hall 2 (by kernel_rfl)
  have hb3_ := hall 3 (by kernel_rfl)
  have hb4_ := hall 4 (by kernel_rfl)
  have hb5_ := hall 5 (by kernel_rfl)
  have hb6_ := hall 6 (by kernel_rfl)
  have hb7_ := hall 7 (by kernel_rfl)
  subst ha
  obtain rfl := Q_X1_ hb1_
  obtain rfl := Q_X3_ hb3_
  obtain rfl := Q_X4_ hb4_
  obtain rfl := Q_X5_ hb5_
  simp only [putSel, hb0_, hb1_, hb2_, hb3_, hb4_, hb5_, hb6_, hb7_, if_true, Act.put, List.setIfInBounds_toArray, List.set_cons_zero, List.set_cons_succ]
  have BK101 := Aside0.mk Q_BK101
  clear Q_BK101
  have BK102 := Aside0.mk Q_BK102
  clear Q_BK102
  have BK103 := Aside0.mk Q_BK103
  clear Q_BK103
  have HB := Aside0.mk Q_HB
  clear Q_HB
  have NB113_112 := Aside0.mk (Q_NB113_112 hb4_ hb5_)
  clear Q_NB113_112
  have NB112_113 := Aside0.mk (Q_NB112_113 hb4_ hb5_)
  clear Q_NB112_113
  have HO107 := Aside0.mk (Q_HO107 hb1_)
  clear Q_HO107
  have HO111 := Aside0.mk (Q_HO111 hb3_)
  clear Q_HO111
  clear Q_BK112
  have GW112 := Aside0.mk (Q_GW112 hb4_)
  clear Q_GW112
  have GE112 := Aside0.mk (Q_GE112 hb4_)
  clear Q_GE112
  have NB101_112 := Aside0.mk (Q_NB101_112 hb4_)
  clear Q_NB101_112
  have NB112_101 := Aside0.mk (Q_NB112_101 hb4_)
  clear Q_NB112_101
  have NB102_112 := Aside0.mk (Q_NB102_112 hb4_)
  clear Q_NB102_112
  have NB112_102 := Aside0.mk (Q_NB112_102 hb4_)
  clear Q_NB112_102
  have NB103_112 := Aside0.mk (Q_NB103_112 hb4_)
  clear Q_NB103_112
  have NB112_103 := Aside0.mk (Q_NB112_103 hb4_)
  clear Q_NB112_103
  clear Q_BK113
  have GW113 := Aside0.mk (Q_GW113 hb5_)
  clear Q_GW113
  have GE113 := Aside0.mk (Q_GE113 hb5_)
  clear Q_GE113
  have NB101_113 := Aside0.mk (Q_NB101_113 hb5_)
  clear Q_NB101_113
  have NB113_101 := Aside0.mk (Q_NB113_101 hb5_)
  clear Q_NB113_101
  have NB102_113 := Aside0.mk (Q_NB102_113 hb5_)
  clear Q_NB102_113
  have NB113_102 := Aside0.mk (Q_NB113_102 hb5_)
  clear Q_NB113_102
  have NB103_113 := Aside0.mk (Q_NB103_113 hb5_)
  clear Q_NB103_113
  have NB113_103 := Aside0.mk (Q_NB113_103 hb5_)
  clear Q_NB113_103
  have BK112 := Aside0.mk (Q_BK112_e6 hb6_)
  clear Q_BK112_e6
  have BK113 := Aside0.mk (Q_BK113_e7 hb7_)
  clear Q_BK113_e7
  clear hall hb0_ hb1_ hb2_ hb3_ hb4_ hb5_ hb6_ hb7_
  try go_wp2
  go_loopg [] k (fun kq w' => ∃ (x113000_1 : Bool) (x113001_1 : List Int) (x114000_1 : Bool) (x114001_1 : List Int) (u113001 : Value) (u114001 : Value), Aside0 (quadformref01_Gcd.l0 kq x113000_1 x113001_1 x114000_1 x114001_1 = some (r1, r2)) ∧ Aside0 (kq ≤ k) ∧ Aside0 (Kd.R (Kd.int .u32) 69 w' w.heap.size (fun _ => True) u113001 x113001_1) ∧ Aside0 (Kd.R (Kd.int .u32) 69 w' w.heap.size (fun _ => True) u114001 x114001_1) ∧ Aside0 (w'.heap[gb101]? = some (.cells #[.bool a0_0, (.slice A0_1 l0_1.length c0_1)] 40 (0, 0))) ∧ Aside0 (w'.heap[gb102]? = some (.cells #[.bool a1_0, (.slice A1_1 l1_1.length c1_1)] 40 (0, 0))) ∧ Aside0 (w'.heap[gb103]? = some (.cells #[.bool false, (.slice none 0 0)] 40 (0, 0))) ∧ Aside0 (w'.heap[gb112]? = some (.cells #[.bool x113000_1, u113001] 40 (0, 0))) ∧ Aside0 (w'.heap[gb113]? = some (.cells #[.bool x114000_1, u114001] 40 (0, 0))) ∧ Aside0 (Below w.heap.size w w'))
  case atStart => exact ⟨(t104), (t105), (t108), (t109), (v106), (v110), H', ⟨Nat.le_refl _⟩, ⟨rr HO107.out⟩, ⟨rr HO111.out⟩, ⟨bk BK101.out⟩, ⟨bk BK102.out⟩, ⟨bk BK103.out⟩, ⟨bk BK112.out⟩, ⟨bk BK113.out⟩, ⟨bw⟩⟩
  case round =>
    clear H'
    try clear c1
    try clear c2
    try clear p2
    try clear c4
    obtain ⟨x113000_1, x113001_1, x114000_1, x114001_1, u113001, u114001, HA, HK1, HO_113001, HO_114001, BK101, BK102, BK103, BK112, BK113, HB⟩ := hrel
    cases gk with
    | zero => exact absurd HA.out (by simp [quadformref01_Gcd.l0])
    | succ k1 =>
      have H := HA.out
      clear HA
      simp only [quadformref01_Gcd.l0] at H
      replace H := Option.bind_eq_some_iff.mp H
      obtain ⟨t114, A200, H⟩ := H
      replace H : (if t114 = 0 then (some (x113000_1, x113001_1)) else ((quadformref01_Rem.f k1 x113000_1 x113001_1 x114000_1 x114001_1).bind fun bt115 => (quadformref01_Gcd.l0 k1 x114000_1 x114001_1 bt115.1 bt115.2))) = some (r1, r2) := H
      have A20 := Aside0.mk A200
      clear A200
      by_cases c21 : t114 = 0
      · rw [if_pos c21] at H
        have c21b0 : (t114 == 0) = true := beq_iff_eq.mpr c21
        have c21b1 : (t114 != 0) = false := bne_eq_false_iff_eq.mpr c21
        clear c21
        simp only [Option.some.injEq, Prod.mk.injEq] at H
        obtain ⟨rfl, rfl⟩ := H
        have hnb22 := NB113_101.out
        have hnc22 := NB101_113.out
        have hnb23 := NB113_102.out
        have hnc23 := NB102_113.out
        have hnb24 := NB113_103.out
        have hnc24 := NB103_113.out
        have hnb25 := NB113_112.out
        have hnc25 := NB112_113.out
        have hcz26_0 : wr.cell? ⟨gb113, 0, none⟩ = some (.bool x114000_1) := (blk_cell BK113.out 0).trans rfl
        have hcz26_1 : wr.cell? ⟨gb113, 1, none⟩ = some (u114001) := (blk_cell BK113.out 1).trans rfl
        have hfz26_0 := blk_frozen BK113.out 0
        have hfz26_1 := blk_frozen BK113.out 1
        obtain ⟨Ao27, co27, eo27⟩ := Kd.R_slice HO_114001.out
        subst eo27
        go_wp2_with (first | ((with_reducible refine gate_callee (f := 42) rfl ?_); refine goesL_ (some 12) rfl rfl Try.func42 (by kernel_rfl) rfl #[.agg #[.bool x114000_1, .slice Ao27 x114001_1.length co27]] rfl (by (try simp only [List.map_toArray, List.map_cons, List.map_nil]); first | done | rfl | (simp only [List.length_drop, List.length_take]; rfl)) ?_; (with_reducible refine (quadformref01_Sign.calls k1 x114000_1 _ _ x114001_1 t114 _ ?side1 ?side2 A20.out).mono ?_); (case side1 => repeat (first | exact (Kd.R_reads' HO_114001.out).2.2 | (with_reducible refine Kd.C_alloc ?_ _) | (with_reducible refine Kd.C_drewN ?_ _) | (with_reducible refine Kd.C_drew ?_))); (case side2 => exact (Kd.R_reads' HO_114001.out).2.1); rintro e w28 ⟨rfl, hb⟩; refine ⟨_, rfl, ?_⟩; have n0_ := Aside0.mk (Kd.R_below (rr HO_113001.out) hb); have n1_ := Aside0.mk (Kd.R_below (rr HO_114001.out) hb); have n2_ := Aside0.mk (bb BK101.out hb); have n3_ := Aside0.mk (bb BK102.out hb); have n4_ := Aside0.mk (bb BK103.out hb); have n5_ := Aside0.mk (bb BK112.out hb); have n6_ := Aside0.mk (bb BK113.out hb); have n7_ := Aside0.mk (below_step bw hb); clear HO_113001; clear HO_114001; clear BK101; clear BK102; clear BK103; clear BK112; clear BK113; clear HB; have HO_113001 := n0_; have HO_114001 := n1_; have BK101 := n2_; have BK102 := n3_; have BK103 := n4_; have BK112 := n5_; have BK113 := n6_; have HB := n7_; clear n0_ n1_ n2_ n3_ n4_ n5_ n6_ n7_; (try clear hb); (try clear hb2); (try clear hk); (try clear hi); have hnb29 := NB112_101.out; have hnc29 := NB101_112.out; have hnb30 := NB112_102.out; have hnc30 := NB102_112.out; have hnb31 := NB112_103.out; have hnc31 := NB103_112.out; have hcz32_0 : w28.cell? ⟨gb112, 0, none⟩ = some (.bool x113000_1) := (blk_cell BK112.out 0).trans rfl; have hcz32_1 : w28.cell? ⟨gb112, 1, none⟩ = some (u113001) := (blk_cell BK112.out 1).trans rfl; have hfz32_0 := blk_frozen BK112.out 0; have hfz32_1 := blk_frozen BK112.out 1; have hnb33 := NB103_101.out; have hnc33 := NB101_103.out; have hnb34 := NB103_102.out; have hnc34 := NB102_103.out; have hcz35_0 : w28.cell? ⟨gb103, 0, none⟩ = some (.bool false) := (blk_cell BK103.out 0).trans rfl; have hcz35_1 : w28.cell? ⟨gb103, 1, none⟩ = some (.slice none 0 0) := (blk_cell BK103.out 1).trans rfl; have hfz35_0 := blk_frozen BK103.out 0; have hfz35_1 := blk_frozen BK103.out 1; obtain ⟨Ao36, co36, eo36⟩ := Kd.R_slice HO_113001.out; subst eo36))
        refine bodyPost_ret (results_cell_row rfl _ _ gb103 40 #[.bool x113000_1, .slice Ao36 x113001_1.length co36] (0, 0) _ rfl (by (with_reducible repeat (first | refine blk_drewN ?_ _ | refine blk_drew ?_ | refine blk_alloc ?_ _)); refine blk_put (cs := #[.bool x113000_1, .slice none 0 0]) ?_ 1 _ rfl; (with_reducible repeat (first | refine blk_drewN ?_ _ | refine blk_drew ?_ | refine blk_alloc ?_ _)); refine blk_put (cs := #[.bool false, .slice none 0 0]) ?_ 0 _ rfl; (with_reducible repeat (first | refine blk_drewN ?_ _ | refine blk_drew ?_ | refine blk_alloc ?_ _)); exact BK103.out) Try.underlying40 rfl (by kernel_rfl)) rfl ?_
        exact ⟨_, by first | rfl | (simp [errW_none, errW_some] <;> rfl) | (simp [*, errW_none, errW_some] <;> rfl), rr (Kd.R_mono (Kd.R_far (p := ⟨gb103, 1, none⟩) (Kd.R_far (p := ⟨gb103, 0, none⟩) (Kd.R_types HO_113001.out BK103.out (by decide)) (fun _ hk => hk.2) (.bool x113000_1)) (fun _ hk => hk.2) (.slice Ao36 x113001_1.length co36)) (fun _ hk => trivial)), bw⟩
      · rw [if_neg c21] at H
        have c21b0 : (t114 == 0) = false := beq_eq_false_iff_ne.mpr c21
        have c21b1 : (t114 != 0) = true := bne_iff_ne.mpr c21
        replace H := Option.bind_eq_some_iff.mp H
        obtain ⟨⟨t115, t116⟩, A370, H⟩ := H
        replace H : (quadformref01_Gcd.l0 k1 x114000_1 x114001_1 t115 t116) = some (r1, r2) := H
        have A37 := Aside0.mk A370
        clear A370
        have H' := Aside0.mk H
        clear H
        have hnb38 := NB113_101.out
        have hnc38 := NB101_113.out
        have hnb39 := NB113_102.out
        have hnc39 := NB102_113.out
        have hnb40 := NB113_103.out
        have hnc40 := NB103_113.out
        have hnb41 := NB113_112.out
        have hnc41 := NB112_113.out
        have hcz42_0 : wr.cell? ⟨gb113, 0, none⟩ = some (.bool x114000_1) := (blk_cell BK113.out 0).trans rfl
        have hcz42_1 : wr.cell? ⟨gb113, 1, none⟩ = some (u114001) := (blk_cell BK113.out 1).trans rfl
        have hfz42_0 := blk_frozen BK113.out 0
        have hfz42_1 := blk_frozen BK113.out 1
        obtain ⟨Ao43, co43, eo43⟩ := Kd.R_slice HO_114001.out
        subst eo43
        try go_wp2_with (first | ((with_reducible refine gate_callee (f := 42) rfl ?_); refine goesL_ (some 12) rfl rfl Try.func42 (by kernel_rfl) rfl #[.agg #[.bool x114000_1, .slice Ao43 x114001_1.length co43]] rfl (by (try simp only [List.map_toArray, List.map_cons, List.map_nil]); first | done | rfl | (simp only [List.length_drop, List.length_take]; rfl)) ?_; (with_reducible refine (quadformref01_Sign.calls k1 x114000_1 _ _ x114001_1 t114 _ ?side1 ?side2 A20.out).mono ?_); (case side1 => repeat (first | exact (Kd.R_reads' HO_114001.out).2.2 | (with_reducible refine Kd.C_alloc ?_ _) | (with_reducible refine Kd.C_drewN ?_ _) | (with_reducible refine Kd.C_drew ?_))); (case side2 => exact (Kd.R_reads' HO_114001.out).2.1); rintro e w44 ⟨rfl, hb⟩; refine ⟨_, rfl, ?_⟩; have n0_ := Aside0.mk (Kd.R_below (rr HO_113001.out) hb); have n1_ := Aside0.mk (Kd.R_below (rr HO_114001.out) hb); have n2_ := Aside0.mk (bb BK101.out hb); have n3_ := Aside0.mk (bb BK102.out hb); have n4_ := Aside0.mk (bb BK103.out hb); have n5_ := Aside0.mk (bb BK112.out hb); have n6_ := Aside0.mk (bb BK113.out hb); have n7_ := Aside0.mk (below_step bw hb); clear HO_113001; clear HO_114001; clear BK101; clear BK102; clear BK103; clear BK112; clear BK113; clear HB; have HO_113001 := n0_; have HO_114001 := n1_; have BK101 := n2_; have BK102 := n3_; have BK103 := n4_; have BK112 := n5_; have BK113 := n6_; have HB := n7_; clear n0_ n1_ n2_ n3_ n4_ n5_ n6_ n7_; (try clear hb); (try clear hb2); (try clear hk); (try clear hi)))
        replace HO_113001 := Aside0.mk (Kd.R_drew HO_113001.out)
        replace HO_114001 := Aside0.mk (Kd.R_drew HO_114001.out)
        replace BK101 := Aside0.mk (blk_drew BK101.out)
        replace BK102 := Aside0.mk (blk_drew BK102.out)
        replace BK103 := Aside0.mk (blk_drew BK103.out)
        replace BK112 := Aside0.mk (blk_drew BK112.out)
        replace BK113 := Aside0.mk (blk_drew BK113.out)
        replace HB := Aside0.mk (below_drew1 HB.out)
        obtain ⟨Ao46, co46, eo46⟩ := Kd.R_slice HO_113001.out
        (first | subst eo46 | (injection eo46 with f1_ f2_ f3_; have f4_ := f1_.symm; have f5_ := f3_.symm; clear f1_ f2_ f3_; subst f4_; subst f5_))
        refine start_ (n := 6) (S := fun w' => w'.cell? ⟨gb113, 0, none⟩ = some (.bool x114000_1) ∧ w'.cell? ⟨gb113, 1, none⟩ = some (.slice Ao43 x114001_1.length co43) ∧ w'.cell? ⟨gb112, 0, none⟩ = some (.bool x113000_1) ∧ w'.cell? ⟨gb112, 1, none⟩ = some (.slice Ao46 x113001_1.length co46)) (ds := [4, 5]) #[false, false, false, false, false, false] (by kernel_rfl) rfl rfl ⟨(blk_cell BK113.out 0).trans rfl, (blk_cell BK113.out 1).trans rfl, (blk_cell BK112.out 0).trans rfl, (blk_cell BK112.out 1).trans rfl⟩ (fun hHeld => ?_)
        generalize w44.drew = w45 at HO_113001 HO_114001 BK101 BK102 BK103 BK112 BK113 HB hHeld ⊢
        refine take_ (i := 0) (N := some 14) (v := ?_) (a' := ?_) #[true, false, false, false, false, false] rfl rfl (by kernel_rfl) (fun _ _ _ h => h) (Or.inl ⟨by rfl, ?_⟩) hHeld ?_ ?_
        rotate_left
        · rintro w' ⟨s0, s1, s2, s3⟩
          go_simp
          with_reducible rfl
        rotate_left
        · simp only [Act.put, List.setIfInBounds_toArray, List.set_cons_zero, List.set_cons_succ, i64_w, i32_w]
          rfl
        refine take_ (i := 1) (N := some 15) (v := ?_) (a' := ?_) #[true, true, false, false, false, false] rfl rfl (by kernel_rfl) (fun _ _ _ h => h) (Or.inl ⟨by rfl, ?_⟩) hHeld ?_ ?_
        rotate_left
        · rintro w' ⟨s0, s1, s2, s3⟩
          go_simp
          with_reducible rfl
        rotate_left
        · simp only [Act.put, List.setIfInBounds_toArray, List.set_cons_zero, List.set_cons_succ, i64_w, i32_w]
          rfl
        refine take_ (i := 2) (N := some 16) (v := ?_) (a' := ?_) #[true, true, true, false, false, false] rfl rfl (by kernel_rfl) (fun _ _ _ h => h) (Or.inl ⟨by rfl, ?_⟩) hHeld ?_ ?_
        rotate_left
        · rintro w' ⟨s0, s1, s2, s3⟩
          go_simp
          with_reducible rfl
        rotate_left
        · simp only [Act.put, List.setIfInBounds_toArray, List.set_cons_zero, List.set_cons_succ, i64_w, i32_w]
          rfl
        refine one_ (i := 3) (N := some 17) #[true, true, true, true, false, false] rfl rfl (by kernel_rfl) (by decide) (fun K hK => ?_)
        refine goes_ Try.func43 (by kernel_rfl) rfl #[.agg #[.bool x113000_1, .slice Ao46 x113001_1.length co46], .agg #[.bool x114000_1, .slice Ao43 x114001_1.length co43]] (by rfl) rfl rfl (by (try simp only [List.map_toArray, List.map_cons, List.map_nil]); first | done | rfl | (simp only [List.length_drop, List.length_take]; rfl)) ?_
        with_reducible refine (quadformref01_Rem.calls k1 x113000_1 _ _ x113001_1 x114000_1 _ _ x114001_1 t115 t116 _ ?side1 ?side2 ?side3 ?side4 A37.out).mono ?_
        (case side1 => repeat (first | exact (Kd.R_reads' HO_113001.out).2.2 | (with_reducible refine Kd.C_alloc ?_ _) | (with_reducible refine Kd.C_drewN ?_ _) | (with_reducible refine Kd.C_drew ?_)))
        (case side2 => exact (Kd.R_reads' HO_113001.out).2.1)
        (case side3 => repeat (first | exact (Kd.R_reads' HO_114001.out).2.2 | (with_reducible refine Kd.C_alloc ?_ _) | (with_reducible refine Kd.C_drewN ?_ _) | (with_reducible refine Kd.C_drew ?_)))
        (case side4 => exact (Kd.R_reads' HO_114001.out).2.1)
        rintro e w47 ⟨v117, rfl, ho0, hb⟩
        refine ⟨_, rfl, ?_⟩
        replace HO_113001 := Aside0.mk (Kd.R_below (rr HO_113001.out) hb)
        replace HO_114001 := Aside0.mk (Kd.R_below (rr HO_114001.out) hb)
        have HO118 := Aside0.mk (Kd.R_lower ho0 (below_size bw))
        replace BK101 := Aside0.mk (bb BK101.out hb)
        replace BK102 := Aside0.mk (bb BK102.out hb)
        replace BK103 := Aside0.mk (bb BK103.out hb)
        replace BK112 := Aside0.mk (bb BK112.out hb)
        replace BK113 := Aside0.mk (bb BK113.out hb)
        replace HB := Aside0.mk (below_step bw hb)
        (try clear hb)
        (try clear hb2)
        (try clear hk)
        (try clear hi)
        (try clear ho0)
        obtain ⟨Ao51, co51, eo51⟩ := Kd.R_slice HO118.out
        (first | subst eo51 | (injection eo51 with f1_ f2_ f3_; have f4_ := f1_.symm; have f5_ := f3_.symm; clear f1_ f2_ f3_; subst f4_; subst f5_))
        refine hK.out _ _ ⟨(blk_cell BK113.out 0).trans rfl, (blk_cell BK113.out 1).trans rfl, (blk_cell BK112.out 0).trans rfl, (blk_cell BK112.out 1).trans rfl⟩ (fun hHeld => ?_)
        clear hK K
        refine norm_ (a' := ?_) ?_ ?_
        rotate_left
        · show Act.put _ (some 17) _ = _
          simp only [Act.put, List.setIfInBounds_toArray, List.set_cons_zero, List.set_cons_succ, i64_w, i32_w]
          rfl
        refine last_ (i := 4) (N := none) #[true, true, true, true, true, false] rfl rfl (by kernel_rfl) (by decide) (fun K hK => ?_)
        have hs48 : w47.cell? ⟨gb112, 0, none⟩ = some (.bool x113000_1) := (blk_cell BK112.out 0).trans rfl
        have hfs48 := blk_frozen BK112.out 0
        have hns48_0 := NB101_112.out
        have hns48_1 := NB102_112.out
        have hns48_2 := NB103_112.out
        have hns48_4 := NB113_112.out
        have hms48_0 := NB112_101.out
        have hms48_1 := NB112_102.out
        have hms48_2 := NB112_103.out
        have hms48_4 := NB112_113.out
        have hs49 : w47.cell? ⟨gb112, 1, none⟩ = some (.slice Ao46 x113001_1.length co46) := (blk_cell BK112.out 1).trans rfl
        have hfs49 := blk_frozen BK112.out 1
        have hns49_0 := NB101_112.out
        have hns49_1 := NB102_112.out
        have hns49_2 := NB103_112.out
        have hns49_4 := NB113_112.out
        have hms49_0 := NB112_101.out
        have hms49_1 := NB112_102.out
        have hms49_2 := NB112_103.out
        have hms49_4 := NB112_113.out
        refine skip_ (w1 := ?_) (by rfl) rfl ?_ ?_
        rotate_left
        · go_simp
          rfl
        refine hK.out _ _ ?_
        clear hK K
        refine last_ (i := 5) (N := none) #[true, true, true, true, true, true] rfl rfl (by kernel_rfl) (by decide) (fun K hK => ?_)
        have hs50 : w47.cell? ⟨gb113, 0, none⟩ = some (.bool x114000_1) := (blk_cell BK113.out 0).trans rfl
        have hfs50 := blk_frozen BK113.out 0
        have hns50_0 := NB101_113.out
        have hns50_1 := NB102_113.out
        have hns50_2 := NB103_113.out
        have hns50_3 := NB112_113.out
        have hms50_0 := NB113_101.out
        have hms50_1 := NB113_102.out
        have hms50_2 := NB113_103.out
        have hms50_3 := NB113_112.out
        have hs52 : w47.cell? ⟨gb113, 1, none⟩ = some (.slice Ao43 x114001_1.length co43) := (blk_cell BK113.out 1).trans rfl
        have hfs52 := blk_frozen BK113.out 1
        have hns52_0 := NB101_113.out
        have hns52_1 := NB102_113.out
        have hns52_2 := NB103_113.out
        have hns52_3 := NB112_113.out
        have hms52_0 := NB113_101.out
        have hms52_1 := NB113_102.out
        have hms52_2 := NB113_103.out
        have hms52_3 := NB113_112.out
        refine skip_ (w1 := ?_) (by rfl) rfl ?_ ?_
        rotate_left
        · go_simp
          rfl
        refine hK.out _ _ ?_
        clear hK K
        refine done_ (by kernel_rfl) ?_
        try go_wp2
        go_roundg k1
        case measure => have := HK1.out; omega
        case rel => exact ⟨(x114000_1), (x114001_1), (t115), (t116), (.slice Ao43 x114001_1.length co43), (.slice Ao51 t116.length co51), H', ⟨by have := HK1.out; omega⟩, ⟨rr (Kd.R_mono (Kd.R_far (p := ⟨gb113, 1, none⟩) (Kd.R_far (p := ⟨gb113, 0, none⟩) (Kd.R_far (p := ⟨gb112, 1, none⟩) (Kd.R_far (p := ⟨gb112, 0, none⟩) (Kd.R_types (Kd.R_types HO_114001.out BK112.out (by decide)) BK113.out (by decide)) (fun _ hk => hk.1.2) (.bool x114000_1)) (fun _ hk => hk.1.2) (.slice Ao43 x114001_1.length co43)) (fun _ hk => hk.2) (.bool t115)) (fun _ hk => hk.2) (.slice Ao51 t116.length co51)) (fun _ hk => trivial))⟩, ⟨rr (Kd.R_mono (Kd.R_far (p := ⟨gb113, 1, none⟩) (Kd.R_far (p := ⟨gb113, 0, none⟩) (Kd.R_far (p := ⟨gb112, 1, none⟩) (Kd.R_far (p := ⟨gb112, 0, none⟩) (Kd.R_types (Kd.R_types HO118.out BK112.out (by decide)) BK113.out (by decide)) (fun _ hk => hk.1.2) (.bool x114000_1)) (fun _ hk => hk.1.2) (.slice Ao43 x114001_1.length co43)) (fun _ hk => hk.2) (.bool t115)) (fun _ hk => hk.2) (.slice Ao51 t116.length co51)) (fun _ hk => trivial))⟩, ⟨by (with_reducible repeat (first | refine blk_drewN ?_ _ | refine blk_drew ?_ | refine blk_alloc ?_ _)); refine blk_far ?_ NB101_113.out _; (with_reducible repeat (first | refine blk_drewN ?_ _ | refine blk_drew ?_ | refine blk_alloc ?_ _)); refine blk_far ?_ NB101_113.out _; (with_reducible repeat (first | refine blk_drewN ?_ _ | refine blk_drew ?_ | refine blk_alloc ?_ _)); refine blk_far ?_ NB101_112.out _; (with_reducible repeat (first | refine blk_drewN ?_ _ | refine blk_drew ?_ | refine blk_alloc ?_ _)); refine blk_far ?_ NB101_112.out _; (with_reducible repeat (first | refine blk_drewN ?_ _ | refine blk_drew ?_ | refine blk_alloc ?_ _)); exact BK101.out⟩, ⟨by (with_reducible repeat (first | refine blk_drewN ?_ _ | refine blk_drew ?_ | refine blk_alloc ?_ _)); refine blk_far ?_ NB102_113.out _; (with_reducible repeat (first | refine blk_drewN ?_ _ | refine blk_drew ?_ | refine blk_alloc ?_ _)); refine blk_far ?_ NB102_113.out _; (with_reducible repeat (first | refine blk_drewN ?_ _ | refine blk_drew ?_ | refine blk_alloc ?_ _)); refine blk_far ?_ NB102_112.out _; (with_reducible repeat (first | refine blk_drewN ?_ _ | refine blk_drew ?_ | refine blk_alloc ?_ _)); refine blk_far ?_ NB102_112.out _; (with_reducible repeat (first | refine blk_drewN ?_ _ | refine blk_drew ?_ | refine blk_alloc ?_ _)); exact BK102.out⟩, ⟨by (with_reducible repeat (first | refine blk_drewN ?_ _ | refine blk_drew ?_ | refine blk_alloc ?_ _)); refine blk_far ?_ NB103_113.out _; (with_reducible repeat (first | refine blk_drewN ?_ _ | refine blk_drew ?_ | refine blk_alloc ?_ _)); refine blk_far ?_ NB103_113.out _; (with_reducible repeat (first | refine blk_drewN ?_ _ | refine blk_drew ?_ | refine blk_alloc ?_ _)); refine blk_far ?_ NB103_112.out _; (with_reducible repeat (first | refine blk_drewN ?_ _ | refine blk_drew ?_ | refine blk_alloc ?_ _)); refine blk_far ?_ NB103_112.out _; (with_reducible repeat (first | refine blk_drewN ?_ _ | refine blk_drew ?_ | refine blk_alloc ?_ _)); exact BK103.out⟩, ⟨by (with_reducible repeat (first | refine blk_drewN ?_ _ | refine blk_drew ?_ | refine blk_alloc ?_ _)); refine blk_far ?_ NB112_113.out _; (with_reducible repeat (first | refine blk_drewN ?_ _ | refine blk_drew ?_ | refine blk_alloc ?_ _)); refine blk_far ?_ NB112_113.out _; (with_reducible repeat (first | refine blk_drewN ?_ _ | refine blk_drew ?_ | refine blk_alloc ?_ _)); refine blk_put (cs := #[.bool x114000_1, .slice Ao46 x113001_1.length co46]) ?_ 1 _ rfl; (with_reducible repeat (first | refine blk_drewN ?_ _ | refine blk_drew ?_ | refine blk_alloc ?_ _)); refine blk_put (cs := #[.bool x113000_1, .slice Ao46 x113001_1.length co46]) ?_ 0 _ rfl; (with_reducible repeat (first | refine blk_drewN ?_ _ | refine blk_drew ?_ | refine blk_alloc ?_ _)); exact BK112.out⟩, ⟨by (with_reducible repeat (first | refine blk_drewN ?_ _ | refine blk_drew ?_ | refine blk_alloc ?_ _)); refine blk_put (cs := #[.bool t115, .slice Ao43 x114001_1.length co43]) ?_ 1 _ rfl; (with_reducible repeat (first | refine blk_drewN ?_ _ | refine blk_drew ?_ | refine blk_alloc ?_ _)); refine blk_put (cs := #[.bool x114000_1, .slice Ao43 x114001_1.length co43]) ?_ 0 _ rfl; (with_reducible repeat (first | refine blk_drewN ?_ _ | refine blk_drew ?_ | refine blk_alloc ?_ _)); refine blk_far ?_ NB113_112.out _; (with_reducible repeat (first | refine blk_drewN ?_ _ | refine blk_drew ?_ | refine blk_alloc ?_ _)); refine blk_far ?_ NB113_112.out _; (with_reducible repeat (first | refine blk_drewN ?_ _ | refine blk_drew ?_ | refine blk_alloc ?_ _)); exact BK113.out⟩, ⟨bw⟩⟩
end Go.Proofs.Ytcjhbjfkcmncpaa.Q
namespace Go.Proofs.Ytcjhbjfkcmncpaa.Q
open Go.RowKit Go.Proofs.YtcjhbjfkcmncpaaW.PrintWords Go.Proofs.YtcjhbjfkcmncpaaW.PrintLast Go.Proofs.YtcjhbjfkcmncpaaW.PrintMore
attribute [local go_sem] max2_int min2_int max_two min_two max_three min_three max_four min_four   -- for this text's walks alone
set_option linter.unusedVariables false
set_option linter.unusedSimpArgs false
def quadformlaw22_PrimeReciprocity.f (k : Nat) (a0 : Int) (a1 : Int) : Option (Bool) := (quadformref01_Small.f k (wrap64 ((wrap64 (2 * (wrap64 (a0)))) + 1))).bind fun bt101 => ((quadformref01_Small.f k (wrap64 ((wrap64 (2 * (wrap64 (a1)))) + 1))).bind fun bt105 => ((quadformref01_Gcd.f k bt101.1 bt101.2 bt105.1 bt105.2).bind fun bt109 => ((quadformref01_Small.f k 1).bind fun bt113 => ((quadformref01_Same.f k bt109.1 bt109.2 bt113.1 bt113.2).bind fun t117 => (if t117 = true then ((prime_Kronecker.f k (wrap64 ((wrap64 (2 * (wrap64 (a0)))) + 1)) (wrap64 ((wrap64 (2 * (wrap64 (a1)))) + 1))).bind fun bt119 => ((prime_Kronecker.f k (wrap64 ((wrap64 (2 * (wrap64 (a1)))) + 1)) (wrap64 ((wrap64 (2 * (wrap64 (a0)))) + 1))).bind fun bt121 => (if (Int.tmod (wrap64 ((wrap64 (2 * (wrap64 (a0)))) + 1)) 4) = 3 then (if (Int.tmod (wrap64 ((wrap64 (2 * (wrap64 (a1)))) + 1)) 4) = 3 then (if bt119.2 = 0 then (if bt121.2 = 0 then (if (wrap64 (bt119.1 * bt121.1)) = (-1) then ((quadformlaw22_awake.f k).bind fun t123 => (some t123)) else (some false)) else (some false)) else (some false)) else (if bt119.2 = 0 then (if bt121.2 = 0 then (if (wrap64 (bt119.1 * bt121.1)) = 1 then ((quadformlaw22_awake.f k).bind fun t124 => (some t124)) else (some false)) else (some false)) else (some false))) else (if bt119.2 = 0 then (if bt121.2 = 0 then (if (wrap64 (bt119.1 * bt121.1)) = 1 then ((quadformlaw22_awake.f k).bind fun t125 => (some t125)) else (some false)) else (some false)) else (some false))))) else ((quadformlaw22_awake.f k).bind fun t118 => (some t118)))))))
theorem quadformlaw22_PrimeReciprocity.mono : ∀ a0 a1 k, LeO (quadformlaw22_PrimeReciprocity.f k a0 a1) (quadformlaw22_PrimeReciprocity.f (k + 1) a0 a1) := by
  intro a0 a1 k
  unfold quadformlaw22_PrimeReciprocity.f
  repeat' first
      | (with_reducible exact prime_Kronecker.mono _ _ _)
      | (with_reducible exact quadformlaw22_awake.mono _)
      | (with_reducible exact quadformref01_Gcd.mono _ _ _ _ _)
      | (with_reducible exact quadformref01_Same.mono _ _ _ _ _)
      | (with_reducible exact quadformref01_Small.mono _ _)
      | (with_reducible exact LeO.refl _)
      | (with_reducible exact LeO.none _)
      | (with_reducible refine LeO.ite ?_ ?_)
      | (with_reducible refine LeO.bind ?_ (fun _ => ?_))
      | exact prime_Kronecker.mono _ _ _
      | exact quadformlaw22_awake.mono _
      | exact quadformref01_Gcd.mono _ _ _ _ _
      | exact quadformref01_Same.mono _ _ _ _ _
      | exact quadformref01_Small.mono _ _
      | exact LeO.none _
      | refine LeO.ite ?_ ?_
      | refine LeO.bind ?_ (fun _ => ?_)
set_option maxHeartbeats 8000000 in
set_option maxRecDepth 100000 in
theorem quadformlaw22_PrimeReciprocity.calls (k : Nat) (a0 : Int) (a1 : Int) (r : Bool) (w : World) (h : quadformlaw22_PrimeReciprocity.f k a0 a1 = some r) :
    Calls Try.prog 8 #[.int .u16 a0, .int .u16 a1] w fun e w' => e = .returned (.bool r) ∧ Below w.heap.size w w' := by
  have HB := Aside0.mk (Below.refl w.heap.size w)
  have H : ((quadformref01_Small.f k (wrap64 ((wrap64 (2 * (wrap64 (a0)))) + 1))).bind fun bt101 => ((quadformref01_Small.f k (wrap64 ((wrap64 (2 * (wrap64 (a1)))) + 1))).bind fun bt105 => ((quadformref01_Gcd.f k bt101.1 bt101.2 bt105.1 bt105.2).bind fun bt109 => ((quadformref01_Small.f k 1).bind fun bt113 => ((quadformref01_Same.f k bt109.1 bt109.2 bt113.1 bt113.2).bind fun t117 => (if t117 = true then ((prime_Kronecker.f k (wrap64 ((wrap64 (2 * (wrap64 (a0)))) + 1)) (wrap64 ((wrap64 (2 * (wrap64 (a1)))) + 1))).bind fun bt119 => ((prime_Kronecker.f k (wrap64 ((wrap64 (2 * (wrap64 (a1)))) + 1)) (wrap64 ((wrap64 (2 * (wrap64 (a0)))) + 1))).bind fun bt121 => (if (Int.tmod (wrap64 ((wrap64 (2 * (wrap64 (a0)))) + 1)) 4) = 3 then (if (Int.tmod (wrap64 ((wrap64 (2 * (wrap64 (a1)))) + 1)) 4) = 3 then (if bt119.2 = 0 then (if bt121.2 = 0 then (if (wrap64 (bt119.1 * bt121.1)) = (-1) then ((quadformlaw22_awake.f k).bind fun t123 => (some t123)) else (some false)) else (some false)) else (some false)) else (if bt119.2 = 0 then (if bt121.2 = 0 then (if (wrap64 (bt119.1 * bt121.1)) = 1 then ((quadformlaw22_awake.f k).bind fun t124 => (some t124)) else (some false)) else (some false)) else (some false))) else (if bt119.2 = 0 then (if bt121.2 = 0 then (if (wrap64 (bt119.1 * bt121.1)) = 1 then ((quadformlaw22_awake.f k).bind fun t125 => (some t125)) else (some false)) else (some false)) else (some false))))) else ((quadformlaw22_awake.f k).bind fun t118 => (some t118)))))))) = some r := h
  clear h
  replace H := Option.bind_eq_some_iff.mp H
  obtain ⟨⟨t101, t102⟩, A30, H⟩ := H
  replace H : ((quadformref01_Small.f k (wrap64 ((wrap64 (2 * (wrap64 (a1)))) + 1))).bind fun bt105 => ((quadformref01_Gcd.f k t101 t102 bt105.1 bt105.2).bind fun bt109 => ((quadformref01_Small.f k 1).bind fun bt113 => ((quadformref01_Same.f k bt109.1 bt109.2 bt113.1 bt113.2).bind fun t117 => (if t117 = true then ((prime_Kronecker.f k (wrap64 ((wrap64 (2 * (wrap64 (a0)))) + 1)) (wrap64 ((wrap64 (2 * (wrap64 (a1)))) + 1))).bind fun bt119 => ((prime_Kronecker.f k (wrap64 ((wrap64 (2 * (wrap64 (a1)))) + 1)) (wrap64 ((wrap64 (2 * (wrap64 (a0)))) + 1))).bind fun bt121 => (if (Int.tmod (wrap64 ((wrap64 (2 * (wrap64 (a0)))) + 1)) 4) = 3 then (if (Int.tmod (wrap64 ((wrap64 (2 * (wrap64 (a1)))) + 1)) 4) = 3 then (if bt119.2 = 0 then (if bt121.2 = 0 then (if (wrap64 (bt119.1 * bt121.1)) = (-1) then ((quadformlaw22_awake.f k).bind fun t123 => (some t123)) else (some false)) else (some false)) else (some false)) else (if bt119.2 = 0 then (if bt121.2 = 0 then (if (wrap64 (bt119.1 * bt121.1)) = 1 then ((quadformlaw22_awake.f k).bind fun t124 => (some t124)) else (some false)) else (some false)) else (some false))) else (if bt119.2 = 0 then (if bt121.2 = 0 then (if (wrap64 (bt119.1 * bt121.1)) = 1 then ((quadformlaw22_awake.f k).bind fun t125 => (some t125)) else (some false)) else (some false)) else (some false))))) else ((quadformlaw22_awake.f k).bind fun t118 => (some t118))))))) = some r := H
  have A3 := Aside0.mk A30
  clear A30
  replace H := Option.bind_eq_some_iff.mp H
  obtain ⟨⟨t105, t106⟩, A40, H⟩ := H
  replace H : ((quadformref01_Gcd.f k t101 t102 t105 t106).bind fun bt109 => ((quadformref01_Small.f k 1).bind fun bt113 => ((quadformref01_Same.f k bt109.1 bt109.2 bt113.1 bt113.2).bind fun t117 => (if t117 = true then ((prime_Kronecker.f k (wrap64 ((wrap64 (2 * (wrap64 (a0)))) + 1)) (wrap64 ((wrap64 (2 * (wrap64 (a1)))) + 1))).bind fun bt119 => ((prime_Kronecker.f k (wrap64 ((wrap64 (2 * (wrap64 (a1)))) + 1)) (wrap64 ((wrap64 (2 * (wrap64 (a0)))) + 1))).bind fun bt121 => (if (Int.tmod (wrap64 ((wrap64 (2 * (wrap64 (a0)))) + 1)) 4) = 3 then (if (Int.tmod (wrap64 ((wrap64 (2 * (wrap64 (a1)))) + 1)) 4) = 3 then (if bt119.2 = 0 then (if bt121.2 = 0 then (if (wrap64 (bt119.1 * bt121.1)) = (-1) then ((quadformlaw22_awake.f k).bind fun t123 => (some t123)) else (some false)) else (some false)) else (some false)) else (if bt119.2 = 0 then (if bt121.2 = 0 then (if (wrap64 (bt119.1 * bt121.1)) = 1 then ((quadformlaw22_awake.f k).bind fun t124 => (some t124)) else (some false)) else (some false)) else (some false))) else (if bt119.2 = 0 then (if bt121.2 = 0 then (if (wrap64 (bt119.1 * bt121.1)) = 1 then ((quadformlaw22_awake.f k).bind fun t125 => (some t125)) else (some false)) else (some false)) else (some false))))) else ((quadformlaw22_awake.f k).bind fun t118 => (some t118)))))) = some r := H
  have A4 := Aside0.mk A40
  clear A40
  replace H := Option.bind_eq_some_iff.mp H
  obtain ⟨⟨t109, t110⟩, A50, H⟩ := H
  replace H : ((quadformref01_Small.f k 1).bind fun bt113 => ((quadformref01_Same.f k t109 t110 bt113.1 bt113.2).bind fun t117 => (if t117 = true then ((prime_Kronecker.f k (wrap64 ((wrap64 (2 * (wrap64 (a0)))) + 1)) (wrap64 ((wrap64 (2 * (wrap64 (a1)))) + 1))).bind fun bt119 => ((prime_Kronecker.f k (wrap64 ((wrap64 (2 * (wrap64 (a1)))) + 1)) (wrap64 ((wrap64 (2 * (wrap64 (a0)))) + 1))).bind fun bt121 => (if (Int.tmod (wrap64 ((wrap64 (2 * (wrap64 (a0)))) + 1)) 4) = 3 then (if (Int.tmod (wrap64 ((wrap64 (2 * (wrap64 (a1)))) + 1)) 4) = 3 then (if bt119.2 = 0 then (if bt121.2 = 0 then (if (wrap64 (bt119.1 * bt121.1)) = (-1) then ((quadformlaw22_awake.f k).bind fun t123 => (some t123)) else (some false)) else (some false)) else (some false)) else (if bt119.2 = 0 then (if bt121.2 = 0 then (if (wrap64 (bt119.1 * bt121.1)) = 1 then ((quadformlaw22_awake.f k).bind fun t124 => (some t124)) else (some false)) else (some false)) else (some false))) else (if bt119.2 = 0 then (if bt121.2 = 0 then (if (wrap64 (bt119.1 * bt121.1)) = 1 then ((quadformlaw22_awake.f k).bind fun t125 => (some t125)) else (some false)) else (some false)) else (some false))))) else ((quadformlaw22_awake.f k).bind fun t118 => (some t118))))) = some r := H
  have A5 := Aside0.mk A50
  clear A50
  replace H := Option.bind_eq_some_iff.mp H
  obtain ⟨⟨t113, t114⟩, A60, H⟩ := H
  replace H : ((quadformref01_Same.f k t109 t110 t113 t114).bind fun t117 => (if t117 = true then ((prime_Kronecker.f k (wrap64 ((wrap64 (2 * (wrap64 (a0)))) + 1)) (wrap64 ((wrap64 (2 * (wrap64 (a1)))) + 1))).bind fun bt119 => ((prime_Kronecker.f k (wrap64 ((wrap64 (2 * (wrap64 (a1)))) + 1)) (wrap64 ((wrap64 (2 * (wrap64 (a0)))) + 1))).bind fun bt121 => (if (Int.tmod (wrap64 ((wrap64 (2 * (wrap64 (a0)))) + 1)) 4) = 3 then (if (Int.tmod (wrap64 ((wrap64 (2 * (wrap64 (a1)))) + 1)) 4) = 3 then (if bt119.2 = 0 then (if bt121.2 = 0 then (if (wrap64 (bt119.1 * bt121.1)) = (-1) then ((quadformlaw22_awake.f k).bind fun t123 => (some t123)) else (some false)) else (some false)) else (some false)) else (if bt119.2 = 0 then (if bt121.2 = 0 then (if (wrap64 (bt119.1 * bt121.1)) = 1 then ((quadformlaw22_awake.f k).bind fun t124 => (some t124)) else (some false)) else (some false)) else (some false))) else (if bt119.2 = 0 then (if bt121.2 = 0 then (if (wrap64 (bt119.1 * bt121.1)) = 1 then ((quadformlaw22_awake.f k).bind fun t125 => (some t125)) else (some false)) else (some false)) else (some false))))) else ((quadformlaw22_awake.f k).bind fun t118 => (some t118)))) = some r := H
  have A6 := Aside0.mk A60
  clear A60
  replace H := Option.bind_eq_some_iff.mp H
  obtain ⟨t117, A70, H⟩ := H
  replace H : (if t117 = true then ((prime_Kronecker.f k (wrap64 ((wrap64 (2 * (wrap64 (a0)))) + 1)) (wrap64 ((wrap64 (2 * (wrap64 (a1)))) + 1))).bind fun bt119 => ((prime_Kronecker.f k (wrap64 ((wrap64 (2 * (wrap64 (a1)))) + 1)) (wrap64 ((wrap64 (2 * (wrap64 (a0)))) + 1))).bind fun bt121 => (if (Int.tmod (wrap64 ((wrap64 (2 * (wrap64 (a0)))) + 1)) 4) = 3 then (if (Int.tmod (wrap64 ((wrap64 (2 * (wrap64 (a1)))) + 1)) 4) = 3 then (if bt119.2 = 0 then (if bt121.2 = 0 then (if (wrap64 (bt119.1 * bt121.1)) = (-1) then ((quadformlaw22_awake.f k).bind fun t123 => (some t123)) else (some false)) else (some false)) else (some false)) else (if bt119.2 = 0 then (if bt121.2 = 0 then (if (wrap64 (bt119.1 * bt121.1)) = 1 then ((quadformlaw22_awake.f k).bind fun t124 => (some t124)) else (some false)) else (some false)) else (some false))) else (if bt119.2 = 0 then (if bt121.2 = 0 then (if (wrap64 (bt119.1 * bt121.1)) = 1 then ((quadformlaw22_awake.f k).bind fun t125 => (some t125)) else (some false)) else (some false)) else (some false))))) else ((quadformlaw22_awake.f k).bind fun t118 => (some t118))) = some r := H
  have A7 := Aside0.mk A70
  clear A70
  by_cases c8 : t117 = true
  · subst c8
    have H1 : ((prime_Kronecker.f k (wrap64 ((wrap64 (2 * (wrap64 (a0)))) + 1)) (wrap64 ((wrap64 (2 * (wrap64 (a1)))) + 1))).bind fun bt119 => ((prime_Kronecker.f k (wrap64 ((wrap64 (2 * (wrap64 (a1)))) + 1)) (wrap64 ((wrap64 (2 * (wrap64 (a0)))) + 1))).bind fun bt121 => (if (Int.tmod (wrap64 ((wrap64 (2 * (wrap64 (a0)))) + 1)) 4) = 3 then (if (Int.tmod (wrap64 ((wrap64 (2 * (wrap64 (a1)))) + 1)) 4) = 3 then (if bt119.2 = 0 then (if bt121.2 = 0 then (if (wrap64 (bt119.1 * bt121.1)) = (-1) then ((quadformlaw22_awake.f k).bind fun t123 => (some t123)) else (some false)) else (some false)) else (some false)) else (if bt119.2 = 0 then (if bt121.2 = 0 then (if (wrap64 (bt119.1 * bt121.1)) = 1 then ((quadformlaw22_awake.f k).bind fun t124 => (some t124)) else (some false)) else (some false)) else (some false))) else (if bt119.2 = 0 then (if bt121.2 = 0 then (if (wrap64 (bt119.1 * bt121.1)) = 1 then ((quadformlaw22_awake.f k).bind fun t125 => (some t125)) else (some false)) else (some false)) else (some false))))) = some r := by rw [if_pos rfl] at H; exact H
    clear H
    have H := H1
    clear H1
    replace H := Option.bind_eq_some_iff.mp H
    obtain ⟨⟨t119, t120⟩, A90, H⟩ := H
    replace H : ((prime_Kronecker.f k (wrap64 ((wrap64 (2 * (wrap64 (a1)))) + 1)) (wrap64 ((wrap64 (2 * (wrap64 (a0)))) + 1))).bind fun bt121 => (if (Int.tmod (wrap64 ((wrap64 (2 * (wrap64 (a0)))) + 1)) 4) = 3 then (if (Int.tmod (wrap64 ((wrap64 (2 * (wrap64 (a1)))) + 1)) 4) = 3 then (if t120 = 0 then (if bt121.2 = 0 then (if (wrap64 (t119 * bt121.1)) = (-1) then ((quadformlaw22_awake.f k).bind fun t123 => (some t123)) else (some false)) else (some false)) else (some false)) else (if t120 = 0 then (if bt121.2 = 0 then (if (wrap64 (t119 * bt121.1)) = 1 then ((quadformlaw22_awake.f k).bind fun t124 => (some t124)) else (some false)) else (some false)) else (some false))) else (if t120 = 0 then (if bt121.2 = 0 then (if (wrap64 (t119 * bt121.1)) = 1 then ((quadformlaw22_awake.f k).bind fun t125 => (some t125)) else (some false)) else (some false)) else (some false)))) = some r := H
    have A9 := Aside0.mk A90
    clear A90
    replace H := Option.bind_eq_some_iff.mp H
    obtain ⟨⟨t121, t122⟩, A100, H⟩ := H
    replace H : (if (Int.tmod (wrap64 ((wrap64 (2 * (wrap64 (a0)))) + 1)) 4) = 3 then (if (Int.tmod (wrap64 ((wrap64 (2 * (wrap64 (a1)))) + 1)) 4) = 3 then (if t120 = 0 then (if t122 = 0 then (if (wrap64 (t119 * t121)) = (-1) then ((quadformlaw22_awake.f k).bind fun t123 => (some t123)) else (some false)) else (some false)) else (some false)) else (if t120 = 0 then (if t122 = 0 then (if (wrap64 (t119 * t121)) = 1 then ((quadformlaw22_awake.f k).bind fun t124 => (some t124)) else (some false)) else (some false)) else (some false))) else (if t120 = 0 then (if t122 = 0 then (if (wrap64 (t119 * t121)) = 1 then ((quadformlaw22_awake.f k).bind fun t125 => (some t125)) else (some false)) else (some false)) else (some false))) = some r := H
    have A10 := Aside0.mk A100
    clear A100
    by_cases c11 : (Int.tmod (wrap64 ((wrap64 (2 * (wrap64 (a0)))) + 1)) 4) = 3
    · rw [if_pos c11] at H
      have c11b0 : ((Int.tmod (wrap64 ((wrap64 (2 * (wrap64 (a0)))) + 1)) 4) == 3) = true := beq_iff_eq.mpr c11
      have c11b1 : ((Int.tmod (wrap64 ((wrap64 (2 * (wrap64 (a0)))) + 1)) 4) != 3) = false := bne_eq_false_iff_eq.mpr c11
      clear c11
      by_cases c12 : (Int.tmod (wrap64 ((wrap64 (2 * (wrap64 (a1)))) + 1)) 4) = 3
      · rw [if_pos c12] at H
        have c12b0 : ((Int.tmod (wrap64 ((wrap64 (2 * (wrap64 (a1)))) + 1)) 4) == 3) = true := beq_iff_eq.mpr c12
        have c12b1 : ((Int.tmod (wrap64 ((wrap64 (2 * (wrap64 (a1)))) + 1)) 4) != 3) = false := bne_eq_false_iff_eq.mpr c12
        clear c12
        by_cases c13 : t120 = 0
        · rw [if_pos c13] at H
          have c13b0 : (t120 == 0) = true := beq_iff_eq.mpr c13
          have c13b1 : (t120 != 0) = false := bne_eq_false_iff_eq.mpr c13
          clear c13
          by_cases c14 : t122 = 0
          · rw [if_pos c14] at H
            have c14b0 : (t122 == 0) = true := beq_iff_eq.mpr c14
            have c14b1 : (t122 != 0) = false := bne_eq_false_iff_eq.mpr c14
            clear c14
            by_cases c15 : (wrap64 (t119 * t121)) = (-1)
            · rw [if_pos c15] at H
              have c15b0 : ((wrap64 (t119 * t121)) == (-1)) = true := beq_iff_eq.mpr c15
              have c15b1 : ((wrap64 (t119 * t121)) != (-1)) = false := bne_eq_false_iff_eq.mpr c15
              clear c15
              replace H := Option.bind_eq_some_iff.mp H
              obtain ⟨t123, A160, H⟩ := H
              replace H : (some t123) = some r := H
              have A16 := Aside0.mk A160
              clear A160
              obtain rfl := Option.some.inj H
              go_enter Try.func8, Try.ntmps8
              go_wp2_with (first | ((with_reducible refine gate_callee (f := 25) rfl ?_); refine goesL_ (some 21) rfl rfl Try.func25 (by kernel_rfl) rfl #[.int .i64 (wrap64 ((wrap64 (2 * (wrap64 (a0)))) + 1))] rfl (by (try simp only [List.map_toArray, List.map_cons, List.map_nil]); first | done | rfl | (simp only [List.length_drop, List.length_take]; rfl)) ?_; (with_reducible refine (quadformref01_Small.calls k (wrap64 ((wrap64 (2 * (wrap64 (a0)))) + 1)) t101 t102 _ A3.out).mono ?_); rintro e w17 ⟨v103, rfl, ho0, hb⟩; refine ⟨_, rfl, ?_⟩; have n0_ := Aside0.mk (Kd.R_lower ho0 (below_size bw)); have n1_ := Aside0.mk (below_step bw hb); clear HB; have HO104 := n0_; have HB := n1_; clear n0_ n1_; (try clear hb); (try clear hb2); (try clear hk); (try clear hi); (try clear ho0)) | ((with_reducible refine gate_callee (f := 25) rfl ?_); refine goesL_ (some 23) rfl rfl Try.func25 (by kernel_rfl) rfl #[.int .i64 (wrap64 ((wrap64 (2 * (wrap64 (a1)))) + 1))] rfl (by (try simp only [List.map_toArray, List.map_cons, List.map_nil]); first | done | rfl | (simp only [List.length_drop, List.length_take]; rfl)) ?_; (with_reducible refine (quadformref01_Small.calls k (wrap64 ((wrap64 (2 * (wrap64 (a1)))) + 1)) t105 t106 _ A4.out).mono ?_); rintro e w18 ⟨v107, rfl, ho0, hb⟩; refine ⟨_, rfl, ?_⟩; have n0_ := Aside0.mk (Kd.R_below (rr HO104.out) hb); have n1_ := Aside0.mk (Kd.R_lower ho0 (below_size bw)); have n2_ := Aside0.mk (below_step bw hb); clear HO104; clear HB; have HO104 := n0_; have HO108 := n1_; have HB := n2_; clear n0_ n1_ n2_; (try clear hb); (try clear hb2); (try clear hk); (try clear hi); (try clear ho0); obtain ⟨Ao19, co19, eo19⟩ := Kd.R_slice HO104.out; subst eo19; obtain ⟨Ao20, co20, eo20⟩ := Kd.R_slice HO108.out; subst eo20) | ((with_reducible refine gate_callee (f := 24) rfl ?_); refine goesL_ (some 24) rfl rfl Try.func24 (by kernel_rfl) rfl #[.agg #[.bool t101, .slice Ao19 t102.length co19], .agg #[.bool t105, .slice Ao20 t106.length co20]] rfl (by (try simp only [List.map_toArray, List.map_cons, List.map_nil]); first | done | rfl | (simp only [List.length_drop, List.length_take]; rfl)) ?_; (with_reducible refine (quadformref01_Gcd.calls k t101 _ _ t102 t105 _ _ t106 t109 t110 _ ?side1 ?side2 ?side3 ?side4 A5.out).mono ?_); (case side1 => repeat (first | exact (Kd.R_reads' HO104.out).2.2 | (with_reducible refine Kd.C_alloc ?_ _) | (with_reducible refine Kd.C_drewN ?_ _) | (with_reducible refine Kd.C_drew ?_))); (case side2 => exact (Kd.R_reads' HO104.out).2.1); (case side3 => repeat (first | exact (Kd.R_reads' HO108.out).2.2 | (with_reducible refine Kd.C_alloc ?_ _) | (with_reducible refine Kd.C_drewN ?_ _) | (with_reducible refine Kd.C_drew ?_))); (case side4 => exact (Kd.R_reads' HO108.out).2.1); rintro e w21 ⟨v111, rfl, ho0, hb⟩; refine ⟨_, rfl, ?_⟩; have n0_ := Aside0.mk (Kd.R_below (rr HO104.out) hb); have n1_ := Aside0.mk (Kd.R_below (rr HO108.out) hb); have n2_ := Aside0.mk (Kd.R_lower ho0 (below_size bw)); have n3_ := Aside0.mk (below_step bw hb); clear HO104; clear HO108; clear HB; have HO104 := n0_; have HO108 := n1_; have HO112 := n2_; have HB := n3_; clear n0_ n1_ n2_ n3_; (try clear hb); (try clear hb2); (try clear hk); (try clear hi); (try clear ho0)) | ((with_reducible refine gate_callee (f := 25) rfl ?_); refine goesL_ (some 25) rfl rfl Try.func25 (by kernel_rfl) rfl #[.int .i64 1] rfl (by (try simp only [List.map_toArray, List.map_cons, List.map_nil]); first | done | rfl | (simp only [List.length_drop, List.length_take]; rfl)) ?_; (with_reducible refine (quadformref01_Small.calls k 1 t113 t114 _ A6.out).mono ?_); rintro e w22 ⟨v115, rfl, ho0, hb⟩; refine ⟨_, rfl, ?_⟩; have n0_ := Aside0.mk (Kd.R_below (rr HO104.out) hb); have n1_ := Aside0.mk (Kd.R_below (rr HO108.out) hb); have n2_ := Aside0.mk (Kd.R_below (rr HO112.out) hb); have n3_ := Aside0.mk (Kd.R_lower ho0 (below_size bw)); have n4_ := Aside0.mk (below_step bw hb); clear HO104; clear HO108; clear HO112; clear HB; have HO104 := n0_; have HO108 := n1_; have HO112 := n2_; have HO116 := n3_; have HB := n4_; clear n0_ n1_ n2_ n3_ n4_; (try clear hb); (try clear hb2); (try clear hk); (try clear hi); (try clear ho0); obtain ⟨Ao23, co23, eo23⟩ := Kd.R_slice HO112.out; subst eo23; obtain ⟨Ao24, co24, eo24⟩ := Kd.R_slice HO116.out; subst eo24) | ((with_reducible refine gate_callee (f := 23) rfl ?_); refine goesL_ (some 26) rfl rfl Try.func23 (by kernel_rfl) rfl #[.agg #[.bool t109, .slice Ao23 t110.length co23], .agg #[.bool t113, .slice Ao24 t114.length co24]] rfl (by (try simp only [List.map_toArray, List.map_cons, List.map_nil]); first | done | rfl | (simp only [List.length_drop, List.length_take]; rfl)) ?_; (with_reducible refine (quadformref01_Same.calls k t109 _ _ t110 t113 _ _ t114 true _ ?side1 ?side2 ?side3 ?side4 A7.out).mono ?_); (case side1 => repeat (first | exact (Kd.R_reads' HO112.out).2.2 | (with_reducible refine Kd.C_alloc ?_ _) | (with_reducible refine Kd.C_drewN ?_ _) | (with_reducible refine Kd.C_drew ?_))); (case side2 => exact (Kd.R_reads' HO112.out).2.1); (case side3 => repeat (first | exact (Kd.R_reads' HO116.out).2.2 | (with_reducible refine Kd.C_alloc ?_ _) | (with_reducible refine Kd.C_drewN ?_ _) | (with_reducible refine Kd.C_drew ?_))); (case side4 => exact (Kd.R_reads' HO116.out).2.1); rintro e w25 ⟨rfl, hb⟩; refine ⟨_, rfl, ?_⟩; have n0_ := Aside0.mk (Kd.R_below (rr HO104.out) hb); have n1_ := Aside0.mk (Kd.R_below (rr HO108.out) hb); have n2_ := Aside0.mk (Kd.R_below (rr HO112.out) hb); have n3_ := Aside0.mk (Kd.R_below (rr HO116.out) hb); have n4_ := Aside0.mk (below_step bw hb); clear HO104; clear HO108; clear HO112; clear HO116; clear HB; have HO104 := n0_; have HO108 := n1_; have HO112 := n2_; have HO116 := n3_; have HB := n4_; clear n0_ n1_ n2_ n3_ n4_; (try clear hb); (try clear hb2); (try clear hk); (try clear hi)) | ((with_reducible refine gate_callee (f := 21) rfl ?_); refine goesL_ (some 32) rfl rfl Try.func21 (by kernel_rfl) rfl #[.int .i64 (wrap64 ((wrap64 (2 * (wrap64 (a0)))) + 1)), .int .i64 (wrap64 ((wrap64 (2 * (wrap64 (a1)))) + 1))] rfl (by (try simp only [List.map_toArray, List.map_cons, List.map_nil]); first | done | rfl | (simp only [List.length_drop, List.length_take]; rfl)) ?_; (with_reducible refine (prime_Kronecker.calls k (wrap64 ((wrap64 (2 * (wrap64 (a0)))) + 1)) (wrap64 ((wrap64 (2 * (wrap64 (a1)))) + 1)) t119 t120 _ A9.out).mono ?_); rintro e w26 ⟨rfl, hb⟩; refine ⟨_, rfl, ?_⟩; have n0_ := Aside0.mk (Kd.R_below (rr HO104.out) hb); have n1_ := Aside0.mk (Kd.R_below (rr HO108.out) hb); have n2_ := Aside0.mk (Kd.R_below (rr HO112.out) hb); have n3_ := Aside0.mk (Kd.R_below (rr HO116.out) hb); have n4_ := Aside0.mk (below_step bw hb); clear HO104; clear HO108; clear HO112; clear HO116; clear HB; have HO104 := n0_; have HO108 := n1_; have HO112 := n2_; have HO116 := n3_; have HB := n4_; clear n0_ n1_ n2_ n3_ n4_; (try clear hb); (try clear hb2); (try clear hk); (try clear hi)) | ((with_reducible refine gate_callee (f := 21) rfl ?_); refine goesL_ (some 38) rfl rfl Try.func21 (by kernel_rfl) rfl #[.int .i64 (wrap64 ((wrap64 (2 * (wrap64 (a1)))) + 1)), .int .i64 (wrap64 ((wrap64 (2 * (wrap64 (a0)))) + 1))] rfl (by (try simp only [List.map_toArray, List.map_cons, List.map_nil]); first | done | rfl | (simp only [List.length_drop, List.length_take]; rfl)) ?_; (with_reducible refine (prime_Kronecker.calls k (wrap64 ((wrap64 (2 * (wrap64 (a1)))) + 1)) (wrap64 ((wrap64 (2 * (wrap64 (a0)))) + 1)) t121 t122 _ A10.out).mono ?_); rintro e w27 ⟨rfl, hb⟩; refine ⟨_, rfl, ?_⟩; have n0_ := Aside0.mk (Kd.R_below (rr HO104.out) hb); have n1_ := Aside0.mk (Kd.R_below (rr HO108.out) hb); have n2_ := Aside0.mk (Kd.R_below (rr HO112.out) hb); have n3_ := Aside0.mk (Kd.R_below (rr HO116.out) hb); have n4_ := Aside0.mk (below_step bw hb); clear HO104; clear HO108; clear HO112; clear HO116; clear HB; have HO104 := n0_; have HO108 := n1_; have HO112 := n2_; have HO116 := n3_; have HB := n4_; clear n0_ n1_ n2_ n3_ n4_; (try clear hb); (try clear hb2); (try clear hk); (try clear hi)) | (go_at_call 17; (with_reducible refine (quadformlaw22_awake.calls k  t123 _ A16.out).mono ?_); rintro e w28 ⟨rfl, hb⟩; have n0_ := Aside0.mk (Kd.R_below (rr HO104.out) hb); have n1_ := Aside0.mk (Kd.R_below (rr HO108.out) hb); have n2_ := Aside0.mk (Kd.R_below (rr HO112.out) hb); have n3_ := Aside0.mk (Kd.R_below (rr HO116.out) hb); have n4_ := Aside0.mk (below_step bw hb); clear HO104; clear HO108; clear HO112; clear HO116; clear HB; have HO104 := n0_; have HO108 := n1_; have HO112 := n2_; have HO116 := n3_; have HB := n4_; clear n0_ n1_ n2_ n3_ n4_; (try clear hb); (try clear hb2); (try clear hk); (try clear hi)))
              go_ret
              exact ⟨by first | rfl | (simp [errW_none, errW_some] <;> rfl) | (simp [*, errW_none, errW_some] <;> rfl), bw⟩
            · rw [if_neg c15] at H
              have c15b0 : ((wrap64 (t119 * t121)) == (-1)) = false := beq_eq_false_iff_ne.mpr c15
              have c15b1 : ((wrap64 (t119 * t121)) != (-1)) = true := bne_iff_ne.mpr c15
              obtain rfl := Option.some.inj H
              go_enter Try.func8, Try.ntmps8
              go_wp2_with (first | ((with_reducible refine gate_callee (f := 25) rfl ?_); refine goesL_ (some 21) rfl rfl Try.func25 (by kernel_rfl) rfl #[.int .i64 (wrap64 ((wrap64 (2 * (wrap64 (a0)))) + 1))] rfl (by (try simp only [List.map_toArray, List.map_cons, List.map_nil]); first | done | rfl | (simp only [List.length_drop, List.length_take]; rfl)) ?_; (with_reducible refine (quadformref01_Small.calls k (wrap64 ((wrap64 (2 * (wrap64 (a0)))) + 1)) t101 t102 _ A3.out).mono ?_); rintro e w29 ⟨v103, rfl, ho0, hb⟩; refine ⟨_, rfl, ?_⟩; have n0_ := Aside0.mk (Kd.R_lower ho0 (below_size bw)); have n1_ := Aside0.mk (below_step bw hb); clear HB; have HO104 := n0_; have HB := n1_; clear n0_ n1_; (try clear hb); (try clear hb2); (try clear hk); (try clear hi); (try clear ho0)) | ((with_reducible refine gate_callee (f := 25) rfl ?_); refine goesL_ (some 23) rfl rfl Try.func25 (by kernel_rfl) rfl #[.int .i64 (wrap64 ((wrap64 (2 * (wrap64 (a1)))) + 1))] rfl (by (try simp only [List.map_toArray, List.map_cons, List.map_nil]); first | done | rfl | (simp only [List.length_drop, List.length_take]; rfl)) ?_; (with_reducible refine (quadformref01_Small.calls k (wrap64 ((wrap64 (2 * (wrap64 (a1)))) + 1)) t105 t106 _ A4.out).mono ?_); rintro e w30 ⟨v107, rfl, ho0, hb⟩; refine ⟨_, rfl, ?_⟩; have n0_ := Aside0.mk (Kd.R_below (rr HO104.out) hb); have n1_ := Aside0.mk (Kd.R_lower ho0 (below_size bw)); have n2_ := Aside0.mk (below_step bw hb); clear HO104; clear HB; have HO104 := n0_; have HO108 := n1_; have HB := n2_; clear n0_ n1_ n2_; (try clear hb); (try clear hb2); (try clear hk); (try clear hi); (try clear ho0); obtain ⟨Ao31, co31, eo31⟩ := Kd.R_slice HO104.out; subst eo31; obtain ⟨Ao32, co32, eo32⟩ := Kd.R_slice HO108.out; subst eo32) | ((with_reducible refine gate_callee (f := 24) rfl ?_); refine goesL_ (some 24) rfl rfl Try.func24 (by kernel_rfl) rfl #[.agg #[.bool t101, .slice Ao31 t102.length co31], .agg #[.bool t105, .slice Ao32 t106.length co32]] rfl (by (try simp only [List.map_toArray, List.map_cons, List.map_nil]); first | done | rfl | (simp only [List.length_drop, List.length_take]; rfl)) ?_; (with_reducible refine (quadformref01_Gcd.calls k t101 _ _ t102 t105 _ _ t106 t109 t110 _ ?side1 ?side2 ?side3 ?side4 A5.out).mono ?_); (case side1 => repeat (first | exact (Kd.R_reads' HO104.out).2.2 | (with_reducible refine Kd.C_alloc ?_ _) | (with_reducible refine Kd.C_drewN ?_ _) | (with_reducible refine Kd.C_drew ?_))); (case side2 => exact (Kd.R_reads' HO104.out).2.1); (case side3 => repeat (first | exact (Kd.R_reads' HO108.out).2.2 | (with_reducible refine Kd.C_alloc ?_ _) | (with_reducible refine Kd.C_drewN ?_ _) | (with_reducible refine Kd.C_drew ?_))); (case side4 => exact (Kd.R_reads' HO108.out).2.1); rintro e w33 ⟨v111, rfl, ho0, hb⟩; refine ⟨_, rfl, ?_⟩; have n0_ := Aside0.mk (Kd.R_below (rr HO104.out) hb); have n1_ := Aside0.mk (Kd.R_below (rr HO108.out) hb); have n2_ := Aside0.mk (Kd.R_lower ho0 (below_size bw)); have n3_ := Aside0.mk (below_step bw hb); clear HO104; clear HO108; clear HB; have HO104 := n0_; have HO108 := n1_; have HO112 := n2_; have HB := n3_; clear n0_ n1_ n2_ n3_; (try clear hb); (try clear hb2); (try clear hk); (try clear hi); (try clear ho0)) | ((with_reducible refine gate_callee (f := 25) rfl ?_); refine goesL_ (some 25) rfl rfl Try.func25 (by kernel_rfl) rfl #[.int .i64 1] rfl (by (try simp only [List.map_toArray, List.map_cons, List.map_nil]); first | done | rfl | (simp only [List.length_drop, List.length_take]; rfl)) ?_; (with_reducible refine (quadformref01_Small.calls k 1 t113 t114 _ A6.out).mono ?_); rintro e w34 ⟨v115, rfl, ho0, hb⟩; refine ⟨_, rfl, ?_⟩; have n0_ := Aside0.mk (Kd.R_below (rr HO104.out) hb); have n1_ := Aside0.mk (Kd.R_below (rr HO108.out) hb); have n2_ := Aside0.mk (Kd.R_below (rr HO112.out) hb); have n3_ := Aside0.mk (Kd.R_lower ho0 (below_size bw)); have n4_ := Aside0.mk (below_step bw hb); clear HO104; clear HO108; clear HO112; clear HB; have HO104 := n0_; have HO108 := n1_; have HO112 := n2_; have HO116 := n3_; have HB := n4_; clear n0_ n1_ n2_ n3_ n4_; (try clear hb); (try clear hb2); (try clear hk); (try clear hi); (try clear ho0); obtain ⟨Ao35, co35, eo35⟩ := Kd.R_slice HO112.out; subst eo35; obtain ⟨Ao36, co36, eo36⟩ := Kd.R_slice HO116.out; subst eo36) | ((with_reducible refine gate_callee (f := 23) rfl ?_); refine goesL_ (some 26) rfl rfl Try.func23 (by kernel_rfl) rfl #[.agg #[.bool t109, .slice Ao35 t110.length co35], .agg #[.bool t113, .slice Ao36 t114.length co36]] rfl (by (try simp only [List.map_toArray, List.map_cons, List.map_nil]); first | done | rfl | (simp only [List.length_drop, List.length_take]; rfl)) ?_; (with_reducible refine (quadformref01_Same.calls k t109 _ _ t110 t113 _ _ t114 true _ ?side1 ?side2 ?side3 ?side4 A7.out).mono ?_); (case side1 => repeat (first | exact (Kd.R_reads' HO112.out).2.2 | (with_reducible refine Kd.C_alloc ?_ _) | (with_reducible refine Kd.C_drewN ?_ _) | (with_reducible refine Kd.C_drew ?_))); (case side2 => exact (Kd.R_reads' HO112.out).2.1); (case side3 => repeat (first | exact (Kd.R_reads' HO116.out).2.2 | (with_reducible refine Kd.C_alloc ?_ _) | (with_reducible refine Kd.C_drewN ?_ _) | (with_reducible refine Kd.C_drew ?_))); (case side4 => exact (Kd.R_reads' HO116.out).2.1); rintro e w37 ⟨rfl, hb⟩; refine ⟨_, rfl, ?_⟩; have n0_ := Aside0.mk (Kd.R_below (rr HO104.out) hb); have n1_ := Aside0.mk (Kd.R_below (rr HO108.out) hb); have n2_ := Aside0.mk (Kd.R_below (rr HO112.out) hb); have n3_ := Aside0.mk (Kd.R_below (rr HO116.out) hb); have n4_ := Aside0.mk (below_step bw hb); clear HO104; clear HO108; clear HO112; clear HO116; clear HB; have HO104 := n0_; have HO108 := n1_; have HO112 := n2_; have HO116 := n3_; have HB := n4_; clear n0_ n1_ n2_ n3_ n4_; (try clear hb); (try clear hb2); (try clear hk); (try clear hi)) | ((with_reducible refine gate_callee (f := 21) rfl ?_); refine goesL_ (some 32) rfl rfl Try.func21 (by kernel_rfl) rfl #[.int .i64 (wrap64 ((wrap64 (2 * (wrap64 (a0)))) + 1)), .int .i64 (wrap64 ((wrap64 (2 * (wrap64 (a1)))) + 1))] rfl (by (try simp only [List.map_toArray, List.map_cons, List.map_nil]); first | done | rfl | (simp only [List.length_drop, List.length_take]; rfl)) ?_; (with_reducible refine (prime_Kronecker.calls k (wrap64 ((wrap64 (2 * (wrap64 (a0)))) + 1)) (wrap64 ((wrap64 (2 * (wrap64 (a1)))) + 1)) t119 t120 _ A9.out).mono ?_); rintro e w38 ⟨rfl, hb⟩; refine ⟨_, rfl, ?_⟩; have n0_ := Aside0.mk (Kd.R_below (rr HO104.out) hb); have n1_ := Aside0.mk (Kd.R_below (rr HO108.out) hb); have n2_ := Aside0.mk (Kd.R_below (rr HO112.out) hb); have n3_ := Aside0.mk (Kd.R_below (rr HO116.out) hb); have n4_ := Aside0.mk (below_step bw hb); clear HO104; clear HO108; clear HO112; clear HO116; clear HB; have HO104 := n0_; have HO108 := n1_; have HO112 := n2_; have HO116 := n3_; have HB := n4_; clear n0_ n1_ n2_ n3_ n4_; (try clear hb); (try clear hb2); (try clear hk); (try clear hi)) | ((with_reducible refine gate_callee (f := 21) rfl ?_); refine goesL_ (some 38) rfl rfl Try.func21 (by kernel_rfl) rfl #[.int .i64 (wrap64 ((wrap64 (2 * (wrap64 (a1)))) + 1)), .int .i64 (wrap64 ((wrap64 (2 * (wrap64 (a0)))) + 1))] rfl (by (try simp only [List.map_toArray, List.map_cons, List.map_nil]); first | done | rfl | (simp only [List.length_drop, List.length_take]; rfl)) ?_; (with_reducible refine (prime_Kronecker.calls k (wrap64 ((wrap64 (2 * (wrap64 (a1)))) + 1)) (wrap64 ((wrap64 (2 * (wrap64 (a0)))) + 1)) t121 t122 _ A10.out).mono ?_); rintro e w39 ⟨rfl, hb⟩; refine ⟨_, rfl, ?_⟩; have n0_ := Aside0.mk (Kd.R_below (rr HO104.out) hb); have n1_ := Aside0.mk (Kd.R_below (rr HO108.out) hb); have n2_ := Aside0.mk (Kd.R_below (rr HO112.out) hb); have n3_ := Aside0.mk (Kd.R_below (rr HO116.out) hb); have n4_ := Aside0.mk (below_step bw hb); clear HO104; clear HO108; clear HO112; clear HO116; clear HB; have HO104 := n0_; have HO108 := n1_; have HO112 := n2_; have HO116 := n3_; have HB := n4_; clear n0_ n1_ n2_ n3_ n4_; (try clear hb); (try clear hb2); (try clear hk); (try clear hi)))
              go_ret
              exact ⟨by first | rfl | (simp [errW_none, errW_some] <;> rfl) | (simp [*, errW_none, errW_some] <;> rfl), bw⟩
          · rw [if_neg c14] at H
            have c14b0 : (t122 == 0) = false := beq_eq_false_iff_ne.mpr c14
            have c14b1 : (t122 != 0) = true := bne_iff_ne.mpr c14
            obtain rfl := Option.some.inj H
            go_enter Try.func8, Try.ntmps8
            go_wp2_with (first | ((with_reducible refine gate_callee (f := 25) rfl ?_); refine goesL_ (some 21) rfl rfl Try.func25 (by kernel_rfl) rfl #[.int .i64 (wrap64 ((wrap64 (2 * (wrap64 (a0)))) + 1))] rfl (by (try simp only [List.map_toArray, List.map_cons, List.map_nil]); first | done | rfl | (simp only [List.length_drop, List.length_take]; rfl)) ?_; (with_reducible refine (quadformref01_Small.calls k (wrap64 ((wrap64 (2 * (wrap64 (a0)))) + 1)) t101 t102 _ A3.out).mono ?_); rintro e w40 ⟨v103, rfl, ho0, hb⟩; refine ⟨_, rfl, ?_⟩; have n0_ := Aside0.mk (Kd.R_lower ho0 (below_size bw)); have n1_ := Aside0.mk (below_step bw hb); clear HB; have HO104 := n0_; have HB := n1_; clear n0_ n1_; (try clear hb); (try clear hb2); (try clear hk); (try clear hi); (try clear ho0)) | ((with_reducible refine gate_callee (f := 25) rfl ?_); refine goesL_ (some 23) rfl rfl Try.func25 (by kernel_rfl) rfl #[.int .i64 (wrap64 ((wrap64 (2 * (wrap64 (a1)))) + 1))] rfl (by (try simp only [List.map_toArray, List.map_cons, List.map_nil]); first | done | rfl | (simp only [List.length_drop, List.length_take]; rfl)) ?_; (with_reducible refine (quadformref01_Small.calls k (wrap64 ((wrap64 (2 * (wrap64 (a1)))) + 1)) t105 t106 _ A4.out).mono ?_); rintro e w41 ⟨v107, rfl, ho0, hb⟩; refine ⟨_, rfl, ?_⟩; have n0_ := Aside0.mk (Kd.R_below (rr HO104.out) hb); have n1_ := Aside0.mk (Kd.R_lower ho0 (below_size bw)); have n2_ := Aside0.mk (below_step bw hb); clear HO104; clear HB; have HO104 := n0_; have HO108 := n1_; have HB := n2_; clear n0_ n1_ n2_; (try clear hb); (try clear hb2); (try clear hk); (try clear hi); (try clear ho0); obtain ⟨Ao42, co42, eo42⟩ := Kd.R_slice HO104.out; subst eo42; obtain ⟨Ao43, co43, eo43⟩ := Kd.R_slice HO108.out; subst eo43) | ((with_reducible refine gate_callee (f := 24) rfl ?_); refine goesL_ (some 24) rfl rfl Try.func24 (by kernel_rfl) rfl #[.agg #[.bool t101, .slice Ao42 t102.length co42], .agg #[.bool t105, .slice Ao43 t106.length co43]] rfl (by (try simp only [List.map_toArray, List.map_cons, List.map_nil]); first | done | rfl | (simp only [List.length_drop, List.length_take]; rfl)) ?_; (with_reducible refine (quadformref01_Gcd.calls k t101 _ _ t102 t105 _ _ t106 t109 t110 _ ?side1 ?side2 ?side3 ?side4 A5.out).mono ?_); (case side1 => repeat (first | exact (Kd.R_reads' HO104.out).2.2 | (with_reducible refine Kd.C_alloc ?_ _) | (with_reducible refine Kd.C_drewN ?_ _) | (with_reducible refine Kd.C_drew ?_))); (case side2 => exact (Kd.R_reads' HO104.out).2.1); (case side3 => repeat (first | exact (Kd.R_reads' HO108.out).2.2 | (with_reducible refine Kd.C_alloc ?_ _) | (with_reducible refine Kd.C_drewN ?_ _) | (with_reducible refine Kd.C_drew ?_))); (case side4 => exact (Kd.R_reads' HO108.out).2.1); rintro e w44 ⟨v111, rfl, ho0, hb⟩; refine ⟨_, rfl, ?_⟩; have n0_ := Aside0.mk (Kd.R_below (rr HO104.out) hb); have n1_ := Aside0.mk (Kd.R_below (rr HO108.out) hb); have n2_ := Aside0.mk (Kd.R_lower ho0 (below_size bw)); have n3_ := Aside0.mk (below_step bw hb); clear HO104; clear HO108; clear HB; have HO104 := n0_; have HO108 := n1_; have HO112 := n2_; have HB := n3_; clear n0_ n1_ n2_ n3_; (try clear hb); (try clear hb2); (try clear hk); (try clear hi); (try clear ho0)) | ((with_reducible refine gate_callee (f := 25) rfl ?_); refine goesL_ (some 25) rfl rfl Try.func25 (by kernel_rfl) rfl #[.int .i64 1] rfl (by (try simp only [List.map_toArray, List.map_cons, List.map_nil]); first | done | rfl | (simp only [List.length_drop, List.length_take]; rfl)) ?_; (with_reducible refine (quadformref01_Small.calls k 1 t113 t114 _ A6.out).mono ?_); rintro e w45 ⟨v115, rfl, ho0, hb⟩; refine ⟨_, rfl, ?_⟩; have n0_ := Aside0.mk (Kd.R_below (rr HO104.out) hb); have n1_ := Aside0.mk (Kd.R_below (rr HO108.out) hb); have n2_ := Aside0.mk (Kd.R_below (rr HO112.out) hb); have n3_ := Aside0.mk (Kd.R_lower ho0 (below_size bw)); have n4_ := Aside0.mk (below_step bw hb); clear HO104; clear HO108; clear HO112; clear HB; have HO104 := n0_; have HO108 := n1_; have HO112 := n2_; have HO116 := n3_; have HB := n4_; clear n0_ n1_ n2_ n3_ n4_; (try clear hb); (try clear hb2); (try clear hk); (try clear hi); (try clear ho0); obtain ⟨Ao46, co46, eo46⟩ := Kd.R_slice HO112.out; subst eo46; obtain ⟨Ao47, co47, eo47⟩ := Kd.R_slice HO116.out; subst eo47) | ((with_reducible refine gate_callee (f := 23) rfl ?_); refine goesL_ (some 26) rfl rfl Try.func23 (by kernel_rfl) rfl #[.agg #[.bool t109, .slice Ao46 t110.length co46], .agg #[.bool t113, .slice Ao47 t114.length co47]] rfl (by (try simp only [List.map_toArray, List.map_cons, List.map_nil]); first | done | rfl | (simp only [List.length_drop, List.length_take]; rfl)) ?_; (with_reducible refine (quadformref01_Same.calls k t109 _ _ t110 t113 _ _ t114 true _ ?side1 ?side2 ?side3 ?side4 A7.out).mono ?_); (case side1 => repeat (first | exact (Kd.R_reads' HO112.out).2.2 | (with_reducible refine Kd.C_alloc ?_ _) | (with_reducible refine Kd.C_drewN ?_ _) | (with_reducible refine Kd.C_drew ?_))); (case side2 => exact (Kd.R_reads' HO112.out).2.1); (case side3 => repeat (first | exact (Kd.R_reads' HO116.out).2.2 | (with_reducible refine Kd.C_alloc ?_ _) | (with_reducible refine Kd.C_drewN ?_ _) | (with_reducible refine Kd.C_drew ?_))); (case side4 => exact (Kd.R_reads' HO116.out).2.1); rintro e w48 ⟨rfl, hb⟩; refine ⟨_, rfl, ?_⟩; have n0_ := Aside0.mk (Kd.R_below (rr HO104.out) hb); have n1_ := Aside0.mk (Kd.R_below (rr HO108.out) hb); have n2_ := Aside0.mk (Kd.R_below (rr HO112.out) hb); have n3_ := Aside0.mk (Kd.R_below (rr HO116.out) hb); have n4_ := Aside0.mk (below_step bw hb); clear HO104; clear HO108; clear HO112; clear HO116; clear HB; have HO104 := n0_; have HO108 := n1_; have HO112 := n2_; have HO116 := n3_; have HB := n4_; clear n0_ n1_ n2_ n3_ n4_; (try clear hb); (try clear hb2); (try clear hk); (try clear hi)) | ((with_reducible refine gate_callee (f := 21) rfl ?_); refine goesL_ (some 32) rfl rfl Try.func21 (by kernel_rfl) rfl #[.int .i64 (wrap64 ((wrap64 (2 * (wrap64 (a0)))) + 1)), .int .i64 (wrap64 ((wrap64 (2 * (wrap64 (a1)))) + 1))] rfl (by (try simp only [List.map_toArray, List.map_cons, List.map_nil]); first | done | rfl | (simp only [List.length_drop, List.length_take]; rfl)) ?_; (with_reducible refine (prime_Kronecker.calls k (wrap64 ((wrap64 (2 * (wrap64 (a0)))) + 1)) (wrap64 ((wrap64 (2 * (wrap64 (a1)))) + 1)) t119 t120 _ A9.out).mono ?_); rintro e w49 ⟨rfl, hb⟩; refine ⟨_, rfl, ?_⟩; have n0_ := Aside0.mk (Kd.R_below (rr HO104.out) hb); have n1_ := Aside0.mk (Kd.R_below (rr HO108.out) hb); have n2_ := Aside0.mk (Kd.R_below (rr HO112.out) hb); have n3_ := Aside0.mk (Kd.R_below (rr HO116.out) hb); have n4_ := Aside0.mk (below_step bw hb); clear HO104; clear HO108; clear HO112; clear HO116; clear HB; have HO104 := n0_; have HO108 := n1_; have HO112 := n2_; have HO116 := n3_; have HB := n4_; clear n0_ n1_ n2_ n3_ n4_; (try clear hb); (try clear hb2); (try clear hk); (try clear hi)) | ((with_reducible refine gate_callee (f := 21) rfl ?_); refine goesL_ (some 38) rfl rfl Try.func21 (by kernel_rfl) rfl #[.int .i64 (wrap64 ((wrap64 (2 * (wrap64 (a1)))) + 1)), .int .i64 (wrap64 ((wrap64 (2 * (wrap64 (a0)))) + 1))] rfl (by (try simp only [List.map_toArray, List.map_cons, List.map_nil]); first | done | rfl | (simp only [List.length_drop, List.length_take]; rfl)) ?_; (with_reducible refine (prime_Kronecker.calls k (wrap64 ((wrap64 (2 * (wrap64 (a1)))) + 1)) (wrap64 ((wrap64 (2 * (wrap64 (a0)))) + 1)) t121 t122 _ A10.out).mono ?_); rintro e w50 ⟨rfl, hb⟩; refine ⟨_, rfl, ?_⟩; have n0_ := Aside0.mk (Kd.R_below (rr HO104.out) hb); have n1_ := Aside0.mk (Kd.R_below (rr HO108.out) hb); have n2_ := Aside0.mk (Kd.R_below (rr HO112.out) hb); have n3_ := Aside0.mk (Kd.R_below (rr HO116.out) hb); have n4_ := Aside0.mk (below_step bw hb); clear HO104; clear HO108; clear HO112; clear HO116; clear HB; have HO104 := n0_; have HO108 := n1_; have HO112 := n2_; have HO116 := n3_; have HB := n4_; clear n0_ n1_ n2_ n3_ n4_; (try clear hb); (try clear hb2); (try clear hk); (try clear hi)))
            go_ret
            exact ⟨by first | rfl | (simp [errW_none, errW_some] <;> rfl) | (simp [*, errW_none, errW_some] <;> rfl), bw⟩
        · rw [if_neg c13] at H
          have c13b0 : (t120 == 0) = false := beq_eq_false_iff_ne.mpr c13
          have c13b1 : (t120 != 0) = true := bne_iff_ne.mpr c13
          obtain rfl := Option.some.inj H
          go_enter Try.func8, Try.ntmps8
          go_wp2_with (first | ((with_reducible refine gate_callee (f := 25) rfl ?_); refine goesL_ (some 21) rfl rfl Try.func25 (by kernel_rfl) rfl #[.int .i64 (wrap64 ((wrap64 (2 * (wrap64 (a0)))) + 1))] rfl (by (try simp only [List.map_toArray, List.map_cons, List.map_nil]); first | done | rfl | (simp only [List.length_drop, List.length_take]; rfl)) ?_; (with_reducible refine (quadformref01_Small.calls k (wrap64 ((wrap64 (2 * (wrap64 (a0)))) + 1)) t101 t102 _ A3.out).mono ?_); rintro e w51 ⟨v103, rfl, ho0, hb⟩; refine ⟨_, rfl, ?_⟩; have n0_ := Aside0.mk (Kd.R_lower ho0 (below_size bw)); have n1_ := Aside0.mk (below_step bw hb); clear HB; have HO104 := n0_; have HB := n1_; clear n0_ n1_; (try clear hb); (try clear hb2); (try clear hk); (try clear hi); (try clear ho0)) | ((with_reducible refine gate_callee (f := 25) rfl ?_); refine goesL_ (some 23) rfl rfl Try.func25 (by kernel_rfl) rfl #[.int .i64 (wrap64 ((wrap64 (2 * (wrap64 (a1)))) + 1))] rfl (by (try simp only [List.map_toArray, List.map_cons, List.map_nil]); first | done | rfl | (simp only [List.length_drop, List.length_take]; rfl)) ?_; (with_reducible refine (quadformref01_Small.calls k (wrap64 ((wrap64 (2 * (wrap64 (a1)))) + 1)) t105 t106 _ A4.out).mono ?_); rintro e w52 ⟨v107, rfl, ho0, hb⟩; refine ⟨_, rfl, ?_⟩; have n0_ := Aside0.mk (Kd.R_below (rr HO104.out) hb); have n1_ := Aside0.mk (Kd.R_lower ho0 (below_size bw)); have n2_ := Aside0.mk (below_step bw hb); clear HO104; clear HB; have HO104 := n0_; have HO108 := n1_; have HB := n2_; clear n0_ n1_ n2_; (try clear hb); (try clear hb2); (try clear hk); (try clear hi); (try clear ho0); obtain ⟨Ao53, co53, eo53⟩ := Kd.R_slice HO104.out; subst eo53; obtain ⟨Ao54, co54, eo54⟩ := Kd.R_slice HO108.out; subst eo54) | ((with_reducible refine gate_callee (f := 24) rfl ?_); refine goesL_ (some 24) rfl rfl Try.func24 (by kernel_rfl) rfl #[.agg #[.bool t101, .slice Ao53 t102.length co53], .agg #[.bool t105, .slice Ao54 t106.length co54]] rfl (by (try simp only [List.map_toArray, List.map_cons, List.map_nil]); first | done | rfl | (simp only [List.length_drop, List.length_take]; rfl)) ?_; (with_reducible refine (quadformref01_Gcd.calls k t101 _ _ t102 t105 _ _ t106 t109 t110 _ ?side1 ?side2 ?side3 ?side4 A5.out).mono ?_); (case side1 => repeat (first | exact (Kd.R_reads' HO104.out).2.2 | (with_reducible refine Kd.C_alloc ?_ _) | (with_reducible refine Kd.C_drewN ?_ _) | (with_reducible refine Kd.C_drew ?_))); (case side2 => exact (Kd.R_reads' HO104.out).2.1); (case side3 => repeat (first | exact (Kd.R_reads' HO108.out).2.2 | (with_reducible refine Kd.C_alloc ?_ _) | (with_reducible refine Kd.C_drewN ?_ _) | (with_reducible refine Kd.C_drew ?_))); (case side4 => exact (Kd.R_reads' HO108.out).2.1); rintro e w55 ⟨v111, rfl, ho0, hb⟩; refine ⟨_, rfl, ?_⟩; have n0_ := Aside0.mk (Kd.R_below (rr HO104.out) hb); have n1_ := Aside0.mk (Kd.R_below (rr HO108.out) hb); have n2_ := Aside0.mk (Kd.R_lower ho0 (below_size bw)); have n3_ := Aside0.mk (below_step bw hb); clear HO104; clear HO108; clear HB; have HO104 := n0_; have HO108 := n1_; have HO112 := n2_; have HB := n3_; clear n0_ n1_ n2_ n3_; (try clear hb); (try clear hb2); (try clear hk); (try clear hi); (try clear ho0)) | ((with_reducible refine gate_callee (f := 25) rfl ?_); refine goesL_ (some 25) rfl rfl Try.func25 (by kernel_rfl) rfl #[.int .i64 1] rfl (by (try simp only [List.map_toArray, List.map_cons, List.map_nil]); first | done | rfl | (simp only [List.length_drop, List.length_take]; rfl)) ?_; (with_reducible refine (quadformref01_Small.calls k 1 t113 t114 _ A6.out).mono ?_); rintro e w56 ⟨v115, rfl, ho0, hb⟩; refine ⟨_, rfl, ?_⟩; have n0_ := Aside0.mk (Kd.R_below (rr HO104.out) hb); have n1_ := Aside0.mk (Kd.R_below (rr HO108.out) hb); have n2_ := Aside0.mk (Kd.R_below (rr HO112.out) hb); have n3_ := Aside0.mk (Kd.R_lower ho0 (below_size bw)); have n4_ := Aside0.mk (below_step bw hb); clear HO104; clear HO108; clear HO112; clear HB; have HO104 := n0_; have HO108 := n1_; have HO112 := n2_; have HO116 := n3_; have HB := n4_; clear n0_ n1_ n2_ n3_ n4_; (try clear hb); (try clear hb2); (try clear hk); (try clear hi); (try clear ho0); obtain ⟨Ao57, co57, eo57⟩ := Kd.R_slice HO112.out; subst eo57; obtain ⟨Ao58, co58, eo58⟩ := Kd.R_slice HO116.out; subst eo58) | ((with_reducible refine gate_callee (f := 23) rfl ?_); refine goesL_ (some 26) rfl rfl Try.func23 (by kernel_rfl) rfl #[.agg #[.bool t109, .slice Ao57 t110.length co57], .agg #[.bool t113, .slice Ao58 t114.length co58]] rfl (by (try simp only [List.map_toArray, List.map_cons, List.map_nil]); first | done | rfl | (simp only [List.length_drop, List.length_take]; rfl)) ?_; (with_reducible refine (quadformref01_Same.calls k t109 _ _ t110 t113 _ _ t114 true _ ?side1 ?side2 ?side3 ?side4 A7.out).mono ?_); (case side1 => repeat (first | exact (Kd.R_reads' HO112.out).2.2 | (with_reducible refine Kd.C_alloc ?_ _) | (with_reducible refine Kd.C_drewN ?_ _) | (with_reducible refine Kd.C_drew ?_))); (case side2 => exact (Kd.R_reads' HO112.out).2.1); (case side3 => repeat (first | exact (Kd.R_reads' HO116.out).2.2 | (with_reducible refine Kd.C_alloc ?_ _) | (with_reducible refine Kd.C_drewN ?_ _) | (with_reducible refine Kd.C_drew ?_))); (case side4 => exact (Kd.R_reads' HO116.out).2.1); rintro e w59 ⟨rfl, hb⟩; refine ⟨_, rfl, ?_⟩; have n0_ := Aside0.mk (Kd.R_below (rr HO104.out) hb); have n1_ := Aside0.mk (Kd.R_below (rr HO108.out) hb); have n2_ := Aside0.mk (Kd.R_below (rr HO112.out) hb); have n3_ := Aside0.mk (Kd.R_below (rr HO116.out) hb); have n4_ := Aside0.mk (below_step bw hb); clear HO104; clear HO108; clear HO112; clear HO116; clear HB; have HO104 := n0_; have HO108 := n1_; have HO112 := n2_; have HO116 := n3_; have HB := n4_; clear n0_ n1_ n2_ n3_ n4_; (try clear hb); (try clear hb2); (try clear hk); (try clear hi)) | ((with_reducible refine gate_callee (f := 21) rfl ?_); refine goesL_ (some 32) rfl rfl Try.func21 (by kernel_rfl) rfl #[.int .i64 (wrap64 ((wrap64 (2 * (wrap64 (a0)))) + 1)), .int .i64 (wrap64 ((wrap64 (2 * (wrap64 (a1)))) + 1))] rfl (by (try simp only [List.map_toArray, List.map_cons, List.map_nil]); first | done | rfl | (simp only [List.length_drop, List.length_take]; rfl)) ?_; (with_reducible refine (prime_Kronecker.calls k (wrap64 ((wrap64 (2 * (wrap64 (a0)))) + 1)) (wrap64 ((wrap64 (2 * (wrap64 (a1)))) + 1)) t119 t120 _ A9.out).mono ?_); rintro e w60 ⟨rfl, hb⟩; refine ⟨_, rfl, ?_⟩; have n0_ := Aside0.mk (Kd.R_below (rr HO104.out) hb); have n1_ := Aside0.mk (Kd.R_below (rr HO108.out) hb); have n2_ := Aside0.mk (Kd.R_below (rr HO112.out) hb); have n3_ := Aside0.mk (Kd.R_below (rr HO116.out) hb); have n4_ := Aside0.mk (below_step bw hb); clear HO104; clear HO108; clear HO112; clear HO116; clear HB; have HO104 := n0_; have HO108 := n1_; have HO112 := n2_; have HO116 := n3_; have HB := n4_; clear n0_ n1_ n2_ n3_ n4_; (try clear hb); (try clear hb2); (try clear hk); (try clear hi)) | ((with_reducible refine gate_callee (f := 21) rfl ?_); refine goesL_ (some 38) rfl rfl Try.func21 (by kernel_rfl) rfl #[.int .i64 (wrap64 ((wrap64 (2 * (wrap64 (a1)))) + 1)), .int .i64 (wrap64 ((wrap64 (2 * (wrap64 (a0)))) + 1))] rfl (by (try simp only [List.map_toArray, List.map_cons, List.map_nil]); first | done | rfl | (simp only [List.length_drop, List.length_take]; rfl)) ?_; (with_reducible refine (prime_Kronecker.calls k (wrap64 ((wrap64 (2 * (wrap64 (a1)))) + 1)) (wrap64 ((wrap64 (2 * (wrap64 (a0)))) + 1)) t121 t122 _ A10.out).mono ?_); rintro e w61 ⟨rfl, hb⟩; refine ⟨_, rfl, ?_⟩; have n0_ := Aside0.mk (Kd.R_below (rr HO104.out) hb); have n1_ := Aside0.mk (Kd.R_below (rr HO108.out) hb); have n2_ := Aside0.mk (Kd.R_below (rr HO112.out) hb); have n3_ := Aside0.mk (Kd.R_below (rr HO116.out) hb); have n4_ := Aside0.mk (below_step bw hb); clear HO104; clear HO108; clear HO112; clear HO116; clear HB; have HO104 := n0_; have HO108 := n1_; have HO112 := n2_; have HO116 := n3_; have HB := n4_; clear n0_ n1_ n2_ n3_ n4_; (try clear hb); (try clear hb2); (try clear hk); (try clear hi)))
          go_ret
          exact ⟨by first | rfl | (simp [errW_none, errW_some] <;> rfl) | (simp [*, errW_none, errW_some] <;> rfl), bw⟩
      · rw [if_neg c12] at H
        have c12b0 : ((Int.tmod (wrap64 ((wrap64 (2 * (wrap64 (a1)))) + 1)) 4) == 3) = false := beq_eq_false_iff_ne.mpr c12
        have c12b1 : ((Int.tmod (wrap64 ((wrap64 (2 * (wrap64 (a1)))) + 1)) 4) != 3) = true := bne_iff_ne.mpr c12
        by_cases c62 : t120 = 0
        · rw [if_pos c62] at H
          have c62b0 : (t120 == 0) = true := beq_iff_eq.mpr c62
          have c62b1 : (t120 != 0) = false := bne_eq_false_iff_eq.mpr c62
          clear c62
          by_cases c63 : t122 = 0
          · rw [if_pos c63] at H
            have c63b0 : (t122 == 0) = true := beq_iff_eq.mpr c63
            have c63b1 : (t122 != 0) = false := bne_eq_false_iff_eq.mpr c63
            clear c63
            by_cases c64 : (wrap64 (t119 * t121)) = 1
            · rw [if_pos c64] at H
              have c64b0 : ((wrap64 (t119 * t121)) == 1) = true := beq_iff_eq.mpr c64
              have c64b1 : ((wrap64 (t119 * t121)) != 1) = false := bne_eq_false_iff_eq.mpr c64
              clear c64
              replace H := Option.bind_eq_some_iff.mp H
              obtain ⟨t124, A650, H⟩ := H
              replace H : (some t124) = some r := H
              have A65 := Aside0.mk A650
              clear A650
              obtain rfl := Option.some.inj H
              go_enter Try.func8, Try.ntmps8
              go_wp2_with (first | ((with_reducible refine gate_callee (f := 25) rfl ?_); refine goesL_ (some 21) rfl rfl Try.func25 (by kernel_rfl) rfl #[.int .i64 (wrap64 ((wrap64 (2 * (wrap64 (a0)))) + 1))] rfl (by (try simp only [List.map_toArray, List.map_cons, List.map_nil]); first | done | rfl | (simp only [List.length_drop, List.length_take]; rfl)) ?_; (with_reducible refine (quadformref01_Small.calls k (wrap64 ((wrap64 (2 * (wrap64 (a0)))) + 1)) t101 t102 _ A3.out).mono ?_); rintro e w66 ⟨v103, rfl, ho0, hb⟩; refine ⟨_, rfl, ?_⟩; have n0_ := Aside0.mk (Kd.R_lower ho0 (below_size bw)); have n1_ := Aside0.mk (below_step bw hb); clear HB; have HO104 := n0_; have HB := n1_; clear n0_ n1_; (try clear hb); (try clear hb2); (try clear hk); (try clear hi); (try clear ho0)) | ((with_reducible refine gate_callee (f := 25) rfl ?_); refine goesL_ (some 23) rfl rfl Try.func25 (by kernel_rfl) rfl #[.int .i64 (wrap64 ((wrap64 (2 * (wrap64 (a1)))) + 1))] rfl (by (try simp only [List.map_toArray, List.map_cons, List.map_nil]); first | done | rfl | (simp only [List.length_drop, List.length_take]; rfl)) ?_; (with_reducible refine (quadformref01_Small.calls k (wrap64 ((wrap64 (2 * (wrap64 (a1)))) + 1)) t105 t106 _ A4.out).mono ?_); rintro e w67 ⟨v107, rfl, ho0, hb⟩; refine ⟨_, rfl, ?_⟩; have n0_ := Aside0.mk (Kd.R_below (rr HO104.out) hb); have n1_ := Aside0.mk (Kd.R_lower ho0 (below_size bw)); have n2_ := Aside0.mk (below_step bw hb); clear HO104; clear HB; have HO104 := n0_; have HO108 := n1_; have HB := n2_; clear n0_ n1_ n2_; (try clear hb); (try clear hb2); (try clear hk); (try clear hi); (try clear ho0); obtain ⟨Ao68, co68, eo68⟩ := Kd.R_slice HO104.out; subst eo68; obtain ⟨Ao69, co69, eo69⟩ := Kd.R_slice HO108.out; subst eo69) | ((with_reducible refine gate_callee (f := 24) rfl ?_); refine goesL_ (some 24) rfl rfl Try.func24 (by kernel_rfl) rfl #[.agg #[.bool t101, .slice Ao68 t102.length co68], .agg #[.bool t105, .slice Ao69 t106.length co69]] rfl (by (try simp only [List.map_toArray, List.map_cons, List.map_nil]); first | done | rfl | (simp only [List.length_drop, List.length_take]; rfl)) ?_; (with_reducible refine (quadformref01_Gcd.calls k t101 _ _ t102 t105 _ _ t106 t109 t110 _ ?side1 ?side2 ?side3 ?side4 A5.out).mono ?_); (case side1 => repeat (first | exact (Kd.R_reads' HO104.out).2.2 | (with_reducible refine Kd.C_alloc ?_ _) | (with_reducible refine Kd.C_drewN ?_ _) | (with_reducible refine Kd.C_drew ?_))); (case side2 => exact (Kd.R_reads' HO104.out).2.1); (case side3 => repeat (first | exact (Kd.R_reads' HO108.out).2.2 | (with_reducible refine Kd.C_alloc ?_ _) | (with_reducible refine Kd.C_drewN ?_ _) | (with_reducible refine Kd.C_drew ?_))); (case side4 => exact (Kd.R_reads' HO108.out).2.1); rintro e w70 ⟨v111, rfl, ho0, hb⟩; refine ⟨_, rfl, ?_⟩; have n0_ := Aside0.mk (Kd.R_below (rr HO104.out) hb); have n1_ := Aside0.mk (Kd.R_below (rr HO108.out) hb); have n2_ := Aside0.mk (Kd.R_lower ho0 (below_size bw)); have n3_ := Aside0.mk (below_step bw hb); clear HO104; clear HO108; clear HB; have HO104 := n0_; have HO108 := n1_; have HO112 := n2_; have HB := n3_; clear n0_ n1_ n2_ n3_; (try clear hb); (try clear hb2); (try clear hk); (try clear hi); (try clear ho0)) | ((with_reducible refine gate_callee (f := 25) rfl ?_); refine goesL_ (some 25) rfl rfl Try.func25 (by kernel_rfl) rfl #[.int .i64 1] rfl (by (try simp only [List.map_toArray, List.map_cons, List.map_nil]); first | done | rfl | (simp only [List.length_drop, List.length_take]; rfl)) ?_; (with_reducible refine (quadformref01_Small.calls k 1 t113 t114 _ A6.out).mono ?_); rintro e w71 ⟨v115, rfl, ho0, hb⟩; refine ⟨_, rfl, ?_⟩; have n0_ := Aside0.mk (Kd.R_below (rr HO104.out) hb); have n1_ := Aside0.mk (Kd.R_below (rr HO108.out) hb); have n2_ := Aside0.mk (Kd.R_below (rr HO112.out) hb); have n3_ := Aside0.mk (Kd.R_lower ho0 (below_size bw)); have n4_ := Aside0.mk (below_step bw hb); clear HO104; clear HO108; clear HO112; clear HB; have HO104 := n0_; have HO108 := n1_; have HO112 := n2_; have HO116 := n3_; have HB := n4_; clear n0_ n1_ n2_ n3_ n4_; (try clear hb); (try clear hb2); (try clear hk); (try clear hi); (try clear ho0); obtain ⟨Ao72, co72, eo72⟩ := Kd.R_slice HO112.out; subst eo72; obtain ⟨Ao73, co73, eo73⟩ := Kd.R_slice HO116.out; subst eo73) | ((with_reducible refine gate_callee (f := 23) rfl ?_); refine goesL_ (some 26) rfl rfl Try.func23 (by kernel_rfl) rfl #[.agg #[.bool t109, .slice Ao72 t110.length co72], .agg #[.bool t113, .slice Ao73 t114.length co73]] rfl (by (try simp only [List.map_toArray, List.map_cons, List.map_nil]); first | done | rfl | (simp only [List.length_drop, List.length_take]; rfl)) ?_; (with_reducible refine (quadformref01_Same.calls k t109 _ _ t110 t113 _ _ t114 true _ ?side1 ?side2 ?side3 ?side4 A7.out).mono ?_); (case side1 => repeat (first | exact (Kd.R_reads' HO112.out).2.2 | (with_reducible refine Kd.C_alloc ?_ _) | (with_reducible refine Kd.C_drewN ?_ _) | (with_reducible refine Kd.C_drew ?_))); (case side2 => exact (Kd.R_reads' HO112.out).2.1); (case side3 => repeat (first | exact (Kd.R_reads' HO116.out).2.2 | (with_reducible refine Kd.C_alloc ?_ _) | (with_reducible refine Kd.C_drewN ?_ _) | (with_reducible refine Kd.C_drew ?_))); (case side4 => exact (Kd.R_reads' HO116.out).2.1); rintro e w74 ⟨rfl, hb⟩; refine ⟨_, rfl, ?_⟩; have n0_ := Aside0.mk (Kd.R_below (rr HO104.out) hb); have n1_ := Aside0.mk (Kd.R_below (rr HO108.out) hb); have n2_ := Aside0.mk (Kd.R_below (rr HO112.out) hb); have n3_ := Aside0.mk (Kd.R_below (rr HO116.out) hb); have n4_ := Aside0.mk (below_step bw hb); clear HO104; clear HO108; clear HO112; clear HO116; clear HB; have HO104 := n0_; have HO108 := n1_; have HO112 := n2_; have HO116 := n3_; have HB := n4_; clear n0_ n1_ n2_ n3_ n4_; (try clear hb); (try clear hb2); (try clear hk); (try clear hi)) | ((with_reducible refine gate_callee (f := 21) rfl ?_); refine goesL_ (some 32) rfl rfl Try.func21 (by kernel_rfl) rfl #[.int .i64 (wrap64 ((wrap64 (2 * (wrap64 (a0)))) + 1)), .int .i64 (wrap64 ((wrap64 (2 * (wrap64 (a1)))) + 1))] rfl (by (try simp only [List.map_toArray, List.map_cons, List.map_nil]); first | done | rfl | (simp only [List.length_drop, List.length_take]; rfl)) ?_; (with_reducible refine (prime_Kronecker.calls k (wrap64 ((wrap64 (2 * (wrap64 (a0)))) + 1)) (wrap64 ((wrap64 (2 * (wrap64 (a1)))) + 1)) t119 t120 _ A9.out).mono ?_); rintro e w75 ⟨rfl, hb⟩; refine ⟨_, rfl, ?_⟩; have n0_ := Aside0.mk (Kd.R_below (rr HO104.out) hb); have n1_ := Aside0.mk (Kd.R_below (rr HO108.out) hb); have n2_ := Aside0.mk (Kd.R_below (rr HO112.out) hb); have n3_ := Aside0.mk (Kd.R_below (rr HO116.out) hb); have n4_ := Aside0.mk (below_step bw hb); clear HO104; clear HO108; clear HO112; clear HO116; clear HB; have HO104 := n0_; have HO108 := n1_; have HO112 := n2_; have HO116 := n3_; have HB := n4_; clear n0_ n1_ n2_ n3_ n4_; (try clear hb); (try clear hb2); (try clear hk); (try clear hi)) | ((with_reducible refine gate_callee (f := 21) rfl ?_); refine goesL_ (some 38) rfl rfl Try.func21 (by kernel_rfl) rfl #[.int .i64 (wrap64 ((wrap64 (2 * (wrap64 (a1)))) + 1)), .int .i64 (wrap64 ((wrap64 (2 * (wrap64 (a0)))) + 1))] rfl (by (try simp only [List.map_toArray, List.map_cons, List.map_nil]); first | done | rfl | (simp only [List.length_drop, List.length_take]; rfl)) ?_; (with_reducible refine (prime_Kronecker.calls k (wrap64 ((wrap64 (2 * (wrap64 (a1)))) + 1)) (wrap64 ((wrap64 (2 * (wrap64 (a0)))) + 1)) t121 t122 _ A10.out).mono ?_); rintro e w76 ⟨rfl, hb⟩; refine ⟨_, rfl, ?_⟩; have n0_ := Aside0.mk (Kd.R_below (rr HO104.out) hb); have n1_ := Aside0.mk (Kd.R_below (rr HO108.out) hb); have n2_ := Aside0.mk (Kd.R_below (rr HO112.out) hb); have n3_ := Aside0.mk (Kd.R_below (rr HO116.out) hb); have n4_ := Aside0.mk (below_step bw hb); clear HO104; clear HO108; clear HO112; clear HO116; clear HB; have HO104 := n0_; have HO108 := n1_; have HO112 := n2_; have HO116 := n3_; have HB := n4_; clear n0_ n1_ n2_ n3_ n4_; (try clear hb); (try clear hb2); (try clear hk); (try clear hi)) | (go_at_call 17; (with_reducible refine (quadformlaw22_awake.calls k  t124 _ A65.out).mono ?_); rintro e w77 ⟨rfl, hb⟩; have n0_ := Aside0.mk (Kd.R_below (rr HO104.out) hb); have n1_ := Aside0.mk (Kd.R_below (rr HO108.out) hb); have n2_ := Aside0.mk (Kd.R_below (rr HO112.out) hb); have n3_ := Aside0.mk (Kd.R_below (rr HO116.out) hb); have n4_ := Aside0.mk (below_step bw hb); clear HO104; clear HO108; clear HO112; clear HO116; clear HB; have HO104 := n0_; have HO108 := n1_; have HO112 := n2_; have HO116 := n3_; have HB := n4_; clear n0_ n1_ n2_ n3_ n4_; (try clear hb); (try clear hb2); (try clear hk); (try clear hi)))
              go_ret
              exact ⟨by first | rfl | (simp [errW_none, errW_some] <;> rfl) | (simp [*, errW_none, errW_some] <;> rfl), bw⟩
            · rw [if_neg c64] at H
              have c64b0 : ((wrap64 (t119 * t121)) == 1) = false := beq_eq_false_iff_ne.mpr c64
              have c64b1 : ((wrap64 (t119 * t121)) != 1) = true := bne_iff_ne.mpr c64
              obtain rfl := Option.some.inj H
              go_enter Try.func8, Try.ntmps8
              go_wp2_with (first | ((with_reducible refine gate_callee (f := 25) rfl ?_); refine goesL_ (some 21) rfl rfl Try.func25 (by kernel_rfl) rfl #[.int .i64 (wrap64 ((wrap64 (2 * (wrap64 (a0)))) + 1))] rfl (by (try simp only [List.map_toArray, List.map_cons, List.map_nil]); first | done | rfl | (simp only [List.length_drop, List.length_take]; rfl)) ?_; (with_reducible refine (quadformref01_Small.calls k (wrap64 ((wrap64 (2 * (wrap64 (a0)))) + 1)) t101 t102 _ A3.out).mono ?_); rintro e w78 ⟨v103, rfl, ho0, hb⟩; refine ⟨_, rfl, ?_⟩; have n0_ := Aside0.mk (Kd.R_lower ho0 (below_size bw)); have n1_ := Aside0.mk (below_step bw hb); clear HB; have HO104 := n0_; have HB := n1_; clear n0_ n1_; (try clear hb); (try clear hb2); (try clear hk); (try clear hi); (try clear ho0)) | ((with_reducible refine gate_callee (f := 25) rfl ?_); refine goesL_ (some 23) rfl rfl Try.func25 (by kernel_rfl) rfl #[.int .i64 (wrap64 ((wrap64 (2 * (wrap64 (a1)))) + 1))] rfl (by (try simp only [List.map_toArray, List.map_cons, List.map_nil]); first | done | rfl | (simp only [List.length_drop, List.length_take]; rfl)) ?_; (with_reducible refine (quadformref01_Small.calls k (wrap64 ((wrap64 (2 * (wrap64 (a1)))) + 1)) t105 t106 _ A4.out).mono ?_); rintro e w79 ⟨v107, rfl, ho0, hb⟩; refine ⟨_, rfl, ?_⟩; have n0_ := Aside0.mk (Kd.R_below (rr HO104.out) hb); have n1_ := Aside0.mk (Kd.R_lower ho0 (below_size bw)); have n2_ := Aside0.mk (below_step bw hb); clear HO104; clear HB; have HO104 := n0_; have HO108 := n1_; have HB := n2_; clear n0_ n1_ n2_; (try clear hb); (try clear hb2); (try clear hk); (try clear hi); (try clear ho0); obtain ⟨Ao80, co80, eo80⟩ := Kd.R_slice HO104.out; subst eo80; obtain ⟨Ao81, co81, eo81⟩ := Kd.R_slice HO108.out; subst eo81) | ((with_reducible refine gate_callee (f := 24) rfl ?_); refine goesL_ (some 24) rfl rfl Try.func24 (by kernel_rfl) rfl #[.agg #[.bool t101, .slice Ao80 t102.length co80], .agg #[.bool t105, .slice Ao81 t106.length co81]] rfl (by (try simp only [List.map_toArray, List.map_cons, List.map_nil]); first | done | rfl | (simp only [List.length_drop, List.length_take]; rfl)) ?_; (with_reducible refine (quadformref01_Gcd.calls k t101 _ _ t102 t105 _ _ t106 t109 t110 _ ?side1 ?side2 ?side3 ?side4 A5.out).mono ?_); (case side1 => repeat (first | exact (Kd.R_reads' HO104.out).2.2 | (with_reducible refine Kd.C_alloc ?_ _) | (with_reducible refine Kd.C_drewN ?_ _) | (with_reducible refine Kd.C_drew ?_))); (case side2 => exact (Kd.R_reads' HO104.out).2.1); (case side3 => repeat (first | exact (Kd.R_reads' HO108.out).2.2 | (with_reducible refine Kd.C_alloc ?_ _) | (with_reducible refine Kd.C_drewN ?_ _) | (with_reducible refine Kd.C_drew ?_))); (case side4 => exact (Kd.R_reads' HO108.out).2.1); rintro e w82 ⟨v111, rfl, ho0, hb⟩; refine ⟨_, rfl, ?_⟩; have n0_ := Aside0.mk (Kd.R_below (rr HO104.out) hb); have n1_ := Aside0.mk (Kd.R_below (rr HO108.out) hb); have n2_ := Aside0.mk (Kd.R_lower ho0 (below_size bw)); have n3_ := Aside0.mk (below_step bw hb); clear HO104; clear HO108; clear HB; have HO104 := n0_; have HO108 := n1_; have HO112 := n2_; have HB := n3_; clear n0_ n1_ n2_ n3_; (try clear hb); (try clear hb2); (try clear hk); (try clear hi); (try clear ho0)) | ((with_reducible refine gate_callee (f := 25) rfl ?_); refine goesL_ (some 25) rfl rfl Try.func25 (by kernel_rfl) rfl #[.int .i64 1] rfl (by (try simp only [List.map_toArray, List.map_cons, List.map_nil]); first | done | rfl | (simp only [List.length_drop, List.length_take]; rfl)) ?_; (with_reducible refine (quadformref01_Small.calls k 1 t113 t114 _ A6.out).mono ?_); rintro e w83 ⟨v115, rfl, ho0, hb⟩; refine ⟨_, rfl, ?_⟩; have n0_ := Aside0.mk (Kd.R_below (rr HO104.out) hb); have n1_ := Aside0.mk (Kd.R_below (rr HO108.out) hb); have n2_ := Aside0.mk (Kd.R_below (rr HO112.out) hb); have n3_ := Aside0.mk (Kd.R_lower ho0 (below_size bw)); have n4_ := Aside0.mk (below_step bw hb); clear HO104; clear HO108; clear HO112; clear HB; have HO104 := n0_; have HO108 := n1_; have HO112 := n2_; have HO116 := n3_; have HB := n4_; clear n0_ n1_ n2_ n3_ n4_; (try clear hb); (try clear hb2); (try clear hk); (try clear hi); (try clear ho0); obtain ⟨Ao84, co84, eo84⟩ := Kd.R_slice HO112.out; subst eo84; obtain ⟨Ao85, co85, eo85⟩ := Kd.R_slice HO116.out; subst eo85) | ((with_reducible refine gate_callee (f := 23) rfl ?_); refine goesL_ (some 26) rfl rfl Try.func23 (by kernel_rfl) rfl #[.agg #[.bool t109, .slice Ao84 t110.length co84], .agg #[.bool t113, .slice Ao85 t114.length co85]] rfl (by (try simp only [List.map_toArray, List.map_cons, List.map_nil]); first | done | rfl | (simp only [List.length_drop, List.length_take]; rfl)) ?_; (with_reducible refine (quadformref01_Same.calls k t109 _ _ t110 t113 _ _ t114 true _ ?side1 ?side2 ?side3 ?side4 A7.out).mono ?_); (case side1 => repeat (first | exact (Kd.R_reads' HO112.out).2.2 | (with_reducible refine Kd.C_alloc ?_ _) | (with_reducible refine Kd.C_drewN ?_ _) | (with_reducible refine Kd.C_drew ?_))); (case side2 => exact (Kd.R_reads' HO112.out).2.1); (case side3 => repeat (first | exact (Kd.R_reads' HO116.out).2.2 | (with_reducible refine Kd.C_alloc ?_ _) | (with_reducible refine Kd.C_drewN ?_ _) | (with_reducible refine Kd.C_drew ?_))); (case side4 => exact (Kd.R_reads' HO116.out).2.1); rintro e w86 ⟨rfl, hb⟩; refine ⟨_, rfl, ?_⟩; have n0_ := Aside0.mk (Kd.R_below (rr HO104.out) hb); have n1_ := Aside0.mk (Kd.R_below (rr HO108.out) hb); have n2_ := Aside0.mk (Kd.R_below (rr HO112.out) hb); have n3_ := Aside0.mk (Kd.R_below (rr HO116.out) hb); have n4_ := Aside0.mk (below_step bw hb); clear HO104; clear HO108; clear HO112; clear HO116; clear HB; have HO104 := n0_; have HO108 := n1_; have HO112 := n2_; have HO116 := n3_; have HB := n4_; clear n0_ n1_ n2_ n3_ n4_; (try clear hb); (try clear hb2); (try clear hk); (try clear hi)) | ((with_reducible refine gate_callee (f := 21) rfl ?_); refine goesL_ (some 32) rfl rfl Try.func21 (by kernel_rfl) rfl #[.int .i64 (wrap64 ((wrap64 (2 * (wrap64 (a0)))) + 1)), .int .i64 (wrap64 ((wrap64 (2 * (wrap64 (a1)))) + 1))] rfl (by (try simp only [List.map_toArray, List.map_cons, List.map_nil]); first | done | rfl | (simp only [List.length_drop, List.length_take]; rfl)) ?_; (with_reducible refine (prime_Kronecker.calls k (wrap64 ((wrap64 (2 * (wrap64 (a0)))) + 1)) (wrap64 ((wrap64 (2 * (wrap64 (a1)))) + 1)) t119 t120 _ A9.out).mono ?_); rintro e w87 ⟨rfl, hb⟩; refine ⟨_, rfl, ?_⟩; have n0_ := Aside0.mk (Kd.R_below (rr HO104.out) hb); have n1_ := Aside0.mk (Kd.R_below (rr HO108.out) hb); have n2_ := Aside0.mk (Kd.R_below (rr HO112.out) hb); have n3_ := Aside0.mk (Kd.R_below (rr HO116.out) hb); have n4_ := Aside0.mk (below_step bw hb); clear HO104; clear HO108; clear HO112; clear HO116; clear HB; have HO104 := n0_; have HO108 := n1_; have HO112 := n2_; have HO116 := n3_; have HB := n4_; clear n0_ n1_ n2_ n3_ n4_; (try clear hb); (try clear hb2); (try clear hk); (try clear hi)) | ((with_reducible refine gate_callee (f := 21) rfl ?_); refine goesL_ (some 38) rfl rfl Try.func21 (by kernel_rfl) rfl #[.int .i64 (wrap64 ((wrap64 (2 * (wrap64 (a1)))) + 1)), .int .i64 (wrap64 ((wrap64 (2 * (wrap64 (a0)))) + 1))] rfl (by (try simp only [List.map_toArray, List.map_cons, List.map_nil]); first | done | rfl | (simp only [List.length_drop, List.length_take]; rfl)) ?_; (with_reducible refine (prime_Kronecker.calls k (wrap64 ((wrap64 (2 * (wrap64 (a1)))) + 1)) (wrap64 ((wrap64 (2 * (wrap64 (a0)))) + 1)) t121 t122 _ A10.out).mono ?_); rintro e w88 ⟨rfl, hb⟩; refine ⟨_, rfl, ?_⟩; have n0_ := Aside0.mk (Kd.R_below (rr HO104.out) hb); have n1_ := Aside0.mk (Kd.R_below (rr HO108.out) hb); have n2_ := Aside0.mk (Kd.R_below (rr HO112.out) hb); have n3_ := Aside0.mk (Kd.R_below (rr HO116.out) hb); have n4_ := Aside0.mk (below_step bw hb); clear HO104; clear HO108; clear HO112; clear HO116; clear HB; have HO104 := n0_; have HO108 := n1_; have HO112 := n2_; have HO116 := n3_; have HB := n4_; clear n0_ n1_ n2_ n3_ n4_; (try clear hb); (try clear hb2); (try clear hk); (try clear hi)))
              go_ret
              exact ⟨by first | rfl | (simp [errW_none, errW_some] <;> rfl) | (simp [*, errW_none, errW_some] <;> rfl), bw⟩
          · rw [if_neg c63] at H
            have c63b0 : (t122 == 0) = false := beq_eq_false_iff_ne.mpr c63
            have c63b1 : (t122 != 0) = true := bne_iff_ne.mpr c63
            obtain rfl := Option.some.inj H
            go_enter Try.func8, Try.ntmps8
            go_wp2_with (first | ((with_reducible refine gate_callee (f := 25) rfl ?_); refine goesL_ (some 21) rfl rfl Try.func25 (by kernel_rfl) rfl #[.int .i64 (wrap64 ((wrap64 (2 * (wrap64 (a0)))) + 1))] rfl (by (try simp only [List.map_toArray, List.map_cons, List.map_nil]); first | done | rfl | (simp only [List.length_drop, List.length_take]; rfl)) ?_; (with_reducible refine (quadformref01_Small.calls k (wrap64 ((wrap64 (2 * (wrap64 (a0)))) + 1)) t101 t102 _ A3.out).mono ?_); rintro e w89 ⟨v103, rfl, ho0, hb⟩; refine ⟨_, rfl, ?_⟩; have n0_ := Aside0.mk (Kd.R_lower ho0 (below_size bw)); have n1_ := Aside0.mk (below_step bw hb); clear HB; have HO104 := n0_; have HB := n1_; clear n0_ n1_; (try clear hb); (try clear hb2); (try clear hk); (try clear hi); (try clear ho0)) | ((with_reducible refine gate_callee (f := 25) rfl ?_); refine goesL_ (some 23) rfl rfl Try.func25 (by kernel_rfl) rfl #[.int .i64 (wrap64 ((wrap64 (2 * (wrap64 (a1)))) + 1))] rfl (by (try simp only [List.map_toArray, List.map_cons, List.map_nil]); first | done | rfl | (simp only [List.length_drop, List.length_take]; rfl)) ?_; (with_reducible refine (quadformref01_Small.calls k (wrap64 ((wrap64 (2 * (wrap64 (a1)))) + 1)) t105 t106 _ A4.out).mono ?_); rintro e w90 ⟨v107, rfl, ho0, hb⟩; refine ⟨_, rfl, ?_⟩; have n0_ := Aside0.mk (Kd.R_below (rr HO104.out) hb); have n1_ := Aside0.mk (Kd.R_lower ho0 (below_size bw)); have n2_ := Aside0.mk (below_step bw hb); clear HO104; clear HB; have HO104 := n0_; have HO108 := n1_; have HB := n2_; clear n0_ n1_ n2_; (try clear hb); (try clear hb2); (try clear hk); (try clear hi); (try clear ho0); obtain ⟨Ao91, co91, eo91⟩ := Kd.R_slice HO104.out; subst eo91; obtain ⟨Ao92, co92, eo92⟩ := Kd.R_slice HO108.out; subst eo92) | ((with_reducible refine gate_callee (f := 24) rfl ?_); refine goesL_ (some 24) rfl rfl Try.func24 (by kernel_rfl) rfl #[.agg #[.bool t101, .slice Ao91 t102.length co91], .agg #[.bool t105, .slice Ao92 t106.length co92]] rfl (by (try simp only [List.map_toArray, List.map_cons, List.map_nil]); first | done | rfl | (simp only [List.length_drop, List.length_take]; rfl)) ?_; (with_reducible refine (quadformref01_Gcd.calls k t101 _ _ t102 t105 _ _ t106 t109 t110 _ ?side1 ?side2 ?side3 ?side4 A5.out).mono ?_); (case side1 => repeat (first | exact (Kd.R_reads' HO104.out).2.2 | (with_reducible refine Kd.C_alloc ?_ _) | (with_reducible refine Kd.C_drewN ?_ _) | (with_reducible refine Kd.C_drew ?_))); (case side2 => exact (Kd.R_reads' HO104.out).2.1); (case side3 => repeat (first | exact (Kd.R_reads' HO108.out).2.2 | (with_reducible refine Kd.C_alloc ?_ _) | (with_reducible refine Kd.C_drewN ?_ _) | (with_reducible refine Kd.C_drew ?_))); (case side4 => exact (Kd.R_reads' HO108.out).2.1); rintro e w93 ⟨v111, rfl, ho0, hb⟩; refine ⟨_, rfl, ?_⟩; have n0_ := Aside0.mk (Kd.R_below (rr HO104.out) hb); have n1_ := Aside0.mk (Kd.R_below (rr HO108.out) hb); have n2_ := Aside0.mk (Kd.R_lower ho0 (below_size bw)); have n3_ := Aside0.mk (below_step bw hb); clear HO104; clear HO108; clear HB; have HO104 := n0_; have HO108 := n1_; have HO112 := n2_; have HB := n3_; clear n0_ n1_ n2_ n3_; (try clear hb); (try clear hb2); (try clear hk); (try clear hi); (try clear ho0)) | ((with_reducible refine gate_callee (f := 25) rfl ?_); refine goesL_ (some 25) rfl rfl Try.func25 (by kernel_rfl) rfl #[.int .i64 1] rfl (by (try simp only [List.map_toArray, List.map_cons, List.map_nil]); first | done | rfl | (simp only [List.length_drop, List.length_take]; rfl)) ?_; (with_reducible refine (quadformref01_Small.calls k 1 t113 t114 _ A6.out).mono ?_); rintro e w94 ⟨v115, rfl, ho0, hb⟩; refine ⟨_, rfl, ?_⟩; have n0_ := Aside0.mk (Kd.R_below (rr HO104.out) hb); have n1_ := Aside0.mk (Kd.R_below (rr HO108.out) hb); have n2_ := Aside0.mk (Kd.R_below (rr HO112.out) hb); have n3_ := Aside0.mk (Kd.R_lower ho0 (below_size bw)); have n4_ := Aside0.mk (below_step bw hb); clear HO104; clear HO108; clear HO112; clear HB; have HO104 := n0_; have HO108 := n1_; have HO112 := n2_; have HO116 := n3_; have HB := n4_; clear n0_ n1_ n2_ n3_ n4_; (try clear hb); (try clear hb2); (try clear hk); (try clear hi); (try clear ho0); obtain ⟨Ao95, co95, eo95⟩ := Kd.R_slice HO112.out; subst eo95; obtain ⟨Ao96, co96, eo96⟩ := Kd.R_slice HO116.out; subst eo96) | ((with_reducible refine gate_callee (f := 23) rfl ?_); refine goesL_ (some 26) rfl rfl Try.func23 (by kernel_rfl) rfl #[.agg #[.bool t109, .slice Ao95 t110.length co95], .agg #[.bool t113, .slice Ao96 t114.length co96]] rfl (by (try simp only [List.map_toArray, List.map_cons, List.map_nil]); first | done | rfl | (simp only [List.length_drop, List.length_take]; rfl)) ?_; (with_reducible refine (quadformref01_Same.calls k t109 _ _ t110 t113 _ _ t114 true _ ?side1 ?side2 ?side3 ?side4 A7.out).mono ?_); (case side1 => repeat (first | exact (Kd.R_reads' HO112.out).2.2 | (with_reducible refine Kd.C_alloc ?_ _) | (with_reducible refine Kd.C_drewN ?_ _) | (with_reducible refine Kd.C_drew ?_))); (case side2 => exact (Kd.R_reads' HO112.out).2.1); (case side3 => repeat (first | exact (Kd.R_reads' HO116.out).2.2 | (with_reducible refine Kd.C_alloc ?_ _) | (with_reducible refine Kd.C_drewN ?_ _) | (with_reducible refine Kd.C_drew ?_))); (case side4 => exact (Kd.R_reads' HO116.out).2.1); rintro e w97 ⟨rfl, hb⟩; refine ⟨_, rfl, ?_⟩; have n0_ := Aside0.mk (Kd.R_below (rr HO104.out) hb); have n1_ := Aside0.mk (Kd.R_below (rr HO108.out) hb); have n2_ := Aside0.mk (Kd.R_below (rr HO112.out) hb); have n3_ := Aside0.mk (Kd.R_below (rr HO116.out) hb); have n4_ := Aside0.mk (below_step bw hb); clear HO104; clear HO108; clear HO112; clear HO116; clear HB; have HO104 := n0_; have HO108 := n1_; have HO112 := n2_; have HO116 := n3_; have HB := n4_; clear n0_ n1_ n2_ n3_ n4_; (try clear hb); (try clear hb2); (try clear hk); (try clear hi)) | ((with_reducible refine gate_callee (f := 21) rfl ?_); refine goesL_ (some 32) rfl rfl Try.func21 (by kernel_rfl) rfl #[.int .i64 (wrap64 ((wrap64 (2 * (wrap64 (a0)))) + 1)), .int .i64 (wrap64 ((wrap64 (2 * (wrap64 (a1)))) + 1))] rfl (by (try simp only [List.map_toArray, List.map_cons, List.map_nil]); first | done | rfl | (simp only [List.length_drop, List.length_take]; rfl)) ?_; (with_reducible refine (prime_Kronecker.calls k (wrap64 ((wrap64 (2 * (wrap64 (a0)))) + 1)) (wrap64 ((wrap64 (2 * (wrap64 (a1)))) + 1)) t119 t120 _ A9.out).mono ?_); rintro e w98 ⟨rfl, hb⟩; refine ⟨_, rfl, ?_⟩; have n0_ := Aside0.mk (Kd.R_below (rr HO104.out) hb); have n1_ := Aside0.mk (Kd.R_below (rr HO108.out) hb); have n2_ := Aside0.mk (Kd.R_below (rr HO112.out) hb); have n3_ := Aside0.mk (Kd.R_below (rr HO116.out) hb); have n4_ := Aside0.mk (below_step bw hb); clear HO104; clear HO108; clear HO112; clear HO116; clear HB; have HO104 := n0_; have HO108 := n1_; have HO112 := n2_; have HO116 := n3_; have HB := n4_; clear n0_ n1_ n2_ n3_ n4_; (try clear hb); (try clear hb2); (try clear hk); (try clear hi)) | ((with_reducible refine gate_callee (f := 21) rfl ?_); refine goesL_ (some 38) rfl rfl Try.func21 (by kernel_rfl) rfl #[.int .i64 (wrap64 ((wrap64 (2 * (wrap64 (a1)))) + 1)), .int .i64 (wrap64 ((wrap64 (2 * (wrap64 (a0)))) + 1))] rfl (by (try simp only [List.map_toArray, List.map_cons, List.map_nil]); first | done | rfl | (simp only [List.length_drop, List.length_take]; rfl)) ?_; (with_reducible refine (prime_Kronecker.calls k (wrap64 ((wrap64 (2 * (wrap64 (a1)))) + 1)) (wrap64 ((wrap64 (2 * (wrap64 (a0)))) + 1)) t121 t122 _ A10.out).mono ?_); rintro e w99 ⟨rfl, hb⟩; refine ⟨_, rfl, ?_⟩; have n0_ := Aside0.mk (Kd.R_below (rr HO104.out) hb); have n1_ := Aside0.mk (Kd.R_below (rr HO108.out) hb); have n2_ := Aside0.mk (Kd.R_below (rr HO112.out) hb); have n3_ := Aside0.mk (Kd.R_below (rr HO116.out) hb); have n4_ := Aside0.mk (below_step bw hb); clear HO104; clear HO108; clear HO112; clear HO116; clear HB; have HO104 := n0_; have HO108 := n1_; have HO112 := n2_; have HO116 := n3_; have HB := n4_; clear n0_ n1_ n2_ n3_ n4_; (try clear hb); (try clear hb2); (try clear hk); (try clear hi)))
            go_ret
            exact ⟨by first | rfl | (simp [errW_none, errW_some] <;> rfl) | (simp [*, errW_none, errW_some] <;> rfl), bw⟩
        · rw [if_neg c62] at H
          have c62b0 : (t120 == 0) = false := beq_eq_false_iff_ne.mpr c62
          have c62b1 : (t120 != 0) = true := bne_iff_ne.mpr c62
          obtain rfl := Option.some.inj H
          go_enter Try.func8, Try.ntmps8
          go_wp2_with (first | ((with_reducible refine gate_callee (f := 25) rfl ?_); refine goesL_ (some 21) rfl rfl Try.func25 (by kernel_rfl) rfl #[.int .i64 (wrap64 ((wrap64 (2 * (wrap64 (a0)))) + 1))] rfl (by (try simp only [List.map_toArray, List.map_cons, List.map_nil]); first | done | rfl | (simp only [List.length_drop, List.length_take]; rfl)) ?_; (with_reducible refine (quadformref01_Small.calls k (wrap64 ((wrap64 (2 * (wrap64 (a0)))) + 1)) t101 t102 _ A3.out).mono ?_); rintro e w100 ⟨v103, rfl, ho0, hb⟩; refine ⟨_, rfl, ?_⟩; have n0_ := Aside0.mk (Kd.R_lower ho0 (below_size bw)); have n1_ := Aside0.mk (below_step bw hb); clear HB; have HO104 := n0_; have HB := n1_; clear n0_ n1_; (try clear hb); (try clear hb2); (try clear hk); (try clear hi); (try clear ho0)) | ((with_reducible refine gate_callee (f := 25) rfl ?_); refine goesL_ (some 23) rfl rfl Try.func25 (by kernel_rfl) rfl #[.int .i64 (wrap64 ((wrap64 (2 * (wrap64 (a1)))) + 1))] rfl (by (try simp only [List.map_toArray, List.map_cons, List.map_nil]); first | done | rfl | (simp only [List.length_drop, List.length_take]; rfl)) ?_; (with_reducible refine (quadformref01_Small.calls k (wrap64 ((wrap64 (2 * (wrap64 (a1)))) + 1)) t105 t106 _ A4.out).mono ?_); rintro e w101 ⟨v107, rfl, ho0, hb⟩; refine ⟨_, rfl, ?_⟩; have n0_ := Aside0.mk (Kd.R_below (rr HO104.out) hb); have n1_ := Aside0.mk (Kd.R_lower ho0 (below_size bw)); have n2_ := Aside0.mk (below_step bw hb); clear HO104; clear HB; have HO104 := n0_; have HO108 := n1_; have HB := n2_; clear n0_ n1_ n2_; (try clear hb); (try clear hb2); (try clear hk); (try clear hi); (try clear ho0); obtain ⟨Ao102, co102, eo102⟩ := Kd.R_slice HO104.out; subst eo102; obtain ⟨Ao103, co103, eo103⟩ := Kd.R_slice HO108.out; subst eo103) | ((with_reducible refine gate_callee (f := 24) rfl ?_); refine goesL_ (some 24) rfl rfl Try.func24 (by kernel_rfl) rfl #[.agg #[.bool t101, .slice Ao102 t102.length co102], .agg #[.bool t105, .slice Ao103 t106.length co103]] rfl (by (try simp only [List.map_toArray, List.map_cons, List.map_nil]); first | done | rfl | (simp only [List.length_drop, List.length_take]; rfl)) ?_; (with_reducible refine (quadformref01_Gcd.calls k t101 _ _ t102 t105 _ _ t106 t109 t110 _ ?side1 ?side2 ?side3 ?side4 A5.out).mono ?_); (case side1 => repeat (first | exact (Kd.R_reads' HO104.out).2.2 | (with_reducible refine Kd.C_alloc ?_ _) | (with_reducible refine Kd.C_drewN ?_ _) | (with_reducible refine Kd.C_drew ?_))); (case side2 => exact (Kd.R_reads' HO104.out).2.1); (case side3 => repeat (first | exact (Kd.R_reads' HO108.out).2.2 | (with_reducible refine Kd.C_alloc ?_ _) | (with_reducible refine Kd.C_drewN ?_ _) | (with_reducible refine Kd.C_drew ?_))); (case side4 => exact (Kd.R_reads' HO108.out).2.1); rintro e w104 ⟨v111, rfl, ho0, hb⟩; refine ⟨_, rfl, ?_⟩; have n0_ := Aside0.mk (Kd.R_below (rr HO104.out) hb); have n1_ := Aside0.mk (Kd.R_below (rr HO108.out) hb); have n2_ := Aside0.mk (Kd.R_lower ho0 (below_size bw)); have n3_ := Aside0.mk (below_step bw hb); clear HO104; clear HO108; clear HB; have HO104 := n0_; have HO108 := n1_; have HO112 := n2_; have HB := n3_; clear n0_ n1_ n2_ n3_; (try clear hb); (try clear hb2); (try clear hk); (try clear hi); (try clear ho0)) | ((with_reducible refine gate_callee (f := 25) rfl ?_); refine goesL_ (some 25) rfl rfl Try.func25 (by kernel_rfl) rfl #[.int .i64 1] rfl (by (try simp only [List.map_toArray, List.map_cons, List.map_nil]); first | done | rfl | (simp only [List.length_drop, List.length_take]; rfl)) ?_; (with_reducible refine (quadformref01_Small.calls k 1 t113 t114 _ A6.out).mono ?_); rintro e w105 ⟨v115, rfl, ho0, hb⟩; refine ⟨_, rfl, ?_⟩; have n0_ := Aside0.mk (Kd.R_below (rr HO104.out) hb); have n1_ := Aside0.mk (Kd.R_below (rr HO108.out) hb); have n2_ := Aside0.mk (Kd.R_below (rr HO112.out) hb); have n3_ := Aside0.mk (Kd.R_lower ho0 (below_size bw)); have n4_ := Aside0.mk (below_step bw hb); clear HO104; clear HO108; clear HO112; clear HB; have HO104 := n0_; have HO108 := n1_; have HO112 := n2_; have HO116 := n3_; have HB := n4_; clear n0_ n1_ n2_ n3_ n4_; (try clear hb); (try clear hb2); (try clear hk); (try clear hi); (try clear ho0); obtain ⟨Ao106, co106, eo106⟩ := Kd.R_slice HO112.out; subst eo106; obtain ⟨Ao107, co107, eo107⟩ := Kd.R_slice HO116.out; subst eo107) | ((with_reducible refine gate_callee (f := 23) rfl ?_); refine goesL_ (some 26) rfl rfl Try.func23 (by kernel_rfl) rfl #[.agg #[.bool t109, .slice Ao106 t110.length co106], .agg #[.bool t113, .slice Ao107 t114.length co107]] rfl (by (try simp only [List.map_toArray, List.map_cons, List.map_nil]); first | done | rfl | (simp only [List.length_drop, List.length_take]; rfl)) ?_; (with_reducible refine (quadformref01_Same.calls k t109 _ _ t110 t113 _ _ t114 true _ ?side1 ?side2 ?side3 ?side4 A7.out).mono ?_); (case side1 => repeat (first | exact (Kd.R_reads' HO112.out).2.2 | (with_reducible refine Kd.C_alloc ?_ _) | (with_reducible refine Kd.C_drewN ?_ _) | (with_reducible refine Kd.C_drew ?_))); (case side2 => exact (Kd.R_reads' HO112.out).2.1); (case side3 => repeat (first | exact (Kd.R_reads' HO116.out).2.2 | (with_reducible refine Kd.C_alloc ?_ _) | (with_reducible refine Kd.C_drewN ?_ _) | (with_reducible refine Kd.C_drew ?_))); (case side4 => exact (Kd.R_reads' HO116.out).2.1); rintro e w108 ⟨rfl, hb⟩; refine ⟨_, rfl, ?_⟩; have n0_ := Aside0.mk (Kd.R_below (rr HO104.out) hb); have n1_ := Aside0.mk (Kd.R_below (rr HO108.out) hb); have n2_ := Aside0.mk (Kd.R_below (rr HO112.out) hb); have n3_ := Aside0.mk (Kd.R_below (rr HO116.out) hb); have n4_ := Aside0.mk (below_step bw hb); clear HO104; clear HO108; clear HO112; clear HO116; clear HB; have HO104 := n0_; have HO108 := n1_; have HO112 := n2_; have HO116 := n3_; have HB := n4_; clear n0_ n1_ n2_ n3_ n4_; (try clear hb); (try clear hb2); (try clear hk); (try clear hi)) | ((with_reducible refine gate_callee (f := 21) rfl ?_); refine goesL_ (some 32) rfl rfl Try.func21 (by kernel_rfl) rfl #[.int .i64 (wrap64 ((wrap64 (2 * (wrap64 (a0)))) + 1)), .int .i64 (wrap64 ((wrap64 (2 * (wrap64 (a1)))) + 1))] rfl (by (try simp only [List.map_toArray, List.map_cons, List.map_nil]); first | done | rfl | (simp only [List.length_drop, List.length_take]; rfl)) ?_; (with_reducible refine (prime_Kronecker.calls k (wrap64 ((wrap64 (2 * (wrap64 (a0)))) + 1)) (wrap64 ((wrap64 (2 * (wrap64 (a1)))) + 1)) t119 t120 _ A9.out).mono ?_); rintro e w109 ⟨rfl, hb⟩; refine ⟨_, rfl, ?_⟩; have n0_ := Aside0.mk (Kd.R_below (rr HO104.out) hb); have n1_ := Aside0.mk (Kd.R_below (rr HO108.out) hb); have n2_ := Aside0.mk (Kd.R_below (rr HO112.out) hb); have n3_ := Aside0.mk (Kd.R_below (rr HO116.out) hb); have n4_ := Aside0.mk (below_step bw hb); clear HO104; clear HO108; clear HO112; clear HO116; clear HB; have HO104 := n0_; have HO108 := n1_; have HO112 := n2_; have HO116 := n3_; have HB := n4_; clear n0_ n1_ n2_ n3_ n4_; (try clear hb); (try clear hb2); (try clear hk); (try clear hi)) | ((with_reducible refine gate_callee (f := 21) rfl ?_); refine goesL_ (some 38) rfl rfl Try.func21 (by kernel_rfl) rfl #[.int .i64 (wrap64 ((wrap64 (2 * (wrap64 (a1)))) + 1)), .int .i64 (wrap64 ((wrap64 (2 * (wrap64 (a0)))) + 1))] rfl (by (try simp only [List.map_toArray, List.map_cons, List.map_nil]); first | done | rfl | (simp only [List.length_drop, List.length_take]; rfl)) ?_; (with_reducible refine (prime_Kronecker.calls k (wrap64 ((wrap64 (2 * (wrap64 (a1)))) + 1)) (wrap64 ((wrap64 (2 * (wrap64 (a0)))) + 1)) t121 t122 _ A10.out).mono ?_); rintro e w110 ⟨rfl, hb⟩; refine ⟨_, rfl, ?_⟩; have n0_ := Aside0.mk (Kd.R_below (rr HO104.out) hb); have n1_ := Aside0.mk (Kd.R_below (rr HO108.out) hb); have n2_ := Aside0.mk (Kd.R_below (rr HO112.out) hb); have n3_ := Aside0.mk (Kd.R_below (rr HO116.out) hb); have n4_ := Aside0.mk (below_step bw hb); clear HO104; clear HO108; clear HO112; clear HO116; clear HB; have HO104 := n0_; have HO108 := n1_; have HO112 := n2_; have HO116 := n3_; have HB := n4_; clear n0_ n1_ n2_ n3_ n4_; (try clear hb); (try clear hb2); (try clear hk); (try clear hi)))
          go_ret
          exact ⟨by first | rfl | (simp [errW_none, errW_some] <;> rfl) | (simp [*, errW_none, errW_some] <;> rfl), bw⟩
    · rw [if_neg c11] at H
      have c11b0 : ((Int.tmod (wrap64 ((wrap64 (2 * (wrap64 (a0)))) + 1)) 4) == 3) = false := beq_eq_false_iff_ne.mpr c11
      have c11b1 : ((Int.tmod (wrap64 ((wrap64 (2 * (wrap64 (a0)))) + 1)) 4) != 3) = true := bne_iff_ne.mpr c11
      by_cases c111 : t120 = 0
      · rw [if_pos c111] at H
        have c111b0 : (t120 == 0) = true := beq_iff_eq.mpr c111
        have c111b1 : (t120 != 0) = false := bne_eq_false_iff_eq.mpr c111
        clear c111
        by_cases c112 : t122 = 0
        · rw [if_pos c112] at H
          have c112b0 : (t122 == 0) = true := beq_iff_eq.mpr c112
          have c112b1 : (t122 != 0) = false := bne_eq_false_iff_eq.mpr c112
          clear c112
          by_cases c113 : (wrap64 (t119 * t121)) = 1
          · rw [if_pos c113] at H
            have c113b0 : ((wrap64 (t119 * t121)) == 1) = true := beq_iff_eq.mpr c113
            have c113b1 : ((wrap64 (t119 * t121)) != 1) = false := bne_eq_false_iff_eq.mpr c113
            clear c113
            replace H := Option.bind_eq_some_iff.mp H
            obtain ⟨t125, A1140, H⟩ := H
            replace H : (some t125) = some r := H
            have A114 := Aside0.mk A1140
            clear A1140
            obtain rfl := Option.some.inj H
            go_enter Try.func8, Try.ntmps8
            go_wp2_with (first | ((with_reducible refine gate_callee (f := 25) rfl ?_); refine goesL_ (some 21) rfl rfl Try.func25 (by kernel_rfl) rfl #[.int .i64 (wrap64 ((wrap64 (2 * (wrap64 (a0)))) + 1))] rfl (by (try simp only [List.map_toArray, List.map_cons, List.map_nil]); first | done | rfl | (simp only [List.length_drop, List.length_take]; rfl)) ?_; (with_reducible refine (quadformref01_Small.calls k (wrap64 ((wrap64 (2 * (wrap64 (a0)))) + 1)) t101 t102 _ A3.out).mono ?_); rintro e w115 ⟨v103, rfl, ho0, hb⟩; refine ⟨_, rfl, ?_⟩; have n0_ := Aside0.mk (Kd.R_lower ho0 (below_size bw)); have n1_ := Aside0.mk (below_step bw hb); clear HB; have HO104 := n0_; have HB := n1_; clear n0_ n1_; (try clear hb); (try clear hb2); (try clear hk); (try clear hi); (try clear ho0)) | ((with_reducible refine gate_callee (f := 25) rfl ?_); refine goesL_ (some 23) rfl rfl Try.func25 (by kernel_rfl) rfl #[.int .i64 (wrap64 ((wrap64 (2 * (wrap64 (a1)))) + 1))] rfl (by (try simp only [List.map_toArray, List.map_cons, List.map_nil]); first | done | rfl | (simp only [List.length_drop, List.length_take]; rfl)) ?_; (with_reducible refine (quadformref01_Small.calls k (wrap64 ((wrap64 (2 * (wrap64 (a1)))) + 1)) t105 t106 _ A4.out).mono ?_); rintro e w116 ⟨v107, rfl, ho0, hb⟩; refine ⟨_, rfl, ?_⟩; have n0_ := Aside0.mk (Kd.R_below (rr HO104.out) hb); have n1_ := Aside0.mk (Kd.R_lower ho0 (below_size bw)); have n2_ := Aside0.mk (below_step bw hb); clear HO104; clear HB; have HO104 := n0_; have HO108 := n1_; have HB := n2_; clear n0_ n1_ n2_; (try clear hb); (try clear hb2); (try clear hk); (try clear hi); (try clear ho0); obtain ⟨Ao117, co117, eo117⟩ := Kd.R_slice HO104.out; subst eo117; obtain ⟨Ao118, co118, eo118⟩ := Kd.R_slice HO108.out; subst eo118) | ((with_reducible refine gate_callee (f := 24) rfl ?_); refine goesL_ (some 24) rfl rfl Try.func24 (by kernel_rfl) rfl #[.agg #[.bool t101, .slice Ao117 t102.length co117], .agg #[.bool t105, .slice Ao118 t106.length co118]] rfl (by (try simp only [List.map_toArray, List.map_cons, List.map_nil]); first | done | rfl | (simp only [List.length_drop, List.length_take]; rfl)) ?_; (with_reducible refine (quadformref01_Gcd.calls k t101 _ _ t102 t105 _ _ t106 t109 t110 _ ?side1 ?side2 ?side3 ?side4 A5.out).mono ?_); (case side1 => repeat (first | exact (Kd.R_reads' HO104.out).2.2 | (with_reducible refine Kd.C_alloc ?_ _) | (with_reducible refine Kd.C_drewN ?_ _) | (with_reducible refine Kd.C_drew ?_))); (case side2 => exact (Kd.R_reads' HO104.out).2.1); (case side3 => repeat (first | exact (Kd.R_reads' HO108.out).2.2 | (with_reducible refine Kd.C_alloc ?_ _) | (with_reducible refine Kd.C_drewN ?_ _) | (with_reducible refine Kd.C_drew ?_))); (case side4 => exact (Kd.R_reads' HO108.out).2.1); rintro e w119 ⟨v111, rfl, ho0, hb⟩; refine ⟨_, rfl, ?_⟩; have n0_ := Aside0.mk (Kd.R_below (rr HO104.out) hb); have n1_ := Aside0.mk (Kd.R_below (rr HO108.out) hb); have n2_ := Aside0.mk (Kd.R_lower ho0 (below_size bw)); have n3_ := Aside0.mk (below_step bw hb); clear HO104; clear HO108; clear HB; have HO104 := n0_; have HO108 := n1_; have HO112 := n2_; have HB := n3_; clear n0_ n1_ n2_ n3_; (try clear hb); (try clear hb2); (try clear hk); (try clear hi); (try clear ho0)) | ((with_reducible refine gate_callee (f := 25) rfl ?_); refine goesL_ (some 25) rfl rfl Try.func25 (by kernel_rfl) rfl #[.int .i64 1] rfl (by (try simp only [List.map_toArray, List.map_cons, List.map_nil]); first | done | rfl | (simp only [List.length_drop, List.length_take]; rfl)) ?_; (with_reducible refine (quadformref01_Small.calls k 1 t113 t114 _ A6.out).mono ?_); rintro e w120 ⟨v115, rfl, ho0, hb⟩; refine ⟨_, rfl, ?_⟩; have n0_ := Aside0.mk (Kd.R_below (rr HO104.out) hb); have n1_ := Aside0.mk (Kd.R_below (rr HO108.out) hb); have n2_ := Aside0.mk (Kd.R_below (rr HO112.out) hb); have n3_ := Aside0.mk (Kd.R_lower ho0 (below_size bw)); have n4_ := Aside0.mk (below_step bw hb); clear HO104; clear HO108; clear HO112; clear HB; have HO104 := n0_; have HO108 := n1_; have HO112 := n2_; have HO116 := n3_; have HB := n4_; clear n0_ n1_ n2_ n3_ n4_; (try clear hb); (try clear hb2); (try clear hk); (try clear hi); (try clear ho0); obtain ⟨Ao121, co121, eo121⟩ := Kd.R_slice HO112.out; subst eo121; obtain ⟨Ao122, co122, eo122⟩ := Kd.R_slice HO116.out; subst eo122) | ((with_reducible refine gate_callee (f := 23) rfl ?_); refine goesL_ (some 26) rfl rfl Try.func23 (by kernel_rfl) rfl #[.agg #[.bool t109, .slice Ao121 t110.length co121], .agg #[.bool t113, .slice Ao122 t114.length co122]] rfl (by (try simp only [List.map_toArray, List.map_cons, List.map_nil]); first | done | rfl | (simp only [List.length_drop, List.length_take]; rfl)) ?_; (with_reducible refine (quadformref01_Same.calls k t109 _ _ t110 t113 _ _ t114 true _ ?side1 ?side2 ?side3 ?side4 A7.out).mono ?_); (case side1 => repeat (first | exact (Kd.R_reads' HO112.out).2.2 | (with_reducible refine Kd.C_alloc ?_ _) | (with_reducible refine Kd.C_drewN ?_ _) | (with_reducible refine Kd.C_drew ?_))); (case side2 => exact (Kd.R_reads' HO112.out).2.1); (case side3 => repeat (first | exact (Kd.R_reads' HO116.out).2.2 | (with_reducible refine Kd.C_alloc ?_ _) | (with_reducible refine Kd.C_drewN ?_ _) | (with_reducible refine Kd.C_drew ?_))); (case side4 => exact (Kd.R_reads' HO116.out).2.1); rintro e w123 ⟨rfl, hb⟩; refine ⟨_, rfl, ?_⟩; have n0_ := Aside0.mk (Kd.R_below (rr HO104.out) hb); have n1_ := Aside0.mk (Kd.R_below (rr HO108.out) hb); have n2_ := Aside0.mk (Kd.R_below (rr HO112.out) hb); have n3_ := Aside0.mk (Kd.R_below (rr HO116.out) hb); have n4_ := Aside0.mk (below_step bw hb); clear HO104; clear HO108; clear HO112; clear HO116; clear HB; have HO104 := n0_; have HO108 := n1_; have HO112 := n2_; have HO116 := n3_; have HB := n4_; clear n0_ n1_ n2_ n3_ n4_; (try clear hb); (try clear hb2); (try clear hk); (try clear hi)) | ((with_reducible refine gate_callee (f := 21) rfl ?_); refine goesL_ (some 32) rfl rfl Try.func21 (by kernel_rfl) rfl #[.int .i64 (wrap64 ((wrap64 (2 * (wrap64 (a0)))) + 1)), .int .i64 (wrap64 ((wrap64 (2 * (wrap64 (a1)))) + 1))] rfl (by (try simp only [List.map_toArray, List.map_cons, List.map_nil]); first | done | rfl | (simp only [List.length_drop, List.length_take]; rfl)) ?_; (with_reducible refine (prime_Kronecker.calls k (wrap64 ((wrap64 (2 * (wrap64 (a0)))) + 1)) (wrap64 ((wrap64 (2 * (wrap64 (a1)))) + 1)) t119 t120 _ A9.out).mono ?_); rintro e w124 ⟨rfl, hb⟩; refine ⟨_, rfl, ?_⟩; have n0_ := Aside0.mk (Kd.R_below (rr HO104.out) hb); have n1_ := Aside0.mk (Kd.R_below (rr HO108.out) hb); have n2_ := Aside0.mk (Kd.R_below (rr HO112.out) hb); have n3_ := Aside0.mk (Kd.R_below (rr HO116.out) hb); have n4_ := Aside0.mk (below_step bw hb); clear HO104; clear HO108; clear HO112; clear HO116; clear HB; have HO104 := n0_; have HO108 := n1_; have HO112 := n2_; have HO116 := n3_; have HB := n4_; clear n0_ n1_ n2_ n3_ n4_; (try clear hb); (try clear hb2); (try clear hk); (try clear hi)) | ((with_reducible refine gate_callee (f := 21) rfl ?_); refine goesL_ (some 38) rfl rfl Try.func21 (by kernel_rfl) rfl #[.int .i64 (wrap64 ((wrap64 (2 * (wrap64 (a1)))) + 1)), .int .i64 (wrap64 ((wrap64 (2 * (wrap64 (a0)))) + 1))] rfl (by (try simp only [List.map_toArray, List.map_cons, List.map_nil]); first | done | rfl | (simp only [List.length_drop, List.length_take]; rfl)) ?_; (with_reducible refine (prime_Kronecker.calls k (wrap64 ((wrap64 (2 * (wrap64 (a1)))) + 1)) (wrap64 ((wrap64 (2 * (wrap64 (a0)))) + 1)) t121 t122 _ A10.out).mono ?_); rintro e w125 ⟨rfl, hb⟩; refine ⟨_, rfl, ?_⟩; have n0_ := Aside0.mk (Kd.R_below (rr HO104.out) hb); have n1_ := Aside0.mk (Kd.R_below (rr HO108.out) hb); have n2_ := Aside0.mk (Kd.R_below (rr HO112.out) hb); have n3_ := Aside0.mk (Kd.R_below (rr HO116.out) hb); have n4_ := Aside0.mk (below_step bw hb); clear HO104; clear HO108; clear HO112; clear HO116; clear HB; have HO104 := n0_; have HO108 := n1_; have HO112 := n2_; have HO116 := n3_; have HB := n4_; clear n0_ n1_ n2_ n3_ n4_; (try clear hb); (try clear hb2); (try clear hk); (try clear hi)) | (go_at_call 17; (with_reducible refine (quadformlaw22_awake.calls k  t125 _ A114.out).mono ?_); rintro e w126 ⟨rfl, hb⟩; have n0_ := Aside0.mk (Kd.R_below (rr HO104.out) hb); have n1_ := Aside0.mk (Kd.R_below (rr HO108.out) hb); have n2_ := Aside0.mk (Kd.R_below (rr HO112.out) hb); have n3_ := Aside0.mk (Kd.R_below (rr HO116.out) hb); have n4_ := Aside0.mk (below_step bw hb); clear HO104; clear HO108; clear HO112; clear HO116; clear HB; have HO104 := n0_; have HO108 := n1_; have HO112 := n2_; have HO116 := n3_; have HB := n4_; clear n0_ n1_ n2_ n3_ n4_; (try clear hb); (try clear hb2); (try clear hk); (try clear hi)))
            go_ret
            exact ⟨by first | rfl | (simp [errW_none, errW_some] <;> rfl) | (simp [*, errW_none, errW_some] <;> rfl), bw⟩
          · rw [if_neg c113] at H
            have c113b0 : ((wrap64 (t119 * t121)) == 1) = false := beq_eq_false_iff_ne.mpr c113
            have c113b1 : ((wrap64 (t119 * t121)) != 1) = true := bne_iff_ne.mpr c113
            obtain rfl := Option.some.inj H
            go_enter Try.func8, Try.ntmps8
            go_wp2_with (first | ((with_reducible refine gate_callee (f := 25) rfl ?_); refine goesL_ (some 21) rfl rfl Try.func25 (by kernel_rfl) rfl #[.int .i64 (wrap64 ((wrap64 (2 * (wrap64 (a0)))) + 1))] rfl (by (try simp only [List.map_toArray, List.map_cons, List.map_nil]); first | done | rfl | (simp only [List.length_drop, List.length_take]; rfl)) ?_; (with_reducible refine (quadformref01_Small.calls k (wrap64 ((wrap64 (2 * (wrap64 (a0)))) + 1)) t101 t102 _ A3.out).mono ?_); rintro e w127 ⟨v103, rfl, ho0, hb⟩; refine ⟨_, rfl, ?_⟩; have n0_ := Aside0.mk (Kd.R_lower ho0 (below_size bw)); have n1_ := Aside0.mk (below_step bw hb); clear HB; have HO104 := n0_; have HB := n1_; clear n0_ n1_; (try clear hb); (try clear hb2); (try clear hk); (try clear hi); (try clear ho0)) | ((with_reducible refine gate_callee (f := 25) rfl ?_); refine goesL_ (some 23) rfl rfl Try.func25 (by kernel_rfl) rfl #[.int .i64 (wrap64 ((wrap64 (2 * (wrap64 (a1)))) + 1))] rfl (by (try simp only [List.map_toArray, List.map_cons, List.map_nil]); first | done | rfl | (simp only [List.length_drop, List.length_take]; rfl)) ?_; (with_reducible refine (quadformref01_Small.calls k (wrap64 ((wrap64 (2 * (wrap64 (a1)))) + 1)) t105 t106 _ A4.out).mono ?_); rintro e w128 ⟨v107, rfl, ho0, hb⟩; refine ⟨_, rfl, ?_⟩; have n0_ := Aside0.mk (Kd.R_below (rr HO104.out) hb); have n1_ := Aside0.mk (Kd.R_lower ho0 (below_size bw)); have n2_ := Aside0.mk (below_step bw hb); clear HO104; clear HB; have HO104 := n0_; have HO108 := n1_; have HB := n2_; clear n0_ n1_ n2_; (try clear hb); (try clear hb2); (try clear hk); (try clear hi); (try clear ho0); obtain ⟨Ao129, co129, eo129⟩ := Kd.R_slice HO104.out; subst eo129; obtain ⟨Ao130, co130, eo130⟩ := Kd.R_slice HO108.out; subst eo130) | ((with_reducible refine gate_callee (f := 24) rfl ?_); refine goesL_ (some 24) rfl rfl Try.func24 (by kernel_rfl) rfl #[.agg #[.bool t101, .slice Ao129 t102.length co129], .agg #[.bool t105, .slice Ao130 t106.length co130]] rfl (by (try simp only [List.map_toArray, List.map_cons, List.map_nil]); first | done | rfl | (simp only [List.length_drop, List.length_take]; rfl)) ?_; (with_reducible refine (quadformref01_Gcd.calls k t101 _ _ t102 t105 _ _ t106 t109 t110 _ ?side1 ?side2 ?side3 ?side4 A5.out).mono ?_); (case side1 => repeat (first | exact (Kd.R_reads' HO104.out).2.2 | (with_reducible refine Kd.C_alloc ?_ _) | (with_reducible refine Kd.C_drewN ?_ _) | (with_reducible refine Kd.C_drew ?_))); (case side2 => exact (Kd.R_reads' HO104.out).2.1); (case side3 => repeat (first | exact (Kd.R_reads' HO108.out).2.2 | (with_reducible refine Kd.C_alloc ?_ _) | (with_reducible refine Kd.C_drewN ?_ _) | (with_reducible refine Kd.C_drew ?_))); (case side4 => exact (Kd.R_reads' HO108.out).2.1); rintro e w131 ⟨v111, rfl, ho0, hb⟩; refine ⟨_, rfl, ?_⟩; have n0_ := Aside0.mk (Kd.R_below (rr HO104.out) hb); have n1_ := Aside0.mk (Kd.R_below (rr HO108.out) hb); have n2_ := Aside0.mk (Kd.R_lower ho0 (below_size bw)); have n3_ := Aside0.mk (below_step bw hb); clear HO104; clear HO108; clear HB; have HO104 := n0_; have HO108 := n1_; have HO112 := n2_; have HB := n3_; clear n0_ n1_ n2_ n3_; (try clear hb); (try clear hb2); (try clear hk); (try clear hi); (try clear ho0)) | ((with_reducible refine gate_callee (f := 25) rfl ?_); refine goesL_ (some 25) rfl rfl Try.func25 (by kernel_rfl) rfl #[.int .i64 1] rfl (by (try simp only [List.map_toArray, List.map_cons, List.map_nil]); first | done | rfl | (simp only [List.length_drop, List.length_take]; rfl)) ?_; (with_reducible refine (quadformref01_Small.calls k 1 t113 t114 _ A6.out).mono ?_); rintro e w132 ⟨v115, rfl, ho0, hb⟩; refine ⟨_, rfl, ?_⟩; have n0_ := Aside0.mk (Kd.R_below (rr HO104.out) hb); have n1_ := Aside0.mk (Kd.R_below (rr HO108.out) hb); have n2_ := Aside0.mk (Kd.R_below (rr HO112.out) hb); have n3_ := Aside0.mk (Kd.R_lower ho0 (below_size bw)); have n4_ := Aside0.mk (below_step bw hb); clear HO104; clear HO108; clear HO112; clear HB; have HO104 := n0_; have HO108 := n1_; have HO112 := n2_; have HO116 := n3_; have HB := n4_; clear n0_ n1_ n2_ n3_ n4_; (try clear hb); (try clear hb2); (try clear hk); (try clear hi); (try clear ho0); obtain ⟨Ao133, co133, eo133⟩ := Kd.R_slice HO112.out; subst eo133; obtain ⟨Ao134, co134, eo134⟩ := Kd.R_slice HO116.out; subst eo134) | ((with_reducible refine gate_callee (f := 23) rfl ?_); refine goesL_ (some 26) rfl rfl Try.func23 (by kernel_rfl) rfl #[.agg #[.bool t109, .slice Ao133 t110.length co133], .agg #[.bool t113, .slice Ao134 t114.length co134]] rfl (by (try simp only [List.map_toArray, List.map_cons, List.map_nil]); first | done | rfl | (simp only [List.length_drop, List.length_take]; rfl)) ?_; (with_reducible refine (quadformref01_Same.calls k t109 _ _ t110 t113 _ _ t114 true _ ?side1 ?side2 ?side3 ?side4 A7.out).mono ?_); (case side1 => repeat (first | exact (Kd.R_reads' HO112.out).2.2 | (with_reducible refine Kd.C_alloc ?_ _) | (with_reducible refine Kd.C_drewN ?_ _) | (with_reducible refine Kd.C_drew ?_))); (case side2 => exact (Kd.R_reads' HO112.out).2.1); (case side3 => repeat (first | exact (Kd.R_reads' HO116.out).2.2 | (with_reducible refine Kd.C_alloc ?_ _) | (with_reducible refine Kd.C_drewN ?_ _) | (with_reducible refine Kd.C_drew ?_))); (case side4 => exact (Kd.R_reads' HO116.out).2.1); rintro e w135 ⟨rfl, hb⟩; refine ⟨_, rfl, ?_⟩; have n0_ := Aside0.mk (Kd.R_below (rr HO104.out) hb); have n1_ := Aside0.mk (Kd.R_below (rr HO108.out) hb); have n2_ := Aside0.mk (Kd.R_below (rr HO112.out) hb); have n3_ := Aside0.mk (Kd.R_below (rr HO116.out) hb); have n4_ := Aside0.mk (below_step bw hb); clear HO104; clear HO108; clear HO112; clear HO116; clear HB; have HO104 := n0_; have HO108 := n1_; have HO112 := n2_; have HO116 := n3_; have HB := n4_; clear n0_ n1_ n2_ n3_ n4_; (try clear hb); (try clear hb2); (try clear hk); (try clear hi)) | ((with_reducible refine gate_callee (f := 21) rfl ?_); refine goesL_ (some 32) rfl rfl Try.func21 (by kernel_rfl) rfl #[.int .i64 (wrap64 ((wrap64 (2 * (wrap64 (a0)))) + 1)), .int .i64 (wrap64 ((wrap64 (2 * (wrap64 (a1)))) + 1))] rfl (by (try simp only [List.map_toArray, List.map_cons, List.map_nil]); first | done | rfl | (simp only [List.length_drop, List.length_take]; rfl)) ?_; (with_reducible refine (prime_Kronecker.calls k (wrap64 ((wrap64 (2 * (wrap64 (a0)))) + 1)) (wrap64 ((wrap64 (2 * (wrap64 (a1)))) + 1)) t119 t120 _ A9.out).mono ?_); rintro e w136 ⟨rfl, hb⟩; refine ⟨_, rfl, ?_⟩; have n0_ := Aside0.mk (Kd.R_below (rr HO104.out) hb); have n1_ := Aside0.mk (Kd.R_below (rr HO108.out) hb); have n2_ := Aside0.mk (Kd.R_below (rr HO112.out) hb); have n3_ := Aside0.mk (Kd.R_below (rr HO116.out) hb); have n4_ := Aside0.mk (below_step bw hb); clear HO104; clear HO108; clear HO112; clear HO116; clear HB; have HO104 := n0_; have HO108 := n1_; have HO112 := n2_; have HO116 := n3_; have HB := n4_; clear n0_ n1_ n2_ n3_ n4_; (try clear hb); (try clear hb2); (try clear hk); (try clear hi)) | ((with_reducible refine gate_callee (f := 21) rfl ?_); refine goesL_ (some 38) rfl rfl Try.func21 (by kernel_rfl) rfl #[.int .i64 (wrap64 ((wrap64 (2 * (wrap64 (a1)))) + 1)), .int .i64 (wrap64 ((wrap64 (2 * (wrap64 (a0)))) + 1))] rfl (by (try simp only [List.map_toArray, List.map_cons, List.map_nil]); first | done | rfl | (simp only [List.length_drop, List.length_take]; rfl)) ?_; (with_reducible refine (prime_Kronecker.calls k (wrap64 ((wrap64 (2 * (wrap64 (a1)))) + 1)) (wrap64 ((wrap64 (2 * (wrap64 (a0)))) + 1)) t121 t122 _ A10.out).mono ?_); rintro e w137 ⟨rfl, hb⟩; refine ⟨_, rfl, ?_⟩; have n0_ := Aside0.mk (Kd.R_below (rr HO104.out) hb); have n1_ := Aside0.mk (Kd.R_below (rr HO108.out) hb); have n2_ := Aside0.mk (Kd.R_below (rr HO112.out) hb); have n3_ := Aside0.mk (Kd.R_below (rr HO116.out) hb); have n4_ := Aside0.mk (below_step bw hb); clear HO104; clear HO108; clear HO112; clear HO116; clear HB; have HO104 := n0_; have HO108 := n1_; have HO112 := n2_; have HO116 := n3_; have HB := n4_; clear n0_ n1_ n2_ n3_ n4_; (try clear hb); (try clear hb2); (try clear hk); (try clear hi)))
            go_ret
            exact ⟨by first | rfl | (simp [errW_none, errW_some] <;> rfl) | (simp [*, errW_none, errW_some] <;> rfl), bw⟩
        · rw [if_neg c112] at H
          have c112b0 : (t122 == 0) = false := beq_eq_false_iff_ne.mpr c112
          have c112b1 : (t122 != 0) = true := bne_iff_ne.mpr c112
          obtain rfl := Option.some.inj H
          go_enter Try.func8, Try.ntmps8
          go_wp2_with (first | ((with_reducible refine gate_callee (f := 25) rfl ?_); refine goesL_ (some 21) rfl rfl Try.func25 (by kernel_rfl) rfl #[.int .i64 (wrap64 ((wrap64 (2 * (wrap64 (a0)))) + 1))] rfl (by (try simp only [List.map_toArray, List.map_cons, List.map_nil]); first | done | rfl | (simp only [List.length_drop, List.length_take]; rfl)) ?_; (with_reducible refine (quadformref01_Small.calls k (wrap64 ((wrap64 (2 * (wrap64 (a0)))) + 1)) t101 t102 _ A3.out).mono ?_); rintro e w138 ⟨v103, rfl, ho0, hb⟩; refine ⟨_, rfl, ?_⟩; have n0_ := Aside0.mk (Kd.R_lower ho0 (below_size bw)); have n1_ := Aside0.mk (below_step bw hb); clear HB; have HO104 := n0_; have HB := n1_; clear n0_ n1_; (try clear hb); (try clear hb2); (try clear hk); (try clear hi); (try clear ho0)) | ((with_reducible refine gate_callee (f := 25) rfl ?_); refine goesL_ (some 23) rfl rfl Try.func25 (by kernel_rfl) rfl #[.int .i64 (wrap64 ((wrap64 (2 * (wrap64 (a1)))) + 1))] rfl (by (try simp only [List.map_toArray, List.map_cons, List.map_nil]); first | done | rfl | (simp only [List.length_drop, List.length_take]; rfl)) ?_; (with_reducible refine (quadformref01_Small.calls k (wrap64 ((wrap64 (2 * (wrap64 (a1)))) + 1)) t105 t106 _ A4.out).mono ?_); rintro e w139 ⟨v107, rfl, ho0, hb⟩; refine ⟨_, rfl, ?_⟩; have n0_ := Aside0.mk (Kd.R_below (rr HO104.out) hb); have n1_ := Aside0.mk (Kd.R_lower ho0 (below_size bw)); have n2_ := Aside0.mk (below_step bw hb); clear HO104; clear HB; have HO104 := n0_; have HO108 := n1_; have HB := n2_; clear n0_ n1_ n2_; (try clear hb); (try clear hb2); (try clear hk); (try clear hi); (try clear ho0); obtain ⟨Ao140, co140, eo140⟩ := Kd.R_slice HO104.out; subst eo140; obtain ⟨Ao141, co141, eo141⟩ := Kd.R_slice HO108.out; subst eo141) | ((with_reducible refine gate_callee (f := 24) rfl ?_); refine goesL_ (some 24) rfl rfl Try.func24 (by kernel_rfl) rfl #[.agg #[.bool t101, .slice Ao140 t102.length co140], .agg #[.bool t105, .slice Ao141 t106.length co141]] rfl (by (try simp only [List.map_toArray, List.map_cons, List.map_nil]); first | done | rfl | (simp only [List.length_drop, List.length_take]; rfl)) ?_; (with_reducible refine (quadformref01_Gcd.calls k t101 _ _ t102 t105 _ _ t106 t109 t110 _ ?side1 ?side2 ?side3 ?side4 A5.out).mono ?_); (case side1 => repeat (first | exact (Kd.R_reads' HO104.out).2.2 | (with_reducible refine Kd.C_alloc ?_ _) | (with_reducible refine Kd.C_drewN ?_ _) | (with_reducible refine Kd.C_drew ?_))); (case side2 => exact (Kd.R_reads' HO104.out).2.1); (case side3 => repeat (first | exact (Kd.R_reads' HO108.out).2.2 | (with_reducible refine Kd.C_alloc ?_ _) | (with_reducible refine Kd.C_drewN ?_ _) | (with_reducible refine Kd.C_drew ?_))); (case side4 => exact (Kd.R_reads' HO108.out).2.1); rintro e w142 ⟨v111, rfl, ho0, hb⟩; refine ⟨_, rfl, ?_⟩; have n0_ := Aside0.mk (Kd.R_below (rr HO104.out) hb); have n1_ := Aside0.mk (Kd.R_below (rr HO108.out) hb); have n2_ := Aside0.mk (Kd.R_lower ho0 (below_size bw)); have n3_ := Aside0.mk (below_step bw hb); clear HO104; clear HO108; clear HB; have HO104 := n0_; have HO108 := n1_; have HO112 := n2_; have HB := n3_; clear n0_ n1_ n2_ n3_; (try clear hb); (try clear hb2); (try clear hk); (try clear hi); (try clear ho0)) | ((with_reducible refine gate_callee (f := 25) rfl ?_); refine goesL_ (some 25) rfl rfl Try.func25 (by kernel_rfl) rfl #[.int .i64 1] rfl (by (try simp only [List.map_toArray, List.map_cons, List.map_nil]); first | done | rfl | (simp only [List.length_drop, List.length_take]; rfl)) ?_; (with_reducible refine (quadformref01_Small.calls k 1 t113 t114 _ A6.out).mono ?_); rintro e w143 ⟨v115, rfl, ho0, hb⟩; refine ⟨_, rfl, ?_⟩; have n0_ := Aside0.mk (Kd.R_below (rr HO104.out) hb); have n1_ := Aside0.mk (Kd.R_below (rr HO108.out) hb); have n2_ := Aside0.mk (Kd.R_below (rr HO112.out) hb); have n3_ := Aside0.mk (Kd.R_lower ho0 (below_size bw)); have n4_ := Aside0.mk (below_step bw hb); clear HO104; clear HO108; clear HO112; clear HB; have HO104 := n0_; have HO108 := n1_; have HO112 := n2_; have HO116 := n3_; have HB := n4_; clear n0_ n1_ n2_ n3_ n4_; (try clear hb); (try clear hb2); (try clear hk); (try clear hi); (try clear ho0); obtain ⟨Ao144, co144, eo144⟩ := Kd.R_slice HO112.out; subst eo144; obtain ⟨Ao145, co145, eo145⟩ := Kd.R_slice HO116.out; subst eo145) | ((with_reducible refine gate_callee (f := 23) rfl ?_); refine goesL_ (some 26) rfl rfl Try.func23 (by kernel_rfl) rfl #[.agg #[.bool t109, .slice Ao144 t110.length co144], .agg #[.bool t113, .slice Ao145 t114.length co145]] rfl (by (try simp only [List.map_toArray, List.map_cons, List.map_nil]); first | done | rfl | (simp only [List.length_drop, List.length_take]; rfl)) ?_; (with_reducible refine (quadformref01_Same.calls k t109 _ _ t110 t113 _ _ t114 true _ ?side1 ?side2 ?side3 ?side4 A7.out).mono ?_); (case side1 => repeat (first | exact (Kd.R_reads' HO112.out).2.2 | (with_reducible refine Kd.C_alloc ?_ _) | (with_reducible refine Kd.C_drewN ?_ _) | (with_reducible refine Kd.C_drew ?_))); (case side2 => exact (Kd.R_reads' HO112.out).2.1); (case side3 => repeat (first | exact (Kd.R_reads' HO116.out).2.2 | (with_reducible refine Kd.C_alloc ?_ _) | (with_reducible refine Kd.C_drewN ?_ _) | (with_reducible refine Kd.C_drew ?_))); (case side4 => exact (Kd.R_reads' HO116.out).2.1); rintro e w146 ⟨rfl, hb⟩; refine ⟨_, rfl, ?_⟩; have n0_ := Aside0.mk (Kd.R_below (rr HO104.out) hb); have n1_ := Aside0.mk (Kd.R_below (rr HO108.out) hb); have n2_ := Aside0.mk (Kd.R_below (rr HO112.out) hb); have n3_ := Aside0.mk (Kd.R_below (rr HO116.out) hb); have n4_ := Aside0.mk (below_step bw hb); clear HO104; clear HO108; clear HO112; clear HO116; clear HB; have HO104 := n0_; have HO108 := n1_; have HO112 := n2_; have HO116 := n3_; have HB := n4_; clear n0_ n1_ n2_ n3_ n4_; (try clear hb); (try clear hb2); (try clear hk); (try clear hi)) | ((with_reducible refine gate_callee (f := 21) rfl ?_); refine goesL_ (some 32) rfl rfl Try.func21 (by kernel_rfl) rfl #[.int .i64 (wrap64 ((wrap64 (2 * (wrap64 (a0)))) + 1)), .int .i64 (wrap64 ((wrap64 (2 * (wrap64 (a1)))) + 1))] rfl (by (try simp only [List.map_toArray, List.map_cons, List.map_nil]); first | done | rfl | (simp only [List.length_drop, List.length_take]; rfl)) ?_; (with_reducible refine (prime_Kronecker.calls k (wrap64 ((wrap64 (2 * (wrap64 (a0)))) + 1)) (wrap64 ((wrap64 (2 * (wrap64 (a1)))) + 1)) t119 t120 _ A9.out).mono ?_); rintro e w147 ⟨rfl, hb⟩; refine ⟨_, rfl, ?_⟩; have n0_ := Aside0.mk (Kd.R_below (rr HO104.out) hb); have n1_ := Aside0.mk (Kd.R_below (rr HO108.out) hb); have n2_ := Aside0.mk (Kd.R_below (rr HO112.out) hb); have n3_ := Aside0.mk (Kd.R_below (rr HO116.out) hb); have n4_ := Aside0.mk (below_step bw hb); clear HO104; clear HO108; clear HO112; clear HO116; clear HB; have HO104 := n0_; have HO108 := n1_; have HO112 := n2_; have HO116 := n3_; have HB := n4_; clear n0_ n1_ n2_ n3_ n4_; (try clear hb); (try clear hb2); (try clear hk); (try clear hi)) | ((with_reducible refine gate_callee (f := 21) rfl ?_); refine goesL_ (some 38) rfl rfl Try.func21 (by kernel_rfl) rfl #[.int .i64 (wrap64 ((wrap64 (2 * (wrap64 (a1)))) + 1)), .int .i64 (wrap64 ((wrap64 (2 * (wrap64 (a0)))) + 1))] rfl (by (try simp only [List.map_toArray, List.map_cons, List.map_nil]); first | done | rfl | (simp only [List.length_drop, List.length_take]; rfl)) ?_; (with_reducible refine (prime_Kronecker.calls k (wrap64 ((wrap64 (2 * (wrap64 (a1)))) + 1)) (wrap64 ((wrap64 (2 * (wrap64 (a0)))) + 1)) t121 t122 _ A10.out).mono ?_); rintro e w148 ⟨rfl, hb⟩; refine ⟨_, rfl, ?_⟩; have n0_ := Aside0.mk (Kd.R_below (rr HO104.out) hb); have n1_ := Aside0.mk (Kd.R_below (rr HO108.out) hb); have n2_ := Aside0.mk (Kd.R_below (rr HO112.out) hb); have n3_ := Aside0.mk (Kd.R_below (rr HO116.out) hb); have n4_ := Aside0.mk (below_step bw hb); clear HO104; clear HO108; clear HO112; clear HO116; clear HB; have HO104 := n0_; have HO108 := n1_; have HO112 := n2_; have HO116 := n3_; have HB := n4_; clear n0_ n1_ n2_ n3_ n4_; (try clear hb); (try clear hb2); (try clear hk); (try clear hi)))
          go_ret
          exact ⟨by first | rfl | (simp [errW_none, errW_some] <;> rfl) | (simp [*, errW_none, errW_some] <;> rfl), bw⟩
      · rw [if_neg c111] at H
        have c111b0 : (t120 == 0) = false := beq_eq_false_iff_ne.mpr c111
        have c111b1 : (t120 != 0) = true := bne_iff_ne.mpr c111
        obtain rfl := Option.some.inj H
        go_enter Try.func8, Try.ntmps8
        go_wp2_with (first | ((with_reducible refine gate_callee (f := 25) rfl ?_); refine goesL_ (some 21) rfl rfl Try.func25 (by kernel_rfl) rfl #[.int .i64 (wrap64 ((wrap64 (2 * (wrap64 (a0)))) + 1))] rfl (by (try simp only [List.map_toArray, List.map_cons, List.map_nil]); first | done | rfl | (simp only [List.length_drop, List.length_take]; rfl)) ?_; (with_reducible refine (quadformref01_Small.calls k (wrap64 ((wrap64 (2 * (wrap64 (a0)))) + 1)) t101 t102 _ A3.out).mono ?_); rintro e w149 ⟨v103, rfl, ho0, hb⟩; refine ⟨_, rfl, ?_⟩; have n0_ := Aside0.mk (Kd.R_lower ho0 (below_size bw)); have n1_ := Aside0.mk (below_step bw hb); clear HB; have HO104 := n0_; have HB := n1_; clear n0_ n1_; (try clear hb); (try clear hb2); (try clear hk); (try clear hi); (try clear ho0)) | ((with_reducible refine gate_callee (f := 25) rfl ?_); refine goesL_ (some 23) rfl rfl Try.func25 (by kernel_rfl) rfl #[.int .i64 (wrap64 ((wrap64 (2 * (wrap64 (a1)))) + 1))] rfl (by (try simp only [List.map_toArray, List.map_cons, List.map_nil]); first | done | rfl | (simp only [List.length_drop, List.length_take]; rfl)) ?_; (with_reducible refine (quadformref01_Small.calls k (wrap64 ((wrap64 (2 * (wrap64 (a1)))) + 1)) t105 t106 _ A4.out).mono ?_); rintro e w150 ⟨v107, rfl, ho0, hb⟩; refine ⟨_, rfl, ?_⟩; have n0_ := Aside0.mk (Kd.R_below (rr HO104.out) hb); have n1_ := Aside0.mk (Kd.R_lower ho0 (below_size bw)); have n2_ := Aside0.mk (below_step bw hb); clear HO104; clear HB; have HO104 := n0_; have HO108 := n1_; have HB := n2_; clear n0_ n1_ n2_; (try clear hb); (try clear hb2); (try clear hk); (try clear hi); (try clear ho0); obtain ⟨Ao151, co151, eo151⟩ := Kd.R_slice HO104.out; subst eo151; obtain ⟨Ao152, co152, eo152⟩ := Kd.R_slice HO108.out; subst eo152) | ((with_reducible refine gate_callee (f := 24) rfl ?_); refine goesL_ (some 24) rfl rfl Try.func24 (by kernel_rfl) rfl #[.agg #[.bool t101, .slice Ao151 t102.length co151], .agg #[.bool t105, .slice Ao152 t106.length co152]] rfl (by (try simp only [List.map_toArray, List.map_cons, List.map_nil]); first | done | rfl | (simp only [List.length_drop, List.length_take]; rfl)) ?_; (with_reducible refine (quadformref01_Gcd.calls k t101 _ _ t102 t105 _ _ t106 t109 t110 _ ?side1 ?side2 ?side3 ?side4 A5.out).mono ?_); (case side1 => repeat (first | exact (Kd.R_reads' HO104.out).2.2 | (with_reducible refine Kd.C_alloc ?_ _) | (with_reducible refine Kd.C_drewN ?_ _) | (with_reducible refine Kd.C_drew ?_))); (case side2 => exact (Kd.R_reads' HO104.out).2.1); (case side3 => repeat (first | exact (Kd.R_reads' HO108.out).2.2 | (with_reducible refine Kd.C_alloc ?_ _) | (with_reducible refine Kd.C_drewN ?_ _) | (with_reducible refine Kd.C_drew ?_))); (case side4 => exact (Kd.R_reads' HO108.out).2.1); rintro e w153 ⟨v111, rfl, ho0, hb⟩; refine ⟨_, rfl, ?_⟩; have n0_ := Aside0.mk (Kd.R_below (rr HO104.out) hb); have n1_ := Aside0.mk (Kd.R_below (rr HO108.out) hb); have n2_ := Aside0.mk (Kd.R_lower ho0 (below_size bw)); have n3_ := Aside0.mk (below_step bw hb); clear HO104; clear HO108; clear HB; have HO104 := n0_; have HO108 := n1_; have HO112 := n2_; have HB := n3_; clear n0_ n1_ n2_ n3_; (try clear hb); (try clear hb2); (try clear hk); (try clear hi); (try clear ho0)) | ((with_reducible refine gate_callee (f := 25) rfl ?_); refine goesL_ (some 25) rfl rfl Try.func25 (by kernel_rfl) rfl #[.int .i64 1] rfl (by (try simp only [List.map_toArray, List.map_cons, List.map_nil]); first | done | rfl | (simp only [List.length_drop, List.length_take]; rfl)) ?_; (with_reducible refine (quadformref01_Small.calls k 1 t113 t114 _ A6.out).mono ?_); rintro e w154 ⟨v115, rfl, ho0, hb⟩; refine ⟨_, rfl, ?_⟩; have n0_ := Aside0.mk (Kd.R_below (rr HO104.out) hb); have n1_ := Aside0.mk (Kd.R_below (rr HO108.out) hb); have n2_ := Aside0.mk (Kd.R_below (rr HO112.out) hb); have n3_ := Aside0.mk (Kd.R_lower ho0 (below_size bw)); have n4_ := Aside0.mk (below_step bw hb); clear HO104; clear HO108; clear HO112; clear HB; have HO104 := n0_; have HO108 := n1_; have HO112 := n2_; have HO116 := n3_; have HB := n4_; clear n0_ n1_ n2_ n3_ n4_; (try clear hb); (try clear hb2); (try clear hk); (try clear hi); (try clear ho0); obtain ⟨Ao155, co155, eo155⟩ := Kd.R_slice HO112.out; subst eo155; obtain ⟨Ao156, co156, eo156⟩ := Kd.R_slice HO116.out; subst eo156) | ((with_reducible refine gate_callee (f := 23) rfl ?_); refine goesL_ (some 26) rfl rfl Try.func23 (by kernel_rfl) rfl #[.agg #[.bool t109, .slice Ao155 t110.length co155], .agg #[.bool t113, .slice Ao156 t114.length co156]] rfl (by (try simp only [List.map_toArray, List.map_cons, List.map_nil]); first | done | rfl | (simp only [List.length_drop, List.length_take]; rfl)) ?_; (with_reducible refine (quadformref01_Same.calls k t109 _ _ t110 t113 _ _ t114 true _ ?side1 ?side2 ?side3 ?side4 A7.out).mono ?_); (case side1 => repeat (first | exact (Kd.R_reads' HO112.out).2.2 | (with_reducible refine Kd.C_alloc ?_ _) | (with_reducible refine Kd.C_drewN ?_ _) | (with_reducible refine Kd.C_drew ?_))); (case side2 => exact (Kd.R_reads' HO112.out).2.1); (case side3 => repeat (first | exact (Kd.R_reads' HO116.out).2.2 | (with_reducible refine Kd.C_alloc ?_ _) | (with_reducible refine Kd.C_drewN ?_ _) | (with_reducible refine Kd.C_drew ?_))); (case side4 => exact (Kd.R_reads' HO116.out).2.1); rintro e w157 ⟨rfl, hb⟩; refine ⟨_, rfl, ?_⟩; have n0_ := Aside0.mk (Kd.R_below (rr HO104.out) hb); have n1_ := Aside0.mk (Kd.R_below (rr HO108.out) hb); have n2_ := Aside0.mk (Kd.R_below (rr HO112.out) hb); have n3_ := Aside0.mk (Kd.R_below (rr HO116.out) hb); have n4_ := Aside0.mk (below_step bw hb); clear HO104; clear HO108; clear HO112; clear HO116; clear HB; have HO104 := n0_; have HO108 := n1_; have HO112 := n2_; have HO116 := n3_; have HB := n4_; clear n0_ n1_ n2_ n3_ n4_; (try clear hb); (try clear hb2); (try clear hk); (try clear hi)) | ((with_reducible refine gate_callee (f := 21) rfl ?_); refine goesL_ (some 32) rfl rfl Try.func21 (by kernel_rfl) rfl #[.int .i64 (wrap64 ((wrap64 (2 * (wrap64 (a0)))) + 1)), .int .i64 (wrap64 ((wrap64 (2 * (wrap64 (a1)))) + 1))] rfl (by (try simp only [List.map_toArray, List.map_cons, List.map_nil]); first | done | rfl | (simp only [List.length_drop, List.length_take]; rfl)) ?_; (with_reducible refine (prime_Kronecker.calls k (wrap64 ((wrap64 (2 * (wrap64 (a0)))) + 1)) (wrap64 ((wrap64 (2 * (wrap64 (a1)))) + 1)) t119 t120 _ A9.out).mono ?_); rintro e w158 ⟨rfl, hb⟩; refine ⟨_, rfl, ?_⟩; have n0_ := Aside0.mk (Kd.R_below (rr HO104.out) hb); have n1_ := Aside0.mk (Kd.R_below (rr HO108.out) hb); have n2_ := Aside0.mk (Kd.R_below (rr HO112.out) hb); have n3_ := Aside0.mk (Kd.R_below (rr HO116.out) hb); have n4_ := Aside0.mk (below_step bw hb); clear HO104; clear HO108; clear HO112; clear HO116; clear HB; have HO104 := n0_; have HO108 := n1_; have HO112 := n2_; have HO116 := n3_; have HB := n4_; clear n0_ n1_ n2_ n3_ n4_; (try clear hb); (try clear hb2); (try clear hk); (try clear hi)) | ((with_reducible refine gate_callee (f := 21) rfl ?_); refine goesL_ (some 38) rfl rfl Try.func21 (by kernel_rfl) rfl #[.int .i64 (wrap64 ((wrap64 (2 * (wrap64 (a1)))) + 1)), .int .i64 (wrap64 ((wrap64 (2 * (wrap64 (a0)))) + 1))] rfl (by (try simp only [List.map_toArray, List.map_cons, List.map_nil]); first | done | rfl | (simp only [List.length_drop, List.length_take]; rfl)) ?_; (with_reducible refine (prime_Kronecker.calls k (wrap64 ((wrap64 (2 * (wrap64 (a1)))) + 1)) (wrap64 ((wrap64 (2 * (wrap64 (a0)))) + 1)) t121 t122 _ A10.out).mono ?_); rintro e w159 ⟨rfl, hb⟩; refine ⟨_, rfl, ?_⟩; have n0_ := Aside0.mk (Kd.R_below (rr HO104.out) hb); have n1_ := Aside0.mk (Kd.R_below (rr HO108.out) hb); have n2_ := Aside0.mk (Kd.R_below (rr HO112.out) hb); have n3_ := Aside0.mk (Kd.R_below (rr HO116.out) hb); have n4_ := Aside0.mk (below_step bw hb); clear HO104; clear HO108; clear HO112; clear HO116; clear HB; have HO104 := n0_; have HO108 := n1_; have HO112 := n2_; have HO116 := n3_; have HB := n4_; clear n0_ n1_ n2_ n3_ n4_; (try clear hb); (try clear hb2); (try clear hk); (try clear hi)))
        go_ret
        exact ⟨by first | rfl | (simp [errW_none, errW_some] <;> rfl) | (simp [*, errW_none, errW_some] <;> rfl), bw⟩
  · replace c8 := Bool.eq_false_iff.mpr c8
    subst c8
    have H1 : ((quadformlaw22_awake.f k).bind fun t118 => (some t118)) = some r := by rw [if_neg (show ¬ (false = true) by decide)] at H; exact H
    clear H
    have H := H1
    clear H1
    replace H := Option.bind_eq_some_iff.mp H
    obtain ⟨t118, A1600, H⟩ := H
    replace H : (some t118) = some r := H
    have A160 := Aside0.mk A1600
    clear A1600
    obtain rfl := Option.some.inj H
    go_enter Try.func8, Try.ntmps8
    go_wp2_with (first | ((with_reducible refine gate_callee (f := 25) rfl ?_); refine goesL_ (some 21) rfl rfl Try.func25 (by kernel_rfl) rfl #[.int .i64 (wrap64 ((wrap64 (2 * (wrap64 (a0)))) + 1))] rfl (by (try simp only [List.map_toArray, List.map_cons, List.map_nil]); first | done | rfl | (simp only [List.length_drop, List.length_take]; rfl)) ?_; (with_reducible refine (quadformref01_Small.calls k (wrap64 ((wrap64 (2 * (wrap64 (a0)))) + 1)) t101 t102 _ A3.out).mono ?_); rintro e w161 ⟨v103, rfl, ho0, hb⟩; refine ⟨_, rfl, ?_⟩; have n0_ := Aside0.mk (Kd.R_lower ho0 (below_size bw)); have n1_ := Aside0.mk (below_step bw hb); clear HB; have HO104 := n0_; have HB := n1_; clear n0_ n1_; (try clear hb); (try clear hb2); (try clear hk); (try clear hi); (try clear ho0)) | ((with_reducible refine gate_callee (f := 25) rfl ?_); refine goesL_ (some 23) rfl rfl Try.func25 (by kernel_rfl) rfl #[.int .i64 (wrap64 ((wrap64 (2 * (wrap64 (a1)))) + 1))] rfl (by (try simp only [List.map_toArray, List.map_cons, List.map_nil]); first | done | rfl | (simp only [List.length_drop, List.length_take]; rfl)) ?_; (with_reducible refine (quadformref01_Small.calls k (wrap64 ((wrap64 (2 * (wrap64 (a1)))) + 1)) t105 t106 _ A4.out).mono ?_); rintro e w162 ⟨v107, rfl, ho0, hb⟩; refine ⟨_, rfl, ?_⟩; have n0_ := Aside0.mk (Kd.R_below (rr HO104.out) hb); have n1_ := Aside0.mk (Kd.R_lower ho0 (below_size bw)); have n2_ := Aside0.mk (below_step bw hb); clear HO104; clear HB; have HO104 := n0_; have HO108 := n1_; have HB := n2_; clear n0_ n1_ n2_; (try clear hb); (try clear hb2); (try clear hk); (try clear hi); (try clear ho0); obtain ⟨Ao163, co163, eo163⟩ := Kd.R_slice HO104.out; subst eo163; obtain ⟨Ao164, co164, eo164⟩ := Kd.R_slice HO108.out; subst eo164) | ((with_reducible refine gate_callee (f := 24) rfl ?_); refine goesL_ (some 24) rfl rfl Try.func24 (by kernel_rfl) rfl #[.agg #[.bool t101, .slice Ao163 t102.length co163], .agg #[.bool t105, .slice Ao164 t106.length co164]] rfl (by (try simp only [List.map_toArray, List.map_cons, List.map_nil]); first | done | rfl | (simp only [List.length_drop, List.length_take]; rfl)) ?_; (with_reducible refine (quadformref01_Gcd.calls k t101 _ _ t102 t105 _ _ t106 t109 t110 _ ?side1 ?side2 ?side3 ?side4 A5.out).mono ?_); (case side1 => repeat (first | exact (Kd.R_reads' HO104.out).2.2 | (with_reducible refine Kd.C_alloc ?_ _) | (with_reducible refine Kd.C_drewN ?_ _) | (with_reducible refine Kd.C_drew ?_))); (case side2 => exact (Kd.R_reads' HO104.out).2.1); (case side3 => repeat (first | exact (Kd.R_reads' HO108.out).2.2 | (with_reducible refine Kd.C_alloc ?_ _) | (with_reducible refine Kd.C_drewN ?_ _) | (with_reducible refine Kd.C_drew ?_))); (case side4 => exact (Kd.R_reads' HO108.out).2.1); rintro e w165 ⟨v111, rfl, ho0, hb⟩; refine ⟨_, rfl, ?_⟩; have n0_ := Aside0.mk (Kd.R_below (rr HO104.out) hb); have n1_ := Aside0.mk (Kd.R_below (rr HO108.out) hb); have n2_ := Aside0.mk (Kd.R_lower ho0 (below_size bw)); have n3_ := Aside0.mk (below_step bw hb); clear HO104; clear HO108; clear HB; have HO104 := n0_; have HO108 := n1_; have HO112 := n2_; have HB := n3_; clear n0_ n1_ n2_ n3_; (try clear hb); (try clear hb2); (try clear hk); (try clear hi); (try clear ho0)) | ((with_reducible refine gate_callee (f := 25) rfl ?_); refine goesL_ (some 25) rfl rfl Try.func25 (by kernel_rfl) rfl #[.int .i64 1] rfl (by (try simp only [List.map_toArray, List.map_cons, List.map_nil]); first | done | rfl | (simp only [List.length_drop, List.length_take]; rfl)) ?_; (with_reducible refine (quadformref01_Small.calls k 1 t113 t114 _ A6.out).mono ?_); rintro e w166 ⟨v115, rfl, ho0, hb⟩; refine ⟨_, rfl, ?_⟩; have n0_ := Aside0.mk (Kd.R_below (rr HO104.out) hb); have n1_ := Aside0.mk (Kd.R_below (rr HO108.out) hb); have n2_ := Aside0.mk (Kd.R_below (rr HO112.out) hb); have n3_ := Aside0.mk (Kd.R_lower ho0 (below_size bw)); have n4_ := Aside0.mk (below_step bw hb); clear HO104; clear HO108; clear HO112; clear HB; have HO104 := n0_; have HO108 := n1_; have HO112 := n2_; have HO116 := n3_; have HB := n4_; clear n0_ n1_ n2_ n3_ n4_; (try clear hb); (try clear hb2); (try clear hk); (try clear hi); (try clear ho0); obtain ⟨Ao167, co167, eo167⟩ := Kd.R_slice HO112.out; subst eo167; obtain ⟨Ao168, co168, eo168⟩ := Kd.R_slice HO116.out; subst eo168) | ((with_reducible refine gate_callee (f := 23) rfl ?_); refine goesL_ (some 26) rfl rfl Try.func23 (by kernel_rfl) rfl #[.agg #[.bool t109, .slice Ao167 t110.length co167], .agg #[.bool t113, .slice Ao168 t114.length co168]] rfl (by (try simp only [List.map_toArray, List.map_cons, List.map_nil]); first | done | rfl | (simp only [List.length_drop, List.length_take]; rfl)) ?_; (with_reducible refine (quadformref01_Same.calls k t109 _ _ t110 t113 _ _ t114 false _ ?side1 ?side2 ?side3 ?side4 A7.out).mono ?_); (case side1 => repeat (first | exact (Kd.R_reads' HO112.out).2.2 | (with_reducible refine Kd.C_alloc ?_ _) | (with_reducible refine Kd.C_drewN ?_ _) | (with_reducible refine Kd.C_drew ?_))); (case side2 => exact (Kd.R_reads' HO112.out).2.1); (case side3 => repeat (first | exact (Kd.R_reads' HO116.out).2.2 | (with_reducible refine Kd.C_alloc ?_ _) | (with_reducible refine Kd.C_drewN ?_ _) | (with_reducible refine Kd.C_drew ?_))); (case side4 => exact (Kd.R_reads' HO116.out).2.1); rintro e w169 ⟨rfl, hb⟩; refine ⟨_, rfl, ?_⟩; have n0_ := Aside0.mk (Kd.R_below (rr HO104.out) hb); have n1_ := Aside0.mk (Kd.R_below (rr HO108.out) hb); have n2_ := Aside0.mk (Kd.R_below (rr HO112.out) hb); have n3_ := Aside0.mk (Kd.R_below (rr HO116.out) hb); have n4_ := Aside0.mk (below_step bw hb); clear HO104; clear HO108; clear HO112; clear HO116; clear HB; have HO104 := n0_; have HO108 := n1_; have HO112 := n2_; have HO116 := n3_; have HB := n4_; clear n0_ n1_ n2_ n3_ n4_; (try clear hb); (try clear hb2); (try clear hk); (try clear hi)) | ((with_reducible refine gate_callee (f := 17) rfl ?_); refine goesL_ (some 28) rfl rfl Try.func17 (by kernel_rfl) rfl #[] rfl (by (try simp only [List.map_toArray, List.map_cons, List.map_nil]); first | done | rfl | (simp only [List.length_drop, List.length_take]; rfl)) ?_; (with_reducible refine (quadformlaw22_awake.calls k  t118 _ A160.out).mono ?_); rintro e w170 ⟨rfl, hb⟩; refine ⟨_, rfl, ?_⟩; have n0_ := Aside0.mk (Kd.R_below (rr HO104.out) hb); have n1_ := Aside0.mk (Kd.R_below (rr HO108.out) hb); have n2_ := Aside0.mk (Kd.R_below (rr HO112.out) hb); have n3_ := Aside0.mk (Kd.R_below (rr HO116.out) hb); have n4_ := Aside0.mk (below_step bw hb); clear HO104; clear HO108; clear HO112; clear HO116; clear HB; have HO104 := n0_; have HO108 := n1_; have HO112 := n2_; have HO116 := n3_; have HB := n4_; clear n0_ n1_ n2_ n3_ n4_; (try clear hb); (try clear hb2); (try clear hk); (try clear hi)))
    go_ret
    exact ⟨by first | rfl | (simp [errW_none, errW_some] <;> rfl) | (simp [*, errW_none, errW_some] <;> rfl), bw⟩
/-- THE ONE PURE STATEMENT of quadformlaw22_PrimeReciprocity: yours. -/
def quadformlaw22_PrimeReciprocity.Pure : Prop := ∀ (a0 : Int) (a1 : Int), (Lit.int .u16 a0).wf = true → (Lit.int .u16 a1).wf = true → ∃ k, quadformlaw22_PrimeReciprocity.f k a0 a1 = some true
theorem quadformlaw22_PrimeReciprocity.walk (P : quadformlaw22_PrimeReciprocity.Pure) (a0 : Int) (a1 : Int) (w : World) (w0 : (Lit.int .u16 a0).wf = true) (w1 : (Lit.int .u16 a1).wf = true) :
    Calls Try.prog 8 #[.int .u16 a0, .int .u16 a1] w fun e w' => e = .returned (.bool true) ∧ Below w.heap.size w w' := by
  obtain ⟨k, h⟩ := P a0 a1 w0 w1
  refine (quadformlaw22_PrimeReciprocity.calls k a0 a1 true w h).mono ?_
  rintro e w' ⟨rfl, hd⟩
  exact ⟨rfl, hd⟩
end Go.Proofs.Ytcjhbjfkcmncpaa.Q
namespace Go.Proofs.Ytcjhbjfkcmncpaa.LI
/-- The number that a list of limbs denotes. -/
def lv : List Int → Nat
  | [] => 0
  | x :: r => x.toNat + 4294967296 * lv r
/-- Each limb has 32 bits. -/
def Lim (l : List Int) : Prop := ∀ x ∈ l, 0 ≤ x ∧ x < 4294967296
def limF : Nat → Nat → List Int
  | 0, _ => []
  | f + 1, n => if n = 0 then [] else ((n % 4294967296 : Nat) : Int) :: limF f (n / 4294967296)
/-- The canonical limbs of a number. -/
def limbs (n : Nat) : List Int := limF n n
/-- The digit at a place; 0 beyond the end. -/
def dg (l : List Int) (i : Nat) : Nat := (l.getD i 0).toNat
theorem limF_same : ∀ (f g n : Nat), n ≤ f → n ≤ g → limF f n = limF g n
  | 0, 0, _, _, _ => rfl
  | 0, g + 1, n, h, _ => by
    obtain rfl : n = 0 := by omega
    simp [limF]
  | f + 1, 0, n, _, h => by
    obtain rfl : n = 0 := by omega
    simp [limF]
  | f + 1, g + 1, n, h, h' => by
    by_cases h0 : n = 0
    · subst h0; simp [limF]
    · rw [limF, limF, if_neg h0, if_neg h0, limF_same f g (n / 4294967296) (by omega) (by omega)]
theorem limbs_zero : limbs 0 = [] := rfl
theorem limbs_pos {n : Nat} (h : n ≠ 0) : limbs n = ((n % 4294967296 : Nat) : Int) :: limbs (n / 4294967296) := by
  obtain ⟨m, rfl⟩ : ∃ m, n = m + 1 := ⟨n - 1, by omega⟩
  rw [limbs, limF, if_neg h, limF_same m ((m + 1) / 4294967296) _ (by omega) (by omega)]
  rfl
theorem Lim.nil : Lim [] := fun _ h => by cases h
theorem Lim.cons {x : Int} {l : List Int} (h : Lim (x :: l)) : (0 ≤ x ∧ x < 4294967296) ∧ Lim l := ⟨h x (by simp), fun y hy => h y (by simp [hy])⟩
theorem Lim.mk {x : Int} {l : List Int} (h : 0 ≤ x ∧ x < 4294967296) (h' : Lim l) : Lim (x :: l) := fun y hy => by
  rcases List.mem_cons.1 hy with rfl | hy
  · exact h
  · exact h' y hy
theorem Lim.append {a b : List Int} (h : Lim a) (h' : Lim b) : Lim (a ++ b) := fun y hy => by
  rcases List.mem_append.1 hy with hy | hy
  · exact h y hy
  · exact h' y hy
theorem Lim.take {l : List Int} (h : Lim l) (n : Nat) : Lim (l.take n) := fun y hy => h y (List.mem_of_mem_take hy)
theorem Lim.drop {l : List Int} (h : Lim l) (n : Nat) : Lim (l.drop n) := fun y hy => h y (List.mem_of_mem_drop hy)
theorem Lim.one {x : Int} (h : 0 ≤ x ∧ x < 4294967296) : Lim [x] := Lim.mk h Lim.nil
theorem Lim.at {l : List Int} (h : Lim l) (i : Nat) : 0 ≤ l.getD i 0 ∧ l.getD i 0 < 4294967296 := by
  by_cases hi : i < l.length
  · have : l.getD i 0 = l[i] := by simp [List.getD, hi]
    rw [this]
    exact h _ (List.getElem_mem hi)
  · have : l.getD i 0 = 0 := by simp [List.getD, Nat.le_of_not_lt hi]
    rw [this]
    omega
theorem Lim.set {l : List Int} (h : Lim l) (i : Nat) {x : Int} (hx : 0 ≤ x ∧ x < 4294967296) : Lim (l.set i x) := fun y hy => by
  rcases List.mem_or_eq_of_mem_set hy with hy | rfl
  · exact h y hy
  · exact hx
theorem Lim.replicate (n : Nat) : Lim (List.replicate n 0) := fun y hy => by
  have := (List.mem_replicate.1 hy).2
  omega
theorem dg_lt {l : List Int} (h : Lim l) (i : Nat) : dg l i < 4294967296 := by
  have := h.at i
  unfold dg
  omega
theorem dg_int {l : List Int} (h : Lim l) (i : Nat) : ((dg l i : Nat) : Int) = l.getD i 0 := by
  have := h.at i
  unfold dg
  omega
theorem dg_out {l : List Int} {i : Nat} (h : l.length ≤ i) : dg l i = 0 := by
  simp [dg, List.getD, h]
theorem lim_limbs (n : Nat) : Lim (limbs n) := by
  induction n using Nat.strongRecOn with
  | ind n ih =>
    by_cases h : n = 0
    · subst h; exact Lim.nil
    · rw [limbs_pos h]
      exact Lim.mk (by omega) (ih _ (by omega))
theorem lv_limbs (n : Nat) : lv (limbs n) = n := by
  induction n using Nat.strongRecOn with
  | ind n ih =>
    by_cases h : n = 0
    · subst h; rfl
    · rw [limbs_pos h, lv, ih _ (by omega)]
      omega
theorem limbs_nil {n : Nat} : limbs n = [] ↔ n = 0 := by
  constructor
  · intro h
    have := lv_limbs n
    rw [h] at this
    exact this.symm
  · rintro rfl; rfl
theorem limbs_len_pos {n : Nat} : 0 < (limbs n).length ↔ n ≠ 0 := by
  rw [List.length_pos_iff, ne_eq, limbs_nil]
theorem limbs_lv : ∀ {l : List Int}, Lim l → (∀ h : l ≠ [], l.getLast h ≠ 0) → limbs (lv l) = l
  | [], _, _ => rfl
  | x :: r, h, hl => by
    obtain ⟨hx, hr⟩ := h.cons
    by_cases h0 : r = []
    · subst h0
      have hx0 : x ≠ 0 := by simpa using hl (by simp)
      rw [lv, lv, limbs_pos (by omega), show (x.toNat + 4294967296 * 0) / 4294967296 = 0 from by omega, limbs_zero]
      congr 1
      omega
    · have ih := limbs_lv hr (fun h1 => by have := hl (by simp); rwa [List.getLast_cons h1] at this)
      have hv : lv r ≠ 0 := fun e => h0 (by rw [← ih, e]; rfl)
      rw [lv, limbs_pos (by omega), show (x.toNat + 4294967296 * lv r) / 4294967296 = lv r from by omega, ih]
      congr 1
      omega
theorem lv_append : ∀ (a b : List Int), lv (a ++ b) = lv a + 4294967296 ^ a.length * lv b
  | [], b => by simp [lv]
  | x :: a, b => by
    rw [List.cons_append, lv, lv, lv_append a b, List.length_cons, Nat.pow_succ]
    generalize 4294967296 ^ a.length = p
    rw [Nat.mul_add, Nat.mul_comm p 4294967296, Nat.mul_assoc]
    omega
theorem lv_one (x : Int) : lv [x] = x.toNat := by simp [lv]
theorem lv_lt : ∀ {l : List Int}, Lim l → lv l < 4294967296 ^ l.length
  | [], _ => by simp [lv]
  | x :: r, h => by
    have h1 := lv_lt h.cons.2
    have h2 := h.cons.1
    rw [lv, List.length_cons, Nat.pow_succ]
    omega
theorem lv_split (l : List Int) (i : Nat) (hi : i ≤ l.length) : lv l = lv (l.take i) + 4294967296 ^ i * lv (l.drop i) := by
  have h := lv_append (l.take i) (l.drop i)
  rwa [List.take_append_drop, List.length_take, Nat.min_eq_left hi] at h
theorem lv_take_succ (l : List Int) (i : Nat) : lv (l.take (i + 1)) = lv (l.take i) + 4294967296 ^ i * dg l i := by
  by_cases hi : i < l.length
  · rw [List.take_add_one, List.getElem?_eq_getElem hi, lv_append, List.length_take, Nat.min_eq_left (by omega)]
    simp [lv, dg, List.getD, hi]
  · rw [List.take_of_length_le (by omega), List.take_of_length_le (by omega), dg_out (by omega)]
    simp
theorem drop_dg {l : List Int} {i : Nat} (hi : i < l.length) : lv (l.drop i) = dg l i + 4294967296 * lv (l.drop (i + 1)) := by
  rw [List.drop_eq_getElem_cons hi, lv]
  simp [dg, List.getD, hi]
theorem lv_zeros (n : Nat) : lv (List.replicate n 0) = 0 := by
  induction n with
  | zero => rfl
  | succ n ih => rw [List.replicate_succ, lv, ih]; rfl
theorem limbs_len {m n : Nat} : (limbs n).length ≤ m ↔ n < 4294967296 ^ m := by
  constructor
  · intro h
    have h1 := lv_lt (lim_limbs n)
    rw [lv_limbs] at h1
    exact Nat.lt_of_lt_of_le h1 (Nat.pow_le_pow_right (by omega) h)
  · induction m generalizing n with
    | zero =>
      intro h
      obtain rfl : n = 0 := by simp at h; omega
      simp [limbs_zero]
    | succ m ih =>
      intro h
      by_cases h0 : n = 0
      · subst h0; simp [limbs_zero]
      · rw [limbs_pos h0, List.length_cons]
        have := @ih (n / 4294967296) (by rw [Nat.pow_succ] at h; omega)
        omega
/-- A digit out of the number. -/
theorem dg_lv {l : List Int} (h : Lim l) (i : Nat) : dg l i = lv l / 4294967296 ^ i % 4294967296 := by
  have hp : 0 < 4294967296 ^ i := Nat.pow_pos (by omega)
  by_cases hi : i < l.length
  · have h1 := lv_split l i (by omega)
    have h2 := drop_dg hi
    have h3 := lv_lt (h.take i)
    rw [List.length_take, Nat.min_eq_left (by omega)] at h3
    rw [h1, Nat.add_mul_div_left _ _ hp, Nat.div_eq_of_lt h3, h2]
    have := dg_lt h i
    omega
  · have h1 := lv_lt h
    have h2 := Nat.pow_le_pow_right (show 4294967296 > 0 by omega) (Nat.le_of_not_lt hi)
    rw [dg_out (by omega), Nat.div_eq_of_lt (by omega)]
/-- Equal but for one place. -/
theorem lv_set {l : List Int} {i : Nat} (hi : i < l.length) (d : Nat) : lv (l.set i ((dg l i + d : Nat) : Int)) = lv l + 4294967296 ^ i * d := by
  have h1 := lv_split l i (by omega)
  have h2 := lv_split (l.set i ((dg l i + d : Nat) : Int)) i (by simp; omega)
  have h3 := drop_dg hi
  have h4 := drop_dg (l := l.set i ((dg l i + d : Nat) : Int)) (i := i) (by simpa using hi)
  have h5 : dg (l.set i ((dg l i + d : Nat) : Int)) i = dg l i + d := by
    generalize dg l i + d = m
    simp only [dg, List.getD, List.getElem?_set_self hi, Option.getD_some, Int.toNat_natCast]
  have h6 : (l.set i ((dg l i + d : Nat) : Int)).drop (i + 1) = l.drop (i + 1) := List.drop_set_of_lt (by omega)
  rw [List.take_set_of_le (Nat.le_refl _)] at h2
  rw [h6, h5] at h4
  rw [h2, h4, h1, h3]
  grind
/-- What a sign and a magnitude denote, and what denotes a number. -/
def iv (neg : Bool) (l : List Int) : Int := if neg = true then -(lv l : Int) else lv l
def mk (z : Int) : Bool × List Int := (decide (z < 0), limbs z.natAbs)
theorem iv_mk (z : Int) : iv (mk z).1 (mk z).2 = z := by
  simp only [iv, mk, lv_limbs, decide_eq_true_eq]
  split <;> omega
theorem lim_mk (z : Int) : Lim (mk z).2 := lim_limbs _
theorem lv_mk (z : Int) : lv (mk z).2 = z.natAbs := lv_limbs _
theorem iv_natAbs (neg : Bool) (l : List Int) : (iv neg l).natAbs = lv l := by
  unfold iv
  split <;> omega
end Go.Proofs.Ytcjhbjfkcmncpaa.LI
namespace Go.Proofs.Ytcjhbjfkcmncpaa.Q
open Go.RowKit Go.Proofs.YtcjhbjfkcmncpaaW.PrintWords Go.Proofs.YtcjhbjfkcmncpaaW.PrintLast Go.Proofs.YtcjhbjfkcmncpaaW.PrintMore
open Go.Proofs.Ytcjhbjfkcmncpaa.LI
theorem wr64 {x : Int} (h : -9223372036854775808 ≤ x) (h' : x ≤ 9223372036854775807) : wrap64 x = x := by
  unfold wrap64; omega
theorem wr_up {i : Nat} (h : i < 9223372036854775807) : wrap64 ((i : Int) + 1) = ((i + 1 : Nat) : Int) := by
  rw [wr64 (by omega) (by omega)]; rfl
theorem wr_down {i : Nat} (h : i < 9223372036854775807) : wrap64 (((i + 1 : Nat) : Int) - 1) = (i : Int) := by
  rw [wr64 (by omega) (by omega)]; omega
theorem wu64 (x : Int) : IntKind.u64.wrap x = x % 18446744073709551616 := by simp [IntKind.wrap, IntKind.bits, IntKind.signed]
theorem rd_dg {l : List Int} (h : Lim l) (i : Nat) : rd l (i : Int) = ((dg l i : Nat) : Int) := (dg_int h i).symm
theorem trim_loop {l : List Int} (hl : Lim l) (hn : l.length < 17592186044416) : ∀ j, j ≤ l.length → lv (l.take j) = lv l → Ev (fun k => quadformref01_trim.l0 k l (j : Int)) (limbs (lv l)) := by
  intro j
  induction j with
  | zero =>
    intro _ h
    rw [← h]
    refine Ev.step (f := fun _ => some []) (fun k => ?_) (Ev.now _)
    simp only [quadformref01_trim.l0]
    rw [if_neg (by decide), if_pos (by decide), if_pos (by omega), if_pos (by simp)]
    rfl
  | succ j ih =>
    intro hj h
    by_cases h0 : dg l j = 0
    · refine Ev.step (f := fun k => quadformref01_trim.l0 k l (j : Int)) (fun k => ?_) (ih (by omega) ?_)
      · simp only [quadformref01_trim.l0]
        rw [wr_down (by omega), rd_dg hl, if_pos (by omega), if_pos (by omega), if_pos (by omega), if_pos (by omega)]
      · rw [lv_take_succ, h0] at h
        simpa using h
    · refine Ev.step (f := fun _ => some (l.take (j + 1))) (fun k => ?_) ?_
      · simp only [quadformref01_trim.l0]
        rw [wr_down (by omega), rd_dg hl, if_pos (by omega), if_pos (by omega), if_pos (by omega), if_neg (by omega), if_pos (by omega), if_pos (by omega), if_pos (by simp; omega)]
        rfl
      · rw [← h, limbs_lv (hl.take _) (fun hne => ?_)]
        · exact Ev.now _
        · intro e
          apply h0
          rw [List.getLast_eq_getElem] at e
          simp only [List.getElem_take, List.length_take, Nat.min_eq_left hj, Nat.add_sub_cancel] at e
          simp only [dg, List.getD, List.getElem?_eq_getElem (show j < l.length by omega), Option.getD_some, e]
          rfl
theorem trim_ok {l : List Int} (hl : Lim l) (hn : l.length < 17592186044416) : Ev (fun k => quadformref01_trim.f k l) (limbs (lv l)) :=
  Ev.congr (fun _ => rfl) (trim_loop hl hn l.length (Nat.le_refl _) (by rw [List.take_length]))
theorem make_ok {l : List Int} (neg : Bool) (hl : Lim l) (hn : l.length < 17592186044416) : Ev (fun k => quadformref01_Make.f k neg l) (mk (iv neg l)) := by
  refine Ev.bind (trim_ok hl hn) ?_
  refine Ev.congr (f := fun _ => some (mk (iv neg l))) (fun k => ?_) (Ev.now _)
  cases neg
  · rw [if_neg (by decide)]
    simp [mk, iv]
  · rw [if_pos rfl]
    simp only [mk, iv, if_true, limbs_len_pos, Int.natAbs_neg, Int.natAbs_natCast, Option.some.injEq, Prod.mk.injEq, decide_eq_decide, and_true]
    omega
theorem ev_eta {g : Nat → Option (Bool × List Int)} {r : Bool × List Int} (h : Ev g r) : Ev (fun k => (g k).bind fun b => some (b.1, b.2)) r := Ev.bind h (Ev.now _)
theorem abs_ok {l : List Int} (neg : Bool) (hl : Lim l) (hn : l.length < 17592186044416) : Ev (fun k => quadformref01_Abs.f k neg l) (mk (lv l : Int)) := ev_eta (make_ok false hl hn)
theorem neg_ok {l : List Int} (neg : Bool) (hl : Lim l) (hn : l.length < 17592186044416) : Ev (fun k => quadformref01_Neg.f k neg l) (mk (-iv neg l)) := by
  have h := ev_eta (make_ok (!neg) hl hn)
  rw [show iv (!neg) l = -iv neg l from by cases neg <;> simp [iv]] at h
  exact h
theorem sign_ok {l : List Int} (neg : Bool) (hl : Lim l) (hn : l.length < 17592186044416) : Ev (fun k => quadformref01_Sign.f k neg l) (if iv neg l = 0 then 0 else if iv neg l < 0 then -1 else 1) := by
  refine Ev.bind (trim_ok hl hn) ?_
  refine Ev.congr (f := fun _ => some _) (fun k => ?_) (Ev.now _)
  by_cases h0 : lv l = 0
  · rw [h0, limbs_zero, if_pos (show ((([] : List Int).length : Nat) : Int) = 0 from rfl), if_pos (by cases neg <;> simp [iv, h0])]
  · have h1 := limbs_len_pos.2 h0
    rw [if_neg (by omega)]
    cases neg
    · have e : iv false l = (lv l : Int) := rfl
      rw [e, if_neg (by decide), if_neg (by omega), if_neg (by omega)]
    · have e : iv true l = -(lv l : Int) := rfl
      rw [e, if_pos rfl, if_neg (by omega), if_pos (by omega)]
theorem word_ok (neg : Bool) {u : Nat} (hu : u < 18446744073709551616) : Ev (fun k => quadformref01_word.f k neg (u : Int)) (mk (if neg = true then -(u : Int) else u)) := by
  have h := ev_eta (make_ok (l := [(u : Int) % 4294967296, (u : Int) / 4294967296 % 4294967296]) neg (Lim.mk (by omega) (Lim.one (by omega))) (by simp))
  have e : lv [(u : Int) % 4294967296, (u : Int) / 4294967296 % 4294967296] = u := by
    simp only [lv]
    omega
  simp only [iv, e] at h
  exact h
theorem small_ok {n : Int} (h : -9223372036854775808 ≤ n) (h' : n ≤ 9223372036854775807) : Ev (fun k => quadformref01_Small.f k n) (mk n) := by
  by_cases h0 : n < 0
  · have hw := ev_eta (word_ok true (u := n.natAbs) (by omega))
    rw [if_pos rfl, show (-(n.natAbs : Int)) = n from by omega] at hw
    refine Ev.congr (fun k => ?_) hw
    unfold quadformref01_Small.f
    rw [if_pos h0, wu64, wu64, show (-(n % 18446744073709551616)) % 18446744073709551616 = (n.natAbs : Int) from by omega]
  · have hw := ev_eta (word_ok false (u := n.natAbs) (by omega))
    rw [if_neg (by decide), show ((n.natAbs : Int)) = n from by omega] at hw
    refine Ev.congr (fun k => ?_) hw
    unfold quadformref01_Small.f
    rw [if_neg h0, wu64, show n % 18446744073709551616 = n from by omega]
def cm (a b : Int) : Int := if a < b then -1 else if a = b then 0 else 1
theorem cm_lt {a b : Int} (h : a < b) : cm a b = -1 := if_pos h
theorem cm_gt {a b : Int} (h : b < a) : cm a b = 1 := by unfold cm; rw [if_neg (by omega), if_neg (by omega)]
theorem cm_eq {a b : Int} (h : a = b) : cm a b = 0 := by unfold cm; rw [if_neg (by omega), if_pos h]
theorem top_lt {m n : List Int} (hm : Lim m) {i : Nat} (h1 : i < m.length) (h2 : i < n.length) (hd : m.drop (i + 1) = n.drop (i + 1)) (h : dg m i < dg n i) : lv m < lv n := by
  rw [lv_split m i (by omega), lv_split n i (by omega), drop_dg h1, drop_dg h2, hd]
  have h3 := lv_lt (hm.take i)
  rw [List.length_take, Nat.min_eq_left (by omega)] at h3
  have h4 : 4294967296 ^ i * (dg m i + 1 + 4294967296 * lv (n.drop (i + 1))) ≤ 4294967296 ^ i * (dg n i + 4294967296 * lv (n.drop (i + 1))) := Nat.mul_le_mul_left _ (by omega)
  have h5 : 4294967296 ^ i * (dg m i + 1 + 4294967296 * lv (n.drop (i + 1))) = 4294967296 ^ i * (dg m i + 4294967296 * lv (n.drop (i + 1))) + 4294967296 ^ i := by
    rw [show dg m i + 1 + 4294967296 * lv (n.drop (i + 1)) = (dg m i + 4294967296 * lv (n.drop (i + 1))) + 1 from by omega, Nat.mul_add, Nat.mul_one]
  omega
theorem cmp_loop {m n : List Int} (hm : Lim m) (hn : Lim n) (hl : m.length = n.length) (hb : m.length < 17592186044416) : ∀ i, i ≤ m.length → m.drop i = n.drop i → Ev (fun k => quadformref01_cmp.l0 k m n ((i : Int) - 1)) (cm (lv m) (lv n)) := by
  intro i
  induction i with
  | zero =>
    intro _ h
    rw [List.drop_zero, List.drop_zero] at h
    refine Ev.step (f := fun _ => some 0) (fun k => ?_) ?_
    · simp only [quadformref01_cmp.l0]
      rw [if_neg (by omega)]
    · rw [cm_eq (by rw [h])]
      exact Ev.now _
  | succ i ih =>
    intro hi h
    by_cases h0 : dg m i = dg n i
    · refine Ev.step (f := fun k => quadformref01_cmp.l0 k m n ((i : Int) - 1)) (fun k => ?_) (ih (by omega) ?_)
      · simp only [quadformref01_cmp.l0]
        rw [show ((i + 1 : Nat) : Int) - 1 = (i : Int) from by omega, rd_dg hm, rd_dg hn, if_pos (by omega), if_pos (by omega), if_pos (by omega), if_pos (by omega), if_pos (by omega), wr64 (by omega) (by omega)]
      · rw [List.drop_eq_getElem_cons (l := m) (i := i) (by omega), List.drop_eq_getElem_cons (l := n) (i := i) (by omega), h]
        congr 1
        have h1 := dg_int hm i
        have h2 := dg_int hn i
        rw [h0, h2] at h1
        simp only [List.getD, List.getElem?_eq_getElem (show i < m.length by omega), List.getElem?_eq_getElem (show i < n.length by omega), Option.getD_some] at h1
        exact h1.symm
    · refine Ev.step (f := fun _ => some (cm (lv m) (lv n))) (fun k => ?_) (Ev.now _)
      simp only [quadformref01_cmp.l0]
      rw [show ((i + 1 : Nat) : Int) - 1 = (i : Int) from by omega, rd_dg hm, rd_dg hn, if_pos (by omega), if_pos (by omega), if_pos (by omega), if_pos (by omega), if_neg (by omega)]
      by_cases h1 : dg m i < dg n i
      · have := top_lt hm (by omega) (by omega) h h1
        rw [if_pos (by omega), cm_lt (by omega)]
      · have := top_lt hn (by omega) (by omega) h.symm (show dg n i < dg m i by omega)
        rw [if_neg (by omega), cm_gt (by omega)]
theorem cmp_same {m n : List Int} (hm : Lim m) (hn : Lim n) (hl : m.length = n.length) (hb : m.length < 17592186044416) : Ev (fun k => quadformref01_cmp.f k m n) (cm (lv m) (lv n)) := by
  refine Ev.congr (fun k => ?_) (cmp_loop hm hn hl hb m.length (Nat.le_refl _) (by rw [List.drop_length, hl, List.drop_length]))
  unfold quadformref01_cmp.f
  rw [if_pos (by omega), wr64 (by omega) (by omega)]
theorem cmp_ok {a b : Nat} (ha : (limbs a).length < 17592186044416) : Ev (fun k => quadformref01_cmp.f k (limbs a) (limbs b)) (cm a b) := by
  by_cases h : (limbs a).length = (limbs b).length
  · have := cmp_same (lim_limbs a) (lim_limbs b) h ha
    rwa [lv_limbs, lv_limbs] at this
  · refine Ev.congr (f := fun _ => some (cm a b)) (fun k => ?_) (Ev.now _)
    unfold quadformref01_cmp.f
    rw [if_neg (by omega)]
    by_cases h1 : (limbs a).length < (limbs b).length
    · have : ¬ b < 4294967296 ^ (limbs a).length := fun hc => by have := limbs_len.2 hc; omega
      have := limbs_len.1 (Nat.le_refl (limbs a).length)
      rw [if_pos (by omega), cm_lt (by omega)]
    · have : ¬ a < 4294967296 ^ (limbs b).length := fun hc => by have := limbs_len.2 hc; omega
      have := limbs_len.1 (Nat.le_refl (limbs b).length)
      rw [if_neg (by omega), cm_gt (by omega)]
theorem same_ok {a b : Int} (ha : (mk a).2.length < 17592186044416) : Ev (fun k => quadformref01_Same.f k (mk a).1 (mk a).2 (mk b).1 (mk b).2) (decide (a = b)) := by
  by_cases hs : (mk a).1 = (mk b).1
  · by_cases hl : (mk a).2.length = (mk b).2.length
    · refine Ev.congr (g := fun k => quadformref01_Same.f k (mk a).1 (mk a).2 (mk b).1 (mk b).2) (f := fun k => (quadformref01_cmp.f k (mk a).2 (mk b).2).bind fun t => some (t == 0)) (fun k => ?_) ?_
      · unfold quadformref01_Same.f
        rw [if_pos (by simpa using hs), if_pos (by omega)]
      · refine Ev.bind (cmp_ok ha) ?_
        refine Ev.congr (f := fun _ => some _) (fun k => ?_) (Ev.now _)
        have hs' : (a < 0 ↔ b < 0) := by simpa [mk] using hs
        by_cases h : a = b
        · rw [cm_eq (by omega), decide_eq_true h]; rfl
        · rw [decide_eq_false h]
          by_cases h1 : a.natAbs < b.natAbs
          · rw [cm_lt (by omega)]; rfl
          · rw [cm_gt (by omega)]; rfl
    · refine Ev.congr (f := fun _ => some _) (fun k => ?_) (Ev.now _)
      unfold quadformref01_Same.f
      rw [if_pos (by simpa using hs), if_neg (by omega), decide_eq_false (fun e => hl (by rw [e]))]
  · refine Ev.congr (f := fun _ => some _) (fun k => ?_) (Ev.now _)
    unfold quadformref01_Same.f
    rw [if_neg (by simpa using hs), decide_eq_false (fun e => hs (by rw [e]))]
end Go.Proofs.Ytcjhbjfkcmncpaa.Q
namespace Go.Proofs.Ytcjhbjfkcmncpaa.Q
open Go.RowKit Go.Proofs.YtcjhbjfkcmncpaaW.PrintWords Go.Proofs.YtcjhbjfkcmncpaaW.PrintLast Go.Proofs.YtcjhbjfkcmncpaaW.PrintMore
open Go.Proofs.Ytcjhbjfkcmncpaa.LI
theorem lv_snoc (l : List Int) (d : Nat) : lv (l ++ [(d : Int)]) = lv l + 4294967296 ^ l.length * d := by
  rw [lv_append, lv_one, Int.toNat_natCast]
theorem lim_snoc {l : List Int} (h : Lim l) {d : Nat} (hd : d < 4294967296) : Lim (l ++ [(d : Int)]) := h.append (Lim.one (by omega))
theorem sum_loop {m n : List Int} (hm : Lim m) (hn : Lim n) (hb : m.length < 17592186044416) (hb' : n.length < 17592186044416) : ∀ (t i : Nat) (out : List Int) (c : Nat), max m.length n.length - i = t → i ≤ max m.length n.length → out.length = i → Lim out → c ≤ 1 →
    lv out + 4294967296 ^ i * c = lv (m.take i) + lv (n.take i) → ∃ r, Lim r ∧ lv r = lv m + lv n ∧ r.length = max m.length n.length + 1 ∧ Ev (fun k => quadformref01_sum.l0 k m n out (c : Int) (i : Int)) r := by
  intro t
  induction t with
  | zero =>
    intro i out c ht hi hl ho hc he
    refine ⟨out ++ [(c : Int)], lim_snoc ho (by omega), ?_, by simp; omega, ?_⟩
    · rw [lv_snoc, hl, he, List.take_of_length_le (by omega), List.take_of_length_le (by omega)]
    · refine Ev.step (f := fun k => quadformref01_sum.j1 k m n out (c : Int) (i : Int) false) (fun k => ?_) ?_
      · simp only [quadformref01_sum.l0]
        rw [if_neg (by omega), decide_eq_false (by omega)]
      · refine Ev.step (f := fun _ => some (out ++ [(c : Int)])) (fun k => ?_) (Ev.now _)
        simp only [quadformref01_sum.j1]
        rw [if_neg (by decide), if_pos (by omega), Int.emod_eq_of_lt (by omega) (by omega)]
  | succ t ih =>
    intro i out c ht hi hl ho hc he
    have hdm := dg_lt hm i
    have hdn := dg_lt hn i
    have h1 := lv_take_succ m i
    have h2 := lv_take_succ n i
    obtain ⟨r, hr1, hr2, hr3, hr4⟩ := ih (i + 1) (out ++ [(((c + dg m i + dg n i) % 4294967296 : Nat) : Int)]) ((c + dg m i + dg n i) / 4294967296) (by omega) (by omega) (by simp [hl]) (lim_snoc ho (by omega)) (by omega) (by
      rw [lv_snoc, hl, h1, h2, Nat.pow_succ]
      have h3 : 4294967296 ^ i * (c + dg m i + dg n i) = 4294967296 ^ i * ((c + dg m i + dg n i) % 4294967296) + 4294967296 ^ i * (4294967296 * ((c + dg m i + dg n i) / 4294967296)) := by
        rw [← Nat.mul_add, Nat.mod_add_div]
      rw [Nat.mul_add, Nat.mul_add] at h3
      rw [Nat.mul_assoc]
      omega)
    refine ⟨r, hr1, hr2, hr3, ?_⟩
    refine Ev.step (f := fun k => quadformref01_sum.j1 k m n out (c : Int) (i : Int) true) (fun k => ?_) ?_
    · simp only [quadformref01_sum.l0]
      by_cases h4 : i < m.length
      · rw [if_pos (by omega)]
      · rw [if_neg (by omega), decide_eq_true (by omega)]
    · refine Ev.step (fun k => ?_) hr4
      simp only [quadformref01_sum.j1]
      rw [if_pos trivial, rd_dg hm, rd_dg hn, wr_up (by omega)]
      by_cases h4 : i < m.length
      · rw [if_pos (by omega), if_pos (by omega)]
        by_cases h5 : i < n.length
        · rw [if_pos (by omega), if_pos (by omega)]
          have e : IntKind.u64.wrap (IntKind.u64.wrap ((c : Int) + IntKind.u64.wrap (dg m i : Int)) + IntKind.u64.wrap (dg n i : Int)) = ((c + dg m i + dg n i : Nat) : Int) := by
            simp only [wu64]
            omega
          rw [e]
          rfl
        · have h6 : dg n i = 0 := dg_out (by omega)
          rw [if_neg (by omega), if_pos (by omega), h6]
          have e : IntKind.u64.wrap ((c : Int) + IntKind.u64.wrap (dg m i : Int)) = ((c + dg m i + 0 : Nat) : Int) := by
            simp only [wu64]
            omega
          rw [e]
          rfl
      · have h6 : dg m i = 0 := dg_out (by omega)
        rw [if_neg (by omega), if_pos (by omega), if_pos (by omega), if_pos (by omega), h6]
        have e : IntKind.u64.wrap ((c : Int) + IntKind.u64.wrap (dg n i : Int)) = ((c + 0 + dg n i : Nat) : Int) := by
          simp only [wu64]
          omega
        rw [e]
        rfl
theorem sum_ok {m n : List Int} (hm : Lim m) (hn : Lim n) (hb : m.length < 17592186044416) (hb' : n.length < 17592186044416) : ∃ r, Lim r ∧ lv r = lv m + lv n ∧ r.length = max m.length n.length + 1 ∧ Ev (fun k => quadformref01_sum.f k m n) r := by
  obtain ⟨r, h1, h2, h3, h4⟩ := sum_loop hm hn hb hb' _ 0 [] 0 rfl (by omega) rfl Lim.nil (by omega) (by simp [lv])
  exact ⟨r, h1, h2, h3, Ev.congr (fun _ => rfl) h4⟩
theorem diff_loop {m n : List Int} (hm : Lim m) (hn : Lim n) (hb : m.length < 17592186044416) : ∀ (t i : Nat) (out : List Int) (c : Nat), m.length - i = t → i ≤ m.length → out.length = i → Lim out → c ≤ 1 →
    lv (m.take i) + 4294967296 ^ i * c = lv out + lv (n.take i) → ∃ r c', Lim r ∧ lv m + 4294967296 ^ m.length * c' = lv r + lv (n.take m.length) ∧ r.length = m.length ∧ Ev (fun k => quadformref01_difference.l0 k m n out (c : Int) (i : Int)) r := by
  intro t
  induction t with
  | zero =>
    intro i out c ht hi hl ho hc he
    obtain rfl : i = m.length := by omega
    refine ⟨out, c, ho, by rwa [List.take_length] at he, hl, ?_⟩
    refine Ev.step (f := fun _ => some out) (fun k => ?_) (Ev.now _)
    simp only [quadformref01_difference.l0]
    rw [if_neg (by omega)]
  | succ t ih =>
    intro i out c ht hi hl ho hc he
    have hdm := dg_lt hm i
    have hdn := dg_lt hn i
    have h1 := lv_take_succ m i
    have h2 := lv_take_succ n i
    obtain ⟨d, c', hd, hc', h3, h7⟩ : ∃ d c' : Nat, d < 4294967296 ∧ c' ≤ 1 ∧ dg m i + 4294967296 * c' = c + d + dg n i ∧ (c' = if dg m i < c + dg n i then 1 else 0) := by
      by_cases h : dg m i < c + dg n i
      · exact ⟨dg m i + 4294967296 - c - dg n i, 1, by omega, by omega, by omega, by rw [if_pos h]⟩
      · exact ⟨dg m i - c - dg n i, 0, by omega, by omega, by omega, by rw [if_neg h]⟩
    obtain ⟨r, cc, hr1, hr2, hr3, hr4⟩ := ih (i + 1) (out ++ [(d : Int)]) c' (by omega) (by omega) (by simp [hl]) (lim_snoc ho hd) hc' (by
      rw [lv_snoc, hl, h1, h2, Nat.pow_succ]
      have h4 : 4294967296 ^ i * (dg m i + 4294967296 * c') = 4294967296 ^ i * (c + d + dg n i) := by rw [h3]
      rw [Nat.mul_add, Nat.mul_add, Nat.mul_add, ← Nat.mul_assoc] at h4
      omega)
    refine ⟨r, cc, hr1, hr2, hr3, ?_⟩
    refine Ev.step (fun k => ?_) hr4
    simp only [quadformref01_difference.l0]
    rw [rd_dg hm, rd_dg hn, if_pos (by omega), wr_up (by omega)]
    by_cases h5 : i < n.length
    · rw [if_pos (by omega), if_pos (by omega), if_pos (by omega)]
      have e1 : IntKind.u64.wrap (dg m i : Int) = (dg m i : Int) := by rw [wu64]; omega
      have e2 : IntKind.u64.wrap ((c : Int) + IntKind.u64.wrap (dg n i : Int)) = ((c + dg n i : Nat) : Int) := by simp only [wu64]; omega
      have e3 : IntKind.u64.wrap ((dg m i : Int) - ((c + dg n i : Nat) : Int)) % 4294967296 = (d : Int) := by rw [wu64]; omega
      rw [e1, e2, e3, Option.bind_some]
      by_cases h6 : dg m i < c + dg n i
      · rw [if_pos h6] at h7
        rw [if_pos (by omega), h7]
        rfl
      · rw [if_neg h6] at h7
        rw [if_neg (by omega), h7]
        rfl
    · have h8 : dg n i = 0 := dg_out (by omega)
      rw [h8] at h3 h7
      rw [if_neg (by omega), if_pos (by omega), if_pos (by omega)]
      have e1 : IntKind.u64.wrap (dg m i : Int) = (dg m i : Int) := by rw [wu64]; omega
      have e3 : IntKind.u64.wrap ((dg m i : Int) - (c : Int)) % 4294967296 = (d : Int) := by rw [wu64]; omega
      rw [e1, e3, Option.bind_some]
      by_cases h6 : dg m i < c + 0
      · rw [if_pos h6] at h7
        rw [if_pos (by omega), h7]
        rfl
      · rw [if_neg h6] at h7
        rw [if_neg (by omega), h7]
        rfl
theorem diff_ok {m n : List Int} (hm : Lim m) (hn : Lim n) (hb : m.length < 17592186044416) (hl : n.length ≤ m.length) (h : lv n ≤ lv m) : ∃ r, Lim r ∧ lv r = lv m - lv n ∧ r.length = m.length ∧ Ev (fun k => quadformref01_difference.f k m n) r := by
  obtain ⟨r, c, h1, h2, h3, h4⟩ := diff_loop hm hn hb _ 0 [] 0 rfl (by omega) rfl Lim.nil (by omega) (by simp [lv])
  refine ⟨r, h1, ?_, h3, Ev.congr (fun _ => rfl) h4⟩
  rw [List.take_of_length_le hl] at h2
  have h5 := lv_lt h1
  rw [h3] at h5
  have : c = 0 := by
    cases c with
    | zero => rfl
    | succ c =>
      have : 4294967296 ^ m.length * 1 ≤ 4294967296 ^ m.length * (c + 1) := Nat.mul_le_mul_left _ (by omega)
      omega
  subst this
  omega
theorem len_le {a b : Nat} (h : a ≤ b) : (limbs a).length ≤ (limbs b).length := limbs_len.2 (Nat.lt_of_le_of_lt h (limbs_len.1 (Nat.le_refl _)))
theorem len_lv {l : List Int} (h : Lim l) : (limbs (lv l)).length ≤ l.length := limbs_len.2 (lv_lt h)
theorem add_ok {l l' : List Int} (s s' : Bool) (h : Lim l) (h' : Lim l') (hb : l.length < 8796093022208) (hb' : l'.length < 8796093022208) : Ev (fun k => quadformref01_Add.f k s l s' l') (mk (iv s l + iv s' l')) := by
  have hx := len_lv h
  have hy := len_lv h'
  refine Ev.bind (trim_ok h (by omega)) (Ev.bind (trim_ok h' (by omega)) ?_)
  by_cases hs : s = s'
  · subst hs
    obtain ⟨r, h1, h2, h3, h4⟩ := sum_ok (lim_limbs (lv l)) (lim_limbs (lv l')) (by omega) (by omega)
    have h5 := make_ok s h1 (by rw [h3]; omega)
    rw [lv_limbs, lv_limbs] at h2
    rw [show iv s r = iv s l + iv s l' from by unfold iv; split <;> omega] at h5
    refine Ev.congr (f := fun k => _) (fun k => ?_) (Ev.bind h4 (f := fun k t => (quadformref01_Make.f k s t).bind fun b => some (b.1, b.2)) (ev_eta h5))
    rw [if_pos (by simp)]
  · refine Ev.congr (f := fun k => _) (fun k => ?_) (Ev.bind (cmp_ok (a := lv l) (b := lv l') (by omega)) (f := fun k t117 => (if t117 ≥ 0 then ((quadformref01_difference.f k (limbs (lv l)) (limbs (lv l'))).bind fun t118 => ((quadformref01_Make.f k s t118).bind fun bt121 => (some (bt121.1, bt121.2)))) else ((quadformref01_difference.f k (limbs (lv l')) (limbs (lv l))).bind fun t125 => ((quadformref01_Make.f k s' t125).bind fun bt128 => (some (bt128.1, bt128.2)))))) ?_)
    · rw [if_neg (by simpa using hs)]
    · by_cases hc : lv l' ≤ lv l
      · obtain ⟨r, h1, h2, h3, h4⟩ := diff_ok (lim_limbs (lv l)) (lim_limbs (lv l')) (by omega) (len_le hc) (by rw [lv_limbs, lv_limbs]; exact hc)
        have h5 := make_ok s h1 (by rw [h3]; omega)
        rw [lv_limbs, lv_limbs] at h2
        rw [show iv s r = iv s l + iv s' l' from by cases s <;> cases s' <;> simp_all [iv] <;> omega] at h5
        refine Ev.congr (f := fun k => _) (fun k => ?_) (Ev.bind h4 (f := fun k t => (quadformref01_Make.f k s t).bind fun b => some (b.1, b.2)) (ev_eta h5))
        rw [if_pos (by unfold cm; split <;> (try split) <;> omega)]
      · obtain ⟨r, h1, h2, h3, h4⟩ := diff_ok (lim_limbs (lv l')) (lim_limbs (lv l)) (by omega) (len_le (by omega)) (by rw [lv_limbs, lv_limbs]; omega)
        have h5 := make_ok s' h1 (by rw [h3]; omega)
        rw [lv_limbs, lv_limbs] at h2
        rw [show iv s' r = iv s l + iv s' l' from by cases s <;> cases s' <;> simp_all [iv] <;> omega] at h5
        refine Ev.congr (f := fun k => _) (fun k => ?_) (Ev.bind h4 (f := fun k t => (quadformref01_Make.f k s' t).bind fun b => some (b.1, b.2)) (ev_eta h5))
        rw [cm_lt (by omega), if_neg (by omega)]
theorem sub_ok {l l' : List Int} (s s' : Bool) (h : Lim l) (h' : Lim l') (hb : l.length < 8796093022208) (hb' : l'.length < 8796093022208) : Ev (fun k => quadformref01_Sub.f k s l s' l') (mk (iv s l - iv s' l')) := by
  have h1 := neg_ok s' h' (by omega)
  have hy := len_lv h'
  have h2 := add_ok s (mk (-iv s' l')).1 h (lim_mk (-iv s' l')) hb (by simp only [mk]; rw [Int.natAbs_neg, iv_natAbs]; omega)
  rw [iv_mk, ← Int.sub_eq_add_neg] at h2
  exact Ev.bind h1 (ev_eta h2)
end Go.Proofs.Ytcjhbjfkcmncpaa.Q
namespace Go.Proofs.Ytcjhbjfkcmncpaa.Q
open Go.RowKit Go.Proofs.YtcjhbjfkcmncpaaW.PrintWords Go.Proofs.YtcjhbjfkcmncpaaW.PrintLast Go.Proofs.YtcjhbjfkcmncpaaW.PrintMore
open Go.Proofs.Ytcjhbjfkcmncpaa.LI
theorem wraps_u64 (n : Int) (h₀ : 0 ≤ n) (h₁ : n < 2 ^ 64) : IntKind.u64.wrap n = n := by rw [wu64]; omega
theorem wraps_u32 (n : Int) (h₀ : 0 ≤ n) (h₁ : n < 2 ^ 32) : IntKind.u32.wrap n = n := by rw [Go.IntKind.wrap_u32]; omega
theorem low_step {l : List Int} (hl : Lim l) (k : Nat) {u i : Nat} (hi : i < l.length) (h2 : i < 2) (hu : u < 4294967296 ^ i) :
    quadformref01_low.l0 (k + 1) l (u : Int) (i : Int) = quadformref01_low.l0 k l ((u + 4294967296 ^ i * dg l i : Nat) : Int) ((i + 1 : Nat) : Int) := by
  have hd := dg_lt hl i
  simp only [quadformref01_low.l0]
  rw [rd_dg hl, if_pos (by omega), if_pos (by omega), if_pos (by omega), wr64 (x := 32 * (i : Int)) (by omega) (by omega), if_pos (by omega), wr_up (by omega), wraps_u64 _ (by omega) (by omega)]
  congr 1
  have h3 : i = 0 ∨ i = 1 := by omega
  rcases h3 with rfl | rfl
  · have e : shl .u64 ((dg l 0 : Nat) : Int) (32 * ((0 : Nat) : Int)) = ((dg l 0 : Nat) : Int) := by
      unfold shl
      rw [wu64]
      simp
      omega
    rw [e]
    have hu0 : u = 0 := by simpa using hu
    subst hu0
    rw [(Go.bits_nat .u64 64 (by decide) wraps_u64 0 (dg l 0) (by omega) (by omega)).2]
    simp
  · have e : shl .u64 ((dg l 1 : Nat) : Int) (32 * ((1 : Nat) : Int)) = ((4294967296 * dg l 1 : Nat) : Int) := by
      unfold shl
      rw [wu64, show min (32 * ((1 : Nat) : Int)).toNat IntKind.u64.bits = 32 from by decide]
      omega
    have hu1 : u < 4294967296 := by simpa using hu
    rw [e, (Go.bits_nat .u64 64 (by decide) wraps_u64 u (4294967296 * dg l 1) (by omega) (by omega)).2, Nat.or_comm, show 4294967296 * dg l 1 = 2 ^ 32 * dg l 1 from by omega, ← Nat.two_pow_add_eq_or_of_lt (by omega) (dg l 1)]
    omega
theorem low_ok {l : List Int} (hl : Lim l) : Ev (fun k => quadformref01_low.f k l) ((lv (l.take 2) : Nat) : Int) := by
  have stop : ∀ (u : Nat) (i : Nat), ¬ (i < l.length ∧ i < 2) → Ev (fun k => quadformref01_low.l0 k l (u : Int) (i : Int)) (u : Int) := by
    intro u i h
    refine Ev.step (f := fun _ => some (u : Int)) (fun k => ?_) (Ev.now _)
    simp only [quadformref01_low.l0]
    by_cases h1 : i < l.length
    · rw [if_pos (by omega), if_neg (by omega)]
    · rw [if_neg (by omega)]
  have hf : ∀ k, quadformref01_low.f k l = quadformref01_low.l0 k l ((0 : Nat) : Int) ((0 : Nat) : Int) := fun _ => rfl
  refine Ev.congr hf ?_
  have h1 : lv (l.take 1) = dg l 0 := by have := lv_take_succ l 0; simpa [lv] using this
  have h2 : lv (l.take 2) = lv (l.take 1) + 4294967296 * dg l 1 := by have := lv_take_succ l 1; simpa using this
  by_cases hl0 : 0 < l.length
  · refine Ev.step (fun k => low_step hl k (u := 0) (i := 0) hl0 (by omega) (by omega)) ?_
    have hd := dg_lt hl 0
    by_cases hl1 : 1 < l.length
    · refine Ev.step (fun k => low_step hl k (i := 1) hl1 (by omega) (by simp; omega)) ?_
      have e : 0 + 4294967296 ^ 0 * dg l 0 + 4294967296 ^ 1 * dg l 1 = lv (l.take 2) := by rw [h2, h1]; simp
      rw [e]
      exact stop _ 2 (by omega)
    · have e : 0 + 4294967296 ^ 0 * dg l 0 = lv (l.take 2) := by
        rw [dg_out (i := 1) (by omega)] at h2
        rw [h2, h1]
        simp
      rw [e]
      exact stop _ 1 (by omega)
  · have e : 0 = lv (l.take 2) := by
      rw [dg_out (i := 1) (by omega)] at h2
      rw [dg_out (i := 0) (by omega)] at h1
      omega
    have := stop (lv (l.take 2)) 0 (by omega)
    rw [← e] at this ⊢
    exact this
theorem double_loop {m : List Int} (hm : Lim m) (hb : m.length < 17592186044416) (b0 : Nat) : ∀ (t i : Nat) (out : List Int) (b : Nat), m.length - i = t → i ≤ m.length → out.length = i → Lim out → b ≤ 1 →
    lv out + 4294967296 ^ i * b = 2 * lv (m.take i) + b0 → ∃ r, Lim r ∧ lv r = 2 * lv m + b0 ∧ r.length = m.length + 1 ∧ Ev (fun k => quadformref01_double.l0 k (b : Int) out m (m.length : Int) (i : Int)) r := by
  intro t
  induction t with
  | zero =>
    intro i out b ht hi hl ho hc he
    refine ⟨out ++ [(b : Int)], lim_snoc ho (by omega), ?_, by simp; omega, ?_⟩
    · rw [lv_snoc, hl, he, List.take_of_length_le (by omega)]
    · refine Ev.step (f := fun _ => some (out ++ [(b : Int)])) (fun k => ?_) (Ev.now _)
      simp only [quadformref01_double.l0]
      rw [if_neg (by omega), if_pos (by omega)]
  | succ t ih =>
    intro i out b ht hi hl ho hc he
    have hd := dg_lt hm i
    have h1 := lv_take_succ m i
    obtain ⟨r, hr1, hr2, hr3, hr4⟩ := ih (i + 1) (out ++ [((dg m i * 2 % 4294967296 + b : Nat) : Int)]) (dg m i / 2147483648) (by omega) (by omega) (by simp [hl]) (lim_snoc ho (by omega)) (by omega) (by
      rw [lv_snoc, hl, h1, Nat.pow_succ, Nat.mul_assoc]
      have h3 : 4294967296 ^ i * (dg m i * 2 % 4294967296 + b + 4294967296 * (dg m i / 2147483648)) = 4294967296 ^ i * (dg m i * 2 + b) := by
        congr 1
        omega
      rw [Nat.mul_add, Nat.mul_add, Nat.mul_add, ← Nat.mul_assoc _ (dg m i) 2] at h3
      rw [Nat.mul_add]
      omega)
    refine ⟨r, hr1, hr2, hr3, ?_⟩
    refine Ev.step (fun k => ?_) hr4
    simp only [quadformref01_double.l0]
    rw [rd_dg hm, if_pos (by omega), if_pos (by omega), if_pos (by omega), if_pos (by omega), wr_up (by omega)]
    have e : Go.bits .or .u32 ((dg m i : Int) * 2 % 4294967296) (b : Int) = ((dg m i * 2 % 4294967296 + b : Nat) : Int) := by
      rw [Go.bits_join .u32 32 (by decide) wraps_u32 1 _ _ (by omega) (by omega) (by omega) (by omega) (by omega) (by omega)]
      omega
    rw [e]
    rfl
theorem double_ok {m : List Int} (hm : Lim m) (hb : m.length < 17592186044416) {b : Nat} (h : b ≤ 1) : ∃ r, Lim r ∧ lv r = 2 * lv m + b ∧ r.length = m.length + 1 ∧ Ev (fun k => quadformref01_double.f k m (b : Int)) r := by
  obtain ⟨r, h1, h2, h3, h4⟩ := double_loop hm hb b _ 0 [] b rfl (by omega) rfl Lim.nil h (by simp [lv])
  exact ⟨r, h1, h2, h3, Ev.congr (fun _ => rfl) h4⟩
theorem pow32 (j : Nat) : 4294967296 ^ j = 2 ^ (32 * j) := by rw [Nat.pow_mul]
/-- A bit of a digit is a bit of the number. -/
theorem dg_bit {l : List Int} (h : Lim l) (j r : Nat) (hr : r < 32) : dg l j / 2 ^ r % 2 = lv l / 2 ^ (32 * j + r) % 2 := by
  rw [dg_lv h, pow32, Nat.pow_add, ← Nat.div_div_eq_div_mul]
  generalize lv l / 2 ^ (32 * j) = x
  obtain ⟨c, hc⟩ : ∃ c, 32 = r + (c + 1) := ⟨31 - r, by omega⟩
  have e : (4294967296 : Nat) = 2 ^ r * (2 ^ c * 2) := by rw [← Nat.pow_succ, ← Nat.pow_add, ← hc]
  rw [e, Nat.mod_mul_right_div_self, Nat.mul_comm (2 ^ c) 2, Nat.mod_mul_right_mod]
theorem dg_low {l : List Int} (h : Lim l) (j r : Nat) (hr : r < 32) (hd : 2 ^ (32 * j + r + 1) ∣ lv l) : dg l j % 2 ^ (r + 1) = 0 := by
  rw [dg_lv h, pow32]
  obtain ⟨q, hq⟩ := hd
  rw [hq, Nat.add_assoc, Nat.pow_add, Nat.mul_assoc, Nat.mul_div_cancel_left _ (Nat.two_pow_pos _)]
  have e : (4294967296 : Nat) = 2 ^ (r + 1) * 2 ^ (31 - r) := by rw [← Nat.pow_add, show r + 1 + (31 - r) = 32 from by omega]
  rw [e, Nat.mod_mul_right_mod, Nat.mul_mod_right]
theorem shr_bit (x : Nat) (r : Nat) (hx : x < 4294967296) (hr : r < 32) : Go.bits .and .u32 (shr .u32 (x : Int) (r : Int)) 1 = ((x / 2 ^ r % 2 : Nat) : Int) := by
  have e : shr .u32 (x : Int) (r : Int) = ((x / 2 ^ r : Nat) : Int) := by
    unfold shr
    rw [show min ((r : Int)).toNat IntKind.u32.bits = r from by rw [Int.toNat_natCast]; exact Nat.min_eq_left (show r ≤ 32 by omega)]
    simp
  have hlt : x / 2 ^ r < 4294967296 := Nat.lt_of_le_of_lt (Nat.div_le_self _ _) hx
  rw [e]
  generalize x / 2 ^ r = y at hlt ⊢
  have := Go.bits_mask .u32 32 (by decide) wraps_u32 1 (by decide) (y : Int) (by omega) (by omega)
  rw [show ((2 : Int) ^ 1 - 1) = 1 from rfl, show ((2 : Int) ^ 1) = 2 from rfl] at this
  rw [this]
  omega
theorem or_bit (x : Nat) (r : Nat) (hx : x < 4294967296) (hr : r < 32) (h0 : x % 2 ^ (r + 1) = 0) : Go.bits .or .u32 (x : Int) (shl .u32 1 (r : Int)) = ((x + 2 ^ r : Nat) : Int) := by
  have hp : 2 ^ r < 2 ^ (r + 1) := Nat.pow_lt_pow_right (by omega) (by omega)
  have hp2 : 2 ^ (r + 1) ≤ 2 ^ 32 := Nat.pow_le_pow_right (by omega) (by omega)
  have e : shl .u32 1 (r : Int) = ((2 ^ r : Nat) : Int) := by
    unfold shl
    rw [show min ((r : Int)).toNat IntKind.u32.bits = r from by rw [Int.toNat_natCast]; exact Nat.min_eq_left (show r ≤ 32 by omega), Go.IntKind.wrap_u32, Int.one_mul, show ((2 : Int) ^ r) = ((2 ^ r : Nat) : Int) from by simp]
    omega
  rw [e]
  obtain ⟨q, hq⟩ := Nat.dvd_of_mod_eq_zero h0
  rw [(Go.bits_nat .u32 32 (by decide) wraps_u32 x (2 ^ r) (by omega) (by omega)).2, hq, ← Nat.two_pow_add_eq_or_of_lt hp q]
theorem step_div (a b N : Nat) (hN : 0 < N) (hb : b ≤ 1) : (2 * (a % N) + b ≥ N → (2 * a + b) / N = 2 * (a / N) + 1 ∧ (2 * a + b) % N = 2 * (a % N) + b - N) ∧ (2 * (a % N) + b < N → (2 * a + b) / N = 2 * (a / N) ∧ (2 * a + b) % N = 2 * (a % N) + b) := by
  have h1 := Nat.div_add_mod a N
  have h2 := Nat.mod_lt a hN
  constructor
  · intro h
    have e : 2 * a + b = (2 * (a % N) + b - N) + N * (2 * (a / N) + 1) := by
      rw [Nat.mul_add, Nat.mul_left_comm]
      omega
    rw [e, Nat.add_mul_div_left _ _ hN, Nat.add_mul_mod_self_left, Nat.div_eq_of_lt (by omega), Nat.mod_eq_of_lt (by omega)]
    omega
  · intro h
    have e : 2 * a + b = (2 * (a % N) + b) + N * (2 * (a / N)) := by
      rw [Nat.mul_left_comm]
      omega
    rw [e, Nat.add_mul_div_left _ _ hN, Nat.add_mul_mod_self_left, Nat.div_eq_of_lt (by omega), Nat.mod_eq_of_lt (by omega)]
    omega
theorem half_bit (M i : Nat) : M / 2 ^ i = 2 * (M / 2 ^ (i + 1)) + M / 2 ^ i % 2 := by
  rw [Nat.pow_succ, ← Nat.div_div_eq_div_mul]
  omega
theorem divide_loop {m : List Int} (hm : Lim m) (hb : m.length < 17592186044416) {N : Nat} (hN : 0 < N) (hNl : (limbs N).length < 8796093022208) : ∀ (i : Nat) (q : List Int), i ≤ 32 * m.length → Lim q → q.length = m.length → lv q = lv m / 2 ^ i / N * 2 ^ i →
    Ev (fun k => quadformref01_divide.l0 k m (limbs N) q (limbs (lv m / 2 ^ i % N)) ((i : Int) - 1)) (limbs (lv m / N), limbs (lv m % N)) := by
  intro i
  induction i with
  | zero =>
    intro q _ hq hl he
    rw [Nat.pow_zero, Nat.div_one, Nat.mul_one] at he
    refine Ev.step (f := fun k => (quadformref01_trim.f k q).bind fun t114 => some (t114, limbs (lv m / 2 ^ 0 % N))) (fun k => ?_) ?_
    · simp only [quadformref01_divide.l0]
      rw [if_neg (by omega)]
    · refine Ev.bind (trim_ok hq (by omega)) ?_
      rw [he, Nat.pow_zero, Nat.div_one]
      exact Ev.now _
  | succ i ih =>
    intro q hi hq hl he
    have hj : i / 32 < m.length := by omega
    have hij : 32 * (i / 32) + i % 32 = i := by omega
    have hdm := dg_lt hm (i / 32)
    have hdq := dg_lt hq (i / 32)
    have hbit := dg_bit hm (i / 32) (i % 32) (by omega)
    rw [hij] at hbit
    have hh := half_bit (lv m) i
    have hlt := Nat.mod_lt (lv m / 2 ^ (i + 1)) hN
    have hlen := len_le (Nat.le_of_lt hlt)
    obtain ⟨s1, s2⟩ := step_div (lv m / 2 ^ (i + 1)) (lv m / 2 ^ i % 2) N hN (by omega)
    rw [← hh] at s1 s2
    obtain ⟨r, hr1, hr2, hr3, hr4⟩ := double_ok (lim_limbs (lv m / 2 ^ (i + 1) % N)) (by omega) (b := lv m / 2 ^ i % 2) (by omega)
    rw [lv_limbs] at hr2
    have htr := trim_ok hr1 (by omega)
    have hrl := len_lv hr1
    have hcm := cmp_ok (a := lv r) (b := N) (by omega)
    refine Ev.step (f := fun k => (quadformref01_double.f k (limbs (lv m / 2 ^ (i + 1) % N)) ((lv m / 2 ^ i % 2 : Nat) : Int)).bind fun t118 => ((quadformref01_trim.f k t118).bind fun t121 => ((quadformref01_cmp.f k t121 (limbs N)).bind fun t124 => (if t124 ≥ 0 then ((quadformref01_difference.f k t121 (limbs N)).bind fun t125 => ((quadformref01_trim.f k t125).bind fun t128 => (quadformref01_divide.l0 k m (limbs N) (q.set (i / 32) ((dg q (i / 32) + 2 ^ (i % 32) : Nat) : Int)) t128 ((i : Int) - 1)))) else (quadformref01_divide.l0 k m (limbs N) q t121 ((i : Int) - 1)))))) (fun k => ?_) ?_
    · simp only [quadformref01_divide.l0]
      have e1 : wrap64 (Int.tdiv (((i + 1 : Nat) : Int) - 1) 32) = ((i / 32 : Nat) : Int) := by
        rw [show ((i + 1 : Nat) : Int) - 1 = (i : Int) from by omega, show Int.tdiv (i : Int) 32 = ((i / 32 : Nat) : Int) from (Int.ofNat_tdiv i 32).symm]
        exact wr64 (by omega) (by omega)
      have e2 : Int.tmod (((i + 1 : Nat) : Int) - 1) 32 = ((i % 32 : Nat) : Int) := by
        rw [show ((i + 1 : Nat) : Int) - 1 = (i : Int) from by omega]
        exact (Int.ofNat_tmod i 32).symm
      have e3 : wrap64 (((i + 1 : Nat) : Int) - 1 - 1) = (i : Int) - 1 := by
        rw [wr64 (by omega) (by omega)]
        omega
      rw [if_pos (by omega), e1, e2, e3, if_pos (by omega), if_pos (by omega), if_pos (by omega), rd_dg hm, shr_bit _ _ hdm (by omega), hbit]
      congr 1
      funext t118
      congr 1
      funext t121
      congr 1
      funext t124
      have hz : dg q (i / 32) % 2 ^ (i % 32 + 1) = 0 := dg_low hq _ _ (by omega) (by rw [hij, he]; exact Nat.dvd_mul_left _ _)
      by_cases ht : t124 ≥ 0
      · rw [if_pos ht, if_pos ht]
        congr 1
        funext t125
        congr 1
        funext t128
        rw [if_pos (show ((i / 32 : Nat) : Int) < (q.length : Int) by omega), rd_dg hq, or_bit _ _ hdq (by omega) hz]
        rfl
      · rw [if_neg ht, if_neg ht]
    · refine Ev.bind hr4 (Ev.bind htr (Ev.bind hcm ?_))
      by_cases hge : N ≤ lv r
      · obtain ⟨d, hd1, hd2, hd3, hd4⟩ := diff_ok (lim_limbs (lv r)) (lim_limbs N) (by omega) (len_le hge) (by rw [lv_limbs, lv_limbs]; exact hge)
        rw [lv_limbs, lv_limbs] at hd2
        obtain ⟨s3, s4⟩ := s1 (by omega)
        have htd := trim_ok hd1 (by omega)
        rw [show lv d = lv m / 2 ^ i % N from by omega] at htd
        refine Ev.congr (f := fun k => (quadformref01_difference.f k (limbs (lv r)) (limbs N)).bind fun t125 => ((quadformref01_trim.f k t125).bind fun t128 => (quadformref01_divide.l0 k m (limbs N) (q.set (i / 32) ((dg q (i / 32) + 2 ^ (i % 32) : Nat) : Int)) t128 ((i : Int) - 1)))) (fun k => ?_) (Ev.bind hd4 (Ev.bind htd (ih _ (by omega) (hq.set _ ?_) (by rw [List.length_set, hl]) ?_)))
        · rw [if_pos (by unfold cm; split <;> (try split) <;> omega)]
        · have hz : dg q (i / 32) % 2 ^ (i % 32 + 1) = 0 := dg_low hq _ _ (by omega) (by rw [hij, he]; exact Nat.dvd_mul_left _ _)
          obtain ⟨c, hc⟩ := Nat.dvd_of_mod_eq_zero hz
          have hp2 : (4294967296 : Nat) = 2 ^ (i % 32 + 1) * 2 ^ (31 - i % 32) := by rw [← Nat.pow_add, show i % 32 + 1 + (31 - i % 32) = 32 from by omega]
          have hc1 : c + 1 ≤ 2 ^ (31 - i % 32) := by
            apply Classical.byContradiction
            intro hcc
            have := Nat.mul_le_mul_left (2 ^ (i % 32 + 1)) (show 2 ^ (31 - i % 32) ≤ c by omega)
            omega
          have h5 := Nat.mul_le_mul_left (2 ^ (i % 32 + 1)) hc1
          have h6 : 2 ^ (i % 32) < 2 ^ (i % 32 + 1) := Nat.pow_lt_pow_right (by omega) (by omega)
          rw [Nat.mul_add] at h5
          omega
        · rw [lv_set (by omega), he, s3, pow32, ← Nat.pow_add, hij, Nat.pow_succ]
          generalize 2 ^ i = P
          generalize lv m / (P * 2) / N = z
          rw [Nat.add_mul, Nat.mul_comm 2 z, Nat.mul_assoc, Nat.mul_comm 2 P]
          omega
      · obtain ⟨s3, s4⟩ := s2 (by omega)
        refine Ev.congr (fun k => ?_) (ih q (by omega) hq hl ?_)
        · rw [if_neg (by rw [cm_lt (by omega)]; decide), show lv r = lv m / 2 ^ i % N from by omega]
        · rw [he, s3, Nat.pow_succ]
          generalize 2 ^ i = P
          generalize lv m / (P * 2) / N = z
          rw [Nat.mul_comm 2 z, Nat.mul_assoc, Nat.mul_comm 2 P]
theorem divide_ok {M N : Nat} (hM : (limbs M).length < 17592186044416) (hN : (limbs N).length < 8796093022208) (h0 : 0 < N) : Ev (fun k => quadformref01_divide.f k (limbs M) (limbs N)) (limbs (M / N), limbs (M % N)) := by
  by_cases hs : (limbs M).length ≤ 2 ∧ (limbs N).length ≤ 2
  · have hM2 := limbs_len.1 hs.1
    have hN2 := limbs_len.1 hs.2
    have l1 := low_ok (lim_limbs M)
    have l2 := low_ok (lim_limbs N)
    rw [List.take_of_length_le hs.1, lv_limbs] at l1
    rw [List.take_of_length_le hs.2, lv_limbs] at l2
    refine Ev.congr (f := fun k => quadformref01_divide.j0 k (limbs M) (limbs N) [] true) (fun k => ?_) ?_
    · unfold quadformref01_divide.f
      rw [if_pos (by omega), decide_eq_true (by omega)]
    · refine Ev.step (f := fun k => (quadformref01_low.f k (limbs M)).bind fun t101 => ((quadformref01_low.f k (limbs N)).bind fun t102 => (if t102 = 0 then (none) else ((quadformref01_word.f k false (IntKind.u64.wrap (Int.tdiv t101 t102))).bind fun bt103 => ((quadformref01_word.f k false (Int.tmod t101 t102)).bind fun bt107 => (some (bt103.2, bt107.2))))))) (fun k => ?_) ?_
      · simp only [quadformref01_divide.j0, if_true]
      · have hq : M / N < 18446744073709551616 := Nat.lt_of_le_of_lt (Nat.div_le_self _ _) (by omega)
        have hr : M % N < 18446744073709551616 := Nat.lt_of_le_of_lt (Nat.mod_le _ _) (by omega)
        refine Ev.bind l1 (Ev.bind l2 ?_)
        refine Ev.congr (fun k => ?_) (Ev.bind (word_ok false hq) (f := fun k bt103 => (quadformref01_word.f k false ((M % N : Nat) : Int)).bind fun bt107 => (some (bt103.2, bt107.2))) (Ev.bind (word_ok false hr) (Ev.congr (f := fun _ => some (limbs (M / N), limbs (M % N))) (fun k => rfl) (Ev.now _))))
        rw [if_neg (by omega), show Int.tdiv (M : Int) (N : Int) = ((M / N : Nat) : Int) from (Int.ofNat_tdiv M N).symm, show Int.tmod (M : Int) (N : Int) = ((M % N : Nat) : Int) from (Int.ofNat_tmod M N).symm]
        generalize M / N = y at hq ⊢
        rw [wraps_u64 _ (by omega) (by omega)]
  · refine Ev.congr (f := fun k => quadformref01_divide.j0 k (limbs M) (limbs N) [] false) (fun k => ?_) ?_
    · unfold quadformref01_divide.f
      by_cases h1 : (limbs M).length ≤ 2
      · rw [if_pos (by omega), decide_eq_false (by omega)]
      · rw [if_neg (by omega)]
    · have hlp := divide_loop (lim_limbs M) hM h0 hN (32 * (limbs M).length) (List.replicate (limbs M).length 0) (Nat.le_refl _) (Lim.replicate _) (by simp)
      have hz : M / 2 ^ (32 * (limbs M).length) = 0 := Nat.div_eq_of_lt (by rw [← pow32]; exact limbs_len.1 (Nat.le_refl _))
      rw [lv_limbs, hz, lv_zeros, Nat.zero_div, Nat.zero_mul, Nat.zero_mod, limbs_zero] at hlp
      refine Ev.step (fun k => ?_) (hlp rfl)
      simp only [quadformref01_divide.j0]
      rw [if_neg (by decide), if_pos (by omega), if_pos (by omega), wr64 (x := 32 * ((limbs M).length : Int)) (by omega) (by omega), wr64 (by omega) (by omega), Int.toNat_natCast]
      rfl
theorem ediv_of {a b Q R : Int} (h : R + b * Q = a) (h0 : 0 ≤ R) (h1 : R < b.natAbs) (hb : b ≠ 0) : a / b = Q ∧ a % b = R := by
  have e : a % b = R := by
    rw [← h, Int.add_mul_emod_self_left]
    by_cases hp : 0 < b
    · exact Int.emod_eq_of_lt h0 (by omega)
    · rw [← Int.emod_neg]
      exact Int.emod_eq_of_lt h0 (by omega)
  refine ⟨?_, e⟩
  have h2 := Int.mul_ediv_add_emod a b
  rw [e] at h2
  exact Int.eq_of_mul_eq_mul_left hb (by omega)
theorem divmod_ok {l l' : List Int} (s s' : Bool) (h : Lim l) (h' : Lim l') (hb : l.length < 1099511627776) (hb' : l'.length < 1099511627776) (h0 : iv s' l' ≠ 0) :
    Ev (fun k => quadformref01_DivMod.f k s l s' l') ((mk (iv s l / iv s' l')).1, (mk (iv s l / iv s' l')).2, (mk (iv s l % iv s' l')).1, (mk (iv s l % iv s' l')).2, true) := by
  have hx := len_lv h
  have hy := len_lv h'
  have hN : 0 < lv l' := by unfold iv at h0; split at h0 <;> omega
  have hNl := limbs_len_pos.2 (Nat.ne_of_gt hN)
  generalize hM' : lv l = M at *
  generalize hN' : lv l' = N at *
  have hqM : M / N ≤ M := Nat.div_le_self _ _
  have hrM : M % N < N := Nat.mod_lt _ hN
  have hdm := Nat.div_add_mod M N
  have hlq := len_le hqM
  have hlr := len_le (Nat.le_of_lt hrM)
  have t1 := trim_ok h (by omega)
  have t2 := trim_ok h' (by omega)
  rw [hM'] at t1
  rw [hN'] at t2
  refine Ev.bind t1 (Ev.bind t2 ?_)
  refine Ev.congr (f := fun k => (quadformref01_divide.f k (limbs M) (limbs N)).bind fun bt111 => ((quadformref01_Make.f k (s != s') bt111.1).bind fun bt117 => ((quadformref01_Make.f k s bt111.2).bind fun bt121 => ((quadformref01_Sign.f k bt121.1 bt121.2).bind fun t127 => (quadformref01_DivMod.j0 k (limbs N) (decide (t127 < 0)) s' l' bt117.1 bt117.2 bt121.1 bt121.2))))) (fun k => ?_) ?_
  · rw [if_neg (by omega)]
  have hdv := divide_ok (M := M) (N := N) (by omega) (by omega) hN
  generalize M / N = q at *
  generalize M % N = r at *
  have m1 := make_ok (s != s') (lim_limbs q) (by omega)
  have m2 := make_ok s (lim_limbs r) (by omega)
  refine Ev.bind hdv ?_
  refine Ev.bind m1 ?_
  refine Ev.bind m2 ?_
  refine Ev.bind (sign_ok _ (lim_mk _) (by simp only [mk]; rw [iv_natAbs, lv_limbs]; omega)) ?_
  rw [iv_mk]
  have hiv : iv s' l' = if s' = true then -(N : Int) else N := by unfold iv; rw [hN']
  have hia : iv s l = if s = true then -(M : Int) else M := by unfold iv; rw [hM']
  have hab : (iv s' l').natAbs = N := by rw [iv_natAbs, hN']
  have hdz : (N : Int) * (q : Int) + (r : Int) = M := by exact_mod_cast hdm
  have hQ : iv (s != s') (limbs q) = if (s != s') = true then -(q : Int) else (q : Int) := by unfold iv; rw [lv_limbs]
  have hR : iv s (limbs r) = if s = true then -(r : Int) else (r : Int) := by unfold iv; rw [lv_limbs]
  generalize iv (s != s') (limbs q) = Q at *
  generalize iv s (limbs r) = R at *
  have hlR : (mk R).2.length < 1099511627776 := by
    simp only [mk]
    rw [show R.natAbs = r from by rw [hR]; split <;> omega]
    omega
  have hlQ : (mk Q).2.length < 1099511627776 := by
    simp only [mk]
    rw [show Q.natAbs = q from by rw [hQ]; split <;> omega]
    omega
  by_cases hneg : R < 0
  · have hs : s = true := by
      cases s
      · rw [if_neg (by decide)] at hR; omega
      · rfl
    subst hs
    rw [if_pos rfl] at hR hia
    rw [if_neg (by omega), if_pos hneg, decide_eq_true (show (-1 : Int) < 0 by decide)]
    refine Ev.step (f := fun k => (quadformref01_Make.f k false (limbs N)).bind fun bt128 => ((quadformref01_Add.f k (mk R).1 (mk R).2 bt128.1 bt128.2).bind fun bt132 => ((quadformref01_Sign.f k s' l').bind fun t136 => (quadformref01_DivMod.j1 k (decide (t136 < 0)) (mk Q).1 (mk Q).2 bt132.1 bt132.2)))) (fun k => ?_) ?_
    · simp only [quadformref01_DivMod.j0, if_true]
    · have a1 := make_ok false (lim_limbs N) (by omega)
      rw [show iv false (limbs N) = (N : Int) from by unfold iv; rw [lv_limbs]; rfl] at a1
      have a2 := add_ok (mk R).1 (mk (N : Int)).1 (lim_mk R) (lim_mk (N : Int)) (by omega) (by simp only [mk, Int.natAbs_natCast]; omega)
      rw [iv_mk, iv_mk] at a2
      refine Ev.bind a1 (Ev.bind a2 (Ev.bind (sign_ok s' h' (by omega)) ?_))
      have hone := small_ok (n := 1) (by decide) (by decide)
      have hl1 : (mk 1).2.length < 8796093022208 := by decide
      have hsum : R + N = iv true l % iv s' l' := by
        refine ((ediv_of (Q := if s' = true then (q : Int) + 1 else -(q : Int) - 1) ?_ (by omega) (by rw [hab]; omega) h0).2).symm
        rw [hia, hiv]
        cases s'
        · simp only [Bool.false_eq_true, if_false]
          rw [Int.mul_sub, Int.mul_neg]
          omega
        · simp only [if_true]
          rw [Int.neg_mul, Int.mul_add]
          omega
      have hquo : iv true l / iv s' l' = if s' = true then (q : Int) + 1 else -(q : Int) - 1 := by
        refine (ediv_of (R := R + N) ?_ (by omega) (by rw [hab]; omega) h0).1
        rw [hia, hiv]
        cases s'
        · simp only [Bool.false_eq_true, if_false]
          rw [Int.mul_sub, Int.mul_neg]
          omega
        · simp only [if_true]
          rw [Int.neg_mul, Int.mul_add]
          omega
      rw [hsum, hquo]
      cases s'
      · have hQ' : Q = -(q : Int) := by rw [hQ]; rfl
        have hi : iv false l' = (N : Int) := hiv
        rw [hi, if_neg (by omega), if_neg (by omega), decide_eq_false (by decide)]
        have a3 := sub_ok (mk Q).1 (mk 1).1 (lim_mk Q) (lim_mk 1) (by omega) hl1
        rw [iv_mk, iv_mk, hQ'] at a3
        refine Ev.step (f := fun k => (quadformref01_Small.f k 1).bind fun bt145 => ((quadformref01_Sub.f k (mk Q).1 (mk Q).2 bt145.1 bt145.2).bind fun bt149 => (some (bt149.1, bt149.2, (mk (iv true l % (N : Int))).1, (mk (iv true l % (N : Int))).2, true)))) (fun k => ?_) ?_
        · simp only [quadformref01_DivMod.j1, Bool.false_eq_true, if_false]
        · rw [hQ'] at *
          exact Ev.bind hone (Ev.bind a3 (Ev.now _))
      · have hQ' : Q = (q : Int) := by rw [hQ]; rfl
        have hi : iv true l' = -(N : Int) := hiv
        rw [hi, if_neg (by omega), if_pos (by omega), decide_eq_true (by decide)]
        have a3 := add_ok (mk Q).1 (mk 1).1 (lim_mk Q) (lim_mk 1) (by omega) hl1
        rw [iv_mk, iv_mk, hQ'] at a3
        refine Ev.step (f := fun k => (quadformref01_Small.f k 1).bind fun bt137 => ((quadformref01_Add.f k (mk Q).1 (mk Q).2 bt137.1 bt137.2).bind fun bt141 => (some (bt141.1, bt141.2, (mk (iv true l % -(N : Int))).1, (mk (iv true l % -(N : Int))).2, true)))) (fun k => ?_) ?_
        · simp only [quadformref01_DivMod.j1, if_true]
        · rw [hQ'] at *
          exact Ev.bind hone (Ev.bind a3 (Ev.now _))
  · have hres : iv s l / iv s' l' = Q ∧ iv s l % iv s' l' = R := by
      have hR' : R = (r : Int) := by
        cases s
        · rw [hR]; rfl
        · rw [hR, if_pos rfl] at hneg ⊢; omega
      refine ediv_of ?_ (by omega) (by rw [hab]; omega) h0
      rw [hia, hiv, hQ]
      have hr' : s = true → r = 0 := by
        rintro rfl
        rw [if_pos rfl] at hR
        omega
      cases s <;> cases s'
      · simp only [Bool.false_eq_true, bne_self_eq_false, if_false]; omega
      · simp only [Bool.false_eq_true, if_false, if_true, show (false != true) = true from rfl, Int.neg_mul, Int.mul_neg, Int.neg_neg]; omega
      · have := hr' rfl
        simp only [Bool.false_eq_true, if_false, if_true, show (true != false) = true from rfl, Int.mul_neg]; omega
      · have := hr' rfl
        simp only [Bool.false_eq_true, bne_self_eq_false, if_false, if_true, Int.neg_mul]; omega
    rw [hres.1, hres.2]
    refine Ev.step (f := fun _ => some ((mk Q).1, (mk Q).2, (mk R).1, (mk R).2, true)) (fun k => ?_) (Ev.now _)
    have : ¬ ((if R = 0 then (0 : Int) else if R < 0 then -1 else 1) < 0) := by split <;> (try split) <;> omega
    simp only [quadformref01_DivMod.j0, decide_eq_false this, Bool.false_eq_true, if_false]
theorem rem_ok {l l' : List Int} (s s' : Bool) (h : Lim l) (h' : Lim l') (hb : l.length < 1099511627776) (hb' : l'.length < 1099511627776) (h0 : iv s' l' ≠ 0) : Ev (fun k => quadformref01_Rem.f k s l s' l') (mk (iv s l % iv s' l')) :=
  Ev.bind (divmod_ok s s' h h' hb hb' h0) (Ev.now _)
theorem gcd_loop : ∀ (b a : Nat), (limbs a).length < 1099511627776 → (limbs b).length < 1099511627776 → Ev (fun k => quadformref01_Gcd.l0 k (mk (a : Int)).1 (mk (a : Int)).2 (mk (b : Int)).1 (mk (b : Int)).2) (mk (Nat.gcd a b : Nat)) := by
  intro b
  induction b using Nat.strongRecOn with
  | ind b ih =>
    intro a ha hb
    have hsg := sign_ok (mk (b : Int)).1 (lim_mk (b : Int)) (by simp only [mk, Int.natAbs_natCast]; omega)
    rw [iv_mk] at hsg
    refine Ev.step (fun k => by simp only [quadformref01_Gcd.l0]; rfl) ?_
    refine Ev.bind hsg ?_
    by_cases h0 : b = 0
    · subst h0
      refine Ev.congr (f := fun _ => some (mk (Nat.gcd a 0 : Nat))) (fun k => ?_) (Ev.now _)
      rw [if_pos (by simp), Nat.gcd_zero_right]
    · have hr := rem_ok (mk (a : Int)).1 (mk (b : Int)).1 (lim_mk (a : Int)) (lim_mk (b : Int)) (by simp only [mk, Int.natAbs_natCast]; omega) (by simp only [mk, Int.natAbs_natCast]; omega) (by rw [iv_mk]; omega)
      rw [iv_mk, iv_mk, show (a : Int) % (b : Int) = ((a % b : Nat) : Int) from by omega] at hr
      have hlt := Nat.mod_lt a (show 0 < b by omega)
      have hl := len_le (Nat.le_of_lt hlt)
      have hi := ih (a % b) hlt b hb (by omega)
      rw [Nat.gcd_comm b, ← Nat.gcd_rec, Nat.gcd_comm b] at hi
      refine Ev.congr (fun k => ?_) (Ev.bind hr (f := fun k bt => quadformref01_Gcd.l0 k (mk (b : Int)).1 (mk (b : Int)).2 bt.1 bt.2) hi)
      rw [if_neg (by rw [if_neg (by omega)]; split <;> decide)]
theorem gcd_ok {l l' : List Int} (s s' : Bool) (h : Lim l) (h' : Lim l') (hb : l.length < 1099511627776) (hb' : l'.length < 1099511627776) : Ev (fun k => quadformref01_Gcd.f k s l s' l') (mk (Nat.gcd (lv l) (lv l') : Nat)) :=
  Ev.bind (abs_ok s h (by omega)) (Ev.bind (abs_ok s' h' (by omega)) (gcd_loop _ _ (by have := len_lv h; omega) (by have := len_lv h'; omega)))
end Go.Proofs.Ytcjhbjfkcmncpaa.Q
namespace Go.Proofs.Ytcjhbjfkcmncpaa.Num
def Pr (p : Nat) : Prop := 2 ≤ p ∧ ∀ d, d ∣ p → d = 1 ∨ d = p
theorem Pr.coprime {p a : Nat} (hp : Pr p) (h : ¬ p ∣ a) : Nat.Coprime p a := by
  rcases hp.2 (Nat.gcd p a) (Nat.gcd_dvd_left _ _) with h1 | h1
  · exact h1
  · exact absurd (h1 ▸ Nat.gcd_dvd_right p a) h
theorem Pr.dvd_mul {p a b : Nat} (hp : Pr p) (h : p ∣ a * b) : p ∣ a ∨ p ∣ b := by
  by_cases ha : p ∣ a
  · exact .inl ha
  · exact .inr ((hp.coprime ha).dvd_of_dvd_mul_left h)
theorem Pr.not_dvd_one {p : Nat} (hp : Pr p) : ¬ p ∣ 1 := by
  intro h
  have := Nat.le_of_dvd (by omega) h
  have := hp.1
  omega
theorem Pr.eq_of_dvd {p q : Nat} (hp : Pr p) (hq : Pr q) (h : p ∣ q) : p = q := by
  rcases hq.2 p h with h | h
  · have := hp.1; omega
  · exact h
theorem pr_of_noDiv {n c : Nat} (hn : 2 ≤ n) (h : ∀ q, 2 ≤ q → q ∣ n → q < n → c ≤ q) (hc : n < c * c) : Pr n := by
  refine ⟨hn, fun d hd => ?_⟩
  obtain ⟨e, he⟩ := hd
  by_cases h1 : d = 1
  · exact .inl h1
  by_cases h2 : d = n
  · exact .inr h2
  exfalso
  have hd0 : d ≠ 0 := by rintro rfl; simp at he; omega
  have he0 : e ≠ 0 := by rintro rfl; simp at he; omega
  have he1 : e ≠ 1 := by rintro rfl; simp at he; omega
  have hdn : d < n := by
    have : d ≤ n := by rw [he]; exact Nat.le_mul_of_pos_right _ (by omega)
    omega
  have hen : e < n := by
    have : e ≤ n := by rw [he]; exact Nat.le_mul_of_pos_left _ (by omega)
    by_cases q : e = n
    · exfalso
      have h3 : d * e = 1 * e := by rw [← he, q]; omega
      have := Nat.eq_of_mul_eq_mul_right (by omega) h3
      omega
    · omega
  have a := h d (by omega) ⟨e, he⟩ hdn
  have b := h e (by omega) ⟨d, by rw [he, Nat.mul_comm]⟩ hen
  have := Nat.mul_le_mul a b
  omega
theorem pr_of_least {n c : Nat} (hc : 2 ≤ c) (hd : c ∣ n) (h : ∀ q, 2 ≤ q → q ∣ n → c ≤ q) : Pr c := by
  refine ⟨hc, fun d hdc => ?_⟩
  by_cases h1 : d = 1
  · exact .inl h1
  have hd0 : d ≠ 0 := by rintro rfl; simp at hdc; omega
  have a := h d (by omega) (Nat.dvd_trans hdc hd)
  have b := Nat.le_of_dvd (by omega) hdc
  exact .inr (by omega)
theorem exists_prime (n : Nat) (h2 : 2 ≤ n) : ∃ p, Pr p ∧ p ∣ n := by
  have : ∀ M k, k ≤ M → 2 ≤ k → ∃ p, Pr p ∧ p ∣ k := by
    intro M
    induction M with
    | zero => intro k _ _; omega
    | succ M ihM =>
      intro k hk hk2
      by_cases hp : Pr k
      · exact ⟨k, hp, Nat.dvd_refl _⟩
      · have : ∃ d, d ∣ k ∧ d ≠ 1 ∧ d ≠ k := by
          apply Classical.byContradiction
          intro hno
          refine hp ⟨hk2, fun d hd => ?_⟩
          apply Classical.byContradiction
          intro hor
          exact hno ⟨d, hd, fun e => hor (.inl e), fun e => hor (.inr e)⟩
        obtain ⟨d, hd, hd1, hdk⟩ := this
        have hle := Nat.le_of_dvd (by omega) hd
        have hd0 : d ≠ 0 := by rintro rfl; simp at hd; omega
        obtain ⟨p, hp, hpd⟩ := ihM d (by omega) (by omega)
        exact ⟨p, hp, Nat.dvd_trans hpd hd⟩
  exact this n n (Nat.le_refl _) h2
/-- `L` is the list of the prime powers of `n`, ascending, all primes above `lo`. -/
def Fac : Nat → Nat → List (Nat × Nat) → Prop
  | _, n, [] => n = 1
  | lo, n, (p, e) :: L => lo < p ∧ Pr p ∧ 1 ≤ e ∧ ∃ m, n = p ^ e * m ∧ Fac p m L
theorem Fac.pos : ∀ {L : List (Nat × Nat)} {lo n : Nat}, Fac lo n L → 1 ≤ n
  | [], _, _, h => by simp only [Fac] at h; omega
  | (p, e) :: L, _, _, h => by
    obtain ⟨_, hp, _, m, rfl, hm⟩ := h
    have := hm.pos
    have h2 : 0 < p ^ e := Nat.pow_pos (by have := hp.1; omega)
    exact Nat.mul_pos h2 (by omega)
theorem Fac.mono : ∀ {L : List (Nat × Nat)} {lo lo' n : Nat}, Fac lo n L → lo' ≤ lo → Fac lo' n L
  | [], _, _, _, h, _ => h
  | (p, e) :: L, _, _, _, h, hl => by
    obtain ⟨h1, h2⟩ := h
    exact ⟨by omega, h2⟩
theorem Fac.two_pow_le : ∀ {L : List (Nat × Nat)} {lo n : Nat}, Fac lo n L → 2 ^ L.length ≤ n
  | [], _, _, h => by simp only [Fac] at h; simp [h]
  | (p, e) :: L, _, _, h => by
    obtain ⟨_, hp, he, m, rfl, hm⟩ := h
    have := hm.two_pow_le
    have h2 : 2 ^ 1 ≤ p ^ e := Nat.le_trans (Nat.pow_le_pow_right (by omega) he) (Nat.pow_le_pow_left hp.1 e)
    rw [List.length_cons, Nat.pow_succ, Nat.mul_comm]
    exact Nat.mul_le_mul h2 this
theorem Fac.mem : ∀ {L : List (Nat × Nat)} {lo n : Nat}, Fac lo n L → ∀ x ∈ L, Pr x.1 ∧ 1 ≤ x.2 ∧ x.1 ^ x.2 ∣ n ∧ lo < x.1
  | [], _, _, _ => by simp
  | (p, e) :: L, lo, n, h => by
    obtain ⟨h1, hp, he, m, rfl, hm⟩ := h
    intro x hx
    rcases List.mem_cons.1 hx with rfl | hx
    · exact ⟨hp, he, ⟨m, rfl⟩, h1⟩
    · obtain ⟨a, b, c, d⟩ := hm.mem x hx
      exact ⟨a, b, Nat.dvd_trans c ⟨p ^ e, Nat.mul_comm _ _⟩, by omega⟩
theorem Fac.raise : ∀ {L : List (Nat × Nat)} {lo lo' n : Nat}, Fac lo n L → (∀ q, Pr q → q ∣ n → lo' < q) → Fac lo' n L
  | [], _, _, _, h, _ => h
  | (p, e) :: L, _, _, n, h, hq => by
    obtain ⟨_, hp, he, m, hn, hm⟩ := h
    refine ⟨hq p hp ?_, hp, he, m, hn, hm⟩
    rw [hn]
    exact Nat.dvd_trans ⟨p ^ (e - 1), by rw [← Nat.pow_succ']; congr 1; omega⟩ (Nat.dvd_mul_right _ _)
theorem exists_strip {d : Nat} (hd : 2 ≤ d) : ∀ (N n : Nat), n ≤ N → 1 ≤ n → ∃ f m, n = d ^ f * m ∧ ¬ d ∣ m ∧ 1 ≤ m ∧ (d ∣ n → 1 ≤ f)
  | 0, n, h1, h2 => by omega
  | N + 1, n, h1, h2 => by
    by_cases h : d ∣ n
    · obtain ⟨m, rfl⟩ := h
      have hm1 : 1 ≤ m := by
        rcases Nat.eq_zero_or_pos m with rfl | h
        · simp at h2
        · exact h
      have : 2 * m ≤ d * m := Nat.mul_le_mul_right m hd
      obtain ⟨f, m', hm, hn, h1', _⟩ := exists_strip hd N m (by omega) hm1
      refine ⟨f + 1, m', ?_, hn, h1', fun _ => by omega⟩
      rw [Nat.pow_succ', Nat.mul_assoc, ← hm]
    · exact ⟨0, n, by simp, h, h2, fun hd => absurd hd h⟩
inductive JR (s : Nat → Int) : Nat → Int → Prop
  | one : JR s 1 1
  | mul {p n : Nat} {v : Int} : Pr p → JR s n v → JR s (p * n) (s p * v)
theorem JR.pos {s : Nat → Int} {n : Nat} {v : Int} (h : JR s n v) : 1 ≤ n := by
  induction h with
  | one => exact Nat.le_refl _
  | mul hp _ ih => exact Nat.mul_pos (by have := hp.1; omega) ih
theorem JR.div {s : Nat → Int} {n : Nat} {v : Int} (h : JR s n v) {q : Nat} (hq : Pr q) : q ∣ n → ∃ m v', n = q * m ∧ JR s m v' ∧ v = s q * v' := by
  induction h with
  | one => exact fun h => absurd h hq.not_dvd_one
  | @mul p n v hp hn ih =>
    intro hd
    by_cases hqp : q = p
    · subst hqp; exact ⟨n, v, rfl, hn, rfl⟩
    · rcases hq.dvd_mul hd with hd | hd
      · exact absurd (hq.eq_of_dvd hp hd) hqp
      · obtain ⟨m, v', rfl, hm, rfl⟩ := ih hd
        refine ⟨p * m, s p * v', ?_, .mul hp hm, ?_⟩
        · rw [← Nat.mul_assoc, ← Nat.mul_assoc, Nat.mul_comm p q]
        · rw [← Int.mul_assoc, ← Int.mul_assoc, Int.mul_comm (s p)]
theorem JR.fn {s : Nat → Int} {n : Nat} {v : Int} (h : JR s n v) : ∀ {v' : Int}, JR s n v' → v = v' := by
  induction h with
  | one =>
    intro v' h'
    generalize hn : 1 = n at h'
    cases h' with
    | one => rfl
    | @mul p n v hp h2 => exact absurd ⟨n, hn⟩ hp.not_dvd_one
  | @mul p n v hp hn ih =>
    intro v' h'
    obtain ⟨m, w, hm, hw, rfl⟩ := h'.div hp ⟨n, rfl⟩
    have : n = m := Nat.eq_of_mul_eq_mul_left (by have := hp.1; omega) hm
    subst this
    rw [ih hw]
theorem JR.times {s : Nat → Int} {m : Nat} {v : Int} (h : JR s m v) {n : Nat} {w : Int} (h' : JR s n w) : JR s (m * n) (v * w) := by
  induction h with
  | one => simpa using h'
  | mul hp _ ih => rw [Nat.mul_assoc, Int.mul_assoc]; exact .mul hp ih
theorem JR.prime {s : Nat → Int} {p : Nat} (hp : Pr p) : JR s p (s p) := by
  have := JR.mul (s := s) hp JR.one
  simpa using this
theorem JR.pow {s : Nat → Int} {p : Nat} (hp : Pr p) : ∀ e, JR s (p ^ e) (s p ^ e)
  | 0 => by simpa using JR.one
  | e + 1 => by
    rw [Nat.pow_succ, Int.pow_succ]
    exact (JR.pow hp e).times (JR.prime hp)
/-- The value of a factor list. -/
def val (s : Nat → Int) : List (Nat × Nat) → Int
  | [] => 1
  | (p, e) :: L => s p ^ e * val s L
theorem Fac.jr {s : Nat → Int} : ∀ {L : List (Nat × Nat)} {lo n : Nat}, Fac lo n L → JR s n (val s L)
  | [], _, _, h => by simp only [Fac] at h; subst h; exact JR.one
  | (p, e) :: L, _, _, h => by
    obtain ⟨_, hp, _, m, rfl, hm⟩ := h
    exact (JR.pow hp e).times hm.jr
theorem JR.congr {s t : Nat → Int} {n : Nat} {v : Int} (h : JR s n v) : (∀ p, Pr p → p ∣ n → s p = t p) → JR t n v := by
  induction h with
  | one => exact fun _ => .one
  | @mul p n v hp hn ih =>
    intro hst
    rw [hst p hp ⟨n, rfl⟩]
    exact .mul hp (ih fun q hq hd => hst q hq (Nat.dvd_trans hd ⟨p, Nat.mul_comm _ _⟩))
theorem JR.mulFn {s t : Nat → Int} {n : Nat} {v : Int} (h : JR s n v) : ∀ {w : Int}, JR t n w → JR (fun p => s p * t p) n (v * w) := by
  induction h with
  | one =>
    intro w hw
    have := (JR.one (s := t)).fn hw
    subst this
    exact .one
  | @mul p n v hp hn ih =>
    intro w hw
    obtain ⟨m, w', hm, hw', rfl⟩ := hw.div hp ⟨n, rfl⟩
    have : n = m := Nat.eq_of_mul_eq_mul_left (by have := hp.1; omega) hm
    subst this
    have := JR.mul (s := fun p => s p * t p) hp (ih hw')
    have e : s p * t p * (v * w') = s p * v * (t p * w') := by grind
    rw [e] at this
    exact this
theorem JR.exists {s : Nat → Int} : ∀ (N n : Nat), n ≤ N → 1 ≤ n → ∃ v, JR s n v := by
  intro N
  induction N with
  | zero => intro n h1 h2; omega
  | succ N ih =>
    intro n h1 h2
    by_cases hn : n = 1
    · subst hn; exact ⟨1, .one⟩
    obtain ⟨p, hp, m, rfl⟩ := exists_prime n (by omega)
    have hm1 : 1 ≤ m := by
      rcases Nat.eq_zero_or_pos m with rfl | h
      · simp at h2
      · exact h
    have hlt : m < p * m := by
      have := Nat.mul_le_mul_right m hp.1
      omega
    obtain ⟨v, hv⟩ := ih m (by omega) hm1
    exact ⟨_, .mul hp hv⟩
end Go.Proofs.Ytcjhbjfkcmncpaa.Num
