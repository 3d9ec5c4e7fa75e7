/- Regions and code: what the evaluator says of a piece of code is what the model does. -/
import Derived.Test.YtbchgegclgpdhaaE12
namespace Go.Proofs.Ytbchgegclgpdhaa.E
open Go
set_option linter.unusedVariables false
set_option linter.unusedSimpArgs false

theorem maskFold (acc : List Nat) (k : Nat) : ∀ (l : List Edge) (m : Nat), (l.foldl (fun m e => cond (Region.binds .any e) (m ||| (2 ^ e.on ||| acc.getD e.on 0)) m) m).testBit k = true →
    m.testBit k = true ∨ ∃ e ∈ l, Region.binds .any e = true ∧ (k = e.on ∨ (acc.getD e.on 0).testBit k = true)
  | [], m, h => .inl h
  | e :: l, m, h => by
    rcases maskFold acc k l _ h with h | ⟨e', h1, h2⟩
    · simp only at h
      cases hb : Region.binds .any e with
      | false => rw [hb] at h; exact .inl h
      | true =>
        rw [hb, cond_true, Nat.testBit_or, Nat.testBit_or, Nat.testBit_two_pow] at h
        simp only [Bool.or_eq_true, decide_eq_true_eq] at h
        rcases h with h | h | h
        · exact .inl h
        · exact .inr ⟨e, List.mem_cons_self, hb, .inl h.symm⟩
        · exact .inr ⟨e, List.mem_cons_self, hb, .inr h⟩
    · exact .inr ⟨e', List.mem_cons_of_mem _ h1, h2⟩
theorem masksGo_spec : ∀ (l : List Oper) (acc : List Nat), (masksGo l acc).take acc.length = acc ∧
    ∀ (k : Nat) (o : Oper), l[k]? = some o → (masksGo l acc).getD (acc.length + k) 0 = maskOf ((masksGo l acc).take (acc.length + k)) o
  | [], acc => ⟨List.take_length, fun k o h => by cases h⟩
  | o :: l, acc => by
    obtain ⟨h1, h2⟩ := masksGo_spec l (acc ++ [maskOf acc o])
    have hlen : (acc ++ [maskOf acc o]).length = acc.length + 1 := by simp
    rw [hlen] at h1 h2
    have ht : (masksGo l (acc ++ [maskOf acc o])).take acc.length = acc := by
      have := congrArg (List.take acc.length) h1
      rw [List.take_take, Nat.min_eq_left (by omega)] at this
      rw [this, List.take_left]
    refine ⟨ht, fun k o' hk => ?_⟩
    cases k with
    | zero =>
      cases hk
      show (masksGo l (acc ++ [maskOf acc o])).getD acc.length 0 = maskOf ((masksGo l (acc ++ [maskOf acc o])).take acc.length) o
      rw [ht]
      have := congrArg (fun l => List.getD l acc.length 0) h1
      simp only [List.getD, List.getElem?_take] at this
      rw [if_pos (by omega)] at this
      simpa [List.getD] using this
    | succ k =>
      have := h2 k o' hk
      rw [show acc.length + 1 + k = acc.length + (k + 1) by omega] at this
      exact this
theorem masks_closed (ops : Array Oper) : Closed ops (masks ops.toList) := by
  intro j o ho k hk
  have h := (masksGo_spec ops.toList []).2 j o (by simpa using ho)
  simp only [List.length_nil, Nat.zero_add] at h
  have hk : ((masksGo ops.toList []).getD j 0).testBit k = true := hk
  rw [h] at hk
  rcases maskFold _ k _ 0 hk with h0 | ⟨e, he, hb, h1⟩
  · simp at h0
  · refine ⟨e, by simpa using he, hb, h1.imp id fun h2 => ?_⟩
    show ((masksGo ops.toList []).getD e.on 0).testBit k = true
    by_cases hlt : e.on < j
    · simpa [List.getD, List.getElem?_take, hlt] using h2
    · simp [List.getD, List.getElem?_take, hlt] at h2
section
variable {P : Program} {E : Env} {C : Ctx} {ops : Array Oper} {R : Type} {r : R}
/-- A region. -/
theorem regK_ok (hT : Tabs E P) {ρ : Orc} (hρ : OrcOk P E ρ) {β : OrcB} (hβ : OrcBOk P E β) {h : HT} {d : Bool} {id : Nat} {s : S} {K : S → Option R} (hk : regK E ρ β C.n h ops d s K = some r)
    {a : Act} {w : World} (hs : SR C s a w) {Q : Exit → Act → World → Prop} (hq : ∀ s' a' w', K s' = some r → SR C s' a' w' → Q .normal a' w') : (Code.region id ops d).wp P Q a w := by
  unfold regK at hk
  obtain ⟨φ, hs⟩ := hs
  have hs1 : SRp C φ (prep h ops s) a w := (SRp.frz h.frz hs).kill _
  obtain ⟨evs, s', h1, h2, h3⟩ := opsK_ok (ops := ops) hT hρ hβ ops.toList 0 [] _ (fun k o hk => by simpa using hk) hk
  have hidx : (((ops.toList.zip evs).zipIdx 0).map fun x => (x.2, x.1.1, x.1.2)).map (·.1) = List.range ops.size := by
    rw [List.map_map]
    apply List.ext_getElem?
    intro i
    simp only [List.getElem?_map, List.getElem?_zipIdx]
    by_cases hi : i < ops.size
    · have hi2 : i < (ops.toList.zip evs).length := by rw [List.length_zip, h1]; simpa using hi
      rw [List.getElem?_eq_getElem hi2]
      simp [hi]
    · rw [List.getElem?_eq_none (by simp; omega), List.getElem?_eq_none (by simp; omega)]; rfl
  cases d with
  | false =>
    refine wp_region ?_
    rw [← hidx]
    exact Run.wp _ _ _ h2 (fun a' w' hs' => hq _ _ _ h3 hs') a w ⟨φ, hs1⟩
  | true =>
    rw [cond_true] at h3
    obtain ⟨h4, h3⟩ := cond_some' h3
    rw [List.nil_append] at h4
    simp only [drawOk, List.all_eq_true, List.mem_range, Bool.and_eq_true, Bool.or_eq_true] at h4
    refine wp_region_any hT.mixed ?_
    have hw : SRp C φ (prep h ops s) a { w with drawn := w.drawn + 1 } := hs1.later ⟨rfl, rfl, rfl, Nat.le_refl _, fun _ _ => rfl⟩
    have hzl : (ops.toList.zip evs).length = ops.size := by rw [List.length_zip, h1]; simp
    refine wpAny_run (masks_closed ops) (fun j o ho e he hb => ?_) ops.size _ _ _ s' (by simp [h1]) (by simp) (fun i hi => ?_) ?_ (fun j k hj => ?_) ?_ h2 (fun a' w' hs' => hq _ _ _ h3 hs') a _ ⟨φ, hw⟩
    · have hj := (Array.getElem?_eq_some_iff.1 ho).1
      have h5 := (h4 j hj).1
      have : ops.getD j default = o := by simp [Array.getD_eq_getD_getElem?, ho]
      rw [this] at h5
      simp only [back, List.all_eq_true, Bool.or_eq_true, Bool.not_eq_true'] at h5
      rcases h5 e (by simpa using he) with h6 | h6
      · rw [hb] at h6; cases h6
      · simp only [Nat.blt] at h6; exact Nat.le_of_ble_eq_true h6
    · rw [hidx]
      simp [Array.getD_eq_getD_getElem?, hi]
    · rw [hidx]; exact List.nodup_range
    · intro _
      by_cases hjs : j < ops.size
      · simp [Array.getD_eq_getD_getElem?, hjs] at hj
      · simp [Array.getD_eq_getD_getElem?, hjs] at hj
    · rw [List.pairwise_iff_getElem]
      intro i j hi hj hij
      simp only [List.length_map, List.length_zipIdx, hzl] at hi hj
      simp only [List.getElem_map, List.getElem_zipIdx, Nat.zero_add, List.getElem_zip]
      refine ⟨hij, ((h4 j hj).2 i hij).imp (fun h5 => h5) fun h5 => pairOk_spec ?_⟩
      have e1 : ops.getD i default = ops.toList[i]'(by simpa using hi) := by simp [Array.getD_eq_getD_getElem?, hi]
      have e2 : ops.getD j default = ops.toList[j]'(by simpa using hj) := by simp [Array.getD_eq_getD_getElem?, hj]
      have hl : ∀ i (hi : i < ops.size), ((ops.toList.zip evs).map fun x => x.2.lg x.1.dst).getD i ⟨[], [], true⟩ = (evs[i]'(by rw [h1]; simpa using hi)).lg (ops.toList[i]'(by simpa using hi)).dst := fun i hi => by
        have : i < ((ops.toList.zip evs).map fun x => x.2.lg x.1.dst).length := by rw [List.length_map, hzl]; exact hi
        rw [List.getD, List.getElem?_eq_getElem this]
        simp
      rw [e1, e2, hl i hi, hl j hj] at h5
      exact h5

def Ex.to : Ex → Exit
  | .normal => .normal
  | .exit i => .exit i
  | .ret => .ret
/-- From s the code comes, by some exit, to a state of which T holds. -/
def Reach (P : Program) (C : Ctx) (c : Code) (s : S) (T : Ex → S → Prop) : Prop :=
  ∀ (a : Act) (w : World), SR C s a w → ∀ (Q : Exit → Act → World → Prop), (∀ e s' a' w', T e s' → SR C s' a' w' → Q e.to a' w') → c.wp P Q a w
/-- The loops of a piece of code, with their numbers. -/
def loops : Code → HT → List (Nat × Code)
  | .seq a b, h => loops a h.l ++ loops b h.r
  | .cond _ a b, h => loops a h.l ++ loops b h.r
  | .block _ c, h => loops c h
  | .scope c, h => loops c h
  | .loop c, .lp i => [(i, c)]
  | _, _ => []
abbrev Lam := (R : Type) → Nat → S → (Ex → S → Option R) → Option R
/-- What is known of the loops is so. -/
def LamOk (P : Program) (C : Ctx) (Λ : Lam) (l : List (Nat × Code)) : Prop :=
  ∀ p ∈ l, ∀ (R : Type) (s : S) (K : Ex → S → Option R) (r : R), Λ R p.1 s K = some r → Reach P C (.loop p.2) s fun e s' => K e s' = some r
theorem semK_ok (hT : Tabs E P) {ρ : Orc} (hρ : OrcOk P E ρ) {β : OrcB} (hβ : OrcBOk P E β) {Λ : Lam} : ∀ (c : Code) (h : HT) (s : S) (K : Ex → S → Option R), LamOk P C Λ (loops c h) →
    semK E ρ β C.n (Λ R) c h s K = some r → Reach P C c s fun e s' => K e s' = some r
  | .skip, h, s, K, _, hk => fun a w hs Q hq => wp_skip (hq .normal s a w hk hs)
  | .label _, h, s, K, _, hk => fun a w hs Q hq => wp_label (hq .normal s a w hk hs)
  | .region id ops d, h, s, K, _, hk => fun a w hs Q hq => regK_ok hT hρ hβ hk hs fun s' a' w' h1 h2 => hq .normal s' a' w' h1 h2
  | .seq x y, h, s, K, hl, hk => fun a w hs Q hq => by
    refine wp_seq (semK_ok hT hρ hβ x h.l s _ (fun p hp => hl p (List.mem_append_left _ hp)) hk a w hs _ fun e s' a' w' h1 h2 => ?_)
    cases e with
    | normal => exact semK_ok hT hρ hβ y h.r s' K (fun p hp => hl p (List.mem_append_right _ hp)) h1 a' w' h2 Q hq
    | exit i => exact hq (.exit i) s' a' w' h1 h2
    | ret => exact hq .ret s' a' w' h1 h2
  | .cond c x y, h, s, K, hl, hk => fun a w hs Q hq => by
    simp only [semK] at hk
    cases hc : s.ev c with
    | v t b =>
      cases t with
      | bool =>
        rw [hc] at hk
        obtain ⟨φ, hs⟩ := hs
        have h1 := ev_ok hs c
        rw [hc] at h1
        have h1 := RepV.bool h1
        refine wp_cond h1 ?_
        cases b with
        | true => exact semK_ok hT hρ hβ x h.l s K (fun p hp => hl p (List.mem_append_left _ hp)) hk a w ⟨φ, hs⟩ Q hq
        | false => exact semK_ok hT hρ hβ y h.r s K (fun p hp => hl p (List.mem_append_right _ hp)) hk a w ⟨φ, hs⟩ Q hq
      | _ => rw [hc] at hk; cases hk
    | _ => rw [hc] at hk; cases hk
  | .block i c, h, s, K, hl, hk => fun a w hs Q hq => by
    refine wp_block (semK_ok hT hρ hβ c h s _ hl hk a w hs _ fun e s' a' w' h1 h2 => ?_)
    cases e with
    | normal => exact hq .normal s' a' w' h1 h2
    | ret => exact hq .ret s' a' w' h1 h2
    | exit j =>
      simp only [nbeq] at h1
      show Exit.inBlock i Q (.exit j) a' w'
      simp only [Exit.inBlock]
      by_cases e : j = i
      · rw [if_pos e]
        rw [decide_eq_true e] at h1
        exact hq .normal s' a' w' h1 h2
      · rw [if_neg e]
        rw [decide_eq_false e] at h1
        exact hq (.exit j) s' a' w' h1 h2
  | .loop c, h, s, K, hl, hk => by
    cases h with
    | lp i => exact hl (i, c) (by simp [loops]) R s K r hk
    | _ => cases hk
  | .scope c, h, s, K, hl, hk => fun a w hs Q hq => by
    refine wp_scope_straight (semK_ok hT hρ hβ c h s K hl hk a w hs _ fun e s' a' w' h1 h2 => ?_)
    have := hq e s' a' w' h1 h2
    cases e <;> exact this
  | .exit i, h, s, K, _, hk => fun a w hs Q hq => wp_exit (hq (.exit i) s a w hk hs)
  | .ret, h, s, K, _, hk => fun a w hs Q hq => wp_ret (hq .ret s a w hk hs)
  | .rangeFunc _ _ _ _, h, s, K, _, hk => by cases hk
  | .goto _, h, s, K, _, hk => by cases hk
  | .refuse _, h, s, K, _, hk => by cases hk
end
end Go.Proofs.Ytbchgegclgpdhaa.E
