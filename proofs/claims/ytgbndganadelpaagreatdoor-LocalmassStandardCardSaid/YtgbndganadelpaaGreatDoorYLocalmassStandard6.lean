/- Regions and code: what the evaluator says of a piece of code is what the model does. -/
import Derived.Test.YtgbndganadelpaaGreatDoorYLocalmassStandard5
import Derived.LoopN
namespace Go.Proofs.YtgbndganadelpaaGreatDoor.E
open Go
set_option linter.unusedVariables false
set_option linter.unusedSimpArgs false
theorem maskFold (acc : List Nat) (k : Nat) : ∀ (l : List Edge) (m : Nat), (l.foldl (fun m e => cond (Region.binds .any e) (m ||| (2 ^ e.on ||| acc.getD e.on 0)) m) m).testBit k = true →
    m.testBit k = true ∨ ∃ e ∈ l, Region.binds .any e = true ∧ (k = e.on ∨ (acc.getD e.on 0).testBit k = true)
  | [], m, h => .inl h
  | e :: l, m, h => by
    rcases maskFold acc k l _ h with h | ⟨e', h1, h2⟩
    · simp only at h
      cases hb : Region.binds .any e with
      | false => rw [hb] at h; exact .inl h
      | true =>
        rw [hb, cond_true, Nat.testBit_or, Nat.testBit_or, Nat.testBit_two_pow] at h
        simp only [Bool.or_eq_true, decide_eq_true_eq] at h
        rcases h with h | h | h
        · exact .inl h
        · exact .inr ⟨e, List.mem_cons_self, hb, .inl h.symm⟩
        · exact .inr ⟨e, List.mem_cons_self, hb, .inr h⟩
    · exact .inr ⟨e', List.mem_cons_of_mem _ h1, h2⟩
theorem masksGo_spec : ∀ (l : List Oper) (acc : List Nat), (masksGo l acc).take acc.length = acc ∧
    ∀ (k : Nat) (o : Oper), l[k]? = some o → (masksGo l acc).getD (acc.length + k) 0 = maskOf ((masksGo l acc).take (acc.length + k)) o
  | [], acc => ⟨List.take_length, fun k o h => by cases h⟩
  | o :: l, acc => by
    obtain ⟨h1, h2⟩ := masksGo_spec l (acc ++ [maskOf acc o])
    have hlen : (acc ++ [maskOf acc o]).length = acc.length + 1 := by simp
    rw [hlen] at h1 h2
    have ht : (masksGo l (acc ++ [maskOf acc o])).take acc.length = acc := by
      have := congrArg (List.take acc.length) h1
      rw [List.take_take, Nat.min_eq_left (by omega)] at this
      rw [this, List.take_left]
    refine ⟨ht, fun k o' hk => ?_⟩
    cases k with
    | zero =>
      cases hk
      show (masksGo l (acc ++ [maskOf acc o])).getD acc.length 0 = maskOf ((masksGo l (acc ++ [maskOf acc o])).take acc.length) o
      rw [ht]
      have := congrArg (fun l => List.getD l acc.length 0) h1
      simp only [List.getD, List.getElem?_take] at this
      rw [if_pos (by omega)] at this
      simpa [List.getD] using this
    | succ k =>
      have := h2 k o' hk
      rw [show acc.length + 1 + k = acc.length + (k + 1) by omega] at this
      exact this
theorem masks_closed (ops : Array Oper) : Closed ops (masks ops.toList) := by
  intro j o ho k hk
  have h := (masksGo_spec ops.toList []).2 j o (by simpa using ho)
  simp only [List.length_nil, Nat.zero_add] at h
  have hk : ((masksGo ops.toList []).getD j 0).testBit k = true := hk
  rw [h] at hk
  rcases maskFold _ k _ 0 hk with h0 | ⟨e, he, hb, h1⟩
  · simp at h0
  · refine ⟨e, by simpa using he, hb, h1.imp id fun h2 => ?_⟩
    show ((masksGo ops.toList []).getD e.on 0).testBit k = true
    by_cases hlt : e.on < j
    · simpa [List.getD, List.getElem?_take, hlt] using h2
    · simp [List.getD, List.getElem?_take, hlt] at h2
section
variable {P : Program} {E : Env} {C : Ctx} {ops : Array Oper} {R : Type} {r : R}
/-- A region. -/
theorem regK_ok (hT : Tabs E P) {ρ : Orc} (hρ : OrcOk P E ρ) {β : OrcB} (hβ : OrcBOk P E β) {h : HT} {d : Bool} {id : Nat} {s : S} {K : S → Option R} (hk : regK E ρ β C.n h ops d s K = some r)
    {a : Act} {w : World} (hs : SR C s a w) {Q : Exit → Act → World → Prop} (hq : ∀ s' a' w', K s' = some r → SR C s' a' w' → Q .normal a' w') : (Code.region id ops d).wp P Q a w := by
  unfold regK at hk
  obtain ⟨φ, hs⟩ := hs
  have hs1 : SRp C φ (prep h ops s) a w := (SRp.frz h.frz hs).kill _
  obtain ⟨evs, s', h1, h2, h3⟩ := opsK_ok (ops := ops) hT hρ hβ ops.toList 0 [] _ (fun k o hk => by simpa using hk) hk
  have hidx : (((ops.toList.zip evs).zipIdx 0).map fun x => (x.2, x.1.1, x.1.2)).map (·.1) = List.range ops.size := by
    rw [List.map_map]
    apply List.ext_getElem?
    intro i
    simp only [List.getElem?_map, List.getElem?_zipIdx]
    by_cases hi : i < ops.size
    · have hi2 : i < (ops.toList.zip evs).length := by rw [List.length_zip, h1]; simpa using hi
      rw [List.getElem?_eq_getElem hi2]
      simp [hi]
    · rw [List.getElem?_eq_none (by simp; omega), List.getElem?_eq_none (by simp; omega)]; rfl
  cases d with
  | false =>
    refine wp_region ?_
    rw [← hidx]
    exact Run.wp _ _ _ h2 (fun a' w' hs' => hq _ _ _ h3 hs') a w ⟨φ, hs1⟩
  | true =>
    rw [cond_true] at h3
    obtain ⟨h4, h3⟩ := cond_some' h3
    rw [List.nil_append] at h4
    simp only [drawOk, List.all_eq_true, List.mem_range, Bool.and_eq_true, Bool.or_eq_true] at h4
    refine wp_region_any hT.mixed ?_
    have hw : SRp C φ (prep h ops s) a { w with drawn := w.drawn + 1 } := hs1.later ⟨rfl, rfl, rfl, Nat.le_refl _, fun _ _ => rfl⟩
    have hzl : (ops.toList.zip evs).length = ops.size := by rw [List.length_zip, h1]; simp
    refine wpAny_run (masks_closed ops) (fun j o ho e he hb => ?_) ops.size _ _ _ s' (by simp [h1]) (by simp) (fun i hi => ?_) ?_ (fun j k hj => ?_) ?_ h2 (fun a' w' hs' => hq _ _ _ h3 hs') a _ ⟨φ, hw⟩
    · have hj := (Array.getElem?_eq_some_iff.1 ho).1
      have h5 := (h4 j hj).1
      have : ops.getD j default = o := by simp [Array.getD_eq_getD_getElem?, ho]
      rw [this] at h5
      simp only [back, List.all_eq_true, Bool.or_eq_true, Bool.not_eq_true'] at h5
      rcases h5 e (by simpa using he) with h6 | h6
      · rw [hb] at h6; cases h6
      · simp only [Nat.blt] at h6; exact Nat.le_of_ble_eq_true h6
    · rw [hidx]
      simp [Array.getD_eq_getD_getElem?, hi]
    · rw [hidx]; exact List.nodup_range
    · intro _
      by_cases hjs : j < ops.size
      · simp [Array.getD_eq_getD_getElem?, hjs] at hj
      · simp [Array.getD_eq_getD_getElem?, hjs] at hj
    · rw [List.pairwise_iff_getElem]
      intro i j hi hj hij
      simp only [List.length_map, List.length_zipIdx, hzl] at hi hj
      simp only [List.getElem_map, List.getElem_zipIdx, Nat.zero_add, List.getElem_zip]
      refine ⟨hij, ((h4 j hj).2 i hij).imp (fun h5 => h5) fun h5 => pairOk_spec ?_⟩
      have e1 : ops.getD i default = ops.toList[i]'(by simpa using hi) := by simp [Array.getD_eq_getD_getElem?, hi]
      have e2 : ops.getD j default = ops.toList[j]'(by simpa using hj) := by simp [Array.getD_eq_getD_getElem?, hj]
      have hl : ∀ i (hi : i < ops.size), ((ops.toList.zip evs).map fun x => x.2.lg x.1.dst).getD i ⟨[], [], true⟩ = (evs[i]'(by rw [h1]; simpa using hi)).lg (ops.toList[i]'(by simpa using hi)).dst := fun i hi => by
        have : i < ((ops.toList.zip evs).map fun x => x.2.lg x.1.dst).length := by rw [List.length_map, hzl]; exact hi
        rw [List.getD, List.getElem?_eq_getElem this]
        simp
      rw [e1, e2, hl i hi, hl j hj] at h5
      exact h5
def Ex.to : Ex → Exit
  | .normal => .normal
  | .exit i => .exit i
  | .ret => .ret
/-- From s the code comes, by some exit, to a state of which T holds. -/
def Reach (P : Program) (C : Ctx) (c : Code) (s : S) (T : Ex → S → Prop) : Prop :=
  ∀ (a : Act) (w : World), SR C s a w → ∀ (Q : Exit → Act → World → Prop), (∀ e s' a' w', T e s' → SR C s' a' w' → Q e.to a' w') → c.wp P Q a w
/-- The loops of a piece of code, with their numbers. -/
def loops : Code → HT → List (Nat × Code)
  | .seq a b, h => loops a h.l ++ loops b h.r
  | .cond _ a b, h => loops a h.l ++ loops b h.r
  | .block _ c, h => loops c h
  | .scope c, h => loops c h
  | .loop c, .lp i => [(i, c)]
  | _, _ => []
abbrev Lam := (R : Type) → Nat → S → (Ex → S → Option R) → Option R
/-- What is known of the loops is so. -/
def LamOk (P : Program) (C : Ctx) (Λ : Lam) (l : List (Nat × Code)) : Prop :=
  ∀ p ∈ l, ∀ (R : Type) (s : S) (K : Ex → S → Option R) (r : R), Λ R p.1 s K = some r → Reach P C (.loop p.2) s fun e s' => K e s' = some r
theorem semK_ok (hT : Tabs E P) {ρ : Orc} (hρ : OrcOk P E ρ) {β : OrcB} (hβ : OrcBOk P E β) {Λ : Lam} : ∀ (c : Code) (h : HT) (s : S) (K : Ex → S → Option R), LamOk P C Λ (loops c h) →
    semK E ρ β C.n (Λ R) c h s K = some r → Reach P C c s fun e s' => K e s' = some r
  | .skip, h, s, K, _, hk => fun a w hs Q hq => wp_skip (hq .normal s a w hk hs)
  | .label _, h, s, K, _, hk => fun a w hs Q hq => wp_label (hq .normal s a w hk hs)
  | .region id ops d, h, s, K, _, hk => fun a w hs Q hq => regK_ok hT hρ hβ hk hs fun s' a' w' h1 h2 => hq .normal s' a' w' h1 h2
  | .seq x y, h, s, K, hl, hk => fun a w hs Q hq => by
    refine wp_seq (semK_ok hT hρ hβ x h.l s _ (fun p hp => hl p (List.mem_append_left _ hp)) hk a w hs _ fun e s' a' w' h1 h2 => ?_)
    cases e with
    | normal => exact semK_ok hT hρ hβ y h.r s' K (fun p hp => hl p (List.mem_append_right _ hp)) h1 a' w' h2 Q hq
    | exit i => exact hq (.exit i) s' a' w' h1 h2
    | ret => exact hq .ret s' a' w' h1 h2
  | .cond c x y, h, s, K, hl, hk => fun a w hs Q hq => by
    simp only [semK] at hk
    cases hc : s.ev c with
    | v t b =>
      cases t with
      | bool =>
        rw [hc] at hk
        obtain ⟨φ, hs⟩ := hs
        have h1 := ev_ok hs c
        rw [hc] at h1
        have h1 := RepV.bool h1
        refine wp_cond h1 ?_
        cases b with
        | true => exact semK_ok hT hρ hβ x h.l s K (fun p hp => hl p (List.mem_append_left _ hp)) hk a w ⟨φ, hs⟩ Q hq
        | false => exact semK_ok hT hρ hβ y h.r s K (fun p hp => hl p (List.mem_append_right _ hp)) hk a w ⟨φ, hs⟩ Q hq
      | _ => rw [hc] at hk; cases hk
    | _ => rw [hc] at hk; cases hk
  | .block i c, h, s, K, hl, hk => fun a w hs Q hq => by
    refine wp_block (semK_ok hT hρ hβ c h s _ hl hk a w hs _ fun e s' a' w' h1 h2 => ?_)
    cases e with
    | normal => exact hq .normal s' a' w' h1 h2
    | ret => exact hq .ret s' a' w' h1 h2
    | exit j =>
      simp only [nbeq] at h1
      show Exit.inBlock i Q (.exit j) a' w'
      simp only [Exit.inBlock]
      by_cases e : j = i
      · rw [if_pos e]
        rw [decide_eq_true e] at h1
        exact hq .normal s' a' w' h1 h2
      · rw [if_neg e]
        rw [decide_eq_false e] at h1
        exact hq (.exit j) s' a' w' h1 h2
  | .loop c, h, s, K, hl, hk => by
    cases h with
    | lp i => exact hl (i, c) (by simp [loops]) R s K r hk
    | _ => cases hk
  | .scope c, h, s, K, hl, hk => fun a w hs Q hq => by
    refine wp_scope_straight (semK_ok hT hρ hβ c h s K hl hk a w hs _ fun e s' a' w' h1 h2 => ?_)
    have := hq e s' a' w' h1 h2
    cases e <;> exact this
  | .exit i, h, s, K, _, hk => fun a w hs Q hq => wp_exit (hq (.exit i) s a w hk hs)
  | .ret, h, s, K, _, hk => fun a w hs Q hq => wp_ret (hq .ret s a w hk hs)
  | .rangeFunc _ _ _ _, h, s, K, _, hk => by cases hk
  | .goto _, h, s, K, _, hk => by cases hk
  | .refuse _, h, s, K, _, hk => by cases hk
end
end Go.Proofs.YtgbndganadelpaaGreatDoor.E
/- Loops: what is known at a loop's head, rounds, exits. -/
namespace Go.Proofs.YtgbndganadelpaaGreatDoor.E
open Go
set_option linter.unusedVariables false
set_option linter.unusedSimpArgs false
/-- What is known at a place of the code: a slot that holds a value; a row of the call's own; a variable; a slot that holds that row; a slot that points to that variable. -/
inductive It where
  | v (t : Nat) (T : Ty)
  | arr (d et : Nat) (T : Ty)
  | box (d : Nat) (T : Ty)
  | own (t d : Nat)
  | ptr (t d : Nat)
abbrev Fm := List It
@[reducible] def Fm.ty : Fm → Ty
  | [] => .unit
  | .v _ T :: r => .pair T (Fm.ty r)
  | .arr _ _ T :: r => .pair (.sl T) (Fm.ty r)
  | .box _ T :: r => .pair T (Fm.ty r)
  | .own _ _ :: r => Fm.ty r
  | .ptr _ _ :: r => Fm.ty r
def Fm.mk : (D : Fm) → D.ty.den → S
  | [], _ => ⟨fun _ => .dead, fun _ => none⟩
  | .v t T :: r, x => (Fm.mk r x.2).put t (.v T x.1)
  | .arr d et T :: r, x => (Fm.mk r x.2).set d (.arr et T x.1)
  | .box d T :: r, x => (Fm.mk r x.2).set d (.box (toC T x.1))
  | .own t d :: r, x => (Fm.mk r x).put t (.own d)
  | .ptr t d :: r, x => (Fm.mk r x).put t (.ptr d 0 0)
def isNil : AV → Bool
  | .cst (.slice none 0 0) => true
  | _ => false
def rdArr (s : S) (d et : Nat) (T : Ty) : Option (List T.den) := match s.bk d with
  | some (.arr et' T' xs) => cond (Nat.beq et' et) (castT (.sl T) (t' := .sl T') xs) none
  | some (.box _) => none
  | none => some []
def rdBox (s : S) (d : Nat) (T : Ty) : Option T.den := match s.bk d with
  | some (.box cs) => match ofC T cs with
    | some (y, []) => some y
    | _ => none
  | _ => none
def Fm.read (s : S) : (D : Fm) → Option D.ty.den
  | [] => some ()
  | .v t T :: r => match asTy T (s.tm t), Fm.read s r with
    | some x, some y => some (x, y)
    | _, _ => none
  | .arr d et T :: r => match rdArr s d et T, Fm.read s r with
    | some x, some y => some (x, y)
    | _, _ => none
  | .box d T :: r => match rdBox s d T, Fm.read s r with
    | some x, some y => some (x, y)
    | _, _ => none
  | .own t d :: r => match s.tm t with
    | .own d' => cond (Nat.beq d' d && (s.bk d).isSome) (Fm.read s r) none
    | a => cond (isNil a && (s.bk d).isNone && !Nat.beq d BOR) (Fm.read s r) none
  | .ptr t d :: r => match s.tm t with
    | .ptr d' 0 0 => cond (Nat.beq d' d) (Fm.read s r) none
    | _ => none
def hasArr (d : Nat) : Fm → Bool
  | [] => false
  | .arr d' _ _ :: r => cond (Nat.beq d' d) true (cond (hasArr d r) true false)
  | .box d' _ :: r => cond (Nat.beq d' d) false (hasArr d r)
  | _ :: r => hasArr d r
def hasBox (d : Nat) : Fm → Bool
  | [] => false
  | .box d' _ :: r => cond (Nat.beq d' d) true (hasBox d r)
  | .arr d' _ _ :: r => cond (Nat.beq d' d) false (hasBox d r)
  | _ :: r => hasBox d r
/-- Each slot's block is there. -/
def Fm.fine (D : Fm) : Bool := D.all fun
  | .own _ d => hasArr d D
  | .ptr _ d => hasBox d D
  | _ => true
/-- What a state that says less may say of a slot, of a block. -/
def TmW (s : S) (t : Nat) (av : AV) : Prop :=
  av = .dead ∨ (∃ T y, av = .v T y ∧ asTy T (s.tm t) = some y) ∨ (∃ d, av = .own d ∧ ((s.tm t = .own d ∧ (s.bk d).isSome = true) ∨ (s.tm t = .cst (.slice none 0 0) ∧ s.bk d = none))) ∨ (∃ d, av = .ptr d 0 0 ∧ s.tm t = .ptr d 0 0)
def BkW (s : S) (d : Nat) (B : Blk) : Prop :=
  (∃ et T xs, B = .arr et T xs ∧ (s.bk d = some (.arr et T xs) ∨ (s.bk d = none ∧ xs = []))) ∨ (∃ T y cs, B = .box (toC T y) ∧ s.bk d = some (.box cs) ∧ ofC T cs = some (y, []))
theorem SRp.weaken {C : Ctx} {φ : Pl} {s s' : S} {a : Act} {w : World} (h : SRp C φ s a w) (ht : ∀ t, TmW s t (s'.tm t)) (hb : ∀ d B, s'.bk d = some B → BkW s d B)
    (hr : ∀ t d, (s'.tm t).ref = some d → (∃ et T xs, s'.bk d = some (.arr et T xs) ∧ ∃ x, s'.tm t = .own x) ∨ (∃ cs, s'.bk d = some (.box cs) ∧ ∃ x, s'.tm t = .ptr x 0 0)) : SR C s' a w := by
  let φ' : Pl := fun d => match s.bk d with
    | some _ => φ d
    | none => none
  have hφ : ∀ d B, s.bk d = some B → φ' d = φ d := fun d B e => by simp only [φ', e]
  have hφn : ∀ d, s.bk d = none → φ' d = none := fun d e => by simp only [φ', e]
  have hlive : ∀ d p, (s'.bk d).isSome = true → φ' d = some p → (s.bk d).isSome = true ∧ φ d = some p := fun d p h1 h2 => by
    cases e : s.bk d with
    | none => rw [hφn d e] at h2; cases h2
    | some B => rw [hφ d B e] at h2; exact ⟨rfl, h2⟩
  have hO : ∀ b, OS C.F φ' s' b → OS C.F φ s b := fun b hb => hb.imp id fun ⟨d, o, z, h1, h2⟩ => by
    obtain ⟨h3, h4⟩ := hlive d _ h1 h2
    exact ⟨d, o, z, h3, h4⟩
  have hσ : ∀ d B, s'.bk d = some B → (s.bk d).isSome = true → s'.sh d = s.sh d := fun d B hB hl => by
    rcases hb d B hB with ⟨et, T, xs, rfl, e | ⟨e, _⟩⟩ | ⟨T, y, cs, rfl, e, _⟩
    · simp only [S.sh, hB, e]
    · rw [e] at hl; cases hl
    · simp only [S.sh, hB, e, Option.map_some, Blk.sh]
  refine ⟨φ', {
    defers := h.defers, size := h.size, os := h.os, tape := h.tape, output := h.output, grow := h.grow, old := h.old, win := h.win,
    place := (fun d b o z hl hp => by
      obtain ⟨h1, h2⟩ := hlive d _ hl hp
      obtain ⟨h3, h4⟩ := h.place d b o z h1 h2
      obtain ⟨B, hB⟩ := Option.isSome_iff_exists.1 hl
      rw [hσ d B hB h1]
      exact ⟨h3, h4⟩),
    inj := (fun d d' b o o' z z' l1 l2 p1 p2 => by
      obtain ⟨h1, h2⟩ := hlive d _ l1 p1
      obtain ⟨h3, h4⟩ := hlive d' _ l2 p2
      exact h.inj d d' b o o' z z' h1 h3 h2 h4),
    blk := (fun d B hB => by
      rcases hb d B hB with ⟨et, T, xs, rfl, e | ⟨e, rfl⟩⟩ | ⟨T, y, cs, rfl, e, hc⟩
      · rcases h.blk d _ e with h1 | ⟨b, o, z, c, el, h1, h2, h3, h4, h5⟩
        · exact .inl ⟨by rw [hφ d _ e]; exact h1.1, h1.2⟩
        · exact .inr ⟨b, o, z, c, el, by rw [hφ d _ e]; exact h1, h2, h3, h4, RowAt.frame (Fr.refl _ _) (fun b hb => .inl (hO b hb)) h5⟩
      · exact .inl ⟨hφn d e, rfl⟩
      · obtain ⟨b, z, c, el, h1, h2, h3, h4⟩ := blk_cells h e
        obtain ⟨vs, us', q1, q2, q3⟩ := ofC_ok T _ _ _ _ hc h4
        simp only [CellsOk] at q3
        subst q3
        rw [List.append_nil] at q1
        have hz : c.size = z := by
          obtain ⟨_, _, _, _, g1, g2, g3, _⟩ := h.blk d _ e
          rw [h1] at g1; cases g1; rw [h2] at g2; cases g2; exact g3
        have hlen : c.size = T.size := by rw [← Array.length_toList, q1]; exact RepC.length _ _ _ q2
        refine ⟨b, z, c, el, by rw [hφ d _ e]; exact h1, h2, hz, by rw [toC_length, hlen], fun j x hx => ?_⟩
        have := toC_ok (φ := φ') (σ := s'.sh) T y vs (RepC.frame (O' := OS C.F φ' s') (Fr.refl _ w) (fun b hb => .inl (hO b hb)) _ _ _ q2)
        obtain ⟨u, hu, hok⟩ := this.at hx
        rw [← q1] at hu
        exact ⟨u, by simpa using hu, hok⟩),
    tmp := fun t => by
      have ho := h.tmp t
      rcases ht t with e | ⟨T, y, e, hy⟩ | ⟨d, e, hd⟩ | ⟨d, e, hd⟩
      · rw [e]; trivial
      · rw [e]
        exact RepV.frame (Fr.refl _ _) (fun b hb => .inl (hO b hb)) (asTy_ok hy ho)
      · have hrr := hr t d (by rw [e]; rfl)
        rw [e]
        obtain ⟨et, T, xs, hB, _⟩ | ⟨cs, hB, x, e'⟩ := hrr
        · rcases hd with ⟨hd, hl⟩ | ⟨hd, hn⟩
          · rw [hd] at ho
            obtain ⟨T', n, ad, cap, h1, h2, h3, h4⟩ := ho
            obtain ⟨B0, hB0⟩ := Option.isSome_iff_exists.1 hl
            exact ⟨T', n, ad, cap, by rw [hσ d _ hB hl, h1], h2, h3, by rw [hφ d _ hB0]; exact h4⟩
          · rw [hd] at ho
            have ho : a.tmps.getD t undef = .slice none 0 0 := ho
            rcases hb d _ hB with ⟨et', T', xs', e1, e2 | ⟨_, e2⟩⟩ | ⟨T', y, cs, e1, _⟩
            · rw [hn] at e2; cases e2
            · cases e1; subst e2
              exact ⟨T, 0, none, 0, by simp only [S.sh, hB, Option.map_some, Blk.sh, List.length_nil], ho, Nat.le_refl _, .inl ⟨hφn d hn, .inr ⟨rfl, rfl⟩⟩⟩
            · cases e1
        · rw [e] at e'; cases e'
      · have hrr := hr t d (by rw [e]; rfl)
        rw [e]
        obtain ⟨et, T, xs, hB, x, e'⟩ | ⟨cs, hB, _⟩ := hrr
        · rw [e] at e'; cases e'
        · rw [hd] at ho
          obtain ⟨b, o, z, h1, h2⟩ := ho
          have hl : (s.bk d).isSome = true := by
            rcases h2 with ⟨T, n, h2, _⟩ | ⟨h2, _⟩
            · simp only [S.sh, Option.map_eq_some_iff] at h2
              obtain ⟨B, h2, _⟩ := h2
              rw [h2]; rfl
            · simp only [S.sh, Option.map_eq_some_iff] at h2
              obtain ⟨B, h2, _⟩ := h2
              rw [h2]; rfl
          obtain ⟨B0, hB0⟩ := Option.isSome_iff_exists.1 hl
          exact ⟨b, o, z, by rw [hφ d _ hB0]; exact h1, by rw [hσ d _ hB hl]; exact h2⟩ }⟩
theorem isNil_spec {a : AV} (h : isNil a = true) : a = .cst (.slice none 0 0) := by
  unfold isNil at h
  split at h
  · rfl
  · cases h
theorem read_weak {s : S} : ∀ (D : Fm) (x : D.ty.den), D.read s = some x → (∀ t, TmW s t ((D.mk x).tm t)) ∧ (∀ d B, (D.mk x).bk d = some B → BkW s d B) ∧
    (∀ t d, (D.mk x).tm t = .own d → .own t d ∈ D ∧ ((D.mk x).tm t).ref = some d) ∧ (∀ t d i o, (D.mk x).tm t = .ptr d i o → i = 0 ∧ o = 0 ∧ It.ptr t d ∈ D) ∧ (∀ t d o l, (D.mk x).tm t ≠ .osl d o l) ∧
    (∀ d, hasArr d D = true → ∃ et T xs, (D.mk x).bk d = some (.arr et T xs)) ∧ (∀ d, hasBox d D = true → ∃ cs, (D.mk x).bk d = some (.box cs))
  | [], x, _ => by
    refine ⟨fun _ => .inl rfl, fun _ _ h => ?_, fun _ _ h => ?_, fun _ _ _ _ h => ?_, fun _ _ _ _ h => ?_, fun _ h => ?_, fun _ h => ?_⟩ <;> cases h
  | .v t T :: r, x, h => by
    simp only [Fm.read] at h
    split at h
    · rename_i y z h1 h2
      cases h
      obtain ⟨g1, g2, g3, g4, g5, g6, g7⟩ := read_weak r z h2
      have key : ∀ u, ((Fm.mk (.v t T :: r) (y, z)).tm u = .v T y ∧ u = t) ∨ ((Fm.mk (.v t T :: r) (y, z)).tm u = (Fm.mk r z).tm u) := fun u => by
        by_cases e : u = t
        · subst e; exact .inl ⟨by simp only [Fm.mk, S.put, beq_self, cond_true], rfl⟩
        · exact .inr (by simp only [Fm.mk, S.put, beq_ne e, cond_false])
      refine ⟨fun u => ?_, g2, fun u d hu => ?_, fun u d i o hu => ?_, fun u d o l hu => ?_, g6, g7⟩
      · rcases key u with ⟨e, rfl⟩ | e
        · rw [e]; exact .inr (.inl ⟨T, y, rfl, h1⟩)
        · rw [e]; exact g1 u
      · rcases key u with ⟨e, _⟩ | e
        · rw [e] at hu; cases hu
        · rw [e] at hu ⊢; exact ⟨List.mem_cons_of_mem _ (g3 u d hu).1, (g3 u d hu).2⟩
      · rcases key u with ⟨e, _⟩ | e
        · rw [e] at hu; cases hu
        · rw [e] at hu; obtain ⟨h1, h2, h3⟩ := g4 u d i o hu; exact ⟨h1, h2, List.mem_cons_of_mem _ h3⟩
      · rcases key u with ⟨e, _⟩ | e
        · rw [e] at hu; cases hu
        · rw [e] at hu; exact g5 u d o l hu
    · cases h
  | .arr d et T :: r, x, h => by
    simp only [Fm.read] at h
    split at h
    · rename_i y z h1 h2
      cases h
      obtain ⟨g1, g2, g3, g4, g5, g6, g7⟩ := read_weak r z h2
      refine ⟨g1, fun d' B hB => ?_, fun u d hu => ⟨List.mem_cons_of_mem _ (g3 u d hu).1, (g3 u d hu).2⟩, fun u d i o hu => ?_, g5, fun d' hd => ?_, fun d' hd => ?_⟩
      · by_cases e : d' = d
        · subst e
          have : (Fm.mk (.arr d' et T :: r) (y, z)).bk d' = some (.arr et T y) := set_same _ _ _
          rw [this] at hB
          cases hB
          refine .inl ⟨et, T, y, rfl, ?_⟩
          unfold rdArr at h1
          split at h1
          · rename_i et' T' xs hh
            obtain ⟨e1, h1'⟩ := cond_some' h1
            clear h1
            rw [nbeq] at e1
            have e1 := of_decide_eq_true e1
            subst e1
            obtain ⟨e2, e3⟩ := castT_sl h1'
            subst e2
            simp only at e3
            subst e3
            exact .inl hh
          · cases h1
          · rename_i hh
            cases h1
            exact .inr ⟨hh, rfl⟩
        · have : (Fm.mk (.arr d et T :: r) (y, z)).bk d' = (Fm.mk r z).bk d' := set_ne _ _ e
          rw [this] at hB
          exact g2 d' B hB
      · obtain ⟨h1, h2, h3⟩ := g4 u d i o hu; exact ⟨h1, h2, List.mem_cons_of_mem _ h3⟩
      · by_cases e : d' = d
        · subst e; exact ⟨et, T, y, set_same _ _ _⟩
        · simp only [hasArr, beq_ne (Ne.symm e), cond_false] at hd
          have hd : hasArr d' r = true := by cases hh : hasArr d' r <;> simp_all
          obtain ⟨et', T', xs, h3⟩ := g6 d' hd
          exact ⟨et', T', xs, (set_ne _ _ e).trans h3⟩
      · by_cases e : d' = d
        · subst e; simp only [hasBox, beq_self, cond_true] at hd; cases hd
        · simp only [hasBox, beq_ne (Ne.symm e), cond_false] at hd
          obtain ⟨cs, h3⟩ := g7 d' hd
          exact ⟨cs, (set_ne _ _ e).trans h3⟩
    · cases h
  | .box d T :: r, x, h => by
    simp only [Fm.read] at h
    split at h
    · rename_i y z h1 h2
      cases h
      obtain ⟨g1, g2, g3, g4, g5, g6, g7⟩ := read_weak r z h2
      refine ⟨g1, fun d' B hB => ?_, fun u d hu => ⟨List.mem_cons_of_mem _ (g3 u d hu).1, (g3 u d hu).2⟩, fun u d i o hu => ?_, g5, fun d' hd => ?_, fun d' hd => ?_⟩
      · by_cases e : d' = d
        · subst e
          have : (Fm.mk (.box d' T :: r) (y, z)).bk d' = some (.box (toC T y)) := set_same _ _ _
          rw [this] at hB
          cases hB
          unfold rdBox at h1
          split at h1
          · rename_i cs hh
            split at h1
            · rename_i y' hy
              cases h1
              exact .inr ⟨T, _, cs, rfl, hh, hy⟩
            · cases h1
          · cases h1
        · have : (Fm.mk (.box d T :: r) (y, z)).bk d' = (Fm.mk r z).bk d' := set_ne _ _ e
          rw [this] at hB
          exact g2 d' B hB
      · obtain ⟨h1, h2, h3⟩ := g4 u d i o hu; exact ⟨h1, h2, List.mem_cons_of_mem _ h3⟩
      · by_cases e : d' = d
        · subst e; simp only [hasArr, beq_self, cond_true] at hd; cases hd
        · simp only [hasArr, beq_ne (Ne.symm e), cond_false] at hd
          obtain ⟨et', T', xs, h3⟩ := g6 d' hd
          exact ⟨et', T', xs, (set_ne _ _ e).trans h3⟩
      · by_cases e : d' = d
        · subst e; exact ⟨_, set_same _ _ _⟩
        · simp only [hasBox, beq_ne (Ne.symm e), cond_false] at hd
          obtain ⟨cs, h3⟩ := g7 d' hd
          exact ⟨cs, (set_ne _ _ e).trans h3⟩
    · cases h
  | .own t d :: r, x, h => by
    simp only [Fm.read] at h
    have hkey : Fm.read s r = some x ∧ ((s.tm t = .own d ∧ (s.bk d).isSome = true) ∨ (s.tm t = .cst (.slice none 0 0) ∧ s.bk d = none)) := by
      split at h
      · rename_i d' hd
        obtain ⟨h1, h2⟩ := cond_some' h
        simp only [Bool.and_eq_true, nbeq, decide_eq_true_eq] at h1
        obtain ⟨rfl, h1⟩ := h1
        exact ⟨h2, .inl ⟨hd, h1⟩⟩
      · obtain ⟨h1, h2⟩ := cond_some' h
        simp only [Bool.and_eq_true, Option.isNone_iff_eq_none] at h1
        exact ⟨h2, .inr ⟨isNil_spec h1.1.1, h1.1.2⟩⟩
    obtain ⟨h1, h2⟩ := hkey
    obtain ⟨g1, g2, g3, g4, g5, g6, g7⟩ := read_weak r x h1
    have key : ∀ u, ((Fm.mk (.own t d :: r) x).tm u = .own d ∧ u = t) ∨ ((Fm.mk (.own t d :: r) x).tm u = (Fm.mk r x).tm u) := fun u => by
      by_cases e : u = t
      · subst e; exact .inl ⟨by simp only [Fm.mk, S.put, beq_self, cond_true], rfl⟩
      · exact .inr (by simp only [Fm.mk, S.put, beq_ne e, cond_false])
    refine ⟨fun u => ?_, g2, fun u d' hu => ?_, fun u d' i o hu => ?_, fun u d' o l hu => ?_, g6, g7⟩
    · rcases key u with ⟨e, rfl⟩ | e
      · rw [e]; exact .inr (.inr (.inl ⟨d, rfl, h2⟩))
      · rw [e]; exact g1 u
    · rcases key u with ⟨e, rfl⟩ | e
      · rw [e] at hu ⊢; cases hu; exact ⟨List.mem_cons_self, rfl⟩
      · rw [e] at hu ⊢; exact ⟨List.mem_cons_of_mem _ (g3 u d' hu).1, (g3 u d' hu).2⟩
    · rcases key u with ⟨e, _⟩ | e
      · rw [e] at hu; cases hu
      · rw [e] at hu; obtain ⟨h1, h2, h3⟩ := g4 u d' i o hu; exact ⟨h1, h2, List.mem_cons_of_mem _ h3⟩
    · rcases key u with ⟨e, _⟩ | e
      · rw [e] at hu; cases hu
      · rw [e] at hu; exact g5 u d' o l hu
  | .ptr t d :: r, x, h => by
    simp only [Fm.read] at h
    have hkey : Fm.read s r = some x ∧ s.tm t = .ptr d 0 0 := by
      split at h
      · rename_i d' hd
        obtain ⟨h1, h2⟩ := cond_some' h
        rw [nbeq] at h1
        have h1 := of_decide_eq_true h1
        subst h1
        exact ⟨h2, hd⟩
      · cases h
    obtain ⟨h1, h2⟩ := hkey
    obtain ⟨g1, g2, g3, g4, g5, g6, g7⟩ := read_weak r x h1
    have key : ∀ u, ((Fm.mk (.ptr t d :: r) x).tm u = .ptr d 0 0 ∧ u = t) ∨ ((Fm.mk (.ptr t d :: r) x).tm u = (Fm.mk r x).tm u) := fun u => by
      by_cases e : u = t
      · subst e; exact .inl ⟨by simp only [Fm.mk, S.put, beq_self, cond_true], rfl⟩
      · exact .inr (by simp only [Fm.mk, S.put, beq_ne e, cond_false])
    refine ⟨fun u => ?_, g2, fun u d' hu => ?_, fun u d' i o hu => ?_, fun u d' o l hu => ?_, g6, g7⟩
    · rcases key u with ⟨e, rfl⟩ | e
      · rw [e]; exact .inr (.inr (.inr ⟨d, rfl, h2⟩))
      · rw [e]; exact g1 u
    · rcases key u with ⟨e, _⟩ | e
      · rw [e] at hu; cases hu
      · rw [e] at hu ⊢; exact ⟨List.mem_cons_of_mem _ (g3 u d' hu).1, (g3 u d' hu).2⟩
    · rcases key u with ⟨e, rfl⟩ | e
      · rw [e] at hu; cases hu; exact ⟨rfl, rfl, List.mem_cons_self⟩
      · rw [e] at hu; obtain ⟨h1, h2, h3⟩ := g4 u d' i o hu; exact ⟨h1, h2, List.mem_cons_of_mem _ h3⟩
    · rcases key u with ⟨e, _⟩ | e
      · rw [e] at hu; cases hu
      · rw [e] at hu; exact g5 u d' o l hu
/-- A state is what has been read of it. -/
theorem SR.clean {C : Ctx} {s : S} {a : Act} {w : World} {D : Fm} {x : D.ty.den} (hD : D.fine = true) (h : SR C s a w) (hr : D.read s = some x) : SR C (D.mk x) a w := by
  obtain ⟨φ, h⟩ := h
  obtain ⟨g1, g2, g3, g4, g5, g6, g7⟩ := read_weak D x hr
  simp only [Fm.fine, List.all_eq_true] at hD
  refine h.weaken g1 g2 fun t d hd => ?_
  cases e : (D.mk x).tm t with
  | own d' =>
    rw [e] at hd
    cases hd
    obtain ⟨et, T, xs, h1⟩ := g6 d (hD _ (g3 t d e).1)
    exact .inl ⟨et, T, xs, h1, d, rfl⟩
  | ptr d' i o =>
    rw [e] at hd
    cases hd
    obtain ⟨rfl, rfl, h1⟩ := g4 t d i o e
    obtain ⟨cs, h2⟩ := g7 d (hD _ h1)
    exact .inr ⟨cs, h2, d, rfl⟩
  | osl d' o l => exact absurd e (g5 t d' o l)
  | _ => rw [e] at hd; cases hd
end Go.Proofs.YtgbndganadelpaaGreatDoor.E
/- Loops as_ iterated functions; functions and their contracts. -/
namespace Go.Proofs.YtgbndganadelpaaGreatDoor.E
open Go
set_option linter.unusedVariables false
set_option linter.unusedSimpArgs false
/-- A round again and again, till it says that it is done. -/
def iterN {α β : Type} (f : α → Option (α ⊕ β)) : Nat → α → Option β
  | 0, _ => none
  | n + 1, x => match f x with
    | none => none
    | some (.inl x') => iterN f n x'
    | some (.inr b) => some b
open Classical in
noncomputable def iterL {α β : Type} (f : α → Option (α ⊕ β)) (x : α) : Option β :=
  if h : ∃ n b, iterN f n x = some b then some h.choose_spec.choose else none
theorem iterN_mono {α β : Type} (f : α → Option (α ⊕ β)) : ∀ (n k : Nat) (x : α) (b : β), iterN f n x = some b → iterN f (n + k) x = some b
  | 0, k, x, b, h => by cases h
  | n + 1, k, x, b, h => by
    rw [show n + 1 + k = (n + k) + 1 by omega]
    simp only [iterN] at h ⊢
    split at h
    · cases h
    · rename_i x' hx; exact iterN_mono f n k x' b h
    · exact h
theorem iterL_of {α β : Type} {f : α → Option (α ⊕ β)} {n : Nat} {x : α} {b : β} (h : iterN f n x = some b) : iterL f x = some b := by
  have he : ∃ n b, iterN f n x = some b := ⟨n, b, h⟩
  unfold iterL
  rw [dif_pos he]
  have h2 := he.choose_spec.choose_spec
  have e1 := iterN_mono f n he.choose x b h
  have e2 := iterN_mono f he.choose n x _ h2
  rw [Nat.add_comm] at e2
  rw [e1] at e2
  exact e2.symm
theorem iterL_some {α β : Type} {f : α → Option (α ⊕ β)} {x : α} {b : β} (h : iterL f x = some b) : ∃ n, iterN f n x = some b := by
  unfold iterL at h
  split at h
  · rename_i he
    have h2 := he.choose_spec.choose_spec
    cases h
    exact ⟨_, h2⟩
  · cases h
theorem iterL_done {α β : Type} {f : α → Option (α ⊕ β)} {x : α} {b : β} (h : f x = some (.inr b)) : iterL f x = some b :=
  iterL_of (n := 1) (by simp only [iterN, h])
theorem iterL_next {α β : Type} {f : α → Option (α ⊕ β)} {x y : α} (h : f x = some (.inl y)) : iterL f x = iterL f y := by
  cases hy : iterL f y with
  | some b =>
    obtain ⟨n, hn⟩ := iterL_some hy
    exact iterL_of (n := n + 1) (by simp only [iterN, h]; exact hn)
  | none =>
    cases hx : iterL f x with
    | none => rfl
    | some b =>
      obtain ⟨n, hn⟩ := iterL_some hx
      cases n with
      | zero => cases hn
      | succ n =>
        simp only [iterN, h] at hn
        rw [iterL_of hn] at hy
        cases hy
def exEq : Ex → Ex → Bool
  | .normal, .normal => true
  | .exit i, .exit j => Nat.beq i j
  | .ret, .ret => true
  | _, _ => false
theorem exEq_spec {a b : Ex} (h : exEq a b = true) : a = b := by
  cases a <;> cases b <;> first | rfl | cases h | skip
  simp only [exEq, nbeq, decide_eq_true_eq] at h
  rw [h]
/-- The exits of a loop, with what is known there. -/
abbrev Xs := List (Ex × Fm)
@[reducible] def Xs.T : Xs → Type
  | [] => Empty
  | [p] => p.2.ty.den
  | p :: q :: r => p.2.ty.den ⊕ Xs.T (q :: r)
def Xs.read (e : Ex) (s : S) : (X : Xs) → Option X.T
  | [] => none
  | [p] => cond (exEq e p.1) (p.2.read s) none
  | p :: q :: r => cond (exEq e p.1) ((p.2.read s).map .inl) ((Xs.read e s (q :: r)).map .inr)
def Xs.out {R : Type} (K : Ex → S → Option R) : (X : Xs) → X.T → Option R
  | [], _ => none
  | [p], b => K p.1 (p.2.mk b)
  | p :: q :: r, b => match b with
    | .inl y => K p.1 (p.2.mk y)
    | .inr z => Xs.out K (q :: r) z
def Xs.fine (X : Xs) : Bool := X.all fun p => p.2.fine
noncomputable def lamK {R : Type} (D : Fm) (X : Xs) (f : D.ty.den → Option (D.ty.den ⊕ X.T)) (s : S) (K : Ex → S → Option R) : Option R :=
  match D.read s with
  | none => none
  | some x => (iterL f x).bind fun b => X.out K b
/-- One round of a loop's body. -/
def roundK (E : Env) (ρ : Orc) (β : OrcB) (n : Nat) (Λ : Lam) (c : Code) (h : HT) (D : Fm) (X : Xs) (x : D.ty.den) : Option (D.ty.den ⊕ X.T) :=
  semK E ρ β n (Λ _) c h (D.mk x) fun e s' => match e with
    | .normal => (D.read s').map .inl
    | .exit i => (X.read (.exit i) s').map .inr
    | .ret => (X.read .ret s').map .inr
section
variable {P : Program} {E : Env} {C : Ctx}
theorem out_ok {R : Type} {K : Ex → S → Option R} {r : R} {e : Ex} {s : S} {a : Act} {w : World} (hs : SR C s a w) : ∀ (X : Xs) (b : X.T), X.fine = true → X.read e s = some b → X.out K b = some r → ∃ s', SR C s' a w ∧ K e s' = some r
  | [], b, _, h, _ => by cases h
  | [p], b, hf, h, hk => by
    simp only [Xs.read] at h
    obtain ⟨h1, h2⟩ := cond_some' h
    have := exEq_spec h1
    subst this
    simp only [Xs.fine, List.all_cons, Bool.and_eq_true] at hf
    exact ⟨_, hs.clean hf.1 h2, hk⟩
  | p :: q :: r', b, hf, h, hk => by
    simp only [Xs.fine, List.all_cons, Bool.and_eq_true] at hf
    simp only [Xs.read] at h
    cases he : exEq e p.1 with
    | true =>
      rw [he, cond_true, Option.map_eq_some_iff] at h
      obtain ⟨y, h2, rfl⟩ := h
      have := exEq_spec he
      subst this
      exact ⟨_, hs.clean hf.1 h2, hk⟩
    | false =>
      rw [he, cond_false, Option.map_eq_some_iff] at h
      obtain ⟨y, h2, rfl⟩ := h
      exact out_ok hs (q :: r') y (by simp only [Xs.fine, List.all_cons, Bool.and_eq_true]; exact hf.2) h2 hk
theorem loop_ok (hT : Tabs E P) {ρ : Orc} (hρ : OrcOk P E ρ) {β : OrcB} (hβ : OrcBOk P E β) {Λ : Lam} {c : Code} {h : HT} {D : Fm} {X : Xs} {f : D.ty.den → Option (D.ty.den ⊕ X.T)}
    (hf : ∀ x, roundK E ρ β C.n Λ c h D X x = f x) (hΛ : LamOk P C Λ (loops c h)) (hD : D.fine = true) (hX : X.fine = true) {R : Type} {s : S} {K : Ex → S → Option R} {r : R} (hk : lamK D X f s K = some r) :
    Reach P C (.loop c) s fun e s' => K e s' = some r := by
  unfold lamK at hk
  split at hk
  · cases hk
  rename_i x hx
  rw [Option.bind_eq_some_iff] at hk
  obtain ⟨b, hb, hk⟩ := hk
  obtain ⟨n, hn⟩ := iterL_some hb
  intro a w hs Q hq
  refine wp_loop_rounds n ?_
  have key : ∀ (n : Nat) (x : D.ty.den), iterN f n x = some b → ∀ a w, SR C (D.mk x) a w → Code.rounds P c Q n a w := by
    intro n
    induction n with
    | zero => intro x h; cases h
    | succ n ih =>
      intro x hx a w hs
      rw [rounds_succ]
      simp only [iterN] at hx
      cases hfx : f x with
      | none => rw [hfx] at hx; cases hx
      | some v =>
        have hr := hf x
        rw [hfx] at hr
        refine semK_ok hT hρ hβ c h _ _ hΛ hr a w hs _ fun e s' a' w' h1 h2 => ?_
        rw [hfx] at hx
        cases e with
        | normal =>
          simp only [Option.map_eq_some_iff] at h1
          obtain ⟨y, h3, rfl⟩ := h1
          exact ih y hx a' w' (h2.clean hD h3)
        | exit i =>
          simp only [Option.map_eq_some_iff] at h1
          obtain ⟨y, h3, rfl⟩ := h1
          simp only [Option.some.injEq] at hx
          subst hx
          obtain ⟨s2, h4, h5⟩ := out_ok h2 X y hX h3 hk
          exact hq _ s2 a' w' h5 h4
        | ret =>
          simp only [Option.map_eq_some_iff] at h1
          obtain ⟨y, h3, rfl⟩ := h1
          simp only [Option.some.injEq] at hx
          subst hx
          obtain ⟨s2, h4, h5⟩ := out_ok h2 X y hX h3 hk
          exact hq _ s2 a' w' h5 h4
  exact key n x hn a w (hs.clean hD hx)
/-- A function's parameters as_ one value. -/
@[reducible] def tyP : List Ty → Ty
  | [] => .unit
  | t :: r => .pair t (tyP r)
def avs : (ts : List Ty) → (tyP ts).den → List AV
  | [], _ => []
  | t :: r, x => .v t x.1 :: avs r x.2
def toH : (ts : List Ty) → List AV → Option (tyP ts).den
  | [], [] => some ()
  | t :: ts, .v _ x :: r => match castT t x, toH ts r with
    | some y, some z => some (y, z)
    | _, _ => none
  | _, _ => none
theorem toH_ok : ∀ (ts : List Ty) (as_ : List AV) (x : (tyP ts).den), toH ts as_ = some x → as_ = avs ts x
  | [], as_, x, h => by
    cases as_ with
    | nil => rfl
    | cons => cases h
  | t :: ts, as_, x, h => by
    cases as_ with
    | nil => cases h
    | cons a r =>
      cases a with
      | v t' y =>
        simp only [toH] at h
        split at h
        · rename_i z q h1 h2
          cases h
          obtain ⟨e, h1⟩ := castT_ok h1
          subst e
          simp only at h1
          subst h1
          rw [toH_ok ts r q h2]; rfl
        · cases h
      | _ => cases h
def resA (tup : Bool) (r : Ty) (y : r.den) : AV := cond tup (.tup r y) (.v r y)
/-- A function as_ it is known: its number, parameters, result, the function on values. -/
structure En where
  f : Nat
  ps : List Ty
  r : Ty
  tup : Bool
  g : (tyP ps).den → Option r.den
def EnOk (P : Program) (e : En) : Prop := ∀ x y, e.g x = some y → Meets P e.f (avs e.ps x) (resA e.tup e.r y)
def orc : List En → Orc
  | [], _, _, _, _ => none
  | e :: l, R, f, as_, K => cond (Nat.beq e.f f) (match toH e.ps as_ with
    | some x => (e.g x).bind fun y => K (resA e.tup e.r y)
    | none => none) (orc l R f as_ K)
def AllOk (P : Program) : List En → Prop
  | [] => True
  | e :: r => EnOk P e ∧ AllOk P r
theorem orc_ok : ∀ (l : List En), AllOk P l → OrcOk P E (orc l)
  | [], _ => fun R f as_ K r _ h => by cases h
  | e :: l, hl => fun R f as_ K r hs h => by
    simp only [orc, nbeq] at h
    by_cases hf : e.f = f
    · rw [decide_eq_true hf, cond_true] at h
      split at h
      · rename_i x hx
        rw [Option.bind_eq_some_iff] at h
        obtain ⟨y, h1, h2⟩ := h
        rw [toH_ok _ _ _ hx]
        exact ⟨_, hf ▸ hl.1 x y h1, h2⟩
      · cases h
    · rw [decide_eq_false hf, cond_false] at h
      exact orc_ok l hl.2 R f as_ K r hs h
/-- The same of a function that writes into its first argument. -/
structure EnB where
  f : Nat
  t : Ty
  ps : List Ty
  r : Ty
  tup : Bool
  g : List t.den → (tyP ps).den → Option (r.den × List t.den)
def EnBOk (P : Program) (e : EnB) : Prop := ∀ xs x y, e.g xs x = some y → MeetsB P e.f e.t xs (avs e.ps x) (resA e.tup e.r y.1) y.2
def orcB : List EnB → OrcB
  | [], _, _, _, _ => none
  | e :: l, R, f, as_, K => cond (Nat.beq e.f f) (match as_ with
    | .v (.sl t) xs :: r => match castT (.sl e.t) (t' := .sl t) xs, toH e.ps r with
      | some xs', some x => (e.g xs' x).bind fun y => K (resA e.tup e.r y.1) ⟨e.t, y.2, none⟩
      | _, _ => none
    | _ => none) (orcB l R f as_ K)
def AllBOk (P : Program) : List EnB → Prop
  | [] => True
  | e :: r => EnBOk P e ∧ AllBOk P r
theorem orcB_ok : ∀ (l : List EnB), AllBOk P l → OrcBOk P E (orcB l)
  | [], _ => fun R f t xs as_ K r _ h => by cases h
  | e :: l, hl => fun R f t xs as_ K r hs h => by
    simp only [orcB, nbeq] at h
    by_cases hf : e.f = f
    · rw [decide_eq_true hf, cond_true] at h
      split at h
      · rename_i xs' x hc hx
        rw [Option.bind_eq_some_iff] at h
        obtain ⟨y, h1, h2⟩ := h
        obtain ⟨e1, e2⟩ := castT_sl hc
        subst e1
        simp only at e2
        subst e2
        rw [toH_ok _ _ _ hx]
        exact ⟨_, y.2, none, hf ▸ hl.1 xs x y h1, h2⟩
      · cases h
    · rw [decide_eq_false hf, cond_false] at h
      exact orcB_ok l hl.2 R f t xs as_ K r hs h
/-- Where a function begins. -/
theorem args_init {w : World} {F : Nat → Prop} : ∀ (as_ : List AV) (us : List Value), ArgsOk w F as_ us → us.length = as_.length ∧ ∀ (φ : Pl) (σ : Nat → Option Sh) (i : Nat), Ok φ σ F w (as_.getD i .dead) (us.getD i undef)
  | [], us, h => by
    simp only [ArgsOk] at h; subst h
    exact ⟨rfl, fun φ σ i => trivial⟩
  | a :: r, us, h => by
    obtain ⟨u, l, rfl, ⟨t, x, rfl, hr⟩, hl⟩ := h
    obtain ⟨h1, h2⟩ := args_init r l hl
    refine ⟨by simp [h1], fun φ σ i => ?_⟩
    cases i with
    | zero => exact hr
    | succ i => exact h2 φ σ i
theorem getD_pad (vs : Array Value) (k t : Nat) : (vs ++ Array.replicate k undef).getD t undef = vs.toList.getD t undef := by
  simp only [Array.getD_eq_getD_getElem?, List.getD, Array.getElem?_append, Array.getElem?_toList]
  by_cases h : t < vs.size
  · rw [if_pos h]
  · rw [if_neg h, Array.getElem?_eq_none (by omega : vs.size ≤ t)]
    by_cases h2 : t - vs.size < k
    · simp [h2]
    · rw [Array.getElem?_eq_none (by simp; omega)]
theorem toF {O F : Nat → Prop} {w : World} (h : ∀ b, F b → O b) {t : Ty} {x : t.den} {us : List Value} (hr : RepC w O t x us) : RepC w F t x us :=
  RepC.frame (Fr.refl O w) (fun b hb => .inl (h b hb)) _ _ _ hr
theorem asTyF_ok {φ : Pl} {s : S} {a : Act} {w : World} (hs : SRp C φ s a w) {t : Ty} {x : AV} {y : t.den} {u : Value} (h : asTyF s t x = some y) (ho : Ok φ s.sh (OS C.F φ s) w x u) : RepV w C.F t y u := by
  have hF : ∀ b, C.F b → OS C.F φ s b := fun b hb => .inl hb
  unfold asTyF at h
  split at h
  · rename_i V hv
    have hvo := view_ok hs hv ho
    have key : (∀ ad cap, u = .slice ad V.xs.length cap → V.xs.length ≠ 0 → ∀ b o, ad = some ⟨b, o, none⟩ → ¬ C.F b) → castT t (t' := .sl V.t) V.xs = some y → RepV w C.F t y u := by
      intro hn hc
      obtain ⟨e, hc⟩ := castT_ok hc
      subst e
      simp only at hc
      subst hc
      obtain ⟨ad, cap, e1, e2, e3⟩ := hvo
      refine RepV.of_sl ⟨ad, cap, by rw [e1], e2, fun i z hz => ?_⟩
      obtain ⟨b, o, vs, q1, q2, _, q4, q5⟩ := e3 i z hz
      have hi := (List.getElem?_eq_some_iff.1 hz).1
      exact ⟨b, o, vs, q1, hn ad cap e1 (by omega) b o q1, q2, q4, toF hF q5⟩
    split at h
    · rename_i d off hat
      obtain ⟨h0, h⟩ := cond_some h
      rw [nbeq] at h0
      have h0 := of_decide_eq_false h0
      refine key (fun ad cap e hne b o hb => ?_) h
      obtain ⟨t', xs, at_⟩ := V
      simp only at hat
      subst hat
      obtain ⟨n, v1, _, ad', cap', v3, _, v5⟩ := view_at hs hv ho
      rw [e] at v3
      cases v3
      obtain ⟨b', o', z, g1, g2⟩ := v5 hne
      rw [hb] at g2
      cases g2
      have hl : (s.bk d).isSome = true := by
        simp only [S.sh, Option.map_eq_some_iff] at v1
        obtain ⟨B, v1, _⟩ := v1
        rw [v1]; rfl
      rcases (hs.place d _ _ _ hl g1).2 with ⟨h1, _⟩ | ⟨h1, _⟩
      · intro hb; have := C.hF.lt _ hb; omega
      · exact absurd h1 h0
    · rename_i hat
      refine key (fun ad cap e hne b o hb hf => ?_) h
      obtain ⟨ad', cap', e1, _, e3⟩ := hvo
      rw [e] at e1
      cases e1
      cases hx : V.xs with
      | nil => rw [hx] at hne; exact hne rfl
      | cons z l =>
        obtain ⟨b', o', vs, q1, _, q3, _⟩ := e3 0 z (by rw [hx]; rfl)
        rw [hb] at q1
        cases q1
        exact q3 hat (hF _ hf)
  · exact RepV.frame (Fr.refl (OS C.F φ s) w) (fun b hb => .inl (hF b hb)) (asTy_ok h ho)
theorem atomF_ok {φ : Pl} {s : S} {a : Act} {w : World} (hs : SRp C φ s a w) {t : Ty} (ht : t.agg = false) {cs : List AV} {us : List Value} {x : t.den} {rest : List AV} (h : atomF s t cs = some (x, rest)) (hc : CellsOk φ s.sh (OS C.F φ s) w cs us) :
    ∃ vs us', us = vs ++ us' ∧ RepC w C.F t x vs ∧ CellsOk φ s.sh (OS C.F φ s) w rest us' := by
  cases cs with
  | nil => cases h
  | cons c r =>
    obtain ⟨u, l, rfl, h1, h2⟩ := hc
    simp only [atomF] at h
    split at h
    · rename_i y hy
      cases h
      have := asTyF_ok hs hy h1
      unfold RepV at this
      rw [if_neg (by simp [ht])] at this
      exact ⟨[u], l, rfl, this, h2⟩
    · cases h
theorem ofCF_ok {φ : Pl} {s : S} {a : Act} {w : World} (hs : SRp C φ s a w) : ∀ (t : Ty) (cs : List AV) (us : List Value) (x : t.den) (rest : List AV), ofCF s t cs = some (x, rest) → CellsOk φ s.sh (OS C.F φ s) w cs us →
    ∃ vs us', us = vs ++ us' ∧ RepC w C.F t x vs ∧ CellsOk φ s.sh (OS C.F φ s) w rest us'
  | .unit, cs, us, x, rest, h, hc => by
    simp only [ofCF, Option.some.injEq, Prod.mk.injEq] at h
    exact ⟨[], us, rfl, rfl, h.2 ▸ hc⟩
  | .pair a b, cs, us, x, rest, h, hc => by
    simp only [ofCF] at h
    split at h
    · rename_i x1 l1 h1
      split at h
      · rename_i x2 l2 h2
        cases h
        obtain ⟨v1, u1, rfl, r1, c1⟩ := ofCF_ok hs a _ _ _ _ h1 hc
        obtain ⟨v2, u2, rfl, r2, c2⟩ := ofCF_ok hs b _ _ _ _ h2 c1
        exact ⟨v1 ++ v2, u2, by rw [List.append_assoc], ⟨v1, v2, rfl, r1, r2⟩, c2⟩
      · cases h
    · cases h
  | .int k, _, _, _, _, h, hc => atomF_ok hs rfl h hc
  | .bool, _, _, _, _, h, hc => atomF_ok hs rfl h hc
  | .str, _, _, _, _, h, hc => atomF_ok hs rfl h hc
  | .sl t, _, _, _, _, h, hc => atomF_ok hs rfl h hc
def resSem (tmps : Array Value) : ResultVar → Sem Value
  | .tmp t => pure (tmps.getD t undef)
  | .cell a t => do loadVar t (← asAddr (tmps.getD a undef))
theorem resV_ok (hT : Tabs E P) {φ : Pl} {s : S} {a : Act} {w : World} (hs : SRp C φ s a w) {t : Ty} {rv : ResultVar} {y : t.den} (h : resV E s t rv = some y) : ∃ u, (resSem a.tmps rv).run P w = .ok u w ∧ RepV w C.F t y u := by
  cases rv with
  | tmp x => exact ⟨_, by simp [resSem], asTyF_ok hs h (hs.tmp x)⟩
  | cell x ty =>
    simp only [resV] at h
    split at h
    rotate_left
    · cases h
    rename_i t' hty
    split at h
    rotate_left
    · cases h
    rename_i e
    subst e
    split at h
    rotate_left
    · cases h
    rename_i d hx
    split at h
    rotate_left
    · cases h
    rename_i cs hb
    split at h
    rotate_left
    · cases h
    rename_i z hz
    cases h
    have h1 := hs.tmp x
    rw [hx] at h1
    obtain ⟨b, z', c, el, p1, p2, p3, p4⟩ := blk_cells hs hb
    obtain ⟨b', o', z'', e1, ⟨t2, n, e2, _⟩ | ⟨_, _, e3⟩⟩ := h1
    · simp [S.sh, hb, Blk.sh] at e2
    rw [p1] at e1
    cases e1
    obtain ⟨vs, us', q1, q2, q3⟩ := ofCF_ok hs _ _ _ _ _ hz p4
    simp only [CellsOk] at q3
    subst q3
    rw [List.append_nil] at q1
    have hr := run_load_at (P := P) (hT.ty _ _ hty) (RepC.length _ _ _ q2) (row_cells (o := 0) p2 fun j u hj => by rw [← q1] at hj; simpa using hj)
    refine ⟨_, by simp [resSem, e3, asAddr, hr]; rfl, ?_⟩
    cases ht : t'.agg with
    | true => exact RepV.of_agg ht (by simpa using q2)
    | false =>
      have h1 : t'.size = 1 := by cases t' <;> first | rfl | cases ht
      have hl := RepC.length _ _ _ q2
      obtain ⟨u, rfl⟩ : ∃ u, vs = [u] := by
        cases vs with
        | nil => rw [h1] at hl; cases hl
        | cons u l => cases l with
          | nil => exact ⟨u, rfl⟩
          | cons _ _ => rw [h1] at hl; simp at hl
      exact RepV.of_atom ht q2
theorem resL_ok (hT : Tabs E P) {φ : Pl} {s : S} {a : Act} {w : World} (hs : SRp C φ s a w) : ∀ (l : List ResultVar) (t : Ty) (y : t.den), resL E s l t = some y → ∃ us : List Value, (l.mapM (resSem a.tmps)).run P w = .ok us w ∧ us.length = l.length ∧ RepT w C.F t y us
  | [], t, y, h => by
    cases t <;> first | cases h | skip
    exact ⟨[], by simp, rfl, rfl⟩
  | r :: rs, t, y, h => by
    cases t with
    | pair ta tb =>
      simp only [resL] at h
      split at h
      · rename_i x z h1 h2
        cases h
        obtain ⟨u, q1, q2⟩ := resV_ok hT hs h1
        obtain ⟨us, q3, q4, q5⟩ := resL_ok hT hs rs tb z h2
        exact ⟨u :: us, by simp [List.mapM_cons, q1, q3], by simp [q4], u, us, rfl, q2, q5⟩
      · cases h
    | _ => cases h
theorem results_eq (fn : Func) (tmps : Array Value) : results fn tmps = (do
    let vs ← fn.results.mapM (resSem tmps)
    pure (if h : vs.size = 1 then vs[0] else .tuple vs)) := by
  unfold results
  congr 1
theorem fin_ok (hT : Tabs E P) {φ : Pl} {s : S} {a : Act} {w : World} (hs : SRp C φ s a w) {fn : Func} {g : Sg} {e : Ex} {y : g.r.den} (h : fin E fn g e s = some y) : (e = .normal ∨ e = .ret) ∧ ∃ u, (results fn a.tmps).run P w = .ok u w ∧ ResOk w C.F (resA g.tup g.r y) u := by
  have he : e = .normal ∨ e = .ret := by
    cases e with
    | exit i => cases h
    | normal => exact .inl rfl
    | ret => exact .inr rfl
  refine ⟨he, ?_⟩
  have h' : cond g.tup (cond (Nat.beq fn.results.toList.length 1) none (resL E s fn.results.toList g.r)) (match fn.results.toList with
    | [r] => resV E s g.r r
    | _ => none) = some y := by rcases he with rfl | rfl <;> exact h
  rw [results_eq]
  cases hg : g.tup with
  | true =>
    rw [hg, cond_true] at h'
    obtain ⟨h0, h'⟩ := cond_some h'
    rw [nbeq] at h0
    have h0 := of_decide_eq_false h0
    obtain ⟨us, q1, q2, q3⟩ := resL_ok hT hs _ _ _ h'
    refine ⟨.tuple us.toArray, ?_, .inr ⟨g.r, y, us.toArray, rfl, rfl, by simpa using q3⟩⟩
    have hne : ¬ us.length = 1 := by rw [q2]; exact h0
    simp [Array.mapM_eq_mapM_toList, q1, hne]
  | false =>
    rw [hg, cond_false] at h'
    split at h'
    · rename_i r hr
      obtain ⟨u, q1, q2⟩ := resV_ok hT hs h'
      refine ⟨u, ?_, .inl ⟨g.r, y, rfl, q2⟩⟩
      simp [Array.mapM_eq_mapM_toList, hr, q1]
    · cases h'
theorem getD_init {as_ : List AV} {us : Array Value} {w : World} {F : Nat → Prop} (h : ArgsOk w F as_ us.toList) (k t : Nat) (φ : Pl) (σ : Nat → Option Sh) : Ok φ σ F w (as_.getD t .dead) ((us ++ Array.replicate k undef).getD t undef) := by
  rw [getD_pad]
  exact (args_init as_ us.toList h).2 φ σ t
theorem avs_length : ∀ (ts : List Ty) (x : (tyP ts).den), (avs ts x).length = ts.length
  | [], _ => rfl
  | t :: r, x => by simp [avs, avs_length r x.2]
/-- A FUNCTION: what the evaluator computes of its body is its contract. -/
theorem fun_ok (hT : Tabs E P) {l : List En} (hl : AllOk P l) {lB : List EnB} (hlB : AllBOk P lB) {f : Nat} {fn : Func} {c : Code} {g : Sg} {h : HT} {Λ : Lam} (hfn : P.funcs[f]? = some fn) (hb : fn.body = some c)
    (hn : fn.ntmps ≤ BOR) (hps : g.ps.length ≤ fn.ntmps) (hΛ : ∀ C : Ctx, C.n = fn.ntmps → LamOk P C Λ (loops c h)) {k : (tyP g.ps).den → Option g.r.den}
    (hk : ∀ x, semK E (orc l) (orcB lB) fn.ntmps (Λ _) c h (S.init (avs g.ps x)) (fin E fn g) = k x) : EnOk P ⟨f, g.ps, g.r, g.tup, k⟩ := by
  intro x y hy
  simp only at x y hy
  intro w vs F hF ha
  let C : Ctx := { w0 := w, F, bw := none, n := fn.ntmps, hF, hn, hB := fun _ _ _ h => by cases h }
  have hlen : vs.size = g.ps.length := by
    have := (args_init _ _ ha).1
    rw [← Array.length_toList, this]
    exact avs_length g.ps x
  have hk' := hk x
  rw [hy] at hk'
  refine calls_of_wp hfn hb ?_
  have hinit : SR C (S.init (avs g.ps x)) { tmps := vs ++ Array.replicate (fn.ntmps - vs.size) undef, defers := [] } w := ⟨fun _ => none, {
    defers := rfl, size := (by show (vs ++ Array.replicate (fn.ntmps - vs.size) undef).size = fn.ntmps; simp; omega), os := rfl, tape := rfl, output := rfl, grow := Nat.le_refl _, old := (fun _ _ _ => rfl),
    win := (fun _ _ _ h => by cases h), place := (fun _ _ _ _ _ h => by cases h), inj := (fun _ _ _ _ _ _ _ _ _ h => by cases h), blk := (fun _ _ h => by cases h),
    tmp := fun t => by
      have hO : ∀ b, OS C.F (fun _ => none) (S.init (avs g.ps x)) b → F b := fun b hb => hb.resolve_right fun ⟨_, _, _, _, h⟩ => by cases h
      have h1 := getD_init ha (fn.ntmps - vs.size) t (fun _ => none) (S.init (avs g.ps x)).sh
      exact h1.move (Fr.refl _ _) (fun b hb => .inl (hO b hb)) fun _ _ _ => ⟨rfl, rfl⟩ }⟩
  refine semK_ok (C := C) hT (orc_ok l hl) (orcB_ok lB hlB) c h _ _ (hΛ C rfl) hk' _ w hinit _ fun e s' a' w' h1 h2 => ?_
  obtain ⟨φ, h2⟩ := h2
  obtain ⟨he, u, q1, q2⟩ := fin_ok hT h2 h1
  have hsame : Same w w' := ⟨h2.os, h2.tape, h2.output, h2.grow, fun b hb => h2.old b hb fun _ _ h => by cases h⟩
  rcases he with rfl | rfl
  · exact ⟨h2.defers, u, q1, u, rfl, .inl q2, hsame⟩
  · exact ⟨h2.defers, u, q1, u, rfl, .inl q2, hsame⟩
theorem finN_ok {φ : Pl} {s : S} {a : Act} {w : World} (hs : SRp C φ s a w) {fn : Func} {k : IntKind} {e : Ex} {y : List Int} (h : finN fn (.int k) e s = some y) : (e = .normal ∨ e = .ret) ∧ ∃ u, (results fn a.tmps).run P w = .ok u w ∧ FreshRow C.w0.heap.size w C.F (.tup (.sl (.int k)) y) u := by
  have he : e = .normal ∨ e = .ret := by
    cases e with
    | exit i => cases h
    | normal => exact .inl rfl
    | ret => exact .inr rfl
  refine ⟨he, ?_⟩
  have h' : (match fn.results.toList with
    | [.tmp x] => match s.tm x with
      | .own d => cond (Nat.beq d BOR) none (match s.bk d with
        | some (.arr _ t' xs) => castT (.sl (.int k)) (t' := .sl t') xs
        | _ => none)
      | _ => none
    | _ => none) = some y := by rcases he with rfl | rfl <;> exact h
  split at h'
  rotate_left
  · cases h'
  rename_i x hr
  split at h'
  rotate_left
  · cases h'
  rename_i d hx
  obtain ⟨h0, h'⟩ := cond_some h'
  rw [nbeq] at h0
  have hbor := of_decide_eq_false h0
  split at h'
  rotate_left
  · cases h'
  rename_i et t' xs hb
  obtain ⟨e1, e2⟩ := castT_ok h'
  cases e1
  simp only at e2
  subst e2
  have g1 := hs.tmp x
  rw [hx] at g1
  obtain ⟨t2, n, ad, cap, p1, p2, p3, p4⟩ := g1
  simp only [S.sh, hb, Option.map_some, Blk.sh, Option.some.injEq, Sh.arr.injEq] at p1
  obtain ⟨rfl, rfl⟩ := p1
  rw [results_eq]
  refine ⟨a.tmps.getD x undef, by simp [Array.mapM_eq_mapM_toList, hr, resSem], k, xs, ad, cap, rfl, p2, p3, ?_⟩
  rcases p4 with ⟨q1, q2⟩ | ⟨b', o', z, q1, q2, q3⟩
  · obtain ⟨g2, g3⟩ := q2.resolve_left hbor
    subst g3
    exact .inl ⟨List.eq_nil_of_length_eq_zero (by omega), g2, rfl⟩
  · obtain ⟨rfl, q4, q5⟩ := q3.resolve_left hbor
    rcases hs.blk d _ hb with ⟨k1, _⟩ | ⟨b2, o2, z2, c2, el2, k1, k2, k3, k4, k5⟩
    · rw [k1] at q1; cases q1
    · rw [k1] at q1; cases q1
      have hpl := hs.place d _ _ _ (by rw [hb]; rfl) k1
      exact .inr ⟨b', c2, el2, (hpl.2.resolve_right fun h => hbor h.1).1, hpl.1, q2, k2, by rw [k3, q4]; simp [Ty.size], q5, rowAt_int (w := w) (O := OS C.F φ s) k5⟩
/-- The same of a function that gives a new row of numbers. -/
theorem funN_ok (hT : Tabs E P) {l : List En} (hl : AllOk P l) {lB : List EnB} (hlB : AllBOk P lB) {f : Nat} {fn : Func} {c : Code} {g : Sg} {h : HT} {Λ : Lam} {ki : IntKind} (hfn : P.funcs[f]? = some fn) (hb : fn.body = some c)
    (hn : fn.ntmps ≤ BOR) (hps : g.ps.length ≤ fn.ntmps) (hΛ : ∀ C : Ctx, C.n = fn.ntmps → LamOk P C Λ (loops c h)) {k : (tyP g.ps).den → Option (List Int)}
    (hk : ∀ x, semK E (orc l) (orcB lB) fn.ntmps (Λ _) c h (S.init (avs g.ps x)) (finN fn (.int ki)) = k x) : EnOk P ⟨f, g.ps, .sl (.int ki), true, k⟩ := by
  intro x y hy
  simp only at x y hy
  intro w vs F hF ha
  let C : Ctx := { w0 := w, F, bw := none, n := fn.ntmps, hF, hn, hB := fun _ _ _ h => by cases h }
  have hlen : vs.size = g.ps.length := by
    have := (args_init _ _ ha).1
    rw [← Array.length_toList, this]
    exact avs_length g.ps x
  have hk' := hk x
  rw [hy] at hk'
  refine calls_of_wp hfn hb ?_
  have hinit : SR C (S.init (avs g.ps x)) { tmps := vs ++ Array.replicate (fn.ntmps - vs.size) undef, defers := [] } w := ⟨fun _ => none, {
    defers := rfl, size := (by show (vs ++ Array.replicate (fn.ntmps - vs.size) undef).size = fn.ntmps; simp; omega), os := rfl, tape := rfl, output := rfl, grow := Nat.le_refl _, old := (fun _ _ _ => rfl),
    win := (fun _ _ _ h => by cases h), place := (fun _ _ _ _ _ h => by cases h), inj := (fun _ _ _ _ _ _ _ _ _ h => by cases h), blk := (fun _ _ h => by cases h),
    tmp := fun t => by
      have hO : ∀ b, OS C.F (fun _ => none) (S.init (avs g.ps x)) b → F b := fun b hb => hb.resolve_right fun ⟨_, _, _, _, h⟩ => by cases h
      have h1 := getD_init ha (fn.ntmps - vs.size) t (fun _ => none) (S.init (avs g.ps x)).sh
      exact h1.move (Fr.refl _ _) (fun b hb => .inl (hO b hb)) fun _ _ _ => ⟨rfl, rfl⟩ }⟩
  refine semK_ok (C := C) hT (orc_ok l hl) (orcB_ok lB hlB) c h _ _ (hΛ C rfl) hk' _ w hinit _ fun e s' a' w' h1 h2 => ?_
  obtain ⟨φ, h2⟩ := h2
  obtain ⟨he, u, q1, q2⟩ := finN_ok h2 h1
  have hsame : Same w w' := ⟨h2.os, h2.tape, h2.output, h2.grow, fun b hb => h2.old b hb fun _ _ h => by cases h⟩
  rcases he with rfl | rfl
  · exact ⟨h2.defers, u, q1, u, rfl, .inr q2, hsame⟩
  · exact ⟨h2.defers, u, q1, u, rfl, .inr q2, hsame⟩
end
end Go.Proofs.YtgbndganadelpaaGreatDoor.E
