/- Regions: a list of operations, in the order of the text or in a drawn one. -/
import Derived.Test.YtbchgegclgpdhaaE10
namespace Go.Proofs.Ytbchgegclgpdhaa.E
open Go
set_option linter.unusedVariables false
set_option linter.unusedSimpArgs false

structure AgreeG (C : Ctx) (ops : Array Oper) (s s2 : S) (o : Oper) (e : Ev) : Prop where
  tm : ∀ t ∈ o.looksAt ops, s2.tm t = s.tm t
  bk : ∀ d ∈ e.rd, s2.bk d = s.bk d
  wr : ∀ d b, e.wr = some (d, b) → s2.bk d = s.bk d
  nb : ∀ b d, e.nb = some b → o.dst = some d → s2.bk d = none
  dst : ∀ d, o.dst = some d → d < C.n
def IxOk (P : Program) (C : Ctx) (ops : Array Oper) (s : S) (i : Nat) (o : Oper) (e : Ev) : Prop :=
  ∀ (s2 : S), AgreeG C ops s s2 o e → ∀ (φ : Pl) (a : Act) (w : World), SRp C φ s2 a w → ∀ (K : Act → World → Prop) (Q : Exit → Act → World → Prop),
    (∀ a' w', SR C (e.eff o.dst s2) a' w' → K a' w') → wpOp P ops Q i K a w
/-- A run of operations, each with its event. -/
def Run (P : Program) (C : Ctx) (ops : Array Oper) : List (Nat × Oper × Ev) → S → S → Prop
  | [], s, s' => s' = s
  | (i, o, e) :: r, s, s' => ops[i]? = some o ∧ IxOk P C ops s i o e ∧ (∀ b d, e.nb = some b → o.dst = some d → s.bk d = none) ∧ (∀ d, o.dst = some d → d < C.n) ∧ Run P C ops r (e.eff o.dst s) s'
section
variable {P : Program} {E : Env} {C : Ctx} {ops : Array Oper} {R : Type} {r : R}

theorem ev_of_tm {o : Oper} {s s2 : S} (h : ∀ t ∈ o.looksAt ops, s2.tm t = s.tm t) : ∀ x ∈ o.op.operands, s2.ev x = s.ev x := by
  intro x hx
  cases x with
  | tmp t => exact h t (List.mem_append_left _ (List.mem_filterMap.2 ⟨.tmp t, by simpa using hx, rfl⟩))
  | const c => cases c <;> rfl
  | func f => rfl
  | global g => rfl
theorem IxOk.of_ev {s : S} {i : Nat} {o : Oper} {e : Ev} (hi : ops[i]? = some o) (h : EvOk P C s o e)
    (hg : ∀ s2 φ a w, (∀ t ∈ o.looksAt ops, s2.tm t = s.tm t) → SRp C φ s2 a w → Region.wanted o (yielded ops a.tmps) = true) : IxOk P C ops s i o e := by
  intro s2 hag φ a w hs K Q hK
  unfold wpOp
  rw [hi]
  simp only [hg s2 φ a w hag.tm hs, if_true]
  exact .inl (h s2 ⟨ev_of_tm hag.tm, hag.bk, hag.wr, hag.nb, hag.dst⟩ φ a w hs K Q hK)
theorem IxOk.skip {s : S} {i : Nat} {o : Oper} (hi : ops[i]? = some o)
    (hg : ∀ s2 φ a w, (∀ t ∈ o.looksAt ops, s2.tm t = s.tm t) → SRp C φ s2 a w → Region.wanted o (yielded ops a.tmps) = false) : IxOk P C ops s i o { a := .und } := by
  intro s2 hag φ a w hs K Q hK
  unfold wpOp
  rw [hi]
  simp only [hg s2 φ a w hag.tm hs, Bool.false_eq_true, if_false]
  refine hK _ _ ⟨φ, ?_⟩
  have he : Ev.eff { a := .und } o.dst s2 = s2.puto o.dst .und := by cases o.dst <;> rfl
  rw [he]
  exact hs.puto hag.dst rfl
theorem put_self {s : S} {t : Nat} {a : AV} (h : s.tm t = a) : s.put t a = s := by
  cases s with
  | mk tm bk =>
    simp only [S.put, S.mk.injEq, and_true]
    funext x
    by_cases e : x = t
    · subst e; rw [beq_self]; exact h.symm
    · rw [beq_ne e]; rfl
theorem yielded_of {s2 : S} {φ : Pl} {a : Act} {w : World} (hs : SRp C φ s2 a w) {j t : Nat} (ht : (ops[j]?).bind (·.dst) = some t) :
    (∀ b, s2.tm t = .v .bool b → yielded ops a.tmps j = some b) ∧ (s2.tm t = .und → yielded ops a.tmps j = none) := by
  have h := hs.tmp t
  constructor
  · intro b hb
    rw [hb] at h
    have h := RepV.bool h
    unfold yielded
    rw [ht]
    cases hx : a.tmps[t]? with
    | none =>
      rw [Array.getD_eq_getD_getElem?, hx] at h
      cases h
    | some u =>
      rw [Array.getD_eq_getD_getElem?, hx] at h
      simp only [Option.getD_some] at h
      subst h
      simp [hx]
  · intro hb
    rw [hb] at h
    have h : a.tmps.getD t undef = undef := h
    unfold yielded
    rw [ht]
    cases hx : a.tmps[t]? with
    | none => simp [hx]
    | some u =>
      rw [Array.getD_eq_getD_getElem?, hx] at h
      simp only [Option.getD_some] at h
      subst h
      simp [hx, undef]
theorem guard_tm {o : Oper} {j : Nat} {want : Bool} {t : Nat} (hg : o.guard = some (j, want)) (ht : (ops[j]?).bind (·.dst) = some t) : t ∈ o.looksAt ops := by
  unfold Oper.looksAt
  rw [hg]
  simp only [ht]
  exact List.mem_append_right _ (by simp)
theorem dstOk_lt {n : Nat} {o : Oper} (h : dstOk n o = true) : noDst o = true ∧ ∀ d, o.dst = some d → d < n := by
  simp only [dstOk, Bool.and_eq_true] at h
  refine ⟨h.1, fun d hd => ?_⟩
  rw [hd] at h
  have := h.2
  simp only [Nat.blt] at this
  exact Nat.le_of_ble_eq_true this
theorem fresh_none {s : S} {e : Ev} {dst : Option Nat} (h : fresh s e dst = true) : ∀ b d, e.nb = some b → dst = some d → s.bk d = none := by
  intro b d h1 h2
  simp only [fresh, h1, h2, Option.isNone_iff_eq_none] at h
  exact h
/-- What the evaluator says of a list of operations. -/
theorem opsK_ok (hT : Tabs E P) {ρ : Orc} (hρ : OrcOk P E ρ) {β : OrcB} (hβ : OrcBOk P E β) {hw : List Nat} {K : List Lg → S → Option R} :
    ∀ (l : List Oper) (i : Nat) (lg : List Lg) (s : S), (∀ k o, l[k]? = some o → ops[i + k]? = some o) → opsK E ρ β C.n ops hw l lg s K = some r →
      ∃ (evs : List Ev) (s' : S), evs.length = l.length ∧ Run P C ops ((l.zip evs).zipIdx i |>.map fun x => (x.2, x.1.1, x.1.2)) s s' ∧ K (lg ++ (l.zip evs).map fun x => x.2.lg x.1.dst) s' = some r
  | [], i, lg, s, _, h => ⟨[], s, rfl, rfl, by simpa [opsK] using h⟩
  | o :: l, i, lg, s, hi, h => by
    have hi0 : ops[i]? = some o := hi 0 o rfl
    have hi1 : ∀ k o', l[k]? = some o' → ops[i + 1 + k]? = some o' := fun k o' hk => by
      rw [Nat.add_assoc, Nat.add_comm 1 k]; exact hi (k + 1) o' hk
    -- the operation is done
    have go : (∀ s2 φ a w, (∀ t ∈ o.looksAt ops, s2.tm t = s.tm t) → SRp C φ s2 a w → Region.wanted o (yielded ops a.tmps) = true) →
        cond (dstOk C.n o) (stepK E ρ β hw s o fun e => cond (fresh s e o.dst) (opsK E ρ β C.n ops hw l (lg ++ [e.lg o.dst]) (e.eff o.dst s) K) none) none = some r →
        ∃ (evs : List Ev) (s' : S), evs.length = (o :: l).length ∧ Run P C ops (((o :: l).zip evs).zipIdx i |>.map fun x => (x.2, x.1.1, x.1.2)) s s' ∧ K (lg ++ ((o :: l).zip evs).map fun x => x.2.lg x.1.dst) s' = some r := by
      intro hg h
      obtain ⟨h1, h⟩ := cond_some' h
      obtain ⟨h2, h3⟩ := dstOk_lt h1
      obtain ⟨e, he, h⟩ := stepK_ok (C := C) hT hρ hβ h2 h
      obtain ⟨h4, h⟩ := cond_some' h
      obtain ⟨evs, s', g1, g2, g3⟩ := opsK_ok hT hρ hβ l (i + 1) _ _ hi1 h
      refine ⟨e :: evs, s', by simp [g1], ⟨hi0, .of_ev hi0 he hg, fresh_none h4, h3, g2⟩, ?_⟩
      simpa using g3
    have no : (∀ s2 φ a w, (∀ t ∈ o.looksAt ops, s2.tm t = s.tm t) → SRp C φ s2 a w → Region.wanted o (yielded ops a.tmps) = false) →
        cond (dstOk C.n o) (opsK E ρ β C.n ops hw l (lg ++ [⟨[], [], false⟩]) (s.puto o.dst .und) K) none = some r →
        ∃ (evs : List Ev) (s' : S), evs.length = (o :: l).length ∧ Run P C ops (((o :: l).zip evs).zipIdx i |>.map fun x => (x.2, x.1.1, x.1.2)) s s' ∧ K (lg ++ ((o :: l).zip evs).map fun x => x.2.lg x.1.dst) s' = some r := by
      intro hg h
      obtain ⟨h1, h⟩ := cond_some' h
      obtain ⟨h2, h3⟩ := dstOk_lt h1
      obtain ⟨evs, s', g1, g2, g3⟩ := opsK_ok hT hρ hβ l (i + 1) _ _ hi1 h
      have he : Ev.eff { a := .und } o.dst s = s.puto o.dst .und := by cases o.dst <;> rfl
      refine ⟨{ a := .und } :: evs, s', by simp [g1], ⟨hi0, .skip hi0 hg, (fun b d e => by cases e), h3, (by rw [← he] at g2; exact g2)⟩, ?_⟩
      simpa [Ev.lg] using g3
    rw [opsK] at h
    cases hgd : o.guard with
    | none =>
      rw [hgd] at h
      exact go (fun s2 φ a w _ _ => by simp [Region.wanted, hgd]) h
    | some gw =>
      obtain ⟨j, want⟩ := gw
      rw [hgd] at h
      simp only at h
      cases ht : (ops[j]?).bind (·.dst) with
      | none => rw [ht] at h; cases h
      | some t =>
        rw [ht] at h
        simp only at h
        have hw : ∀ b, s.tm t = .v .bool b → ∀ s2 φ a w, (∀ t ∈ o.looksAt ops, s2.tm t = s.tm t) → SRp C φ s2 a w → Region.wanted o (yielded ops a.tmps) = (b == want) := fun b hb s2 φ a w h1 h2 => by
          have := (yielded_of (ops := ops) h2 ht).1 b (by rw [h1 t (guard_tm hgd ht), hb])
          simp only [Region.wanted, hgd, this]
          cases b <;> cases want <;> rfl
        cases hb : s.tm t with
        | v ty b =>
          cases ty with
          | bool =>
            rw [hb] at h
            cases b with
            | true =>
              simp only [cond_true, put_self hb] at h
              cases want with
              | true => exact go (fun s2 φ a w h1 h2 => hw _ hb s2 φ a w h1 h2) h
              | false => exact no (fun s2 φ a w h1 h2 => hw _ hb s2 φ a w h1 h2) h
            | false =>
              simp only [cond_false, put_self hb] at h
              cases want with
              | true => exact no (fun s2 φ a w h1 h2 => hw _ hb s2 φ a w h1 h2) h
              | false => exact go (fun s2 φ a w h1 h2 => hw _ hb s2 φ a w h1 h2) h
          | _ => rw [hb] at h; cases h
        | und =>
          rw [hb] at h
          exact no (fun s2 φ a w h1 h2 => by
            have := (yielded_of (ops := ops) h2 ht).2 (by rw [h1 t (guard_tm hgd ht), hb])
            simp only [Region.wanted, hgd, this]
            cases want <;> rfl) h
        | _ => rw [hb] at h; cases h
/-- A run in its own order. -/
theorem Run.wp {Q : Exit → Act → World → Prop} : ∀ (l : List (Nat × Oper × Ev)) (s s' : S), Run P C ops l s s' → (∀ a w, SR C s' a w → Q .normal a w) → ∀ a w, SR C s a w → wpOps P ops Q (l.map (·.1)) a w
  | [], s, s', h, hq, a, w, hs => by
    have h : s' = s := h
    subst h; exact hq a w hs
  | (i, o, e) :: l, s, s', h, hq, a, w, ⟨φ, hs⟩ => by
    obtain ⟨h1, h2, h3, h4, h5⟩ := h
    rw [List.map_cons, wpOps_cons]
    exact h2 s ⟨fun _ _ => rfl, fun _ _ => rfl, fun _ _ _ => rfl, h3, h4⟩ φ a w hs _ _ fun a' w' hs' => Run.wp l _ s' h5 hq a' w' hs'
end
end Go.Proofs.Ytbchgegclgpdhaa.E
