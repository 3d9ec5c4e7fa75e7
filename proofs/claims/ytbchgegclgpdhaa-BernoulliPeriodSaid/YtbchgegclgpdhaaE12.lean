/- A drawn region: whatever order is drawn, the outcome is that of the text's order. -/
import Derived.Test.YtbchgegclgpdhaaE11
namespace Go.Proofs.Ytbchgegclgpdhaa.E
open Go
set_option linter.unusedVariables false
set_option linter.unusedSimpArgs false
theorem has_iff : ∀ (l : List Nat) (k : Nat), has l k = true ↔ k ∈ l
  | [], k => by simp [has]
  | i :: r, k => by
    simp only [has, nbeq, List.mem_cons]
    by_cases e : i = k
    · subst e; simp
    · rw [decide_eq_false e, cond_false, has_iff r k]
      exact ⟨.inr, fun h => h.resolve_left (Ne.symm e)⟩
theorem disj_spec {a b : List Nat} (h : disj a b = true) : ∀ d, d ∈ a → d ∉ b := by
  intro d hd hb
  simp only [disj, List.all_eq_true, Bool.not_eq_true'] at h
  have := h d hd
  rw [(has_iff b d).2 hb] at this
  cases this
section
variable {P : Program} {C : Ctx} {ops : Array Oper}

/-- Two operations that may change places. -/
structure Pair (ops : Array Oper) (x y : Oper) (a b : Ev) : Prop where
  apart : Oper.apart ops x y = true
  d1 : ∀ d, d ∈ (a.lg x.dst).wr → d ∉ b.rd ++ (b.lg y.dst).wr
  d2 : ∀ d, d ∈ (b.lg y.dst).wr → d ∉ a.rd
  k1 : a.kl = false
  k2 : b.kl = false
theorem pairOk_spec {x y : Oper} {a b : Ev} (h : pairOk ops x y (a.lg x.dst) (b.lg y.dst) = true) : Pair ops x y a b := by
  simp only [pairOk, Bool.and_eq_true, Bool.not_eq_true'] at h
  obtain ⟨h1, h2, h3, h4, h5⟩ := h
  exact ⟨h1, disj_spec h2, disj_spec h3, h4, h5⟩
theorem eff_tm {e : Ev} {dst : Option Nat} {s : S} (hk : e.kl = false) (t : Nat) : (e.eff dst s).tm t = (match dst with | some d => cond (Nat.beq t d) e.a (s.tm t) | none => s.tm t) := by
  unfold Ev.eff
  rw [hk]
  cases dst with
  | none => cases e.wr <;> rfl
  | some d => cases e.wr <;> cases e.nb <;> rfl
theorem eff_bk {e : Ev} {dst : Option Nat} {s : S} (hk : e.kl = false) {d : Nat} (hd : d ∉ (e.lg dst).wr) : (e.eff dst s).bk d = s.bk d := by
  unfold Ev.eff
  rw [hk]
  simp only [Ev.lg, List.mem_append, not_or] at hd
  obtain ⟨h1, h2⟩ := hd
  have hw : (match e.wr with | some (d', b) => (cond false (s.killR (Nat.beq d')) s).set d' b | none => s).bk d = s.bk d := by
    cases hw : e.wr with
    | none => rfl
    | some p =>
      obtain ⟨d', b⟩ := p
      rw [hw] at h1
      simp only [List.mem_singleton] at h1
      exact set_ne _ _ h1
  cases dst with
  | none => exact hw
  | some t =>
    cases hn : e.nb with
    | none => exact hw
    | some b =>
      rw [hn] at h2
      simp only [List.mem_singleton] at h2
      exact (set_ne _ b h2).trans hw
theorem wr_mem {e : Ev} {dst : Option Nat} {d : Nat} {b : Blk} (h : e.wr = some (d, b)) : d ∈ (e.lg dst).wr := by
  simp [Ev.lg, h]
theorem nb_mem {e : Ev} {d : Nat} {b : Blk} (h : e.nb = some b) : d ∈ (e.lg (some d)).wr := by
  simp [Ev.lg, h]
/-- The block at a place behind an event. -/
theorem eff_at {e : Ev} {dst : Option Nat} {s s2 : S} (hk : e.kl = false) {d : Nat} (hd : d ∈ (e.lg dst).wr) : (e.eff dst s).bk d = (e.eff dst s2).bk d := by
  unfold Ev.eff
  rw [hk]
  simp only [Ev.lg, List.mem_append] at hd
  cases dst with
  | none =>
    cases hw : e.wr with
    | none => rw [hw] at hd; simp at hd
    | some p =>
      obtain ⟨d', b⟩ := p
      rw [hw] at hd
      simp at hd
      subst hd
      show (S.set _ d b).bk d = (S.set _ d b).bk d
      rw [set_same, set_same]
  | some t =>
    cases hn : e.nb with
    | none =>
      cases hw : e.wr with
      | none => rw [hw, hn] at hd; simp at hd
      | some p =>
        obtain ⟨d', b⟩ := p
        rw [hw, hn] at hd
        simp at hd
        subst hd
        show (S.set _ d b).bk d = (S.set _ d b).bk d
        rw [set_same, set_same]
    | some b =>
      by_cases e1 : d = t
      · subst e1
        show (S.set _ d b).bk d = (S.set _ d b).bk d
        rw [set_same, set_same]
      · show (S.set _ t b).bk d = (S.set _ t b).bk d
        rw [set_ne _ _ e1, set_ne _ _ e1]
        cases hw : e.wr with
        | none => rw [hw, hn] at hd; simp at hd; exact absurd hd e1
        | some p =>
          obtain ⟨d', b⟩ := p
          rw [hw, hn] at hd
          simp at hd
          rcases hd with hd | hd
          · subst hd
            show (S.set _ d b).bk d = (S.set _ d b).bk d
            rw [set_same, set_same]
          · exact absurd hd e1
theorem Run.swap {i j : Nat} {x y : Oper} {a b : Ev} {l : List (Nat × Oper × Ev)} {s s' : S} (h : Run P C ops ((i, x, a) :: (j, y, b) :: l) s s') (hp : Pair ops x y a b) : Run P C ops ((j, y, b) :: (i, x, a) :: l) s s' := by
  obtain ⟨h1, h2, h3, h4, g1, g2, g3, g4, h5⟩ := h
  obtain ⟨ap, d1, d2, k1, k2⟩ := hp
  obtain ⟨p1, p2, p3⟩ := Oper.apart_spec ap
  -- what y looks at is as it was before x
  have tm1 : ∀ t ∈ y.looksAt ops, (a.eff x.dst s).tm t = s.tm t := fun t ht => by
    rw [eff_tm k1]
    cases hx : x.dst with
    | none => rfl
    | some d => simp only; rw [beq_ne (fun e : t = d => p1 d hx (by rw [← e]; exact ht))]; rfl
  have tm2 : ∀ t ∈ x.looksAt ops, (b.eff y.dst s).tm t = s.tm t := fun t ht => by
    rw [eff_tm k2]
    cases hy : y.dst with
    | none => rfl
    | some d => simp only; rw [beq_ne (fun e : t = d => p3 d hy (by rw [← e]; exact ht))]; rfl
  have bk1 : ∀ d, d ∈ b.rd ++ (b.lg y.dst).wr → (a.eff x.dst s).bk d = s.bk d := fun d hd => eff_bk k1 fun h => d1 d h hd
  have bk2 : ∀ d, d ∈ a.rd ∨ d ∈ (a.lg x.dst).wr → (b.eff y.dst s).bk d = s.bk d := fun d hd => eff_bk k2 fun h => by
    rcases hd with hd | hd
    · exact d2 d h hd
    · exact d1 d hd (List.mem_append_right _ h)
  have hstate : b.eff y.dst (a.eff x.dst s) = a.eff x.dst (b.eff y.dst s) := by
    have e1 : (b.eff y.dst (a.eff x.dst s)).tm = (a.eff x.dst (b.eff y.dst s)).tm := by
      funext t
      rw [eff_tm k2, eff_tm k1, eff_tm k1, eff_tm k2]
      cases hx : x.dst with
      | none => rfl
      | some d =>
        cases hy : y.dst with
        | none => rfl
        | some d' =>
          have hne : d' ≠ d := fun e => p2 d hx (by rw [hy, e])
          simp only
          by_cases e1 : t = d
          · subst e1
            rw [beq_self, beq_ne (Ne.symm hne)]; rfl
          · rw [beq_ne e1]; rfl
    have e2 : (b.eff y.dst (a.eff x.dst s)).bk = (a.eff x.dst (b.eff y.dst s)).bk := by
      funext d
      by_cases ha : d ∈ (a.lg x.dst).wr
      · have hb : d ∉ (b.lg y.dst).wr := fun h => d1 d ha (List.mem_append_right _ h)
        rw [eff_bk k2 hb, eff_at k1 ha]
      · rw [eff_bk k1 ha]
        by_cases hb : d ∈ (b.lg y.dst).wr
        · exact eff_at k2 hb
        · rw [eff_bk k2 hb, eff_bk k2 hb, eff_bk k1 ha]
    calc b.eff y.dst (a.eff x.dst s) = ⟨(b.eff y.dst (a.eff x.dst s)).tm, (b.eff y.dst (a.eff x.dst s)).bk⟩ := rfl
      _ = ⟨(a.eff x.dst (b.eff y.dst s)).tm, (a.eff x.dst (b.eff y.dst s)).bk⟩ := by rw [e1, e2]
      _ = _ := rfl
  refine ⟨g1, ?_, ?_, g4, h1, ?_, ?_, h4, hstate ▸ h5⟩
  · intro s2 hag
    exact g2 s2 ⟨fun t ht => (hag.tm t ht).trans (tm1 t ht).symm, fun d hd => (hag.bk d hd).trans (bk1 d (List.mem_append_left _ hd)).symm,
      fun d bb hd => (hag.wr d bb hd).trans (bk1 d (List.mem_append_right _ (wr_mem hd))).symm, hag.nb, hag.dst⟩
  · intro bb d hb hd
    have := g3 bb d hb hd
    rwa [bk1 d (List.mem_append_right _ (by rw [hd]; exact nb_mem hb))] at this
  · intro s2 hag
    exact h2 s2 ⟨fun t ht => (hag.tm t ht).trans (tm2 t ht), fun d hd => (hag.bk d hd).trans (bk2 d (.inl hd)),
      fun d bb hd => (hag.wr d bb hd).trans (bk2 d (.inr (wr_mem hd))), hag.nb, hag.dst⟩
  · intro bb d hb hd
    rw [bk2 d (.inr (by rw [hd]; exact nb_mem hb))]
    exact h3 bb d hb hd
theorem Run.front : ∀ (l1 : List (Nat × Oper × Ev)) (z : Nat × Oper × Ev) (l2 : List (Nat × Oper × Ev)) (s s' : S), Run P C ops (l1 ++ z :: l2) s s' → (∀ q ∈ l1, Pair ops q.2.1 z.2.1 q.2.2 z.2.2) → Run P C ops (z :: (l1 ++ l2)) s s'
  | [], z, l2, s, s', h, _ => h
  | q :: l1, z, l2, s, s', h, hp => by
    obtain ⟨i, x, a⟩ := q
    obtain ⟨h1, h2, h3, h4, h5⟩ := h
    have := Run.front l1 z l2 _ s' h5 fun q hq => hp q (List.mem_cons_of_mem _ hq)
    exact Run.swap (l := l1 ++ l2) ⟨h1, h2, h3, h4, this⟩ (hp (i, x, a) List.mem_cons_self)

/-- What must lie before an operation in every order: closed under its own relation. -/
def Closed (ops : Array Oper) (ms : List Nat) : Prop :=
  ∀ j o, ops[j]? = some o → ∀ k, (ms.getD j 0).testBit k = true → ∃ e ∈ o.after, Region.binds .any e = true ∧ (k = e.on ∨ (ms.getD e.on 0).testBit k = true)
theorem wpAny_run {Q : Exit → Act → World → Prop} {ms : List Nat} (hms : Closed ops ms) (hback : ∀ j o, ops[j]? = some o → ∀ e ∈ o.after, Region.binds .any e = true → e.on < j) :
    ∀ (fuel : Nat) (T : List (Nat × Oper × Ev)) (listed : Array Bool) (s s' : S), T.length ≤ fuel → listed.size = ops.size → (∀ i, i < ops.size → (listed.getD i true = false ↔ i ∈ T.map (·.1))) → (T.map (·.1)).Nodup →
      (∀ j k, listed.getD j false = true → (ms.getD j 0).testBit k = true → listed.getD k false = true) →
      List.Pairwise (fun p q => p.1 < q.1 ∧ ((ms.getD q.1 0).testBit p.1 = true ∨ Pair ops p.2.1 q.2.1 p.2.2 q.2.2)) T →
      Run P C ops T s s' → (∀ a w, SR C s' a w → Q .normal a w) → ∀ a w, SR C s a w → wpAny P .any ops Q fuel listed a w := by
  intro fuel
  induction fuel with
  | zero =>
    intro T listed s s' hT hsz hl hnd hcl hpw hrun hq a w hs
    have hT0 : T = [] := List.eq_nil_of_length_eq_zero (by omega)
    subst hT0
    have h : s' = s := hrun
    subst h
    refine ⟨?_, hq a w hs⟩
    cases hr : Region.ready .any ops listed with
    | nil => rfl
    | cons j r =>
      have hj : j ∈ Region.ready .any ops listed := by rw [hr]; exact List.mem_cons_self
      obtain ⟨h1, o, ho, _⟩ := mem_ready.1 hj
      have := (hl j (Array.getElem?_eq_some_iff.1 ho).1).1 h1
      cases this
  | succ fuel ih =>
    intro T listed s s' hT hsz hl hnd hcl hpw hrun hq a w hs
    refine ⟨fun hnil => ?_, fun i hi => ?_⟩
    · cases T with
      | nil => have h : s' = s := hrun; subst h; exact hq a w hs
      | cons p T' =>
        exfalso
        obtain ⟨j, o, e⟩ := p
        have ho : ops[j]? = some o := hrun.1
        have hjs := (Array.getElem?_eq_some_iff.1 ho).1
        have : j ∈ Region.ready .any ops listed := mem_ready.2 ⟨(hl j hjs).2 (by simp), o, ho, fun e he hb => by
          have hlt := hback j o ho e he hb
          have hlt2 : e.on < ops.size := by omega
          cases hx : listed.getD e.on true with
          | true =>
            have : e.on < listed.size := by omega
            simpa [Array.getD_eq_getD_getElem?, this] using hx
          | false =>
            have hm := (hl e.on hlt2).1 hx
            simp only [List.map_cons, List.mem_cons] at hm
            rcases hm with hm | hm
            · omega
            · obtain ⟨q, hq1, hq2⟩ := List.mem_map.1 hm
              have := (List.pairwise_cons.1 hpw).1 q hq1
              simp only at this
              omega⟩
        rw [hnil] at this
        cases this
    · obtain ⟨h1, o, ho, hall⟩ := mem_ready.1 hi
      have his := (Array.getElem?_eq_some_iff.1 ho).1
      have him := (hl i his).1 h1
      obtain ⟨z, hz, hzi⟩ := List.mem_map.1 him
      obtain ⟨l1, l2, rfl⟩ := List.append_of_mem hz
      obtain ⟨i', o', ev⟩ := z
      simp only at hzi
      subst hzi
      -- all that lies before it is listed
      have hbef : ∀ k, (ms.getD i' 0).testBit k = true → listed.getD k false = true := fun k hk => by
        obtain ⟨e, he, hb, hk⟩ := hms i' o ho k hk
        have h3 := hall e he hb
        rcases hk with hk | hk
        · rw [hk]; exact h3
        · exact hcl e.on k h3 hk
      have hpw' := List.pairwise_append.1 hpw
      have hfront := Run.front l1 (i', o', ev) l2 s s' hrun fun q hq => by
        obtain ⟨h4, h5⟩ := hpw'.2.2 q hq (i', o', ev) List.mem_cons_self
        rcases h5 with h5 | h5
        · exfalso
          have h6 := hbef q.1 h5
          have h7 := (hl q.1 (by simp only at h4; omega)).2 (List.mem_map.2 ⟨q, List.mem_append_left _ hq, rfl⟩)
          have : q.1 < listed.size := by simp only at h4; omega
          simp only [Array.getD_eq_getD_getElem?, Array.getElem?_eq_getElem this, Option.getD_some] at h6 h7
          rw [h6] at h7; cases h7
        · exact h5
      obtain ⟨g1, g2, g3, g4, g5⟩ := hfront
      obtain ⟨φ, hs'⟩ := hs
      refine g2 s ⟨fun _ _ => rfl, fun _ _ => rfl, fun _ _ _ => rfl, g3, g4⟩ φ a w hs' _ _ fun a' w' hs2 => ?_
      have hnd1 : i' ∉ (l1 ++ l2).map (·.1) := by
        rw [List.map_append, List.map_cons] at hnd
        have := List.nodup_append.1 hnd
        simp only [List.map_append, List.mem_append, not_or]
        exact ⟨fun h => this.2.2 _ h _ List.mem_cons_self rfl, fun h => (List.nodup_cons.1 this.2.1).1 h⟩
      refine ih (l1 ++ l2) _ _ s' (by simp at hT ⊢; omega) (by simpa using hsz) (fun k hk => ?_) ?_ (fun j k hj hk => ?_) ?_ g5 hq a' w' hs2
      · by_cases e : k = i'
        · subst e
          have : k < listed.size := by omega
          simp only [Array.getD_eq_getD_getElem?, Array.getElem?_setIfInBounds_self_of_lt this, Option.getD_some]
          constructor
          · intro h; cases h
          · intro h; exact absurd h hnd1
        · rw [getD_set_ne true (Ne.symm e), hl k hk]
          simp only [List.map_append, List.map_cons, List.mem_append, List.mem_cons]
          constructor
          · rintro (h | h | h)
            · exact .inl h
            · exact absurd h e
            · exact .inr h
          · rintro (h | h)
            · exact .inl h
            · exact .inr (.inr h)
      · rw [List.map_append, List.map_cons] at hnd
        rw [List.map_append]
        exact hnd.sublist (List.Sublist.append (List.Sublist.refl _) (List.sublist_cons_self _ _))
      · by_cases e : i' = j
        · subst e
          exact getD_set_true (hbef k hk)
        · rw [getD_set_ne false e] at hj
          exact getD_set_true (hcl j k hj hk)
      · exact hpw.sublist (List.Sublist.append (List.Sublist.refl _) (List.sublist_cons_self _ _))
end
end Go.Proofs.Ytbchgegclgpdhaa.E
