/- Loops: what is known at a loop's head, rounds, exits. -/
import Derived.Test.YtbchgegclgpdhaaE13
import Derived.LoopN
namespace Go.Proofs.Ytbchgegclgpdhaa.E
open Go
set_option linter.unusedVariables false
set_option linter.unusedSimpArgs false

/-- What is known at a place of the code: a slot that holds a value; a row of the call's own; a variable; a slot that holds that row; a slot that points to that variable. -/
inductive It where
  | v (t : Nat) (T : Ty)
  | arr (d et : Nat) (T : Ty)
  | box (d : Nat) (T : Ty)
  | own (t d : Nat)
  | ptr (t d : Nat)
abbrev Fm := List It
@[reducible] def Fm.ty : Fm → Ty
  | [] => .unit
  | .v _ T :: r => .pair T (Fm.ty r)
  | .arr _ _ T :: r => .pair (.sl T) (Fm.ty r)
  | .box _ T :: r => .pair T (Fm.ty r)
  | .own _ _ :: r => Fm.ty r
  | .ptr _ _ :: r => Fm.ty r
def Fm.mk : (D : Fm) → D.ty.den → S
  | [], _ => ⟨fun _ => .dead, fun _ => none⟩
  | .v t T :: r, x => (Fm.mk r x.2).put t (.v T x.1)
  | .arr d et T :: r, x => (Fm.mk r x.2).set d (.arr et T x.1)
  | .box d T :: r, x => (Fm.mk r x.2).set d (.box (toC T x.1))
  | .own t d :: r, x => (Fm.mk r x).put t (.own d)
  | .ptr t d :: r, x => (Fm.mk r x).put t (.ptr d 0 0)
def isNil : AV → Bool
  | .cst (.slice none 0 0) => true
  | _ => false
def rdArr (s : S) (d et : Nat) (T : Ty) : Option (List T.den) := match s.bk d with
  | some (.arr et' T' xs) => cond (Nat.beq et' et) (castT (.sl T) (t' := .sl T') xs) none
  | some (.box _) => none
  | none => some []
def rdBox (s : S) (d : Nat) (T : Ty) : Option T.den := match s.bk d with
  | some (.box cs) => match ofC T cs with
    | some (y, []) => some y
    | _ => none
  | _ => none
def Fm.read (s : S) : (D : Fm) → Option D.ty.den
  | [] => some ()
  | .v t T :: r => match asTy T (s.tm t), Fm.read s r with
    | some x, some y => some (x, y)
    | _, _ => none
  | .arr d et T :: r => match rdArr s d et T, Fm.read s r with
    | some x, some y => some (x, y)
    | _, _ => none
  | .box d T :: r => match rdBox s d T, Fm.read s r with
    | some x, some y => some (x, y)
    | _, _ => none
  | .own t d :: r => match s.tm t with
    | .own d' => cond (Nat.beq d' d && (s.bk d).isSome) (Fm.read s r) none
    | a => cond (isNil a && (s.bk d).isNone && !Nat.beq d BOR) (Fm.read s r) none
  | .ptr t d :: r => match s.tm t with
    | .ptr d' 0 0 => cond (Nat.beq d' d) (Fm.read s r) none
    | _ => none
def hasArr (d : Nat) : Fm → Bool
  | [] => false
  | .arr d' _ _ :: r => cond (Nat.beq d' d) true (cond (hasArr d r) true false)
  | .box d' _ :: r => cond (Nat.beq d' d) false (hasArr d r)
  | _ :: r => hasArr d r
def hasBox (d : Nat) : Fm → Bool
  | [] => false
  | .box d' _ :: r => cond (Nat.beq d' d) true (hasBox d r)
  | .arr d' _ _ :: r => cond (Nat.beq d' d) false (hasBox d r)
  | _ :: r => hasBox d r
/-- Each slot's block is there. -/
def Fm.fine (D : Fm) : Bool := D.all fun
  | .own _ d => hasArr d D
  | .ptr _ d => hasBox d D
  | _ => true

/-- What a state that says less may say of a slot, of a block. -/
def TmW (s : S) (t : Nat) (av : AV) : Prop :=
  av = .dead ∨ (∃ T y, av = .v T y ∧ asTy T (s.tm t) = some y) ∨ (∃ d, av = .own d ∧ ((s.tm t = .own d ∧ (s.bk d).isSome = true) ∨ (s.tm t = .cst (.slice none 0 0) ∧ s.bk d = none))) ∨ (∃ d, av = .ptr d 0 0 ∧ s.tm t = .ptr d 0 0)
def BkW (s : S) (d : Nat) (B : Blk) : Prop :=
  (∃ et T xs, B = .arr et T xs ∧ (s.bk d = some (.arr et T xs) ∨ (s.bk d = none ∧ xs = []))) ∨ (∃ T y cs, B = .box (toC T y) ∧ s.bk d = some (.box cs) ∧ ofC T cs = some (y, []))
theorem SRp.weaken {C : Ctx} {φ : Pl} {s s' : S} {a : Act} {w : World} (h : SRp C φ s a w) (ht : ∀ t, TmW s t (s'.tm t)) (hb : ∀ d B, s'.bk d = some B → BkW s d B)
    (hr : ∀ t d, (s'.tm t).ref = some d → (∃ et T xs, s'.bk d = some (.arr et T xs) ∧ ∃ x, s'.tm t = .own x) ∨ (∃ cs, s'.bk d = some (.box cs) ∧ ∃ x, s'.tm t = .ptr x 0 0)) : SR C s' a w := by
  let φ' : Pl := fun d => match s.bk d with
    | some _ => φ d
    | none => none
  have hφ : ∀ d B, s.bk d = some B → φ' d = φ d := fun d B e => by simp only [φ', e]
  have hφn : ∀ d, s.bk d = none → φ' d = none := fun d e => by simp only [φ', e]
  have hlive : ∀ d p, (s'.bk d).isSome = true → φ' d = some p → (s.bk d).isSome = true ∧ φ d = some p := fun d p h1 h2 => by
    cases e : s.bk d with
    | none => rw [hφn d e] at h2; cases h2
    | some B => rw [hφ d B e] at h2; exact ⟨rfl, h2⟩
  have hO : ∀ b, OS C.F φ' s' b → OS C.F φ s b := fun b hb => hb.imp id fun ⟨d, o, z, h1, h2⟩ => by
    obtain ⟨h3, h4⟩ := hlive d _ h1 h2
    exact ⟨d, o, z, h3, h4⟩
  have hσ : ∀ d B, s'.bk d = some B → (s.bk d).isSome = true → s'.sh d = s.sh d := fun d B hB hl => by
    rcases hb d B hB with ⟨et, T, xs, rfl, e | ⟨e, _⟩⟩ | ⟨T, y, cs, rfl, e, _⟩
    · simp only [S.sh, hB, e]
    · rw [e] at hl; cases hl
    · simp only [S.sh, hB, e, Option.map_some, Blk.sh]
  refine ⟨φ', {
    defers := h.defers, size := h.size, os := h.os, tape := h.tape, output := h.output, grow := h.grow, old := h.old, win := h.win,
    place := (fun d b o z hl hp => by
      obtain ⟨h1, h2⟩ := hlive d _ hl hp
      obtain ⟨h3, h4⟩ := h.place d b o z h1 h2
      obtain ⟨B, hB⟩ := Option.isSome_iff_exists.1 hl
      rw [hσ d B hB h1]
      exact ⟨h3, h4⟩),
    inj := (fun d d' b o o' z z' l1 l2 p1 p2 => by
      obtain ⟨h1, h2⟩ := hlive d _ l1 p1
      obtain ⟨h3, h4⟩ := hlive d' _ l2 p2
      exact h.inj d d' b o o' z z' h1 h3 h2 h4),
    blk := (fun d B hB => by
      rcases hb d B hB with ⟨et, T, xs, rfl, e | ⟨e, rfl⟩⟩ | ⟨T, y, cs, rfl, e, hc⟩
      · rcases h.blk d _ e with h1 | ⟨b, o, z, c, el, h1, h2, h3, h4, h5⟩
        · exact .inl ⟨by rw [hφ d _ e]; exact h1.1, h1.2⟩
        · exact .inr ⟨b, o, z, c, el, by rw [hφ d _ e]; exact h1, h2, h3, h4, RowAt.frame (Fr.refl _ _) (fun b hb => .inl (hO b hb)) h5⟩
      · exact .inl ⟨hφn d e, rfl⟩
      · obtain ⟨b, z, c, el, h1, h2, h3, h4⟩ := blk_cells h e
        obtain ⟨vs, us', q1, q2, q3⟩ := ofC_ok T _ _ _ _ hc h4
        simp only [CellsOk] at q3
        subst q3
        rw [List.append_nil] at q1
        have hz : c.size = z := by
          obtain ⟨_, _, _, _, g1, g2, g3, _⟩ := h.blk d _ e
          rw [h1] at g1; cases g1; rw [h2] at g2; cases g2; exact g3
        have hlen : c.size = T.size := by rw [← Array.length_toList, q1]; exact RepC.length _ _ _ q2
        refine ⟨b, z, c, el, by rw [hφ d _ e]; exact h1, h2, hz, by rw [toC_length, hlen], fun j x hx => ?_⟩
        have := toC_ok (φ := φ') (σ := s'.sh) T y vs (RepC.frame (O' := OS C.F φ' s') (Fr.refl _ w) (fun b hb => .inl (hO b hb)) _ _ _ q2)
        obtain ⟨u, hu, hok⟩ := this.at hx
        rw [← q1] at hu
        exact ⟨u, by simpa using hu, hok⟩),
    tmp := fun t => by
      have ho := h.tmp t
      rcases ht t with e | ⟨T, y, e, hy⟩ | ⟨d, e, hd⟩ | ⟨d, e, hd⟩
      · rw [e]; trivial
      · rw [e]
        exact RepV.frame (Fr.refl _ _) (fun b hb => .inl (hO b hb)) (asTy_ok hy ho)
      · have hrr := hr t d (by rw [e]; rfl)
        rw [e]
        obtain ⟨et, T, xs, hB, _⟩ | ⟨cs, hB, x, e'⟩ := hrr
        · rcases hd with ⟨hd, hl⟩ | ⟨hd, hn⟩
          · rw [hd] at ho
            obtain ⟨T', n, ad, cap, h1, h2, h3, h4⟩ := ho
            obtain ⟨B0, hB0⟩ := Option.isSome_iff_exists.1 hl
            exact ⟨T', n, ad, cap, by rw [hσ d _ hB hl, h1], h2, h3, by rw [hφ d _ hB0]; exact h4⟩
          · rw [hd] at ho
            have ho : a.tmps.getD t undef = .slice none 0 0 := ho
            rcases hb d _ hB with ⟨et', T', xs', e1, e2 | ⟨_, e2⟩⟩ | ⟨T', y, cs, e1, _⟩
            · rw [hn] at e2; cases e2
            · cases e1; subst e2
              exact ⟨T, 0, none, 0, by simp only [S.sh, hB, Option.map_some, Blk.sh, List.length_nil], ho, Nat.le_refl _, .inl ⟨hφn d hn, .inr ⟨rfl, rfl⟩⟩⟩
            · cases e1
        · rw [e] at e'; cases e'
      · have hrr := hr t d (by rw [e]; rfl)
        rw [e]
        obtain ⟨et, T, xs, hB, x, e'⟩ | ⟨cs, hB, _⟩ := hrr
        · rw [e] at e'; cases e'
        · rw [hd] at ho
          obtain ⟨b, o, z, h1, h2⟩ := ho
          have hl : (s.bk d).isSome = true := by
            rcases h2 with ⟨T, n, h2, _⟩ | ⟨h2, _⟩
            · simp only [S.sh, Option.map_eq_some_iff] at h2
              obtain ⟨B, h2, _⟩ := h2
              rw [h2]; rfl
            · simp only [S.sh, Option.map_eq_some_iff] at h2
              obtain ⟨B, h2, _⟩ := h2
              rw [h2]; rfl
          obtain ⟨B0, hB0⟩ := Option.isSome_iff_exists.1 hl
          exact ⟨b, o, z, by rw [hφ d _ hB0]; exact h1, by rw [hσ d _ hB hl]; exact h2⟩ }⟩
theorem isNil_spec {a : AV} (h : isNil a = true) : a = .cst (.slice none 0 0) := by
  unfold isNil at h
  split at h
  · rfl
  · cases h
theorem read_weak {s : S} : ∀ (D : Fm) (x : D.ty.den), D.read s = some x → (∀ t, TmW s t ((D.mk x).tm t)) ∧ (∀ d B, (D.mk x).bk d = some B → BkW s d B) ∧
    (∀ t d, (D.mk x).tm t = .own d → .own t d ∈ D ∧ ((D.mk x).tm t).ref = some d) ∧ (∀ t d i o, (D.mk x).tm t = .ptr d i o → i = 0 ∧ o = 0 ∧ It.ptr t d ∈ D) ∧ (∀ t d o l, (D.mk x).tm t ≠ .osl d o l) ∧
    (∀ d, hasArr d D = true → ∃ et T xs, (D.mk x).bk d = some (.arr et T xs)) ∧ (∀ d, hasBox d D = true → ∃ cs, (D.mk x).bk d = some (.box cs))
  | [], x, _ => by
    refine ⟨fun _ => .inl rfl, fun _ _ h => ?_, fun _ _ h => ?_, fun _ _ _ _ h => ?_, fun _ _ _ _ h => ?_, fun _ h => ?_, fun _ h => ?_⟩ <;> cases h
  | .v t T :: r, x, h => by
    simp only [Fm.read] at h
    split at h
    · rename_i y z h1 h2
      cases h
      obtain ⟨g1, g2, g3, g4, g5, g6, g7⟩ := read_weak r z h2
      have key : ∀ u, ((Fm.mk (.v t T :: r) (y, z)).tm u = .v T y ∧ u = t) ∨ ((Fm.mk (.v t T :: r) (y, z)).tm u = (Fm.mk r z).tm u) := fun u => by
        by_cases e : u = t
        · subst e; exact .inl ⟨by simp only [Fm.mk, S.put, beq_self, cond_true], rfl⟩
        · exact .inr (by simp only [Fm.mk, S.put, beq_ne e, cond_false])
      refine ⟨fun u => ?_, g2, fun u d hu => ?_, fun u d i o hu => ?_, fun u d o l hu => ?_, g6, g7⟩
      · rcases key u with ⟨e, rfl⟩ | e
        · rw [e]; exact .inr (.inl ⟨T, y, rfl, h1⟩)
        · rw [e]; exact g1 u
      · rcases key u with ⟨e, _⟩ | e
        · rw [e] at hu; cases hu
        · rw [e] at hu ⊢; exact ⟨List.mem_cons_of_mem _ (g3 u d hu).1, (g3 u d hu).2⟩
      · rcases key u with ⟨e, _⟩ | e
        · rw [e] at hu; cases hu
        · rw [e] at hu; obtain ⟨h1, h2, h3⟩ := g4 u d i o hu; exact ⟨h1, h2, List.mem_cons_of_mem _ h3⟩
      · rcases key u with ⟨e, _⟩ | e
        · rw [e] at hu; cases hu
        · rw [e] at hu; exact g5 u d o l hu
    · cases h
  | .arr d et T :: r, x, h => by
    simp only [Fm.read] at h
    split at h
    · rename_i y z h1 h2
      cases h
      obtain ⟨g1, g2, g3, g4, g5, g6, g7⟩ := read_weak r z h2
      refine ⟨g1, fun d' B hB => ?_, fun u d hu => ⟨List.mem_cons_of_mem _ (g3 u d hu).1, (g3 u d hu).2⟩, fun u d i o hu => ?_, g5, fun d' hd => ?_, fun d' hd => ?_⟩
      · by_cases e : d' = d
        · subst e
          have : (Fm.mk (.arr d' et T :: r) (y, z)).bk d' = some (.arr et T y) := set_same _ _ _
          rw [this] at hB
          cases hB
          refine .inl ⟨et, T, y, rfl, ?_⟩
          unfold rdArr at h1
          split at h1
          · rename_i et' T' xs hh
            obtain ⟨e1, h1'⟩ := cond_some' h1
            clear h1
            rw [nbeq] at e1
            have e1 := of_decide_eq_true e1
            subst e1
            obtain ⟨e2, e3⟩ := castT_sl h1'
            subst e2
            simp only at e3
            subst e3
            exact .inl hh
          · cases h1
          · rename_i hh
            cases h1
            exact .inr ⟨hh, rfl⟩
        · have : (Fm.mk (.arr d et T :: r) (y, z)).bk d' = (Fm.mk r z).bk d' := set_ne _ _ e
          rw [this] at hB
          exact g2 d' B hB
      · obtain ⟨h1, h2, h3⟩ := g4 u d i o hu; exact ⟨h1, h2, List.mem_cons_of_mem _ h3⟩
      · by_cases e : d' = d
        · subst e; exact ⟨et, T, y, set_same _ _ _⟩
        · simp only [hasArr, beq_ne (Ne.symm e), cond_false] at hd
          have hd : hasArr d' r = true := by cases hh : hasArr d' r <;> simp_all
          obtain ⟨et', T', xs, h3⟩ := g6 d' hd
          exact ⟨et', T', xs, (set_ne _ _ e).trans h3⟩
      · by_cases e : d' = d
        · subst e; simp only [hasBox, beq_self, cond_true] at hd; cases hd
        · simp only [hasBox, beq_ne (Ne.symm e), cond_false] at hd
          obtain ⟨cs, h3⟩ := g7 d' hd
          exact ⟨cs, (set_ne _ _ e).trans h3⟩
    · cases h
  | .box d T :: r, x, h => by
    simp only [Fm.read] at h
    split at h
    · rename_i y z h1 h2
      cases h
      obtain ⟨g1, g2, g3, g4, g5, g6, g7⟩ := read_weak r z h2
      refine ⟨g1, fun d' B hB => ?_, fun u d hu => ⟨List.mem_cons_of_mem _ (g3 u d hu).1, (g3 u d hu).2⟩, fun u d i o hu => ?_, g5, fun d' hd => ?_, fun d' hd => ?_⟩
      · by_cases e : d' = d
        · subst e
          have : (Fm.mk (.box d' T :: r) (y, z)).bk d' = some (.box (toC T y)) := set_same _ _ _
          rw [this] at hB
          cases hB
          unfold rdBox at h1
          split at h1
          · rename_i cs hh
            split at h1
            · rename_i y' hy
              cases h1
              exact .inr ⟨T, _, cs, rfl, hh, hy⟩
            · cases h1
          · cases h1
        · have : (Fm.mk (.box d T :: r) (y, z)).bk d' = (Fm.mk r z).bk d' := set_ne _ _ e
          rw [this] at hB
          exact g2 d' B hB
      · obtain ⟨h1, h2, h3⟩ := g4 u d i o hu; exact ⟨h1, h2, List.mem_cons_of_mem _ h3⟩
      · by_cases e : d' = d
        · subst e; simp only [hasArr, beq_self, cond_true] at hd; cases hd
        · simp only [hasArr, beq_ne (Ne.symm e), cond_false] at hd
          obtain ⟨et', T', xs, h3⟩ := g6 d' hd
          exact ⟨et', T', xs, (set_ne _ _ e).trans h3⟩
      · by_cases e : d' = d
        · subst e; exact ⟨_, set_same _ _ _⟩
        · simp only [hasBox, beq_ne (Ne.symm e), cond_false] at hd
          obtain ⟨cs, h3⟩ := g7 d' hd
          exact ⟨cs, (set_ne _ _ e).trans h3⟩
    · cases h
  | .own t d :: r, x, h => by
    simp only [Fm.read] at h
    have hkey : Fm.read s r = some x ∧ ((s.tm t = .own d ∧ (s.bk d).isSome = true) ∨ (s.tm t = .cst (.slice none 0 0) ∧ s.bk d = none)) := by
      split at h
      · rename_i d' hd
        obtain ⟨h1, h2⟩ := cond_some' h
        simp only [Bool.and_eq_true, nbeq, decide_eq_true_eq] at h1
        obtain ⟨rfl, h1⟩ := h1
        exact ⟨h2, .inl ⟨hd, h1⟩⟩
      · obtain ⟨h1, h2⟩ := cond_some' h
        simp only [Bool.and_eq_true, Option.isNone_iff_eq_none] at h1
        exact ⟨h2, .inr ⟨isNil_spec h1.1.1, h1.1.2⟩⟩
    obtain ⟨h1, h2⟩ := hkey
    obtain ⟨g1, g2, g3, g4, g5, g6, g7⟩ := read_weak r x h1
    have key : ∀ u, ((Fm.mk (.own t d :: r) x).tm u = .own d ∧ u = t) ∨ ((Fm.mk (.own t d :: r) x).tm u = (Fm.mk r x).tm u) := fun u => by
      by_cases e : u = t
      · subst e; exact .inl ⟨by simp only [Fm.mk, S.put, beq_self, cond_true], rfl⟩
      · exact .inr (by simp only [Fm.mk, S.put, beq_ne e, cond_false])
    refine ⟨fun u => ?_, g2, fun u d' hu => ?_, fun u d' i o hu => ?_, fun u d' o l hu => ?_, g6, g7⟩
    · rcases key u with ⟨e, rfl⟩ | e
      · rw [e]; exact .inr (.inr (.inl ⟨d, rfl, h2⟩))
      · rw [e]; exact g1 u
    · rcases key u with ⟨e, rfl⟩ | e
      · rw [e] at hu ⊢; cases hu; exact ⟨List.mem_cons_self, rfl⟩
      · rw [e] at hu ⊢; exact ⟨List.mem_cons_of_mem _ (g3 u d' hu).1, (g3 u d' hu).2⟩
    · rcases key u with ⟨e, _⟩ | e
      · rw [e] at hu; cases hu
      · rw [e] at hu; obtain ⟨h1, h2, h3⟩ := g4 u d' i o hu; exact ⟨h1, h2, List.mem_cons_of_mem _ h3⟩
    · rcases key u with ⟨e, _⟩ | e
      · rw [e] at hu; cases hu
      · rw [e] at hu; exact g5 u d' o l hu
  | .ptr t d :: r, x, h => by
    simp only [Fm.read] at h
    have hkey : Fm.read s r = some x ∧ s.tm t = .ptr d 0 0 := by
      split at h
      · rename_i d' hd
        obtain ⟨h1, h2⟩ := cond_some' h
        rw [nbeq] at h1
        have h1 := of_decide_eq_true h1
        subst h1
        exact ⟨h2, hd⟩
      · cases h
    obtain ⟨h1, h2⟩ := hkey
    obtain ⟨g1, g2, g3, g4, g5, g6, g7⟩ := read_weak r x h1
    have key : ∀ u, ((Fm.mk (.ptr t d :: r) x).tm u = .ptr d 0 0 ∧ u = t) ∨ ((Fm.mk (.ptr t d :: r) x).tm u = (Fm.mk r x).tm u) := fun u => by
      by_cases e : u = t
      · subst e; exact .inl ⟨by simp only [Fm.mk, S.put, beq_self, cond_true], rfl⟩
      · exact .inr (by simp only [Fm.mk, S.put, beq_ne e, cond_false])
    refine ⟨fun u => ?_, g2, fun u d' hu => ?_, fun u d' i o hu => ?_, fun u d' o l hu => ?_, g6, g7⟩
    · rcases key u with ⟨e, rfl⟩ | e
      · rw [e]; exact .inr (.inr (.inr ⟨d, rfl, h2⟩))
      · rw [e]; exact g1 u
    · rcases key u with ⟨e, _⟩ | e
      · rw [e] at hu; cases hu
      · rw [e] at hu ⊢; exact ⟨List.mem_cons_of_mem _ (g3 u d' hu).1, (g3 u d' hu).2⟩
    · rcases key u with ⟨e, rfl⟩ | e
      · rw [e] at hu; cases hu; exact ⟨rfl, rfl, List.mem_cons_self⟩
      · rw [e] at hu; obtain ⟨h1, h2, h3⟩ := g4 u d' i o hu; exact ⟨h1, h2, List.mem_cons_of_mem _ h3⟩
    · rcases key u with ⟨e, _⟩ | e
      · rw [e] at hu; cases hu
      · rw [e] at hu; exact g5 u d' o l hu
/-- A state is what has been read of it. -/
theorem SR.clean {C : Ctx} {s : S} {a : Act} {w : World} {D : Fm} {x : D.ty.den} (hD : D.fine = true) (h : SR C s a w) (hr : D.read s = some x) : SR C (D.mk x) a w := by
  obtain ⟨φ, h⟩ := h
  obtain ⟨g1, g2, g3, g4, g5, g6, g7⟩ := read_weak D x hr
  simp only [Fm.fine, List.all_eq_true] at hD
  refine h.weaken g1 g2 fun t d hd => ?_
  cases e : (D.mk x).tm t with
  | own d' =>
    rw [e] at hd
    cases hd
    obtain ⟨et, T, xs, h1⟩ := g6 d (hD _ (g3 t d e).1)
    exact .inl ⟨et, T, xs, h1, d, rfl⟩
  | ptr d' i o =>
    rw [e] at hd
    cases hd
    obtain ⟨rfl, rfl, h1⟩ := g4 t d i o e
    obtain ⟨cs, h2⟩ := g7 d (hD _ h1)
    exact .inr ⟨cs, h2, d, rfl⟩
  | osl d' o l => exact absurd e (g5 t d' o l)
  | _ => rw [e] at hd; cases hd
end Go.Proofs.Ytbchgegclgpdhaa.E
