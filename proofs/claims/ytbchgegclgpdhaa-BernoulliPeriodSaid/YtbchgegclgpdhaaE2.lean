/- What the evaluator's states say of the model's: the relation, and how it is carried on. -/
import Derived.Test.YtbchgegclgpdhaaE1
namespace Go.Proofs.Ytbchgegclgpdhaa.E
open Go
set_option linter.unusedVariables false

theorem nbeq (a b : Nat) : Nat.beq a b = decide (a = b) := by
  by_cases h : a = b
  · subst h; simp
  · rw [decide_eq_false h]
    cases hb : Nat.beq a b with
    | false => rfl
    | true => exact absurd (Nat.eq_of_beq_eq_true hb) h
def cellsAt (w : World) (b o : Nat) (us : List Value) : Prop := ∀ j u, us[j]? = some u → w.cell? ⟨b, o + j, none⟩ = some u

/-- Cells hold a value; its parts lie outside the blocks O. -/
def RepC (w : World) (O : Nat → Prop) : (t : Ty) → t.den → List Value → Prop
  | .int k, n, us => us = [.int k n]
  | .bool, b, us => us = [.bool b]
  | .str, s, us => us = [.string s]
  | .unit, _, us => us = []
  | .pair a b, x, us => ∃ u1 u2, us = u1 ++ u2 ∧ RepC w O a x.1 u1 ∧ RepC w O b x.2 u2
  | .sl t, xs, us => ∃ ad cap, us = [.slice ad (List.length xs) cap] ∧ List.length xs ≤ cap ∧
      ∀ i x, xs[i]? = some x → ∃ b o vs, ad = some ⟨b, o, none⟩ ∧ ¬ O b ∧ b < w.heap.size ∧ cellsAt w b (o + i * t.size) vs ∧ RepC w O t x vs

def RepV (w : World) (O : Nat → Prop) (t : Ty) (x : t.den) (u : Value) : Prop :=
  if t.agg then ∃ cs, u = .agg cs ∧ RepC w O t x cs.toList else RepC w O t x [u]
def RepT (w : World) (O : Nat → Prop) : (t : Ty) → t.den → List Value → Prop
  | .unit, _, us => us = []
  | .pair a b, x, us => ∃ u r, us = u :: r ∧ RepV w O a x.1 u ∧ RepT w O b x.2 r
  | _, _, _ => False

inductive Sh where
  | arr (t : Ty) (n : Nat)
  | box
def Blk.sh : Blk → Sh
  | .arr _ t xs => .arr t xs.length
  | .box _ => .box
/-- Where the blocks lie: the block, its first cell, the number of the block's cells. -/
abbrev Pl := Nat → Option (Nat × Nat × Nat)

def Ok (φ : Pl) (σ : Nat → Option Sh) (O : Nat → Prop) (w : World) : AV → Value → Prop
  | .v t x, u => RepV w O t x u
  | .own d, u => ∃ t n ad cap, σ d = some (.arr t n) ∧ u = .slice ad n cap ∧ n ≤ cap ∧
      ((φ d = none ∧ (d = BOR ∨ (ad = none ∧ cap = 0))) ∨ ∃ b s z, φ d = some (b, s, z) ∧ ad = some ⟨b, s, none⟩ ∧ (d = BOR ∨ (s = 0 ∧ z = cap * t.size ∧ cap ≤ maxLen)))
  | .osl d off len, u => ∃ t n ad cap, σ d = some (.arr t n) ∧ off + len ≤ n ∧ u = .slice ad len cap ∧ len ≤ cap ∧
      (len ≠ 0 → ∃ b s z, φ d = some (b, s, z) ∧ ad = some ⟨b, s + off * t.size, none⟩)
  | .ptr d i off, u => ∃ b s z, φ d = some (b, s, z) ∧
      ((∃ t n, σ d = some (.arr t n) ∧ i < n ∧ u = .pointer (some ⟨b, s + i * t.size + off, none⟩)) ∨ (σ d = some .box ∧ i = 0 ∧ u = .pointer (some ⟨b, s + off, none⟩)))
  | .ip t x off, u => ∃ b o vs, u = .pointer (some ⟨b, o + off, none⟩) ∧ ¬ O b ∧ b < w.heap.size ∧ cellsAt w b o vs ∧ RepC w O t x vs
  | .cst c, u => u = c
  | .tup t x, u => ∃ vs, u = .tuple vs ∧ RepT w O t x vs.toList
  | .fn f, u => u = .func (.func f) #[] #[]
  | .und, u => u = undef
  | .dead, _ => True

def BlkOk (φ : Pl) (σ : Nat → Option Sh) (O : Nat → Prop) (w : World) (d : Nat) : Blk → Prop
  | .arr et t xs => (φ d = none ∧ xs = []) ∨ ∃ (b s z : Nat) (c : Array Value) (el : TypeId), φ d = some (b, s, z) ∧ w.heap[b]? = some (.cells c el (0, 0)) ∧ c.size = z ∧ (d = BOR ∨ et = 0 ∨ el = et) ∧
      ∀ i x, xs[i]? = some x → ∃ vs, vs.length = t.size ∧ RepC w O t x vs ∧ ∀ j u, vs[j]? = some u → c[s + i * t.size + j]? = some u
  | .box cs => ∃ (b z : Nat) (c : Array Value) (el : TypeId), φ d = some (b, 0, z) ∧ w.heap[b]? = some (.cells c el (0, 0)) ∧ c.size = z ∧ c.size = cs.length ∧
      ∀ (j : Nat) (a : AV), cs[j]? = some a → ∃ u : Value, c[j]? = some u ∧ Ok φ σ O w a u

structure Ctx where
  w0 : World
  F : Nat → Prop
  bw : Option (Nat × Nat × Nat)
  n : Nat
  hF : ∀ b, F b → b < w0.heap.size
  hn : n ≤ BOR

def S.sh (s : S) : Nat → Option Sh := fun d => (s.bk d).map Blk.sh
/-- The blocks that may be written: the callers', and the call's own. -/
def OS (F : Nat → Prop) (φ : Pl) (s : S) (b : Nat) : Prop := F b ∨ ∃ d o z, (s.bk d).isSome = true ∧ φ d = some (b, o, z)

structure SRp (C : Ctx) (φ : Pl) (s : S) (a : Act) (w : World) : Prop where
  defers : a.defers = []
  size : a.tmps.size = C.n
  os : w.os = C.w0.os
  tape : w.tape = C.w0.tape
  output : w.output = C.w0.output
  grow : C.w0.heap.size ≤ w.heap.size
  old : ∀ b, b < C.w0.heap.size → (∀ s n, C.bw ≠ some (b, s, n)) → w.heap[b]? = C.w0.heap[b]?
  win : ∀ b s n, C.bw = some (b, s, n) → b < C.w0.heap.size ∧ ∃ c c' el, C.w0.heap[b]? = some (.cells c el (0, 0)) ∧ w.heap[b]? = some (.cells c' el (0, 0)) ∧ c'.size = c.size ∧
    ∀ o, o < s ∨ s + n ≤ o → c'[o]? = c[o]?
  place : ∀ d b o z, (s.bk d).isSome = true → φ d = some (b, o, z) → b < w.heap.size ∧
    ((C.w0.heap.size ≤ b ∧ d ≠ BOR) ∨ (d = BOR ∧ ∃ t m, s.sh d = some (.arr t m) ∧ C.bw = some (b, o, m * t.size)))
  inj : ∀ d d' b o o' z z', (s.bk d).isSome = true → (s.bk d').isSome = true → φ d = some (b, o, z) → φ d' = some (b, o', z') → d = d'
  blk : ∀ d B, s.bk d = some B → BlkOk φ s.sh (OS C.F φ s) w d B
  tmp : ∀ t, Ok φ s.sh (OS C.F φ s) w (s.tm t) (a.tmps.getD t undef)
def SR (C : Ctx) (s : S) (a : Act) (w : World) : Prop := ∃ φ, SRp C φ s a w

/-- Nothing outside O has turned. -/
structure Fr (O : Nat → Prop) (w w' : World) : Prop where
  size : w.heap.size ≤ w'.heap.size
  block : ∀ b, ¬ O b → b < w.heap.size → w'.heap[b]? = w.heap[b]?

theorem Fr.refl (O : Nat → Prop) (w : World) : Fr O w w := ⟨Nat.le_refl _, fun _ _ _ => rfl⟩
theorem cellsAt.frame {w w' : World} {b o : Nat} {us : List Value} (h : w'.heap[b]? = w.heap[b]?) (hc : cellsAt w b o us) : cellsAt w' b o us := by
  intro j u hj
  have := hc j u hj
  simp only [World.cell?] at this ⊢
  rw [h]; exact this

theorem RepC.frame {w w' : World} {O O' : Nat → Prop} (h : Fr O w w') (hO : ∀ b, O' b → O b ∨ w.heap.size ≤ b) :
    ∀ (t : Ty) (x : t.den) (us : List Value), RepC w O t x us → RepC w' O' t x us
  | .int _, _, _, r => r
  | .bool, _, _, r => r
  | .str, _, _, r => r
  | .unit, _, _, r => r
  | .pair a b, x, us, r => by
    obtain ⟨u1, u2, e, r1, r2⟩ := r
    exact ⟨u1, u2, e, RepC.frame h hO a _ _ r1, RepC.frame h hO b _ _ r2⟩
  | .sl t, xs, us, r => by
    obtain ⟨ad, cap, e, hl, r⟩ := r
    refine ⟨ad, cap, e, hl, fun i x hx => ?_⟩
    obtain ⟨b, o, vs, e1, hn, hb, hc, rr⟩ := r i x hx
    refine ⟨b, o, vs, e1, fun ho => ?_, Nat.lt_of_lt_of_le hb h.size, hc.frame (h.block b hn hb), RepC.frame h hO t x vs rr⟩
    rcases hO b ho with h1 | h1
    · exact hn h1
    · omega
theorem RepV.frame {w w' : World} {O O' : Nat → Prop} (h : Fr O w w') (hO : ∀ b, O' b → O b ∨ w.heap.size ≤ b)
    {t : Ty} {x : t.den} {u : Value} (r : RepV w O t x u) : RepV w' O' t x u := by
  unfold RepV at *
  split
  · rename_i ht; rw [if_pos ht] at r; obtain ⟨cs, e, r⟩ := r; exact ⟨cs, e, RepC.frame h hO _ _ _ r⟩
  · rename_i ht; rw [if_neg ht] at r; exact RepC.frame h hO _ _ _ r
theorem RepT.frame {w w' : World} {O O' : Nat → Prop} (h : Fr O w w') (hO : ∀ b, O' b → O b ∨ w.heap.size ≤ b) :
    ∀ (t : Ty) (x : t.den) (us : List Value), RepT w O t x us → RepT w' O' t x us
  | .unit, _, _, r => r
  | .pair a b, x, us, r => by
    obtain ⟨u, l, e, r1, r2⟩ := r
    exact ⟨u, l, e, r1.frame h hO, RepT.frame h hO b _ _ r2⟩
  | .int _, _, _, r => r.elim
  | .bool, _, _, r => r.elim
  | .str, _, _, r => r.elim
  | .sl _, _, _, r => r.elim
theorem RepC.length {w : World} {O : Nat → Prop} : ∀ (t : Ty) (x : t.den) (us : List Value), RepC w O t x us → us.length = t.size
  | .int _, _, _, r => by simp only [RepC] at r; subst r; rfl
  | .bool, _, _, r => by simp only [RepC] at r; subst r; rfl
  | .str, _, _, r => by simp only [RepC] at r; subst r; rfl
  | .unit, _, _, r => by simp only [RepC] at r; subst r; rfl
  | .pair a b, x, us, r => by
    obtain ⟨u1, u2, rfl, r1, r2⟩ := r
    simp [RepC.length a _ _ r1, RepC.length b _ _ r2, Ty.size]
  | .sl t, xs, us, r => by obtain ⟨ad, cap, rfl, _⟩ := r; rfl

def AV.ref : AV → Option Nat
  | .own d => some d
  | .osl d _ _ => some d
  | .ptr d _ _ => some d
  | _ => none
theorem Ok.move {φ φ' : Pl} {σ σ' : Nat → Option Sh} {O O' : Nat → Prop} {w w' : World} (h : Fr O w w') (hO : ∀ b, O' b → O b ∨ w.heap.size ≤ b)
    {a : AV} {u : Value} (hr : ∀ d, a.ref = some d → (σ d).isSome = true → σ' d = σ d ∧ φ' d = φ d) (ho : Ok φ σ O w a u) : Ok φ' σ' O' w' a u := by
  cases a with
  | v t x => exact RepV.frame h hO ho
  | own d =>
    obtain ⟨t, n, ad, cap, h1, h2, h3, h4⟩ := ho
    obtain ⟨e1, e2⟩ := hr d rfl (by rw [h1]; rfl)
    exact ⟨t, n, ad, cap, by rw [e1, h1], h2, h3, by rw [e2]; exact h4⟩
  | osl d off len =>
    obtain ⟨t, n, ad, cap, h1, h2, h3, h4, h5⟩ := ho
    obtain ⟨e1, e2⟩ := hr d rfl (by rw [h1]; rfl)
    exact ⟨t, n, ad, cap, by rw [e1, h1], h2, h3, h4, by rw [e2]; exact h5⟩
  | ptr d i off =>
    obtain ⟨b, s, z, h1, h2⟩ := ho
    obtain ⟨e1, e2⟩ := hr d rfl (by rcases h2 with ⟨t, n, h2, _⟩ | ⟨h2, _⟩ <;> rw [h2] <;> rfl)
    exact ⟨b, s, z, by rw [e2, h1], by rw [e1]; exact h2⟩
  | ip t x off =>
    obtain ⟨b, o, vs, e, hn, hb, hc, r⟩ := ho
    refine ⟨b, o, vs, e, fun h' => ?_, Nat.lt_of_lt_of_le hb h.size, hc.frame (h.block b hn hb), RepC.frame h hO _ _ _ r⟩
    rcases hO b h' with h1 | h1
    · exact hn h1
    · omega
  | cst c => exact ho
  | tup t x => obtain ⟨vs, e, r⟩ := ho; exact ⟨vs, e, RepT.frame h hO _ _ _ r⟩
  | fn f => exact ho
  | und => exact ho
  | dead => trivial
/-- What a slot holds where nothing but the world outside O has been looked at. -/
theorem Ok.frame {φ : Pl} {σ : Nat → Option Sh} {O : Nat → Prop} {w w' : World} (h : Fr O w w') {a : AV} {u : Value} (ho : Ok φ σ O w a u) : Ok φ σ O w' a u :=
  ho.move h (fun _ h => .inl h) fun _ _ _ => ⟨rfl, rfl⟩

theorem Act.getD_put {a : Act} {d t : Nat} {u : Value} (hd : d < a.tmps.size) :
    (a.put (some d) u).tmps.getD t undef = cond (Nat.beq t d) u (a.tmps.getD t undef) := by
  simp only [Act.put, Array.getD_eq_getD_getElem?]
  by_cases h : t = d
  · subst h; simp [hd]
  · have : Nat.beq t d = false := by rw [nbeq]; exact decide_eq_false h
    rw [this, Array.getElem?_setIfInBounds_ne (Ne.symm h)]; rfl

theorem SRp.put {C : Ctx} {φ : Pl} {s : S} {a : Act} {w : World} (h : SRp C φ s a w) {d : Nat} {x : AV} {u : Value} (hd : d < C.n)
    (hx : Ok φ s.sh (OS C.F φ s) w x u) : SRp C φ (s.put d x) (a.put (some d) u) w :=
  { defers := h.defers, size := by simp [Act.put, h.size], os := h.os, tape := h.tape, output := h.output, grow := h.grow, old := h.old, win := h.win,
    place := h.place, inj := h.inj, blk := h.blk,
    tmp := fun t => by
      rw [Act.getD_put (by rw [h.size]; exact hd)]
      show Ok φ s.sh (OS C.F φ s) w (cond (Nat.beq t d) x (s.tm t)) _
      cases Nat.beq t d
      · exact h.tmp t
      · exact hx }
theorem SRp.puto {C : Ctx} {φ : Pl} {s : S} {a : Act} {w : World} (h : SRp C φ s a w) {d : Option Nat} {x : AV} {u : Value} (hd : ∀ t, d = some t → t < C.n)
    (hx : Ok φ s.sh (OS C.F φ s) w x u) : SRp C φ (s.puto d x) (a.put d u) w := by
  cases d with
  | none => exact h
  | some t => exact h.put (hd t rfl) hx
/-- A state that says less. -/
theorem SRp.less {C : Ctx} {φ : Pl} {s s' : S} {a : Act} {w : World} (h : SRp C φ s a w) (hb : s'.bk = s.bk) (ht : ∀ t, s'.tm t = s.tm t ∨ s'.tm t = .dead) : SRp C φ s' a w := by
  have e1 : s'.sh = s.sh := by unfold S.sh; rw [hb]
  have e2 : OS C.F φ s' = OS C.F φ s := by funext b; unfold OS; rw [hb]
  exact {
    defers := h.defers, size := h.size, os := h.os, tape := h.tape, output := h.output, grow := h.grow, old := h.old, win := h.win,
    place := (by rw [e1, hb]; exact h.place),
    inj := (by rw [hb]; exact h.inj),
    blk := (by rw [e1, e2, hb]; exact h.blk),
    tmp := fun t => by
      rw [e1, e2]
      rcases ht t with e | e
      · rw [e]; exact h.tmp t
      · rw [e]; trivial }

theorem sh_kill (p : Nat → Bool) (b : Blk) : (b.kill p).sh = b.sh := by cases b <;> rfl
theorem S.sh_kill (s : S) (p : Nat → Bool) (d : Nat) : (s.kill p).sh d = cond (p d) none (s.sh d) := by
  simp only [S.sh, S.kill]
  cases p d <;> cases s.bk d <;> simp [E.sh_kill]
theorem S.sh_killR (s : S) (p : Nat → Bool) : (s.killR p).sh = s.sh := by
  funext d
  simp only [S.sh, S.killR]
  cases s.bk d <;> simp [E.sh_kill]
theorem Ok.kill {φ : Pl} {σ σ' : Nat → Option Sh} {O O' : Nat → Prop} {w : World} {p : Nat → Bool} (hσ : ∀ d, p d = false → σ' d = σ d) (hO : ∀ b, O' b → O b)
    {a : AV} {u : Value} (ho : Ok φ σ O w a u) : Ok φ σ' O' w (a.kill p) u := by
  have key : (∀ d, a.ref = some d → p d = false) → Ok φ σ' O' w a u := fun hr =>
    ho.move (Fr.refl _ _) (fun b h => .inl (hO b h)) fun d hd _ => ⟨hσ d (hr d hd), rfl⟩
  cases a with
  | own d => simp only [AV.kill]; cases hp : p d with
    | true => trivial
    | false => exact key fun d' h => by cases h; exact hp
  | osl d off len => simp only [AV.kill]; cases hp : p d with
    | true => trivial
    | false => exact key fun d' h => by cases h; exact hp
  | ptr d i off => simp only [AV.kill]; cases hp : p d with
    | true => trivial
    | false => exact key fun d' h => by cases h; exact hp
  | v t x => exact key fun _ h => by cases h
  | ip t x off => exact key fun _ h => by cases h
  | cst c => exact key fun _ h => by cases h
  | tup t x => exact key fun _ h => by cases h
  | fn f => exact key fun _ h => by cases h
  | und => exact key fun _ h => by cases h
  | dead => trivial
theorem BlkOk.kill {φ : Pl} {σ σ' : Nat → Option Sh} {O O' : Nat → Prop} {w : World} {p : Nat → Bool} (hσ : ∀ d, p d = false → σ' d = σ d) (hO : ∀ b, O' b → O b)
    {d : Nat} {B : Blk} (ho : BlkOk φ σ O w d B) : BlkOk φ σ' O' w d (B.kill p) := by
  cases B with
  | arr et t xs =>
    rcases ho with h | ⟨b, s, z, c, el, h1, h2, h3, h4, h5⟩
    · exact .inl h
    · refine .inr ⟨b, s, z, c, el, h1, h2, h3, h4, fun i x hx => ?_⟩
      obtain ⟨vs, e, r, hc⟩ := h5 i x hx
      exact ⟨vs, e, RepC.frame (Fr.refl _ _) (fun b h => .inl (hO b h)) _ _ _ r, hc⟩
  | box cs =>
    obtain ⟨b, z, c, el, h1, h2, h3, h4, h5⟩ := ho
    refine ⟨b, z, c, el, h1, h2, h3, by simpa using h4, fun j a ha => ?_⟩
    rw [List.getElem?_map, Option.map_eq_some_iff] at ha
    obtain ⟨a', ha', rfl⟩ := ha
    obtain ⟨u, hu, ho⟩ := h5 j a' ha'
    exact ⟨u, hu, ho.kill hσ hO⟩
theorem kill_some {s : S} {p : Nat → Bool} {d : Nat} {B : Blk} (h : (s.kill p).bk d = some B) : p d = false ∧ ∃ B', s.bk d = some B' ∧ B = B'.kill p := by
  simp only [S.kill] at h
  cases hp : p d with
  | true => rw [hp] at h; cases h
  | false =>
    rw [hp] at h
    simp only [cond_false, Option.map_eq_some_iff] at h
    obtain ⟨B', h1, rfl⟩ := h
    exact ⟨rfl, B', h1, rfl⟩
theorem kill_live {s : S} {p : Nat → Bool} {d : Nat} (h : ((s.kill p).bk d).isSome = true) : p d = false ∧ (s.bk d).isSome = true := by
  obtain ⟨B, hB⟩ := Option.isSome_iff_exists.1 h
  obtain ⟨hp, B', h1, _⟩ := kill_some hB
  exact ⟨hp, by rw [h1]; rfl⟩
theorem SRp.kill {C : Ctx} {φ : Pl} {s : S} {a : Act} {w : World} (h : SRp C φ s a w) (p : Nat → Bool) : SRp C φ (s.kill p) a w := by
  have hO : ∀ b, OS C.F φ (s.kill p) b → OS C.F φ s b := fun b hb => hb.imp id fun ⟨d, o, z, h1, h2⟩ => ⟨d, o, z, (kill_live h1).2, h2⟩
  have hσ : ∀ d, p d = false → (s.kill p).sh d = s.sh d := fun d hp => by rw [S.sh_kill, hp]; rfl
  exact {
    defers := h.defers, size := h.size, os := h.os, tape := h.tape, output := h.output, grow := h.grow, old := h.old, win := h.win,
    place := (fun d b o z hl hp => by
      obtain ⟨hk, hl⟩ := kill_live hl
      obtain ⟨h1, h2⟩ := h.place d b o z hl hp
      refine ⟨h1, h2.imp id fun ⟨e, t, m, h3, h4⟩ => ⟨e, t, m, ?_, h4⟩⟩
      rw [hσ d hk]; exact h3),
    inj := (fun d d' b o o' z z' h1 h2 => h.inj d d' b o o' z z' (kill_live h1).2 (kill_live h2).2),
    blk := (fun d B hB => by
      obtain ⟨hk, B', h1, rfl⟩ := kill_some hB
      exact (h.blk d B' h1).kill hσ hO),
    tmp := fun t => (h.tmp t).kill hσ hO }
theorem killR_some {s : S} {p : Nat → Bool} {d : Nat} {B : Blk} (h : (s.killR p).bk d = some B) : ∃ B', s.bk d = some B' ∧ B = B'.kill p := by
  simp only [S.killR, Option.map_eq_some_iff] at h
  obtain ⟨B', h1, rfl⟩ := h
  exact ⟨B', h1, rfl⟩
theorem killR_live {s : S} {p : Nat → Bool} {d : Nat} : ((s.killR p).bk d).isSome = (s.bk d).isSome := by
  simp only [S.killR]; cases s.bk d <;> rfl
theorem SRp.killR {C : Ctx} {φ : Pl} {s : S} {a : Act} {w : World} (h : SRp C φ s a w) (p : Nat → Bool) : SRp C φ (s.killR p) a w := by
  have hO : ∀ b, OS C.F φ (s.killR p) b → OS C.F φ s b := fun b hb => hb.imp id fun ⟨d, o, z, h1, h2⟩ => ⟨d, o, z, by rw [← killR_live]; exact h1, h2⟩
  have hσ : ∀ d, p d = false → (s.killR p).sh d = s.sh d := fun d _ => by rw [S.sh_killR]
  exact {
    defers := h.defers, size := h.size, os := h.os, tape := h.tape, output := h.output, grow := h.grow, old := h.old, win := h.win,
    place := (fun d b o z hl hp => by rw [S.sh_killR]; rw [killR_live] at hl; exact h.place d b o z hl hp),
    inj := (fun d d' b o o' z z' h1 h2 => by rw [killR_live] at h1 h2; exact h.inj d d' b o o' z z' h1 h2),
    blk := (fun d B hB => by
      obtain ⟨B', h1, rfl⟩ := killR_some hB
      exact (h.blk d B' h1).kill hσ hO),
    tmp := fun t => (h.tmp t).kill hσ hO }

/-- Nothing refers to block d. -/
structure NoRef (d : Nat) (s : S) : Prop where
  tm : ∀ t, (s.tm t).ref ≠ some d
  bk : ∀ d' cs, s.bk d' = some (.box cs) → ∀ a ∈ cs, a.ref ≠ some d
theorem ref_cond {b : Bool} {a : AV} {d d' : Nat} (ha : a.ref = some d') (h : b = false → d' ≠ d) : (cond b AV.dead a).ref ≠ some d := by
  cases b
  · rw [cond_false, ha]; intro e; exact h rfl (Option.some.inj e)
  · intro e; cases e
theorem ref_kill (p : Nat → Bool) (a : AV) (d : Nat) (hp : p d = true) : (a.kill p).ref ≠ some d := by
  have key : ∀ d', p d' = false → d' ≠ d := fun d' h e => by rw [e, hp] at h; cases h
  cases a with
  | own d' => exact ref_cond rfl (key d')
  | osl d' _ _ => exact ref_cond rfl (key d')
  | ptr d' _ _ => exact ref_cond rfl (key d')
  | _ => intro e; cases e
theorem NoRef.killR (s : S) (d : Nat) : NoRef d (s.killR (Nat.beq d)) where
  tm := fun t => ref_kill _ _ _ (by rw [nbeq]; exact decide_eq_true rfl)
  bk := fun d' cs h a ha => by
    obtain ⟨B', h1, e⟩ := killR_some h
    cases B' with
    | arr => cases e
    | box cs' =>
      simp only [Blk.kill, Blk.box.injEq] at e
      subst e
      obtain ⟨a', _, rfl⟩ := List.mem_map.1 ha
      exact ref_kill _ _ _ (by rw [nbeq]; exact decide_eq_true rfl)
theorem Ok.noref {φ : Pl} {σ : Nat → Option Sh} {O : Nat → Prop} {w : World} {a : AV} {u : Value} {d : Nat} (ho : Ok φ σ O w a u) (hd : σ d = none) : a.ref ≠ some d := by
  intro e
  cases a <;> simp only [AV.ref, Option.some.injEq, reduceCtorEq] at e
  all_goals subst e
  · obtain ⟨t, n, ad, cap, h1, _⟩ := ho; rw [hd] at h1; cases h1
  · obtain ⟨t, n, ad, cap, h1, _⟩ := ho; rw [hd] at h1; cases h1
  · obtain ⟨b, s, z, h1, ⟨t, n, h2, _⟩ | ⟨h2, _⟩⟩ := ho <;> rw [hd] at h2 <;> cases h2
theorem SRp.noref {C : Ctx} {φ : Pl} {s : S} {a : Act} {w : World} (h : SRp C φ s a w) {d : Nat} (hd : s.bk d = none) : NoRef d s where
  tm := fun t => (h.tmp t).noref (by simp [S.sh, hd])
  bk := fun d' cs hc x hx => by
    obtain ⟨b, z, c, el, _, _, _, _, h5⟩ := h.blk d' _ hc
    obtain ⟨j, hj, e⟩ := List.getElem_of_mem hx
    obtain ⟨u, _, ho⟩ := h5 j x (by rw [List.getElem?_eq_getElem hj, e])
    exact ho.noref (by simp [S.sh, hd])

def upd (φ : Pl) (d : Nat) (p : Option (Nat × Nat × Nat)) : Pl := fun x => cond (Nat.beq x d) p (φ x)
theorem beq_self (d : Nat) : Nat.beq d d = true := by rw [nbeq]; exact decide_eq_true rfl
theorem beq_ne {x d : Nat} (h : x ≠ d) : Nat.beq x d = false := by rw [nbeq]; exact decide_eq_false h
theorem upd_same (φ : Pl) (d : Nat) (p : Option (Nat × Nat × Nat)) : upd φ d p d = p := by simp only [upd, beq_self, cond_true]
theorem upd_ne (φ : Pl) {d x : Nat} (p : Option (Nat × Nat × Nat)) (h : x ≠ d) : upd φ d p x = φ x := by simp only [upd, beq_ne h, cond_false]
theorem set_same (s : S) (d : Nat) (B : Blk) : (s.set d B).bk d = some B := by simp only [S.set, beq_self, cond_true]
theorem set_ne (s : S) {d x : Nat} (B : Blk) (h : x ≠ d) : (s.set d B).bk x = s.bk x := by simp only [S.set, beq_ne h, cond_false]
theorem set_sh_same (s : S) (d : Nat) (B : Blk) : (s.set d B).sh d = some B.sh := by simp only [S.sh, set_same, Option.map_some]
theorem set_sh_ne (s : S) {d x : Nat} (B : Blk) (h : x ≠ d) : (s.set d B).sh x = s.sh x := by simp only [S.sh, set_ne s B h]
theorem upd_self (φ : Pl) (d : Nat) : upd φ d (φ d) = φ := by
  funext x
  by_cases h : x = d
  · subst h; exact upd_same _ _ _
  · exact upd_ne _ _ h

/-- A block is laid, or laid anew. -/
theorem SRp.setB {C : Ctx} {φ : Pl} {s : S} {a : Act} {w w' : World} (h : SRp C φ s a w) (d : Nat) (B' : Blk) (pl : Option (Nat × Nat × Nat))
    (hsh : (s.sh d = some B'.sh ∧ pl = φ d) ∨ NoRef d s) (hfr : Fr (OS C.F φ s) w w')
    (hos : w'.os = w.os) (htape : w'.tape = w.tape) (hout : w'.output = w.output)
    (hold : ∀ b, b < C.w0.heap.size → (∀ s n, C.bw ≠ some (b, s, n)) → w'.heap[b]? = w.heap[b]?)
    (hwin : ∀ b s n, C.bw = some (b, s, n) → w'.heap[b]? = w.heap[b]? ∨ ∃ c c' el, w.heap[b]? = some (.cells c el (0, 0)) ∧ w'.heap[b]? = some (.cells c' el (0, 0)) ∧ c'.size = c.size ∧
      ∀ o, o < s ∨ s + n ≤ o → c'[o]? = c[o]?)
    (hoth : ∀ d' b o z, d' ≠ d → (s.bk d').isSome = true → φ d' = some (b, o, z) → w'.heap[b]? = w.heap[b]?)
    (hplace : ∀ b o z, pl = some (b, o, z) → b < w'.heap.size ∧ ((C.w0.heap.size ≤ b ∧ d ≠ BOR) ∨ (d = BOR ∧ ∃ t m, B'.sh = .arr t m ∧ C.bw = some (b, o, m * t.size))) ∧
      (∀ d' b' o' z', d' ≠ d → (s.bk d').isSome = true → φ d' = some (b', o', z') → b' ≠ b) ∧ (OS C.F φ s b ∨ w.heap.size ≤ b))
    (hB : BlkOk (upd φ d pl) (s.set d B').sh (OS C.F (upd φ d pl) (s.set d B')) w' d B') : SRp C (upd φ d pl) (s.set d B') a w' := by
  have hO : ∀ b, OS C.F (upd φ d pl) (s.set d B') b → OS C.F φ s b ∨ w.heap.size ≤ b := by
    rintro b (hb | ⟨d', o, z, h1, h2⟩)
    · exact .inl (.inl hb)
    · by_cases e : d' = d
      · subst e
        rw [upd_same] at h2
        exact (hplace _ _ _ h2).2.2.2
      · rw [upd_ne _ _ e] at h2
        rw [set_ne _ _ e] at h1
        exact .inl (.inr ⟨d', o, z, h1, h2⟩)
  have hmv : ∀ {x : AV} {u : Value}, (NoRef d s → x.ref ≠ some d) → Ok φ s.sh (OS C.F φ s) w x u → Ok (upd φ d pl) (s.set d B').sh (OS C.F (upd φ d pl) (s.set d B')) w' x u := by
    intro x u hx ho
    refine ho.move hfr hO fun d' hd' _ => ?_
    by_cases e : d' = d
    · subst e
      rcases hsh with ⟨h1, h2⟩ | hn
      · rw [set_sh_same, h1, upd_same, h2]; exact ⟨rfl, rfl⟩
      · exact absurd hd' (hx hn)
    · rw [set_sh_ne _ _ e, upd_ne _ _ e]; exact ⟨rfl, rfl⟩
  exact {
    defers := h.defers, size := h.size, os := hos.trans h.os, tape := htape.trans h.tape, output := hout.trans h.output,
    grow := Nat.le_trans h.grow hfr.size,
    old := (fun b hb hn => (hold b hb hn).trans (h.old b hb hn)),
    win := (fun b o n hb => by
      obtain ⟨h1, c, c', el, h2, h3, h4, h5⟩ := h.win b o n hb
      rcases hwin b o n hb with e | ⟨c1, c2, el', e1, e2, e3, e4⟩
      · exact ⟨h1, c, c', el, h2, by rw [e]; exact h3, h4, h5⟩
      · rw [h3] at e1
        injection e1 with e1
        injection e1 with ea eb _
        subst ea eb
        exact ⟨h1, c, c2, el, h2, e2, e3.trans h4, fun k hk => (e4 k hk).trans (h5 k hk)⟩),
    place := (fun d' b o z hl hp => by
      by_cases e : d' = d
      · subst e
        rw [upd_same] at hp
        obtain ⟨h1, h2, _⟩ := hplace b o z hp
        refine ⟨h1, h2.imp id fun ⟨e, t, m, h3, h4⟩ => ⟨e, t, m, ?_, h4⟩⟩
        rw [set_sh_same, h3]
      · rw [upd_ne _ _ e] at hp
        rw [set_ne _ _ e] at hl
        obtain ⟨h1, h2⟩ := h.place d' b o z hl hp
        refine ⟨Nat.lt_of_lt_of_le h1 hfr.size, ?_⟩
        rw [set_sh_ne _ _ e]
        exact h2),
    inj := (fun d1 d2 b o o' z z' l1 l2 p1 p2 => by
      by_cases e1 : d1 = d <;> by_cases e2 : d2 = d
      · rw [e1, e2]
      · subst e1
        rw [upd_same] at p1
        rw [upd_ne _ _ e2] at p2
        rw [set_ne _ _ e2] at l2
        exact absurd rfl ((hplace _ _ _ p1).2.2.1 d2 b o' z' e2 l2 p2)
      · subst e2
        rw [upd_same] at p2
        rw [upd_ne _ _ e1] at p1
        rw [set_ne _ _ e1] at l1
        exact absurd rfl ((hplace _ _ _ p2).2.2.1 d1 b o z e1 l1 p1)
      · rw [upd_ne _ _ e1] at p1
        rw [upd_ne _ _ e2] at p2
        rw [set_ne _ _ e1] at l1
        rw [set_ne _ _ e2] at l2
        exact h.inj d1 d2 b o o' z z' l1 l2 p1 p2),
    blk := (fun d' B hB' => by
      by_cases e : d' = d
      · subst e
        rw [set_same] at hB'
        cases hB'
        exact hB
      · rw [set_ne _ _ e] at hB'
        have hl : (s.bk d').isSome = true := by rw [hB']; rfl
        have ho := h.blk d' B hB'
        cases B with
        | arr et t xs =>
          rcases ho with h1 | ⟨b, o, z, c, el, h1, h2, h3, h4, h5⟩
          · exact .inl (by rw [upd_ne _ _ e]; exact h1)
          · refine .inr ⟨b, o, z, c, el, by rw [upd_ne _ _ e]; exact h1, by rw [hoth d' b o z e hl h1]; exact h2, h3, h4, fun i x hx => ?_⟩
            obtain ⟨vs, e1, r, hc⟩ := h5 i x hx
            exact ⟨vs, e1, RepC.frame hfr hO _ _ _ r, hc⟩
        | box cs =>
          obtain ⟨b, z, c, el, h1, h2, h3, h4, h5⟩ := ho
          refine ⟨b, z, c, el, by rw [upd_ne _ _ e]; exact h1, by rw [hoth d' b 0 z e hl h1]; exact h2, h3, h4, fun j x hx => ?_⟩
          obtain ⟨u, hu, ho⟩ := h5 j x hx
          exact ⟨u, hu, hmv (fun hn => hn.bk d' cs hB' x (List.mem_of_getElem? hx)) ho⟩),
    tmp := fun t => hmv (fun hn => hn.tm t) (h.tmp t) }

theorem RepV.of_sl {w : World} {O : Nat → Prop} {t : Ty} {xs : List t.den} {u : Value} (h : RepC w O (.sl t) xs [u]) : RepV w O (.sl t) xs u := by
  unfold RepV; rw [if_neg (by simp [Ty.agg])]; exact h
theorem row_cells {w : World} {c : Array Value} {el : TypeId} {b o : Nat} {vs : List Value} (hb : w.heap[b]? = some (.cells c el (0, 0)))
    (h : ∀ (j : Nat) (u : Value), vs[j]? = some u → c[o + j]? = some u) : cellsAt w b o vs := by
  intro j u hj
  rw [cell_of_row w b (o + j) c el (0, 0) hb]
  exact h j u hj
/-- A row that is written no more is a plain value wherever it is known. -/
theorem SRp.frz1 {C : Ctx} {φ : Pl} {s : S} {a : Act} {w : World} (h : SRp C φ s a w) (d : Nat) : SRp C φ (s.frz1 d) a w := by
  by_cases hd : d = BOR
  · have : s.frz1 d = s := by simp only [S.frz1, hd, beq_self, cond_true]
    rw [this]; exact h
  cases hB : s.bk d with
  | none =>
    have : s.frz1 d = s := by simp only [S.frz1, beq_ne hd, cond_false, hB]
    rw [this]; exact h
  | some B =>
  cases B with
  | box cs =>
    have : s.frz1 d = s := by simp only [S.frz1, beq_ne hd, cond_false, hB]
    rw [this]; exact h
  | arr et t xs =>
  have hl : (s.bk d).isSome = true := by rw [hB]; rfl
  have hσd : s.sh d = some (.arr t xs.length) := by simp only [S.sh, hB, Option.map_some, Blk.sh]
  have hbk : ∀ x, (s.frz1 d).bk x = cond (Nat.beq x d) none ((s.bk x).map (Blk.frz d t xs)) := fun x => by simp only [S.frz1, beq_ne hd, cond_false, hB]
  have hbd : (s.frz1 d).bk d = none := by rw [hbk, beq_self]; rfl
  have hbn : ∀ x, x ≠ d → (s.frz1 d).bk x = (s.bk x).map (Blk.frz d t xs) := fun x hx => by rw [hbk, beq_ne hx]; rfl
  have htm : ∀ u, (s.frz1 d).tm u = (s.tm u).frz d t xs := fun u => by simp only [S.frz1, beq_ne hd, cond_false, hB]
  have hσ : ∀ x, x ≠ d → (s.frz1 d).sh x = s.sh x := fun x hx => by
    simp only [S.sh, hbn x hx]
    cases s.bk x with
    | none => rfl
    | some B => cases B <;> rfl
  have hlive : ∀ x, ((s.frz1 d).bk x).isSome = true → x ≠ d ∧ (s.bk x).isSome = true := fun x hx => by
    by_cases e : x = d
    · subst e; rw [hbd] at hx; cases hx
    · rw [hbn x e] at hx
      refine ⟨e, ?_⟩
      cases hb : s.bk x with
      | none => rw [hb] at hx; cases hx
      | some _ => rfl
  have hO : ∀ b, OS C.F φ (s.frz1 d) b → OS C.F φ s b := fun b hb => hb.imp id fun ⟨x, o, z, h1, h2⟩ => ⟨x, o, z, (hlive x h1).2, h2⟩
  have hout : ∀ b o z, φ d = some (b, o, z) → ¬ OS C.F φ (s.frz1 d) b ∧ b < w.heap.size := by
    intro b o z hp
    obtain ⟨h1, h2⟩ := h.place d b o z hl hp
    refine ⟨?_, h1⟩
    rcases h2 with h2 | ⟨e, _⟩
    · rintro (hb | ⟨x, o', z', h3, h4⟩)
      · have := C.hF b hb; have := h2.1; omega
      · obtain ⟨e, h5⟩ := hlive x h3
        exact e (h.inj x d b o' o z' z h5 hl h4 hp)
    · exact absurd e hd
  have hel : ∀ (i : Nat) (x : t.den), xs[i]? = some x → ∃ b o z vs, φ d = some (b, o, z) ∧ cellsAt w b (o + i * t.size) vs ∧ RepC w (OS C.F φ (s.frz1 d)) t x vs := by
    intro i x hx
    rcases h.blk d _ hB with ⟨_, h2⟩ | ⟨b, o, z, c, el, h1, h2, h3, h4, h5⟩
    · subst h2; cases hx
    · obtain ⟨vs, _, r, hc⟩ := h5 i x hx
      exact ⟨b, o, z, vs, h1, row_cells h2 (fun j u hj => hc j u hj), RepC.frame (Fr.refl _ _) (fun b h => .inl (hO b h)) _ _ _ r⟩
  have hok : ∀ {x : AV} {u : Value}, Ok φ s.sh (OS C.F φ s) w x u → Ok φ (s.frz1 d).sh (OS C.F φ (s.frz1 d)) w (x.frz d t xs) u := by
    intro x u ho
    have key : x.ref ≠ some d → Ok φ (s.frz1 d).sh (OS C.F φ (s.frz1 d)) w x u := fun hr =>
      ho.move (Fr.refl _ _) (fun b h => .inl (hO b h)) fun d' hd' _ => ⟨hσ d' (fun e => hr (by rw [hd', e])), rfl⟩
    cases x with
    | own d' =>
      by_cases e : d' = d
      · subst e
        simp only [AV.frz, beq_self, cond_true]
        obtain ⟨t', n, ad, cap, h1, rfl, h3, h4⟩ := ho
        rw [hσd] at h1
        cases h1
        refine RepV.of_sl ⟨ad, cap, rfl, h3, fun i y hy => ?_⟩
        obtain ⟨b, o, z, vs, p1, p2, p3⟩ := hel i y hy
        rcases h4 with ⟨e, _⟩ | ⟨b', o', z', e1, e2, _⟩
        · rw [e] at p1; cases p1
        · rw [p1] at e1; cases e1
          exact ⟨b, o, vs, e2, (hout _ _ _ p1).1, (hout _ _ _ p1).2, p2, p3⟩
      · simp only [AV.frz, beq_ne e, cond_false]
        exact key fun h => e (Option.some.inj h)
    | osl d' off len =>
      by_cases e : d' = d
      · subst e
        simp only [AV.frz, beq_self, cond_true]
        obtain ⟨t', n, ad, cap, h1, hle, rfl, h3, h4⟩ := ho
        rw [hσd] at h1
        cases h1
        have hlen : ((xs.drop off).take len).length = len := by simp; omega
        refine RepV.of_sl ⟨ad, cap, by rw [hlen], by rw [hlen]; exact h3, fun i y hy => ?_⟩
        have hi : i < len := by
          have := (List.getElem?_eq_some_iff.1 hy).1
          omega
        have hy' : xs[off + i]? = some y := by
          rw [List.getElem?_take, if_pos hi, List.getElem?_drop] at hy
          exact hy
        obtain ⟨b, o, z, vs, p1, p2, p3⟩ := hel _ y hy'
        obtain ⟨b', o', z', e1, e2⟩ := h4 (by omega)
        rw [p1] at e1; cases e1
        refine ⟨b, _, vs, e2, (hout _ _ _ p1).1, (hout _ _ _ p1).2, ?_, p3⟩
        rw [Nat.add_mul, ← Nat.add_assoc] at p2
        exact p2
      · simp only [AV.frz, beq_ne e, cond_false]
        exact key fun h => e (Option.some.inj h)
    | ptr d' i off =>
      by_cases e : d' = d
      · subst e
        simp only [AV.frz, beq_self, cond_true]
        obtain ⟨b, o, z, h1, ⟨t', n, h2, h3, h4⟩ | ⟨h2, _⟩⟩ := ho
        · rw [hσd] at h2
          cases h2
          obtain ⟨b', o', z', vs, p1, p2, p3⟩ := hel i xs[i] (List.getElem?_eq_getElem h3)
          rw [h1] at p1; cases p1
          have : xs.getD i t.zero = xs[i] := by simp [List.getD, h3]
          rw [this]
          exact ⟨b, _, vs, h4, (hout _ _ _ h1).1, (hout _ _ _ h1).2, p2, p3⟩
        · rw [hσd] at h2; cases h2
      · simp only [AV.frz, beq_ne e, cond_false]
        exact key fun h => e (Option.some.inj h)
    | _ => exact key fun h => by cases h
  exact {
    defers := h.defers, size := h.size, os := h.os, tape := h.tape, output := h.output, grow := h.grow, old := h.old, win := h.win,
    place := (fun d' b o z hl' hp => by
      obtain ⟨e, hl'⟩ := hlive d' hl'
      rw [hσ d' e]
      exact h.place d' b o z hl' hp),
    inj := (fun d1 d2 b o o' z z' l1 l2 => h.inj d1 d2 b o o' z z' (hlive _ l1).2 (hlive _ l2).2),
    blk := (fun d' B hB' => by
      obtain ⟨e, hl'⟩ := hlive d' (by rw [hB']; rfl)
      rw [hbn d' e] at hB'
      obtain ⟨B0, hb0, rfl⟩ := Option.map_eq_some_iff.1 hB'
      have ho := h.blk d' B0 hb0
      cases B0 with
      | arr et' t' xs' =>
        rcases ho with h1 | ⟨b, o, z, c, el, h1, h2, h3, h4, h5⟩
        · exact .inl h1
        · refine .inr ⟨b, o, z, c, el, h1, h2, h3, h4, fun i x hx => ?_⟩
          obtain ⟨vs, e1, r, hc⟩ := h5 i x hx
          exact ⟨vs, e1, RepC.frame (Fr.refl _ _) (fun b h => .inl (hO b h)) _ _ _ r, hc⟩
      | box cs =>
        obtain ⟨b, z, c, el, h1, h2, h3, h4, h5⟩ := ho
        refine ⟨b, z, c, el, h1, h2, h3, by simpa using h4, fun j x hx => ?_⟩
        rw [List.getElem?_map, Option.map_eq_some_iff] at hx
        obtain ⟨x', hx', rfl⟩ := hx
        obtain ⟨u, hu, ho⟩ := h5 j x' hx'
        exact ⟨u, hu, hok ho⟩),
    tmp := fun u => by rw [htm]; exact hok (h.tmp u) }
theorem SRp.frz {C : Ctx} {φ : Pl} {a : Act} {w : World} : ∀ (l : List Nat) {s : S}, SRp C φ s a w → SRp C φ (s.frz l) a w
  | [], _, h => h
  | d :: r, _, h => SRp.frz r (h.frz1 d)
end Go.Proofs.Ytbchgegclgpdhaa.E
