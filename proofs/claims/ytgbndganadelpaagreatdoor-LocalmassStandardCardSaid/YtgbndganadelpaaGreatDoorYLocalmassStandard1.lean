/- What the evaluator's states say of the model's: the relation, and how it is carried on. -/
import Derived.Test.YtgbndganadelpaaGreatDoorYLocalmassStandard0
import Derived.Laws.OwnMore
import Derived.Laws.CopyRow
import Derived.Laws.Externs
namespace Go.Proofs.YtgbndganadelpaaGreatDoor.E
open Go
set_option linter.unusedVariables false
theorem nbeq (a b : Nat) : Nat.beq a b = decide (a = b) := by
  by_cases h : a = b
  · subst h; simp
  · rw [decide_eq_false h]
    cases hb : Nat.beq a b with
    | false => rfl
    | true => exact absurd (Nat.eq_of_beq_eq_true hb) h
def cellsAt (w : World) (b o : Nat) (us : List Value) : Prop := ∀ j u, us[j]? = some u → w.cell? ⟨b, o + j, none⟩ = some u
/-- Cells hold a value; its parts lie outside the blocks O. -/
def RepC (w : World) (O : Nat → Prop) : (t : Ty) → t.den → List Value → Prop
  | .int k, n, us => us = [.int k n]
  | .bool, b, us => us = [.bool b]
  | .str, s, us => us = [.string s]
  | .unit, _, us => us = []
  | .pair a b, x, us => ∃ u1 u2, us = u1 ++ u2 ∧ RepC w O a x.1 u1 ∧ RepC w O b x.2 u2
  | .sl t, xs, us => ∃ ad cap, us = [.slice ad (List.length xs) cap] ∧ List.length xs ≤ cap ∧
      ∀ i x, xs[i]? = some x → ∃ b o vs, ad = some ⟨b, o, none⟩ ∧ ¬ O b ∧ b < w.heap.size ∧ cellsAt w b (o + i * t.size) vs ∧ RepC w O t x vs
def RepV (w : World) (O : Nat → Prop) (t : Ty) (x : t.den) (u : Value) : Prop :=
  if t.agg then ∃ cs, u = .agg cs ∧ RepC w O t x cs.toList else RepC w O t x [u]
def RepT (w : World) (O : Nat → Prop) : (t : Ty) → t.den → List Value → Prop
  | .unit, _, us => us = []
  | .pair a b, x, us => ∃ u r, us = u :: r ∧ RepV w O a x.1 u ∧ RepT w O b x.2 r
  | _, _, _ => False
inductive Sh where
  | arr (t : Ty) (n : Nat)
  | box
def Blk.sh : Blk → Sh
  | .arr _ t xs => .arr t xs.length
  | .box _ => .box
/-- Where the blocks lie: the block, its first cell, the number of the block's cells. -/
abbrev Pl := Nat → Option (Nat × Nat × Nat)
def Ok (φ : Pl) (σ : Nat → Option Sh) (O : Nat → Prop) (w : World) : AV → Value → Prop
  | .v t x, u => RepV w O t x u
  | .own d, u => ∃ t n ad cap, σ d = some (.arr t n) ∧ u = .slice ad n cap ∧ n ≤ cap ∧
      ((φ d = none ∧ (d = BOR ∨ (ad = none ∧ cap = 0))) ∨ ∃ b s z, φ d = some (b, s, z) ∧ ad = some ⟨b, s, none⟩ ∧ (d = BOR ∨ (s = 0 ∧ z = cap * t.size ∧ cap ≤ maxLen)))
  | .osl d off len, u => ∃ t n ad cap, σ d = some (.arr t n) ∧ off + len ≤ n ∧ u = .slice ad len cap ∧ len ≤ cap ∧
      (len ≠ 0 → ∃ b s z, φ d = some (b, s, z) ∧ ad = some ⟨b, s + off * t.size, none⟩)
  | .ptr d i off, u => ∃ b s z, φ d = some (b, s, z) ∧
      ((∃ t n, σ d = some (.arr t n) ∧ i < n ∧ u = .pointer (some ⟨b, s + i * t.size + off, none⟩)) ∨ (σ d = some .box ∧ i = 0 ∧ u = .pointer (some ⟨b, s + off, none⟩)))
  | .ip t x off, u => ∃ b o vs, u = .pointer (some ⟨b, o + off, none⟩) ∧ ¬ O b ∧ b < w.heap.size ∧ cellsAt w b o vs ∧ RepC w O t x vs
  | .cst c, u => u = c
  | .tup t x, u => ∃ vs, u = .tuple vs ∧ RepT w O t x vs.toList
  | .fn f, u => u = .func (.func f) #[] #[]
  | .und, u => u = undef
  | .dead, _ => True
def BlkOk (φ : Pl) (σ : Nat → Option Sh) (O : Nat → Prop) (w : World) (d : Nat) : Blk → Prop
  | .arr et t xs => (φ d = none ∧ xs = []) ∨ ∃ (b s z : Nat) (c : Array Value) (el : TypeId), φ d = some (b, s, z) ∧ w.heap[b]? = some (.cells c el (0, 0)) ∧ c.size = z ∧ (d = BOR ∨ et = 0 ∨ el = et) ∧
      ∀ i x, xs[i]? = some x → ∃ vs, vs.length = t.size ∧ RepC w O t x vs ∧ ∀ j u, vs[j]? = some u → c[s + i * t.size + j]? = some u
  | .box cs => ∃ (b z : Nat) (c : Array Value) (el : TypeId), φ d = some (b, 0, z) ∧ w.heap[b]? = some (.cells c el (0, 0)) ∧ c.size = z ∧ c.size = cs.length ∧
      ∀ (j : Nat) (a : AV), cs[j]? = some a → ∃ u : Value, c[j]? = some u ∧ Ok φ σ O w a u
/-- The package variables hold what they hold, outside the blocks that may be written. -/
def GlOk (w : World) (F : Nat → Prop) : Prop :=
  ∀ g G, find gl g = some G → ¬ F g ∧ g < w.heap.size ∧ ∀ (i : Nat) (x : G.T.den), G.xs[i]? = some x → ∃ vs, vs.length = G.T.size ∧ cellsAt w g (i * G.T.size) vs ∧ RepC w F G.T x vs
structure HF (w : World) (F : Nat → Prop) : Prop where
  lt : ∀ b, F b → b < w.heap.size
  gl : GlOk w F
structure Ctx where
  w0 : World
  F : Nat → Prop
  bw : Option (Nat × Nat × Nat)
  n : Nat
  hF : HF w0 F
  hn : n ≤ BOR
  hB : ∀ b s n, bw = some (b, s, n) → F b
def S.sh (s : S) : Nat → Option Sh := fun d => (s.bk d).map Blk.sh
/-- The blocks that may be written: the callers', and the call's own. -/
def OS (F : Nat → Prop) (φ : Pl) (s : S) (b : Nat) : Prop := F b ∨ ∃ d o z, (s.bk d).isSome = true ∧ φ d = some (b, o, z)
structure SRp (C : Ctx) (φ : Pl) (s : S) (a : Act) (w : World) : Prop where
  defers : a.defers = []
  size : a.tmps.size = C.n
  os : w.os = C.w0.os
  tape : w.tape = C.w0.tape
  output : w.output = C.w0.output
  grow : C.w0.heap.size ≤ w.heap.size
  old : ∀ b, b < C.w0.heap.size → (∀ s n, C.bw ≠ some (b, s, n)) → w.heap[b]? = C.w0.heap[b]?
  win : ∀ b s n, C.bw = some (b, s, n) → b < C.w0.heap.size ∧ ∃ c c' el, C.w0.heap[b]? = some (.cells c el (0, 0)) ∧ w.heap[b]? = some (.cells c' el (0, 0)) ∧ c'.size = c.size ∧
    ∀ o, o < s ∨ s + n ≤ o → c'[o]? = c[o]?
  place : ∀ d b o z, (s.bk d).isSome = true → φ d = some (b, o, z) → b < w.heap.size ∧
    ((C.w0.heap.size ≤ b ∧ d ≠ BOR) ∨ (d = BOR ∧ ∃ t m, s.sh d = some (.arr t m) ∧ C.bw = some (b, o, m * t.size)))
  inj : ∀ d d' b o o' z z', (s.bk d).isSome = true → (s.bk d').isSome = true → φ d = some (b, o, z) → φ d' = some (b, o', z') → d = d'
  blk : ∀ d B, s.bk d = some B → BlkOk φ s.sh (OS C.F φ s) w d B
  tmp : ∀ t, Ok φ s.sh (OS C.F φ s) w (s.tm t) (a.tmps.getD t undef)
def SR (C : Ctx) (s : S) (a : Act) (w : World) : Prop := ∃ φ, SRp C φ s a w
/-- Nothing outside O has turned. -/
structure Fr (O : Nat → Prop) (w w' : World) : Prop where
  size : w.heap.size ≤ w'.heap.size
  block : ∀ b, ¬ O b → b < w.heap.size → w'.heap[b]? = w.heap[b]?
theorem Fr.refl (O : Nat → Prop) (w : World) : Fr O w w := ⟨Nat.le_refl _, fun _ _ _ => rfl⟩
theorem cellsAt.frame {w w' : World} {b o : Nat} {us : List Value} (h : w'.heap[b]? = w.heap[b]?) (hc : cellsAt w b o us) : cellsAt w' b o us := by
  intro j u hj
  have := hc j u hj
  simp only [World.cell?] at this ⊢
  rw [h]; exact this
theorem RepC.frame {w w' : World} {O O' : Nat → Prop} (h : Fr O w w') (hO : ∀ b, O' b → O b ∨ w.heap.size ≤ b) :
    ∀ (t : Ty) (x : t.den) (us : List Value), RepC w O t x us → RepC w' O' t x us
  | .int _, _, _, r => r
  | .bool, _, _, r => r
  | .str, _, _, r => r
  | .unit, _, _, r => r
  | .pair a b, x, us, r => by
    obtain ⟨u1, u2, e, r1, r2⟩ := r
    exact ⟨u1, u2, e, RepC.frame h hO a _ _ r1, RepC.frame h hO b _ _ r2⟩
  | .sl t, xs, us, r => by
    obtain ⟨ad, cap, e, hl, r⟩ := r
    refine ⟨ad, cap, e, hl, fun i x hx => ?_⟩
    obtain ⟨b, o, vs, e1, hn, hb, hc, rr⟩ := r i x hx
    refine ⟨b, o, vs, e1, fun ho => ?_, Nat.lt_of_lt_of_le hb h.size, hc.frame (h.block b hn hb), RepC.frame h hO t x vs rr⟩
    rcases hO b ho with h1 | h1
    · exact hn h1
    · omega
theorem RepV.frame {w w' : World} {O O' : Nat → Prop} (h : Fr O w w') (hO : ∀ b, O' b → O b ∨ w.heap.size ≤ b)
    {t : Ty} {x : t.den} {u : Value} (r : RepV w O t x u) : RepV w' O' t x u := by
  unfold RepV at *
  split
  · rename_i ht; rw [if_pos ht] at r; obtain ⟨cs, e, r⟩ := r; exact ⟨cs, e, RepC.frame h hO _ _ _ r⟩
  · rename_i ht; rw [if_neg ht] at r; exact RepC.frame h hO _ _ _ r
theorem RepT.frame {w w' : World} {O O' : Nat → Prop} (h : Fr O w w') (hO : ∀ b, O' b → O b ∨ w.heap.size ≤ b) :
    ∀ (t : Ty) (x : t.den) (us : List Value), RepT w O t x us → RepT w' O' t x us
  | .unit, _, _, r => r
  | .pair a b, x, us, r => by
    obtain ⟨u, l, e, r1, r2⟩ := r
    exact ⟨u, l, e, r1.frame h hO, RepT.frame h hO b _ _ r2⟩
  | .int _, _, _, r => r.elim
  | .bool, _, _, r => r.elim
  | .str, _, _, r => r.elim
  | .sl _, _, _, r => r.elim
theorem RepC.length {w : World} {O : Nat → Prop} : ∀ (t : Ty) (x : t.den) (us : List Value), RepC w O t x us → us.length = t.size
  | .int _, _, _, r => by simp only [RepC] at r; subst r; rfl
  | .bool, _, _, r => by simp only [RepC] at r; subst r; rfl
  | .str, _, _, r => by simp only [RepC] at r; subst r; rfl
  | .unit, _, _, r => by simp only [RepC] at r; subst r; rfl
  | .pair a b, x, us, r => by
    obtain ⟨u1, u2, rfl, r1, r2⟩ := r
    simp [RepC.length a _ _ r1, RepC.length b _ _ r2, Ty.size]
  | .sl t, xs, us, r => by obtain ⟨ad, cap, rfl, _⟩ := r; rfl
def AV.ref : AV → Option Nat
  | .own d => some d
  | .osl d _ _ => some d
  | .ptr d _ _ => some d
  | _ => none
theorem Ok.move {φ φ' : Pl} {σ σ' : Nat → Option Sh} {O O' : Nat → Prop} {w w' : World} (h : Fr O w w') (hO : ∀ b, O' b → O b ∨ w.heap.size ≤ b)
    {a : AV} {u : Value} (hr : ∀ d, a.ref = some d → (σ d).isSome = true → σ' d = σ d ∧ φ' d = φ d) (ho : Ok φ σ O w a u) : Ok φ' σ' O' w' a u := by
  cases a with
  | v t x => exact RepV.frame h hO ho
  | own d =>
    obtain ⟨t, n, ad, cap, h1, h2, h3, h4⟩ := ho
    obtain ⟨e1, e2⟩ := hr d rfl (by rw [h1]; rfl)
    exact ⟨t, n, ad, cap, by rw [e1, h1], h2, h3, by rw [e2]; exact h4⟩
  | osl d off len =>
    obtain ⟨t, n, ad, cap, h1, h2, h3, h4, h5⟩ := ho
    obtain ⟨e1, e2⟩ := hr d rfl (by rw [h1]; rfl)
    exact ⟨t, n, ad, cap, by rw [e1, h1], h2, h3, h4, by rw [e2]; exact h5⟩
  | ptr d i off =>
    obtain ⟨b, s, z, h1, h2⟩ := ho
    obtain ⟨e1, e2⟩ := hr d rfl (by rcases h2 with ⟨t, n, h2, _⟩ | ⟨h2, _⟩ <;> rw [h2] <;> rfl)
    exact ⟨b, s, z, by rw [e2, h1], by rw [e1]; exact h2⟩
  | ip t x off =>
    obtain ⟨b, o, vs, e, hn, hb, hc, r⟩ := ho
    refine ⟨b, o, vs, e, fun h' => ?_, Nat.lt_of_lt_of_le hb h.size, hc.frame (h.block b hn hb), RepC.frame h hO _ _ _ r⟩
    rcases hO b h' with h1 | h1
    · exact hn h1
    · omega
  | cst c => exact ho
  | tup t x => obtain ⟨vs, e, r⟩ := ho; exact ⟨vs, e, RepT.frame h hO _ _ _ r⟩
  | fn f => exact ho
  | und => exact ho
  | dead => trivial
/-- What a slot holds where nothing but the world outside O has been looked at. -/
theorem Ok.frame {φ : Pl} {σ : Nat → Option Sh} {O : Nat → Prop} {w w' : World} (h : Fr O w w') {a : AV} {u : Value} (ho : Ok φ σ O w a u) : Ok φ σ O w' a u :=
  ho.move h (fun _ h => .inl h) fun _ _ _ => ⟨rfl, rfl⟩
theorem Act.getD_put {a : Act} {d t : Nat} {u : Value} (hd : d < a.tmps.size) :
    (a.put (some d) u).tmps.getD t undef = cond (Nat.beq t d) u (a.tmps.getD t undef) := by
  simp only [Act.put, Array.getD_eq_getD_getElem?]
  by_cases h : t = d
  · subst h; simp [hd]
  · have : Nat.beq t d = false := by rw [nbeq]; exact decide_eq_false h
    rw [this, Array.getElem?_setIfInBounds_ne (Ne.symm h)]; rfl
theorem SRp.put {C : Ctx} {φ : Pl} {s : S} {a : Act} {w : World} (h : SRp C φ s a w) {d : Nat} {x : AV} {u : Value} (hd : d < C.n)
    (hx : Ok φ s.sh (OS C.F φ s) w x u) : SRp C φ (s.put d x) (a.put (some d) u) w :=
  { defers := h.defers, size := by simp [Act.put, h.size], os := h.os, tape := h.tape, output := h.output, grow := h.grow, old := h.old, win := h.win,
    place := h.place, inj := h.inj, blk := h.blk,
    tmp := fun t => by
      rw [Act.getD_put (by rw [h.size]; exact hd)]
      show Ok φ s.sh (OS C.F φ s) w (cond (Nat.beq t d) x (s.tm t)) _
      cases Nat.beq t d
      · exact h.tmp t
      · exact hx }
theorem SRp.puto {C : Ctx} {φ : Pl} {s : S} {a : Act} {w : World} (h : SRp C φ s a w) {d : Option Nat} {x : AV} {u : Value} (hd : ∀ t, d = some t → t < C.n)
    (hx : Ok φ s.sh (OS C.F φ s) w x u) : SRp C φ (s.puto d x) (a.put d u) w := by
  cases d with
  | none => exact h
  | some t => exact h.put (hd t rfl) hx
/-- A state that says less. -/
theorem SRp.less {C : Ctx} {φ : Pl} {s s' : S} {a : Act} {w : World} (h : SRp C φ s a w) (hb : s'.bk = s.bk) (ht : ∀ t, s'.tm t = s.tm t ∨ s'.tm t = .dead) : SRp C φ s' a w := by
  have e1 : s'.sh = s.sh := by unfold S.sh; rw [hb]
  have e2 : OS C.F φ s' = OS C.F φ s := by funext b; unfold OS; rw [hb]
  exact {
    defers := h.defers, size := h.size, os := h.os, tape := h.tape, output := h.output, grow := h.grow, old := h.old, win := h.win,
    place := (by rw [e1, hb]; exact h.place),
    inj := (by rw [hb]; exact h.inj),
    blk := (by rw [e1, e2, hb]; exact h.blk),
    tmp := fun t => by
      rw [e1, e2]
      rcases ht t with e | e
      · rw [e]; exact h.tmp t
      · rw [e]; trivial }
theorem sh_kill (p : Nat → Bool) (b : Blk) : (b.kill p).sh = b.sh := by cases b <;> rfl
theorem S.sh_kill (s : S) (p : Nat → Bool) (d : Nat) : (s.kill p).sh d = cond (p d) none (s.sh d) := by
  simp only [S.sh, S.kill]
  cases p d <;> cases s.bk d <;> simp [E.sh_kill]
theorem S.sh_killR (s : S) (p : Nat → Bool) : (s.killR p).sh = s.sh := by
  funext d
  simp only [S.sh, S.killR]
  cases s.bk d <;> simp [E.sh_kill]
theorem Ok.kill {φ : Pl} {σ σ' : Nat → Option Sh} {O O' : Nat → Prop} {w : World} {p : Nat → Bool} (hσ : ∀ d, p d = false → σ' d = σ d) (hO : ∀ b, O' b → O b)
    {a : AV} {u : Value} (ho : Ok φ σ O w a u) : Ok φ σ' O' w (a.kill p) u := by
  have key : (∀ d, a.ref = some d → p d = false) → Ok φ σ' O' w a u := fun hr =>
    ho.move (Fr.refl _ _) (fun b h => .inl (hO b h)) fun d hd _ => ⟨hσ d (hr d hd), rfl⟩
  cases a with
  | own d => simp only [AV.kill]; cases hp : p d with
    | true => trivial
    | false => exact key fun d' h => by cases h; exact hp
  | osl d off len => simp only [AV.kill]; cases hp : p d with
    | true => trivial
    | false => exact key fun d' h => by cases h; exact hp
  | ptr d i off => simp only [AV.kill]; cases hp : p d with
    | true => trivial
    | false => exact key fun d' h => by cases h; exact hp
  | v t x => exact key fun _ h => by cases h
  | ip t x off => exact key fun _ h => by cases h
  | cst c => exact key fun _ h => by cases h
  | tup t x => exact key fun _ h => by cases h
  | fn f => exact key fun _ h => by cases h
  | und => exact key fun _ h => by cases h
  | dead => trivial
theorem BlkOk.kill {φ : Pl} {σ σ' : Nat → Option Sh} {O O' : Nat → Prop} {w : World} {p : Nat → Bool} (hσ : ∀ d, p d = false → σ' d = σ d) (hO : ∀ b, O' b → O b)
    {d : Nat} {B : Blk} (ho : BlkOk φ σ O w d B) : BlkOk φ σ' O' w d (B.kill p) := by
  cases B with
  | arr et t xs =>
    rcases ho with h | ⟨b, s, z, c, el, h1, h2, h3, h4, h5⟩
    · exact .inl h
    · refine .inr ⟨b, s, z, c, el, h1, h2, h3, h4, fun i x hx => ?_⟩
      obtain ⟨vs, e, r, hc⟩ := h5 i x hx
      exact ⟨vs, e, RepC.frame (Fr.refl _ _) (fun b h => .inl (hO b h)) _ _ _ r, hc⟩
  | box cs =>
    obtain ⟨b, z, c, el, h1, h2, h3, h4, h5⟩ := ho
    refine ⟨b, z, c, el, h1, h2, h3, by simpa using h4, fun j a ha => ?_⟩
    rw [List.getElem?_map, Option.map_eq_some_iff] at ha
    obtain ⟨a', ha', rfl⟩ := ha
    obtain ⟨u, hu, ho⟩ := h5 j a' ha'
    exact ⟨u, hu, ho.kill hσ hO⟩
theorem kill_some {s : S} {p : Nat → Bool} {d : Nat} {B : Blk} (h : (s.kill p).bk d = some B) : p d = false ∧ ∃ B', s.bk d = some B' ∧ B = B'.kill p := by
  simp only [S.kill] at h
  cases hp : p d with
  | true => rw [hp] at h; cases h
  | false =>
    rw [hp] at h
    simp only [cond_false, Option.map_eq_some_iff] at h
    obtain ⟨B', h1, rfl⟩ := h
    exact ⟨rfl, B', h1, rfl⟩
theorem kill_live {s : S} {p : Nat → Bool} {d : Nat} (h : ((s.kill p).bk d).isSome = true) : p d = false ∧ (s.bk d).isSome = true := by
  obtain ⟨B, hB⟩ := Option.isSome_iff_exists.1 h
  obtain ⟨hp, B', h1, _⟩ := kill_some hB
  exact ⟨hp, by rw [h1]; rfl⟩
theorem SRp.kill {C : Ctx} {φ : Pl} {s : S} {a : Act} {w : World} (h : SRp C φ s a w) (p : Nat → Bool) : SRp C φ (s.kill p) a w := by
  have hO : ∀ b, OS C.F φ (s.kill p) b → OS C.F φ s b := fun b hb => hb.imp id fun ⟨d, o, z, h1, h2⟩ => ⟨d, o, z, (kill_live h1).2, h2⟩
  have hσ : ∀ d, p d = false → (s.kill p).sh d = s.sh d := fun d hp => by rw [S.sh_kill, hp]; rfl
  exact {
    defers := h.defers, size := h.size, os := h.os, tape := h.tape, output := h.output, grow := h.grow, old := h.old, win := h.win,
    place := (fun d b o z hl hp => by
      obtain ⟨hk, hl⟩ := kill_live hl
      obtain ⟨h1, h2⟩ := h.place d b o z hl hp
      refine ⟨h1, h2.imp id fun ⟨e, t, m, h3, h4⟩ => ⟨e, t, m, ?_, h4⟩⟩
      rw [hσ d hk]; exact h3),
    inj := (fun d d' b o o' z z' h1 h2 => h.inj d d' b o o' z z' (kill_live h1).2 (kill_live h2).2),
    blk := (fun d B hB => by
      obtain ⟨hk, B', h1, rfl⟩ := kill_some hB
      exact (h.blk d B' h1).kill hσ hO),
    tmp := fun t => (h.tmp t).kill hσ hO }
theorem killR_some {s : S} {p : Nat → Bool} {d : Nat} {B : Blk} (h : (s.killR p).bk d = some B) : ∃ B', s.bk d = some B' ∧ B = B'.kill p := by
  simp only [S.killR, Option.map_eq_some_iff] at h
  obtain ⟨B', h1, rfl⟩ := h
  exact ⟨B', h1, rfl⟩
theorem killR_live {s : S} {p : Nat → Bool} {d : Nat} : ((s.killR p).bk d).isSome = (s.bk d).isSome := by
  simp only [S.killR]; cases s.bk d <;> rfl
theorem SRp.killR {C : Ctx} {φ : Pl} {s : S} {a : Act} {w : World} (h : SRp C φ s a w) (p : Nat → Bool) : SRp C φ (s.killR p) a w := by
  have hO : ∀ b, OS C.F φ (s.killR p) b → OS C.F φ s b := fun b hb => hb.imp id fun ⟨d, o, z, h1, h2⟩ => ⟨d, o, z, by rw [← killR_live]; exact h1, h2⟩
  have hσ : ∀ d, p d = false → (s.killR p).sh d = s.sh d := fun d _ => by rw [S.sh_killR]
  exact {
    defers := h.defers, size := h.size, os := h.os, tape := h.tape, output := h.output, grow := h.grow, old := h.old, win := h.win,
    place := (fun d b o z hl hp => by rw [S.sh_killR]; rw [killR_live] at hl; exact h.place d b o z hl hp),
    inj := (fun d d' b o o' z z' h1 h2 => by rw [killR_live] at h1 h2; exact h.inj d d' b o o' z z' h1 h2),
    blk := (fun d B hB => by
      obtain ⟨B', h1, rfl⟩ := killR_some hB
      exact (h.blk d B' h1).kill hσ hO),
    tmp := fun t => (h.tmp t).kill hσ hO }
/-- Nothing refers to block d. -/
structure NoRef (d : Nat) (s : S) : Prop where
  tm : ∀ t, (s.tm t).ref ≠ some d
  bk : ∀ d' cs, s.bk d' = some (.box cs) → ∀ a ∈ cs, a.ref ≠ some d
theorem ref_cond {b : Bool} {a : AV} {d d' : Nat} (ha : a.ref = some d') (h : b = false → d' ≠ d) : (cond b AV.dead a).ref ≠ some d := by
  cases b
  · rw [cond_false, ha]; intro e; exact h rfl (Option.some.inj e)
  · intro e; cases e
theorem ref_kill (p : Nat → Bool) (a : AV) (d : Nat) (hp : p d = true) : (a.kill p).ref ≠ some d := by
  have key : ∀ d', p d' = false → d' ≠ d := fun d' h e => by rw [e, hp] at h; cases h
  cases a with
  | own d' => exact ref_cond rfl (key d')
  | osl d' _ _ => exact ref_cond rfl (key d')
  | ptr d' _ _ => exact ref_cond rfl (key d')
  | _ => intro e; cases e
theorem NoRef.killR (s : S) (d : Nat) : NoRef d (s.killR (Nat.beq d)) where
  tm := fun t => ref_kill _ _ _ (by rw [nbeq]; exact decide_eq_true rfl)
  bk := fun d' cs h a ha => by
    obtain ⟨B', h1, e⟩ := killR_some h
    cases B' with
    | arr => cases e
    | box cs' =>
      simp only [Blk.kill, Blk.box.injEq] at e
      subst e
      obtain ⟨a', _, rfl⟩ := List.mem_map.1 ha
      exact ref_kill _ _ _ (by rw [nbeq]; exact decide_eq_true rfl)
theorem Ok.noref {φ : Pl} {σ : Nat → Option Sh} {O : Nat → Prop} {w : World} {a : AV} {u : Value} {d : Nat} (ho : Ok φ σ O w a u) (hd : σ d = none) : a.ref ≠ some d := by
  intro e
  cases a <;> simp only [AV.ref, Option.some.injEq, reduceCtorEq] at e
  all_goals subst e
  · obtain ⟨t, n, ad, cap, h1, _⟩ := ho; rw [hd] at h1; cases h1
  · obtain ⟨t, n, ad, cap, h1, _⟩ := ho; rw [hd] at h1; cases h1
  · obtain ⟨b, s, z, h1, ⟨t, n, h2, _⟩ | ⟨h2, _⟩⟩ := ho <;> rw [hd] at h2 <;> cases h2
theorem SRp.noref {C : Ctx} {φ : Pl} {s : S} {a : Act} {w : World} (h : SRp C φ s a w) {d : Nat} (hd : s.bk d = none) : NoRef d s where
  tm := fun t => (h.tmp t).noref (by simp [S.sh, hd])
  bk := fun d' cs hc x hx => by
    obtain ⟨b, z, c, el, _, _, _, _, h5⟩ := h.blk d' _ hc
    obtain ⟨j, hj, e⟩ := List.getElem_of_mem hx
    obtain ⟨u, _, ho⟩ := h5 j x (by rw [List.getElem?_eq_getElem hj, e])
    exact ho.noref (by simp [S.sh, hd])
def upd (φ : Pl) (d : Nat) (p : Option (Nat × Nat × Nat)) : Pl := fun x => cond (Nat.beq x d) p (φ x)
theorem beq_self (d : Nat) : Nat.beq d d = true := by rw [nbeq]; exact decide_eq_true rfl
theorem beq_ne {x d : Nat} (h : x ≠ d) : Nat.beq x d = false := by rw [nbeq]; exact decide_eq_false h
theorem upd_same (φ : Pl) (d : Nat) (p : Option (Nat × Nat × Nat)) : upd φ d p d = p := by simp only [upd, beq_self, cond_true]
theorem upd_ne (φ : Pl) {d x : Nat} (p : Option (Nat × Nat × Nat)) (h : x ≠ d) : upd φ d p x = φ x := by simp only [upd, beq_ne h, cond_false]
theorem set_same (s : S) (d : Nat) (B : Blk) : (s.set d B).bk d = some B := by simp only [S.set, beq_self, cond_true]
theorem set_ne (s : S) {d x : Nat} (B : Blk) (h : x ≠ d) : (s.set d B).bk x = s.bk x := by simp only [S.set, beq_ne h, cond_false]
theorem set_sh_same (s : S) (d : Nat) (B : Blk) : (s.set d B).sh d = some B.sh := by simp only [S.sh, set_same, Option.map_some]
theorem set_sh_ne (s : S) {d x : Nat} (B : Blk) (h : x ≠ d) : (s.set d B).sh x = s.sh x := by simp only [S.sh, set_ne s B h]
theorem upd_self (φ : Pl) (d : Nat) : upd φ d (φ d) = φ := by
  funext x
  by_cases h : x = d
  · subst h; exact upd_same _ _ _
  · exact upd_ne _ _ h
/-- A block is laid, or laid anew. -/
theorem SRp.setB {C : Ctx} {φ : Pl} {s : S} {a : Act} {w w' : World} (h : SRp C φ s a w) (d : Nat) (B' : Blk) (pl : Option (Nat × Nat × Nat))
    (hsh : (s.sh d = some B'.sh ∧ pl = φ d) ∨ NoRef d s) (hfr : Fr (OS C.F φ s) w w')
    (hos : w'.os = w.os) (htape : w'.tape = w.tape) (hout : w'.output = w.output)
    (hold : ∀ b, b < C.w0.heap.size → (∀ s n, C.bw ≠ some (b, s, n)) → w'.heap[b]? = w.heap[b]?)
    (hwin : ∀ b s n, C.bw = some (b, s, n) → w'.heap[b]? = w.heap[b]? ∨ ∃ c c' el, w.heap[b]? = some (.cells c el (0, 0)) ∧ w'.heap[b]? = some (.cells c' el (0, 0)) ∧ c'.size = c.size ∧
      ∀ o, o < s ∨ s + n ≤ o → c'[o]? = c[o]?)
    (hoth : ∀ d' b o z, d' ≠ d → (s.bk d').isSome = true → φ d' = some (b, o, z) → w'.heap[b]? = w.heap[b]?)
    (hplace : ∀ b o z, pl = some (b, o, z) → b < w'.heap.size ∧ ((C.w0.heap.size ≤ b ∧ d ≠ BOR) ∨ (d = BOR ∧ ∃ t m, B'.sh = .arr t m ∧ C.bw = some (b, o, m * t.size))) ∧
      (∀ d' b' o' z', d' ≠ d → (s.bk d').isSome = true → φ d' = some (b', o', z') → b' ≠ b) ∧ (OS C.F φ s b ∨ w.heap.size ≤ b))
    (hB : BlkOk (upd φ d pl) (s.set d B').sh (OS C.F (upd φ d pl) (s.set d B')) w' d B') : SRp C (upd φ d pl) (s.set d B') a w' := by
  have hO : ∀ b, OS C.F (upd φ d pl) (s.set d B') b → OS C.F φ s b ∨ w.heap.size ≤ b := by
    rintro b (hb | ⟨d', o, z, h1, h2⟩)
    · exact .inl (.inl hb)
    · by_cases e : d' = d
      · subst e
        rw [upd_same] at h2
        exact (hplace _ _ _ h2).2.2.2
      · rw [upd_ne _ _ e] at h2
        rw [set_ne _ _ e] at h1
        exact .inl (.inr ⟨d', o, z, h1, h2⟩)
  have hmv : ∀ {x : AV} {u : Value}, (NoRef d s → x.ref ≠ some d) → Ok φ s.sh (OS C.F φ s) w x u → Ok (upd φ d pl) (s.set d B').sh (OS C.F (upd φ d pl) (s.set d B')) w' x u := by
    intro x u hx ho
    refine ho.move hfr hO fun d' hd' _ => ?_
    by_cases e : d' = d
    · subst e
      rcases hsh with ⟨h1, h2⟩ | hn
      · rw [set_sh_same, h1, upd_same, h2]; exact ⟨rfl, rfl⟩
      · exact absurd hd' (hx hn)
    · rw [set_sh_ne _ _ e, upd_ne _ _ e]; exact ⟨rfl, rfl⟩
  exact {
    defers := h.defers, size := h.size, os := hos.trans h.os, tape := htape.trans h.tape, output := hout.trans h.output,
    grow := Nat.le_trans h.grow hfr.size,
    old := (fun b hb hn => (hold b hb hn).trans (h.old b hb hn)),
    win := (fun b o n hb => by
      obtain ⟨h1, c, c', el, h2, h3, h4, h5⟩ := h.win b o n hb
      rcases hwin b o n hb with e | ⟨c1, c2, el', e1, e2, e3, e4⟩
      · exact ⟨h1, c, c', el, h2, by rw [e]; exact h3, h4, h5⟩
      · rw [h3] at e1
        injection e1 with e1
        injection e1 with ea eb _
        subst ea eb
        exact ⟨h1, c, c2, el, h2, e2, e3.trans h4, fun k hk => (e4 k hk).trans (h5 k hk)⟩),
    place := (fun d' b o z hl hp => by
      by_cases e : d' = d
      · subst e
        rw [upd_same] at hp
        obtain ⟨h1, h2, _⟩ := hplace b o z hp
        refine ⟨h1, h2.imp id fun ⟨e, t, m, h3, h4⟩ => ⟨e, t, m, ?_, h4⟩⟩
        rw [set_sh_same, h3]
      · rw [upd_ne _ _ e] at hp
        rw [set_ne _ _ e] at hl
        obtain ⟨h1, h2⟩ := h.place d' b o z hl hp
        refine ⟨Nat.lt_of_lt_of_le h1 hfr.size, ?_⟩
        rw [set_sh_ne _ _ e]
        exact h2),
    inj := (fun d1 d2 b o o' z z' l1 l2 p1 p2 => by
      by_cases e1 : d1 = d <;> by_cases e2 : d2 = d
      · rw [e1, e2]
      · subst e1
        rw [upd_same] at p1
        rw [upd_ne _ _ e2] at p2
        rw [set_ne _ _ e2] at l2
        exact absurd rfl ((hplace _ _ _ p1).2.2.1 d2 b o' z' e2 l2 p2)
      · subst e2
        rw [upd_same] at p2
        rw [upd_ne _ _ e1] at p1
        rw [set_ne _ _ e1] at l1
        exact absurd rfl ((hplace _ _ _ p2).2.2.1 d1 b o z e1 l1 p1)
      · rw [upd_ne _ _ e1] at p1
        rw [upd_ne _ _ e2] at p2
        rw [set_ne _ _ e1] at l1
        rw [set_ne _ _ e2] at l2
        exact h.inj d1 d2 b o o' z z' l1 l2 p1 p2),
    blk := (fun d' B hB' => by
      by_cases e : d' = d
      · subst e
        rw [set_same] at hB'
        cases hB'
        exact hB
      · rw [set_ne _ _ e] at hB'
        have hl : (s.bk d').isSome = true := by rw [hB']; rfl
        have ho := h.blk d' B hB'
        cases B with
        | arr et t xs =>
          rcases ho with h1 | ⟨b, o, z, c, el, h1, h2, h3, h4, h5⟩
          · exact .inl (by rw [upd_ne _ _ e]; exact h1)
          · refine .inr ⟨b, o, z, c, el, by rw [upd_ne _ _ e]; exact h1, by rw [hoth d' b o z e hl h1]; exact h2, h3, h4, fun i x hx => ?_⟩
            obtain ⟨vs, e1, r, hc⟩ := h5 i x hx
            exact ⟨vs, e1, RepC.frame hfr hO _ _ _ r, hc⟩
        | box cs =>
          obtain ⟨b, z, c, el, h1, h2, h3, h4, h5⟩ := ho
          refine ⟨b, z, c, el, by rw [upd_ne _ _ e]; exact h1, by rw [hoth d' b 0 z e hl h1]; exact h2, h3, h4, fun j x hx => ?_⟩
          obtain ⟨u, hu, ho⟩ := h5 j x hx
          exact ⟨u, hu, hmv (fun hn => hn.bk d' cs hB' x (List.mem_of_getElem? hx)) ho⟩),
    tmp := fun t => hmv (fun hn => hn.tm t) (h.tmp t) }
theorem RepV.of_sl {w : World} {O : Nat → Prop} {t : Ty} {xs : List t.den} {u : Value} (h : RepC w O (.sl t) xs [u]) : RepV w O (.sl t) xs u := by
  unfold RepV; rw [if_neg (by simp [Ty.agg])]; exact h
theorem row_cells {w : World} {c : Array Value} {el : TypeId} {b o : Nat} {vs : List Value} (hb : w.heap[b]? = some (.cells c el (0, 0)))
    (h : ∀ (j : Nat) (u : Value), vs[j]? = some u → c[o + j]? = some u) : cellsAt w b o vs := by
  intro j u hj
  rw [cell_of_row w b (o + j) c el (0, 0) hb]
  exact h j u hj
/-- A row that is written no more is a plain value wherever it is known. -/
theorem SRp.frz1 {C : Ctx} {φ : Pl} {s : S} {a : Act} {w : World} (h : SRp C φ s a w) (d : Nat) : SRp C φ (s.frz1 d) a w := by
  by_cases hd : d = BOR
  · have : s.frz1 d = s := by simp only [S.frz1, hd, beq_self, cond_true]
    rw [this]; exact h
  cases hB : s.bk d with
  | none =>
    have : s.frz1 d = s := by simp only [S.frz1, beq_ne hd, cond_false, hB]
    rw [this]; exact h
  | some B =>
  cases B with
  | box cs =>
    have : s.frz1 d = s := by simp only [S.frz1, beq_ne hd, cond_false, hB]
    rw [this]; exact h
  | arr et t xs =>
  have hl : (s.bk d).isSome = true := by rw [hB]; rfl
  have hσd : s.sh d = some (.arr t xs.length) := by simp only [S.sh, hB, Option.map_some, Blk.sh]
  have hbk : ∀ x, (s.frz1 d).bk x = cond (Nat.beq x d) none ((s.bk x).map (Blk.frz d t xs)) := fun x => by simp only [S.frz1, beq_ne hd, cond_false, hB]
  have hbd : (s.frz1 d).bk d = none := by rw [hbk, beq_self]; rfl
  have hbn : ∀ x, x ≠ d → (s.frz1 d).bk x = (s.bk x).map (Blk.frz d t xs) := fun x hx => by rw [hbk, beq_ne hx]; rfl
  have htm : ∀ u, (s.frz1 d).tm u = (s.tm u).frz d t xs := fun u => by simp only [S.frz1, beq_ne hd, cond_false, hB]
  have hσ : ∀ x, x ≠ d → (s.frz1 d).sh x = s.sh x := fun x hx => by
    simp only [S.sh, hbn x hx]
    cases s.bk x with
    | none => rfl
    | some B => cases B <;> rfl
  have hlive : ∀ x, ((s.frz1 d).bk x).isSome = true → x ≠ d ∧ (s.bk x).isSome = true := fun x hx => by
    by_cases e : x = d
    · subst e; rw [hbd] at hx; cases hx
    · rw [hbn x e] at hx
      refine ⟨e, ?_⟩
      cases hb : s.bk x with
      | none => rw [hb] at hx; cases hx
      | some _ => rfl
  have hO : ∀ b, OS C.F φ (s.frz1 d) b → OS C.F φ s b := fun b hb => hb.imp id fun ⟨x, o, z, h1, h2⟩ => ⟨x, o, z, (hlive x h1).2, h2⟩
  have hout : ∀ b o z, φ d = some (b, o, z) → ¬ OS C.F φ (s.frz1 d) b ∧ b < w.heap.size := by
    intro b o z hp
    obtain ⟨h1, h2⟩ := h.place d b o z hl hp
    refine ⟨?_, h1⟩
    rcases h2 with h2 | ⟨e, _⟩
    · rintro (hb | ⟨x, o', z', h3, h4⟩)
      · have := C.hF.lt b hb; have := h2.1; omega
      · obtain ⟨e, h5⟩ := hlive x h3
        exact e (h.inj x d b o' o z' z h5 hl h4 hp)
    · exact absurd e hd
  have hel : ∀ (i : Nat) (x : t.den), xs[i]? = some x → ∃ b o z vs, φ d = some (b, o, z) ∧ cellsAt w b (o + i * t.size) vs ∧ RepC w (OS C.F φ (s.frz1 d)) t x vs := by
    intro i x hx
    rcases h.blk d _ hB with ⟨_, h2⟩ | ⟨b, o, z, c, el, h1, h2, h3, h4, h5⟩
    · subst h2; cases hx
    · obtain ⟨vs, _, r, hc⟩ := h5 i x hx
      exact ⟨b, o, z, vs, h1, row_cells h2 (fun j u hj => hc j u hj), RepC.frame (Fr.refl _ _) (fun b h => .inl (hO b h)) _ _ _ r⟩
  have hok : ∀ {x : AV} {u : Value}, Ok φ s.sh (OS C.F φ s) w x u → Ok φ (s.frz1 d).sh (OS C.F φ (s.frz1 d)) w (x.frz d t xs) u := by
    intro x u ho
    have key : x.ref ≠ some d → Ok φ (s.frz1 d).sh (OS C.F φ (s.frz1 d)) w x u := fun hr =>
      ho.move (Fr.refl _ _) (fun b h => .inl (hO b h)) fun d' hd' _ => ⟨hσ d' (fun e => hr (by rw [hd', e])), rfl⟩
    cases x with
    | own d' =>
      by_cases e : d' = d
      · subst e
        simp only [AV.frz, beq_self, cond_true]
        obtain ⟨t', n, ad, cap, h1, rfl, h3, h4⟩ := ho
        rw [hσd] at h1
        cases h1
        refine RepV.of_sl ⟨ad, cap, rfl, h3, fun i y hy => ?_⟩
        obtain ⟨b, o, z, vs, p1, p2, p3⟩ := hel i y hy
        rcases h4 with ⟨e, _⟩ | ⟨b', o', z', e1, e2, _⟩
        · rw [e] at p1; cases p1
        · rw [p1] at e1; cases e1
          exact ⟨b, o, vs, e2, (hout _ _ _ p1).1, (hout _ _ _ p1).2, p2, p3⟩
      · simp only [AV.frz, beq_ne e, cond_false]
        exact key fun h => e (Option.some.inj h)
    | osl d' off len =>
      by_cases e : d' = d
      · subst e
        simp only [AV.frz, beq_self, cond_true]
        obtain ⟨t', n, ad, cap, h1, hle, rfl, h3, h4⟩ := ho
        rw [hσd] at h1
        cases h1
        have hlen : ((xs.drop off).take len).length = len := by simp; omega
        refine RepV.of_sl ⟨ad, cap, by rw [hlen], by rw [hlen]; exact h3, fun i y hy => ?_⟩
        have hi : i < len := by
          have := (List.getElem?_eq_some_iff.1 hy).1
          omega
        have hy' : xs[off + i]? = some y := by
          rw [List.getElem?_take, if_pos hi, List.getElem?_drop] at hy
          exact hy
        obtain ⟨b, o, z, vs, p1, p2, p3⟩ := hel _ y hy'
        obtain ⟨b', o', z', e1, e2⟩ := h4 (by omega)
        rw [p1] at e1; cases e1
        refine ⟨b, _, vs, e2, (hout _ _ _ p1).1, (hout _ _ _ p1).2, ?_, p3⟩
        rw [Nat.add_mul, ← Nat.add_assoc] at p2
        exact p2
      · simp only [AV.frz, beq_ne e, cond_false]
        exact key fun h => e (Option.some.inj h)
    | ptr d' i off =>
      by_cases e : d' = d
      · subst e
        simp only [AV.frz, beq_self, cond_true]
        obtain ⟨b, o, z, h1, ⟨t', n, h2, h3, h4⟩ | ⟨h2, _⟩⟩ := ho
        · rw [hσd] at h2
          cases h2
          obtain ⟨b', o', z', vs, p1, p2, p3⟩ := hel i xs[i] (List.getElem?_eq_getElem h3)
          rw [h1] at p1; cases p1
          have : xs.getD i t.zero = xs[i] := by simp [List.getD, h3]
          rw [this]
          exact ⟨b, _, vs, h4, (hout _ _ _ h1).1, (hout _ _ _ h1).2, p2, p3⟩
        · rw [hσd] at h2; cases h2
      · simp only [AV.frz, beq_ne e, cond_false]
        exact key fun h => e (Option.some.inj h)
    | _ => exact key fun h => by cases h
  exact {
    defers := h.defers, size := h.size, os := h.os, tape := h.tape, output := h.output, grow := h.grow, old := h.old, win := h.win,
    place := (fun d' b o z hl' hp => by
      obtain ⟨e, hl'⟩ := hlive d' hl'
      rw [hσ d' e]
      exact h.place d' b o z hl' hp),
    inj := (fun d1 d2 b o o' z z' l1 l2 => h.inj d1 d2 b o o' z z' (hlive _ l1).2 (hlive _ l2).2),
    blk := (fun d' B hB' => by
      obtain ⟨e, hl'⟩ := hlive d' (by rw [hB']; rfl)
      rw [hbn d' e] at hB'
      obtain ⟨B0, hb0, rfl⟩ := Option.map_eq_some_iff.1 hB'
      have ho := h.blk d' B0 hb0
      cases B0 with
      | arr et' t' xs' =>
        rcases ho with h1 | ⟨b, o, z, c, el, h1, h2, h3, h4, h5⟩
        · exact .inl h1
        · refine .inr ⟨b, o, z, c, el, h1, h2, h3, h4, fun i x hx => ?_⟩
          obtain ⟨vs, e1, r, hc⟩ := h5 i x hx
          exact ⟨vs, e1, RepC.frame (Fr.refl _ _) (fun b h => .inl (hO b h)) _ _ _ r, hc⟩
      | box cs =>
        obtain ⟨b, z, c, el, h1, h2, h3, h4, h5⟩ := ho
        refine ⟨b, z, c, el, h1, h2, h3, by simpa using h4, fun j x hx => ?_⟩
        rw [List.getElem?_map, Option.map_eq_some_iff] at hx
        obtain ⟨x', hx', rfl⟩ := hx
        obtain ⟨u, hu, ho⟩ := h5 j x' hx'
        exact ⟨u, hu, hok ho⟩),
    tmp := fun u => by rw [htm]; exact hok (h.tmp u) }
theorem SRp.frz {C : Ctx} {φ : Pl} {a : Act} {w : World} : ∀ (l : List Nat) {s : S}, SRp C φ s a w → SRp C φ (s.frz l) a w
  | [], _, h => h
  | d :: r, _, h => SRp.frz r (h.frz1 d)
theorem SRp.hf {C : Ctx} {φ : Pl} {s : S} {a : Act} {w : World} (h : SRp C φ s a w) : HF w (OS C.F φ s) where
  lt b hb := by
    rcases hb with h1 | ⟨d, o, z, h1, h2⟩
    · exact Nat.lt_of_lt_of_le (C.hF.lt b h1) h.grow
    · exact (h.place d b o z h1 h2).1
  gl g G hg := by
    obtain ⟨h1, h2, h3⟩ := C.hF.gl g G hg
    have hold : ∀ b, ¬ C.F b → b < C.w0.heap.size → w.heap[b]? = C.w0.heap[b]? := fun b hb hl => h.old b hl fun s n e => hb (C.hB b s n e)
    have hO : ∀ b, OS C.F φ s b → C.F b ∨ C.w0.heap.size ≤ b := by
      rintro b (hb | ⟨d, o, z, q1, q2⟩)
      · exact .inl hb
      · rcases (h.place d b o z q1 q2).2 with q | ⟨_, t, m, _, q⟩
        · exact .inr q.1
        · exact .inl (C.hB _ _ _ q)
    refine ⟨fun hb => (hO g hb).elim h1 (fun hc => by omega), Nat.lt_of_lt_of_le h2 h.grow, fun i x hx => ?_⟩
    obtain ⟨vs, e1, e2, e3⟩ := h3 i x hx
    exact ⟨vs, e1, e2.frame (hold g h1 h2), RepC.frame ⟨h.grow, hold⟩ hO _ _ _ e3⟩
end Go.Proofs.YtgbndganadelpaaGreatDoor.E
/- One operation of the evaluator is one operation of the model: what the tables must say, values and blocks. -/
namespace Go.Proofs.YtgbndganadelpaaGreatDoor.E
open Go
set_option linter.unusedVariables false
set_option linter.unusedSimpArgs false
def undOk (P : Program) (t : Nat) : Ty → Prop
  | .int k => P.underlying t = some (.int k)
  | .bool => P.underlying t = some .bool
  | .str => P.underlying t = some .string
  | .sl _ => ∃ e, P.underlying t = some (.slice e)
  | _ => ∃ fs, P.underlying t = some (.struct fs)
structure TyOk (P : Program) (t : Nat) (T : Ty) : Prop where
  info : ∃ i z, P.info? t = some i ∧ i.size = T.size ∧ i.zero = some z ∧ i.bytes ≤ 65536 ∧ ofVal T z.cells.toList = some (T.zero, [])
  und : undOk P t T
/-- What '==' gives at the structs of the table. -/
def EqOk (P : Program) (t : Nat) (T : Ty) : Prop :=
  ∀ (x y : T.den) (u v : Value) (w : World) (O : Nat → Prop), RepV w O T x u → RepV w O T y v → (Op.equal t u v).run P w = .ok (eqT T x y) w ∧ P.eqGuardType P.depth t = false
structure Tabs (E : Env) (P : Program) : Prop where
  ty : ∀ t T, find E.ty t = some T → TyOk P t T
  fl : ∀ t l, find E.fl t = some l → ∃ fs : Array Field, P.underlying t = some (.struct fs) ∧ fs.toList.map (fun f => (f.offset, f.type)) = l ∧ ∀ p ∈ l, (find E.ty p.2).isSome = true
  el : ∀ t e, find E.el t = some e → P.underlying t = some (.slice e)
  eqs : ∀ t T, has E.eqs t = true → find E.ty t = some T → EqOk P t T
  sg : ∀ f g, find E.sg f = some g → ∃ fn, P.funcs[f]? = some fn ∧ (fn.name == "runtime.NumGoroutine") = false ∧ fn.body.isSome = true
  mixed : P.follows .mixedOrders = true
  gl : ∀ g G, find gl g = some G → P.underlying G.ty = some (.array G.xs.length G.el) ∧ TyOk P G.el G.T
/-- What a call hands over, and what it hands back. -/
def ArgsOk (w : World) (F : Nat → Prop) : List AV → List Value → Prop
  | [], us => us = []
  | a :: r, us => ∃ u l, us = u :: l ∧ (∃ t x, a = .v t x ∧ RepV w F t x u) ∧ ArgsOk w F r l
def ResOk (w : World) (F : Nat → Prop) (y : AV) (u : Value) : Prop := (∃ t x, y = .v t x ∧ RepV w F t x u) ∨ ∃ t x vs, y = .tup t x ∧ u = .tuple vs ∧ RepT w F t x vs.toList
structure Same (w w' : World) : Prop where
  os : w'.os = w.os
  tape : w'.tape = w.tape
  output : w'.output = w.output
  size : w.heap.size ≤ w'.heap.size
  block : ∀ b, b < w.heap.size → w'.heap[b]? = w.heap[b]?
/-- A row of cells holds a list. -/
def RowAt (w : World) (F : Nat → Prop) (c : Array Value) (s : Nat) (t : Ty) (xs : List t.den) : Prop :=
  ∀ i x, xs[i]? = some x → ∃ vs, vs.length = t.size ∧ RepC w F t x vs ∧ ∀ (j : Nat) (u : Value), vs[j]? = some u → c[s + i * t.size + j]? = some u
/-- A new row of numbers. -/
def FreshRow (n : Nat) (w : World) (F : Nat → Prop) (y : AV) (u : Value) : Prop :=
  ∃ (k : IntKind) (xs : List Int) (ad : Option Addr) (cap : Nat), y = .tup (.sl (.int k)) xs ∧ u = .slice ad xs.length cap ∧ xs.length ≤ cap ∧
    ((xs = [] ∧ ad = none ∧ cap = 0) ∨ ∃ b c el, n ≤ b ∧ b < w.heap.size ∧ ad = some ⟨b, 0, none⟩ ∧ w.heap[b]? = some (.cells c el (0, 0)) ∧ c.size = cap ∧ cap ≤ maxLen ∧ RowAt w F c 0 (.int k) xs)
def ResN (n : Nat) (w : World) (F : Nat → Prop) (y : AV) (u : Value) : Prop := ResOk w F y u ∨ FreshRow n w F y u
/-- On these values the function gives this. -/
def Meets (P : Program) (f : Nat) (as_ : List AV) (y : AV) : Prop :=
  ∀ (w : World) (vs : Array Value) (F : Nat → Prop), HF w F → ArgsOk w F as_ vs.toList →
    Calls P f vs w fun e w' => ∃ u, e = .returned u ∧ ResN w.heap.size w' F y u ∧ Same w w'
/-- The same of a function that writes into its first argument: a window of a row that may be written. -/
def MeetsB (P : Program) (f : Nat) (t : Ty) (xs : List t.den) (as_ : List AV) (y : AV) (ys : List t.den) : Prop :=
  ∀ (w : World) (u0 : Value) (vs : Array Value) (F : Nat → Prop), HF w F → ArgsOk w F as_ vs.toList →
    ((xs = [] ∧ (∃ ad cap, u0 = .slice ad 0 cap) →
      Calls P f (#[u0] ++ vs) w fun e w' => ys.length = xs.length ∧ ∃ u, e = .returned u ∧ ResOk w' F y u ∧ Same w w')) ∧
    (∀ b s c el cap, xs.length ≤ cap → u0 = .slice (some ⟨b, s, none⟩) xs.length cap → F b → w.heap[b]? = some (.cells c el (0, 0)) → RowAt w F c s t xs → s + xs.length * t.size ≤ c.size →
      Calls P f (#[u0] ++ vs) w fun e w' => ys.length = xs.length ∧ ∃ u, e = .returned u ∧ ResOk w' F y u ∧ w'.os = w.os ∧ w'.tape = w.tape ∧ w'.output = w.output ∧ w.heap.size ≤ w'.heap.size ∧
        (∀ b', b' < w.heap.size → b' ≠ b → w'.heap[b']? = w.heap[b']?) ∧
        ∃ c', w'.heap[b]? = some (.cells c' el (0, 0)) ∧ c'.size = c.size ∧ RowAt w' F c' s t ys ∧ ∀ o, o < s ∨ s + xs.length * t.size ≤ o → c'[o]? = c[o]?)
def OrcOk (P : Program) (E : Env) (ρ : Orc) : Prop :=
  ∀ (R : Type) (f : Nat) (as_ : List AV) (K : AV → Option R) (r : R), (find E.sg f).isSome = true → ρ R f as_ K = some r → ∃ y, Meets P f as_ y ∧ K y = some r
def OrcBOk (P : Program) (E : Env) (β : OrcB) : Prop :=
  ∀ (R : Type) (f : Nat) (t : Ty) (xs : List t.den) (as_ : List AV) (K : AV → Vw → Option R) (r : R), (find E.sg f).isSome = true → β R f (.v (.sl t) xs :: as_) K = some r →
    ∃ y ys a, MeetsB P f t xs as_ y ys ∧ K y ⟨t, ys, a⟩ = some r
structure Agree (C : Ctx) (s s2 : S) (o : Oper) (e : Ev) : Prop where
  ev : ∀ x ∈ o.op.operands, s2.ev x = s.ev x
  bk : ∀ d ∈ e.rd, s2.bk d = s.bk d
  wr : ∀ d b, e.wr = some (d, b) → s2.bk d = s.bk d
  nb : ∀ b d, e.nb = some b → o.dst = some d → s2.bk d = none
  dst : ∀ d, o.dst = some d → d < C.n
/-- The operation does what the event says, in each state that agrees with s on what it looks at. -/
def EvOk (P : Program) (C : Ctx) (s : S) (o : Oper) (e : Ev) : Prop :=
  ∀ (s2 : S), Agree C s s2 o e → ∀ (φ : Pl) (a : Act) (w : World), SRp C φ s2 a w → ∀ (K : Act → World → Prop) (Q : Exit → Act → World → Prop),
    (∀ a' w', SR C (e.eff o.dst s2) a' w' → K a' w') → o.wp P a w K Q
theorem RepV.int {w : World} {O : Nat → Prop} {k : IntKind} {n : Int} {u : Value} (h : RepV w O (.int k) n u) : u = .int k n := by
  unfold RepV at h; rw [if_neg (by simp [Ty.agg])] at h
  simpa [RepC] using h
theorem RepV.bool {w : World} {O : Nat → Prop} {b : Bool} {u : Value} (h : RepV w O .bool b u) : u = .bool b := by
  unfold RepV at h; rw [if_neg (by simp [Ty.agg])] at h
  simpa [RepC] using h
theorem RepV.str {w : World} {O : Nat → Prop} {b : ByteArray} {u : Value} (h : RepV w O .str b u) : u = .string b := by
  unfold RepV at h; rw [if_neg (by simp [Ty.agg])] at h
  simpa [RepC] using h
theorem RepV.mk_int (w : World) (O : Nat → Prop) (k : IntKind) (n : Int) : RepV w O (.int k) n (.int k n) := (if_neg (by simp [Ty.agg])).mpr rfl
theorem RepV.mk_bool (w : World) (O : Nat → Prop) (b : Bool) : RepV w O .bool b (.bool b) := (if_neg (by simp [Ty.agg])).mpr rfl
theorem RepV.mk_str (w : World) (O : Nat → Prop) (b : ByteArray) : RepV w O .str b (.string b) := (if_neg (by simp [Ty.agg])).mpr rfl
theorem ev_ok {C : Ctx} {φ : Pl} {s : S} {a : Act} {w : World} (h : SRp C φ s a w) (x : Operand) : Ok φ s.sh (OS C.F φ s) w (s.ev x) (a.eval x) := by
  cases x with
  | tmp t => exact h.tmp t
  | const c => cases c with
    | int k n => exact RepV.mk_int _ _ _ _
    | bool b => exact RepV.mk_bool _ _ _
    | string b => exact RepV.mk_str _ _ _
    | _ => rfl
  | func f => rfl
  | global g => rfl
theorem RepV.cells {w : World} {O : Nat → Prop} {t : Ty} {x : t.den} {u : Value} (h : RepV w O t x u) : RepC w O t x u.cells.toList := by
  unfold RepV at h
  split at h
  · obtain ⟨cs, rfl, r⟩ := h; exact r
  · rename_i ht
    have : u.cells.toList = [u] := by
      cases t with
      | int k => simp only [RepC] at h; rw [List.cons.inj h |>.1]; rfl
      | bool => simp only [RepC] at h; rw [List.cons.inj h |>.1]; rfl
      | str => simp only [RepC] at h; rw [List.cons.inj h |>.1]; rfl
      | sl t => obtain ⟨ad, cap, e, _⟩ := h; rw [List.cons.inj e |>.1]; rfl
      | unit => exact absurd rfl ht
      | pair a b => exact absurd rfl ht
    rw [this]; exact h
theorem RepV.of_atom {w : World} {O : Nat → Prop} {t : Ty} {x : t.den} {u : Value} (ht : t.agg = false) (h : RepC w O t x [u]) : RepV w O t x u := by
  unfold RepV; rw [if_neg (by simp [ht])]; exact h
theorem RepV.of_agg {w : World} {O : Nat → Prop} {t : Ty} {x : t.den} {cs : Array Value} (ht : t.agg = true) (h : RepC w O t x cs.toList) : RepV w O t x (.agg cs) := by
  unfold RepV; rw [if_pos ht]; exact ⟨cs, rfl, h⟩
/-- A constant's cells. -/
theorem ofVal_rep (w : World) (O : Nat → Prop) : ∀ (t : Ty) (us : List Value) (x : t.den) (r : List Value), ofVal t us = some (x, r) → ∃ vs, us = vs ++ r ∧ RepC w O t x vs
  | .int k, us, x, r, h => by
    cases us with
    | nil => simp [ofVal] at h
    | cons u us => cases u <;> simp only [ofVal, reduceCtorEq] at h
                   split at h
                   · rename_i e; subst e; cases h; exact ⟨[_], rfl, rfl⟩
                   · cases h
  | .bool, us, x, r, h => by
    cases us with
    | nil => simp [ofVal] at h
    | cons u us => cases u <;> simp only [ofVal, reduceCtorEq] at h
                   cases h; exact ⟨[_], rfl, rfl⟩
  | .str, us, x, r, h => by
    cases us with
    | nil => simp [ofVal] at h
    | cons u us => cases u <;> simp only [ofVal, reduceCtorEq] at h
                   cases h; exact ⟨[_], rfl, rfl⟩
  | .unit, us, x, r, h => by
    simp only [ofVal, Option.some.injEq, Prod.mk.injEq] at h
    exact ⟨[], by simp [h.2], rfl⟩
  | .sl t, us, x, r, h => by
    cases us with
    | nil => simp [ofVal] at h
    | cons u us =>
      cases u with
      | slice ad n cap =>
        cases ad with
        | some _ => simp [ofVal] at h
        | none => cases n with
          | succ _ => simp [ofVal] at h
          | zero =>
            simp only [ofVal, Option.some.injEq, Prod.mk.injEq] at h
            obtain ⟨rfl, rfl⟩ := h
            exact ⟨[_], rfl, _, _, rfl, Nat.zero_le _, fun i x hx => by cases hx⟩
      | _ => simp [ofVal] at h
  | .pair a b, us, x, r, h => by
    simp only [ofVal] at h
    split at h
    · rename_i x1 l1 h1
      split at h
      · rename_i x2 l2 h2
        cases h
        obtain ⟨v1, e1, r1⟩ := ofVal_rep w O a _ _ _ h1
        obtain ⟨v2, e2, r2⟩ := ofVal_rep w O b _ _ _ h2
        exact ⟨v1 ++ v2, by rw [e1, e2, List.append_assoc], v1, v2, rfl, r1, r2⟩
      · cases h
    · cases h
theorem castT_ok {t t' : Ty} {x : t'.den} {y : t.den} (h : castT t x = some y) : ∃ e : t' = t, e ▸ x = y := by
  unfold castT at h
  split at h
  · rename_i e; exact ⟨e, Option.some.inj h⟩
  · cases h
theorem asTy_ok {φ : Pl} {σ : Nat → Option Sh} {w : World} {O : Nat → Prop} {t : Ty} {a : AV} {x : t.den} {u : Value} (h : asTy t a = some x) (ho : Ok φ σ O w a u) : RepV w O t x u := by
  cases a with
  | v t' y =>
    obtain ⟨e, h⟩ := castT_ok h
    subst e; subst h; exact ho
  | cst c =>
    have ho' : u = c := ho
    subst ho'
    have key : ∀ us, (match ofVal t us with | some (x, []) => some x | _ => none) = some x → RepC w O t x us := fun us h => by
      split at h
      · rename_i y hy
        cases h
        obtain ⟨vs, e, r⟩ := ofVal_rep w O t _ _ _ hy
        rw [e, List.append_nil]; exact r
      · cases h
    cases u <;> simp only [asTy] at h
    case agg cs =>
      cases ht : t.agg with
      | true => rw [ht] at h; exact RepV.of_agg ht (key _ h)
      | false => rw [ht] at h; cases h
    all_goals
      cases ht : t.agg with
      | true => rw [ht] at h; cases h
      | false => rw [ht] at h; exact RepV.of_atom ht (key _ h)
  | _ => cases h
section ops
variable {P : Program} {E : Env} {C : Ctx} {s : S} {o : Oper} {R : Type} {r : R}
theorem EvOk.val {av : AV} {rd : List Nat} (h : ∀ s2 φ a w, Agree C s s2 o { a := av, rd := rd } → SRp C φ s2 a w →
    ∃ u, (execOp a.eval o).run P w = .ok (.value u) w ∧ Ok φ s2.sh (OS C.F φ s2) w av u) : EvOk P C s o { a := av, rd := rd } := by
  intro s2 hag φ a w hs K Q hK
  obtain ⟨u, hr, ho⟩ := h s2 φ a w hag hs
  have he : (Ev.eff { a := av, rd := rd } o.dst s2) = s2.puto o.dst av := by cases o.dst <;> rfl
  unfold Oper.wp
  rw [hr]
  exact hK _ _ ⟨φ, by rw [he]; exact hs.puto hag.dst ho⟩
theorem move_ok {x : Operand} {K : Ev → Option R} (ho : o.op = .move x ∨ o.op = .assign x) (h : K { a := s.ev x } = some r) : ∃ e, EvOk P C s o e ∧ K e = some r :=
  ⟨_, EvOk.val fun s2 φ a w hag hs => ⟨a.eval x, by rcases ho with ho | ho <;> simp [execOp, ho], by
    have := ev_ok hs x
    rw [hag.ev x (by rcases ho with ho | ho <;> simp [ho, Op.operands])] at this
    exact this⟩, h⟩
theorem pick_ok {c x y : Operand} {K : Ev → Option R} (ho : o.op = .pick c x y) {b : Bool} (hc : s.ev c = .v .bool b)
    (h : cond b (K { a := s.ev x }) (K { a := s.ev y }) = some r) : ∃ e, EvOk P C s o e ∧ K e = some r := by
  refine ⟨{ a := cond b (s.ev x) (s.ev y) }, EvOk.val fun s2 φ a w hag hs => ⟨cond b (a.eval x) (a.eval y), ?_, ?_⟩, by cases b <;> exact h⟩
  · have h1 := ev_ok hs c
    rw [hag.ev c (by simp [ho, Op.operands]), hc] at h1
    have h1 := RepV.bool h1
    cases b <;> simp [execOp, ho, h1, asBool]
  · have hx := ev_ok hs x
    have hy := ev_ok hs y
    rw [hag.ev x (by simp [ho, Op.operands])] at hx
    rw [hag.ev y (by simp [ho, Op.operands])] at hy
    cases b
    · exact hy
    · exact hx
/-- A value that hangs on two numbers, bools, texts alone. -/
theorem val2_ok {av : AV} {x y : Operand} {ux uy : Value} {u : Value} {K : Ev → Option R} (hx : x ∈ o.op.operands) (hy : y ∈ o.op.operands)
    (ex : ∀ φ σ O w v, Ok φ σ O w (s.ev x) v → v = ux) (ey : ∀ φ σ O w v, Ok φ σ O w (s.ev y) v → v = uy)
    (hr : ∀ (ρ : Operand → Value) (w : World), ρ x = ux → ρ y = uy → (execOp ρ o).run P w = .ok (.value u) w)
    (hu : ∀ φ σ O w, Ok φ σ O w av u) (h : K { a := av } = some r) : ∃ e, EvOk P C s o e ∧ K e = some r :=
  ⟨_, EvOk.val fun s2 φ a w hag hs => ⟨u, hr _ w
    (by have := ev_ok hs x; rw [hag.ev x hx] at this; exact ex _ _ _ _ _ this)
    (by have := ev_ok hs y; rw [hag.ev y hy] at this; exact ey _ _ _ _ _ this), hu _ _ _ _⟩, h⟩
theorem val2_int {x y : Operand} {ux uy : Value} {k : IntKind} {n : Int} {K : Ev → Option R} (hx : x ∈ o.op.operands) (hy : y ∈ o.op.operands)
    (ex : ∀ φ σ O w v, Ok φ σ O w (s.ev x) v → v = ux) (ey : ∀ φ σ O w v, Ok φ σ O w (s.ev y) v → v = uy) (h : K { a := .v (.int k) n } = some r)
    (hr : ∀ (ρ : Operand → Value) (w : World), ρ x = ux → ρ y = uy → (execOp ρ o).run P w = .ok (.value (.int k n)) w) : ∃ e, EvOk P C s o e ∧ K e = some r :=
  val2_ok (av := .v (.int k) n) hx hy ex ey hr (fun _ _ _ _ => RepV.mk_int _ _ _ _) h
theorem val2_bool {x y : Operand} {ux uy : Value} {b : Bool} {K : Ev → Option R} (hx : x ∈ o.op.operands) (hy : y ∈ o.op.operands)
    (ex : ∀ φ σ O w v, Ok φ σ O w (s.ev x) v → v = ux) (ey : ∀ φ σ O w v, Ok φ σ O w (s.ev y) v → v = uy) (h : K { a := .v .bool b } = some r)
    (hr : ∀ (ρ : Operand → Value) (w : World), ρ x = ux → ρ y = uy → (execOp ρ o).run P w = .ok (.value (.bool b)) w) : ∃ e, EvOk P C s o e ∧ K e = some r :=
  val2_ok (av := .v .bool b) hx hy ex ey hr (fun _ _ _ _ => RepV.mk_bool _ _ _) h
theorem is_int {a : AV} {k : IntKind} {n : Int} (h : a = .v (.int k) n) : ∀ φ σ O w v, Ok φ σ O w a v → v = .int k n := by
  subst h; exact fun _ _ _ _ _ h => RepV.int h
theorem is_bool {a : AV} {b : Bool} (h : a = .v .bool b) : ∀ φ σ O w v, Ok φ σ O w a v → v = .bool b := by
  subst h; exact fun _ _ _ _ _ h => RepV.bool h
theorem is_str {a : AV} {b : ByteArray} (h : a = .v .str b) : ∀ φ σ O w v, Ok φ σ O w a v → v = .string b := by
  subst h; exact fun _ _ _ _ _ h => RepV.str h
theorem cond_some {b : Bool} {x : Option R} (h : cond b none x = some r) : b = false ∧ x = some r := by cases b <;> simp_all
theorem cond_some' {b : Bool} {x : Option R} (h : cond b x none = some r) : b = true ∧ x = some r := by cases b <;> simp_all
theorem int_ok {op : BinOp} {ty yt : Nat} {x y : Operand} {k : IntKind} {a b : Int} {K : Ev → Option R} (ho : o.op = .binOp op ty x y yt)
    (hx : s.ev x = .v (.int k) a) (hy : s.ev y = .v (.int k) b) (h : intK op k a b (fun v => K { a := v }) = some r)
    (h1 : op ≠ .shl) (h2 : op ≠ .shr) : ∃ e, EvOk P C s o e ∧ K e = some r := by
  have mx : x ∈ o.op.operands := by simp [ho, Op.operands]
  have my : y ∈ o.op.operands := by simp [ho, Op.operands]
  cases op <;> simp only [intK] at h <;> (try exact absurd rfl h1) <;> (try exact absurd rfl h2)
  case quo =>
    obtain ⟨h0, h⟩ := cond_some h
    exact val2_int mx my (is_int hx) (is_int hy) h fun ρ w e1 e2 => by
      simp only [decide_eq_false_iff_not] at h0
      simp [execOp, ho, e1, e2, eqGuard, binOp, Op.intDiv, h0]
  case rem =>
    obtain ⟨h0, h⟩ := cond_some h
    exact val2_int mx my (is_int hx) (is_int hy) h fun ρ w e1 e2 => by
      simp only [decide_eq_false_iff_not] at h0
      simp [execOp, ho, e1, e2, eqGuard, binOp, Op.intDiv, h0]
  case add => exact val2_int mx my (is_int hx) (is_int hy) h fun ρ w e1 e2 => by simp [execOp, ho, e1, e2, eqGuard, binOp, Op.intArith]
  case sub => exact val2_int mx my (is_int hx) (is_int hy) h fun ρ w e1 e2 => by simp [execOp, ho, e1, e2, eqGuard, binOp, Op.intArith]
  case mul => exact val2_int mx my (is_int hx) (is_int hy) h fun ρ w e1 e2 => by simp [execOp, ho, e1, e2, eqGuard, binOp, Op.intArith]
  case and => exact val2_int mx my (is_int hx) (is_int hy) h fun ρ w e1 e2 => by simp [execOp, ho, e1, e2, eqGuard, binOp, Op.intBits, andI]
  case or => exact val2_int mx my (is_int hx) (is_int hy) h fun ρ w e1 e2 => by simp [execOp, ho, e1, e2, eqGuard, binOp, Op.intBits, orI]
  case xor => exact val2_int mx my (is_int hx) (is_int hy) h fun ρ w e1 e2 => by simp [execOp, ho, e1, e2, eqGuard, binOp, Op.intBits, xorI]
  case andNot => exact val2_int mx my (is_int hx) (is_int hy) h fun ρ w e1 e2 => by simp [execOp, ho, e1, e2, eqGuard, binOp, Op.intBits, andNotI]
  case eql => exact val2_bool mx my (is_int hx) (is_int hy) h fun ρ w e1 e2 => by simp [execOp, ho, e1, e2, eqGuard, binOp, Op.intCmp]
  case neq => exact val2_bool mx my (is_int hx) (is_int hy) h fun ρ w e1 e2 => by simp [execOp, ho, e1, e2, eqGuard, binOp, Op.intCmp]
  case lss => exact val2_bool mx my (is_int hx) (is_int hy) h fun ρ w e1 e2 => by simp [execOp, ho, e1, e2, eqGuard, binOp, Op.intCmp]
  case leq => exact val2_bool mx my (is_int hx) (is_int hy) h fun ρ w e1 e2 => by simp [execOp, ho, e1, e2, eqGuard, binOp, Op.intCmp]
  case gtr => exact val2_bool mx my (is_int hx) (is_int hy) h fun ρ w e1 e2 => by simp [execOp, ho, e1, e2, eqGuard, binOp, Op.intCmp]
  case geq => exact val2_bool mx my (is_int hx) (is_int hy) h fun ρ w e1 e2 => by simp [execOp, ho, e1, e2, eqGuard, binOp, Op.intCmp]
end ops
end Go.Proofs.YtgbndganadelpaaGreatDoor.E
