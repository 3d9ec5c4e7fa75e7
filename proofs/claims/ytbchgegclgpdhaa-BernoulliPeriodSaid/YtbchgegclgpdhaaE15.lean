/- Loops as iterated functions; functions and their contracts. -/
import Derived.Test.YtbchgegclgpdhaaE14
namespace Go.Proofs.Ytbchgegclgpdhaa.E
open Go
set_option linter.unusedVariables false
set_option linter.unusedSimpArgs false

/-- A round again and again, till it says that it is done. -/
def iterN {α β : Type} (f : α → Option (α ⊕ β)) : Nat → α → Option β
  | 0, _ => none
  | n + 1, x => match f x with
    | none => none
    | some (.inl x') => iterN f n x'
    | some (.inr b) => some b
open Classical in
noncomputable def iterL {α β : Type} (f : α → Option (α ⊕ β)) (x : α) : Option β :=
  if h : ∃ n b, iterN f n x = some b then some h.choose_spec.choose else none
theorem iterN_mono {α β : Type} (f : α → Option (α ⊕ β)) : ∀ (n k : Nat) (x : α) (b : β), iterN f n x = some b → iterN f (n + k) x = some b
  | 0, k, x, b, h => by cases h
  | n + 1, k, x, b, h => by
    rw [show n + 1 + k = (n + k) + 1 by omega]
    simp only [iterN] at h ⊢
    split at h
    · cases h
    · rename_i x' hx; exact iterN_mono f n k x' b h
    · exact h
theorem iterL_of {α β : Type} {f : α → Option (α ⊕ β)} {n : Nat} {x : α} {b : β} (h : iterN f n x = some b) : iterL f x = some b := by
  have he : ∃ n b, iterN f n x = some b := ⟨n, b, h⟩
  unfold iterL
  rw [dif_pos he]
  have h2 := he.choose_spec.choose_spec
  have e1 := iterN_mono f n he.choose x b h
  have e2 := iterN_mono f he.choose n x _ h2
  rw [Nat.add_comm] at e2
  rw [e1] at e2
  exact e2.symm
theorem iterL_some {α β : Type} {f : α → Option (α ⊕ β)} {x : α} {b : β} (h : iterL f x = some b) : ∃ n, iterN f n x = some b := by
  unfold iterL at h
  split at h
  · rename_i he
    have h2 := he.choose_spec.choose_spec
    cases h
    exact ⟨_, h2⟩
  · cases h
theorem iterL_done {α β : Type} {f : α → Option (α ⊕ β)} {x : α} {b : β} (h : f x = some (.inr b)) : iterL f x = some b :=
  iterL_of (n := 1) (by simp only [iterN, h])
theorem iterL_next {α β : Type} {f : α → Option (α ⊕ β)} {x y : α} (h : f x = some (.inl y)) : iterL f x = iterL f y := by
  cases hy : iterL f y with
  | some b =>
    obtain ⟨n, hn⟩ := iterL_some hy
    exact iterL_of (n := n + 1) (by simp only [iterN, h]; exact hn)
  | none =>
    cases hx : iterL f x with
    | none => rfl
    | some b =>
      obtain ⟨n, hn⟩ := iterL_some hx
      cases n with
      | zero => cases hn
      | succ n =>
        simp only [iterN, h] at hn
        rw [iterL_of hn] at hy
        cases hy
/-- A loop that ends: an invariant and a measure. -/
theorem iterL_inv {α β : Type} {f : α → Option (α ⊕ β)} (I : α → Prop) (μ : α → Nat) (Q : β → Prop)
    (h : ∀ x, I x → (∃ y, f x = some (.inl y) ∧ I y ∧ μ y < μ x) ∨ ∃ b, f x = some (.inr b) ∧ Q b) : ∀ x, I x → ∃ b, iterL f x = some b ∧ Q b := by
  suffices ∀ n x, μ x = n → I x → ∃ b, iterL f x = some b ∧ Q b from fun x hx => this _ x rfl hx
  intro n
  induction n using Nat.strongRecOn with
  | _ n ih =>
    intro x hn hx
    rcases h x hx with ⟨y, h1, h2, h3⟩ | ⟨b, h1, h2⟩
    · obtain ⟨b, h4, h5⟩ := ih (μ y) (by omega) y rfl h2
      exact ⟨b, by rw [iterL_next h1]; exact h4, h5⟩
    · exact ⟨b, iterL_done h1, h2⟩

def exEq : Ex → Ex → Bool
  | .normal, .normal => true
  | .exit i, .exit j => Nat.beq i j
  | .ret, .ret => true
  | _, _ => false
theorem exEq_spec {a b : Ex} (h : exEq a b = true) : a = b := by
  cases a <;> cases b <;> first | rfl | cases h | skip
  simp only [exEq, nbeq, decide_eq_true_eq] at h
  rw [h]
/-- The exits of a loop, with what is known there. -/
abbrev Xs := List (Ex × Fm)
@[reducible] def Xs.T : Xs → Type
  | [] => Empty
  | [p] => p.2.ty.den
  | p :: q :: r => p.2.ty.den ⊕ Xs.T (q :: r)
def Xs.read (e : Ex) (s : S) : (X : Xs) → Option X.T
  | [] => none
  | [p] => cond (exEq e p.1) (p.2.read s) none
  | p :: q :: r => cond (exEq e p.1) ((p.2.read s).map .inl) ((Xs.read e s (q :: r)).map .inr)
def Xs.out {R : Type} (K : Ex → S → Option R) : (X : Xs) → X.T → Option R
  | [], _ => none
  | [p], b => K p.1 (p.2.mk b)
  | p :: q :: r, b => match b with
    | .inl y => K p.1 (p.2.mk y)
    | .inr z => Xs.out K (q :: r) z
def Xs.fine (X : Xs) : Bool := X.all fun p => p.2.fine
noncomputable def lamK {R : Type} (D : Fm) (X : Xs) (f : D.ty.den → Option (D.ty.den ⊕ X.T)) (s : S) (K : Ex → S → Option R) : Option R :=
  match D.read s with
  | none => none
  | some x => (iterL f x).bind fun b => X.out K b
/-- One round of a loop's body. -/
def roundK (E : Env) (ρ : Orc) (β : OrcB) (n : Nat) (Λ : Lam) (c : Code) (h : HT) (D : Fm) (X : Xs) (x : D.ty.den) : Option (D.ty.den ⊕ X.T) :=
  semK E ρ β n (Λ _) c h (D.mk x) fun e s' => match e with
    | .normal => (D.read s').map .inl
    | .exit i => (X.read (.exit i) s').map .inr
    | .ret => (X.read .ret s').map .inr

section
variable {P : Program} {E : Env} {C : Ctx}
theorem out_ok {R : Type} {K : Ex → S → Option R} {r : R} {e : Ex} {s : S} {a : Act} {w : World} (hs : SR C s a w) : ∀ (X : Xs) (b : X.T), X.fine = true → X.read e s = some b → X.out K b = some r → ∃ s', SR C s' a w ∧ K e s' = some r
  | [], b, _, h, _ => by cases h
  | [p], b, hf, h, hk => by
    simp only [Xs.read] at h
    obtain ⟨h1, h2⟩ := cond_some' h
    have := exEq_spec h1
    subst this
    simp only [Xs.fine, List.all_cons, Bool.and_eq_true] at hf
    exact ⟨_, hs.clean hf.1 h2, hk⟩
  | p :: q :: r', b, hf, h, hk => by
    simp only [Xs.fine, List.all_cons, Bool.and_eq_true] at hf
    simp only [Xs.read] at h
    cases he : exEq e p.1 with
    | true =>
      rw [he, cond_true, Option.map_eq_some_iff] at h
      obtain ⟨y, h2, rfl⟩ := h
      have := exEq_spec he
      subst this
      exact ⟨_, hs.clean hf.1 h2, hk⟩
    | false =>
      rw [he, cond_false, Option.map_eq_some_iff] at h
      obtain ⟨y, h2, rfl⟩ := h
      exact out_ok hs (q :: r') y (by simp only [Xs.fine, List.all_cons, Bool.and_eq_true]; exact hf.2) h2 hk
theorem loop_ok (hT : Tabs E P) {ρ : Orc} (hρ : OrcOk P E ρ) {β : OrcB} (hβ : OrcBOk P E β) {Λ : Lam} {c : Code} {h : HT} {D : Fm} {X : Xs} {f : D.ty.den → Option (D.ty.den ⊕ X.T)}
    (hf : ∀ x, roundK E ρ β C.n Λ c h D X x = f x) (hΛ : LamOk P C Λ (loops c h)) (hD : D.fine = true) (hX : X.fine = true) {R : Type} {s : S} {K : Ex → S → Option R} {r : R} (hk : lamK D X f s K = some r) :
    Reach P C (.loop c) s fun e s' => K e s' = some r := by
  unfold lamK at hk
  split at hk
  · cases hk
  rename_i x hx
  rw [Option.bind_eq_some_iff] at hk
  obtain ⟨b, hb, hk⟩ := hk
  obtain ⟨n, hn⟩ := iterL_some hb
  intro a w hs Q hq
  refine wp_loop_rounds n ?_
  have key : ∀ (n : Nat) (x : D.ty.den), iterN f n x = some b → ∀ a w, SR C (D.mk x) a w → Code.rounds P c Q n a w := by
    intro n
    induction n with
    | zero => intro x h; cases h
    | succ n ih =>
      intro x hx a w hs
      rw [rounds_succ]
      simp only [iterN] at hx
      cases hfx : f x with
      | none => rw [hfx] at hx; cases hx
      | some v =>
        have hr := hf x
        rw [hfx] at hr
        refine semK_ok hT hρ hβ c h _ _ hΛ hr a w hs _ fun e s' a' w' h1 h2 => ?_
        rw [hfx] at hx
        cases e with
        | normal =>
          simp only [Option.map_eq_some_iff] at h1
          obtain ⟨y, h3, rfl⟩ := h1
          exact ih y hx a' w' (h2.clean hD h3)
        | exit i =>
          simp only [Option.map_eq_some_iff] at h1
          obtain ⟨y, h3, rfl⟩ := h1
          simp only [Option.some.injEq] at hx
          subst hx
          obtain ⟨s2, h4, h5⟩ := out_ok h2 X y hX h3 hk
          exact hq _ s2 a' w' h5 h4
        | ret =>
          simp only [Option.map_eq_some_iff] at h1
          obtain ⟨y, h3, rfl⟩ := h1
          simp only [Option.some.injEq] at hx
          subst hx
          obtain ⟨s2, h4, h5⟩ := out_ok h2 X y hX h3 hk
          exact hq _ s2 a' w' h5 h4
  exact key n x hn a w (hs.clean hD hx)

/-- A function's parameters as one value. -/
@[reducible] def tyP : List Ty → Ty
  | [] => .unit
  | t :: r => .pair t (tyP r)
def avs : (ts : List Ty) → (tyP ts).den → List AV
  | [], _ => []
  | t :: r, x => .v t x.1 :: avs r x.2
def toH : (ts : List Ty) → List AV → Option (tyP ts).den
  | [], [] => some ()
  | t :: ts, .v _ x :: r => match castT t x, toH ts r with
    | some y, some z => some (y, z)
    | _, _ => none
  | _, _ => none
theorem toH_ok : ∀ (ts : List Ty) (as : List AV) (x : (tyP ts).den), toH ts as = some x → as = avs ts x
  | [], as, x, h => by
    cases as with
    | nil => rfl
    | cons => cases h
  | t :: ts, as, x, h => by
    cases as with
    | nil => cases h
    | cons a r =>
      cases a with
      | v t' y =>
        simp only [toH] at h
        split at h
        · rename_i z q h1 h2
          cases h
          obtain ⟨e, h1⟩ := castT_ok h1
          subst e
          simp only at h1
          subst h1
          rw [toH_ok ts r q h2]; rfl
        · cases h
      | _ => cases h
def resA (tup : Bool) (r : Ty) (y : r.den) : AV := cond tup (.tup r y) (.v r y)
/-- A function as it is known: its number, parameters, result, the function on values. -/
structure En where
  f : Nat
  ps : List Ty
  r : Ty
  tup : Bool
  g : (tyP ps).den → Option r.den
def EnOk (P : Program) (e : En) : Prop := ∀ x y, e.g x = some y → Meets P e.f (avs e.ps x) (resA e.tup e.r y)
def orc : List En → Orc
  | [], _, _, _, _ => none
  | e :: l, R, f, as, K => cond (Nat.beq e.f f) (match toH e.ps as with
    | some x => (e.g x).bind fun y => K (resA e.tup e.r y)
    | none => none) (orc l R f as K)
def AllOk (P : Program) : List En → Prop
  | [] => True
  | e :: r => EnOk P e ∧ AllOk P r
theorem orc_ok : ∀ (l : List En), AllOk P l → OrcOk P E (orc l)
  | [], _ => fun R f as K r _ h => by cases h
  | e :: l, hl => fun R f as K r hs h => by
    simp only [orc, nbeq] at h
    by_cases hf : e.f = f
    · rw [decide_eq_true hf, cond_true] at h
      split at h
      · rename_i x hx
        rw [Option.bind_eq_some_iff] at h
        obtain ⟨y, h1, h2⟩ := h
        rw [toH_ok _ _ _ hx]
        exact ⟨_, hf ▸ hl.1 x y h1, h2⟩
      · cases h
    · rw [decide_eq_false hf, cond_false] at h
      exact orc_ok l hl.2 R f as K r hs h
/-- The same of a function that writes into its first argument. -/
structure EnB where
  f : Nat
  t : Ty
  ps : List Ty
  r : Ty
  tup : Bool
  g : List t.den → (tyP ps).den → Option (r.den × List t.den)
def EnBOk (P : Program) (e : EnB) : Prop := ∀ xs x y, e.g xs x = some y → MeetsB P e.f e.t xs (avs e.ps x) (resA e.tup e.r y.1) y.2
def orcB : List EnB → OrcB
  | [], _, _, _, _ => none
  | e :: l, R, f, as, K => cond (Nat.beq e.f f) (match as with
    | .v (.sl t) xs :: r => match castT (.sl e.t) (t' := .sl t) xs, toH e.ps r with
      | some xs', some x => (e.g xs' x).bind fun y => K (resA e.tup e.r y.1) ⟨e.t, y.2, none⟩
      | _, _ => none
    | _ => none) (orcB l R f as K)
def AllBOk (P : Program) : List EnB → Prop
  | [] => True
  | e :: r => EnBOk P e ∧ AllBOk P r
theorem orcB_ok : ∀ (l : List EnB), AllBOk P l → OrcBOk P E (orcB l)
  | [], _ => fun R f t xs as K r _ h => by cases h
  | e :: l, hl => fun R f t xs as K r hs h => by
    simp only [orcB, nbeq] at h
    by_cases hf : e.f = f
    · rw [decide_eq_true hf, cond_true] at h
      split at h
      · rename_i xs' x hc hx
        rw [Option.bind_eq_some_iff] at h
        obtain ⟨y, h1, h2⟩ := h
        obtain ⟨e1, e2⟩ := castT_sl hc
        subst e1
        simp only at e2
        subst e2
        rw [toH_ok _ _ _ hx]
        exact ⟨_, y.2, none, hf ▸ hl.1 xs x y h1, h2⟩
      · cases h
    · rw [decide_eq_false hf, cond_false] at h
      exact orcB_ok l hl.2 R f t xs as K r hs h

/-- Where a function begins. -/
theorem args_init {w : World} {F : Nat → Prop} : ∀ (as : List AV) (us : List Value), ArgsOk w F as us → us.length = as.length ∧ ∀ (φ : Pl) (σ : Nat → Option Sh) (i : Nat), Ok φ σ F w (as.getD i .dead) (us.getD i undef)
  | [], us, h => by
    simp only [ArgsOk] at h; subst h
    exact ⟨rfl, fun φ σ i => trivial⟩
  | a :: r, us, h => by
    obtain ⟨u, l, rfl, ⟨t, x, rfl, hr⟩, hl⟩ := h
    obtain ⟨h1, h2⟩ := args_init r l hl
    refine ⟨by simp [h1], fun φ σ i => ?_⟩
    cases i with
    | zero => exact hr
    | succ i => exact h2 φ σ i
theorem getD_pad (vs : Array Value) (k t : Nat) : (vs ++ Array.replicate k undef).getD t undef = vs.toList.getD t undef := by
  simp only [Array.getD_eq_getD_getElem?, List.getD, Array.getElem?_append, Array.getElem?_toList]
  by_cases h : t < vs.size
  · rw [if_pos h]
  · rw [if_neg h, Array.getElem?_eq_none (by omega : vs.size ≤ t)]
    by_cases h2 : t - vs.size < k
    · simp [h2]
    · rw [Array.getElem?_eq_none (by simp; omega)]

theorem toF {O F : Nat → Prop} {w : World} (h : ∀ b, F b → O b) {t : Ty} {x : t.den} {us : List Value} (hr : RepC w O t x us) : RepC w F t x us :=
  RepC.frame (Fr.refl O w) (fun b hb => .inl (h b hb)) _ _ _ hr
theorem asTyF_ok {φ : Pl} {s : S} {a : Act} {w : World} (hs : SRp C φ s a w) {t : Ty} {x : AV} {y : t.den} {u : Value} (h : asTyF s t x = some y) (ho : Ok φ s.sh (OS C.F φ s) w x u) : RepV w C.F t y u := by
  have hF : ∀ b, C.F b → OS C.F φ s b := fun b hb => .inl hb
  unfold asTyF at h
  split at h
  · rename_i V hv
    have hvo := view_ok hs hv ho
    have key : (∀ ad cap, u = .slice ad V.xs.length cap → V.xs.length ≠ 0 → ∀ b o, ad = some ⟨b, o, none⟩ → ¬ C.F b) → castT t (t' := .sl V.t) V.xs = some y → RepV w C.F t y u := by
      intro hn hc
      obtain ⟨e, hc⟩ := castT_ok hc
      subst e
      simp only at hc
      subst hc
      obtain ⟨ad, cap, e1, e2, e3⟩ := hvo
      refine RepV.of_sl ⟨ad, cap, by rw [e1], e2, fun i z hz => ?_⟩
      obtain ⟨b, o, vs, q1, q2, _, q4, q5⟩ := e3 i z hz
      have hi := (List.getElem?_eq_some_iff.1 hz).1
      exact ⟨b, o, vs, q1, hn ad cap e1 (by omega) b o q1, q2, q4, toF hF q5⟩
    split at h
    · rename_i d off hat
      obtain ⟨h0, h⟩ := cond_some h
      rw [nbeq] at h0
      have h0 := of_decide_eq_false h0
      refine key (fun ad cap e hne b o hb => ?_) h
      obtain ⟨t', xs, at_⟩ := V
      simp only at hat
      subst hat
      obtain ⟨n, v1, _, ad', cap', v3, _, v5⟩ := view_at hs hv ho
      rw [e] at v3
      cases v3
      obtain ⟨b', o', z, g1, g2⟩ := v5 hne
      rw [hb] at g2
      cases g2
      have hl : (s.bk d).isSome = true := by
        simp only [S.sh, Option.map_eq_some_iff] at v1
        obtain ⟨B, v1, _⟩ := v1
        rw [v1]; rfl
      rcases (hs.place d _ _ _ hl g1).2 with ⟨h1, _⟩ | ⟨h1, _⟩
      · intro hb; have := C.hF _ hb; omega
      · exact absurd h1 h0
    · rename_i hat
      refine key (fun ad cap e hne b o hb hf => ?_) h
      obtain ⟨ad', cap', e1, _, e3⟩ := hvo
      rw [e] at e1
      cases e1
      cases hx : V.xs with
      | nil => rw [hx] at hne; exact hne rfl
      | cons z l =>
        obtain ⟨b', o', vs, q1, _, q3, _⟩ := e3 0 z (by rw [hx]; rfl)
        rw [hb] at q1
        cases q1
        exact q3 hat (hF _ hf)
  · exact RepV.frame (Fr.refl (OS C.F φ s) w) (fun b hb => .inl (hF b hb)) (asTy_ok h ho)
theorem atomF_ok {φ : Pl} {s : S} {a : Act} {w : World} (hs : SRp C φ s a w) {t : Ty} (ht : t.agg = false) {cs : List AV} {us : List Value} {x : t.den} {rest : List AV} (h : atomF s t cs = some (x, rest)) (hc : CellsOk φ s.sh (OS C.F φ s) w cs us) :
    ∃ vs us', us = vs ++ us' ∧ RepC w C.F t x vs ∧ CellsOk φ s.sh (OS C.F φ s) w rest us' := by
  cases cs with
  | nil => cases h
  | cons c r =>
    obtain ⟨u, l, rfl, h1, h2⟩ := hc
    simp only [atomF] at h
    split at h
    · rename_i y hy
      cases h
      have := asTyF_ok hs hy h1
      unfold RepV at this
      rw [if_neg (by simp [ht])] at this
      exact ⟨[u], l, rfl, this, h2⟩
    · cases h
theorem ofCF_ok {φ : Pl} {s : S} {a : Act} {w : World} (hs : SRp C φ s a w) : ∀ (t : Ty) (cs : List AV) (us : List Value) (x : t.den) (rest : List AV), ofCF s t cs = some (x, rest) → CellsOk φ s.sh (OS C.F φ s) w cs us →
    ∃ vs us', us = vs ++ us' ∧ RepC w C.F t x vs ∧ CellsOk φ s.sh (OS C.F φ s) w rest us'
  | .unit, cs, us, x, rest, h, hc => by
    simp only [ofCF, Option.some.injEq, Prod.mk.injEq] at h
    exact ⟨[], us, rfl, rfl, h.2 ▸ hc⟩
  | .pair a b, cs, us, x, rest, h, hc => by
    simp only [ofCF] at h
    split at h
    · rename_i x1 l1 h1
      split at h
      · rename_i x2 l2 h2
        cases h
        obtain ⟨v1, u1, rfl, r1, c1⟩ := ofCF_ok hs a _ _ _ _ h1 hc
        obtain ⟨v2, u2, rfl, r2, c2⟩ := ofCF_ok hs b _ _ _ _ h2 c1
        exact ⟨v1 ++ v2, u2, by rw [List.append_assoc], ⟨v1, v2, rfl, r1, r2⟩, c2⟩
      · cases h
    · cases h
  | .int k, _, _, _, _, h, hc => atomF_ok hs rfl h hc
  | .bool, _, _, _, _, h, hc => atomF_ok hs rfl h hc
  | .str, _, _, _, _, h, hc => atomF_ok hs rfl h hc
  | .sl t, _, _, _, _, h, hc => atomF_ok hs rfl h hc
def resSem (tmps : Array Value) : ResultVar → Sem Value
  | .tmp t => pure (tmps.getD t undef)
  | .cell a t => do loadVar t (← asAddr (tmps.getD a undef))
theorem resV_ok (hT : Tabs E P) {φ : Pl} {s : S} {a : Act} {w : World} (hs : SRp C φ s a w) {t : Ty} {rv : ResultVar} {y : t.den} (h : resV E s t rv = some y) : ∃ u, (resSem a.tmps rv).run P w = .ok u w ∧ RepV w C.F t y u := by
  cases rv with
  | tmp x => exact ⟨_, by simp [resSem], asTyF_ok hs h (hs.tmp x)⟩
  | cell x ty =>
    simp only [resV] at h
    split at h
    rotate_left
    · cases h
    rename_i t' hty
    split at h
    rotate_left
    · cases h
    rename_i e
    subst e
    split at h
    rotate_left
    · cases h
    rename_i d hx
    split at h
    rotate_left
    · cases h
    rename_i cs hb
    split at h
    rotate_left
    · cases h
    rename_i z hz
    cases h
    have h1 := hs.tmp x
    rw [hx] at h1
    obtain ⟨b, z', c, el, p1, p2, p3, p4⟩ := blk_cells hs hb
    obtain ⟨b', o', z'', e1, ⟨t2, n, e2, _⟩ | ⟨_, _, e3⟩⟩ := h1
    · simp [S.sh, hb, Blk.sh] at e2
    rw [p1] at e1
    cases e1
    obtain ⟨vs, us', q1, q2, q3⟩ := ofCF_ok hs _ _ _ _ _ hz p4
    simp only [CellsOk] at q3
    subst q3
    rw [List.append_nil] at q1
    have hr := run_load_at (P := P) (hT.ty _ _ hty) (RepC.length _ _ _ q2) (row_cells (o := 0) p2 fun j u hj => by rw [← q1] at hj; simpa using hj)
    refine ⟨_, by simp [resSem, e3, asAddr, hr]; rfl, ?_⟩
    cases ht : t'.agg with
    | true => exact RepV.of_agg ht (by simpa using q2)
    | false =>
      have h1 : t'.size = 1 := by cases t' <;> first | rfl | cases ht
      have hl := RepC.length _ _ _ q2
      obtain ⟨u, rfl⟩ : ∃ u, vs = [u] := by
        cases vs with
        | nil => rw [h1] at hl; cases hl
        | cons u l => cases l with
          | nil => exact ⟨u, rfl⟩
          | cons _ _ => rw [h1] at hl; simp at hl
      exact RepV.of_atom ht q2
theorem resL_ok (hT : Tabs E P) {φ : Pl} {s : S} {a : Act} {w : World} (hs : SRp C φ s a w) : ∀ (l : List ResultVar) (t : Ty) (y : t.den), resL E s l t = some y → ∃ us : List Value, (l.mapM (resSem a.tmps)).run P w = .ok us w ∧ us.length = l.length ∧ RepT w C.F t y us
  | [], t, y, h => by
    cases t <;> first | cases h | skip
    exact ⟨[], by simp, rfl, rfl⟩
  | r :: rs, t, y, h => by
    cases t with
    | pair ta tb =>
      simp only [resL] at h
      split at h
      · rename_i x z h1 h2
        cases h
        obtain ⟨u, q1, q2⟩ := resV_ok hT hs h1
        obtain ⟨us, q3, q4, q5⟩ := resL_ok hT hs rs tb z h2
        exact ⟨u :: us, by simp [List.mapM_cons, q1, q3], by simp [q4], u, us, rfl, q2, q5⟩
      · cases h
    | _ => cases h
theorem results_eq (fn : Func) (tmps : Array Value) : results fn tmps = (do
    let vs ← fn.results.mapM (resSem tmps)
    pure (if h : vs.size = 1 then vs[0] else .tuple vs)) := by
  unfold results
  congr 1
theorem fin_ok (hT : Tabs E P) {φ : Pl} {s : S} {a : Act} {w : World} (hs : SRp C φ s a w) {fn : Func} {g : Sg} {e : Ex} {y : g.r.den} (h : fin E fn g e s = some y) : (e = .normal ∨ e = .ret) ∧ ∃ u, (results fn a.tmps).run P w = .ok u w ∧ ResOk w C.F (resA g.tup g.r y) u := by
  have he : e = .normal ∨ e = .ret := by
    cases e with
    | exit i => cases h
    | normal => exact .inl rfl
    | ret => exact .inr rfl
  refine ⟨he, ?_⟩
  have h' : cond g.tup (cond (Nat.beq fn.results.toList.length 1) none (resL E s fn.results.toList g.r)) (match fn.results.toList with
    | [r] => resV E s g.r r
    | _ => none) = some y := by rcases he with rfl | rfl <;> exact h
  rw [results_eq]
  cases hg : g.tup with
  | true =>
    rw [hg, cond_true] at h'
    obtain ⟨h0, h'⟩ := cond_some h'
    rw [nbeq] at h0
    have h0 := of_decide_eq_false h0
    obtain ⟨us, q1, q2, q3⟩ := resL_ok hT hs _ _ _ h'
    refine ⟨.tuple us.toArray, ?_, .inr ⟨g.r, y, us.toArray, rfl, rfl, by simpa using q3⟩⟩
    have hne : ¬ us.length = 1 := by rw [q2]; exact h0
    simp [Array.mapM_eq_mapM_toList, q1, hne]
  | false =>
    rw [hg, cond_false] at h'
    split at h'
    · rename_i r hr
      obtain ⟨u, q1, q2⟩ := resV_ok hT hs h'
      refine ⟨u, ?_, .inl ⟨g.r, y, rfl, q2⟩⟩
      simp [Array.mapM_eq_mapM_toList, hr, q1]
    · cases h'
theorem getD_init {as : List AV} {us : Array Value} {w : World} {F : Nat → Prop} (h : ArgsOk w F as us.toList) (k t : Nat) (φ : Pl) (σ : Nat → Option Sh) : Ok φ σ F w (as.getD t .dead) ((us ++ Array.replicate k undef).getD t undef) := by
  rw [getD_pad]
  exact (args_init as us.toList h).2 φ σ t
theorem avs_length : ∀ (ts : List Ty) (x : (tyP ts).den), (avs ts x).length = ts.length
  | [], _ => rfl
  | t :: r, x => by simp [avs, avs_length r x.2]
/-- A FUNCTION: what the evaluator computes of its body is its contract. -/
theorem fun_ok (hT : Tabs E P) {l : List En} (hl : AllOk P l) {lB : List EnB} (hlB : AllBOk P lB) {f : Nat} {fn : Func} {c : Code} {g : Sg} {h : HT} {Λ : Lam} (hfn : P.funcs[f]? = some fn) (hb : fn.body = some c)
    (hn : fn.ntmps ≤ BOR) (hps : g.ps.length ≤ fn.ntmps) (hΛ : ∀ C : Ctx, C.n = fn.ntmps → LamOk P C Λ (loops c h)) {k : (tyP g.ps).den → Option g.r.den}
    (hk : ∀ x, semK E (orc l) (orcB lB) fn.ntmps (Λ _) c h (S.init (avs g.ps x)) (fin E fn g) = k x) : EnOk P ⟨f, g.ps, g.r, g.tup, k⟩ := by
  intro x y hy
  simp only at x y hy
  intro w vs F hF ha
  let C : Ctx := { w0 := w, F, bw := none, n := fn.ntmps, hF, hn }
  have hlen : vs.size = g.ps.length := by
    have := (args_init _ _ ha).1
    rw [← Array.length_toList, this]
    exact avs_length g.ps x
  have hk' := hk x
  rw [hy] at hk'
  refine calls_of_wp hfn hb ?_
  have hinit : SR C (S.init (avs g.ps x)) { tmps := vs ++ Array.replicate (fn.ntmps - vs.size) undef, defers := [] } w := ⟨fun _ => none, {
    defers := rfl, size := (by show (vs ++ Array.replicate (fn.ntmps - vs.size) undef).size = fn.ntmps; simp; omega), os := rfl, tape := rfl, output := rfl, grow := Nat.le_refl _, old := (fun _ _ _ => rfl),
    win := (fun _ _ _ h => by cases h), place := (fun _ _ _ _ _ h => by cases h), inj := (fun _ _ _ _ _ _ _ _ _ h => by cases h), blk := (fun _ _ h => by cases h),
    tmp := fun t => by
      have hO : ∀ b, OS C.F (fun _ => none) (S.init (avs g.ps x)) b → F b := fun b hb => hb.resolve_right fun ⟨_, _, _, _, h⟩ => by cases h
      have h1 := getD_init ha (fn.ntmps - vs.size) t (fun _ => none) (S.init (avs g.ps x)).sh
      exact h1.move (Fr.refl _ _) (fun b hb => .inl (hO b hb)) fun _ _ _ => ⟨rfl, rfl⟩ }⟩
  refine semK_ok (C := C) hT (orc_ok l hl) (orcB_ok lB hlB) c h _ _ (hΛ C rfl) hk' _ w hinit _ fun e s' a' w' h1 h2 => ?_
  obtain ⟨φ, h2⟩ := h2
  obtain ⟨he, u, q1, q2⟩ := fin_ok hT h2 h1
  have hsame : Same w w' := ⟨h2.os, h2.tape, h2.output, h2.grow, fun b hb => h2.old b hb fun _ _ h => by cases h⟩
  rcases he with rfl | rfl
  · exact ⟨h2.defers, u, q1, u, rfl, .inl q2, hsame⟩
  · exact ⟨h2.defers, u, q1, u, rfl, .inl q2, hsame⟩
theorem finN_ok {φ : Pl} {s : S} {a : Act} {w : World} (hs : SRp C φ s a w) {fn : Func} {k : IntKind} {e : Ex} {y : List Int} (h : finN fn (.int k) e s = some y) : (e = .normal ∨ e = .ret) ∧ ∃ u, (results fn a.tmps).run P w = .ok u w ∧ FreshRow C.w0.heap.size w C.F (.tup (.sl (.int k)) y) u := by
  have he : e = .normal ∨ e = .ret := by
    cases e with
    | exit i => cases h
    | normal => exact .inl rfl
    | ret => exact .inr rfl
  refine ⟨he, ?_⟩
  have h' : (match fn.results.toList with
    | [.tmp x] => match s.tm x with
      | .own d => cond (Nat.beq d BOR) none (match s.bk d with
        | some (.arr _ t' xs) => castT (.sl (.int k)) (t' := .sl t') xs
        | _ => none)
      | _ => none
    | _ => none) = some y := by rcases he with rfl | rfl <;> exact h
  split at h'
  rotate_left
  · cases h'
  rename_i x hr
  split at h'
  rotate_left
  · cases h'
  rename_i d hx
  obtain ⟨h0, h'⟩ := cond_some h'
  rw [nbeq] at h0
  have hbor := of_decide_eq_false h0
  split at h'
  rotate_left
  · cases h'
  rename_i et t' xs hb
  obtain ⟨e1, e2⟩ := castT_ok h'
  cases e1
  simp only at e2
  subst e2
  have g1 := hs.tmp x
  rw [hx] at g1
  obtain ⟨t2, n, ad, cap, p1, p2, p3, p4⟩ := g1
  simp only [S.sh, hb, Option.map_some, Blk.sh, Option.some.injEq, Sh.arr.injEq] at p1
  obtain ⟨rfl, rfl⟩ := p1
  rw [results_eq]
  refine ⟨a.tmps.getD x undef, by simp [Array.mapM_eq_mapM_toList, hr, resSem], k, xs, ad, cap, rfl, p2, p3, ?_⟩
  rcases p4 with ⟨q1, q2⟩ | ⟨b', o', z, q1, q2, q3⟩
  · obtain ⟨g2, g3⟩ := q2.resolve_left hbor
    subst g3
    exact .inl ⟨List.eq_nil_of_length_eq_zero (by omega), g2, rfl⟩
  · obtain ⟨rfl, q4, q5⟩ := q3.resolve_left hbor
    rcases hs.blk d _ hb with ⟨k1, _⟩ | ⟨b2, o2, z2, c2, el2, k1, k2, k3, k4, k5⟩
    · rw [k1] at q1; cases q1
    · rw [k1] at q1; cases q1
      have hpl := hs.place d _ _ _ (by rw [hb]; rfl) k1
      exact .inr ⟨b', c2, el2, (hpl.2.resolve_right fun h => hbor h.1).1, hpl.1, q2, k2, by rw [k3, q4]; simp [Ty.size], q5, rowAt_int (w := w) (O := OS C.F φ s) k5⟩
/-- The same of a function that gives a new row of numbers. -/
theorem funN_ok (hT : Tabs E P) {l : List En} (hl : AllOk P l) {lB : List EnB} (hlB : AllBOk P lB) {f : Nat} {fn : Func} {c : Code} {g : Sg} {h : HT} {Λ : Lam} {ki : IntKind} (hfn : P.funcs[f]? = some fn) (hb : fn.body = some c)
    (hn : fn.ntmps ≤ BOR) (hps : g.ps.length ≤ fn.ntmps) (hΛ : ∀ C : Ctx, C.n = fn.ntmps → LamOk P C Λ (loops c h)) {k : (tyP g.ps).den → Option (List Int)}
    (hk : ∀ x, semK E (orc l) (orcB lB) fn.ntmps (Λ _) c h (S.init (avs g.ps x)) (finN fn (.int ki)) = k x) : EnOk P ⟨f, g.ps, .sl (.int ki), true, k⟩ := by
  intro x y hy
  simp only at x y hy
  intro w vs F hF ha
  let C : Ctx := { w0 := w, F, bw := none, n := fn.ntmps, hF, hn }
  have hlen : vs.size = g.ps.length := by
    have := (args_init _ _ ha).1
    rw [← Array.length_toList, this]
    exact avs_length g.ps x
  have hk' := hk x
  rw [hy] at hk'
  refine calls_of_wp hfn hb ?_
  have hinit : SR C (S.init (avs g.ps x)) { tmps := vs ++ Array.replicate (fn.ntmps - vs.size) undef, defers := [] } w := ⟨fun _ => none, {
    defers := rfl, size := (by show (vs ++ Array.replicate (fn.ntmps - vs.size) undef).size = fn.ntmps; simp; omega), os := rfl, tape := rfl, output := rfl, grow := Nat.le_refl _, old := (fun _ _ _ => rfl),
    win := (fun _ _ _ h => by cases h), place := (fun _ _ _ _ _ h => by cases h), inj := (fun _ _ _ _ _ _ _ _ _ h => by cases h), blk := (fun _ _ h => by cases h),
    tmp := fun t => by
      have hO : ∀ b, OS C.F (fun _ => none) (S.init (avs g.ps x)) b → F b := fun b hb => hb.resolve_right fun ⟨_, _, _, _, h⟩ => by cases h
      have h1 := getD_init ha (fn.ntmps - vs.size) t (fun _ => none) (S.init (avs g.ps x)).sh
      exact h1.move (Fr.refl _ _) (fun b hb => .inl (hO b hb)) fun _ _ _ => ⟨rfl, rfl⟩ }⟩
  refine semK_ok (C := C) hT (orc_ok l hl) (orcB_ok lB hlB) c h _ _ (hΛ C rfl) hk' _ w hinit _ fun e s' a' w' h1 h2 => ?_
  obtain ⟨φ, h2⟩ := h2
  obtain ⟨he, u, q1, q2⟩ := finN_ok h2 h1
  have hsame : Same w w' := ⟨h2.os, h2.tape, h2.output, h2.grow, fun b hb => h2.old b hb fun _ _ h => by cases h⟩
  rcases he with rfl | rfl
  · exact ⟨h2.defers, u, q1, u, rfl, .inr q2, hsame⟩
  · exact ⟨h2.defers, u, q1, u, rfl, .inr q2, hsame⟩
end
end Go.Proofs.Ytbchgegclgpdhaa.E
