/- One operation of the evaluator is one operation of the model: what the tables must say, values and blocks. -/
import Derived.Test.YtbchgegclgpdhaaE2
import Derived.Laws.OwnMore
import Derived.Laws.CopyRow
import Derived.Laws.Externs
namespace Go.Proofs.Ytbchgegclgpdhaa.E
open Go
set_option linter.unusedVariables false
set_option linter.unusedSimpArgs false

def undOk (P : Program) (t : Nat) : Ty → Prop
  | .int k => P.underlying t = some (.int k)
  | .bool => P.underlying t = some .bool
  | .str => P.underlying t = some .string
  | .sl _ => ∃ e, P.underlying t = some (.slice e)
  | _ => ∃ fs, P.underlying t = some (.struct fs)
structure TyOk (P : Program) (t : Nat) (T : Ty) : Prop where
  info : ∃ i z, P.info? t = some i ∧ i.size = T.size ∧ i.zero = some z ∧ i.bytes ≤ 65536 ∧ ofVal T z.cells.toList = some (T.zero, [])
  und : undOk P t T
/-- What '==' gives at the structs of the table. -/
def EqOk (P : Program) (t : Nat) (T : Ty) : Prop :=
  ∀ (x y : T.den) (u v : Value) (w : World) (O : Nat → Prop), RepV w O T x u → RepV w O T y v → (Op.equal t u v).run P w = .ok (eqT T x y) w ∧ P.eqGuardType P.depth t = false
structure Tabs (E : Env) (P : Program) : Prop where
  ty : ∀ t T, find E.ty t = some T → TyOk P t T
  fl : ∀ t l, find E.fl t = some l → ∃ fs : Array Field, P.underlying t = some (.struct fs) ∧ fs.toList.map (fun f => (f.offset, f.type)) = l ∧ ∀ p ∈ l, (find E.ty p.2).isSome = true
  el : ∀ t e, find E.el t = some e → P.underlying t = some (.slice e)
  eqs : ∀ t T, has E.eqs t = true → find E.ty t = some T → EqOk P t T
  sg : ∀ f g, find E.sg f = some g → ∃ fn, P.funcs[f]? = some fn ∧ (fn.name == "runtime.NumGoroutine") = false ∧ fn.body.isSome = true
  mixed : P.follows .mixedOrders = true

/-- What a call hands over, and what it hands back. -/
def ArgsOk (w : World) (F : Nat → Prop) : List AV → List Value → Prop
  | [], us => us = []
  | a :: r, us => ∃ u l, us = u :: l ∧ (∃ t x, a = .v t x ∧ RepV w F t x u) ∧ ArgsOk w F r l
def ResOk (w : World) (F : Nat → Prop) (y : AV) (u : Value) : Prop := (∃ t x, y = .v t x ∧ RepV w F t x u) ∨ ∃ t x vs, y = .tup t x ∧ u = .tuple vs ∧ RepT w F t x vs.toList
structure Same (w w' : World) : Prop where
  os : w'.os = w.os
  tape : w'.tape = w.tape
  output : w'.output = w.output
  size : w.heap.size ≤ w'.heap.size
  block : ∀ b, b < w.heap.size → w'.heap[b]? = w.heap[b]?
/-- A row of cells holds a list. -/
def RowAt (w : World) (F : Nat → Prop) (c : Array Value) (s : Nat) (t : Ty) (xs : List t.den) : Prop :=
  ∀ i x, xs[i]? = some x → ∃ vs, vs.length = t.size ∧ RepC w F t x vs ∧ ∀ (j : Nat) (u : Value), vs[j]? = some u → c[s + i * t.size + j]? = some u
/-- A new row of numbers. -/
def FreshRow (n : Nat) (w : World) (F : Nat → Prop) (y : AV) (u : Value) : Prop :=
  ∃ (k : IntKind) (xs : List Int) (ad : Option Addr) (cap : Nat), y = .tup (.sl (.int k)) xs ∧ u = .slice ad xs.length cap ∧ xs.length ≤ cap ∧
    ((xs = [] ∧ ad = none ∧ cap = 0) ∨ ∃ b c el, n ≤ b ∧ b < w.heap.size ∧ ad = some ⟨b, 0, none⟩ ∧ w.heap[b]? = some (.cells c el (0, 0)) ∧ c.size = cap ∧ cap ≤ maxLen ∧ RowAt w F c 0 (.int k) xs)
def ResN (n : Nat) (w : World) (F : Nat → Prop) (y : AV) (u : Value) : Prop := ResOk w F y u ∨ FreshRow n w F y u
/-- On these values the function gives this. -/
def Meets (P : Program) (f : Nat) (as : List AV) (y : AV) : Prop :=
  ∀ (w : World) (vs : Array Value) (F : Nat → Prop), (∀ b, F b → b < w.heap.size) → ArgsOk w F as vs.toList →
    Calls P f vs w fun e w' => ∃ u, e = .returned u ∧ ResN w.heap.size w' F y u ∧ Same w w'
/-- The same of a function that writes into its first argument: a window of a row that may be written. -/
def MeetsB (P : Program) (f : Nat) (t : Ty) (xs : List t.den) (as : List AV) (y : AV) (ys : List t.den) : Prop :=
  ∀ (w : World) (u0 : Value) (vs : Array Value) (F : Nat → Prop), (∀ b, F b → b < w.heap.size) → ArgsOk w F as vs.toList →
    ((xs = [] ∧ (∃ ad cap, u0 = .slice ad 0 cap) →
      Calls P f (#[u0] ++ vs) w fun e w' => ys.length = xs.length ∧ ∃ u, e = .returned u ∧ ResOk w' F y u ∧ Same w w')) ∧
    (∀ b s c el cap, xs.length ≤ cap → u0 = .slice (some ⟨b, s, none⟩) xs.length cap → F b → w.heap[b]? = some (.cells c el (0, 0)) → RowAt w F c s t xs → s + xs.length * t.size ≤ c.size →
      Calls P f (#[u0] ++ vs) w fun e w' => ys.length = xs.length ∧ ∃ u, e = .returned u ∧ ResOk w' F y u ∧ w'.os = w.os ∧ w'.tape = w.tape ∧ w'.output = w.output ∧ w.heap.size ≤ w'.heap.size ∧
        (∀ b', b' < w.heap.size → b' ≠ b → w'.heap[b']? = w.heap[b']?) ∧
        ∃ c', w'.heap[b]? = some (.cells c' el (0, 0)) ∧ c'.size = c.size ∧ RowAt w' F c' s t ys ∧ ∀ o, o < s ∨ s + xs.length * t.size ≤ o → c'[o]? = c[o]?)
def OrcOk (P : Program) (E : Env) (ρ : Orc) : Prop :=
  ∀ (R : Type) (f : Nat) (as : List AV) (K : AV → Option R) (r : R), (find E.sg f).isSome = true → ρ R f as K = some r → ∃ y, Meets P f as y ∧ K y = some r
def OrcBOk (P : Program) (E : Env) (β : OrcB) : Prop :=
  ∀ (R : Type) (f : Nat) (t : Ty) (xs : List t.den) (as : List AV) (K : AV → Vw → Option R) (r : R), (find E.sg f).isSome = true → β R f (.v (.sl t) xs :: as) K = some r →
    ∃ y ys a, MeetsB P f t xs as y ys ∧ K y ⟨t, ys, a⟩ = some r

structure Agree (C : Ctx) (s s2 : S) (o : Oper) (e : Ev) : Prop where
  ev : ∀ x ∈ o.op.operands, s2.ev x = s.ev x
  bk : ∀ d ∈ e.rd, s2.bk d = s.bk d
  wr : ∀ d b, e.wr = some (d, b) → s2.bk d = s.bk d
  nb : ∀ b d, e.nb = some b → o.dst = some d → s2.bk d = none
  dst : ∀ d, o.dst = some d → d < C.n
/-- The operation does what the event says, in each state that agrees with s on what it looks at. -/
def EvOk (P : Program) (C : Ctx) (s : S) (o : Oper) (e : Ev) : Prop :=
  ∀ (s2 : S), Agree C s s2 o e → ∀ (φ : Pl) (a : Act) (w : World), SRp C φ s2 a w → ∀ (K : Act → World → Prop) (Q : Exit → Act → World → Prop),
    (∀ a' w', SR C (e.eff o.dst s2) a' w' → K a' w') → o.wp P a w K Q

theorem RepV.int {w : World} {O : Nat → Prop} {k : IntKind} {n : Int} {u : Value} (h : RepV w O (.int k) n u) : u = .int k n := by
  unfold RepV at h; rw [if_neg (by simp [Ty.agg])] at h
  simpa [RepC] using h
theorem RepV.bool {w : World} {O : Nat → Prop} {b : Bool} {u : Value} (h : RepV w O .bool b u) : u = .bool b := by
  unfold RepV at h; rw [if_neg (by simp [Ty.agg])] at h
  simpa [RepC] using h
theorem RepV.str {w : World} {O : Nat → Prop} {b : ByteArray} {u : Value} (h : RepV w O .str b u) : u = .string b := by
  unfold RepV at h; rw [if_neg (by simp [Ty.agg])] at h
  simpa [RepC] using h
theorem RepV.mk_int (w : World) (O : Nat → Prop) (k : IntKind) (n : Int) : RepV w O (.int k) n (.int k n) := (if_neg (by simp [Ty.agg])).mpr rfl
theorem RepV.mk_bool (w : World) (O : Nat → Prop) (b : Bool) : RepV w O .bool b (.bool b) := (if_neg (by simp [Ty.agg])).mpr rfl
theorem RepV.mk_str (w : World) (O : Nat → Prop) (b : ByteArray) : RepV w O .str b (.string b) := (if_neg (by simp [Ty.agg])).mpr rfl
theorem ev_ok {C : Ctx} {φ : Pl} {s : S} {a : Act} {w : World} (h : SRp C φ s a w) (x : Operand) : Ok φ s.sh (OS C.F φ s) w (s.ev x) (a.eval x) := by
  cases x with
  | tmp t => exact h.tmp t
  | const c => cases c with
    | int k n => exact RepV.mk_int _ _ _ _
    | bool b => exact RepV.mk_bool _ _ _
    | string b => exact RepV.mk_str _ _ _
    | _ => rfl
  | func f => rfl
  | global g => trivial
theorem RepV.cells {w : World} {O : Nat → Prop} {t : Ty} {x : t.den} {u : Value} (h : RepV w O t x u) : RepC w O t x u.cells.toList := by
  unfold RepV at h
  split at h
  · obtain ⟨cs, rfl, r⟩ := h; exact r
  · rename_i ht
    have : u.cells.toList = [u] := by
      cases t with
      | int k => simp only [RepC] at h; rw [List.cons.inj h |>.1]; rfl
      | bool => simp only [RepC] at h; rw [List.cons.inj h |>.1]; rfl
      | str => simp only [RepC] at h; rw [List.cons.inj h |>.1]; rfl
      | sl t => obtain ⟨ad, cap, e, _⟩ := h; rw [List.cons.inj e |>.1]; rfl
      | unit => exact absurd rfl ht
      | pair a b => exact absurd rfl ht
    rw [this]; exact h
theorem RepV.of_atom {w : World} {O : Nat → Prop} {t : Ty} {x : t.den} {u : Value} (ht : t.agg = false) (h : RepC w O t x [u]) : RepV w O t x u := by
  unfold RepV; rw [if_neg (by simp [ht])]; exact h
theorem RepV.of_agg {w : World} {O : Nat → Prop} {t : Ty} {x : t.den} {cs : Array Value} (ht : t.agg = true) (h : RepC w O t x cs.toList) : RepV w O t x (.agg cs) := by
  unfold RepV; rw [if_pos ht]; exact ⟨cs, rfl, h⟩

/-- A constant's cells. -/
theorem ofVal_rep (w : World) (O : Nat → Prop) : ∀ (t : Ty) (us : List Value) (x : t.den) (r : List Value), ofVal t us = some (x, r) → ∃ vs, us = vs ++ r ∧ RepC w O t x vs
  | .int k, us, x, r, h => by
    cases us with
    | nil => simp [ofVal] at h
    | cons u us => cases u <;> simp only [ofVal, reduceCtorEq] at h
                   split at h
                   · rename_i e; subst e; cases h; exact ⟨[_], rfl, rfl⟩
                   · cases h
  | .bool, us, x, r, h => by
    cases us with
    | nil => simp [ofVal] at h
    | cons u us => cases u <;> simp only [ofVal, reduceCtorEq] at h
                   cases h; exact ⟨[_], rfl, rfl⟩
  | .str, us, x, r, h => by
    cases us with
    | nil => simp [ofVal] at h
    | cons u us => cases u <;> simp only [ofVal, reduceCtorEq] at h
                   cases h; exact ⟨[_], rfl, rfl⟩
  | .unit, us, x, r, h => by
    simp only [ofVal, Option.some.injEq, Prod.mk.injEq] at h
    exact ⟨[], by simp [h.2], rfl⟩
  | .sl t, us, x, r, h => by
    cases us with
    | nil => simp [ofVal] at h
    | cons u us =>
      cases u with
      | slice ad n cap =>
        cases ad with
        | some _ => simp [ofVal] at h
        | none => cases n with
          | succ _ => simp [ofVal] at h
          | zero =>
            simp only [ofVal, Option.some.injEq, Prod.mk.injEq] at h
            obtain ⟨rfl, rfl⟩ := h
            exact ⟨[_], rfl, _, _, rfl, Nat.zero_le _, fun i x hx => by cases hx⟩
      | _ => simp [ofVal] at h
  | .pair a b, us, x, r, h => by
    simp only [ofVal] at h
    split at h
    · rename_i x1 l1 h1
      split at h
      · rename_i x2 l2 h2
        cases h
        obtain ⟨v1, e1, r1⟩ := ofVal_rep w O a _ _ _ h1
        obtain ⟨v2, e2, r2⟩ := ofVal_rep w O b _ _ _ h2
        exact ⟨v1 ++ v2, by rw [e1, e2, List.append_assoc], v1, v2, rfl, r1, r2⟩
      · cases h
    · cases h
theorem castT_ok {t t' : Ty} {x : t'.den} {y : t.den} (h : castT t x = some y) : ∃ e : t' = t, e ▸ x = y := by
  unfold castT at h
  split at h
  · rename_i e; exact ⟨e, Option.some.inj h⟩
  · cases h
theorem asTy_ok {φ : Pl} {σ : Nat → Option Sh} {w : World} {O : Nat → Prop} {t : Ty} {a : AV} {x : t.den} {u : Value} (h : asTy t a = some x) (ho : Ok φ σ O w a u) : RepV w O t x u := by
  cases a with
  | v t' y =>
    obtain ⟨e, h⟩ := castT_ok h
    subst e; subst h; exact ho
  | cst c =>
    have ho' : u = c := ho
    subst ho'
    have key : ∀ us, (match ofVal t us with | some (x, []) => some x | _ => none) = some x → RepC w O t x us := fun us h => by
      split at h
      · rename_i y hy
        cases h
        obtain ⟨vs, e, r⟩ := ofVal_rep w O t _ _ _ hy
        rw [e, List.append_nil]; exact r
      · cases h
    cases u <;> simp only [asTy] at h
    case agg cs =>
      cases ht : t.agg with
      | true => rw [ht] at h; exact RepV.of_agg ht (key _ h)
      | false => rw [ht] at h; cases h
    all_goals
      cases ht : t.agg with
      | true => rw [ht] at h; cases h
      | false => rw [ht] at h; exact RepV.of_atom ht (key _ h)
  | _ => cases h

section ops
variable {P : Program} {E : Env} {C : Ctx} {s : S} {o : Oper} {R : Type} {r : R}
theorem EvOk.val {av : AV} {rd : List Nat} (h : ∀ s2 φ a w, Agree C s s2 o { a := av, rd := rd } → SRp C φ s2 a w →
    ∃ u, (execOp a.eval o).run P w = .ok (.value u) w ∧ Ok φ s2.sh (OS C.F φ s2) w av u) : EvOk P C s o { a := av, rd := rd } := by
  intro s2 hag φ a w hs K Q hK
  obtain ⟨u, hr, ho⟩ := h s2 φ a w hag hs
  have he : (Ev.eff { a := av, rd := rd } o.dst s2) = s2.puto o.dst av := by cases o.dst <;> rfl
  unfold Oper.wp
  rw [hr]
  exact hK _ _ ⟨φ, by rw [he]; exact hs.puto hag.dst ho⟩
theorem move_ok {x : Operand} {K : Ev → Option R} (ho : o.op = .move x ∨ o.op = .assign x) (h : K { a := s.ev x } = some r) : ∃ e, EvOk P C s o e ∧ K e = some r :=
  ⟨_, EvOk.val fun s2 φ a w hag hs => ⟨a.eval x, by rcases ho with ho | ho <;> simp [execOp, ho], by
    have := ev_ok hs x
    rw [hag.ev x (by rcases ho with ho | ho <;> simp [ho, Op.operands])] at this
    exact this⟩, h⟩
theorem pick_ok {c x y : Operand} {K : Ev → Option R} (ho : o.op = .pick c x y) {b : Bool} (hc : s.ev c = .v .bool b)
    (h : cond b (K { a := s.ev x }) (K { a := s.ev y }) = some r) : ∃ e, EvOk P C s o e ∧ K e = some r := by
  refine ⟨{ a := cond b (s.ev x) (s.ev y) }, EvOk.val fun s2 φ a w hag hs => ⟨cond b (a.eval x) (a.eval y), ?_, ?_⟩, by cases b <;> exact h⟩
  · have h1 := ev_ok hs c
    rw [hag.ev c (by simp [ho, Op.operands]), hc] at h1
    have h1 := RepV.bool h1
    cases b <;> simp [execOp, ho, h1, asBool]
  · have hx := ev_ok hs x
    have hy := ev_ok hs y
    rw [hag.ev x (by simp [ho, Op.operands])] at hx
    rw [hag.ev y (by simp [ho, Op.operands])] at hy
    cases b
    · exact hy
    · exact hx
/-- A value that hangs on two numbers, bools, texts alone. -/
theorem val2_ok {av : AV} {x y : Operand} {ux uy : Value} {u : Value} {K : Ev → Option R} (hx : x ∈ o.op.operands) (hy : y ∈ o.op.operands)
    (ex : ∀ φ σ O w v, Ok φ σ O w (s.ev x) v → v = ux) (ey : ∀ φ σ O w v, Ok φ σ O w (s.ev y) v → v = uy)
    (hr : ∀ (ρ : Operand → Value) (w : World), ρ x = ux → ρ y = uy → (execOp ρ o).run P w = .ok (.value u) w)
    (hu : ∀ φ σ O w, Ok φ σ O w av u) (h : K { a := av } = some r) : ∃ e, EvOk P C s o e ∧ K e = some r :=
  ⟨_, EvOk.val fun s2 φ a w hag hs => ⟨u, hr _ w
    (by have := ev_ok hs x; rw [hag.ev x hx] at this; exact ex _ _ _ _ _ this)
    (by have := ev_ok hs y; rw [hag.ev y hy] at this; exact ey _ _ _ _ _ this), hu _ _ _ _⟩, h⟩
theorem val2_int {x y : Operand} {ux uy : Value} {k : IntKind} {n : Int} {K : Ev → Option R} (hx : x ∈ o.op.operands) (hy : y ∈ o.op.operands)
    (ex : ∀ φ σ O w v, Ok φ σ O w (s.ev x) v → v = ux) (ey : ∀ φ σ O w v, Ok φ σ O w (s.ev y) v → v = uy) (h : K { a := .v (.int k) n } = some r)
    (hr : ∀ (ρ : Operand → Value) (w : World), ρ x = ux → ρ y = uy → (execOp ρ o).run P w = .ok (.value (.int k n)) w) : ∃ e, EvOk P C s o e ∧ K e = some r :=
  val2_ok (av := .v (.int k) n) hx hy ex ey hr (fun _ _ _ _ => RepV.mk_int _ _ _ _) h
theorem val2_bool {x y : Operand} {ux uy : Value} {b : Bool} {K : Ev → Option R} (hx : x ∈ o.op.operands) (hy : y ∈ o.op.operands)
    (ex : ∀ φ σ O w v, Ok φ σ O w (s.ev x) v → v = ux) (ey : ∀ φ σ O w v, Ok φ σ O w (s.ev y) v → v = uy) (h : K { a := .v .bool b } = some r)
    (hr : ∀ (ρ : Operand → Value) (w : World), ρ x = ux → ρ y = uy → (execOp ρ o).run P w = .ok (.value (.bool b)) w) : ∃ e, EvOk P C s o e ∧ K e = some r :=
  val2_ok (av := .v .bool b) hx hy ex ey hr (fun _ _ _ _ => RepV.mk_bool _ _ _) h
theorem is_int {a : AV} {k : IntKind} {n : Int} (h : a = .v (.int k) n) : ∀ φ σ O w v, Ok φ σ O w a v → v = .int k n := by
  subst h; exact fun _ _ _ _ _ h => RepV.int h
theorem is_bool {a : AV} {b : Bool} (h : a = .v .bool b) : ∀ φ σ O w v, Ok φ σ O w a v → v = .bool b := by
  subst h; exact fun _ _ _ _ _ h => RepV.bool h
theorem is_str {a : AV} {b : ByteArray} (h : a = .v .str b) : ∀ φ σ O w v, Ok φ σ O w a v → v = .string b := by
  subst h; exact fun _ _ _ _ _ h => RepV.str h

theorem cond_some {b : Bool} {x : Option R} (h : cond b none x = some r) : b = false ∧ x = some r := by cases b <;> simp_all
theorem cond_some' {b : Bool} {x : Option R} (h : cond b x none = some r) : b = true ∧ x = some r := by cases b <;> simp_all

theorem int_ok {op : BinOp} {ty yt : Nat} {x y : Operand} {k : IntKind} {a b : Int} {K : Ev → Option R} (ho : o.op = .binOp op ty x y yt)
    (hx : s.ev x = .v (.int k) a) (hy : s.ev y = .v (.int k) b) (h : intK op k a b (fun v => K { a := v }) = some r)
    (h1 : op ≠ .shl) (h2 : op ≠ .shr) : ∃ e, EvOk P C s o e ∧ K e = some r := by
  have mx : x ∈ o.op.operands := by simp [ho, Op.operands]
  have my : y ∈ o.op.operands := by simp [ho, Op.operands]
  cases op <;> simp only [intK] at h <;> (try exact absurd rfl h1) <;> (try exact absurd rfl h2)
  case quo =>
    obtain ⟨h0, h⟩ := cond_some h
    exact val2_int mx my (is_int hx) (is_int hy) h fun ρ w e1 e2 => by
      simp only [decide_eq_false_iff_not] at h0
      simp [execOp, ho, e1, e2, eqGuard, binOp, Op.intDiv, h0]
  case rem =>
    obtain ⟨h0, h⟩ := cond_some h
    exact val2_int mx my (is_int hx) (is_int hy) h fun ρ w e1 e2 => by
      simp only [decide_eq_false_iff_not] at h0
      simp [execOp, ho, e1, e2, eqGuard, binOp, Op.intDiv, h0]
  case add => exact val2_int mx my (is_int hx) (is_int hy) h fun ρ w e1 e2 => by simp [execOp, ho, e1, e2, eqGuard, binOp, Op.intArith]
  case sub => exact val2_int mx my (is_int hx) (is_int hy) h fun ρ w e1 e2 => by simp [execOp, ho, e1, e2, eqGuard, binOp, Op.intArith]
  case mul => exact val2_int mx my (is_int hx) (is_int hy) h fun ρ w e1 e2 => by simp [execOp, ho, e1, e2, eqGuard, binOp, Op.intArith]
  case and => exact val2_int mx my (is_int hx) (is_int hy) h fun ρ w e1 e2 => by simp [execOp, ho, e1, e2, eqGuard, binOp, Op.intBits, andI]
  case or => exact val2_int mx my (is_int hx) (is_int hy) h fun ρ w e1 e2 => by simp [execOp, ho, e1, e2, eqGuard, binOp, Op.intBits, orI]
  case xor => exact val2_int mx my (is_int hx) (is_int hy) h fun ρ w e1 e2 => by simp [execOp, ho, e1, e2, eqGuard, binOp, Op.intBits, xorI]
  case andNot => exact val2_int mx my (is_int hx) (is_int hy) h fun ρ w e1 e2 => by simp [execOp, ho, e1, e2, eqGuard, binOp, Op.intBits, andNotI]
  case eql => exact val2_bool mx my (is_int hx) (is_int hy) h fun ρ w e1 e2 => by simp [execOp, ho, e1, e2, eqGuard, binOp, Op.intCmp]
  case neq => exact val2_bool mx my (is_int hx) (is_int hy) h fun ρ w e1 e2 => by simp [execOp, ho, e1, e2, eqGuard, binOp, Op.intCmp]
  case lss => exact val2_bool mx my (is_int hx) (is_int hy) h fun ρ w e1 e2 => by simp [execOp, ho, e1, e2, eqGuard, binOp, Op.intCmp]
  case leq => exact val2_bool mx my (is_int hx) (is_int hy) h fun ρ w e1 e2 => by simp [execOp, ho, e1, e2, eqGuard, binOp, Op.intCmp]
  case gtr => exact val2_bool mx my (is_int hx) (is_int hy) h fun ρ w e1 e2 => by simp [execOp, ho, e1, e2, eqGuard, binOp, Op.intCmp]
  case geq => exact val2_bool mx my (is_int hx) (is_int hy) h fun ρ w e1 e2 => by simp [execOp, ho, e1, e2, eqGuard, binOp, Op.intCmp]
end ops
end Go.Proofs.Ytbchgegclgpdhaa.E
