/- Operations on plain values: sums, comparisons, conversions, parts of results. -/
import Derived.Test.YtgbndganadelpaaGreatDoorYLocalmassStandard1
import Derived.Laws.Small
import Derived.Laws.StructEq
import Derived.Laws.BytesString
namespace Go.Proofs.YtgbndganadelpaaGreatDoor.E
open Go
set_option linter.unusedVariables false
set_option linter.unusedSimpArgs false
section ops
variable {P : Program} {E : Env} {C : Ctx} {s : S} {o : Oper} {R : Type} {r : R}
theorem val1_ok {av : AV} {x : Operand} {ux u : Value} {K : Ev → Option R} (hx : x ∈ o.op.operands)
    (ex : ∀ φ σ O w v, Ok φ σ O w (s.ev x) v → v = ux)
    (hr : ∀ (ρ : Operand → Value) (w : World), ρ x = ux → (execOp ρ o).run P w = .ok (.value u) w)
    (hu : ∀ φ σ O w, Ok φ σ O w av u) (h : K { a := av } = some r) : ∃ e, EvOk P C s o e ∧ K e = some r :=
  ⟨_, EvOk.val fun s2 φ a w hag hs => ⟨u, hr _ w (by have := ev_ok hs x; rw [hag.ev x hx] at this; exact ex _ _ _ _ _ this), hu _ _ _ _⟩, h⟩
theorem bin_ok (hT : Tabs E P) {op : BinOp} {ty yt : Nat} {x y : Operand} {K : Ev → Option R} (ho : o.op = .binOp op ty x y yt)
    (h : binK E op ty (s.ev x) (s.ev y) (fun a => K { a := a }) = some r) : ∃ e, EvOk P C s o e ∧ K e = some r := by
  have mx : x ∈ o.op.operands := by simp [ho, Op.operands]
  have my : y ∈ o.op.operands := by simp [ho, Op.operands]
  cases hx : s.ev x with
  | v t a =>
    cases hy : s.ev y with
    | v t' b =>
      rw [hx, hy] at h
      cases t with
      | int k =>
        cases t' with
        | int k' =>
          have hi : ∀ (h1 : op ≠ .shl) (h2 : op ≠ .shr), (if k = k' then intK op k a b (fun a => K { a := a }) else none) = some r → ∃ e, EvOk P C s o e ∧ K e = some r := by
            intro h1 h2 h
            split at h
            · rename_i e; subst e; exact int_ok ho hx hy h h1 h2
            · cases h
          cases op
          case shl =>
            simp only [binK] at h
            obtain ⟨h0, h⟩ := cond_some h
            simp only [decide_eq_false_iff_not] at h0
            exact val2_int mx my (is_int hx) (is_int hy) h fun ρ w e1 e2 => by simp [execOp, ho, e1, e2, eqGuard, binOp, Op.shift, h0, shlI]
          case shr =>
            simp only [binK] at h
            obtain ⟨h0, h⟩ := cond_some h
            simp only [decide_eq_false_iff_not] at h0
            exact val2_int mx my (is_int hx) (is_int hy) h fun ρ w e1 e2 => by simp [execOp, ho, e1, e2, eqGuard, binOp, Op.shift, h0, shrI]
          all_goals exact hi (by simp) (by simp) h
        | _ => simp [binK] at h
      | bool =>
        cases t' with
        | bool =>
          simp only [binK] at h
          split at h
          · rename_i hty
            have hu : P.underlying ty = some .bool := (hT.ty _ _ hty).und
            cases op <;> simp only [reduceCtorEq] at h
            · exact val2_bool mx my (is_bool hx) (is_bool hy) h fun ρ w e1 e2 => by simp [execOp, ho, e1, e2, eqGuard, binOp, run_equal_bool w ty a b hu]
            · exact val2_bool mx my (is_bool hx) (is_bool hy) h fun ρ w e1 e2 => by simp [execOp, ho, e1, e2, eqGuard, binOp, run_equal_bool w ty a b hu]
          · cases h
        | _ => simp [binK] at h
      | str =>
        cases t' with
        | str =>
          cases op <;> simp only [binK, reduceCtorEq] at h
          case add =>
            obtain ⟨h0, h⟩ := cond_some' h
            have h0 := of_decide_eq_true h0
            simp only [maxL] at h0
            refine val2_ok (av := .v .str (a ++ b)) (u := .string (a ++ b)) mx my (is_str hx) (is_str hy) (fun ρ w e1 e2 => ?_) (fun _ _ _ _ => RepV.mk_str _ _ _) h
            have h1 : (ByteArray.size a : Int) + ByteArray.size b ≤ 9223372036854775807 := by omega
            simp [execOp, ho, e1, e2, eqGuard, binOp, Op.stringOp, h1]
          case eql => exact val2_bool mx my (is_str hx) (is_str hy) h fun ρ w e1 e2 => by simp [execOp, ho, e1, e2, eqGuard, binOp, Op.stringOp]
          case neq => exact val2_bool mx my (is_str hx) (is_str hy) h fun ρ w e1 e2 => by simp [execOp, ho, e1, e2, eqGuard, binOp, Op.stringOp]
        | _ => simp [binK] at h
      | pair t u =>
        simp only [binK] at h
        split at h
        · rename_i b' t'' hc hf
          split at h
          · rename_i e
            subst e
            obtain ⟨e, hb⟩ := castT_ok hc
            subst e
            subst hb
            cases hh : has E.eqs ty with
            | false => rw [hh] at hf; cases hf
            | true =>
              rw [hh, cond_true] at hf
              have heq := hT.eqs ty _ hh hf
              have key : ∀ (f : Bool → Bool), (∀ (ρ : Operand → Value) (w : World) (cs ds : Array Value), ρ x = .agg cs → ρ y = .agg ds → P.eqGuardType P.depth ty = false →
                  (Op.equal ty (.agg cs) (.agg ds)).run P w = .ok (eqT (.pair t u) a b) w → (execOp ρ o).run P w = .ok (.value (.bool (f (eqT (.pair t u) a b)))) w) →
                  K { a := .v .bool (f (eqT (.pair t u) a b)) } = some r → ∃ e, EvOk P C s o e ∧ K e = some r := by
                intro f hr hk
                refine ⟨_, EvOk.val fun s2 φ ac w hag hs => ?_, hk⟩
                have h1 := ev_ok hs x
                have h2 := ev_ok hs y
                rw [hag.ev x mx, hx] at h1
                rw [hag.ev y my, hy] at h2
                obtain ⟨e1, e2⟩ := heq a b _ _ w _ h1 h2
                have g1 : RepV w (OS C.F φ s2) (.pair t u) a (ac.eval x) := h1
                have g2 : RepV w (OS C.F φ s2) (.pair t u) b (ac.eval y) := h2
                unfold RepV at g1 g2
                rw [if_pos (show (Ty.pair t u).agg = true from rfl)] at g1 g2
                obtain ⟨cs, c1, _⟩ := g1
                obtain ⟨ds, c2, _⟩ := g2
                rw [c1, c2] at e1
                exact ⟨.bool (f (eqT (.pair t u) a b)), hr _ w cs ds c1 c2 e2 e1, RepV.mk_bool _ _ _⟩
              cases op <;> simp only [reduceCtorEq] at h
              case eql => exact key id (fun ρ w cs ds e1 e2 hg he => by simp [execOp, ho, e1, e2, eqGuard, binOp, hg, he]) h
              case neq => exact key (!·) (fun ρ w cs ds e1 e2 hg he => by simp [execOp, ho, e1, e2, eqGuard, binOp, hg, he]) h
          · cases h
        · cases h
      | _ => simp [binK] at h
    | _ => rw [hx, hy] at h; cases t <;> simp [binK] at h
  | _ => rw [hx] at h; simp [binK] at h
theorem un_ok {op : UnOp} {ty : Nat} {x : Operand} {K : Ev → Option R} (ho : o.op = .unOp op ty x) (h : unK op (s.ev x) (fun a => K { a := a }) = some r) :
    ∃ e, EvOk P C s o e ∧ K e = some r := by
  have mx : x ∈ o.op.operands := by simp [ho, Op.operands]
  cases hx : s.ev x with
  | v t a =>
    rw [hx] at h
    cases t with
    | int k =>
      cases op <;> simp only [unK, reduceCtorEq] at h
      case neg => exact val1_ok (av := .v (.int k) _) mx (is_int hx) (fun ρ w e1 => by simp [execOp, ho, e1, Op.unary, Op.intArith]) (fun _ _ _ _ => RepV.mk_int _ _ _ _) h
      case xor => exact val1_ok (av := .v (.int k) _) mx (is_int hx) (fun ρ w e1 => by simp [execOp, ho, e1, Op.unary, Op.intBits]; rfl) (fun _ _ _ _ => RepV.mk_int _ _ _ _) h
    | bool =>
      cases op <;> simp only [unK, reduceCtorEq] at h
      case not => exact val1_ok (av := .v .bool _) mx (is_bool hx) (fun ρ w e1 => by simp [execOp, ho, e1, Op.unary]) (fun _ _ _ _ => RepV.mk_bool _ _ _) h
    | _ => cases op <;> simp [unK] at h
  | _ => rw [hx] at h; cases op <;> simp [unK] at h
theorem run_convert_int {src dst : Nat} {ks kd : IntKind} {k : IntKind} {n : Int} {w : World} (h1 : P.underlying src = some (.int ks)) (h2 : P.underlying dst = some (.int kd)) :
    (convert src dst (.int k n)).run P w = .ok (.int kd (kd.wrap n)) w := by
  simp [convert, run_underlying h1, run_underlying h2, Conv.intToInt]
theorem run_convert_str {src dst : Nat} {b : ByteArray} {w : World} (h1 : P.underlying src = some .string) (h2 : P.underlying dst = some .string) :
    (convert src dst (.string b)).run P w = .ok (.string b) w := by
  simp [convert, run_underlying h1, run_underlying h2]
theorem extract_ok : ∀ (T : Ty) (x : T.den) (i : Nat) (K : AV → Option R), exK T x i K = some r →
    ∃ t y, K (.v t y) = some r ∧ ∀ (w : World) (O : Nat → Prop) (us : List Value), RepT w O T x us → ∃ u, us[i]? = some u ∧ RepV w O t y u
  | .pair a b, x, 0, K, h => ⟨a, x.1, h, fun w O us hr => by obtain ⟨u, l, rfl, h1, _⟩ := hr; exact ⟨u, rfl, h1⟩⟩
  | .pair a b, x, n + 1, K, h => by
    obtain ⟨t, y, hk, hh⟩ := extract_ok b x.2 n K h
    exact ⟨t, y, hk, fun w O us hr => by obtain ⟨u, l, rfl, _, h2⟩ := hr; exact hh w O l h2⟩
  | .int _, _, _, _, h => by simp [exK] at h
  | .bool, _, _, _, h => by simp [exK] at h
  | .str, _, _, _, h => by simp [exK] at h
  | .unit, _, _, _, h => by simp [exK] at h
  | .sl _, _, _, _, h => by simp [exK] at h
theorem ext_ok {x : Operand} {i : Nat} {K : Ev → Option R} (ho : o.op = .extract x i) {T : Ty} {y : T.den} (hx : s.ev x = .tup T y)
    (h : exK T y i (fun a => K { a := a }) = some r) : ∃ e, EvOk P C s o e ∧ K e = some r := by
  obtain ⟨t, z, hk, hh⟩ := extract_ok T y i _ h
  refine ⟨_, EvOk.val fun s2 φ a w hag hs => ?_, hk⟩
  have h1 := ev_ok hs x
  rw [hag.ev x (by simp [ho, Op.operands]), hx] at h1
  obtain ⟨vs, e1, h1⟩ := h1
  obtain ⟨u, hu, hr⟩ := hh w _ _ h1
  exact ⟨u, by
    have : vs[i]? = some u := by simpa using hu
    simp [execOp, ho, e1, Instr.extract, this], hr⟩
theorem fn_ok {f : Nat} {first captured : Array Operand} {K : Ev → Option R} (ho : o.op = .makeFunc (.func f) first captured)
    (h : cond (first.toList.isEmpty && captured.toList.isEmpty) (K { a := .fn f }) none = some r) : ∃ e, EvOk P C s o e ∧ K e = some r := by
  obtain ⟨h0, h⟩ := cond_some' h
  simp only [Bool.and_eq_true, List.isEmpty_iff] at h0
  have e1 : first = #[] := by cases first; simp_all
  have e2 : captured = #[] := by cases captured; simp_all
  subst e1 e2
  exact ⟨{ a := .fn f }, EvOk.val fun s2 φ a w hag hs => ⟨.func (.func f) #[] #[], by simp [execOp, ho, Instr.makeFunc], rfl⟩, h⟩
theorem index_ok (hT : Tabs E P) {t : Nat} {x i : Operand} {K : Ev → Option R} (ho : o.op = .index t x i) {b : ByteArray} {k : IntKind} {n : Int}
    (hx : s.ev x = .v .str b) (hi : s.ev i = .v (.int k) n) (ht : find E.ty t = some .str)
    (h : cond (inB n b.size) (K { a := .v (.int .u8) ((b.get! n.toNat).toNat : Int) }) none = some r) : ∃ e, EvOk P C s o e ∧ K e = some r := by
  obtain ⟨h0, h⟩ := cond_some' h
  simp only [inB, Bool.and_eq_true, decide_eq_true_eq] at h0
  have hu : P.underlying t = some .string := (hT.ty _ _ ht).und
  have hn : n.toNat < b.size := by omega
  refine val2_int (by simp [ho, Op.operands]) (by simp [ho, Op.operands]) (is_str hx) (is_int hi) h fun ρ w e1 e2 => ?_
  have e3 : b[n.toNat]? = some (b.get! n.toNat) := by
    rw [getElem?_pos b n.toNat hn]
    congr 1
    cases b with
    | mk d => simp [ByteArray.get!, ByteArray.getElem_eq_getElem_data] ; rw [getElem!_pos d n.toNat hn]
  simp [execOp, ho, e1, e2, Instr.index, asIntOf, run_underlying hu, h0.1, e3]
theorem nil_ok {x : Operand} {K : Ev → Option R} (ho : o.op = .nilCheck x) (h : (match s.ev x with
    | .ptr d i off => K { a := .ptr d i off }
    | .ip t v off => K { a := .ip t v off }
    | _ => none) = some r) : ∃ e, EvOk P C s o e ∧ K e = some r := by
  have mx : x ∈ o.op.operands := by simp [ho, Op.operands]
  cases hx : s.ev x <;> rw [hx] at h <;> simp only [reduceCtorEq] at h
  · refine ⟨_, EvOk.val fun s2 φ a w hag hs => ?_, h⟩
    have h1 := ev_ok hs x
    rw [hag.ev x mx, hx] at h1
    refine ⟨a.eval x, ?_, h1⟩
    obtain ⟨b, o', z, _, ⟨t, m, _, _, e⟩ | ⟨_, _, e⟩⟩ := h1 <;> simp [execOp, ho, e]
  · refine ⟨_, EvOk.val fun s2 φ a w hag hs => ?_, h⟩
    have h1 := ev_ok hs x
    rw [hag.ev x mx, hx] at h1
    refine ⟨a.eval x, ?_, h1⟩
    obtain ⟨b, o', vs, e, _⟩ := h1
    simp [execOp, ho, e]
end ops
end Go.Proofs.YtgbndganadelpaaGreatDoor.E
/- Operations that read memory: slices, their elements, fields, whole structs. -/
namespace Go.Proofs.YtgbndganadelpaaGreatDoor.E
open Go
set_option linter.unusedVariables false
set_option linter.unusedSimpArgs false
/-- A list of cells. -/
def CellsOk (φ : Pl) (σ : Nat → Option Sh) (O : Nat → Prop) (w : World) : List AV → List Value → Prop
  | [], us => us = []
  | a :: r, us => ∃ u l, us = u :: l ∧ Ok φ σ O w a u ∧ CellsOk φ σ O w r l
section cells
variable {φ : Pl} {σ : Nat → Option Sh} {O : Nat → Prop} {w : World}
theorem CellsOk.append : ∀ {as_ bs : List AV} {us vs : List Value}, CellsOk φ σ O w as_ us → CellsOk φ σ O w bs vs → CellsOk φ σ O w (as_ ++ bs) (us ++ vs)
  | [], _, us, _, h, h' => by simp only [CellsOk] at h; subst h; exact h'
  | a :: r, _, us, _, h, h' => by obtain ⟨u, l, rfl, h1, h2⟩ := h; exact ⟨u, _, rfl, h1, h2.append h'⟩
theorem CellsOk.length : ∀ {as_ : List AV} {us : List Value}, CellsOk φ σ O w as_ us → us.length = as_.length
  | [], us, h => by simp only [CellsOk] at h; subst h; rfl
  | a :: r, us, h => by obtain ⟨u, l, rfl, _, h2⟩ := h; simp [h2.length]
theorem CellsOk.drop : ∀ {as_ : List AV} {us : List Value} (n : Nat), CellsOk φ σ O w as_ us → CellsOk φ σ O w (as_.drop n) (us.drop n)
  | _, _, 0, h => by simpa using h
  | [], us, n + 1, h => by simp only [CellsOk] at h; subst h; simp [CellsOk]
  | a :: r, us, n + 1, h => by obtain ⟨u, l, rfl, _, h2⟩ := h; simpa using h2.drop n
theorem CellsOk.take : ∀ {as_ : List AV} {us : List Value} (n : Nat), CellsOk φ σ O w as_ us → CellsOk φ σ O w (as_.take n) (us.take n)
  | _, _, 0, h => by simp [CellsOk]
  | [], us, n + 1, h => by simp only [CellsOk] at h; subst h; simp [CellsOk]
  | a :: r, us, n + 1, h => by obtain ⟨u, l, rfl, h1, h2⟩ := h; exact ⟨u, _, rfl, h1, h2.take n⟩
theorem CellsOk.at : ∀ {as_ : List AV} {us : List Value} {n : Nat} {a : AV}, CellsOk φ σ O w as_ us → as_[n]? = some a → ∃ u, us[n]? = some u ∧ Ok φ σ O w a u
  | [], us, n, a, h, e => by cases e
  | _ :: r, us, 0, a, h, e => by obtain ⟨u, l, rfl, h1, h2⟩ := h; cases e; exact ⟨u, rfl, h1⟩
  | _ :: r, us, n + 1, a, h, e => by obtain ⟨u, l, rfl, h1, h2⟩ := h; exact h2.at (n := n) e
theorem CellsOk.of : ∀ {as_ : List AV} {us : List Value}, us.length = as_.length → (∀ (j : Nat) (a : AV), as_[j]? = some a → ∃ u, us[j]? = some u ∧ Ok φ σ O w a u) → CellsOk φ σ O w as_ us
  | [], us, h, _ => by cases us with
    | nil => rfl
    | cons => cases h
  | a :: r, us, h, hh => by
    cases us with
    | nil => cases h
    | cons u l =>
      obtain ⟨u', e, h1⟩ := hh 0 a rfl
      cases e
      exact ⟨u, l, rfl, h1, CellsOk.of (by simpa using h) fun j a ha => hh (j + 1) a ha⟩
theorem toC_ok : ∀ (t : Ty) (x : t.den) (us : List Value), RepC w O t x us → CellsOk φ σ O w (toC t x) us
  | .unit, _, us, h => h
  | .pair a b, x, us, h => by
    obtain ⟨u1, u2, rfl, h1, h2⟩ := h
    exact (toC_ok a _ _ h1).append (toC_ok b _ _ h2)
  | .int k, x, us, h => by simp only [RepC] at h; subst h; exact ⟨_, [], rfl, RepV.mk_int _ _ _ _, rfl⟩
  | .bool, x, us, h => by simp only [RepC] at h; subst h; exact ⟨_, [], rfl, RepV.mk_bool _ _ _, rfl⟩
  | .str, x, us, h => by simp only [RepC] at h; subst h; exact ⟨_, [], rfl, RepV.mk_str _ _ _, rfl⟩
  | .sl t, x, us, h => by
    obtain ⟨ad, cap, rfl, h1⟩ := h
    exact ⟨_, [], rfl, RepV.of_sl ⟨ad, cap, rfl, h1⟩, rfl⟩
theorem toC_length : ∀ (t : Ty) (x : t.den), (toC t x).length = t.size
  | .unit, _ => rfl
  | .pair a b, x => by simp [toC, toC_length a, toC_length b, Ty.size]
  | .int _, _ => rfl
  | .bool, _ => rfl
  | .str, _ => rfl
  | .sl _, _ => rfl
theorem atomC_ok {t : Ty} (ht : t.agg = false) {cs : List AV} {us : List Value} {x : t.den} {rest : List AV} (h : atomC t cs = some (x, rest)) (hc : CellsOk φ σ O w cs us) :
    ∃ vs us', us = vs ++ us' ∧ RepC w O t x vs ∧ CellsOk φ σ O w rest us' := by
  cases cs with
  | nil => cases h
  | cons c r =>
    obtain ⟨u, l, rfl, h1, h2⟩ := hc
    simp only [atomC] at h
    split at h
    · rename_i y hy
      cases h
      have := asTy_ok hy h1
      unfold RepV at this
      rw [if_neg (by simp [ht])] at this
      exact ⟨[u], l, rfl, this, h2⟩
    · cases h
theorem ofC_ok : ∀ (t : Ty) (cs : List AV) (us : List Value) (x : t.den) (rest : List AV), ofC t cs = some (x, rest) → CellsOk φ σ O w cs us →
    ∃ vs us', us = vs ++ us' ∧ RepC w O t x vs ∧ CellsOk φ σ O w rest us'
  | .unit, cs, us, x, rest, h, hc => by
    simp only [ofC, Option.some.injEq, Prod.mk.injEq] at h
    exact ⟨[], us, rfl, rfl, h.2 ▸ hc⟩
  | .pair a b, cs, us, x, rest, h, hc => by
    simp only [ofC] at h
    split at h
    · rename_i x1 l1 h1
      split at h
      · rename_i x2 l2 h2
        cases h
        obtain ⟨v1, u1, rfl, r1, c1⟩ := ofC_ok a _ _ _ _ h1 hc
        obtain ⟨v2, u2, rfl, r2, c2⟩ := ofC_ok b _ _ _ _ h2 c1
        exact ⟨v1 ++ v2, u2, by rw [List.append_assoc], ⟨v1, v2, rfl, r1, r2⟩, c2⟩
      · cases h
    · cases h
  | .int k, _, _, _, _, h, hc => atomC_ok rfl h hc
  | .bool, _, _, _, _, h, hc => atomC_ok rfl h hc
  | .str, _, _, _, _, h, hc => atomC_ok rfl h hc
  | .sl t, _, _, _, _, h, hc => atomC_ok rfl h hc
/-- A part of the cells, read as_ a type. -/
theorem partC_ok {T : Ty} {cs : List AV} {off : Nat} {a : AV} {us : List Value} (h : partC T cs off = some a) (hc : CellsOk φ σ O w cs us) :
    ∃ vs, vs.length = T.size ∧ (∀ j u, vs[j]? = some u → us[off + j]? = some u) ∧
      ((T.agg = true ∧ Ok φ σ O w a (.agg vs.toArray)) ∨ (T.agg = false ∧ ∃ u, vs = [u] ∧ Ok φ σ O w a u)) := by
  cases ht : T.agg with
  | true =>
    simp only [partC, ht, cond_true] at h
    split at h
    · rename_i x rest hx
      cases h
      obtain ⟨vs, us', e, r, _⟩ := ofC_ok T _ _ _ _ hx (hc.drop off)
      refine ⟨vs, RepC.length _ _ _ r, fun j u hj => ?_, .inl ⟨rfl, RepV.of_agg ht (by simpa using r)⟩⟩
      rw [← List.getElem?_drop, e, List.getElem?_append_left (List.getElem?_eq_some_iff.1 hj).1]
      exact hj
    · cases h
  | false =>
    simp only [partC, ht, cond_false] at h
    obtain ⟨u, hu, ho⟩ := hc.at h
    refine ⟨[u], ?_, fun j v hj => ?_, .inr ⟨rfl, u, rfl, ho⟩⟩
    · cases T <;> first | rfl | cases ht
    · cases j with
      | zero => cases hj; exact hu
      | succ j => cases hj
end cells
section ops
variable {P : Program} {E : Env} {C : Ctx} {s : S} {o : Oper} {R : Type} {r : R}
theorem run_isAgg {t : Nat} {T : Ty} (h : TyOk P t T) (w : World) : (isAgg t).run P w = .ok T.agg w := by
  have hu := h.und
  cases T with
  | int k => have hu : P.underlying t = _ := hu; simp [isAgg, run_underlying hu, Ty.agg]
  | bool => have hu : P.underlying t = _ := hu; simp [isAgg, run_underlying hu, Ty.agg]
  | str => have hu : P.underlying t = _ := hu; simp [isAgg, run_underlying hu, Ty.agg]
  | sl t' => obtain ⟨e, hu⟩ := hu; simp [isAgg, run_underlying hu, Ty.agg]
  | unit => obtain ⟨e, hu⟩ := hu; simp [isAgg, run_underlying hu, Ty.agg]
  | pair a b => obtain ⟨e, hu⟩ := hu; simp [isAgg, run_underlying hu, Ty.agg]
theorem run_size {t : Nat} {T : Ty} (h : TyOk P t T) (w : World) : (sizeOf t).run P w = .ok T.size w := by
  obtain ⟨i, z, h1, h2, _⟩ := h.info
  simp [sizeOf, typeInfo, h1, h2]
theorem addr_add (b o j : Nat) : (⟨b, o, none⟩ : Addr).add j = ⟨b, o + j, none⟩ := by
  unfold Addr.add; split <;> simp_all
theorem run_load_at {t : Nat} {T : Ty} (h : TyOk P t T) {w : World} {b o : Nat} {vs : List Value} (hl : vs.length = T.size) (hc : cellsAt w b o vs) :
    (loadVar t ⟨b, o, none⟩).run P w = .ok (cond T.agg (.agg vs.toArray) (vs.headD undef)) w := by
  have hc' : ∀ j v, vs[j]? = some v → w.cell? ((⟨b, o, none⟩ : Addr).add j) = some v := fun j v hj => by rw [addr_add]; exact hc j v hj
  cases ht : T.agg with
  | true =>
    have hr := run_loadCells_list (P := P) w ⟨b, o, none⟩ vs hc'
    rw [hl] at hr
    simp [loadVar, run_isAgg h, ht, run_size h, hr]
  | false =>
    have h1 : T.size = 1 := by cases T <;> first | rfl | cases ht
    obtain ⟨u, rfl⟩ : ∃ u, vs = [u] := by
      cases vs with
      | nil => rw [h1] at hl; cases hl
      | cons u l => cases l with
        | nil => exact ⟨u, rfl⟩
        | cons _ _ => rw [h1] at hl; simp at hl
    have := hc 0 u rfl
    rw [Nat.add_zero] at this
    simp [loadVar, run_isAgg h, ht, run_load, this]
theorem blk_cells {φ : Pl} {a : Act} {w : World} (hs : SRp C φ s a w) {d : Nat} {cs : List AV} (hb : s.bk d = some (.box cs)) :
    ∃ b z c el, φ d = some (b, 0, z) ∧ w.heap[b]? = some (.cells c el (0, 0)) ∧ c.size = cs.length ∧ CellsOk φ s.sh (OS C.F φ s) w cs c.toList := by
  obtain ⟨b, z, c, el, h1, h2, h3, h4, h5⟩ := hs.blk d _ hb
  exact ⟨b, z, c, el, h1, h2, h4, CellsOk.of (by simpa using h4) fun j x hx => by
    obtain ⟨u, hu, ho⟩ := h5 j x hx
    exact ⟨u, by simpa using hu, ho⟩⟩
theorem load_ok (hT : Tabs E P) {t : Nat} {p : Operand} {K : Ev → Option R} (ho : o.op = .load t p) (h : ldK E s t (s.ev p) K = some r) : ∃ e, EvOk P C s o e ∧ K e = some r := by
  have mp : p ∈ o.op.operands := by simp [ho, Op.operands]
  unfold ldK at h
  split at h
  · cases h
  rename_i T hT'
  have hty := hT.ty _ _ hT'
  -- the read itself
  have key : ∀ {φ : Pl} {a : Act} {w : World} {s2 : S} {b o' : Nat} {us : List Value} {cs : List AV} {off : Nat} {av : AV}, a.eval p = .pointer (some ⟨b, o' + off, none⟩) → cellsAt w b o' us →
      CellsOk φ s2.sh (OS C.F φ s2) w cs us → partC T cs off = some av → ∃ u, (execOp a.eval o).run P w = .ok (.value u) w ∧ Ok φ s2.sh (OS C.F φ s2) w av u := by
    intro φ a w s2 b o' us cs off av hp hc hok hpart
    obtain ⟨vs, hl, hat, hv⟩ := partC_ok hpart hok
    have hc' : cellsAt w b (o' + off) vs := fun j u hj => by rw [Nat.add_assoc]; exact hc _ u (hat j u hj)
    have hr := run_load_at hty hl hc'
    rcases hv with ⟨e, hv⟩ | ⟨e, u, rfl, hv⟩
    · rw [e] at hr
      exact ⟨_, by simp [execOp, ho, Instr.loadAt, Instr.sureAddr, hp, hr], hv⟩
    · rw [e] at hr
      exact ⟨_, by simp [execOp, ho, Instr.loadAt, Instr.sureAddr, hp, hr], hv⟩
  cases hp : s.ev p with
  | ptr d i off =>
    rw [hp] at h
    simp only at h
    cases hb : s.bk d with
    | none => rw [hb] at h; cases h
    | some B =>
      rw [hb] at h
      cases B with
      | box cs =>
        simp only at h
        split at h
        · rename_i av hav
          refine ⟨_, EvOk.val fun s2 φ a w hag hs => ?_, h⟩
          have h1 := ev_ok hs p
          rw [hag.ev p mp, hp] at h1
          have hb2 : s2.bk d = some (.box cs) := by rw [hag.bk d (by simp), hb]
          obtain ⟨b, z, c, el, p1, p2, p3, p4⟩ := blk_cells hs hb2
          obtain ⟨b', o', z', e1, ⟨t', n, e2, _⟩ | ⟨_, _, e3⟩⟩ := h1
          · simp [S.sh, hb2, Blk.sh] at e2
          · rw [p1] at e1; cases e1
            rw [Nat.zero_add] at e3
            have := row_cells (o := 0) (vs := c.toList) p2 (fun j u hj => by simpa using hj)
            exact key (o' := 0) (by rw [e3, Nat.zero_add]) this p4 hav
        · cases h
      | arr et t' xs =>
        simp only at h
        split at h
        · rename_i av hav
          refine ⟨_, EvOk.val fun s2 φ a w hag hs => ?_, h⟩
          have h1 := ev_ok hs p
          rw [hag.ev p mp, hp] at h1
          have hb2 : s2.bk d = some (.arr et t' xs) := by rw [hag.bk d (by simp), hb]
          obtain ⟨b', o', z', e1, ⟨t2, n, e2, e3, e4⟩ | ⟨e2, _⟩⟩ := h1
          · simp [S.sh, hb2, Blk.sh] at e2
            obtain ⟨rfl, rfl⟩ := e2
            rcases hs.blk d _ hb2 with ⟨g1, _⟩ | ⟨b, o2, z, c, el, g1, g2, _, _, g5⟩
            · rw [g1] at e1; cases e1
            · rw [g1] at e1; cases e1
              obtain ⟨vs, _, hr, hc⟩ := g5 i xs[i] (List.getElem?_eq_getElem e3)
              have hx : xs.getD i t'.zero = xs[i] := by simp [List.getD, e3]
              rw [hx] at hav
              exact key e4 (row_cells g2 fun j u hj => hc j u hj) (toC_ok _ _ _ hr) hav
          · simp [S.sh, hb2, Blk.sh] at e2
        · cases h
  | ip t' x off =>
    rw [hp] at h
    simp only at h
    split at h
    · rename_i av hav
      refine ⟨_, EvOk.val fun s2 φ a w hag hs => ?_, h⟩
      have h1 := ev_ok hs p
      rw [hag.ev p mp, hp] at h1
      obtain ⟨b, o', vs, e1, _, _, hc, hr⟩ := h1
      exact key e1 hc (toC_ok _ _ _ hr) hav
    · cases h
  | _ => rw [hp] at h; cases h
/-- What a known slice is in the model. -/
def ViewOk (w : World) (O : Nat → Prop) (V : Vw) (u : Value) : Prop :=
  ∃ ad cap, u = .slice ad V.xs.length cap ∧ V.xs.length ≤ cap ∧
    ∀ i x, V.xs[i]? = some x → ∃ b o vs, ad = some ⟨b, o, none⟩ ∧ b < w.heap.size ∧ (V.at_ = none → ¬ O b) ∧ cellsAt w b (o + i * V.t.size) vs ∧ RepC w O V.t x vs
theorem view_agree {s2 : S} {x : AV} {V : Vw} (h : s.view x = some V) (hb : ∀ d ∈ V.rd, s2.bk d = s.bk d) : s2.view x = some V := by
  cases x with
  | v t x => cases t <;> exact h
  | own d =>
    simp only [S.view] at h ⊢
    cases hd : s.bk d with
    | none => rw [hd] at h; cases h
    | some B => cases B with
      | box _ => rw [hd] at h; cases h
      | arr et t xs =>
        rw [hd] at h
        cases h
        rw [hb d (by simp [Vw.rd]), hd]
  | osl d off len =>
    simp only [S.view] at h ⊢
    cases hd : s.bk d with
    | none => rw [hd] at h; cases h
    | some B => cases B with
      | box _ => rw [hd] at h; cases h
      | arr et t xs =>
        rw [hd] at h
        cases h
        rw [hb d (by simp [Vw.rd]), hd]
  | _ => exact h
theorem arr_rows {φ : Pl} {a : Act} {w : World} (hs : SRp C φ s a w) {d et : Nat} {t : Ty} {xs : List t.den} (hb : s.bk d = some (.arr et t xs)) :
    ∀ i x, xs[i]? = some x → ∃ b o z vs, φ d = some (b, o, z) ∧ b < w.heap.size ∧ cellsAt w b (o + i * t.size) vs ∧ RepC w (OS C.F φ s) t x vs := by
  intro i x hx
  rcases hs.blk d _ hb with ⟨_, h2⟩ | ⟨b, o, z, c, el, h1, h2, h3, h4, h5⟩
  · subst h2; cases hx
  · obtain ⟨vs, _, r, hc⟩ := h5 i x hx
    exact ⟨b, o, z, vs, h1, (hs.place d b o z (by rw [hb]; rfl) h1).1, row_cells h2 (fun j u hj => hc j u hj), r⟩
theorem view_ok {φ : Pl} {a : Act} {w : World} (hs : SRp C φ s a w) {x : AV} {V : Vw} {u : Value} (h : s.view x = some V) (ho : Ok φ s.sh (OS C.F φ s) w x u) : ViewOk w (OS C.F φ s) V u := by
  cases x with
  | v t x =>
    cases t with
    | sl t =>
      cases h
      have ho : RepV w (OS C.F φ s) (.sl t) x u := ho
      unfold RepV at ho
      rw [if_neg (by simp [Ty.agg])] at ho
      obtain ⟨ad, cap, e, hl, hh⟩ := ho
      refine ⟨ad, cap, (List.cons.inj e).1, hl, fun i y hy => ?_⟩
      obtain ⟨b, o, vs, e1, e2, e3, e4, e5⟩ := hh i y hy
      exact ⟨b, o, vs, e1, e3, fun _ => e2, e4, e5⟩
    | _ => cases h
  | own d =>
    simp only [S.view] at h
    cases hd : s.bk d with
    | none => rw [hd] at h; cases h
    | some B => cases B with
      | box _ => rw [hd] at h; cases h
      | arr et t xs =>
        rw [hd] at h
        cases h
        obtain ⟨t', n, ad, cap, h1, h2, h3, h4⟩ := ho
        simp only [S.sh, hd, Option.map_some, Blk.sh, Option.some.injEq, Sh.arr.injEq] at h1
        obtain ⟨rfl, rfl⟩ := h1
        refine ⟨ad, cap, h2, h3, fun i y hy => ?_⟩
        obtain ⟨b, o, z, vs, g1, g2, g3, g4⟩ := arr_rows hs hd i y hy
        rcases h4 with ⟨e, _⟩ | ⟨b', s', z', e1, e2, _⟩
        · rw [e] at g1; cases g1
        · rw [g1] at e1; cases e1
          exact ⟨b, o, vs, e2, g2, (fun e => by cases e), g3, g4⟩
  | osl d off len =>
    simp only [S.view] at h
    cases hd : s.bk d with
    | none => rw [hd] at h; cases h
    | some B => cases B with
      | box _ => rw [hd] at h; cases h
      | arr et t xs =>
        rw [hd] at h
        cases h
        obtain ⟨t', n, ad, cap, h1, hle, h2, h3, h4⟩ := ho
        simp only [S.sh, hd, Option.map_some, Blk.sh, Option.some.injEq, Sh.arr.injEq] at h1
        obtain ⟨rfl, rfl⟩ := h1
        have hlen : ((xs.drop off).take len).length = len := by simp; omega
        refine ⟨ad, cap, by rw [hlen]; exact h2, by rw [hlen]; exact h3, fun i y hy => ?_⟩
        have hi : i < len := Nat.lt_of_lt_of_eq (List.getElem?_eq_some_iff.1 hy).1 hlen
        have hy' : xs[off + i]? = some y := by
          have hy : ((xs.drop off).take len)[i]? = some y := hy
          rw [List.getElem?_take, if_pos hi, List.getElem?_drop] at hy
          exact hy
        obtain ⟨b, o, z, vs, g1, g2, g3, g4⟩ := arr_rows hs hd _ y hy'
        obtain ⟨b', o', z', e1, e2⟩ := h4 (by omega)
        rw [g1] at e1; cases e1
        refine ⟨b, _, vs, e2, g2, (fun e => by cases e), ?_, g4⟩
        rw [Nat.add_mul, ← Nat.add_assoc] at g3
        exact g3
  | _ => cases h
/-- Where a slice of a block lies. -/
theorem view_at {φ : Pl} {a : Act} {w : World} (hs : SRp C φ s a w) {x : AV} {t : Ty} {xs : List t.den} {d off : Nat} {u : Value} (h : s.view x = some ⟨t, xs, some (d, off)⟩) (ho : Ok φ s.sh (OS C.F φ s) w x u) :
    ∃ n, s.sh d = some (.arr t n) ∧ off + xs.length ≤ n ∧ ∃ ad cap, u = .slice ad xs.length cap ∧ xs.length ≤ cap ∧ (xs.length ≠ 0 → ∃ b o z, φ d = some (b, o, z) ∧ ad = some ⟨b, o + off * t.size, none⟩) := by
  cases x with
  | v t x => cases t <;> cases h
  | own d =>
    simp only [S.view] at h
    cases hd : s.bk d with
    | none => rw [hd] at h; cases h
    | some B => cases B with
      | box _ => rw [hd] at h; cases h
      | arr et t xs =>
        rw [hd] at h
        cases h
        obtain ⟨t', n, ad, cap, h1, h2, h3, h4⟩ := ho
        simp only [S.sh, hd, Option.map_some, Blk.sh, Option.some.injEq, Sh.arr.injEq] at h1
        obtain ⟨rfl, rfl⟩ := h1
        refine ⟨xs.length, by simp only [S.sh, hd, Option.map_some, Blk.sh], by omega, ad, cap, h2, h3, fun hne => ?_⟩
        rcases h4 with ⟨e, h5⟩ | ⟨b', s', z', e1, e2, _⟩
        · rcases hs.blk _ _ hd with ⟨_, g2⟩ | ⟨b, o, z, c, el, g1, _⟩
          · subst g2; exact absurd rfl hne
          · rw [e] at g1; cases g1
        · exact ⟨b', s', z', e1, by rw [e2]; simp⟩
  | osl d off len =>
    simp only [S.view] at h
    cases hd : s.bk d with
    | none => rw [hd] at h; cases h
    | some B => cases B with
      | box _ => rw [hd] at h; cases h
      | arr et t xs =>
        rw [hd] at h
        cases h
        obtain ⟨t', n, ad, cap, h1, hle, h2, h3, h4⟩ := ho
        simp only [S.sh, hd, Option.map_some, Blk.sh, Option.some.injEq, Sh.arr.injEq] at h1
        obtain ⟨rfl, rfl⟩ := h1
        have hlen : ((xs.drop off).take len).length = len := by simp; omega
        refine ⟨xs.length, by simp only [S.sh, hd, Option.map_some, Blk.sh], by rw [hlen]; exact hle, ad, cap, by rw [hlen]; exact h2, by rw [hlen]; exact h3, fun hne => h4 (by rw [hlen] at hne; exact hne)⟩
  | _ => cases h
theorem len_ok (hT : Tabs E P) {c : Call} {x : Operand} {t : Nat} {K : Ev → Option R} (ho : o.op = .call c) (hc : c.callee = .builtin .len) (hx : c.args.toList = [x]) (ht : c.argTypes.toList = [t])
    (h : (match s.view (s.ev x) with
      | some w => cond (find E.el t).isSome (K { a := .v (.int .i64) (w.xs.length : Int), rd := w.rd }) none
      | none => match s.ev x, find E.ty t with
        | .v .str b, some .str => K { a := .v (.int .i64) (b.size : Int) }
        | _, _ => none) = some r) : ∃ e, EvOk P C s o e ∧ K e = some r := by
  have ea : c.args = #[x] := by rw [← hx, Array.toArray_toList]
  have et : c.argTypes = #[t] := by rw [← ht, Array.toArray_toList]
  have mx : x ∈ o.op.operands := by simp [ho, Op.operands, Call.operands, hc, ea]
  split at h
  · rename_i V hv
    obtain ⟨h0, h⟩ := cond_some' h
    obtain ⟨e, he⟩ := Option.isSome_iff_exists.1 h0
    have hu := hT.el _ _ he
    refine ⟨_, EvOk.val fun s2 φ a w hag hs => ?_, h⟩
    have h1 := ev_ok hs x
    rw [hag.ev x mx] at h1
    obtain ⟨ad, cap, e1, _⟩ := view_ok hs (view_agree hv fun d hd => hag.bk d hd) h1
    exact ⟨.int .i64 V.xs.length, by simp [execOp, ho, resolve, hc, ea, et, invoke, builtin, Builtin.len_, e1, run_underlying hu, goInt], RepV.mk_int _ _ _ _⟩
  · split at h
    · rename_i b hx2 he
      have hu : P.underlying t = some .string := (hT.ty _ _ he).und
      exact val1_ok (av := .v (.int .i64) (b.size : Int)) mx (is_str hx2) (fun ρ w e1 => by simp [execOp, ho, resolve, hc, ea, et, invoke, builtin, Builtin.len_, e1, run_underlying hu, goInt]) (fun _ _ _ _ => RepV.mk_int _ _ _ _) h
    · cases h
theorem elT_some (hT : Tabs E P) {t : Nat} {T : Ty} (h : elT E t = some T) : ∃ e, P.underlying t = some (.slice e) ∧ TyOk P e T := by
  unfold elT at h
  split at h
  · rename_i e he; exact ⟨e, hT.el _ _ he, hT.ty _ _ h⟩
  · cases h
theorem ix_ok (hT : Tabs E P) {t : Nat} {x i : Operand} {K : Ev → Option R} (ho : o.op = .indexAddr t x i) (h : ixK E t s (s.ev x) (s.ev i) K = some r) : ∃ e, EvOk P C s o e ∧ K e = some r := by
  have mx : x ∈ o.op.operands := by simp [ho, Op.operands]
  have mi : i ∈ o.op.operands := by simp [ho, Op.operands]
  unfold ixK at h
  split at h
  · rename_i G hG
    unfold ixGK at h
    split at h
    · rename_i k n hi
      obtain ⟨h9, h⟩ := cond_some' h
      rw [nbeq] at h9
      have h9 := of_decide_eq_true h9
      obtain ⟨h0, h⟩ := cond_some' h
      simp only [inB, Bool.and_eq_true, decide_eq_true_eq] at h0
      have hn : n.toNat < List.length G.xs := by omega
      obtain ⟨g, hx, hfind⟩ : ∃ g, s.ev x = .cst (.pointer (some ⟨g, 0, none⟩)) ∧ find gl g = some G := by
        unfold glAt at hG
        split at hG
        · exact ⟨_, by assumption, hG⟩
        · cases hG
      obtain ⟨hu, hty⟩ := hT.gl g G hfind
      refine ⟨_, EvOk.val fun s2 φ a w hag hs => ?_, h⟩
      have h1 := ev_ok hs x
      have h2 := ev_ok hs i
      rw [hag.ev x mx, hx] at h1
      rw [hag.ev i mi, hi] at h2
      obtain ⟨q1, q2, q3⟩ := hs.hf.gl g G hfind
      obtain ⟨vs, e1, e2, e3⟩ := q3 n.toNat G.xs[n.toNat] (List.getElem?_eq_getElem hn)
      have hxs : G.xs.getD n.toNat G.T.zero = G.xs[n.toNat] := by simp [List.getD, hn]
      have h1 : a.eval x = .pointer (some ⟨g, 0, none⟩) := h1
      have hadd := addr_add g 0 (n.toNat * G.T.size)
      rw [Nat.zero_add] at hadd
      refine ⟨.pointer (some ⟨g, n.toNat * G.T.size, none⟩), ?_, ?_⟩
      · simp [execOp, ho, Instr.indexAt, Instr.sureAddr, h1, RepV.int h2, asIntOf, ← h9, run_underlying hu, h0, run_size hty, hadd]
      · rw [hxs]
        exact ⟨g, _, vs, rfl, q1, q2, e2, e3⟩
    · cases h
  split at h
  · rename_i k n hi
    split at h
    · rename_i T xs at_ hv
      split at h
      · rename_i hel
        obtain ⟨e, hu, hty⟩ := elT_some hT hel
        obtain ⟨h0, h⟩ := cond_some' h
        simp only [inB, Bool.and_eq_true, decide_eq_true_eq] at h0
        have hn : n.toNat < List.length xs := by omega
        have hrun : ∀ {a : Act} {w : World} {b o' cap : Nat}, a.eval x = .slice (some ⟨b, o', none⟩) (List.length xs) cap → a.eval i = .int k n →
            (execOp a.eval o).run P w = .ok (.value (.pointer (some ⟨b, o' + n.toNat * T.size, none⟩))) w := by
          intro a w b o' cap e1 e2
          have := addr_add b o' (n.toNat * T.size)
          simp [execOp, ho, Instr.indexAt, e1, e2, asIntOf, run_underlying hu, h0, run_size hty, this]
        cases at_ with
        | some p =>
          obtain ⟨d, off⟩ := p
          simp only at h
          refine ⟨_, EvOk.val fun s2 φ a w hag hs => ?_, h⟩
          have h1 := ev_ok hs x
          have h2 := ev_ok hs i
          rw [hag.ev x mx] at h1
          rw [hag.ev i mi, hi] at h2
          have hv2 := view_agree hv fun d' hd' => hag.bk d' hd'
          obtain ⟨m, g1, g2, ad, cap, g3, _, g4⟩ := view_at hs hv2 h1
          obtain ⟨b, o', z, g5, rfl⟩ := g4 (by omega)
          refine ⟨_, hrun g3 (RepV.int h2), b, o', z, g5, .inl ⟨T, m, g1, by omega, ?_⟩⟩
          rw [Nat.add_mul, Nat.add_zero, ← Nat.add_assoc]
        | none =>
          simp only at h
          refine ⟨_, EvOk.val fun s2 φ a w hag hs => ?_, h⟩
          have h1 := ev_ok hs x
          have h2 := ev_ok hs i
          rw [hag.ev x mx] at h1
          rw [hag.ev i mi, hi] at h2
          have hv2 := view_agree (s2 := s2) hv fun d' hd' => by simp [Vw.rd] at hd'
          obtain ⟨ad, cap, g1, _, g2⟩ := view_ok hs hv2 h1
          obtain ⟨b, o', vs, rfl, g3, g4, g5, g6⟩ := g2 n.toNat xs[n.toNat] (List.getElem?_eq_getElem hn)
          have hx : xs.getD n.toNat T.zero = xs[n.toNat] := by simp [List.getD, hn]
          refine ⟨_, hrun g1 (RepV.int h2), ?_⟩
          rw [hx]
          exact ⟨b, _, vs, rfl, g4 rfl, g3, g5, g6⟩
      · cases h
    · cases h
  · cases h
theorem fl_some (hT : Tabs E P) {t f off ft : Nat} {fs : List (Nat × Nat)} (h1 : find E.fl t = some fs) (h2 : fs[f]? = some (off, ft)) :
    ∃ (F : Array Field) (fd : Field), P.underlying t = some (.struct F) ∧ F[f]? = some fd ∧ fd.offset = off ∧ fd.type = ft := by
  obtain ⟨F, e1, e2, _⟩ := hT.fl _ _ h1
  rw [← e2, List.getElem?_map, Option.map_eq_some_iff] at h2
  obtain ⟨fd, h3, h4⟩ := h2
  cases h4
  exact ⟨F, fd, e1, by simpa using h3, rfl, rfl⟩
theorem fieldAddr_ok (hT : Tabs E P) {t f : Nat} {x : Operand} {K : Ev → Option R} (ho : o.op = .fieldAddr t x f) (h : fieldAddrK E t (s.ev x) f K = some r) : ∃ e, EvOk P C s o e ∧ K e = some r := by
  have mx : x ∈ o.op.operands := by simp [ho, Op.operands]
  unfold fieldAddrK at h
  split at h
  · rename_i fs hfs
    split at h
    · rename_i off ft hf
      obtain ⟨F, fd, hu, hF, rfl, rfl⟩ := fl_some hT hfs hf
      split at h
      · rename_i Tf hTf
        have hty := hT.ty _ _ hTf
        obtain ⟨h0, h⟩ := cond_some h
        have hsz : ¬ Tf.size = 0 := fun e => by rw [e] at h0; cases h0
        have hrun : ∀ {a : Act} {w : World} {b o' : Nat}, a.eval x = .pointer (some ⟨b, o', none⟩) → (execOp a.eval o).run P w = .ok (.value (.pointer (some ⟨b, o' + fd.offset, none⟩))) w := by
          intro a w b o' e1
          have := addr_add b o' fd.offset
          simp [execOp, ho, Instr.fieldAt, Instr.sureAddr, e1, run_underlying hu, hF, fieldPlace, run_size hty, hsz, this]
        cases hx : s.ev x <;> rw [hx] at h <;> simp only [reduceCtorEq] at h
        · refine ⟨_, EvOk.val fun s2 φ a w hag hs => ?_, h⟩
          have h1 := ev_ok hs x
          rw [hag.ev x mx, hx] at h1
          obtain ⟨b, o', z, e1, ⟨T, n, e2, e3, e4⟩ | ⟨e2, e3, e4⟩⟩ := h1
          · exact ⟨_, hrun e4, b, o', z, e1, .inl ⟨T, n, e2, e3, by rw [Nat.add_assoc]⟩⟩
          · exact ⟨_, hrun e4, b, o', z, e1, .inr ⟨e2, e3, by rw [Nat.add_assoc]⟩⟩
        · refine ⟨_, EvOk.val fun s2 φ a w hag hs => ?_, h⟩
          have h1 := ev_ok hs x
          rw [hag.ev x mx, hx] at h1
          obtain ⟨b, o', vs, e1, e2, e3, e4, e5⟩ := h1
          exact ⟨_, hrun e1, b, o', vs, by rw [Nat.add_assoc], e2, e3, e4, e5⟩
      · cases h
    · cases h
  · cases h
theorem field_ok (hT : Tabs E P) {t f : Nat} {x : Operand} {K : Ev → Option R} (ho : o.op = .field t x f) (h : fieldK E t (s.ev x) f K = some r) : ∃ e, EvOk P C s o e ∧ K e = some r := by
  have mx : x ∈ o.op.operands := by simp [ho, Op.operands]
  unfold fieldK at h
  split at h
  · rename_i fs T v hfs hx
    split at h
    · rename_i off ft T' hf hT'
      obtain ⟨F, fd, hu, hF, rfl, rfl⟩ := fl_some hT hfs hf
      split at h
      · rename_i e
        subst e
        split at h
        · rename_i Tf hTf
          split at h
          · rename_i av hav
            have hty := hT.ty _ _ hTf
            refine ⟨_, EvOk.val fun s2 φ a w hag hs => ?_, h⟩
            have h1 := ev_ok hs x
            rw [hag.ev x mx, hx] at h1
            have hagg : T'.agg = true := by
              have := (hT.ty _ _ hT').und
              cases T' with
              | int k => have h2 : P.underlying t = _ := this; rw [hu] at h2; cases h2
              | bool => have h2 : P.underlying t = _ := this; rw [hu] at h2; cases h2
              | str => have h2 : P.underlying t = _ := this; rw [hu] at h2; cases h2
              | sl _ => obtain ⟨_, h2⟩ := this; rw [hu] at h2; cases h2
              | unit => rfl
              | pair _ _ => rfl
            have h1' : RepV w (OS C.F φ s2) T' v (a.eval x) := h1
            unfold RepV at h1'
            rw [if_pos hagg] at h1'
            obtain ⟨cs, e1, hr⟩ := h1'
            obtain ⟨vs, hl, hat, hv⟩ := partC_ok (φ := φ) (σ := s2.sh) hav (toC_ok _ _ _ hr)
            rcases hv with ⟨e, hv⟩ | ⟨e, u, rfl, hv⟩
            · refine ⟨.agg (cs.extract fd.offset (fd.offset + Tf.size)), by simp [execOp, ho, Instr.field, e1, run_underlying hu, hF, asAgg, part, run_isAgg hty, e, run_size hty], ?_⟩
              have : cs.extract fd.offset (fd.offset + Tf.size) = vs.toArray := by
                apply Array.ext_getElem?
                intro j
                rw [Array.getElem?_extract]
                by_cases hj : j < vs.length
                · have g := hat j vs[j] (List.getElem?_eq_getElem hj)
                  rw [Array.getElem?_toList] at g
                  have := (Array.getElem?_eq_some_iff.1 g).1
                  rw [if_pos (by omega), g]
                  simp [hj]
                · rw [if_neg (by omega), Array.getElem?_eq_none (by simpa using hj)]
              rw [this]; exact hv
            · have hu0 : cs[fd.offset]? = some u := by have := hat 0 u rfl; simpa using this
              exact ⟨u, by simp [execOp, ho, Instr.field, e1, run_underlying hu, hF, asAgg, part, run_isAgg hty, e, hu0], hv⟩
          · cases h
        · cases h
      · cases h
    · cases h
  · cases h
theorem conv_ok (hT : Tabs E P) {src dst : Nat} {x : Operand} {K : Ev → Option R} (ho : o.op = .convert src dst x) (h : convK E src dst (s.ev x) (fun a => K { a := a }) = some r) : ∃ e, EvOk P C s o e ∧ K e = some r := by
  have mx : x ∈ o.op.operands := by simp [ho, Op.operands]
  unfold convK at h
  split at h
  · rename_i k k' n hd hx
    split at h
    · rename_i ks hs
      have hu1 : P.underlying dst = some (.int k) := (hT.ty _ _ hd).und
      have hu2 : P.underlying src = some (.int ks) := (hT.ty _ _ hs).und
      exact val1_ok (av := .v (.int k) (k.wrap n)) mx (is_int hx) (fun ρ w e1 => by simp [execOp, ho, e1, run_convert_int hu2 hu1]) (fun _ _ _ _ => RepV.mk_int _ _ _ _) h
    · cases h
  · rename_i b hd hx
    split at h
    · rename_i hs
      have hu1 : P.underlying dst = some .string := (hT.ty _ _ hd).und
      have hu2 : P.underlying src = some .string := (hT.ty _ _ hs).und
      exact val1_ok (av := .v .str b) mx (is_str hx) (fun ρ w e1 => by simp [execOp, ho, e1, run_convert_str hu2 hu1]) (fun _ _ _ _ => RepV.mk_str _ _ _) h
    · cases h
  · rename_i xs hd hx
    split at h
    · rename_i e hs he
      split at h
      · rename_i hee
        have hu1 : P.underlying dst = some .string := (hT.ty _ _ hd).und
        have hu2 := hT.el _ _ he
        have hu3 : P.underlying e = some (.int .u8) := (hT.ty _ _ hee).und
        refine ⟨{ a := .v .str (bytesOf xs) }, EvOk.val fun s2 φ a w hag hs => ?_, h⟩
        have h1 := ev_ok hs x
        rw [hag.ev x mx, hx] at h1
        have h1 : RepV w (OS C.F φ s2) (.sl (.int .u8)) xs (a.eval x) := h1
        unfold RepV at h1
        rw [if_neg (by simp [Ty.agg])] at h1
        obtain ⟨ad, cap, e1, hl, hh⟩ := h1
        have e1 := (List.cons.inj e1).1
        refine ⟨.string (bytesOf xs), ?_, RepV.mk_str _ _ _⟩
        cases xs with
        | nil =>
          cases ad with
          | none => simp [execOp, ho, e1, run_convert_bytes_string w src dst e none 0 cap hu2 hu3 hu1, Conv.bytesToString, bytesOf]
          | some ad =>
            have hl0 : (loadCells ad 0).run P w = .ok (([] : List Int).map (Value.int .u8)).toArray w := by simp [loadCells, loadCellsFrom]
            have := run_bytesToString (P := P) w ad 0 cap [] hl0
            simp [execOp, ho, e1, run_convert_bytes_string w src dst e (some ad) 0 cap hu2 hu3 hu1, this, bytesOf]
        | cons y ys =>
          obtain ⟨b, o', vs, rfl, _⟩ := hh 0 y rfl
          have hl0 : (loadCells ⟨b, o', none⟩ (List.length (y :: ys))).run P w = .ok ((y :: ys).map (Value.int .u8)).toArray w := by
            have := run_loadCells_list (P := P) w ⟨b, o', none⟩ ((y :: ys).map (Value.int .u8)) (fun j v hj => by
              rw [List.getElem?_map, Option.map_eq_some_iff] at hj
              obtain ⟨z, hz, rfl⟩ := hj
              obtain ⟨b2, o2, vs, g1, _, _, g4, g5⟩ := hh j z hz
              cases g1
              simp only [RepC] at g5
              subst g5
              have := g4 0 _ rfl
              rw [addr_add]
              simpa [Ty.size] using this)
            rwa [List.length_map] at this
          have := run_bytesToString (P := P) w ⟨b, o', none⟩ _ cap (y :: ys) hl0
          simp only [List.length_cons, List.foldl_cons] at this
          simp [execOp, ho, e1, run_convert_bytes_string w src dst e _ _ cap hu2 hu3 hu1, this, bytesOf]
      · cases h
    · cases h
  · cases h
end ops
end Go.Proofs.YtgbndganadelpaaGreatDoor.E
