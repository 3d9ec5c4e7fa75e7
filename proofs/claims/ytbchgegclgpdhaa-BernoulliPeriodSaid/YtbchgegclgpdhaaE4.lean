/- Operations on plain values: sums, comparisons, conversions, parts of results. -/
import Derived.Test.YtbchgegclgpdhaaE3
import Derived.Laws.Small
import Derived.Laws.StructEq
namespace Go.Proofs.Ytbchgegclgpdhaa.E
open Go
set_option linter.unusedVariables false
set_option linter.unusedSimpArgs false
section ops
variable {P : Program} {E : Env} {C : Ctx} {s : S} {o : Oper} {R : Type} {r : R}

theorem val1_ok {av : AV} {x : Operand} {ux u : Value} {K : Ev → Option R} (hx : x ∈ o.op.operands)
    (ex : ∀ φ σ O w v, Ok φ σ O w (s.ev x) v → v = ux)
    (hr : ∀ (ρ : Operand → Value) (w : World), ρ x = ux → (execOp ρ o).run P w = .ok (.value u) w)
    (hu : ∀ φ σ O w, Ok φ σ O w av u) (h : K { a := av } = some r) : ∃ e, EvOk P C s o e ∧ K e = some r :=
  ⟨_, EvOk.val fun s2 φ a w hag hs => ⟨u, hr _ w (by have := ev_ok hs x; rw [hag.ev x hx] at this; exact ex _ _ _ _ _ this), hu _ _ _ _⟩, h⟩

theorem bin_ok (hT : Tabs E P) {op : BinOp} {ty yt : Nat} {x y : Operand} {K : Ev → Option R} (ho : o.op = .binOp op ty x y yt)
    (h : binK E op ty (s.ev x) (s.ev y) (fun a => K { a := a }) = some r) : ∃ e, EvOk P C s o e ∧ K e = some r := by
  have mx : x ∈ o.op.operands := by simp [ho, Op.operands]
  have my : y ∈ o.op.operands := by simp [ho, Op.operands]
  cases hx : s.ev x with
  | v t a =>
    cases hy : s.ev y with
    | v t' b =>
      rw [hx, hy] at h
      cases t with
      | int k =>
        cases t' with
        | int k' =>
          have hi : ∀ (h1 : op ≠ .shl) (h2 : op ≠ .shr), (if k = k' then intK op k a b (fun a => K { a := a }) else none) = some r → ∃ e, EvOk P C s o e ∧ K e = some r := by
            intro h1 h2 h
            split at h
            · rename_i e; subst e; exact int_ok ho hx hy h h1 h2
            · cases h
          cases op
          case shl =>
            simp only [binK] at h
            obtain ⟨h0, h⟩ := cond_some h
            simp only [decide_eq_false_iff_not] at h0
            exact val2_int mx my (is_int hx) (is_int hy) h fun ρ w e1 e2 => by simp [execOp, ho, e1, e2, eqGuard, binOp, Op.shift, h0, shlI]
          case shr =>
            simp only [binK] at h
            obtain ⟨h0, h⟩ := cond_some h
            simp only [decide_eq_false_iff_not] at h0
            exact val2_int mx my (is_int hx) (is_int hy) h fun ρ w e1 e2 => by simp [execOp, ho, e1, e2, eqGuard, binOp, Op.shift, h0, shrI]
          all_goals exact hi (by simp) (by simp) h
        | _ => simp [binK] at h
      | bool =>
        cases t' with
        | bool =>
          simp only [binK] at h
          split at h
          · rename_i hty
            have hu : P.underlying ty = some .bool := (hT.ty _ _ hty).und
            cases op <;> simp only [reduceCtorEq] at h
            · exact val2_bool mx my (is_bool hx) (is_bool hy) h fun ρ w e1 e2 => by simp [execOp, ho, e1, e2, eqGuard, binOp, run_equal_bool w ty a b hu]
            · exact val2_bool mx my (is_bool hx) (is_bool hy) h fun ρ w e1 e2 => by simp [execOp, ho, e1, e2, eqGuard, binOp, run_equal_bool w ty a b hu]
          · cases h
        | _ => simp [binK] at h
      | str =>
        cases t' with
        | str =>
          cases op <;> simp only [binK, reduceCtorEq] at h
          case add =>
            obtain ⟨h0, h⟩ := cond_some' h
            have h0 := of_decide_eq_true h0
            simp only [maxL] at h0
            refine val2_ok (av := .v .str (a ++ b)) (u := .string (a ++ b)) mx my (is_str hx) (is_str hy) (fun ρ w e1 e2 => ?_) (fun _ _ _ _ => RepV.mk_str _ _ _) h
            have h1 : (ByteArray.size a : Int) + ByteArray.size b ≤ 9223372036854775807 := by omega
            simp [execOp, ho, e1, e2, eqGuard, binOp, Op.stringOp, h1]
          case eql => exact val2_bool mx my (is_str hx) (is_str hy) h fun ρ w e1 e2 => by simp [execOp, ho, e1, e2, eqGuard, binOp, Op.stringOp]
          case neq => exact val2_bool mx my (is_str hx) (is_str hy) h fun ρ w e1 e2 => by simp [execOp, ho, e1, e2, eqGuard, binOp, Op.stringOp]
        | _ => simp [binK] at h
      | pair t u =>
        simp only [binK] at h
        split at h
        · rename_i b' t'' hc hf
          split at h
          · rename_i e
            subst e
            obtain ⟨e, hb⟩ := castT_ok hc
            subst e
            subst hb
            cases hh : has E.eqs ty with
            | false => rw [hh] at hf; cases hf
            | true =>
              rw [hh, cond_true] at hf
              have heq := hT.eqs ty _ hh hf
              have key : ∀ (f : Bool → Bool), (∀ (ρ : Operand → Value) (w : World) (cs ds : Array Value), ρ x = .agg cs → ρ y = .agg ds → P.eqGuardType P.depth ty = false →
                  (Op.equal ty (.agg cs) (.agg ds)).run P w = .ok (eqT (.pair t u) a b) w → (execOp ρ o).run P w = .ok (.value (.bool (f (eqT (.pair t u) a b)))) w) →
                  K { a := .v .bool (f (eqT (.pair t u) a b)) } = some r → ∃ e, EvOk P C s o e ∧ K e = some r := by
                intro f hr hk
                refine ⟨_, EvOk.val fun s2 φ ac w hag hs => ?_, hk⟩
                have h1 := ev_ok hs x
                have h2 := ev_ok hs y
                rw [hag.ev x mx, hx] at h1
                rw [hag.ev y my, hy] at h2
                obtain ⟨e1, e2⟩ := heq a b _ _ w _ h1 h2
                have g1 : RepV w (OS C.F φ s2) (.pair t u) a (ac.eval x) := h1
                have g2 : RepV w (OS C.F φ s2) (.pair t u) b (ac.eval y) := h2
                unfold RepV at g1 g2
                rw [if_pos (show (Ty.pair t u).agg = true from rfl)] at g1 g2
                obtain ⟨cs, c1, _⟩ := g1
                obtain ⟨ds, c2, _⟩ := g2
                rw [c1, c2] at e1
                exact ⟨.bool (f (eqT (.pair t u) a b)), hr _ w cs ds c1 c2 e2 e1, RepV.mk_bool _ _ _⟩
              cases op <;> simp only [reduceCtorEq] at h
              case eql => exact key id (fun ρ w cs ds e1 e2 hg he => by simp [execOp, ho, e1, e2, eqGuard, binOp, hg, he]) h
              case neq => exact key (!·) (fun ρ w cs ds e1 e2 hg he => by simp [execOp, ho, e1, e2, eqGuard, binOp, hg, he]) h
          · cases h
        · cases h
      | _ => simp [binK] at h
    | _ => rw [hx, hy] at h; cases t <;> simp [binK] at h
  | _ => rw [hx] at h; simp [binK] at h

theorem un_ok {op : UnOp} {ty : Nat} {x : Operand} {K : Ev → Option R} (ho : o.op = .unOp op ty x) (h : unK op (s.ev x) (fun a => K { a := a }) = some r) :
    ∃ e, EvOk P C s o e ∧ K e = some r := by
  have mx : x ∈ o.op.operands := by simp [ho, Op.operands]
  cases hx : s.ev x with
  | v t a =>
    rw [hx] at h
    cases t with
    | int k =>
      cases op <;> simp only [unK, reduceCtorEq] at h
      case neg => exact val1_ok (av := .v (.int k) _) mx (is_int hx) (fun ρ w e1 => by simp [execOp, ho, e1, Op.unary, Op.intArith]) (fun _ _ _ _ => RepV.mk_int _ _ _ _) h
      case xor => exact val1_ok (av := .v (.int k) _) mx (is_int hx) (fun ρ w e1 => by simp [execOp, ho, e1, Op.unary, Op.intBits]; rfl) (fun _ _ _ _ => RepV.mk_int _ _ _ _) h
    | bool =>
      cases op <;> simp only [unK, reduceCtorEq] at h
      case not => exact val1_ok (av := .v .bool _) mx (is_bool hx) (fun ρ w e1 => by simp [execOp, ho, e1, Op.unary]) (fun _ _ _ _ => RepV.mk_bool _ _ _) h
    | _ => cases op <;> simp [unK] at h
  | _ => rw [hx] at h; cases op <;> simp [unK] at h
theorem run_convert_int {src dst : Nat} {ks kd : IntKind} {k : IntKind} {n : Int} {w : World} (h1 : P.underlying src = some (.int ks)) (h2 : P.underlying dst = some (.int kd)) :
    (convert src dst (.int k n)).run P w = .ok (.int kd (kd.wrap n)) w := by
  simp [convert, run_underlying h1, run_underlying h2, Conv.intToInt]
theorem run_convert_str {src dst : Nat} {b : ByteArray} {w : World} (h1 : P.underlying src = some .string) (h2 : P.underlying dst = some .string) :
    (convert src dst (.string b)).run P w = .ok (.string b) w := by
  simp [convert, run_underlying h1, run_underlying h2]
theorem extract_ok : ∀ (T : Ty) (x : T.den) (i : Nat) (K : AV → Option R), exK T x i K = some r →
    ∃ t y, K (.v t y) = some r ∧ ∀ (w : World) (O : Nat → Prop) (us : List Value), RepT w O T x us → ∃ u, us[i]? = some u ∧ RepV w O t y u
  | .pair a b, x, 0, K, h => ⟨a, x.1, h, fun w O us hr => by obtain ⟨u, l, rfl, h1, _⟩ := hr; exact ⟨u, rfl, h1⟩⟩
  | .pair a b, x, n + 1, K, h => by
    obtain ⟨t, y, hk, hh⟩ := extract_ok b x.2 n K h
    exact ⟨t, y, hk, fun w O us hr => by obtain ⟨u, l, rfl, _, h2⟩ := hr; exact hh w O l h2⟩
  | .int _, _, _, _, h => by simp [exK] at h
  | .bool, _, _, _, h => by simp [exK] at h
  | .str, _, _, _, h => by simp [exK] at h
  | .unit, _, _, _, h => by simp [exK] at h
  | .sl _, _, _, _, h => by simp [exK] at h
theorem ext_ok {x : Operand} {i : Nat} {K : Ev → Option R} (ho : o.op = .extract x i) {T : Ty} {y : T.den} (hx : s.ev x = .tup T y)
    (h : exK T y i (fun a => K { a := a }) = some r) : ∃ e, EvOk P C s o e ∧ K e = some r := by
  obtain ⟨t, z, hk, hh⟩ := extract_ok T y i _ h
  refine ⟨_, EvOk.val fun s2 φ a w hag hs => ?_, hk⟩
  have h1 := ev_ok hs x
  rw [hag.ev x (by simp [ho, Op.operands]), hx] at h1
  obtain ⟨vs, e1, h1⟩ := h1
  obtain ⟨u, hu, hr⟩ := hh w _ _ h1
  exact ⟨u, by
    have : vs[i]? = some u := by simpa using hu
    simp [execOp, ho, e1, Instr.extract, this], hr⟩
theorem fn_ok {f : Nat} {first captured : Array Operand} {K : Ev → Option R} (ho : o.op = .makeFunc (.func f) first captured)
    (h : cond (first.toList.isEmpty && captured.toList.isEmpty) (K { a := .fn f }) none = some r) : ∃ e, EvOk P C s o e ∧ K e = some r := by
  obtain ⟨h0, h⟩ := cond_some' h
  simp only [Bool.and_eq_true, List.isEmpty_iff] at h0
  have e1 : first = #[] := by cases first; simp_all
  have e2 : captured = #[] := by cases captured; simp_all
  subst e1 e2
  exact ⟨{ a := .fn f }, EvOk.val fun s2 φ a w hag hs => ⟨.func (.func f) #[] #[], by simp [execOp, ho, Instr.makeFunc], rfl⟩, h⟩
theorem index_ok (hT : Tabs E P) {t : Nat} {x i : Operand} {K : Ev → Option R} (ho : o.op = .index t x i) {b : ByteArray} {k : IntKind} {n : Int}
    (hx : s.ev x = .v .str b) (hi : s.ev i = .v (.int k) n) (ht : find E.ty t = some .str)
    (h : cond (inB n b.size) (K { a := .v (.int .u8) ((b.get! n.toNat).toNat : Int) }) none = some r) : ∃ e, EvOk P C s o e ∧ K e = some r := by
  obtain ⟨h0, h⟩ := cond_some' h
  simp only [inB, Bool.and_eq_true, decide_eq_true_eq] at h0
  have hu : P.underlying t = some .string := (hT.ty _ _ ht).und
  have hn : n.toNat < b.size := by omega
  refine val2_int (by simp [ho, Op.operands]) (by simp [ho, Op.operands]) (is_str hx) (is_int hi) h fun ρ w e1 e2 => ?_
  have e3 : b[n.toNat]? = some (b.get! n.toNat) := by
    rw [getElem?_pos b n.toNat hn]
    congr 1
    cases b with
    | mk d => simp [ByteArray.get!, ByteArray.getElem_eq_getElem_data] ; rw [getElem!_pos d n.toNat hn]
  simp [execOp, ho, e1, e2, Instr.index, asIntOf, run_underlying hu, h0.1, e3]
theorem nil_ok {x : Operand} {K : Ev → Option R} (ho : o.op = .nilCheck x) (h : (match s.ev x with
    | .ptr d i off => K { a := .ptr d i off }
    | .ip t v off => K { a := .ip t v off }
    | _ => none) = some r) : ∃ e, EvOk P C s o e ∧ K e = some r := by
  have mx : x ∈ o.op.operands := by simp [ho, Op.operands]
  cases hx : s.ev x <;> rw [hx] at h <;> simp only [reduceCtorEq] at h
  · refine ⟨_, EvOk.val fun s2 φ a w hag hs => ?_, h⟩
    have h1 := ev_ok hs x
    rw [hag.ev x mx, hx] at h1
    refine ⟨a.eval x, ?_, h1⟩
    obtain ⟨b, o', z, _, ⟨t, m, _, _, e⟩ | ⟨_, _, e⟩⟩ := h1 <;> simp [execOp, ho, e]
  · refine ⟨_, EvOk.val fun s2 φ a w hag hs => ?_, h⟩
    have h1 := ev_ok hs x
    rw [hag.ev x mx, hx] at h1
    refine ⟨a.eval x, ?_, h1⟩
    obtain ⟨b, o', vs, e, _⟩ := h1
    simp [execOp, ho, e]
end ops
end Go.Proofs.Ytbchgegclgpdhaa.E
