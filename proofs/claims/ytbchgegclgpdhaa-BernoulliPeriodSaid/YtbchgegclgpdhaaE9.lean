/- copy, slices of slices, composite structs. -/
import Derived.Test.YtbchgegclgpdhaaE8
namespace Go.Proofs.Ytbchgegclgpdhaa.E
open Go
set_option linter.unusedVariables false
set_option linter.unusedSimpArgs false
section ops
variable {P : Program} {E : Env} {C : Ctx} {s : S} {o : Oper} {R : Type} {r : R}
theorem S.set_self {d : Nat} {B : Blk} (h : s.bk d = some B) : s.set d B = s := by
  cases s with
  | mk tm bk =>
    simp only [S.set, S.mk.injEq, true_and]
    funext x
    by_cases e : x = d
    · subst e; rw [beq_self]; exact h.symm
    · rw [beq_ne e]; rfl
theorem copy_ok (hT : Tabs E P) {c : Call} {b x : Operand} {t : Nat} {K : Ev → Option R} (ho : o.op = .call c) (hc : c.callee = .builtin .copy) (hx : c.args.toList = [b, x]) {l : List Nat} (ht : c.argTypes.toList = t :: l)
    (h : copyK E t s (s.ev b) (s.ev x) K = some r) : ∃ e, EvOk P C s o e ∧ K e = some r := by
  have ea : c.args = #[b, x] := by rw [← hx, Array.toArray_toList]
  have et : c.argTypes[0]? = some t := by rw [← Array.getElem?_toList, ht]; rfl
  have mb : b ∈ o.op.operands := by simp [ho, Op.operands, Call.operands, hc, ea]
  have mx : x ∈ o.op.operands := by simp [ho, Op.operands, Call.operands, hc, ea]
  have hop : ∀ (a : Act) (w : World), (execOp a.eval o).run P w = ((Builtin.copy_ c.argTypes o.type #[a.eval b, a.eval x]).run P w).andThen fun v w' => .ok (.value v) w' := fun a w => by
    simp [execOp, ho, resolve, hc, ea, invoke, builtin]
  unfold copyK at h
  split at h
  rotate_left
  · cases h
  rename_i d' V hb hv
  cases hbk : s.bk d' with
  | none => rw [hbk] at h; cases h
  | some B =>
  rw [hbk] at h
  cases B with
  | box _ => cases h
  | arr et' tt xs =>
  simp only at h
  split at h
  rotate_left
  · cases h
  rename_i ys hys
  obtain ⟨e, e'⟩ := castT_sl hys
  subst e
  simp only at e'
  subst e'
  split at h
  rotate_left
  · cases h
  rename_i hel
  obtain ⟨el, hu, hty⟩ := elT_some hT hel
  obtain ⟨h0, h⟩ := cond_some h
  have hpos : V.t.size ≠ 0 := fun e => by rw [e] at h0; cases h0
  refine ⟨_, ?_, h⟩
  intro s2 hag φ a w hs K' Q hK
  have g1 := ev_ok hs b
  have g2 := ev_ok hs x
  rw [hag.ev b mb, hb] at g1
  rw [hag.ev x mx] at g2
  have hb2 : s2.bk d' = some (.arr et' V.t xs) := by rw [hag.wr d' _ rfl, hbk]
  have hl : (s2.bk d').isSome = true := by rw [hb2]; rfl
  have hvo := view_ok hs (view_agree hv fun k hk => hag.bk k hk) g2
  obtain ⟨t2, n, ad, cap, p1, p2, p3, p4⟩ := g1
  simp only [S.sh, hb2, Option.map_some, Blk.sh, Option.some.injEq, Sh.arr.injEq] at p1
  obtain ⟨rfl, rfl⟩ := p1
  have he : ∀ zs : List V.t.den, Ev.eff { a := .v (.int .i64) (Nat.min V.xs.length xs.length : Nat), wr := some (d', .arr et' V.t zs), rd := V.rd } o.dst s2 = (s2.set d' (.arr et' V.t zs)).puto o.dst (.v (.int .i64) (Nat.min V.xs.length xs.length : Nat)) := fun zs => by
    cases o.dst <;> rfl
  unfold Oper.wp
  rw [hop, p2]
  by_cases hne : V.xs = [] ∨ xs = []
  · have hmin : Nat.min V.xs.length xs.length = 0 := by rcases hne with e | e <;> simp [e]
    have hzs : List.take xs.length V.xs ++ xs.drop V.xs.length = xs := by rcases hne with e | e <;> simp [e]
    obtain ⟨adx, capx, e1, _⟩ := hvo
    have hrun : (Builtin.copy_ c.argTypes o.type #[.slice ad xs.length cap, a.eval x]).run P w = .ok (.int .i64 (0 : Nat)) w := by
      rw [e1]
      simp only [Builtin.copy_, et]
      cases adx <;> cases ad <;> simp [run_underlying hu, Builtin.lenOf, hmin, Builtin.firstCells, run_size hty, loadCells, loadCellsFrom, storeCells, goInt]
    rw [hrun]
    refine hK _ _ ⟨φ, ?_⟩
    rw [he, hzs, S.set_self hb2, hmin]
    exact hs.puto hag.dst (RepV.mk_int _ _ _ _)
  · have hne1 : V.xs ≠ [] := fun e => hne (.inl e)
    have hne2 : xs ≠ [] := fun e => hne (.inr e)
    obtain ⟨a', capx, news, e1, hnl, hnews, hone, hrep⟩ := view_flat hvo hne1
    -- the row written
    have hrow : ∃ b' o' z c' el', φ d' = some (b', o', z) ∧ ad = some ⟨b', o', none⟩ ∧ w.heap[b']? = some (.cells c' el' (0, 0)) ∧ c'.size = z ∧ (d' = BOR ∨ et' = 0 ∨ el' = et') ∧ RowAt w (OS C.F φ s2) c' o' V.t xs := by
      rcases hs.blk d' _ hb2 with ⟨_, k1⟩ | ⟨b2, o2, z2, c2, el2, k1, k2, k3, k4, k5⟩
      · exact absurd k1 hne2
      · rcases p4 with ⟨q1, _⟩ | ⟨b', o', z', q1, q2, _⟩
        · rw [q1] at k1; cases k1
        · rw [q1] at k1; cases k1; exact ⟨_, _, _, c2, el2, q1, q2, k2, k3, k4, k5⟩
    obtain ⟨b', o', z, c', el', q1, rfl, q2, q3, q4, q5⟩ := hrow
    have hm : Nat.min V.xs.length xs.length ≤ V.xs.length := Nat.min_le_left _ _
    have hm2 : Nat.min V.xs.length xs.length ≤ xs.length := Nat.min_le_right _ _
    generalize hM : Nat.min V.xs.length xs.length = m at *
    have hcl : (news.take (m * V.t.size)).length = m * V.t.size := by
      rw [List.length_take, hnl]
      exact Nat.min_eq_left (Nat.mul_le_mul_right _ hm)
    have hfitx : o' + xs.length * V.t.size ≤ c'.size := by
      have e : 0 < V.t.size := Nat.pos_of_ne_zero hpos
      have hx0 : xs.length - 1 < xs.length := by cases xs with | nil => exact absurd rfl hne2 | cons => simp
      obtain ⟨vs, h1, _, h3⟩ := q5 (xs.length - 1) xs[xs.length - 1] (List.getElem?_eq_getElem hx0)
      have := h3 (V.t.size - 1) vs[V.t.size - 1] (List.getElem?_eq_getElem (by omega))
      have := (Array.getElem?_eq_some_iff.1 this).1
      have h4 : xs.length * V.t.size = (xs.length - 1) * V.t.size + V.t.size := by
        rw [← Nat.succ_mul]; congr 1; omega
      omega
    have hfit : o' + (news.take (m * V.t.size)).length ≤ c'.size := by
      rw [hcl]
      have : m * V.t.size ≤ xs.length * V.t.size := Nat.mul_le_mul_right _ hm2
      omega
    have hload : (loadCells a' (m * V.t.size)).run P w = .ok (news.take (m * V.t.size)).toArray w := by
      have := run_loadCells_list (P := P) w a' (news.take (m * V.t.size)) (fun j v hj => hnews j v (by
        have := (List.getElem?_eq_some_iff.1 hj).1
        rw [List.getElem?_take, if_pos (by omega)] at hj
        exact hj))
      rwa [hcl] at this
    have hst := run_storeCells_at P b' o' el' (news.take (m * V.t.size)) 0 c' w q2 (by simpa using hfit) (fun v hv => hone v (List.mem_of_mem_take hv))
    simp only [Nat.add_zero] at hst
    have hrun : (Builtin.copy_ c.argTypes o.type #[.slice (some ⟨b', o', none⟩) xs.length cap, a.eval x]).run P w = .ok (.int .i64 (m : Nat)) (w.setRow b' (layA c' o' (news.take (m * V.t.size)))) := by
      rw [e1]
      simp only [Builtin.copy_, et]
      simp [run_underlying hu, Builtin.lenOf, hM, Builtin.firstCells, run_size hty, hload, hst, goInt, layA]
    rw [hrun]
    refine hK _ _ ⟨φ, ?_⟩
    rw [he]
    refine SRp.puto ?_ hag.dst (RepV.mk_int _ _ _ _)
    have hlen : (List.take xs.length V.xs ++ xs.drop V.xs.length).length = xs.length := by
      simp only [List.length_append, List.length_take, List.length_drop]; omega
    refine hs.write hb2 q1 q2 (layA_size hfit) (by simp only [Blk.sh, hlen]) (fun _ t n e k hk => ?_) fun hfr hb' => .inr ⟨b', o', z, _, el', q1, hb', by rw [layA_size hfit]; exact q3, q4, fun i y hy => ?_⟩
    · cases e
      refine layA_out hfit ?_
      rw [hcl]
      have : m * V.t.size ≤ xs.length * V.t.size := Nat.mul_le_mul_right _ hm2
      rcases hk with hk | hk
      · left; exact hk
      · right; omega
    · have hmm : m = V.xs.length ∨ m = xs.length := by rw [← hM]; exact (Nat.le_total V.xs.length xs.length).imp (fun h => Nat.min_eq_left h) (fun h => Nat.min_eq_right h)
      have htl : (List.take xs.length V.xs).length = m := by rw [List.length_take, Nat.min_comm]; exact hM
      by_cases hi : i < m
      · rw [List.getElem?_append_left (by omega), List.getElem?_take, if_pos (by omega)] at hy
        obtain ⟨vs, h1, h2, h3⟩ := hrep i y hy
        refine ⟨vs, h1, RepC.frame hfr (fun _ h => .inl h) _ _ _ h2, fun j v hj => ?_⟩
        have hj' := (List.getElem?_eq_some_iff.1 hj).1
        have hlt : i * V.t.size + j < m * V.t.size := by
          have : (i + 1) * V.t.size ≤ m * V.t.size := Nat.mul_le_mul_right _ hi
          rw [Nat.add_mul, Nat.one_mul] at this
          omega
        rw [Nat.add_assoc, layA_in hfit (by omega), List.getElem?_take, if_pos hlt]
        exact h3 j v hj
      · rw [List.getElem?_append_right (by omega), htl, List.getElem?_drop] at hy
        have hyi : xs[i]? = some y := by
          rw [← hy]
          rcases hmm with e | e
          · congr 1; omega
          · have : i < (List.take xs.length V.xs ++ xs.drop V.xs.length).length := by
              rcases Nat.lt_or_ge i (List.take xs.length V.xs ++ xs.drop V.xs.length).length with h | h
              · exact h
              · rw [List.getElem?_eq_none (by omega)] at hy; cases hy
            omega
        obtain ⟨vs, h1, h2, h3⟩ := q5 i y hyi
        refine ⟨vs, h1, RepC.frame hfr (fun _ h => .inl h) _ _ _ h2, fun j v hj => ?_⟩
        have : m * V.t.size ≤ i * V.t.size := Nat.mul_le_mul_right _ (by omega)
        rw [layA_out hfit (by right; omega)]
        exact h3 j v hj

/-- A slice of a slice: its value, in the evaluator and in the model. -/
theorem slice_res {φ : Pl} {a : Act} {w : World} (hs : SRp C φ s a w) {x : AV} {V : Vw} {u : Value} (hv : s.view x = some V) (ho : Ok φ s.sh (OS C.F φ s) w x u) {ad : Option Addr} {cap l h m : Nat}
    (hu : u = .slice ad V.xs.length cap) (hl : l ≤ h) (hh : h ≤ V.xs.length) (hm : h ≤ m) :
    Ok φ s.sh (OS C.F φ s) w (match V.at_ with | some (d, o) => .osl d (o + l) (h - l) | none => .v (.sl V.t) ((V.xs.take h).drop l))
      (.slice (if m = l then ad else ad.map (·.add (l * V.t.size))) (h - l) (m - l)) := by
  obtain ⟨t, xs, at_⟩ := V
  subst hu
  simp only at hh ⊢
  cases at_ with
  | none =>
    obtain ⟨ad', cap', e, _, hel⟩ := view_ok hs hv ho
    cases e
    have hlen : ((xs.take h).drop l).length = h - l := by rw [List.length_drop, List.length_take]; omega
    refine RepV.of_sl ⟨_, _, by rw [hlen], by rw [hlen]; omega, fun i y hy => ?_⟩
    have hi : i < h - l := Nat.lt_of_lt_of_eq (List.getElem?_eq_some_iff.1 hy).1 hlen
    rw [List.getElem?_drop, List.getElem?_take, if_pos (by omega)] at hy
    obtain ⟨b, o, vs, e1, e2, e3, e4, e5⟩ := hel _ y hy
    subst e1
    refine ⟨b, o + l * t.size, vs, ?_, e3 rfl, e2, ?_, e5⟩
    · rw [if_neg (by omega), Option.map_some, addr_add]
    · simp only at e4
      rw [Nat.add_mul, ← Nat.add_assoc] at e4
      exact e4
  | some p =>
    obtain ⟨d, off⟩ := p
    obtain ⟨n, h1, h2, ad', cap', e, _, h4⟩ := view_at hs hv ho
    cases e
    refine ⟨t, n, _, _, h1, by omega, rfl, by omega, fun hne => ?_⟩
    obtain ⟨b, o, z, e1, e2⟩ := h4 (by omega)
    subst e2
    refine ⟨b, o, z, e1, ?_⟩
    rw [if_neg (by omega), Option.map_some, addr_add, Nat.add_assoc, ← Nat.add_mul]
theorem run_slice {t e : Nat} {T : Ty} (hu : P.underlying t = some (.slice e)) (hty : TyOk P e T) (w : World) (ad : Option Addr) (len cap : Nat) (lo hi mx : Option Value) (l h m : Nat)
    (hb : (Instr.sliceBounds true len cap lo hi mx).run P w = .ok (l, h, m) w) :
    (Instr.sliceAt t (.slice ad len cap) lo hi mx).run P w = .ok (.slice (if m = l then ad else ad.map (·.add (l * T.size))) (h - l) (m - l)) w := by
  simp [Instr.sliceAt, Instr.slice, run_underlying hu, hb, run_size hty]
theorem inC_spec {i : Int} {n : Nat} (h : inC i n = true) : 0 ≤ i ∧ i ≤ n := by simpa [inC] using h
theorem slice_ok (hT : Tabs E P) {t : Nat} {x : Operand} {lo hi mx : Option Operand} {K : Ev → Option R} (ho : o.op = .slice t x lo hi mx) (h : slK E t s (s.ev x) (lo.map s.ev) (hi.map s.ev) (mx.map s.ev) K = some r) :
    ∃ e, EvOk P C s o e ∧ K e = some r := by
  have mxx : x ∈ o.op.operands := by simp [ho, Op.operands]
  have mlo : ∀ y, lo = some y → y ∈ o.op.operands := fun y e => by simp [ho, Op.operands, e]
  have mhi : ∀ y, hi = some y → y ∈ o.op.operands := fun y e => by simp [ho, Op.operands, e]
  have mmx : ∀ y, mx = some y → y ∈ o.op.operands := fun y e => by simp [ho, Op.operands, e]
  have hop : ∀ (a : Act) (w : World), (execOp a.eval o).run P w = ((Instr.sliceAt t (a.eval x) (lo.map a.eval) (hi.map a.eval) (mx.map a.eval)).run P w).andThen fun v w' => .ok (.value v) w' := fun a w => by
    simp [execOp, ho]
  unfold slK at h
  split at h
  · -- a text
    rename_i b hx
    split at h
    rotate_left
    · cases h
    rename_i hty
    have hu : P.underlying t = some .string := (hT.ty _ _ hty).und
    split at h
    · rename_i k n e1 e2 e3
      obtain ⟨h0, h⟩ := cond_some' h
      have h0 := inC_spec h0
      cases lo <;> simp only [Option.map_none, Option.map_some, reduceCtorEq] at e1
      cases mx <;> simp only [Option.map_none, Option.map_some, reduceCtorEq] at e3
      cases hi with
      | none => cases e2
      | some y =>
        have e2 : s.ev y = .v (.int k) n := by simpa using e2
        refine ⟨{ a := .v .str (ByteArray.extract b 0 (Int.toNat n)) }, EvOk.val fun s2 φ a w hag hs => ?_, h⟩
        have g1 := ev_ok hs x
        have g2 := ev_ok hs y
        rw [hag.ev x mxx, hx] at g1
        rw [hag.ev y (mhi y rfl), e2] at g2
        have g1 := RepV.str g1
        have g2 := RepV.int g2
        exact ⟨_, by rw [hop]; simp [Instr.sliceAt, Instr.slice, run_underlying hu, g1, g2, Instr.sliceBounds, Instr.sliceBound, asIntOf, h0], RepV.mk_str _ _ _⟩
    · rename_i k n e1 e2 e3
      obtain ⟨h0, h⟩ := cond_some' h
      have h0 := inC_spec h0
      cases hi <;> simp only [Option.map_none, Option.map_some, reduceCtorEq] at e2
      cases mx <;> simp only [Option.map_none, Option.map_some, reduceCtorEq] at e3
      cases lo with
      | none => cases e1
      | some y =>
        have e1 : s.ev y = .v (.int k) n := by simpa using e1
        refine ⟨{ a := .v .str (ByteArray.extract b (Int.toNat n) (ByteArray.size b)) }, EvOk.val fun s2 φ a w hag hs => ?_, h⟩
        have g1 := ev_ok hs x
        have g2 := ev_ok hs y
        rw [hag.ev x mxx, hx] at g1
        rw [hag.ev y (mlo y rfl), e1] at g2
        have g1 := RepV.str g1
        have g2 := RepV.int g2
        exact ⟨_, by rw [hop]; simp [Instr.sliceAt, Instr.slice, run_underlying hu, g1, g2, Instr.sliceBounds, Instr.sliceBound, asIntOf, h0], RepV.mk_str _ _ _⟩
    · cases h
  · split at h
    · cases h
    rename_i V hv
    split at h
    rotate_left
    · cases h
    rename_i hel
    obtain ⟨el, hu, hty⟩ := elT_some hT hel
    -- the operation, its bounds given
    have key : ∀ (l h' m : Nat → Nat) (av : AV), (av = match V.at_ with | some (d, o) => .osl d (o + l 0) (h' 0 - l 0) | none => .v (.sl V.t) ((V.xs.take (h' 0)).drop (l 0))) →
        l 0 ≤ h' 0 → h' 0 ≤ V.xs.length → (∀ cap, V.xs.length ≤ cap → h' 0 ≤ m cap) →
        (∀ (s2 : S) φ (a : Act) (w : World) (cap : Nat), (∀ x ∈ o.op.operands, s2.ev x = s.ev x) → SRp C φ s2 a w → V.xs.length ≤ cap →
          (Instr.sliceBounds true V.xs.length cap (lo.map a.eval) (hi.map a.eval) (mx.map a.eval)).run P w = .ok (l 0, h' 0, m cap) w) →
        K { a := av, rd := V.rd } = some r → ∃ e, EvOk P C s o e ∧ K e = some r := by
      intro l h' m av hav h1 h2 h3 h4 hk
      refine ⟨_, EvOk.val fun s2 φ a w hag hs => ?_, hk⟩
      have g1 := ev_ok hs x
      rw [hag.ev x mxx] at g1
      have hv2 := view_agree hv fun k hk => hag.bk k hk
      obtain ⟨ad, cap, e1, e2, _⟩ := view_ok hs hv2 g1
      refine ⟨_, by rw [hop, e1, run_slice hu hty w ad _ cap _ _ _ _ _ _ (h4 s2 φ a w cap hag.ev hs e2)]; rfl, ?_⟩
      rw [hav]
      exact slice_res hs hv2 g1 e1 h1 h2 (h3 cap e2)
    split at h
    · rename_i k n e1 e2 e3
      obtain ⟨h0, h⟩ := cond_some' h
      have h0 := inC_spec h0
      have hn : ∃ p : Nat, n = (p : Int) := ⟨Int.toNat n, (Int.toNat_of_nonneg h0.1).symm⟩
      obtain ⟨p, rfl⟩ := hn
      have hp : p ≤ V.xs.length := Int.ofNat_le.1 h0.2
      cases lo <;> simp only [Option.map_none, Option.map_some, reduceCtorEq] at e1
      cases mx <;> simp only [Option.map_none, Option.map_some, reduceCtorEq] at e3
      cases hi with
      | none => cases e2
      | some y =>
        have e2 : s.ev y = .v (.int k) (p : Int) := by simpa using e2
        refine key (fun _ => 0) (fun _ => p) (fun c => c) _ ?_ (Nat.zero_le _) hp (fun c hc => Nat.le_trans hp hc) (fun s2 φ a w cap hag hs hc => ?_) h
        · unfold Vw.out; cases V.at_ <;> simp
        · have g2 := ev_ok hs y
          rw [hag y (mhi y rfl), e2] at g2
          have g2 := RepV.int g2
          have h9 : ¬ cap < p := by omega
          simp [Instr.sliceBounds, Instr.sliceBound, asIntOf, g2, h9]
    · rename_i k n k' m' e1 e2 e3
      obtain ⟨h0, h'⟩ := cond_some' h
      clear h
      obtain ⟨h00, h⟩ := cond_some' h'
      clear h'
      have h0 := inC_spec h0
      simp only [Bool.and_eq_true] at h00
      have h01 : (0 : Int) ≤ n := of_decide_eq_true h00.1
      have h02 : (n : Int) ≤ m' := of_decide_eq_true h00.2
      have hn : ∃ p : Nat, n = (p : Int) := ⟨Int.toNat n, (Int.toNat_of_nonneg h01).symm⟩
      have hm : ∃ q : Nat, m' = (q : Int) := ⟨Int.toNat m', (Int.toNat_of_nonneg h0.1).symm⟩
      obtain ⟨p, rfl⟩ := hn
      obtain ⟨q, rfl⟩ := hm
      have hq : q ≤ V.xs.length := Int.ofNat_le.1 h0.2
      have hpq : p ≤ q := Int.ofNat_le.1 h02
      cases lo <;> simp only [Option.map_none, Option.map_some, reduceCtorEq] at e1
      cases hi with
      | none => cases e2
      | some y =>
        cases mx with
        | none => cases e3
        | some z =>
          have e2 : s.ev y = .v (.int k) (p : Int) := by simpa using e2
          have e3 : s.ev z = .v (.int k') (q : Int) := by simpa using e3
          refine key (fun _ => 0) (fun _ => p) (fun _ => q) _ ?_ (Nat.zero_le _) (Nat.le_trans hpq hq) (fun _ _ => hpq) (fun s2 φ a w cap hag hs hc => ?_) h
          · unfold Vw.out; cases V.at_ <;> simp
          · have g2 := ev_ok hs y
            rw [hag y (mhi y rfl), e2] at g2
            have g2 := RepV.int g2
            have g3 := ev_ok hs z
            rw [hag z (mmx z rfl), e3] at g3
            have g3 := RepV.int g3
            have h9 : q ≤ cap := by omega
            simp [Instr.sliceBounds, Instr.sliceBound, asIntOf, g2, g3, h9, hpq]
    · rename_i k n e1 e2 e3
      obtain ⟨h0, h⟩ := cond_some' h
      have h0 := inC_spec h0
      have hn : ∃ p : Nat, n = (p : Int) := ⟨Int.toNat n, (Int.toNat_of_nonneg h0.1).symm⟩
      obtain ⟨p, rfl⟩ := hn
      have hp : p ≤ V.xs.length := Int.ofNat_le.1 h0.2
      cases hi <;> simp only [Option.map_none, Option.map_some, reduceCtorEq] at e2
      cases mx <;> simp only [Option.map_none, Option.map_some, reduceCtorEq] at e3
      cases lo with
      | none => cases e1
      | some y =>
        have e1 : s.ev y = .v (.int k) (p : Int) := by simpa using e1
        refine key (fun _ => p) (fun _ => V.xs.length) (fun c => c) _ ?_ hp (Nat.le_refl _) (fun c hc => hc) (fun s2 φ a w cap hag hs hc => ?_) h
        · unfold Vw.out; cases V.at_ <;> simp
        · have g2 := ev_ok hs y
          rw [hag y (mlo y rfl), e1] at g2
          have g2 := RepV.int g2
          have h9 : ¬ V.xs.length < p := by omega
          simp [Instr.sliceBounds, Instr.sliceBound, asIntOf, g2, h9]
    · rename_i k n k' m' e1 e2 e3
      obtain ⟨h0, h'⟩ := cond_some' h
      clear h
      obtain ⟨h00, h⟩ := cond_some' h'
      clear h'
      have h0 := inC_spec h0
      simp only [Bool.and_eq_true] at h00
      have h01 : (0 : Int) ≤ n := of_decide_eq_true h00.1
      have h02 : (n : Int) ≤ m' := of_decide_eq_true h00.2
      have hn : ∃ p : Nat, n = (p : Int) := ⟨Int.toNat n, (Int.toNat_of_nonneg h01).symm⟩
      have hm : ∃ q : Nat, m' = (q : Int) := ⟨Int.toNat m', (Int.toNat_of_nonneg h0.1).symm⟩
      obtain ⟨p, rfl⟩ := hn
      obtain ⟨q, rfl⟩ := hm
      have hq : q ≤ V.xs.length := Int.ofNat_le.1 h0.2
      have hpq : p ≤ q := Int.ofNat_le.1 h02
      cases mx <;> simp only [Option.map_none, Option.map_some, reduceCtorEq] at e3
      cases lo with
      | none => cases e1
      | some y =>
        cases hi with
        | none => cases e2
        | some z =>
          have e1 : s.ev y = .v (.int k) (p : Int) := by simpa using e1
          have e2 : s.ev z = .v (.int k') (q : Int) := by simpa using e2
          refine key (fun _ => p) (fun _ => q) (fun c => c) _ ?_ hpq hq (fun c hc => Nat.le_trans hq hc) (fun s2 φ a w cap hag hs hc => ?_) h
          · unfold Vw.out; cases V.at_ <;> simp
          · have g2 := ev_ok hs y
            rw [hag y (mlo y rfl), e1] at g2
            have g2 := RepV.int g2
            have g3 := ev_ok hs z
            rw [hag z (mhi z rfl), e2] at g3
            have g3 := RepV.int g3
            have h9 : q ≤ cap := by omega
            simp [Instr.sliceBounds, Instr.sliceBound, asIntOf, g2, g3, h9, hpq]
    · cases h
end ops
end Go.Proofs.Ytbchgegclgpdhaa.E
