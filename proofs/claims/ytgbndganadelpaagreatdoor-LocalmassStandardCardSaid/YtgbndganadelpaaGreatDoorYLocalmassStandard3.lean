/- Operations that make memory: variables, composite values and slices. -/
import Derived.Test.YtgbndganadelpaaGreatDoorYLocalmassStandard2
import Derived.Great.BuildSlice
import Derived.Laws.Alloc2
namespace Go.Proofs.YtgbndganadelpaaGreatDoor.E
open Go
set_option linter.unusedVariables false
set_option linter.unusedSimpArgs false
theorem SRp.later {C : Ctx} {φ : Pl} {s : S} {a : Act} {w w' : World} (h : SRp C φ s a w) (hw : Same w w') : SRp C φ s a w' := by
  have hfr : Fr (OS C.F φ s) w w' := ⟨hw.size, fun b _ hb => hw.block b hb⟩
  have hpl : ∀ d b o z, (s.bk d).isSome = true → φ d = some (b, o, z) → w'.heap[b]? = w.heap[b]? := fun d b o z h1 h2 => hw.block b (h.place d b o z h1 h2).1
  exact {
    defers := h.defers, size := h.size, os := hw.os.trans h.os, tape := hw.tape.trans h.tape, output := hw.output.trans h.output,
    grow := Nat.le_trans h.grow hw.size,
    old := (fun b hb hn => (hw.block b (Nat.lt_of_lt_of_le hb h.grow)).trans (h.old b hb hn)),
    win := (fun b o n hb => by
      obtain ⟨h1, c, c', el, h2, h3, h4, h5⟩ := h.win b o n hb
      exact ⟨h1, c, c', el, h2, by rw [hw.block b (Nat.lt_of_lt_of_le h1 h.grow)]; exact h3, h4, h5⟩),
    place := (fun d b o z hl hp => by
      obtain ⟨h1, h2⟩ := h.place d b o z hl hp
      exact ⟨Nat.lt_of_lt_of_le h1 hw.size, h2⟩),
    inj := h.inj,
    blk := (fun d B hB => by
      have hl : (s.bk d).isSome = true := by rw [hB]; rfl
      have ho := h.blk d B hB
      cases B with
      | arr et t xs =>
        rcases ho with h1 | ⟨b, o, z, c, el, h1, h2, h3, h4, h5⟩
        · exact .inl h1
        · refine .inr ⟨b, o, z, c, el, h1, by rw [hpl d b o z hl h1]; exact h2, h3, h4, fun i x hx => ?_⟩
          obtain ⟨vs, e1, r, hc⟩ := h5 i x hx
          exact ⟨vs, e1, RepC.frame hfr (fun _ h => .inl h) _ _ _ r, hc⟩
      | box cs =>
        obtain ⟨b, z, c, el, h1, h2, h3, h4, h5⟩ := ho
        refine ⟨b, z, c, el, h1, by rw [hpl d b 0 z hl h1]; exact h2, h3, h4, fun j x hx => ?_⟩
        obtain ⟨u, hu, ho⟩ := h5 j x hx
        exact ⟨u, hu, ho.frame hfr⟩),
    tmp := fun t => (h.tmp t).frame hfr }
theorem Same.alloc (w : World) (o : Obj) : Same w (w.alloc o) := ⟨rfl, rfl, rfl, by simp, fun b hb => heap_alloc_old w o b hb⟩
theorem not_new {C : Ctx} {φ : Pl} {s : S} {a : Act} {w : World} (h : SRp C φ s a w) {b : Nat} (hb : w.heap.size ≤ b) : ¬ OS C.F φ s b := by
  rintro (h1 | ⟨d, o, z, h1, h2⟩)
  · have := C.hF.lt b h1
    have := h.grow
    omega
  · have := (h.place d b o z h1 h2).1
    omega
/-- A new block of the call's own. -/
theorem SRp.alloc {C : Ctx} {φ : Pl} {s : S} {a : Act} {w : World} (h : SRp C φ s a w) {d : Nat} (hd : s.bk d = none) (hdn : d < C.n) (B : Blk) (c : Array Value) (el : TypeId)
    (hB : ∀ (φ' : Pl) (σ' : Nat → Option Sh) (O' : Nat → Prop), (∀ b, O' b → OS C.F φ s b ∨ w.heap.size ≤ b) → φ' d = some (w.heap.size, 0, c.size) → σ' d = some B.sh → BlkOk φ' σ' O' (w.alloc (.cells c el)) d B) :
    SRp C (upd φ d (some (w.heap.size, 0, c.size))) (s.set d B) a (w.alloc (.cells c el)) := by
  have hw := Same.alloc w (.cells c el)
  refine h.setB d B _ (.inr (h.noref hd)) ⟨hw.size, fun b _ hb => hw.block b hb⟩ rfl rfl rfl (fun b hb hn => hw.block b (Nat.lt_of_lt_of_le hb h.grow))
    (fun b o n hb => .inl (hw.block b (Nat.lt_of_lt_of_le (h.win b o n hb).1 h.grow))) (fun d' b o z _ h1 h2 => hw.block b (h.place d' b o z h1 h2).1) ?_ ?_
  · intro b o z e
    cases e
    exact ⟨by simp, .inl ⟨h.grow, fun e => by have := C.hn; omega⟩, fun d' b' o' z' _ h1 h2 e => by have := (h.place d' b' o' z' h1 h2).1; omega, .inr (Nat.le_refl _)⟩
  · refine hB _ _ _ ?_ (upd_same _ _ _) (set_sh_same _ _ _)
    rintro b (hb | ⟨d', o, z, h1, h2⟩)
    · exact .inl (.inl hb)
    · by_cases e : d' = d
      · subst e; rw [upd_same] at h2; cases h2; exact .inr (Nat.le_refl _)
      · rw [upd_ne _ _ e] at h2; rw [set_ne _ _ e] at h1; exact .inl (.inr ⟨d', o, z, h1, h2⟩)
section ops
variable {P : Program} {E : Env} {C : Ctx} {s : S} {o : Oper} {R : Type} {r : R}
/-- A new variable. -/
theorem box_ok {T : Ty} {v : T.den} {e d : Nat} {K : Ev → Option R} (hd : o.dst = some d)
    (hrun : ∀ (s2 : S) φ a w, Agree C s s2 o { a := .ptr d 0 0, nb := some (.box (toC T v)) } → SRp C φ s2 a w → ∃ c : Array Value, RepC w (OS C.F φ s2) T v c.toList ∧
      (execOp a.eval o).run P w = .ok (.value (.pointer (some ⟨w.heap.size, 0, none⟩))) (w.alloc (.cells c e)))
    (h : K { a := .ptr d 0 0, nb := some (.box (toC T v)) } = some r) : ∃ e, EvOk P C s o e ∧ K e = some r := by
  refine ⟨_, ?_, h⟩
  intro s2 hag φ a w hs K' Q hK
  obtain ⟨c, hr, hrun⟩ := hrun s2 φ a w hag hs
  have hn := hag.nb _ d rfl hd
  have hsz : c.size = T.size := by rw [← Array.length_toList]; exact RepC.length _ _ _ hr
  have hs' := hs.alloc hn (hag.dst d hd) (.box (toC T v)) c e fun φ' σ' O' hO h1 h2 => ⟨w.heap.size, c.size, c, e, h1, heap_alloc_new w _, rfl, by rw [toC_length, hsz], fun j x hx => by
    have hr' : RepC (w.alloc (.cells c e)) O' T v c.toList := RepC.frame ⟨by simp, fun b _ hb => heap_alloc_old w _ b hb⟩ hO _ _ _ hr
    obtain ⟨u, hu, ho⟩ := (toC_ok (φ := φ') (σ := σ') T v _ hr').at hx
    exact ⟨u, by simpa using hu, ho⟩⟩
  unfold Oper.wp
  rw [hrun]
  refine hK _ _ ⟨upd φ d (some (w.heap.size, 0, c.size)), ?_⟩
  have he : Ev.eff { a := .ptr d 0 0, nb := some (.box (toC T v)) } o.dst s2 = (s2.set d (.box (toC T v))).put d (.ptr d 0 0) := by rw [hd]; rfl
  rw [he, hd]
  exact hs'.put (hag.dst d hd) ⟨w.heap.size, 0, c.size, upd_same _ _ _, .inr ⟨set_sh_same _ _ _, rfl, rfl⟩⟩
theorem zero_rep {t : Nat} {T : Ty} (h : TyOk P t T) (w : World) (O : Nat → Prop) : ∃ z, (zeroValue t).run P w = .ok z w ∧ RepC w O T T.zero z.cells.toList := by
  obtain ⟨i, z, h1, h2, h3, h4, h5⟩ := h.info
  obtain ⟨vs, e, r⟩ := ofVal_rep w O T _ _ _ h5
  rw [List.append_nil] at e
  exact ⟨z, by simp [zeroValue, typeInfo, h1, h3], by rw [e]; exact r⟩
theorem alloc_ok (hT : Tabs E P) {e : Nat} {K : Ev → Option R} (ho : o.op = .alloc e) (h : (match find E.ty e, o.dst with
    | some T, some d => K { a := .ptr d 0 0, nb := some (.box (toC T T.zero)) }
    | _, _ => none) = some r) : ∃ e, EvOk P C s o e ∧ K e = some r := by
  split at h
  · rename_i T d hT' hd
    refine box_ok (e := e) hd (fun s2 φ a w hag hs => ?_) h
    obtain ⟨z, h1, h2⟩ := zero_rep (hT.ty _ _ hT') w (OS C.F φ s2)
    exact ⟨z.cells, h2, by simp [execOp, ho, Instr.alloc, h1, newVar, newRow]⟩
  · cases h
theorem boxop_ok (hT : Tabs E P) {e : Nat} {x : Operand} {K : Ev → Option R} (ho : o.op = .box e x) (h : (match find E.ty e, o.dst with
    | some T, some d => match asTy T (s.ev x) with
      | some v => K { a := .ptr d 0 0, nb := some (.box (toC T v)) }
      | none => none
    | _, _ => none) = some r) : ∃ e, EvOk P C s o e ∧ K e = some r := by
  split at h
  · rename_i T d hT' hd
    split at h
    · rename_i v hv
      refine box_ok (e := e) hd (fun s2 φ a w hag hs => ?_) h
      have h1 := ev_ok hs x
      rw [hag.ev x (by simp [ho, Op.operands])] at h1
      exact ⟨(a.eval x).cells, (asTy_ok hv h1).cells, by simp [execOp, ho, Instr.box, newVar, newRow]⟩
    · cases h
  · cases h
/-- The list that a composite slice holds, in its new row. -/
theorem row_ok {T : Ty} {φ : Pl} {s2 : S} {a : Act} {w : World} (hs : SRp C φ s2 a w) : ∀ (ps : List (Nat × Operand)) (i : Nat) (xs : List T.den), (∀ p ∈ ps, s2.ev p.2 = s.ev p.2) → row s T i ps = some xs →
    ∃ vs : List Value, ps.map (fun p => (p.1, a.eval p.2)) = (vs.zipIdx i).map (fun x => (x.2, x.1)) ∧ vs.length = xs.length ∧ vs.length = ps.length ∧
      ∀ (j : Nat) (x : T.den), xs[j]? = some x → ∃ v : Value, vs[j]? = some v ∧ RepC w (OS C.F φ s2) T x v.cells.toList
  | [], i, xs, _, h => by cases h; exact ⟨[], rfl, rfl, rfl, fun j x hx => by cases hx⟩
  | (j, x) :: ps, i, xs, he, h => by
    simp only [row] at h
    obtain ⟨h0, h⟩ := cond_some' h
    have h0 : j = i := by rw [nbeq] at h0; exact of_decide_eq_true h0
    subst h0
    split at h
    · rename_i y l hy hl
      cases h
      obtain ⟨vs, e1, e2, e3, e4⟩ := row_ok hs ps (j + 1) l (fun p hp => he p (List.mem_cons_of_mem _ hp)) hl
      have h1 := ev_ok hs x
      rw [he (j, x) List.mem_cons_self] at h1
      refine ⟨a.eval x :: vs, by simp [e1], by simp [e2], by simp [e3], fun k z hz => ?_⟩
      cases k with
      | zero => cases hz; exact ⟨_, rfl, (asTy_ok hy h1).cells⟩
      | succ k => exact e4 k z hz
    · cases h
/-- The cells of a row of parts. -/
theorem row_at {T : Ty} {w : World} {O : Nat → Prop} {vs : List Value} {xs : List T.den} {cs : Array Value} (hpos : 0 < T.size) (hlen : vs.length = xs.length)
    (hk : ∀ k, cs[k]? = if 0 * T.size ≤ k ∧ k < (0 + vs.length) * T.size then (vs[k / T.size - 0]?).bind (fun v => v.cells[k % T.size]?) else none)
    (hr : ∀ (j : Nat) (x : T.den), xs[j]? = some x → ∃ v : Value, vs[j]? = some v ∧ RepC w O T x v.cells.toList) : RowAt w O cs 0 T xs := by
  intro i x hx
  obtain ⟨v, hv, hr⟩ := hr i x hx
  have hsz := RepC.length _ _ _ hr
  refine ⟨v.cells.toList, hsz, hr, fun j u hj => ?_⟩
  have hj' : j < T.size := by have := (List.getElem?_eq_some_iff.1 hj).1; omega
  have hi := (List.getElem?_eq_some_iff.1 hv).1
  have e1 : (0 + i * T.size + j) / T.size = i := by
    rw [Nat.zero_add, Nat.mul_comm, Nat.mul_add_div hpos, Nat.div_eq_of_lt hj', Nat.add_zero]
  have e2 : (0 + i * T.size + j) % T.size = j := by
    rw [Nat.zero_add, Nat.mul_comm, Nat.mul_add_mod, Nat.mod_eq_of_lt hj']
  have hlt : 0 + i * T.size + j < (0 + vs.length) * T.size := by
    have : (i + 1) * T.size ≤ vs.length * T.size := Nat.mul_le_mul_right _ hi
    rw [Nat.add_mul, Nat.one_mul] at this
    rw [Nat.zero_add, Nat.zero_add]
    omega
  rw [hk, if_pos ⟨by omega, hlt⟩, e1, e2, Nat.sub_zero, hv]
  simpa using hj
theorem RowAt.frame {w w' : World} {O O' : Nat → Prop} {c : Array Value} {b : Nat} {t : Ty} {xs : List t.den} (h : Fr O w w') (hO : ∀ b, O' b → O b ∨ w.heap.size ≤ b) (hr : RowAt w O c b t xs) : RowAt w' O' c b t xs := by
  intro i x hx
  obtain ⟨vs, e, r, hc⟩ := hr i x hx
  exact ⟨vs, e, RepC.frame h hO _ _ _ r, hc⟩
theorem lit_ok (hT : Tabs E P) {t n : Nat} {ps : Array (Nat × Operand)} {hw : List Nat} {K : Ev → Option R} (ho : o.op = .buildSlice t n ps) (h : (match find E.el t, o.dst with
    | some et, some d => match find E.ty et with
      | some T => match row s T 0 ps.toList with
        | some xs => cond (Nat.beq ps.toList.length n && (Nat.ble (n * T.size) 16777216 && !Nat.beq (n * T.size) 0)) (cond (has hw d) (K { a := .own d, nb := some (.arr et T xs) }) (K { a := .v (.sl T) xs })) none
        | none => none
      | none => none
    | _, _ => none) = some r) : ∃ e, EvOk P C s o e ∧ K e = some r := by
  split at h
  · rename_i et d hel hd
    split at h
    · rename_i T hT'
      split at h
      · rename_i xs hxs
        obtain ⟨h0, h⟩ := cond_some' h
        simp only [Bool.and_eq_true, Bool.not_eq_true', nbeq, decide_eq_true_eq, decide_eq_false_iff_not, Nat.ble_eq] at h0
        obtain ⟨hn, hsm, hne⟩ := h0
        have hty := hT.ty _ _ hT'
        have hu := hT.el _ _ hel
        obtain ⟨i, z, h1, h2, h3, h4, h5⟩ := hty.info
        have hpos : 0 < T.size := Nat.pos_of_ne_zero fun e => hne (by rw [e, Nat.mul_zero])
        -- the operation
        have hrun : ∀ (s2 : S) φ a w, (∀ x ∈ o.op.operands, s2.ev x = s.ev x) → SRp C φ s2 a w → ∃ cs : Array Value, cs.size = n * T.size ∧ RowAt w (OS C.F φ s2) cs 0 T xs ∧ List.length xs = n ∧
            (execOp a.eval o).run P w = .ok (.value (.slice (some ⟨w.heap.size, 0, none⟩) n n)) (w.alloc (.cells cs et)) := by
          intro s2 φ a w hag hs
          obtain ⟨vs, e1, e2, e3, e4⟩ := row_ok (s := s) hs ps.toList 0 xs (fun p hp => hag p.2 (by
            rw [ho]; simp only [Op.operands, List.mem_toArray, List.mem_map]
            exact ⟨p, hp, rfl⟩)) hxs
          have hvs : ∀ v ∈ vs, v.cells.size = i.size := by
            intro v hv
            obtain ⟨j, hj, e⟩ := List.getElem_of_mem hv
            obtain ⟨v', hv', hr⟩ := e4 j xs[j] (List.getElem?_eq_getElem (by omega))
            rw [List.getElem?_eq_getElem hj, e] at hv'
            cases hv'
            rw [h2, ← Array.length_toList]
            exact RepC.length _ _ _ hr
          have hvn : vs.length = n := by omega
          obtain ⟨cs, f1, f2, f3⟩ := Great.fill_dense (s := i.size) (by omega) vs 0 ((Array.range (n * i.size)).map (z.cells[· % z.cells.size]!)) hvs (by simp [hvn])
          have hf : Instr.fill (fun j => some (j * i.size, i.size)) ((Array.range (n * i.size)).map (z.cells[· % z.cells.size]!)) (ps.map fun (j, x) => (j, a.eval x)).toList = some cs := by
            rw [← f1]
            congr 1
            rw [Array.toList_map]
            exact e1
          refine ⟨cs, by rw [f2]; simp [h2], row_at hpos e2 (fun k => ?_) e4, by omega, ?_⟩
          · rw [f3 k, h2]
            by_cases hk : 0 * T.size ≤ k ∧ k < (0 + vs.length) * T.size
            · rw [if_pos hk, if_pos hk]
            · rw [if_neg hk, if_neg hk, Array.getElem?_eq_none]
              rw [Array.size_map, Array.size_range]
              rw [Nat.zero_add, hvn] at hk
              omega
          · have := run_buildSlice (P := P) w t et n _ cs i z hu h1 h3 (by rw [h2]; omega) (by rw [h2]; exact hne) hf
            simp [execOp, ho, this]
        cases hh : has hw d with
        | true =>
          rw [hh, cond_true] at h
          refine ⟨_, ?_, h⟩
          intro s2 hag φ a w hs K' Q hK
          obtain ⟨cs, g1, g2, g3, g4⟩ := hrun s2 φ a w hag.ev hs
          have hs' := hs.alloc (hag.nb _ d rfl hd) (hag.dst d hd) (.arr et T xs) cs et fun φ' σ' O' hO p1 p2 => .inr ⟨w.heap.size, 0, cs.size, cs, et, p1, heap_alloc_new w _, rfl, .inr (.inr rfl),
            g2.frame ⟨by simp, fun b _ hb => heap_alloc_old w _ b hb⟩ hO⟩
          unfold Oper.wp
          rw [g4]
          refine hK _ _ ⟨upd φ d (some (w.heap.size, 0, cs.size)), ?_⟩
          have he : Ev.eff { a := .own d, nb := some (.arr et T xs) } o.dst s2 = (s2.set d (.arr et T xs)).put d (.own d) := by rw [hd]; rfl
          rw [he, hd]
          refine hs'.put (hag.dst d hd) ⟨T, _, _, n, set_sh_same _ _ _, by rw [g3], by rw [g3]; exact Nat.le_refl _, .inr ⟨w.heap.size, 0, cs.size, upd_same _ _ _, rfl, .inr ⟨rfl, g1, ?_⟩⟩⟩
          have : n ≤ n * T.size := Nat.le_mul_of_pos_right n hpos
          simp only [maxLen]; omega
        | false =>
          rw [hh, cond_false] at h
          refine ⟨_, ?_, h⟩
          intro s2 hag φ a w hs K' Q hK
          obtain ⟨cs, g1, g2, g3, g4⟩ := hrun s2 φ a w hag.ev hs
          have hs' := hs.later (Same.alloc w (.cells cs et))
          unfold Oper.wp
          rw [g4]
          refine hK _ _ ⟨φ, ?_⟩
          have he : Ev.eff { a := .v (.sl T) xs } o.dst s2 = s2.puto o.dst (.v (.sl T) xs) := by cases o.dst <;> rfl
          rw [he]
          refine hs'.puto hag.dst (RepV.of_sl ⟨_, n, by rw [g3], by rw [g3]; exact Nat.le_refl _, fun j x hx => ?_⟩)
          obtain ⟨vs, q1, q2, q3⟩ := g2 j x hx
          refine ⟨w.heap.size, 0, vs, rfl, not_new hs (Nat.le_refl _), by simp, row_cells (heap_alloc_new w _) q3, RepC.frame ⟨by simp, fun b _ hb => heap_alloc_old w _ b hb⟩ (fun _ h => .inl h) _ _ _ q2⟩
      · cases h
    · cases h
  · cases h
theorem madeCells_row {T : Ty} {w : World} {O : Nat → Prop} {z : Value} {n : Nat} (hz : RepC w O T T.zero z.cells.toList) (hpos : 0 < T.size) : RowAt w O (madeCells z.cells (n * T.size)) 0 T (List.replicate n T.zero) := by
  have hsz : z.cells.size = T.size := by rw [← Array.length_toList]; exact RepC.length _ _ _ hz
  intro i x hx
  obtain ⟨hi, e⟩ := List.getElem?_eq_some_iff.1 hx
  rw [List.length_replicate] at hi
  rw [List.getElem_replicate] at e
  subst e
  refine ⟨z.cells.toList, by rw [Array.length_toList, hsz], hz, fun j u hj => ?_⟩
  have hj' : j < T.size := by have := (List.getElem?_eq_some_iff.1 hj).1; rw [Array.length_toList] at this; omega
  have hlt : 0 + i * T.size + j < n * T.size := by
    have : (i + 1) * T.size ≤ n * T.size := Nat.mul_le_mul_right _ hi
    rw [Nat.add_mul, Nat.one_mul] at this
    omega
  have e2 : (0 + i * T.size + j) % T.size = j := by
    rw [Nat.zero_add, Nat.mul_comm, Nat.mul_add_mod, Nat.mod_eq_of_lt hj']
  have hj2 : j < z.cells.size := by omega
  simp only [madeCells, Array.getElem?_map, Array.getElem?_range, hlt, if_true, Option.map_some, hsz, e2]
  rw [getElem!_pos z.cells j hj2]
  simpa [hj2] using hj
theorem make_ok (hT : Tabs E P) {t : Nat} {l c : Operand} {K : Ev → Option R} (ho : o.op = .makeSlice t l c) (h : (match find E.el t, o.dst, opdEq l c, s.ev l with
    | some et, some d, true, .v (.int _) n => match find E.ty et with
      | some T => cond (inC n maxL) (cond (Nat.beq T.size 0) none (K { a := .own d, nb := some (.arr et T (List.replicate n.toNat T.zero)) })) none
      | none => none
    | _, _, _, _ => none) = some r) : ∃ e, EvOk P C s o e ∧ K e = some r := by
  split at h
  · rename_i et d k n hel hd heq hl
    split at h
    · rename_i T hT'
      obtain ⟨h0, h⟩ := cond_some' h
      obtain ⟨h00, h⟩ := cond_some h
      simp only [inC, maxL, Bool.and_eq_true] at h0
      rw [nbeq] at h00
      have hpos : 0 < T.size := Nat.pos_of_ne_zero (of_decide_eq_false h00)
      have hty := hT.ty _ _ hT'
      have hu := hT.el _ _ hel
      obtain ⟨i, z, h1, h2, h3, h4, h5⟩ := hty.info
      refine ⟨_, ?_, h⟩
      intro s2 hag φ a w hs K' Q hK
      have g1 := ev_ok hs l
      have g2 := ev_ok hs c
      rw [hag.ev l (by simp [ho, Op.operands])] at g1
      rw [hag.ev c (by simp [ho, Op.operands])] at g2
      have hc : ∃ k', a.eval c = .int k' n := by
        cases l with
        | tmp x =>
          cases c with
          | tmp y =>
            simp only [opdEq, nbeq, decide_eq_true_eq] at heq
            subst heq
            rw [hl] at g2
            exact ⟨k, RepV.int g2⟩
          | _ => cases heq
        | const v =>
          cases v with
          | int kk m =>
            cases c with
            | const v' => cases v' with
              | int k2 m2 =>
                simp only [opdEq, decide_eq_true_eq] at heq
                simp only [S.ev, AV.v.injEq] at hl
                obtain ⟨e1, e2⟩ := hl
                cases e1
                cases e2
                subst heq
                exact ⟨k2, rfl⟩
              | _ => cases heq
            | _ => cases heq
          | _ => cases c <;> cases heq
        | _ => cases c <;> cases heq
      obtain ⟨k', hc⟩ := hc
      rw [hl] at g1
      have g1 := RepV.int g1
      obtain ⟨m, rfl⟩ : ∃ m : Nat, n = (m : Int) := ⟨Int.toNat n, (Int.toNat_of_nonneg (show (0 : Int) ≤ n from of_decide_eq_true h0.1)).symm⟩
      have hm : m ≤ 1073741824 := by
        have : (m : Int) ≤ ((1073741824 : Nat) : Int) := of_decide_eq_true h0.2
        omega
      simp only [Int.toNat_natCast] at *
      have hb : i.bytes * m ≤ 65536 * 1073741824 := Nat.mul_le_mul h4 hm
      obtain ⟨w', hr, _⟩ := run_make_full (P := P) w w.heap.size t et i z T.size hu h1 h3 h2 k k' m (by omega) (by simp only [maxLen]; omega) (Nat.le_refl _)
      have hr2 := run_make (P := P) w t et i z hu h1 h3 k k' m m (by omega) (Int.le_refl _) (by
        have : ((i.bytes * m : Nat) : Int) ≤ 65536 * 1073741824 := by omega
        rw [Int.natCast_mul] at this; omega) (by omega)
      simp only [Int.toNat_natCast] at hr2
      rw [h2] at hr2
      obtain ⟨vs, e, hz⟩ := ofVal_rep w (OS C.F φ s2) T _ _ _ h5
      rw [List.append_nil] at e
      rw [← e] at hz
      have hrow := madeCells_row (w := w) (O := OS C.F φ s2) (n := m) hz hpos
      have hs' := hs.alloc (hag.nb _ d rfl hd) (hag.dst d hd) (.arr et T (List.replicate m T.zero)) (madeCells z.cells (m * T.size)) et fun φ' σ' O' hO p1 p2 => .inr ⟨w.heap.size, 0, _, _, et, p1, heap_alloc_new w _, rfl, .inr (.inr rfl),
        hrow.frame ⟨by simp, fun b _ hb => heap_alloc_old w _ b hb⟩ hO⟩
      unfold Oper.wp
      have hrun : (execOp a.eval o).run P w = .ok (.value (.slice (some ⟨w.heap.size, 0, none⟩) m m)) (w.alloc (.cells (madeCells z.cells (m * T.size)) et)) := by
        simp [execOp, ho, g1, hc, hr2]
      rw [hrun]
      refine hK _ _ ⟨upd φ d (some (w.heap.size, 0, (madeCells z.cells (m * T.size)).size)), ?_⟩
      have he : Ev.eff { a := .own d, nb := some (.arr et T (List.replicate m T.zero)) } o.dst s2 = (s2.set d (.arr et T (List.replicate m T.zero))).put d (.own d) := by rw [hd]; rfl
      rw [he, hd]
      refine hs'.put (hag.dst d hd) ⟨T, m, _, m, by rw [set_sh_same]; simp [Blk.sh], rfl, Nat.le_refl _, .inr ⟨w.heap.size, 0, _, upd_same _ _ _, rfl, .inr ⟨rfl, size_madeCells _ _, ?_⟩⟩⟩
      simp only [maxLen]; omega
    · cases h
  · cases h
end ops
end Go.Proofs.YtgbndganadelpaaGreatDoor.E
/- Operations that write: stores, append, copy. -/
namespace Go.Proofs.YtgbndganadelpaaGreatDoor.E
open Go
set_option linter.unusedVariables false
set_option linter.unusedSimpArgs false
theorem RepC.one {w : World} {O : Nat → Prop} : ∀ (t : Ty) (x : t.den) (us : List Value), RepC w O t x us → ∀ u ∈ us, u.oneCell' = true
  | .int _, _, _, r, u, h => by simp only [RepC] at r; subst r; rw [List.mem_singleton] at h; subst h; rfl
  | .bool, _, _, r, u, h => by simp only [RepC] at r; subst r; rw [List.mem_singleton] at h; subst h; rfl
  | .str, _, _, r, u, h => by simp only [RepC] at r; subst r; rw [List.mem_singleton] at h; subst h; rfl
  | .unit, _, _, r, u, h => by simp only [RepC] at r; subst r; cases h
  | .pair a b, x, us, r, u, h => by
    obtain ⟨u1, u2, rfl, r1, r2⟩ := r
    rcases List.mem_append.1 h with h | h
    · exact RepC.one a _ _ r1 u h
    · exact RepC.one b _ _ r2 u h
  | .sl t, xs, us, r, u, h => by obtain ⟨ad, cap, rfl, _⟩ := r; rw [List.mem_singleton] at h; subst h; rfl
/-- The cells of a block with others laid over a part of them. -/
def layA (c : Array Value) (o : Nat) (vs : List Value) : Array Value := (c.toList.take o ++ vs ++ c.toList.drop (o + vs.length)).toArray
theorem layA_size {c : Array Value} {o : Nat} {vs : List Value} (h : o + vs.length ≤ c.size) : (layA c o vs).size = c.size := by
  simp only [layA, List.size_toArray, List.length_append, List.length_take, List.length_drop, Array.length_toList]; omega
theorem layA_in {c : Array Value} {o : Nat} {vs : List Value} (h : o + vs.length ≤ c.size) {j : Nat} (hj : j < vs.length) : (layA c o vs)[o + j]? = vs[j]? := by
  have h1 : (c.toList.take o).length = o := by simp; omega
  simp only [layA, List.getElem?_toArray]
  rw [List.append_assoc, List.getElem?_append_right (by omega), h1, List.getElem?_append_left (by omega)]
  congr 1; omega
theorem layA_out {c : Array Value} {o : Nat} {vs : List Value} (h : o + vs.length ≤ c.size) {k : Nat} (hk : k < o ∨ o + vs.length ≤ k) : (layA c o vs)[k]? = c[k]? := by
  have h1 : (c.toList.take o).length = o := by simp; omega
  simp only [layA, List.getElem?_toArray]
  rcases hk with hk | hk
  · rw [List.append_assoc, List.getElem?_append_left (by omega), List.getElem?_take, if_pos hk]; simp
  · rw [List.getElem?_append_right (by simp; omega), List.getElem?_drop]
    simp only [List.length_append, h1, Array.getElem?_toList]
    congr 1; omega
/-- A block is written; its shape stays. -/
theorem SRp.write {C : Ctx} {φ : Pl} {s : S} {a : Act} {w : World} (h : SRp C φ s a w) {d b o z : Nat} {B B' : Blk} {c c' : Array Value} {el : TypeId}
    (hd : s.bk d = some B) (hp : φ d = some (b, o, z)) (hb : w.heap[b]? = some (.cells c el (0, 0))) (hsz : c'.size = c.size) (hsh : B'.sh = B.sh)
    (hwin : d = BOR → ∀ t n, B.sh = .arr t n → ∀ k, k < o ∨ o + n * t.size ≤ k → c'[k]? = c[k]?)
    (hB : Fr (OS C.F φ s) w (w.setRow b c') → (w.setRow b c').heap[b]? = some (.cells c' el (0, 0)) → BlkOk φ s.sh (OS C.F φ s) (w.setRow b c') d B') :
    SRp C φ (s.set d B') a (w.setRow b c') := by
  have hl : (s.bk d).isSome = true := by rw [hd]; rfl
  have hO : OS C.F φ s b := .inr ⟨d, o, z, hl, hp⟩
  have hoth : ∀ k, k ≠ b → (w.setRow b c').heap[k]? = w.heap[k]? := fun k hk => setRow_other w b k c' hk
  have hfr : Fr (OS C.F φ s) w (w.setRow b c') := ⟨by simp, fun k hk _ => hoth k fun e => hk (e ▸ hO)⟩
  obtain ⟨hlt, hpl⟩ := h.place d b o z hl hp
  have hsh0 : s.sh d = some B'.sh := by rw [hsh]; simp only [S.sh, hd, Option.map_some]
  have hSs : (s.set d B').sh = s.sh := by
    funext x
    by_cases e : x = d
    · subst e; rw [set_sh_same, hsh0]
    · exact set_sh_ne _ _ e
  have hOS : OS C.F φ (s.set d B') = OS C.F φ s := by
    funext x
    unfold OS
    congr 1
    apply propext
    constructor
    · rintro ⟨d', o', z', h1, h2⟩
      refine ⟨d', o', z', ?_, h2⟩
      by_cases e : d' = d
      · subst e; exact hl
      · rw [set_ne _ _ e] at h1; exact h1
    · rintro ⟨d', o', z', h1, h2⟩
      refine ⟨d', o', z', ?_, h2⟩
      by_cases e : d' = d
      · subst e; rw [set_same]; rfl
      · rw [set_ne _ _ e]; exact h1
  have key := h.setB (w' := w.setRow b c') d B' (φ d) (.inl ⟨hsh0, rfl⟩) hfr rfl rfl rfl
    (fun k hk hn => hoth k fun e => by
      subst e
      rcases hpl with h1 | ⟨_, t, m, _, h2⟩
      · have := h1.1; omega
      · exact hn _ _ h2)
    (fun k s' n hk => by
      by_cases e : k = b
      · subst e
        rcases hpl with h1 | ⟨e1, t, m, h2, h3⟩
        · have := (h.win _ _ _ hk).1; have := h1.1; omega
        · rw [h3] at hk
          cases hk
          refine .inr ⟨c, c', el, hb, setRow_heap w _ c c' el (0, 0) hb, hsz, fun k hk => ?_⟩
          have : B.sh = .arr t m := by simpa [S.sh, hd] using h2
          exact hwin e1 t m this k hk
      · exact .inl (hoth k e))
    (fun d' b' o' z' hne h1 h2 => hoth b' fun e => by subst e; exact hne (h.inj d' d _ _ _ _ _ h1 hl h2 hp))
    (fun b' o' z' e => by
      rw [hp] at e
      cases e
      exact ⟨by simpa using hlt, hpl.imp id fun ⟨e1, t, m, h2, h3⟩ => ⟨e1, t, m, (by rw [hsh0] at h2; exact Option.some.inj h2), h3⟩,
        fun d' b'' o'' z'' hne h1 h2 e => (by subst e; exact hne (h.inj d' d _ _ _ _ _ h1 hl h2 hp)), .inl hO⟩)
    (by rw [upd_self, hSs, hOS]; exact hB hfr (setRow_heap w b c c' el (0, 0) hb))
  rwa [upd_self] at key
section ops
variable {P : Program} {E : Env} {C : Ctx} {s : S} {o : Oper} {R : Type} {r : R}
theorem run_store_at {t : Nat} {T : Ty} (h : TyOk P t T) {w : World} {b o' : Nat} {v : Value} {c : Array Value} {el : TypeId} (hb : w.heap[b]? = some (.cells c el (0, 0)))
    (hsz : v.cells.size = T.size) (hfit : o' + T.size ≤ c.size) (h1 : ∀ u ∈ v.cells.toList, u.oneCell' = true) :
    (storeVar t ⟨b, o', none⟩ v).run P w = .ok () (w.setRow b (layA c o' v.cells.toList)) := by
  have := run_storeCells_at P b o' el v.cells.toList 0 c w hb (by rw [Array.length_toList, hsz]; omega) h1
  simp only [Nat.add_zero] at this
  simp [storeVar, run_size h, hsz, this, layA]
/-- What a stored value leaves in the cells. -/
theorem valC_ok {φ : Pl} {σ : Nat → Option Sh} {w : World} {O : Nat → Prop} {T : Ty} {x : AV} {new : List AV} {u : Value} (h : valC T x = some new) (ho : Ok φ σ O w x u) :
    u.cells.size = T.size ∧ (∀ v ∈ u.cells.toList, v.oneCell' = true) ∧ CellsOk φ σ O w new u.cells.toList := by
  unfold valC at h
  split at h
  · rename_i y hy
    cases h
    have hr := (asTy_ok hy ho).cells
    exact ⟨by rw [← Array.length_toList]; exact RepC.length _ _ _ hr, RepC.one _ _ _ hr, toC_ok _ _ _ hr⟩
  · cases ht : T.agg with
    | true => rw [ht] at h; cases h
    | false =>
      rw [ht, cond_false] at h
      have h1 : T.size = 1 := by cases T <;> first | rfl | cases ht
      split at h
      · rename_i d
        cases h
        have ho' := ho
        obtain ⟨t, n, ad, cap, _, rfl, _⟩ := ho
        exact ⟨h1.symm, fun v hv => by rw [List.mem_singleton.1 hv]; rfl, ⟨_, [], rfl, ho', rfl⟩⟩
      · cases h
theorem CellsOk.move {φ φ' : Pl} {σ σ' : Nat → Option Sh} {O O' : Nat → Prop} {w w' : World} (hm : ∀ x u, Ok φ σ O w x u → Ok φ' σ' O' w' x u) : ∀ {as_ : List AV} {us : List Value}, CellsOk φ σ O w as_ us → CellsOk φ' σ' O' w' as_ us
  | [], _, h => h
  | a :: r, us, h => by obtain ⟨u, l, e, h1, h2⟩ := h; exact ⟨u, l, e, hm _ _ h1, h2.move hm⟩
theorem store_ok (hT : Tabs E P) {t : Nat} {p x : Operand} {K : Ev → Option R} (ho : o.op = .store t p x) (hdst : o.dst = none) (h : stK E s t (s.ev p) (s.ev x) K = some r) : ∃ e, EvOk P C s o e ∧ K e = some r := by
  have mp : p ∈ o.op.operands := by simp [ho, Op.operands]
  have mx : x ∈ o.op.operands := by simp [ho, Op.operands]
  unfold stK at h
  split at h
  · cases h
  rename_i T hT'
  have hty := hT.ty _ _ hT'
  cases hp : s.ev p with
  | ptr d i off =>
    rw [hp] at h
    simp only at h
    cases hb : s.bk d with
    | none => rw [hb] at h; cases h
    | some B =>
      rw [hb] at h
      cases B with
      | box cs =>
        simp only at h
        split at h
        · rename_i new hnew
          obtain ⟨h0, h⟩ := cond_some' h
          rw [Nat.ble_eq] at h0
          refine ⟨_, ?_, h⟩
          intro s2 hag φ a w hs K' Q hK
          have h1 := ev_ok hs p
          have h2 := ev_ok hs x
          rw [hag.ev p mp, hp] at h1
          rw [hag.ev x mx] at h2
          have hb2 : s2.bk d = some (.box cs) := by rw [hag.wr d _ rfl, hb]
          obtain ⟨b, z, c, el, p1, p2, p3, p4⟩ := blk_cells hs hb2
          obtain ⟨b', o', z', e1, ⟨t', n, e2, _⟩ | ⟨_, _, e3⟩⟩ := h1
          · simp [S.sh, hb2, Blk.sh] at e2
          rw [p1] at e1; cases e1
          rw [Nat.zero_add] at e3
          obtain ⟨v1, v2, v3⟩ := valC_ok hnew h2
          have hl : (a.eval x).cells.toList.length = T.size := by rw [Array.length_toList, v1]
          have hfit : off + (a.eval x).cells.toList.length ≤ c.size := by rw [hl, p3]; exact h0
          have hrun := run_store_at (w := w) (b := b) (o' := off) hty p2 v1 (by rw [p3]; exact h0) v2
          unfold Oper.wp
          have : (execOp a.eval o).run P w = .ok .skip (w.setRow b (layA c off (a.eval x).cells.toList)) := by
            simp [execOp, ho, Instr.storeAt, Instr.sureAddr, e3, hrun]
          rw [this]
          refine hK _ _ ⟨φ, ?_⟩
          have he : Ev.eff { a := .und, wr := some (d, .box (layC cs off T.size new)) } o.dst s2 = s2.set d (.box (layC cs off T.size new)) := by rw [hdst]; rfl
          rw [he, hdst]
          have hlen : (layC cs off T.size new).length = cs.length := by
            have := v3.length
            rw [hl] at this
            simp only [layC, List.length_append, List.length_take, List.length_drop]; omega
          refine hs.write hb2 p1 p2 (layA_size hfit) rfl (fun _ t n e => by cases e) fun hfr hb' => ⟨b, z, _, el, p1, hb', ?_, by rw [layA_size hfit, hlen, p3], fun j y hy => ?_⟩
          · obtain ⟨_, _, _, _, g1, g2, g3, _⟩ := hs.blk d _ hb2
            rw [p1] at g1; cases g1; rw [p2] at g2; cases g2
            rw [layA_size hfit]; exact g3
          · have hc : CellsOk φ s2.sh (OS C.F φ s2) (w.setRow b (layA c off (a.eval x).cells.toList)) (layC cs off T.size new) (layA c off (a.eval x).cells.toList).toList := by
              have := ((p4.take off).append v3).append (p4.drop (off + T.size))
              rw [← hl] at this
              exact CellsOk.move (fun _ _ h => h.frame hfr) (by simpa [layA, layC, hl] using this)
            obtain ⟨u, hu, hok⟩ := hc.at hy
            exact ⟨u, by simpa using hu, hok⟩
        · cases h
      | arr et t' xs =>
        simp only at h
        split at h
        · rename_i v hv
          split at h
          · rename_i y hy
            obtain ⟨h0, h⟩ := cond_some' h
            simp only [Bool.and_eq_true, Bool.not_eq_true', nbeq, decide_eq_false_iff_not, Nat.ble_eq] at h0
            obtain ⟨h0, h00⟩ := h0
            refine ⟨_, ?_, h⟩
            intro s2 hag φ a w hs K' Q hK
            have h1 := ev_ok hs p
            have h2 := ev_ok hs x
            rw [hag.ev p mp, hp] at h1
            rw [hag.ev x mx] at h2
            have hb2 : s2.bk d = some (.arr et t' xs) := by rw [hag.wr d _ rfl, hb]
            have h1' : ∃ b' o' z', φ d = some (b', o', z') ∧ i < xs.length ∧ a.eval p = .pointer (some ⟨b', o' + i * t'.size + off, none⟩) := by
              obtain ⟨b', o', z', e1, ⟨t2, n, e2, e3, e4⟩ | ⟨e2, _⟩⟩ := h1
              · simp only [S.sh, hb2, Option.map_some, Blk.sh, Option.some.injEq, Sh.arr.injEq] at e2
                obtain ⟨rfl, rfl⟩ := e2
                exact ⟨b', o', z', e1, e3, e4⟩
              · simp [S.sh, hb2, Blk.sh] at e2
            obtain ⟨b, o2, z, g1, e3, e4⟩ := h1'
            have h5' : ∃ c el, w.heap[b]? = some (.cells c el (0, 0)) ∧ c.size = z ∧ (d = BOR ∨ et = 0 ∨ el = et) ∧ RowAt w (OS C.F φ s2) c o2 t' xs := by
              rcases hs.blk d _ hb2 with ⟨g, _⟩ | ⟨b', o', z', c, el, g, g2, g3, g4, g5⟩
              · rw [g] at g1; cases g1
              · rw [g] at g1; cases g1; exact ⟨c, el, g2, g3, g4, g5⟩
            obtain ⟨c, el, g2, g3, g4, g5⟩ := h5'
            obtain ⟨us, hul, hr, hc⟩ := g5 i xs[i] (List.getElem?_eq_getElem e3)
            have hx0 : xs.getD i t'.zero = xs[i] := by simp [List.getD, e3]
            rw [hx0] at hy
            have hrv := (asTy_ok hv h2).cells
            have v1 : (a.eval x).cells.size = T.size := by rw [← Array.length_toList]; exact RepC.length _ _ _ hrv
            have hl : (a.eval x).cells.toList.length = T.size := by rw [Array.length_toList, v1]
            -- the element's cells lie in the block
            have hin : o2 + i * t'.size + t'.size ≤ c.size := by
              have := hc (t'.size - 1) us[t'.size - 1] (List.getElem?_eq_getElem (by omega))
              have := (Array.getElem?_eq_some_iff.1 this).1
              omega
            have hfit : o2 + i * t'.size + off + (a.eval x).cells.toList.length ≤ c.size := by rw [hl]; omega
            have hrun := run_store_at (w := w) (b := b) (o' := o2 + i * t'.size + off) hty g2 v1 (by omega) (RepC.one _ _ _ hrv)
            unfold Oper.wp
            have : (execOp a.eval o).run P w = .ok .skip (w.setRow b (layA c (o2 + i * t'.size + off) (a.eval x).cells.toList)) := by
              simp [execOp, ho, Instr.storeAt, Instr.sureAddr, e4, hrun]
            rw [this]
            refine hK _ _ ⟨φ, ?_⟩
            have he : Ev.eff { a := .und, wr := some (d, .arr et t' (xs.set i y)) } o.dst s2 = s2.set d (.arr et t' (xs.set i y)) := by rw [hdst]; rfl
            rw [he, hdst]
            refine hs.write hb2 g1 g2 (layA_size hfit) (by simp [Blk.sh]) (fun e t n e' k hk => ?_) fun hfr hb' => .inr ⟨b, o2, z, _, el, g1, hb', by rw [layA_size hfit]; exact g3, g4, fun j q hq => ?_⟩
            · cases e'
              refine layA_out hfit ?_
              have : (i + 1) * t'.size ≤ xs.length * t'.size := Nat.mul_le_mul_right _ e3
              rw [Nat.add_mul, Nat.one_mul] at this
              rw [hl]
              rcases hk with hk | hk
              · left; omega
              · right; omega
            · by_cases hij : j = i
              · subst hij
                rw [List.getElem?_set_self e3] at hq
                cases hq
                have hcs : CellsOk φ s2.sh (OS C.F φ s2) w (layC (toC t' xs[j]) off T.size (toC T v)) (us.take off ++ (a.eval x).cells.toList ++ us.drop (off + T.size)) :=
                  (((toC_ok _ _ _ hr).take off).append (toC_ok _ _ _ hrv)).append ((toC_ok _ _ _ hr).drop _)
                obtain ⟨vs, us', q1, q2, q3⟩ := ofC_ok t' _ _ _ _ hy hcs
                simp only [CellsOk] at q3
                subst q3
                rw [List.append_nil] at q1
                refine ⟨vs, RepC.length _ _ _ q2, RepC.frame hfr (fun _ h => .inl h) _ _ _ q2, fun k u hk => ?_⟩
                rw [← q1] at hk
                have htl : (us.take off).length = off := by simp; omega
                by_cases hk1 : k < off
                · rw [layA_out hfit (by omega)]
                  rw [List.append_assoc, List.getElem?_append_left (by omega), List.getElem?_take, if_pos hk1] at hk
                  exact hc k u hk
                · by_cases hk2 : k < off + T.size
                  · rw [List.append_assoc, List.getElem?_append_right (by omega), htl, List.getElem?_append_left (by omega)] at hk
                    have := layA_in hfit (j := k - off) (by omega)
                    rw [hk] at this
                    rw [← this]
                    congr 1; omega
                  · rw [List.getElem?_append_right (by simp; omega)] at hk
                    simp only [List.length_append, htl, hl, List.getElem?_drop] at hk
                    rw [layA_out hfit (by omega)]
                    refine hc k u ?_
                    rw [← hk]; congr 1; omega
              · rw [List.getElem?_set_ne (Ne.symm hij)] at hq
                obtain ⟨vs, q1, q2, q3⟩ := g5 j q hq
                refine ⟨vs, q1, RepC.frame hfr (fun _ h => .inl h) _ _ _ q2, fun k u hk => ?_⟩
                have hkl := (List.getElem?_eq_some_iff.1 hk).1
                rw [layA_out hfit ?_]
                · exact q3 k u hk
                · rw [hl]
                  rcases Nat.lt_or_gt_of_ne hij with h3 | h3
                  · left
                    have : (j + 1) * t'.size ≤ i * t'.size := Nat.mul_le_mul_right _ h3
                    rw [Nat.add_mul, Nat.one_mul] at this
                    omega
                  · right
                    have : (i + 1) * t'.size ≤ j * t'.size := Nat.mul_le_mul_right _ h3
                    rw [Nat.add_mul, Nat.one_mul] at this
                    omega
          · cases h
        · cases h
      
  | _ => rw [hp] at h; cases h
end ops
end Go.Proofs.YtgbndganadelpaaGreatDoor.E
