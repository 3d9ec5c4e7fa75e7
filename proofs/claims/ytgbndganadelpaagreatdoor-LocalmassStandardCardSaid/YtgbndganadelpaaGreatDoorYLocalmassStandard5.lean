/- Composite structs, calls; and all operations together. -/
import Derived.Test.YtgbndganadelpaaGreatDoorYLocalmassStandard4
namespace Go.Proofs.YtgbndganadelpaaGreatDoor.E
open Go
set_option linter.unusedVariables false
set_option linter.unusedSimpArgs false
section ops
variable {P : Program} {E : Env} {C : Ctx} {s : S} {o : Oper} {R : Type} {r : R}
theorem foldl_layA (cells : Array Value) (off : Nat) (v : Array Value) (h : off + v.size ≤ cells.size) :
    v.zipIdx.foldl (fun cs (x : Value × Nat) => cs.setIfInBounds (off + x.2) x.1) cells = layA cells off v.toList := by
  obtain ⟨g1, g2⟩ := Great.foldl_set off v.toList 0 cells
  rw [← Array.foldl_toList, Array.toList_zipIdx]
  apply Array.ext_getElem?
  intro k
  rw [g2 k]
  by_cases hk : off + 0 ≤ k ∧ k < off + 0 + v.toList.length ∧ k < cells.size
  · rw [if_pos hk]
    have := layA_in (c := cells) (o := off) (vs := v.toList) (by simpa using h) (j := k - off) (by simp at hk ⊢; omega)
    rw [show off + (k - off) = k by omega] at this
    rw [this]; congr 1
  · rw [if_neg hk]
    by_cases hc : k < cells.size
    · rw [layA_out (by simpa using h) (by simp at hk ⊢; omega)]
    · rw [Array.getElem?_eq_none (by omega), Array.getElem?_eq_none (by rw [layA_size (by simpa using h)]; omega)]
theorem fill_ok (hT : Tabs E P) {φ : Pl} {s2 : S} {a : Act} {w : World} (hs : SRp C φ s2 a w) {fs : List (Nat × Nat)} {place : Nat → Option (Nat × Nat)}
    (hpl : ∀ i off ft T, fs[i]? = some (off, ft) → find E.ty ft = some T → place i = some (off, T.size)) :
    ∀ (ps : List (Nat × Operand)) (cs cs' : List AV) (cells : Array Value), CellsOk φ s2.sh (OS C.F φ s2) w cs cells.toList → (∀ p ∈ ps, s2.ev p.2 = s.ev p.2) → fill E s fs ps cs = some cs' →
      ∃ cells', Instr.fill place cells (ps.map fun p => (p.1, a.eval p.2)) = some cells' ∧ CellsOk φ s2.sh (OS C.F φ s2) w cs' cells'.toList
  | [], cs, cs', cells, hc, _, h => by cases h; exact ⟨cells, rfl, hc⟩
  | (i, x) :: ps, cs, cs', cells, hc, he, h => by
    simp only [fill] at h
    split at h
    · rename_i off ft hf
      split at h
      · rename_i T hT'
        split at h
        · rename_i v hv
          obtain ⟨h0, h⟩ := cond_some' h
          rw [Nat.ble_eq] at h0
          have h1 := ev_ok hs x
          rw [he (i, x) List.mem_cons_self] at h1
          have hr := (asTy_ok hv h1).cells
          have hsz : (a.eval x).cells.size = T.size := by rw [← Array.length_toList]; exact RepC.length _ _ _ hr
          have hcl : cells.size = cs.length := by rw [← Array.length_toList]; exact hc.length
          have hc' : CellsOk φ s2.sh (OS C.F φ s2) w (layC cs off T.size (toC T v)) (layA cells off (a.eval x).cells.toList).toList := by
            have := ((hc.take off).append (toC_ok (φ := φ) (σ := s2.sh) _ _ _ hr)).append (hc.drop (off + T.size))
            simpa [layA, layC, hsz] using this
          obtain ⟨cells', e1, e2⟩ := fill_ok hT hs hpl ps _ cs' _ hc' (fun p hp => he p (List.mem_cons_of_mem _ hp)) h
          refine ⟨cells', ?_, e2⟩
          rw [← e1]
          simp only [List.map_cons, Instr.fill, hpl i off ft T hf hT', hsz]
          rw [if_neg (by simp; omega)]
          congr 1
          exact foldl_layA cells off _ (by omega)
        · cases h
      · cases h
    · cases h
theorem mapM_some {α β : Type} {f : α → Option β} {g : α → β} : ∀ {l : List α}, (∀ x ∈ l, f x = some (g x)) → l.mapM f = some (l.map g)
  | [], _ => rfl
  | x :: l, h => by
    have h1 := h x List.mem_cons_self
    have h2 := mapM_some (l := l) fun y hy => h y (List.mem_cons_of_mem _ hy)
    simp [List.mapM_cons, h1, h2]
theorem build_ok (hT : Tabs E P) {t : Nat} {ps : Array (Nat × Operand)} {K : Ev → Option R} (ho : o.op = .build t ps) (h : (match find E.ty t, find E.fl t with
    | some T, some fs => match fill E s fs ps.toList (toC T T.zero) with
      | some cs => match ofC T cs with
        | some (x, []) => K { a := .v T x }
        | _ => none
      | none => none
    | _, _ => none) = some r) : ∃ e, EvOk P C s o e ∧ K e = some r := by
  split at h
  rotate_left
  · cases h
  rename_i T fs hT' hfs
  split at h
  rotate_left
  · cases h
  rename_i cs hcs
  split at h
  rotate_left
  · cases h
  rename_i x hx
  have hty := hT.ty _ _ hT'
  obtain ⟨F, hu, hF, hall⟩ := hT.fl _ _ hfs
  obtain ⟨it, z, i1, i2, i3, i4, i5⟩ := hty.info
  have hagg : T.agg = true := by
    have := hty.und
    cases T with
    | int k => have h2 : P.underlying t = _ := this; rw [hu] at h2; cases h2
    | bool => have h2 : P.underlying t = _ := this; rw [hu] at h2; cases h2
    | str => have h2 : P.underlying t = _ := this; rw [hu] at h2; cases h2
    | sl _ => obtain ⟨_, h2⟩ := this; rw [hu] at h2; cases h2
    | unit => rfl
    | pair _ _ => rfl
  refine ⟨_, EvOk.val fun s2 φ a w hag hs => ?_, h⟩
  obtain ⟨vs, e, hz⟩ := ofVal_rep w (OS C.F φ s2) T _ _ _ i5
  rw [List.append_nil] at e
  rw [← e] at hz
  let g : Field → Nat × Nat := fun f => (f.offset, ((P.info? f.type).map (·.size)).getD 0)
  have hinfo : ∀ f ∈ F.toList, (P.info? f.type).map (fun i => (f.offset, i.size)) = some (g f) := fun f hf => by
    have := hall (f.offset, f.type) (by rw [← hF]; exact List.mem_map.2 ⟨f, hf, rfl⟩)
    obtain ⟨Tf, hTf⟩ := Option.isSome_iff_exists.1 this
    obtain ⟨j, _, j1, _⟩ := (hT.ty _ _ hTf).info
    simp [g, j1]
  have hmap := mapM_some hinfo
  obtain ⟨cells, f1, f2⟩ := fill_ok (s := s) hT hs (place := ((F.toList.map g).toArray[·]?)) (fun i off ft Tf h1 h2 => by
    rw [← hF, List.getElem?_map, Option.map_eq_some_iff] at h1
    obtain ⟨f, h3, h4⟩ := h1
    cases h4
    obtain ⟨j, _, j1, j2, _⟩ := (hT.ty _ _ h2).info
    simp only [List.getElem?_toArray, List.getElem?_map, h3, Option.map_some, g, j1, Option.getD_some, j2]) ps.toList _ _ z.cells (toC_ok _ _ _ hz) (fun p hp => hag.ev p.2 (by
      rw [ho]; simp only [Op.operands, List.mem_toArray, List.mem_map]
      exact ⟨p, hp, rfl⟩)) hcs
  have hb : P.built t (ps.map fun (i, x) => (i, a.eval x)).toList = some cells := by
    simp only [Program.built, i1, hu, i3, hmap]
    rw [← f1]
    congr 1
    rw [Array.toList_map]
  obtain ⟨us, us', q1, q2, q3⟩ := ofC_ok T _ _ _ _ hx f2
  simp only [CellsOk] at q3
  subst q3
  rw [List.append_nil] at q1
  exact ⟨.agg cells, by simp [execOp, ho, run_build w t _ cells hb], RepV.of_agg hagg (by rw [q1]; exact q2)⟩
theorem run_call (hT : Tabs E P) {c : Call} {f : Operand} {g : Nat} {sg : Sg} (ho : o.op = .call c) (hc : c.callee = .value f) (hg : find E.sg g = some sg) {a : Act} {w : World} (hf : a.eval f = .func (.func g) #[] #[]) :
    (execOp a.eval o).run P w = .ok (.enter g (c.args.map a.eval)) w := by
  obtain ⟨fn, h1, h2, h3⟩ := hT.sg _ _ hg
  have h2' : ¬ fn.name = "runtime.NumGoroutine" := by simpa using h2
  have h4 : ¬ fn.body = none := fun e => by rw [e] at h3; cases h3
  simp [execOp, ho, resolve, hc, hf, Deferred.ofValue, invoke, callFunc, h1, h2', h4]
theorem args_ok {w : World} {O : Nat → Prop} {φ : Pl} {σ : Nat → Option Sh} : ∀ (ts : List Ty) (as_ as' : List AV) (us : List Value), args ts as_ = some as' → CellsOk φ σ O w as_ us → ArgsOk w O as' us
  | [], [], as', us, h, hc => by cases h; exact hc
  | [], a :: r, as', us, h, hc => by cases h
  | t :: ts, [], as', us, h, hc => by cases h
  | t :: ts, a :: r, as', us, h, hc => by
    simp only [args] at h
    split at h
    · rename_i x l h1 h2
      cases h
      obtain ⟨u, l', rfl, q1, q2⟩ := hc
      exact ⟨u, l', rfl, ⟨t, x, rfl, asTy_ok h1 q1⟩, args_ok ts r l l' h2 q2⟩
    · cases h
theorem evs_ok {φ : Pl} {s2 : S} {a : Act} {w : World} (hs : SRp C φ s2 a w) : ∀ (xs : List Operand), (∀ x ∈ xs, s2.ev x = s.ev x) → CellsOk φ s2.sh (OS C.F φ s2) w (xs.map s.ev) (xs.map a.eval)
  | [], _ => rfl
  | x :: xs, h => ⟨a.eval x, _, rfl, by have := ev_ok hs x; rw [h x List.mem_cons_self] at this; exact this, evs_ok hs xs fun y hy => h y (List.mem_cons_of_mem _ hy)⟩
theorem ResOk.ok {φ : Pl} {σ : Nat → Option Sh} {O : Nat → Prop} {w : World} {y : AV} {u : Value} (h : ResOk w O y u) : Ok φ σ O w y u := by
  rcases h with ⟨t, x, rfl, h⟩ | ⟨t, x, vs, rfl, rfl, h⟩
  · exact h
  · exact ⟨vs, rfl, h⟩
theorem rowAt_int {w w' : World} {O O' : Nat → Prop} {c : Array Value} {s : Nat} {k : IntKind} {xs : List Int} (h : RowAt w O c s (.int k) xs) : RowAt w' O' c s (.int k) xs := by
  intro i x hx
  obtain ⟨vs, e, r, hc⟩ := h i x hx
  exact ⟨vs, e, by simpa [RepC] using r, hc⟩
/-- A new row out of a call becomes a row of the call's own. -/
theorem adopt {φ : Pl} {s2 : S} {a : Act} {w w' : World} (hs : SRp C φ s2 a w) {d : Nat} {k : IntKind} {xs : List Int} (hb2 : s2.bk d = none) (hd : d < C.n) (hw : Same w w') {O : Nat → Prop} {u : Value}
    (h : FreshRow w.heap.size w' O (.tup (.sl (.int k)) xs) u) : ∃ φ', SRp C φ' ((s2.set d (.arr 0 (.int k) xs)).put d (.own d)) (a.put (some d) u) w' := by
  obtain ⟨k', xs', ad, cap, e, hu, hcap, h⟩ := h
  cases e
  rcases h with ⟨rfl, rfl, rfl⟩ | ⟨b, c, el, h1, h2, rfl, h3, h4, h5, h6⟩
  · have hn := hs.relay (.arr 0 (.int k) ([] : List Int)) none (fun b e => by cases e) none (hs.noref hb2) hw.os hw.tape hw.output hw.size (fun k hk _ => hw.block k hk) (fun e => by have := C.hn; omega) (fun b o z e => by cases e) (fun O' hO' hfr => .inl ⟨by rw [upd_same], rfl⟩)
    exact ⟨_, hn.put hd ⟨.int k, 0, none, 0, set_sh_same _ _ _, hu, Nat.le_refl _, .inl ⟨upd_same _ _ _, .inr ⟨rfl, rfl⟩⟩⟩⟩
  · have hn := hs.relay (.arr 0 (.int k) xs) none (fun b e => by cases e) (some (b, 0, c.size)) (hs.noref hb2) hw.os hw.tape hw.output hw.size (fun k hk _ => hw.block k hk) (fun e => by have := C.hn; omega)
      (fun b' o z e => by cases e; exact ⟨h2, .inl h1⟩) (fun O' hO' hfr => .inr ⟨b, 0, c.size, c, el, by rw [upd_same], h3, rfl, .inr (.inl rfl), rowAt_int h6⟩)
    exact ⟨_, hn.put hd ⟨.int k, xs.length, _, cap, set_sh_same _ _ _, hu, hcap, .inr ⟨b, 0, c.size, upd_same _ _ _, rfl, .inr ⟨rfl, by simp [h4, Ty.size], h5⟩⟩⟩⟩
theorem resEv_ok {φ : Pl} {s2 : S} {a : Act} {w w' : World} (hs : SRp C φ s2 a w) (hw : Same w w') {y : AV} {u : Value} (hag : Agree C s s2 o (resEv o.dst y)) (h : ResN w.heap.size w' (OS C.F φ s2) y u) :
    SR C (Ev.eff (resEv o.dst y) o.dst s2) (a.put o.dst u) w' := by
  rcases h with h | h
  · have he : Ev.eff (resEv o.dst y) o.dst s2 = s2.puto o.dst y := by
      have hr : resEv o.dst y = { a := y } := by
        rcases h with ⟨t, x, rfl, h⟩ | ⟨t, x, vs, rfl, rfl, h⟩
        · rfl
        · cases t <;> first | rfl | exact absurd h id
      rw [hr]
      cases o.dst <;> rfl
    rw [he]
    exact ⟨φ, (hs.later hw).puto hag.dst h.ok⟩
  · obtain ⟨k, xs, hy⟩ : ∃ k xs, y = .tup (.sl (.int k)) xs := by obtain ⟨k, xs, _, _, e, _⟩ := h; exact ⟨k, xs, e⟩
    subst hy
    cases hd : o.dst with
    | none => exact ⟨φ, hs.later hw⟩
    | some d =>
      rw [hd] at hag
      exact adopt hs (hag.nb _ d rfl hd) (hag.dst d hd) hw h
theorem call_ok (hT : Tabs E P) {ρ : Orc} (hρ : OrcOk P E ρ) {c : Call} {f : Operand} {g : Nat} {sg : Sg} {as' : List AV} {K : Ev → Option R} (ho : o.op = .call c) (hc : c.callee = .value f) (hf : s.ev f = .fn g)
    (hg : find E.sg g = some sg) (ha : args sg.ps (c.args.toList.map s.ev) = some as') (h : ρ R g as' (fun y => K (resEv o.dst y)) = some r) : ∃ e, EvOk P C s o e ∧ K e = some r := by
  obtain ⟨y, hm, hk⟩ := hρ R g as' _ r (by rw [hg]; rfl) h
  refine ⟨_, ?_, hk⟩
  intro s2 hag φ a w hs K' Q hK
  have hfv := ev_ok hs f
  rw [hag.ev f (by simp [ho, Op.operands, Call.operands, hc]), hf] at hfv
  have hargs := args_ok _ _ _ _ ha (evs_ok (s := s) hs c.args.toList fun x hx => hag.ev x (by simp only [ho, Op.operands, Call.operands, hc]; exact Array.mem_append.2 (.inr (Array.mem_toList_iff.1 hx))))
  unfold Oper.wp
  rw [run_call hT ho hc hg hfv]
  refine (hm w _ (OS C.F φ s2) hs.hf (by rw [Array.toList_map]; exact hargs)).mono ?_
  rintro e w' ⟨u, rfl, h1, h2⟩
  exact hK _ _ (resEv_ok hs h2 hag h1)
theorem OS_set {F : Nat → Prop} {φ : Pl} {d : Nat} {B : Blk} (hl : (s.bk d).isSome = true) : OS F φ (s.set d B) = OS F φ s := by
  funext x
  unfold OS
  congr 1
  apply propext
  constructor
  · rintro ⟨d', o', z', h1, h2⟩
    refine ⟨d', o', z', ?_, h2⟩
    by_cases e : d' = d
    · subst e; exact hl
    · rw [set_ne _ _ e] at h1; exact h1
  · rintro ⟨d', o', z', h1, h2⟩
    refine ⟨d', o', z', ?_, h2⟩
    by_cases e : d' = d
    · subst e; rw [set_same]; rfl
    · rw [set_ne _ _ e]; exact h1
/-- A window of a block has been written by a call. -/
theorem SRp.window {φ : Pl} {a : Act} {w w' : World} (h : SRp C φ s a w) {d b o' z et : Nat} {t : Ty} {all new : List t.den} {off n : Nat} {c c' : Array Value} {el : TypeId}
    (hd : s.bk d = some (.arr et t all)) (hp : φ d = some (b, o', z)) (hb : w.heap[b]? = some (.cells c el (0, 0))) (hel : d = BOR ∨ et = 0 ∨ el = et) (hz : c.size = z) (hrow : RowAt w (OS C.F φ s) c o' t all)
    (hn : off + n ≤ all.length) (hnew : new.length = n)
    (hos : w'.os = w.os) (htape : w'.tape = w.tape) (hout : w'.output = w.output) (hsize : w.heap.size ≤ w'.heap.size) (hoth : ∀ k, k < w.heap.size → k ≠ b → w'.heap[k]? = w.heap[k]?)
    (hb' : w'.heap[b]? = some (.cells c' el (0, 0))) (hsz : c'.size = c.size) (hrow' : RowAt w' (OS C.F φ s) c' (o' + off * t.size) t new)
    (hk : ∀ k, k < o' + off * t.size ∨ o' + off * t.size + n * t.size ≤ k → c'[k]? = c[k]?) :
    SRp C φ (s.set d (.arr et t (all.take off ++ new ++ all.drop (off + n)))) a w' := by
  have hl : (s.bk d).isSome = true := by rw [hd]; rfl
  have hO : OS C.F φ s b := .inr ⟨d, o', z, hl, hp⟩
  have hfr : Fr (OS C.F φ s) w w' := ⟨hsize, fun k hk hlt => hoth k hlt fun e => hk (e ▸ hO)⟩
  obtain ⟨hlt, hpl⟩ := h.place d b o' z hl hp
  have hlen : (all.take off ++ new ++ all.drop (off + n)).length = all.length := by
    simp only [List.length_append, List.length_take, List.length_drop]; omega
  have hshB : (Blk.arr et t (all.take off ++ new ++ all.drop (off + n))).sh = (Blk.arr et t all).sh := by simp only [Blk.sh, hlen]
  have hsh0 : s.sh d = some (Blk.arr et t (all.take off ++ new ++ all.drop (off + n))).sh := by rw [hshB]; simp only [S.sh, hd, Option.map_some]
  have hSs : (s.set d (.arr et t (all.take off ++ new ++ all.drop (off + n)))).sh = s.sh := by
    funext x
    by_cases e : x = d
    · subst e; rw [set_sh_same, hsh0]
    · exact set_sh_ne _ _ e
  have hOS : OS C.F φ (s.set d (.arr et t (all.take off ++ new ++ all.drop (off + n)))) = OS C.F φ s := by
    funext x
    unfold OS
    congr 1
    apply propext
    constructor
    · rintro ⟨d', o', z', h1, h2⟩
      refine ⟨d', o', z', ?_, h2⟩
      by_cases e : d' = d
      · subst e; exact hl
      · rw [set_ne _ _ e] at h1; exact h1
    · rintro ⟨d', o', z', h1, h2⟩
      refine ⟨d', o', z', ?_, h2⟩
      by_cases e : d' = d
      · subst e; rw [set_same]; rfl
      · rw [set_ne _ _ e]; exact h1
  have htl : (all.take off).length = off := by rw [List.length_take]; omega
  have key := h.setB (w' := w') d (.arr et t (all.take off ++ new ++ all.drop (off + n))) (φ d) (.inl ⟨hsh0, rfl⟩) hfr hos htape hout
    (fun k hk hn => hoth k (Nat.lt_of_lt_of_le hk h.grow) fun e => by
      subst e
      rcases hpl with h1 | ⟨_, t, m, _, h2⟩
      · have := h1.1; omega
      · exact hn _ _ h2)
    (fun k s' m hk' => by
      by_cases e : k = b
      · subst e
        rcases hpl with h1 | ⟨e1, t', m', h2, h3⟩
        · have := (h.win _ _ _ hk').1; have := h1.1; omega
        · rw [h3] at hk'
          cases hk'
          refine .inr ⟨c, c', el, hb, hb', hsz, fun k hk2 => hk k ?_⟩
          simp only [S.sh, hd, Option.map_some, Blk.sh, Option.some.injEq, Sh.arr.injEq] at h2
          obtain ⟨rfl, rfl⟩ := h2
          have : (off + n) * t.size ≤ all.length * t.size := Nat.mul_le_mul_right _ hn
          rw [Nat.add_mul] at this
          rcases hk2 with hk2 | hk2
          · left; omega
          · right; omega
      · exact .inl (hoth k (Nat.lt_of_lt_of_le (h.win _ _ _ hk').1 h.grow) e))
    (fun d' b' o2 z' hne h1 h2 => hoth b' (h.place d' b' o2 z' h1 h2).1 fun e => by subst e; exact hne (h.inj d' d _ _ _ _ _ h1 hl h2 hp))
    (fun b' o2 z' e => by
      rw [hp] at e
      cases e
      exact ⟨Nat.lt_of_lt_of_le hlt hsize, hpl.imp id fun ⟨e1, t, m, h2, h3⟩ => ⟨e1, t, m, (by rw [hsh0] at h2; exact Option.some.inj h2), h3⟩,
        fun d' b'' o'' z'' hne h1 h2 e => (by subst e; exact hne (h.inj d' d _ _ _ _ _ h1 hl h2 hp)), .inl hO⟩)
    (by
      rw [upd_self, hSs, hOS]
      refine .inr ⟨b, o', z, c', el, hp, hb', by rw [hsz, hz], hel, fun i x hx => ?_⟩
      by_cases hi : i < off
      · rw [List.append_assoc, List.getElem?_append_left (by omega), List.getElem?_take, if_pos hi] at hx
        obtain ⟨vs, h1, h2, h3⟩ := hrow i x hx
        refine ⟨vs, h1, RepC.frame hfr (fun _ h => .inl h) _ _ _ h2, fun j v hj => ?_⟩
        have hj' := (List.getElem?_eq_some_iff.1 hj).1
        have : (i + 1) * t.size ≤ off * t.size := Nat.mul_le_mul_right _ hi
        rw [Nat.add_mul, Nat.one_mul] at this
        rw [hk _ (by left; omega)]
        exact h3 j v hj
      · by_cases hi2 : i < off + n
        · rw [List.append_assoc, List.getElem?_append_right (by omega), htl, List.getElem?_append_left (by omega)] at hx
          obtain ⟨vs, h1, h2, h3⟩ := hrow' _ x hx
          refine ⟨vs, h1, h2, fun j v hj => ?_⟩
          rw [← h3 j v hj]
          have : i * t.size = off * t.size + (i - off) * t.size := by rw [← Nat.add_mul]; congr 1; omega
          congr 1; omega
        · rw [List.getElem?_append_right (by simp; omega)] at hx
          simp only [List.length_append, htl, hnew, List.getElem?_drop] at hx
          rw [show off + n + (i - (off + n)) = i by omega] at hx
          obtain ⟨vs, h1, h2, h3⟩ := hrow i x hx
          refine ⟨vs, h1, RepC.frame hfr (fun _ h => .inl h) _ _ _ h2, fun j v hj => ?_⟩
          have : (off + n) * t.size ≤ i * t.size := Nat.mul_le_mul_right _ (by omega)
          rw [Nat.add_mul] at this
          rw [hk _ (by right; omega)]
          exact h3 j v hj)
  rwa [upd_self] at key
theorem row_fits {w : World} {O : Nat → Prop} {c : Array Value} {b : Nat} {t : Ty} {xs : List t.den} (h : RowAt w O c b t xs) (hne : xs ≠ []) (hpos : t.size ≠ 0) : b + xs.length * t.size ≤ c.size := by
  have e : 0 < t.size := Nat.pos_of_ne_zero hpos
  have hx0 : xs.length - 1 < xs.length := by cases xs with | nil => exact absurd rfl hne | cons => simp
  obtain ⟨vs, h1, _, h3⟩ := h (xs.length - 1) xs[xs.length - 1] (List.getElem?_eq_getElem hx0)
  have := h3 (t.size - 1) vs[t.size - 1] (List.getElem?_eq_getElem (by omega))
  have := (Array.getElem?_eq_some_iff.1 this).1
  have h4 : xs.length * t.size = (xs.length - 1) * t.size + t.size := by
    rw [← Nat.succ_mul]; congr 1; omega
  omega
theorem callB_ok (hT : Tabs E P) {β : OrcB} (hβ : OrcBOk P E β) {c : Call} {f : Operand} {g : Nat} {sg : Sg} {as' : List AV} {K : Ev → Option R} (ho : o.op = .call c) (hc : c.callee = .value f) (hf : s.ev f = .fn g)
    (hg : find E.sg g = some sg) {x : Operand} {l : List Operand} (hx : c.args.toList = x :: l) {V : Vw} (hv : s.view (s.ev x) = some V) (ha : args sg.ps.tail (l.map s.ev) = some as') {d off et : Nat} (hat : V.at_ = some (d, off))
    {all : List V.t.den} (hbk : s.bk d = some (.arr et V.t all)) (hpos : V.t.size ≠ 0)
    (h : β R g (.v (.sl V.t) V.xs :: as') (fun y w' => match castT (.sl V.t) (t' := .sl w'.t) w'.xs with
      | some new => K { a := y, wr := some (d, .arr et V.t (all.take off ++ new ++ all.drop (off + V.xs.length))) }
      | none => none) = some r) : ∃ e, EvOk P C s o e ∧ K e = some r := by
  obtain ⟨y, ys, aa, hm, hk⟩ := hβ R g V.t V.xs as' _ r (by rw [hg]; rfl) h
  have hcast : castT (.sl V.t) (t' := .sl V.t) ys = some ys := by simp [castT]
  simp only [hcast] at hk
  refine ⟨_, ?_, hk⟩
  intro s2 hag φ a w hs K' Q hK
  have hfv := ev_ok hs f
  have mem : ∀ y ∈ c.args.toList, y ∈ o.op.operands := fun y hy => by simp only [ho, Op.operands, Call.operands, hc]; exact Array.mem_append.2 (.inr (Array.mem_toList_iff.1 hy))
  rw [hag.ev f (by simp [ho, Op.operands, Call.operands, hc]), hf] at hfv
  have hargs := args_ok _ _ _ _ ha (evs_ok (s := s) hs l fun y hy => hag.ev y (mem y (by rw [hx]; exact List.mem_cons_of_mem _ hy)))
  have hxv := ev_ok hs x
  rw [hag.ev x (mem x (by rw [hx]; exact List.mem_cons_self))] at hxv
  have hb2 : s2.bk d = some (.arr et V.t all) := by rw [hag.wr d _ rfl, hbk]
  have hv2 : s2.view (s.ev x) = some V := view_agree hv fun k hk => by
    simp only [Vw.rd, hat, List.mem_singleton] at hk
    subst hk
    rw [hb2, hbk]
  have hl : (s2.bk d).isSome = true := by rw [hb2]; rfl
  have hin : ∀ b, OS C.F φ s2 b → b < w.heap.size := fun b hb => by
    rcases Nat.lt_or_ge b w.heap.size with h | h
    · exact h
    · exact absurd hb (not_new hs h)
  have hav : c.args.map a.eval = #[a.eval x] ++ (l.map a.eval).toArray := by
    apply Array.ext'
    simp [hx]
  have he : ∀ (new : List V.t.den), Ev.eff { a := y, wr := some (d, .arr et V.t (all.take off ++ new ++ all.drop (off + V.xs.length))) } o.dst s2 = (s2.set d (.arr et V.t (all.take off ++ new ++ all.drop (off + V.xs.length)))).puto o.dst y := fun new => by
    cases o.dst <;> rfl
  obtain ⟨t, xs, at_⟩ := V
  simp only at *
  subst hat
  obtain ⟨n, v1, v2, ad, cap, v3, v4, v5⟩ := view_at hs hv2 hxv
  simp only [S.sh, hb2, Option.map_some, Blk.sh, Option.some.injEq, Sh.arr.injEq, true_and] at v1
  subst v1
  unfold Oper.wp
  rw [run_call hT ho hc hg hfv, hav]
  obtain ⟨m1, m2⟩ := hm w (a.eval x) (l.map a.eval).toArray (OS C.F φ s2) hs.hf (by simpa using hargs)
  by_cases hne : xs = []
  · refine (m1 ⟨hne, ad, cap, by rw [v3, hne]; rfl⟩).mono ?_
    rintro e w' ⟨m0, u, rfl, h1, h2⟩
    refine hK _ _ ⟨φ, ?_⟩
    have hys : ys = [] := List.eq_nil_of_length_eq_zero (by rw [m0, hne]; rfl)
    have hsame : all.take off ++ ys ++ all.drop (off + xs.length) = all := by rw [hys, hne]; simp
    rw [he, hsame, S.set_self hb2]
    exact (hs.later h2).puto hag.dst h1.ok
  · obtain ⟨b, o', z, p1, rfl⟩ := v5 (by cases xs with | nil => exact absurd rfl hne | cons => simp)
    have hrow : ∃ c' el', w.heap[b]? = some (.cells c' el' (0, 0)) ∧ c'.size = z ∧ (d = BOR ∨ et = 0 ∨ el' = et) ∧ RowAt w (OS C.F φ s2) c' o' t all := by
      rcases hs.blk d _ hb2 with ⟨k1, _⟩ | ⟨b2, o2, z2, c2, el2, k1, k2, k3, k4, k5⟩
      · rw [k1] at p1; cases p1
      · rw [k1] at p1; cases p1; exact ⟨c2, el2, k2, k3, k4, k5⟩
    obtain ⟨c', el', q2, q3, q4, q5⟩ := hrow
    have hxs : ∀ (i : Nat) (x : t.den), xs[i]? = some x → all[off + i]? = some x := by
      intro i z hz
      cases hxe : s.ev x with
      | v t x => rw [hxe] at hv; cases t <;> cases hv
      | own d' =>
        rw [hxe] at hv
        simp only [S.view] at hv
        split at hv
        · rename_i et2 t2 xs2 hh
          cases hv
          rw [hbk] at hh
          cases hh
          rw [Nat.zero_add]; exact hz
        · cases hv
      | osl d' off' len =>
        rw [hxe] at hv
        simp only [S.view] at hv
        split at hv
        · rename_i et2 t2 xs2 hh
          cases hv
          rw [hbk] at hh
          cases hh
          have := (List.getElem?_eq_some_iff.1 hz).1
          rw [List.length_take] at this
          rw [List.getElem?_take, if_pos (by omega), List.getElem?_drop] at hz
          exact hz
        · cases hv
      | _ => rw [hxe] at hv; cases hv
    have hrow2 : RowAt w (OS C.F φ s2) c' (o' + off * t.size) t xs := fun i z hz => by
      obtain ⟨vs, h1, h2, h3⟩ := q5 _ z (hxs i z hz)
      refine ⟨vs, h1, h2, fun j v hj => ?_⟩
      rw [← h3 j v hj, Nat.add_mul]
      congr 1; omega
    have hfit := row_fits hrow2 hne hpos
    refine (m2 b (o' + off * t.size) c' el' cap v4 v3 (.inr ⟨d, o', z, hl, p1⟩) q2 hrow2 hfit).mono ?_
    rintro e w' ⟨m0, u, rfl, h1, h2, h3, h4, h5, h6, c'', h7, h8, h9, h10⟩
    refine hK _ _ ⟨φ, ?_⟩
    rw [he]
    refine (hs.window hb2 p1 q2 q4 q3 q5 v2 m0 h2 h3 h4 h5 h6 h7 h8 h9 h10).puto hag.dst ?_
    rw [OS_set hl]
    exact h1.ok
theorem mm_ok (b : Bool) {c : Call} {K : Ev → Option R} (ho : o.op = .call c) (hc : c.callee = .builtin (cond b .max .min)) (h : mmK (cond b mx2 mn2) (c.args.toList.map s.ev) (fun a => K { a := a }) = some r) :
    ∃ e, EvOk P C s o e ∧ K e = some r := by
  have mem : ∀ y ∈ c.args.toList, y ∈ o.op.operands := fun y hy => by simp only [ho, Op.operands, Call.operands, hc]; exact Array.mem_append.2 (.inr (Array.mem_toList_iff.1 hy))
  unfold mmK at h
  split at h
  · rename_i K' k x k' y hl
    split at h
    · rename_i e
      subst e
      cases hca : c.args.toList with
      | nil => rw [hca] at hl; cases hl
      | cons u l => cases l with
        | nil => rw [hca] at hl; simp at hl
        | cons v l => cases l with
          | cons _ _ => rw [hca] at hl; simp at hl
          | nil =>
            rw [hca] at hl
            simp only [List.map_cons, List.map_nil, List.cons.injEq, and_true] at hl
            obtain ⟨h1, h2⟩ := hl
            have ea : c.args = #[u, v] := by rw [← hca, Array.toArray_toList]
            refine val2_int (mem u (by simp [hca])) (mem v (by simp [hca])) (is_int h1) (is_int h2) h fun ρ w e1 e2 => ?_
            cases b <;> simp [execOp, ho, resolve, hc, ea, invoke, builtin, Builtin.max_, Builtin.min_, Builtin.max2, Builtin.min2, e1, e2, mx2, mn2]
    · cases h
  · rename_i K' k x k' y k'' z hl
    split at h
    · rename_i e
      obtain ⟨e, e'⟩ := e
      subst e e'
      cases hca : c.args.toList with
      | nil => rw [hca] at hl; cases hl
      | cons u l => cases l with
        | nil => rw [hca] at hl; simp at hl
        | cons v l => cases l with
          | nil => rw [hca] at hl; simp at hl
          | cons q l => cases l with
            | cons _ _ => rw [hca] at hl; simp at hl
            | nil =>
              rw [hca] at hl
              simp only [List.map_cons, List.map_nil, List.cons.injEq, and_true] at hl
              obtain ⟨h1, h2, h3⟩ := hl
              have ea : c.args = #[u, v, q] := by rw [← hca, Array.toArray_toList]
              refine ⟨{ a := .v (.int k) _ }, EvOk.val fun s2 φ a w hag hs => ?_, h⟩
              have g1 := ev_ok hs u
              have g2 := ev_ok hs v
              have g3 := ev_ok hs q
              rw [hag.ev u (mem u (by simp [hca])), h1] at g1
              rw [hag.ev v (mem v (by simp [hca])), h2] at g2
              rw [hag.ev q (mem q (by simp [hca])), h3] at g3
              have g1 := RepV.int g1
              have g2 := RepV.int g2
              have g3 := RepV.int g3
              refine ⟨_, ?_, RepV.mk_int _ _ _ _⟩
              cases b <;> simp [execOp, ho, resolve, hc, ea, invoke, builtin, Builtin.max_, Builtin.min_, Builtin.max2, Builtin.min2, g1, g2, g3, mx2, mn2]
    · cases h
  · cases h
/-- ONE OPERATION: what the evaluator says happens. -/
theorem stepK_ok (hT : Tabs E P) {ρ : Orc} (hρ : OrcOk P E ρ) {β : OrcB} (hβ : OrcBOk P E β) {hw : List Nat} {K : Ev → Option R} (hn : noDst o = true) (h : stepK E ρ β hw s o K = some r) : ∃ e, EvOk P C s o e ∧ K e = some r := by
  unfold stepK at h
  split at h
  · rename_i x ho; exact move_ok (.inl ho) h
  · rename_i x ho; exact move_ok (.inr ho) h
  · rename_i c x y ho
    split at h
    · rename_i b hc; exact pick_ok ho hc h
    · cases h
  · rename_i e ho; exact alloc_ok hT ho h
  · rename_i e x ho; exact boxop_ok hT ho h
  · rename_i t ps ho; exact build_ok hT ho h
  · rename_i t n ps ho; exact lit_ok hT ho h
  · rename_i t p ho; exact load_ok hT ho h
  · rename_i t p x ho
    refine store_ok hT ho ?_ h
    simp only [noDst, ho, Option.isNone_iff_eq_none] at hn
    exact hn
  · rename_i x ho; exact nil_ok ho h
  · rename_i op t x y yt ho; exact bin_ok hT ho h
  · rename_i op t x ho; exact un_ok ho h
  · rename_i src dst x ho; exact conv_ok hT ho h
  · rename_i t l c ho; exact make_ok hT ho h
  · rename_i t x lo hi mx ho; exact slice_ok hT ho h
  · rename_i t x f ho; exact fieldAddr_ok hT ho h
  · rename_i t x f ho; exact field_ok hT ho h
  · rename_i t x i ho; exact ix_ok hT ho h
  · rename_i t x i ho
    split at h
    · rename_i b k n hx hi ht; exact index_ok hT ho hx hi ht h
    · cases h
  · rename_i x i ho
    split at h
    · rename_i T y hx; exact ext_ok ho hx h
    · cases h
  · rename_i f first captured ho; exact fn_ok ho h
  · rename_i c ho
    split at h
    · -- a function
      rename_i f hc
      split at h
      · rename_i g hf
        unfold callK at h
        split at h
        · cases h
        rename_i sg hg
        cases hb : sg.bor with
        | false =>
          rw [hb, cond_false] at h
          split at h
          · rename_i as' ha; exact call_ok hT hρ ho hc hf hg ha h
          · cases h
        | true =>
          rw [hb, cond_true] at h
          split at h
          · rename_i a l hl
            split at h
            · rename_i V as' hv ha
              split at h
              · rename_i d off hat
                split at h
                · obtain ⟨h0, h⟩ := cond_some h
                  split at h
                  · rename_i et t' all hbk
                    split at h
                    · rename_i all' hall
                      obtain ⟨e, e'⟩ := castT_sl hall
                      subst e
                      simp only at e'
                      subst e'
                      cases hca : c.args.toList with
                      | nil => rw [hca] at hl; cases hl
                      | cons x xs =>
                        rw [hca] at hl
                        simp only [List.map_cons, List.cons.injEq] at hl
                        obtain ⟨rfl, rfl⟩ := hl
                        exact callB_ok hT hβ ho hc hf hg hca hv ha hat hbk (fun e => by rw [e] at h0; cases h0) h
                    · cases h
                  · cases h
                · cases h
              · cases h
            · cases h
          · cases h
      · cases h
    · -- a builtin
      rename_i b hc
      split at h
      · rename_i x hx
        split at h
        · rename_i t ht
          cases hca : c.args.toList with
          | nil => rw [hca] at hx; cases hx
          | cons y l =>
            rw [hca] at hx
            cases l with
            | cons _ _ => simp at hx
            | nil =>
              simp only [List.map_cons, List.map_nil, List.cons.injEq, and_true] at hx
              subst hx
              exact len_ok hT ho hc hca ht h
        · cases h
      · rename_i u v hx
        split at h
        · rename_i t t' ht
          obtain ⟨h0, h'⟩ := cond_some' h
          clear h
          rw [nbeq] at h0
          have h0 := of_decide_eq_true h0
          subst h0
          cases hca : c.args.toList with
          | nil => rw [hca] at hx; cases hx
          | cons y l =>
            rw [hca] at hx
            cases l with
            | nil => simp at hx
            | cons z l =>
              cases l with
              | cons _ _ => simp at hx
              | nil =>
                simp only [List.map_cons, List.map_nil, List.cons.injEq, and_true] at hx
                obtain ⟨rfl, rfl⟩ := hx
                exact app_ok hT ho hc hca ht h'
        · cases h
      · rename_i u v hx
        split at h
        · rename_i t l ht
          cases hca : c.args.toList with
          | nil => rw [hca] at hx; cases hx
          | cons y l =>
            rw [hca] at hx
            cases l with
            | nil => simp at hx
            | cons z l =>
              cases l with
              | cons _ _ => simp at hx
              | nil =>
                simp only [List.map_cons, List.map_nil, List.cons.injEq, and_true] at hx
                obtain ⟨rfl, rfl⟩ := hx
                exact copy_ok hT ho hc hca ht h
        · cases h
      · exact mm_ok true ho hc h
      · exact mm_ok false ho hc h
      · cases h
    · cases h
  · cases h
end ops
end Go.Proofs.YtgbndganadelpaaGreatDoor.E
/- Regions: a list of operations, in the order of the text or in a drawn one. -/
namespace Go.Proofs.YtgbndganadelpaaGreatDoor.E
open Go
set_option linter.unusedVariables false
set_option linter.unusedSimpArgs false
structure AgreeG (C : Ctx) (ops : Array Oper) (s s2 : S) (o : Oper) (e : Ev) : Prop where
  tm : ∀ t ∈ o.looksAt ops, s2.tm t = s.tm t
  bk : ∀ d ∈ e.rd, s2.bk d = s.bk d
  wr : ∀ d b, e.wr = some (d, b) → s2.bk d = s.bk d
  nb : ∀ b d, e.nb = some b → o.dst = some d → s2.bk d = none
  dst : ∀ d, o.dst = some d → d < C.n
def IxOk (P : Program) (C : Ctx) (ops : Array Oper) (s : S) (i : Nat) (o : Oper) (e : Ev) : Prop :=
  ∀ (s2 : S), AgreeG C ops s s2 o e → ∀ (φ : Pl) (a : Act) (w : World), SRp C φ s2 a w → ∀ (K : Act → World → Prop) (Q : Exit → Act → World → Prop),
    (∀ a' w', SR C (e.eff o.dst s2) a' w' → K a' w') → wpOp P ops Q i K a w
/-- A run of operations, each with its event. -/
def Run (P : Program) (C : Ctx) (ops : Array Oper) : List (Nat × Oper × Ev) → S → S → Prop
  | [], s, s' => s' = s
  | (i, o, e) :: r, s, s' => ops[i]? = some o ∧ IxOk P C ops s i o e ∧ (∀ b d, e.nb = some b → o.dst = some d → s.bk d = none) ∧ (∀ d, o.dst = some d → d < C.n) ∧ Run P C ops r (e.eff o.dst s) s'
section
variable {P : Program} {E : Env} {C : Ctx} {ops : Array Oper} {R : Type} {r : R}
theorem ev_of_tm {o : Oper} {s s2 : S} (h : ∀ t ∈ o.looksAt ops, s2.tm t = s.tm t) : ∀ x ∈ o.op.operands, s2.ev x = s.ev x := by
  intro x hx
  cases x with
  | tmp t => exact h t (List.mem_append_left _ (List.mem_filterMap.2 ⟨.tmp t, by simpa using hx, rfl⟩))
  | const c => cases c <;> rfl
  | func f => rfl
  | global g => rfl
theorem IxOk.of_ev {s : S} {i : Nat} {o : Oper} {e : Ev} (hi : ops[i]? = some o) (h : EvOk P C s o e)
    (hg : ∀ s2 φ a w, (∀ t ∈ o.looksAt ops, s2.tm t = s.tm t) → SRp C φ s2 a w → Region.wanted o (yielded ops a.tmps) = true) : IxOk P C ops s i o e := by
  intro s2 hag φ a w hs K Q hK
  unfold wpOp
  rw [hi]
  simp only [hg s2 φ a w hag.tm hs, if_true]
  exact .inl (h s2 ⟨ev_of_tm hag.tm, hag.bk, hag.wr, hag.nb, hag.dst⟩ φ a w hs K Q hK)
theorem IxOk.skip {s : S} {i : Nat} {o : Oper} (hi : ops[i]? = some o)
    (hg : ∀ s2 φ a w, (∀ t ∈ o.looksAt ops, s2.tm t = s.tm t) → SRp C φ s2 a w → Region.wanted o (yielded ops a.tmps) = false) : IxOk P C ops s i o { a := .und } := by
  intro s2 hag φ a w hs K Q hK
  unfold wpOp
  rw [hi]
  simp only [hg s2 φ a w hag.tm hs, Bool.false_eq_true, if_false]
  refine hK _ _ ⟨φ, ?_⟩
  have he : Ev.eff { a := .und } o.dst s2 = s2.puto o.dst .und := by cases o.dst <;> rfl
  rw [he]
  exact hs.puto hag.dst rfl
theorem put_self {s : S} {t : Nat} {a : AV} (h : s.tm t = a) : s.put t a = s := by
  cases s with
  | mk tm bk =>
    simp only [S.put, S.mk.injEq, and_true]
    funext x
    by_cases e : x = t
    · subst e; rw [beq_self]; exact h.symm
    · rw [beq_ne e]; rfl
theorem yielded_of {s2 : S} {φ : Pl} {a : Act} {w : World} (hs : SRp C φ s2 a w) {j t : Nat} (ht : (ops[j]?).bind (·.dst) = some t) :
    (∀ b, s2.tm t = .v .bool b → yielded ops a.tmps j = some b) ∧ (s2.tm t = .und → yielded ops a.tmps j = none) := by
  have h := hs.tmp t
  constructor
  · intro b hb
    rw [hb] at h
    have h := RepV.bool h
    unfold yielded
    rw [ht]
    cases hx : a.tmps[t]? with
    | none =>
      rw [Array.getD_eq_getD_getElem?, hx] at h
      cases h
    | some u =>
      rw [Array.getD_eq_getD_getElem?, hx] at h
      simp only [Option.getD_some] at h
      subst h
      simp [hx]
  · intro hb
    rw [hb] at h
    have h : a.tmps.getD t undef = undef := h
    unfold yielded
    rw [ht]
    cases hx : a.tmps[t]? with
    | none => simp [hx]
    | some u =>
      rw [Array.getD_eq_getD_getElem?, hx] at h
      simp only [Option.getD_some] at h
      subst h
      simp [hx, undef]
theorem guard_tm {o : Oper} {j : Nat} {want : Bool} {t : Nat} (hg : o.guard = some (j, want)) (ht : (ops[j]?).bind (·.dst) = some t) : t ∈ o.looksAt ops := by
  unfold Oper.looksAt
  rw [hg]
  simp only [ht]
  exact List.mem_append_right _ (by simp)
theorem dstOk_lt {n : Nat} {o : Oper} (h : dstOk n o = true) : noDst o = true ∧ ∀ d, o.dst = some d → d < n := by
  simp only [dstOk, Bool.and_eq_true] at h
  refine ⟨h.1, fun d hd => ?_⟩
  rw [hd] at h
  have := h.2
  simp only [Nat.blt] at this
  exact Nat.le_of_ble_eq_true this
theorem fresh_none {s : S} {e : Ev} {dst : Option Nat} (h : fresh s e dst = true) : ∀ b d, e.nb = some b → dst = some d → s.bk d = none := by
  intro b d h1 h2
  simp only [fresh, h1, h2, Option.isNone_iff_eq_none] at h
  exact h
/-- What the evaluator says of a list of operations. -/
theorem opsK_ok (hT : Tabs E P) {ρ : Orc} (hρ : OrcOk P E ρ) {β : OrcB} (hβ : OrcBOk P E β) {hw : List Nat} {K : List Lg → S → Option R} :
    ∀ (l : List Oper) (i : Nat) (lg : List Lg) (s : S), (∀ k o, l[k]? = some o → ops[i + k]? = some o) → opsK E ρ β C.n ops hw l lg s K = some r →
      ∃ (evs : List Ev) (s' : S), evs.length = l.length ∧ Run P C ops ((l.zip evs).zipIdx i |>.map fun x => (x.2, x.1.1, x.1.2)) s s' ∧ K (lg ++ (l.zip evs).map fun x => x.2.lg x.1.dst) s' = some r
  | [], i, lg, s, _, h => ⟨[], s, rfl, rfl, by simpa [opsK] using h⟩
  | o :: l, i, lg, s, hi, h => by
    have hi0 : ops[i]? = some o := hi 0 o rfl
    have hi1 : ∀ k o', l[k]? = some o' → ops[i + 1 + k]? = some o' := fun k o' hk => by
      rw [Nat.add_assoc, Nat.add_comm 1 k]; exact hi (k + 1) o' hk
    -- the operation is done
    have go : (∀ s2 φ a w, (∀ t ∈ o.looksAt ops, s2.tm t = s.tm t) → SRp C φ s2 a w → Region.wanted o (yielded ops a.tmps) = true) →
        cond (dstOk C.n o) (stepK E ρ β hw s o fun e => cond (fresh s e o.dst) (opsK E ρ β C.n ops hw l (lg ++ [e.lg o.dst]) (e.eff o.dst s) K) none) none = some r →
        ∃ (evs : List Ev) (s' : S), evs.length = (o :: l).length ∧ Run P C ops (((o :: l).zip evs).zipIdx i |>.map fun x => (x.2, x.1.1, x.1.2)) s s' ∧ K (lg ++ ((o :: l).zip evs).map fun x => x.2.lg x.1.dst) s' = some r := by
      intro hg h
      obtain ⟨h1, h⟩ := cond_some' h
      obtain ⟨h2, h3⟩ := dstOk_lt h1
      obtain ⟨e, he, h⟩ := stepK_ok (C := C) hT hρ hβ h2 h
      obtain ⟨h4, h⟩ := cond_some' h
      obtain ⟨evs, s', g1, g2, g3⟩ := opsK_ok hT hρ hβ l (i + 1) _ _ hi1 h
      refine ⟨e :: evs, s', by simp [g1], ⟨hi0, .of_ev hi0 he hg, fresh_none h4, h3, g2⟩, ?_⟩
      simpa using g3
    have no : (∀ s2 φ a w, (∀ t ∈ o.looksAt ops, s2.tm t = s.tm t) → SRp C φ s2 a w → Region.wanted o (yielded ops a.tmps) = false) →
        cond (dstOk C.n o) (opsK E ρ β C.n ops hw l (lg ++ [⟨[], [], false⟩]) (s.puto o.dst .und) K) none = some r →
        ∃ (evs : List Ev) (s' : S), evs.length = (o :: l).length ∧ Run P C ops (((o :: l).zip evs).zipIdx i |>.map fun x => (x.2, x.1.1, x.1.2)) s s' ∧ K (lg ++ ((o :: l).zip evs).map fun x => x.2.lg x.1.dst) s' = some r := by
      intro hg h
      obtain ⟨h1, h⟩ := cond_some' h
      obtain ⟨h2, h3⟩ := dstOk_lt h1
      obtain ⟨evs, s', g1, g2, g3⟩ := opsK_ok hT hρ hβ l (i + 1) _ _ hi1 h
      have he : Ev.eff { a := .und } o.dst s = s.puto o.dst .und := by cases o.dst <;> rfl
      refine ⟨{ a := .und } :: evs, s', by simp [g1], ⟨hi0, .skip hi0 hg, (fun b d e => by cases e), h3, (by rw [← he] at g2; exact g2)⟩, ?_⟩
      simpa [Ev.lg] using g3
    rw [opsK] at h
    cases hgd : o.guard with
    | none =>
      rw [hgd] at h
      exact go (fun s2 φ a w _ _ => by simp [Region.wanted, hgd]) h
    | some gw =>
      obtain ⟨j, want⟩ := gw
      rw [hgd] at h
      simp only at h
      cases ht : (ops[j]?).bind (·.dst) with
      | none => rw [ht] at h; cases h
      | some t =>
        rw [ht] at h
        simp only at h
        have hw : ∀ b, s.tm t = .v .bool b → ∀ s2 φ a w, (∀ t ∈ o.looksAt ops, s2.tm t = s.tm t) → SRp C φ s2 a w → Region.wanted o (yielded ops a.tmps) = (b == want) := fun b hb s2 φ a w h1 h2 => by
          have := (yielded_of (ops := ops) h2 ht).1 b (by rw [h1 t (guard_tm hgd ht), hb])
          simp only [Region.wanted, hgd, this]
          cases b <;> cases want <;> rfl
        cases hb : s.tm t with
        | v ty b =>
          cases ty with
          | bool =>
            rw [hb] at h
            cases b with
            | true =>
              simp only [cond_true, put_self hb] at h
              cases want with
              | true => exact go (fun s2 φ a w h1 h2 => hw _ hb s2 φ a w h1 h2) h
              | false => exact no (fun s2 φ a w h1 h2 => hw _ hb s2 φ a w h1 h2) h
            | false =>
              simp only [cond_false, put_self hb] at h
              cases want with
              | true => exact no (fun s2 φ a w h1 h2 => hw _ hb s2 φ a w h1 h2) h
              | false => exact go (fun s2 φ a w h1 h2 => hw _ hb s2 φ a w h1 h2) h
          | _ => rw [hb] at h; cases h
        | und =>
          rw [hb] at h
          exact no (fun s2 φ a w h1 h2 => by
            have := (yielded_of (ops := ops) h2 ht).2 (by rw [h1 t (guard_tm hgd ht), hb])
            simp only [Region.wanted, hgd, this]
            cases want <;> rfl) h
        | _ => rw [hb] at h; cases h
/-- A run in its own order. -/
theorem Run.wp {Q : Exit → Act → World → Prop} : ∀ (l : List (Nat × Oper × Ev)) (s s' : S), Run P C ops l s s' → (∀ a w, SR C s' a w → Q .normal a w) → ∀ a w, SR C s a w → wpOps P ops Q (l.map (·.1)) a w
  | [], s, s', h, hq, a, w, hs => by
    have h : s' = s := h
    subst h; exact hq a w hs
  | (i, o, e) :: l, s, s', h, hq, a, w, ⟨φ, hs⟩ => by
    obtain ⟨h1, h2, h3, h4, h5⟩ := h
    rw [List.map_cons, wpOps_cons]
    exact h2 s ⟨fun _ _ => rfl, fun _ _ => rfl, fun _ _ _ => rfl, h3, h4⟩ φ a w hs _ _ fun a' w' hs' => Run.wp l _ s' h5 hq a' w' hs'
end
end Go.Proofs.YtgbndganadelpaaGreatDoor.E
/- A drawn region: whatever order is drawn, the outcome is that of the text's order. -/
namespace Go.Proofs.YtgbndganadelpaaGreatDoor.E
open Go
set_option linter.unusedVariables false
set_option linter.unusedSimpArgs false
theorem has_iff : ∀ (l : List Nat) (k : Nat), has l k = true ↔ k ∈ l
  | [], k => by simp [has]
  | i :: r, k => by
    simp only [has, nbeq, List.mem_cons]
    by_cases e : i = k
    · subst e; simp
    · rw [decide_eq_false e, cond_false, has_iff r k]
      exact ⟨.inr, fun h => h.resolve_left (Ne.symm e)⟩
theorem disj_spec {a b : List Nat} (h : disj a b = true) : ∀ d, d ∈ a → d ∉ b := by
  intro d hd hb
  simp only [disj, List.all_eq_true, Bool.not_eq_true'] at h
  have := h d hd
  rw [(has_iff b d).2 hb] at this
  cases this
section
variable {P : Program} {C : Ctx} {ops : Array Oper}
/-- Two operations that may change places. -/
structure Pair (ops : Array Oper) (x y : Oper) (a b : Ev) : Prop where
  apart : Oper.apart ops x y = true
  d1 : ∀ d, d ∈ (a.lg x.dst).wr → d ∉ b.rd ++ (b.lg y.dst).wr
  d2 : ∀ d, d ∈ (b.lg y.dst).wr → d ∉ a.rd
  k1 : a.kl = false
  k2 : b.kl = false
theorem pairOk_spec {x y : Oper} {a b : Ev} (h : pairOk ops x y (a.lg x.dst) (b.lg y.dst) = true) : Pair ops x y a b := by
  simp only [pairOk, Bool.and_eq_true, Bool.not_eq_true'] at h
  obtain ⟨h1, h2, h3, h4, h5⟩ := h
  exact ⟨h1, disj_spec h2, disj_spec h3, h4, h5⟩
theorem eff_tm {e : Ev} {dst : Option Nat} {s : S} (hk : e.kl = false) (t : Nat) : (e.eff dst s).tm t = (match dst with | some d => cond (Nat.beq t d) e.a (s.tm t) | none => s.tm t) := by
  unfold Ev.eff
  rw [hk]
  cases dst with
  | none => cases e.wr <;> rfl
  | some d => cases e.wr <;> cases e.nb <;> rfl
theorem eff_bk {e : Ev} {dst : Option Nat} {s : S} (hk : e.kl = false) {d : Nat} (hd : d ∉ (e.lg dst).wr) : (e.eff dst s).bk d = s.bk d := by
  unfold Ev.eff
  rw [hk]
  simp only [Ev.lg, List.mem_append, not_or] at hd
  obtain ⟨h1, h2⟩ := hd
  have hw : (match e.wr with | some (d', b) => (cond false (s.killR (Nat.beq d')) s).set d' b | none => s).bk d = s.bk d := by
    cases hw : e.wr with
    | none => rfl
    | some p =>
      obtain ⟨d', b⟩ := p
      rw [hw] at h1
      simp only [List.mem_singleton] at h1
      exact set_ne _ _ h1
  cases dst with
  | none => exact hw
  | some t =>
    cases hn : e.nb with
    | none => exact hw
    | some b =>
      rw [hn] at h2
      simp only [List.mem_singleton] at h2
      exact (set_ne _ b h2).trans hw
theorem wr_mem {e : Ev} {dst : Option Nat} {d : Nat} {b : Blk} (h : e.wr = some (d, b)) : d ∈ (e.lg dst).wr := by
  simp [Ev.lg, h]
theorem nb_mem {e : Ev} {d : Nat} {b : Blk} (h : e.nb = some b) : d ∈ (e.lg (some d)).wr := by
  simp [Ev.lg, h]
/-- The block at a place behind an event. -/
theorem eff_at {e : Ev} {dst : Option Nat} {s s2 : S} (hk : e.kl = false) {d : Nat} (hd : d ∈ (e.lg dst).wr) : (e.eff dst s).bk d = (e.eff dst s2).bk d := by
  unfold Ev.eff
  rw [hk]
  simp only [Ev.lg, List.mem_append] at hd
  cases dst with
  | none =>
    cases hw : e.wr with
    | none => rw [hw] at hd; simp at hd
    | some p =>
      obtain ⟨d', b⟩ := p
      rw [hw] at hd
      simp at hd
      subst hd
      show (S.set _ d b).bk d = (S.set _ d b).bk d
      rw [set_same, set_same]
  | some t =>
    cases hn : e.nb with
    | none =>
      cases hw : e.wr with
      | none => rw [hw, hn] at hd; simp at hd
      | some p =>
        obtain ⟨d', b⟩ := p
        rw [hw, hn] at hd
        simp at hd
        subst hd
        show (S.set _ d b).bk d = (S.set _ d b).bk d
        rw [set_same, set_same]
    | some b =>
      by_cases e1 : d = t
      · subst e1
        show (S.set _ d b).bk d = (S.set _ d b).bk d
        rw [set_same, set_same]
      · show (S.set _ t b).bk d = (S.set _ t b).bk d
        rw [set_ne _ _ e1, set_ne _ _ e1]
        cases hw : e.wr with
        | none => rw [hw, hn] at hd; simp at hd; exact absurd hd e1
        | some p =>
          obtain ⟨d', b⟩ := p
          rw [hw, hn] at hd
          simp at hd
          rcases hd with hd | hd
          · subst hd
            show (S.set _ d b).bk d = (S.set _ d b).bk d
            rw [set_same, set_same]
          · exact absurd hd e1
theorem Run.swap {i j : Nat} {x y : Oper} {a b : Ev} {l : List (Nat × Oper × Ev)} {s s' : S} (h : Run P C ops ((i, x, a) :: (j, y, b) :: l) s s') (hp : Pair ops x y a b) : Run P C ops ((j, y, b) :: (i, x, a) :: l) s s' := by
  obtain ⟨h1, h2, h3, h4, g1, g2, g3, g4, h5⟩ := h
  obtain ⟨ap, d1, d2, k1, k2⟩ := hp
  obtain ⟨p1, p2, p3⟩ := Oper.apart_spec ap
  -- what y looks at is as_ it was before x
  have tm1 : ∀ t ∈ y.looksAt ops, (a.eff x.dst s).tm t = s.tm t := fun t ht => by
    rw [eff_tm k1]
    cases hx : x.dst with
    | none => rfl
    | some d => simp only; rw [beq_ne (fun e : t = d => p1 d hx (by rw [← e]; exact ht))]; rfl
  have tm2 : ∀ t ∈ x.looksAt ops, (b.eff y.dst s).tm t = s.tm t := fun t ht => by
    rw [eff_tm k2]
    cases hy : y.dst with
    | none => rfl
    | some d => simp only; rw [beq_ne (fun e : t = d => p3 d hy (by rw [← e]; exact ht))]; rfl
  have bk1 : ∀ d, d ∈ b.rd ++ (b.lg y.dst).wr → (a.eff x.dst s).bk d = s.bk d := fun d hd => eff_bk k1 fun h => d1 d h hd
  have bk2 : ∀ d, d ∈ a.rd ∨ d ∈ (a.lg x.dst).wr → (b.eff y.dst s).bk d = s.bk d := fun d hd => eff_bk k2 fun h => by
    rcases hd with hd | hd
    · exact d2 d h hd
    · exact d1 d hd (List.mem_append_right _ h)
  have hstate : b.eff y.dst (a.eff x.dst s) = a.eff x.dst (b.eff y.dst s) := by
    have e1 : (b.eff y.dst (a.eff x.dst s)).tm = (a.eff x.dst (b.eff y.dst s)).tm := by
      funext t
      rw [eff_tm k2, eff_tm k1, eff_tm k1, eff_tm k2]
      cases hx : x.dst with
      | none => rfl
      | some d =>
        cases hy : y.dst with
        | none => rfl
        | some d' =>
          have hne : d' ≠ d := fun e => p2 d hx (by rw [hy, e])
          simp only
          by_cases e1 : t = d
          · subst e1
            rw [beq_self, beq_ne (Ne.symm hne)]; rfl
          · rw [beq_ne e1]; rfl
    have e2 : (b.eff y.dst (a.eff x.dst s)).bk = (a.eff x.dst (b.eff y.dst s)).bk := by
      funext d
      by_cases ha : d ∈ (a.lg x.dst).wr
      · have hb : d ∉ (b.lg y.dst).wr := fun h => d1 d ha (List.mem_append_right _ h)
        rw [eff_bk k2 hb, eff_at k1 ha]
      · rw [eff_bk k1 ha]
        by_cases hb : d ∈ (b.lg y.dst).wr
        · exact eff_at k2 hb
        · rw [eff_bk k2 hb, eff_bk k2 hb, eff_bk k1 ha]
    calc b.eff y.dst (a.eff x.dst s) = ⟨(b.eff y.dst (a.eff x.dst s)).tm, (b.eff y.dst (a.eff x.dst s)).bk⟩ := rfl
      _ = ⟨(a.eff x.dst (b.eff y.dst s)).tm, (a.eff x.dst (b.eff y.dst s)).bk⟩ := by rw [e1, e2]
      _ = _ := rfl
  refine ⟨g1, ?_, ?_, g4, h1, ?_, ?_, h4, hstate ▸ h5⟩
  · intro s2 hag
    exact g2 s2 ⟨fun t ht => (hag.tm t ht).trans (tm1 t ht).symm, fun d hd => (hag.bk d hd).trans (bk1 d (List.mem_append_left _ hd)).symm,
      fun d bb hd => (hag.wr d bb hd).trans (bk1 d (List.mem_append_right _ (wr_mem hd))).symm, hag.nb, hag.dst⟩
  · intro bb d hb hd
    have := g3 bb d hb hd
    rwa [bk1 d (List.mem_append_right _ (by rw [hd]; exact nb_mem hb))] at this
  · intro s2 hag
    exact h2 s2 ⟨fun t ht => (hag.tm t ht).trans (tm2 t ht), fun d hd => (hag.bk d hd).trans (bk2 d (.inl hd)),
      fun d bb hd => (hag.wr d bb hd).trans (bk2 d (.inr (wr_mem hd))), hag.nb, hag.dst⟩
  · intro bb d hb hd
    rw [bk2 d (.inr (by rw [hd]; exact nb_mem hb))]
    exact h3 bb d hb hd
theorem Run.front : ∀ (l1 : List (Nat × Oper × Ev)) (z : Nat × Oper × Ev) (l2 : List (Nat × Oper × Ev)) (s s' : S), Run P C ops (l1 ++ z :: l2) s s' → (∀ q ∈ l1, Pair ops q.2.1 z.2.1 q.2.2 z.2.2) → Run P C ops (z :: (l1 ++ l2)) s s'
  | [], z, l2, s, s', h, _ => h
  | q :: l1, z, l2, s, s', h, hp => by
    obtain ⟨i, x, a⟩ := q
    obtain ⟨h1, h2, h3, h4, h5⟩ := h
    have := Run.front l1 z l2 _ s' h5 fun q hq => hp q (List.mem_cons_of_mem _ hq)
    exact Run.swap (l := l1 ++ l2) ⟨h1, h2, h3, h4, this⟩ (hp (i, x, a) List.mem_cons_self)
/-- What must lie before an operation in every order: closed under its own relation. -/
def Closed (ops : Array Oper) (ms : List Nat) : Prop :=
  ∀ j o, ops[j]? = some o → ∀ k, (ms.getD j 0).testBit k = true → ∃ e ∈ o.after, Region.binds .any e = true ∧ (k = e.on ∨ (ms.getD e.on 0).testBit k = true)
theorem wpAny_run {Q : Exit → Act → World → Prop} {ms : List Nat} (hms : Closed ops ms) (hback : ∀ j o, ops[j]? = some o → ∀ e ∈ o.after, Region.binds .any e = true → e.on < j) :
    ∀ (fuel : Nat) (T : List (Nat × Oper × Ev)) (listed : Array Bool) (s s' : S), T.length ≤ fuel → listed.size = ops.size → (∀ i, i < ops.size → (listed.getD i true = false ↔ i ∈ T.map (·.1))) → (T.map (·.1)).Nodup →
      (∀ j k, listed.getD j false = true → (ms.getD j 0).testBit k = true → listed.getD k false = true) →
      List.Pairwise (fun p q => p.1 < q.1 ∧ ((ms.getD q.1 0).testBit p.1 = true ∨ Pair ops p.2.1 q.2.1 p.2.2 q.2.2)) T →
      Run P C ops T s s' → (∀ a w, SR C s' a w → Q .normal a w) → ∀ a w, SR C s a w → wpAny P .any ops Q fuel listed a w := by
  intro fuel
  induction fuel with
  | zero =>
    intro T listed s s' hT hsz hl hnd hcl hpw hrun hq a w hs
    have hT0 : T = [] := List.eq_nil_of_length_eq_zero (by omega)
    subst hT0
    have h : s' = s := hrun
    subst h
    refine ⟨?_, hq a w hs⟩
    cases hr : Region.ready .any ops listed with
    | nil => rfl
    | cons j r =>
      have hj : j ∈ Region.ready .any ops listed := by rw [hr]; exact List.mem_cons_self
      obtain ⟨h1, o, ho, _⟩ := mem_ready.1 hj
      have := (hl j (Array.getElem?_eq_some_iff.1 ho).1).1 h1
      cases this
  | succ fuel ih =>
    intro T listed s s' hT hsz hl hnd hcl hpw hrun hq a w hs
    refine ⟨fun hnil => ?_, fun i hi => ?_⟩
    · cases T with
      | nil => have h : s' = s := hrun; subst h; exact hq a w hs
      | cons p T' =>
        exfalso
        obtain ⟨j, o, e⟩ := p
        have ho : ops[j]? = some o := hrun.1
        have hjs := (Array.getElem?_eq_some_iff.1 ho).1
        have : j ∈ Region.ready .any ops listed := mem_ready.2 ⟨(hl j hjs).2 (by simp), o, ho, fun e he hb => by
          have hlt := hback j o ho e he hb
          have hlt2 : e.on < ops.size := by omega
          cases hx : listed.getD e.on true with
          | true =>
            have : e.on < listed.size := by omega
            simpa [Array.getD_eq_getD_getElem?, this] using hx
          | false =>
            have hm := (hl e.on hlt2).1 hx
            simp only [List.map_cons, List.mem_cons] at hm
            rcases hm with hm | hm
            · omega
            · obtain ⟨q, hq1, hq2⟩ := List.mem_map.1 hm
              have := (List.pairwise_cons.1 hpw).1 q hq1
              simp only at this
              omega⟩
        rw [hnil] at this
        cases this
    · obtain ⟨h1, o, ho, hall⟩ := mem_ready.1 hi
      have his := (Array.getElem?_eq_some_iff.1 ho).1
      have him := (hl i his).1 h1
      obtain ⟨z, hz, hzi⟩ := List.mem_map.1 him
      obtain ⟨l1, l2, rfl⟩ := List.append_of_mem hz
      obtain ⟨i', o', ev⟩ := z
      simp only at hzi
      subst hzi
      -- all that lies before it is listed
      have hbef : ∀ k, (ms.getD i' 0).testBit k = true → listed.getD k false = true := fun k hk => by
        obtain ⟨e, he, hb, hk⟩ := hms i' o ho k hk
        have h3 := hall e he hb
        rcases hk with hk | hk
        · rw [hk]; exact h3
        · exact hcl e.on k h3 hk
      have hpw' := List.pairwise_append.1 hpw
      have hfront := Run.front l1 (i', o', ev) l2 s s' hrun fun q hq => by
        obtain ⟨h4, h5⟩ := hpw'.2.2 q hq (i', o', ev) List.mem_cons_self
        rcases h5 with h5 | h5
        · exfalso
          have h6 := hbef q.1 h5
          have h7 := (hl q.1 (by simp only at h4; omega)).2 (List.mem_map.2 ⟨q, List.mem_append_left _ hq, rfl⟩)
          have : q.1 < listed.size := by simp only at h4; omega
          simp only [Array.getD_eq_getD_getElem?, Array.getElem?_eq_getElem this, Option.getD_some] at h6 h7
          rw [h6] at h7; cases h7
        · exact h5
      obtain ⟨g1, g2, g3, g4, g5⟩ := hfront
      obtain ⟨φ, hs'⟩ := hs
      refine g2 s ⟨fun _ _ => rfl, fun _ _ => rfl, fun _ _ _ => rfl, g3, g4⟩ φ a w hs' _ _ fun a' w' hs2 => ?_
      have hnd1 : i' ∉ (l1 ++ l2).map (·.1) := by
        rw [List.map_append, List.map_cons] at hnd
        have := List.nodup_append.1 hnd
        simp only [List.map_append, List.mem_append, not_or]
        exact ⟨fun h => this.2.2 _ h _ List.mem_cons_self rfl, fun h => (List.nodup_cons.1 this.2.1).1 h⟩
      refine ih (l1 ++ l2) _ _ s' (by simp at hT ⊢; omega) (by simpa using hsz) (fun k hk => ?_) ?_ (fun j k hj hk => ?_) ?_ g5 hq a' w' hs2
      · by_cases e : k = i'
        · subst e
          have : k < listed.size := by omega
          simp only [Array.getD_eq_getD_getElem?, Array.getElem?_setIfInBounds_self_of_lt this, Option.getD_some]
          constructor
          · intro h; cases h
          · intro h; exact absurd h hnd1
        · rw [getD_set_ne true (Ne.symm e), hl k hk]
          simp only [List.map_append, List.map_cons, List.mem_append, List.mem_cons]
          constructor
          · rintro (h | h | h)
            · exact .inl h
            · exact absurd h e
            · exact .inr h
          · rintro (h | h)
            · exact .inl h
            · exact .inr (.inr h)
      · rw [List.map_append, List.map_cons] at hnd
        rw [List.map_append]
        exact hnd.sublist (List.Sublist.append (List.Sublist.refl _) (List.sublist_cons_self _ _))
      · by_cases e : i' = j
        · subst e
          exact getD_set_true (hbef k hk)
        · rw [getD_set_ne false e] at hj
          exact getD_set_true (hcl j k hj hk)
      · exact hpw.sublist (List.Sublist.append (List.Sublist.refl _) (List.sublist_cons_self _ _))
end
end Go.Proofs.YtgbndganadelpaaGreatDoor.E
