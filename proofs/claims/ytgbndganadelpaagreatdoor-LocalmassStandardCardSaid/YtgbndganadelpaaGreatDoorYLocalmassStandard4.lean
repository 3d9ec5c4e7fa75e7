/- append and copy. -/
import Derived.Test.YtgbndganadelpaaGreatDoorYLocalmassStandard3
namespace Go.Proofs.YtgbndganadelpaaGreatDoor.E
open Go
set_option linter.unusedVariables false
set_option linter.unusedSimpArgs false
/-- The cells of a known slice, side by side. -/
theorem view_flat {w : World} {O : Nat → Prop} {V : Vw} {u : Value} (h : ViewOk w O V u) (hne : V.xs ≠ []) :
    ∃ (a : Addr) (cap : Nat) (news : List Value), u = .slice (some a) V.xs.length cap ∧ news.length = V.xs.length * V.t.size ∧ (∀ (j : Nat) (v : Value), news[j]? = some v → w.cell? (a.add j) = some v) ∧
      (∀ v ∈ news, v.oneCell' = true) ∧ ∀ (i : Nat) (x : V.t.den), V.xs[i]? = some x → ∃ vs, vs.length = V.t.size ∧ RepC w O V.t x vs ∧ ∀ (j : Nat) (v : Value), vs[j]? = some v → news[i * V.t.size + j]? = some v := by
  obtain ⟨ad, cap, e, hl, hh⟩ := h
  obtain ⟨b, o, ha⟩ : ∃ b o, ad = some ⟨b, o, none⟩ := by
    cases hx : V.xs with
    | nil => exact absurd hx hne
    | cons x l => obtain ⟨b, o, _, e, _⟩ := hh 0 x (by rw [hx]; rfl); exact ⟨b, o, e⟩
  subst ha
  have hel : ∀ (i : Nat) (x : V.t.den), V.xs[i]? = some x → ∃ vs, vs.length = V.t.size ∧ RepC w O V.t x vs ∧ cellsAt w b (o + i * V.t.size) vs := fun i x hx => by
    obtain ⟨b', o', vs, e, _, _, h4, h5⟩ := hh i x hx
    cases e
    exact ⟨vs, RepC.length _ _ _ h5, h5, h4⟩
  have hcell : ∀ k, k < V.xs.length * V.t.size → ∃ v, w.cell? ⟨b, o + k, none⟩ = some v ∧ v.oneCell' = true := fun k hk => by
    have hs : 0 < V.t.size := by
      rcases Nat.eq_zero_or_pos V.t.size with e | e
      · rw [e] at hk; omega
      · exact e
    have hi : k / V.t.size < V.xs.length := (Nat.div_lt_iff_lt_mul hs).2 hk
    obtain ⟨vs, h1, h2, h3⟩ := hel _ V.xs[k / V.t.size] (List.getElem?_eq_getElem hi)
    have hj := Nat.mod_lt k hs
    have := h3 (k % V.t.size) vs[k % V.t.size] (List.getElem?_eq_getElem (by omega))
    have e : o + k / V.t.size * V.t.size + k % V.t.size = o + k := by
      rw [Nat.add_assoc, Nat.mul_comm, Nat.div_add_mod]
    rw [e] at this
    exact ⟨_, this, RepC.one _ _ _ h2 _ (List.getElem_mem _)⟩
  let news := (List.range (V.xs.length * V.t.size)).map fun k => (w.cell? ⟨b, o + k, none⟩).getD undef
  have hn : ∀ j v, news[j]? = some v → w.cell? ⟨b, o + j, none⟩ = some v := fun j v hj => by
    simp only [news, List.getElem?_map, Option.map_eq_some_iff] at hj
    obtain ⟨k, hk, rfl⟩ := hj
    obtain ⟨hlt, e⟩ := List.getElem?_eq_some_iff.1 hk
    rw [List.getElem_range] at e
    subst e
    rw [List.length_range] at hlt
    obtain ⟨v, hv, _⟩ := hcell _ hlt
    rw [hv]; rfl
  refine ⟨⟨b, o, none⟩, cap, news, e, by simp [news], fun j v hj => by rw [addr_add]; exact hn j v hj, fun v hv => ?_, fun i x hx => ?_⟩
  · obtain ⟨k, hk, rfl⟩ := List.mem_map.1 hv
    obtain ⟨v, hv, h1⟩ := hcell k (List.mem_range.1 hk)
    rw [hv]; exact h1
  · obtain ⟨vs, h1, h2, h3⟩ := hel i x hx
    refine ⟨vs, h1, h2, fun j v hj => ?_⟩
    have hi := (List.getElem?_eq_some_iff.1 hx).1
    have hj' := (List.getElem?_eq_some_iff.1 hj).1
    have hlt : i * V.t.size + j < V.xs.length * V.t.size := by
      have : (i + 1) * V.t.size ≤ V.xs.length * V.t.size := Nat.mul_le_mul_right _ hi
      rw [Nat.add_mul, Nat.one_mul] at this; omega
    simp only [news, List.getElem?_map, List.getElem?_range, hlt, if_true, Option.map_some]
    have := h3 j v hj
    rw [Nat.add_assoc] at this
    rw [this]; rfl
theorem rowAt_append {w : World} {O : Nat → Prop} {c : Array Value} {t : Ty} {xs ys : List t.den} (h1 : RowAt w O c 0 t xs)
    (h2 : ∀ (i : Nat) (x : t.den), ys[i]? = some x → ∃ vs, vs.length = t.size ∧ RepC w O t x vs ∧ ∀ (j : Nat) (v : Value), vs[j]? = some v → c[xs.length * t.size + (i * t.size + j)]? = some v) :
    RowAt w O c 0 t (xs ++ ys) := by
  intro i x hx
  by_cases hi : i < xs.length
  · rw [List.getElem?_append_left hi] at hx
    exact h1 i x hx
  · rw [List.getElem?_append_right (by omega)] at hx
    obtain ⟨vs, e1, e2, e3⟩ := h2 _ x hx
    refine ⟨vs, e1, e2, fun j v hj => ?_⟩
    rw [← e3 j v hj]
    have : i * t.size = xs.length * t.size + (i - xs.length) * t.size := by rw [← Nat.add_mul]; congr 1; omega
    congr 1; omega
section ops
variable {P : Program} {E : Env} {C : Ctx} {s : S} {o : Oper} {R : Type} {r : R}
theorem run_append_none {w : World} {t ty e : Nat} {i : TypeInfo} (ht : P.underlying t = some (.slice e)) (hi : P.info? e = some i) (a : Option Addr) (n cap : Nat) (ad : Option Addr) (c : Nat) (hn : n ≤ cap) :
    (Builtin.append_ #[t, t] ty #[.slice a n cap, .slice ad 0 c]).run P w = .ok (.slice a n cap) w := by
  cases a <;> cases ad <;> simp [Builtin.append_, run_underlying ht, sizeOf, typeInfo, hi, Builtin.lenOf, Builtin.firstCells, loadCells, loadCellsFrom, hn, storeCells]
theorem castT_sl {t t' : Ty} {x : (Ty.sl t').den} {y : (Ty.sl t).den} (h : castT (.sl t) (t' := .sl t') x = some y) : ∃ e : t' = t, e ▸ x = y := by
  obtain ⟨e, h⟩ := castT_ok h
  cases e
  exact ⟨rfl, h⟩
/-- A block of which no reference is left may lie elsewhere. old: where it lay. -/
theorem SRp.relay {φ : Pl} {a : Act} {w w' : World} (h : SRp C φ s a w) {d : Nat} (B' : Blk) (old : Option Nat) (hold : ∀ b, old = some b → d ≠ BOR ∧ (s.bk d).isSome = true ∧ ∃ o z, φ d = some (b, o, z))
    (pl : Option (Nat × Nat × Nat)) (hn : NoRef d s)
    (hos : w'.os = w.os) (htape : w'.tape = w.tape) (hout : w'.output = w.output) (hsize : w.heap.size ≤ w'.heap.size)
    (hblk : ∀ k, k < w.heap.size → old ≠ some k → w'.heap[k]? = w.heap[k]?)
    (hdn : d ≠ BOR) (hpl : ∀ b o z, pl = some (b, o, z) → b < w'.heap.size ∧ (w.heap.size ≤ b ∨ old = some b))
    (hB : ∀ O', (∀ b, O' b → OS C.F φ s b ∨ w.heap.size ≤ b) → Fr (OS C.F φ s) w w' → BlkOk (upd φ d pl) (s.set d B').sh O' w' d B') :
    SRp C (upd φ d pl) (s.set d B') a w' := by
  have hin : ∀ b, old = some b → C.w0.heap.size ≤ b ∧ OS C.F φ s b := fun b e => by
    obtain ⟨h0, hl, o, z, e⟩ := hold b e
    refine ⟨?_, .inr ⟨d, o, z, hl, e⟩⟩
    rcases (h.place d b o z hl e).2 with h1 | ⟨h1, _⟩
    · exact h1.1
    · exact absurd h1 h0
  have hfr : Fr (OS C.F φ s) w w' := ⟨hsize, fun k hk hlt => hblk k hlt fun e => hk (hin k e).2⟩
  have hO : ∀ b, OS C.F (upd φ d pl) (s.set d B') b → OS C.F φ s b ∨ w.heap.size ≤ b := by
    rintro b (hb | ⟨d', o, z, h1, h2⟩)
    · exact .inl (.inl hb)
    · by_cases e : d' = d
      · subst e
        rw [upd_same] at h2
        rcases (hpl _ _ _ h2).2 with h3 | h3
        · exact .inr h3
        · exact .inl (hin _ h3).2
      · rw [upd_ne _ _ e] at h2; rw [set_ne _ _ e] at h1; exact .inl (.inr ⟨d', o, z, h1, h2⟩)
  refine h.setB d B' pl (.inr hn) hfr hos htape hout (fun b hb _ => hblk b (Nat.lt_of_lt_of_le hb h.grow) fun e => by have := (hin b e).1; omega)
    (fun b o n hb => .inl (hblk b (Nat.lt_of_lt_of_le (h.win b o n hb).1 h.grow) fun e => by have := (hin b e).1; have := (h.win _ _ _ hb).1; omega))
    (fun d' b o z hne h1 h2 => hblk b (h.place d' b o z h1 h2).1 fun e => by
      obtain ⟨_, hl, o', z', e⟩ := hold b e
      exact hne (h.inj d' d _ _ _ _ _ h1 hl h2 e))
    (fun b o z e => ?_) (hB _ hO hfr)
  obtain ⟨h1, h2⟩ := hpl b o z e
  refine ⟨h1, ?_, fun d' b' o' z' hne g1 g2 e' => ?_, ?_⟩
  · rcases h2 with h2 | h2
    · exact .inl ⟨Nat.le_trans h.grow h2, hdn⟩
    · exact .inl ⟨(hin _ h2).1, hdn⟩
  · subst e'
    rcases h2 with h2 | h2
    · have := (h.place d' _ _ _ g1 g2).1; omega
    · obtain ⟨_, hl, o'', z'', h2⟩ := hold _ h2
      exact hne (h.inj d' d _ _ _ _ _ g1 hl g2 h2)
  · rcases h2 with h2 | h2
    · exact .inr h2
    · exact .inl (hin _ h2).2
/-- What append gives: the slice's value, the world, the row's cells. -/
theorem run_app {w : World} {t ty e : Nat} {T : Ty} (hu : P.underlying t = some (.slice e)) (hty : TyOk P e T) (hpos : T.size ≠ 0) {O : Nat → Prop}
    {xs ys : List T.den} {ux : Value} {at_ : Option (Nat × Nat)} (hv : ViewOk w O ⟨T, ys, at_⟩ ux) (hlen : xs.length + ys.length ≤ 1073741824) (hne : ys ≠ [])
    {ad : Option Addr} {cap : Nat} (hcap : xs.length ≤ cap)
    (hb : (ad = none ∧ cap = 0) ∨ ∃ b c, ad = some ⟨b, 0, none⟩ ∧ w.heap[b]? = some (.cells c e (0, 0)) ∧ c.size = cap * T.size ∧ cap ≤ maxLen ∧ RowAt w O c 0 T xs) :
    ∃ (g : Nat) (cap' : Nat) (c' : Array Value) (w' : World), (Builtin.append_ #[t, t] ty #[.slice ad xs.length cap, ux]).run P w = .ok (.slice (some ⟨g, 0, none⟩) (xs.length + ys.length) cap') w' ∧
      w'.os = w.os ∧ w'.tape = w.tape ∧ w'.output = w.output ∧ w.heap.size ≤ w'.heap.size ∧ (∀ k, k < w.heap.size → (∀ b, ad = some ⟨b, 0, none⟩ → k ≠ b) → w'.heap[k]? = w.heap[k]?) ∧
      g < w'.heap.size ∧ (w.heap.size ≤ g ∨ ad = some ⟨g, 0, none⟩) ∧ w'.heap[g]? = some (.cells c' e (0, 0)) ∧ xs.length + ys.length ≤ cap' ∧ c'.size = cap' * T.size ∧ cap' ≤ maxLen ∧
      RowAt w O c' 0 T (xs ++ ys) := by
  obtain ⟨i, z, h1, h2, h3, h4, h5⟩ := hty.info
  obtain ⟨a, cx, news, rfl, hnl, hnews, hone, hrep⟩ := view_flat hv hne
  have hm : 0 < ys.length := by cases ys with | nil => exact absurd rfl hne | cons => simp
  simp only at hnl hrep ⊢
  have hby : (xs.length + ys.length) * i.bytes ≤ 1073741824 * 65536 := Nat.mul_le_mul hlen h4
  have hzs : z.cells.size = T.size := by
    obtain ⟨vs, e', r⟩ := ofVal_rep w O T _ _ _ h5
    rw [← Array.length_toList, e', List.append_nil]
    exact RepC.length _ _ _ r
  have hcapm : ∀ old, grownCap w (xs.length + ys.length) old e ≤ maxLen := fun old => grownCap_le_maxLen w _ old e (by simp only [maxLen]; omega)
  have hcapg : ∀ old, xs.length + ys.length ≤ grownCap w (xs.length + ys.length) old e := fun old => grownCap_ge w _ old e
  rw [← h2] at hnl
  -- a new row
  have grown : ∀ (olds : List Value) (old : Nat), olds.length = xs.length * T.size → (∀ (i' : Nat) (x : T.den), xs[i']? = some x → ∃ vs, vs.length = T.size ∧ RepC w O T x vs ∧ ∀ (j : Nat) (v : Value), vs[j]? = some v → olds[i' * T.size + j]? = some v) →
      ∀ cells : Array Value, cells = olds.toArray ++ news.toArray ++ Builtin.zeroCells z.cells (grownCap w (xs.length + ys.length) old e - (xs.length + ys.length)) →
      cells.size = grownCap w (xs.length + ys.length) old e * T.size ∧ RowAt w O cells 0 T (xs ++ ys) := by
    intro olds old ho hold cells hc
    have hge := hcapg old
    subst hc
    constructor
    · simp only [Array.size_append, List.size_toArray, size_zeroCells, hzs, ho, hnl, h2, ← Nat.add_mul]
      congr 1; omega
    · have hat : ∀ k, k < olds.length + news.length → (olds.toArray ++ news.toArray ++ Builtin.zeroCells z.cells (grownCap w (xs.length + ys.length) old e - (xs.length + ys.length)))[k]? = (olds ++ news)[k]? := fun k hk => by
        rw [Array.getElem?_append_left (by simpa using hk)]
        simp
      refine rowAt_append (fun i' x hx => ?_) fun i' x hx => ?_
      · obtain ⟨vs, g1, g2, g3⟩ := hold i' x hx
        refine ⟨vs, g1, g2, fun j v hj => ?_⟩
        have h6 := g3 j v hj
        have h7 := (List.getElem?_eq_some_iff.1 h6).1
        rw [Nat.zero_add, hat _ (by omega), List.getElem?_append_left h7]
        exact h6
      · obtain ⟨vs, g1, g2, g3⟩ := hrep i' x hx
        refine ⟨vs, g1, g2, fun j v hj => ?_⟩
        have h6 := g3 j v hj
        have h7 := (List.getElem?_eq_some_iff.1 h6).1
        rw [hat _ (by omega), List.getElem?_append_right (by omega), ho]
        rw [← h6]; congr 1; omega
  rcases hb with ⟨rfl, rfl⟩ | ⟨b, c, rfl, hg, hcs, hcm, hrow⟩
  · have hx : xs = [] := List.eq_nil_of_length_eq_zero (by omega)
    subst hx
    have hr := run_append_nil (P := P) w t ty e i z hu h1 h3 a ys.length cx news hnl hnews hm (by omega) (by simp at hby; omega)
    simp only [List.length_nil, Nat.zero_add] at *
    obtain ⟨q1, q2⟩ := grown [] 0 (by simp) (fun i' x hx => by cases hx) _ rfl
    simp only [Array.empty_append, List.nil_append] at q1 q2
    exact ⟨w.heap.size, _, _, _, hr, rfl, rfl, rfl, by simp, fun k hk _ => heap_alloc_old w.drew _ k hk, by simp, .inl (Nat.le_refl _), heap_alloc_new w.drew _, hcapg 0, q1, hcapm 0, q2⟩
  · -- the old row's cells
    let olds := c.toList.take (xs.length * T.size)
    have hfit0 : xs.length * T.size ≤ c.size := by rw [hcs]; exact Nat.mul_le_mul_right _ hcap
    have hol : olds.length = xs.length * T.size := by simp only [olds, List.length_take, Array.length_toList]; omega
    have holds : ∀ (j : Nat) (v : Value), olds[j]? = some v → w.cell? ((⟨b, 0, none⟩ : Addr).add j) = some v := fun j v hj => by
      rw [addr_add, Nat.zero_add, cell_of_row w b j c e (0, 0) hg]
      have := (List.getElem?_eq_some_iff.1 hj).1
      simp only [olds] at hj
      rw [List.getElem?_take, if_pos (by omega)] at hj
      simpa using hj
    by_cases hroom : xs.length + ys.length ≤ cap
    · have hfit : xs.length * i.size + news.length ≤ c.size := by rw [hnl, hcs, h2, ← Nat.add_mul]; exact Nat.mul_le_mul_right _ hroom
      have hr := run_append_room (P := P) w t ty e i hu h1 b xs.length cap c hg a ys.length cx news hnl hnews hone hroom hfit
      rw [h2] at hr hfit
      have hsz : (layA c (xs.length * T.size) news).size = c.size := layA_size hfit
      refine ⟨b, cap, layA c (xs.length * T.size) news, _, hr, rfl, rfl, rfl, by simp, fun k _ hk => setRow_other w b k _ (hk b rfl), ?_, .inr rfl, setRow_heap w b c _ e _ hg, hroom, by rw [hsz]; exact hcs, hcm, rowAt_append (fun i' x hx => ?_) fun i' x hx => ?_⟩
      · simpa using (Array.getElem?_eq_some_iff.1 hg).1
      · obtain ⟨vs, g1, g2, g3⟩ := hrow i' x hx
        refine ⟨vs, g1, g2, fun j v hj => ?_⟩
        have hi := (List.getElem?_eq_some_iff.1 hx).1
        have hj' := (List.getElem?_eq_some_iff.1 hj).1
        have : (i' + 1) * T.size ≤ xs.length * T.size := Nat.mul_le_mul_right _ hi
        rw [Nat.add_mul, Nat.one_mul] at this
        rw [layA_out hfit (by left; omega)]
        exact g3 j v hj
      · obtain ⟨vs, g1, g2, g3⟩ := hrep i' x hx
        refine ⟨vs, g1, g2, fun j v hj => ?_⟩
        have h6 := g3 j v hj
        rw [layA_in hfit (List.getElem?_eq_some_iff.1 h6).1]
        exact h6
    · have hr := run_append_grow (P := P) w t ty e i z hu h1 h3 ⟨b, 0, none⟩ xs.length cap olds (by rw [hol, h2]) holds a ys.length cx news hnl hnews (by omega) (by omega) (growslice_fits (by omega) (by omega))
      obtain ⟨q1, q2⟩ := grown olds cap hol (fun i' x hx => by
        obtain ⟨vs, g1, g2, g3⟩ := hrow i' x hx
        refine ⟨vs, g1, g2, fun j v hj => ?_⟩
        have hi := (List.getElem?_eq_some_iff.1 hx).1
        have hj' := (List.getElem?_eq_some_iff.1 hj).1
        have : (i' + 1) * T.size ≤ xs.length * T.size := Nat.mul_le_mul_right _ hi
        rw [Nat.add_mul, Nat.one_mul] at this
        simp only [olds]
        rw [List.getElem?_take, if_pos (by omega)]
        have := g3 j v hj
        rw [Nat.zero_add] at this
        simpa using this) _ rfl
      exact ⟨w.heap.size, _, _, _, hr, rfl, rfl, rfl, by simp, fun k hk _ => heap_alloc_old w.drew _ k hk, by simp, .inl (Nat.le_refl _), heap_alloc_new w.drew _, hcapg cap, q1, hcapm cap, q2⟩
theorem app_state {φ : Pl} {s2 : S} {a : Act} {w w' : World} (hs : SRp C φ s2 a w) {d' d et' : Nat} {t : Ty} {xs zs : List t.den} (hb2 : s2.bk d' = some (.arr et' t xs)) (hbor : d' ≠ BOR) (hd : d < C.n)
    (old : Option Nat) (hold : ∀ b, old = some b → ∃ o z, φ d' = some (b, o, z)) (pl : Option (Nat × Nat × Nat))
    (hos : w'.os = w.os) (htape : w'.tape = w.tape) (hout : w'.output = w.output) (hsize : w.heap.size ≤ w'.heap.size)
    (hblk : ∀ k, k < w.heap.size → old ≠ some k → w'.heap[k]? = w.heap[k]?)
    (hpl : ∀ b o z, pl = some (b, o, z) → b < w'.heap.size ∧ (w.heap.size ≤ b ∨ old = some b))
    (hB : (pl = none ∧ zs = []) ∨ ∃ (b o z : Nat) (c' : Array Value), pl = some (b, o, z) ∧ w'.heap[b]? = some (.cells c' et' (0, 0)) ∧ c'.size = z ∧ RowAt w (OS C.F φ s2) c' o t zs)
    (u : Value) (hu : ∃ ad cap, u = .slice ad zs.length cap ∧ zs.length ≤ cap ∧ ((pl = none ∧ ad = none ∧ cap = 0) ∨ ∃ b z, pl = some (b, 0, z) ∧ ad = some ⟨b, 0, none⟩ ∧ z = cap * t.size ∧ cap ≤ maxLen)) :
    SRp C (upd φ d' pl) (((s2.killR (Nat.beq d')).set d' (.arr et' t zs)).put d (.own d')) (a.put (some d) u) w' := by
  have hk := hs.killR (Nat.beq d')
  have hl : (s2.bk d').isSome = true := by rw [hb2]; rfl
  have hOk : ∀ b, OS C.F φ (s2.killR (Nat.beq d')) b → OS C.F φ s2 b := fun b hb => hb.imp id fun ⟨d, o, z, h1, h2⟩ => ⟨d, o, z, by rw [← killR_live]; exact h1, h2⟩
  have hOS : OS C.F φ (s2.killR (Nat.beq d')) = OS C.F φ s2 := funext fun b => propext ⟨hOk b, fun hb => hb.imp id fun ⟨d, o, z, h1, h2⟩ => ⟨d, o, z, by rw [killR_live]; exact h1, h2⟩⟩
  have hn := hk.relay (.arr et' t zs) old (fun b e => ⟨hbor, by rw [killR_live]; exact hl, hold b e⟩) pl (NoRef.killR s2 d') hos htape hout hsize hblk hbor hpl (fun O' hO' hfr => by
    rcases hB with ⟨h1, h2⟩ | ⟨b, o, z, c', h1, h2, h3, h4⟩
    · exact .inl ⟨by rw [upd_same, h1], h2⟩
    · exact .inr ⟨b, o, z, c', et', by rw [upd_same, h1], h2, h3, .inr (.inr rfl), h4.frame (hOS ▸ hfr) (fun b hb => (hO' b hb).imp (hOk b) id)⟩)
  obtain ⟨ad, cap, h1, h2, h3⟩ := hu
  refine hn.put hd ⟨t, zs.length, ad, cap, set_sh_same _ _ _, h1, h2, ?_⟩
  rw [upd_same]
  rcases h3 with ⟨e1, e2, e3⟩ | ⟨b, z, e1, e2, e3, e4⟩
  · exact .inl ⟨e1, .inr ⟨e2, e3⟩⟩
  · exact .inr ⟨b, 0, z, e1, e2, .inr ⟨rfl, e3, e4⟩⟩
theorem app_new {φ : Pl} {s2 : S} {a : Act} {w w' : World} (hs : SRp C φ s2 a w) {d et' : Nat} {t : Ty} {zs : List t.den} (hb2 : s2.bk d = none) (hd : d < C.n) (pl : Option (Nat × Nat × Nat))
    (hw : Same w w') (hpl : ∀ b o z, pl = some (b, o, z) → b < w'.heap.size ∧ w.heap.size ≤ b)
    (hB : (pl = none ∧ zs = []) ∨ ∃ (b o z : Nat) (c' : Array Value), pl = some (b, o, z) ∧ w'.heap[b]? = some (.cells c' et' (0, 0)) ∧ c'.size = z ∧ RowAt w (OS C.F φ s2) c' o t zs)
    (u : Value) (hu : ∃ ad cap, u = .slice ad zs.length cap ∧ zs.length ≤ cap ∧ ((pl = none ∧ ad = none ∧ cap = 0) ∨ ∃ b z, pl = some (b, 0, z) ∧ ad = some ⟨b, 0, none⟩ ∧ z = cap * t.size ∧ cap ≤ maxLen)) :
    SRp C (upd φ d pl) ((s2.set d (.arr et' t zs)).put d (.own d)) (a.put (some d) u) w' := by
  have hn := hs.relay (.arr et' t zs) none (fun b e => by cases e) pl (hs.noref hb2) hw.os hw.tape hw.output hw.size (fun k hk _ => hw.block k hk) (fun e => by have := C.hn; omega) (fun b o z e => ⟨(hpl b o z e).1, .inl (hpl b o z e).2⟩) (fun O' hO' hfr => by
    rcases hB with ⟨h1, h2⟩ | ⟨b, o, z, c', h1, h2, h3, h4⟩
    · exact .inl ⟨by rw [upd_same, h1], h2⟩
    · exact .inr ⟨b, o, z, c', et', by rw [upd_same, h1], h2, h3, .inr (.inr rfl), h4.frame hfr hO'⟩)
  obtain ⟨ad, cap, h1, h2, h3⟩ := hu
  refine hn.put hd ⟨t, zs.length, ad, cap, set_sh_same _ _ _, h1, h2, ?_⟩
  rw [upd_same]
  rcases h3 with ⟨e1, e2, e3⟩ | ⟨b, z, e1, e2, e3, e4⟩
  · exact .inl ⟨e1, .inr ⟨e2, e3⟩⟩
  · exact .inr ⟨b, 0, z, e1, e2, .inr ⟨rfl, e3, e4⟩⟩
theorem app_ok (hT : Tabs E P) {c : Call} {b x : Operand} {t : Nat} {K : Ev → Option R} (ho : o.op = .call c) (hc : c.callee = .builtin .append) (hx : c.args.toList = [b, x]) (ht : c.argTypes.toList = [t, t])
    (h : appK E s t o.dst (s.ev b) (s.ev x) K = some r) : ∃ e, EvOk P C s o e ∧ K e = some r := by
  have ea : c.args = #[b, x] := by rw [← hx, Array.toArray_toList]
  have et : c.argTypes = #[t, t] := by rw [← ht, Array.toArray_toList]
  have mb : b ∈ o.op.operands := by simp [ho, Op.operands, Call.operands, hc, ea]
  have mx : x ∈ o.op.operands := by simp [ho, Op.operands, Call.operands, hc, ea]
  have hop : ∀ (a : Act) (w : World), (execOp a.eval o).run P w = ((Builtin.append_ #[t, t] o.type #[a.eval b, a.eval x]).run P w).andThen fun v w' => .ok (.value v) w' := fun a w => by
    simp [execOp, ho, resolve, hc, ea, et, invoke, builtin]
  unfold appK at h
  split at h
  · cases h
  rename_i el hel
  split at h
  rotate_left
  · cases h
  rename_i T V d hT' hv hd
  have hu := hT.el _ _ hel
  have hty := hT.ty _ _ hT'
  obtain ⟨h0, h⟩ := cond_some h
  have hpos : T.size ≠ 0 := fun e => by rw [e] at h0; cases h0
  split at h
  · cases h
  rename_i ys hys
  obtain ⟨e, e'⟩ := castT_sl hys
  subst e
  simp only at e'
  subst e'
  split at h
  · -- a row of the call's own
    rename_i d' hb
    cases hbk : s.bk d' with
    | none => rw [hbk] at h; cases h
    | some B =>
    rw [hbk] at h
    cases B with
    | box _ => cases h
    | arr et' t' xs =>
    simp only at h
    split at h
    rotate_left
    · cases h
    rename_i xs' hxs
    obtain ⟨e, e'⟩ := castT_sl hxs
    subst e
    simp only at e'
    subst e'
    obtain ⟨h1, h⟩ := cond_some h
    obtain ⟨h2, h⟩ := cond_some' h
    simp only [Bool.or_eq_false_iff, Bool.not_eq_false', nbeq, decide_eq_false_iff_not, decide_eq_true_eq] at h1
    obtain ⟨hbor, hz0, e⟩ := h1
    subst e
    have hlen : List.length xs + List.length V.xs ≤ 1073741824 := of_decide_eq_true h2
    refine ⟨_, ?_, h⟩
    intro s2 hag φ a w hs K' Q hK
    have g1 := ev_ok hs b
    have g2 := ev_ok hs x
    rw [hag.ev b mb, hb] at g1
    rw [hag.ev x mx] at g2
    have hb2 : s2.bk d' = some (.arr et' V.t xs) := by rw [hag.wr d' _ rfl, hbk]
    have hl : (s2.bk d').isSome = true := by rw [hb2]; rfl
    have hvo := view_ok hs (view_agree hv fun k hk => hag.bk k hk) g2
    obtain ⟨t2, n, ad, cap, p1, p2, p3, p4⟩ := g1
    simp only [S.sh, hb2, Option.map_some, Blk.sh, Option.some.injEq, Sh.arr.injEq] at p1
    obtain ⟨rfl, rfl⟩ := p1
    -- where the row lies
    have hbase : ((ad = none ∧ cap = 0) ∨ ∃ b' c', ad = some ⟨b', 0, none⟩ ∧ w.heap[b']? = some (.cells c' et' (0, 0)) ∧ c'.size = cap * V.t.size ∧ cap ≤ maxLen ∧ RowAt w (OS C.F φ s2) c' 0 V.t xs) ∧
        (∀ b', ad = some ⟨b', 0, none⟩ → ∃ o' z, φ d' = some (b', o', z)) := by
      rcases p4 with ⟨q1, q2⟩ | ⟨b', o', z, q1, q2, q3⟩
      · rcases q2 with q2 | ⟨q2, q3⟩
        · exact absurd q2 hbor
        · exact ⟨.inl ⟨q2, q3⟩, fun b' e => by rw [q2] at e; cases e⟩
      · rcases q3 with q3 | ⟨rfl, q4, q5⟩
        · exact absurd q3 hbor
        rcases hs.blk d' _ hb2 with ⟨k1, _⟩ | ⟨b2, o2, z2, c2, el2, k1, k2, k3, k4, k5⟩
        · rw [k1] at q1; cases q1
        · rw [k1] at q1; cases q1
          have k4 := (k4.resolve_left hbor).resolve_left hz0
          subst k4
          exact ⟨.inr ⟨b', c2, q2, k2, by rw [k3, q4], q5, k5⟩, fun b'' e => by rw [q2] at e; cases e; exact ⟨_, _, k1⟩⟩
    have he : ∀ ys : List V.t.den, Ev.eff { a := .own d', wr := some (d', .arr et' V.t (xs ++ ys)), kl := true, rd := V.rd } o.dst s2 = ((s2.killR (Nat.beq d')).set d' (.arr et' V.t (xs ++ ys))).put d (.own d') := fun ys => by rw [hd]; rfl
    unfold Oper.wp
    rw [hop, p2]
    by_cases hne : V.xs = []
    · obtain ⟨i, z, i1, _⟩ := hty.info
      obtain ⟨adx, capx, e1, _⟩ := hvo
      have hl0 : V.xs.length = 0 := by rw [hne]; rfl
      rw [e1, hl0]
      have := run_append_none (P := P) (w := w) (ty := o.type) hu i1 ad xs.length cap adx capx p3
      rw [this]
      have hzs : xs ++ V.xs = xs := by rw [hne, List.append_nil]
      refine hK _ _ ⟨upd φ d' (φ d'), ?_⟩
      rw [he, hd, hzs]
      have hfrom : ∀ b o' z, φ d' = some (b, o', z) → b < w.heap.size := fun b o' z e => (hs.place d' b o' z hl e).1
      refine app_state hs hb2 hbor (hag.dst d hd) ((φ d').map (·.1)) (fun b e => ?_) (φ d') rfl rfl rfl (Nat.le_refl _) (fun _ _ _ => rfl) (fun b o' z e => ⟨hfrom b o' z e, .inr (by rw [e]; rfl)⟩) ?_ _ ⟨ad, cap, rfl, p3, ?_⟩
      · obtain ⟨⟨b2, o2, z2⟩, q1, q2⟩ := Option.map_eq_some_iff.1 e
        cases q2
        exact ⟨_, _, q1⟩
      · rcases hs.blk d' _ hb2 with k1 | ⟨b2, o2, z2, c2, el2, k1, k2, k3, k4, k5⟩
        · exact .inl k1
        · have k4 := (k4.resolve_left hbor).resolve_left hz0
          subst k4
          exact .inr ⟨b2, o2, z2, c2, k1, k2, k3, k5⟩
      · rcases p4 with ⟨q1, q2⟩ | ⟨b', o', z', q1, q2, q3⟩
        · obtain ⟨q2, q3⟩ := q2.resolve_left hbor
          exact .inl ⟨q1, q2, q3⟩
        · obtain ⟨rfl, q3, q4⟩ := q3.resolve_left hbor
          exact .inr ⟨b', z', q1, q2, q3, q4⟩
    · obtain ⟨g, cap', c', w', r1, r2, r3, r4, r5, r6, r7, r8, r9, r10, r11, r12, r13⟩ := run_app (P := P) (ty := o.type) hu hty hpos hvo hlen hne p3 hbase.1
      rw [r1]
      refine hK _ _ ⟨upd φ d' (some (g, 0, cap' * V.t.size)), ?_⟩
      rw [he, hd]
      refine app_state hs hb2 hbor (hag.dst d hd) (ad.map (·.block)) (fun b e => ?_) _ r2 r3 r4 r5 (fun k hk hn => r6 k hk fun b e h' => hn (by rw [e, h']; rfl)) (fun b o' z e => ?_) (.inr ⟨g, 0, _, c', rfl, r9, r11, r13⟩) _
        ⟨some ⟨g, 0, none⟩, cap', by rw [List.length_append], by rw [List.length_append]; exact r10, .inr ⟨g, _, rfl, rfl, rfl, r12⟩⟩
      · rcases hbase.1 with ⟨q, _⟩ | ⟨b2, _, q, _⟩
        · rw [q] at e; cases e
        · rw [q] at e; cases e; exact hbase.2 _ q
      · cases e
        exact ⟨r7, r8.imp id fun h => by rw [h]; rfl⟩
  · -- nil
    rename_i hb
    obtain ⟨h2, h⟩ := cond_some' h
    have hlen : List.length V.xs ≤ 1073741824 := of_decide_eq_true h2
    refine ⟨_, ?_, h⟩
    intro s2 hag φ a w hs K' Q hK
    have g1 := ev_ok hs b
    have g2 := ev_ok hs x
    rw [hag.ev b mb, hb] at g1
    rw [hag.ev x mx] at g2
    have g1 : a.eval b = .slice none 0 0 := g1
    have hvo := view_ok hs (view_agree hv fun k hk => hag.bk k hk) g2
    have hb2 := hag.nb _ d rfl hd
    have he : Ev.eff { a := .own d, nb := some (.arr el V.t V.xs), rd := V.rd } o.dst s2 = (s2.set d (.arr el V.t V.xs)).put d (.own d) := by rw [hd]; rfl
    unfold Oper.wp
    rw [hop, g1]
    by_cases hne : V.xs = []
    · obtain ⟨i, z, i1, _⟩ := hty.info
      obtain ⟨adx, capx, e1, _⟩ := hvo
      have hl0 : V.xs.length = 0 := by rw [hne]; rfl
      rw [e1, hl0]
      have := run_append_none (P := P) (w := w) (ty := o.type) hu i1 none 0 0 adx capx (Nat.le_refl _)
      rw [this]
      refine hK _ _ ⟨upd φ d none, ?_⟩
      rw [he, hd]
      exact app_new hs hb2 (hag.dst d hd) none ⟨rfl, rfl, rfl, Nat.le_refl _, fun _ _ => rfl⟩ (fun b o' z e => by cases e) (.inl ⟨rfl, hne⟩) _ ⟨none, 0, by rw [hl0], by rw [hl0]; exact Nat.le_refl _, .inl ⟨rfl, rfl, rfl⟩⟩
    · obtain ⟨g, cap', c', w', r1, r2, r3, r4, r5, r6, r7, r8, r9, r10, r11, r12, r13⟩ := run_app (P := P) (ty := o.type) (xs := []) (ad := none) (cap := 0) hu hty hpos hvo (by simpa using hlen) hne (Nat.le_refl _) (.inl ⟨rfl, rfl⟩)
      rw [List.length_nil] at r1 r10
      rw [Nat.zero_add] at r1 r10
      rw [List.nil_append] at r13
      rw [r1]
      refine hK _ _ ⟨upd φ d (some (g, 0, cap' * V.t.size)), ?_⟩
      rw [he, hd]
      exact app_new hs hb2 (hag.dst d hd) _ ⟨r2, r3, r4, r5, fun k hk => r6 k hk fun b e => by cases e⟩ (fun b o' z e => by cases e; exact ⟨r7, r8.resolve_right fun e => by cases e⟩) (.inr ⟨g, 0, _, c', rfl, r9, r11, r13⟩) _
        ⟨some ⟨g, 0, none⟩, cap', rfl, r10, .inr ⟨g, _, rfl, rfl, rfl, r12⟩⟩
  · cases h
end ops
end Go.Proofs.YtgbndganadelpaaGreatDoor.E
/- copy, slices of slices, composite structs. -/
namespace Go.Proofs.YtgbndganadelpaaGreatDoor.E
open Go
set_option linter.unusedVariables false
set_option linter.unusedSimpArgs false
section ops
variable {P : Program} {E : Env} {C : Ctx} {s : S} {o : Oper} {R : Type} {r : R}
theorem S.set_self {d : Nat} {B : Blk} (h : s.bk d = some B) : s.set d B = s := by
  cases s with
  | mk tm bk =>
    simp only [S.set, S.mk.injEq, true_and]
    funext x
    by_cases e : x = d
    · subst e; rw [beq_self]; exact h.symm
    · rw [beq_ne e]; rfl
theorem copy_ok (hT : Tabs E P) {c : Call} {b x : Operand} {t : Nat} {K : Ev → Option R} (ho : o.op = .call c) (hc : c.callee = .builtin .copy) (hx : c.args.toList = [b, x]) {l : List Nat} (ht : c.argTypes.toList = t :: l)
    (h : copyK E t s (s.ev b) (s.ev x) K = some r) : ∃ e, EvOk P C s o e ∧ K e = some r := by
  have ea : c.args = #[b, x] := by rw [← hx, Array.toArray_toList]
  have et : c.argTypes[0]? = some t := by rw [← Array.getElem?_toList, ht]; rfl
  have mb : b ∈ o.op.operands := by simp [ho, Op.operands, Call.operands, hc, ea]
  have mx : x ∈ o.op.operands := by simp [ho, Op.operands, Call.operands, hc, ea]
  have hop : ∀ (a : Act) (w : World), (execOp a.eval o).run P w = ((Builtin.copy_ c.argTypes o.type #[a.eval b, a.eval x]).run P w).andThen fun v w' => .ok (.value v) w' := fun a w => by
    simp [execOp, ho, resolve, hc, ea, invoke, builtin]
  unfold copyK at h
  split at h
  rotate_left
  · cases h
  rename_i d' V hb hv
  cases hbk : s.bk d' with
  | none => rw [hbk] at h; cases h
  | some B =>
  rw [hbk] at h
  cases B with
  | box _ => cases h
  | arr et' tt xs =>
  simp only at h
  split at h
  rotate_left
  · cases h
  rename_i ys hys
  obtain ⟨e, e'⟩ := castT_sl hys
  subst e
  simp only at e'
  subst e'
  split at h
  rotate_left
  · cases h
  rename_i hel
  obtain ⟨el, hu, hty⟩ := elT_some hT hel
  obtain ⟨h0, h⟩ := cond_some h
  have hpos : V.t.size ≠ 0 := fun e => by rw [e] at h0; cases h0
  refine ⟨_, ?_, h⟩
  intro s2 hag φ a w hs K' Q hK
  have g1 := ev_ok hs b
  have g2 := ev_ok hs x
  rw [hag.ev b mb, hb] at g1
  rw [hag.ev x mx] at g2
  have hb2 : s2.bk d' = some (.arr et' V.t xs) := by rw [hag.wr d' _ rfl, hbk]
  have hl : (s2.bk d').isSome = true := by rw [hb2]; rfl
  have hvo := view_ok hs (view_agree hv fun k hk => hag.bk k hk) g2
  obtain ⟨t2, n, ad, cap, p1, p2, p3, p4⟩ := g1
  simp only [S.sh, hb2, Option.map_some, Blk.sh, Option.some.injEq, Sh.arr.injEq] at p1
  obtain ⟨rfl, rfl⟩ := p1
  have he : ∀ zs : List V.t.den, Ev.eff { a := .v (.int .i64) (Nat.min V.xs.length xs.length : Nat), wr := some (d', .arr et' V.t zs), rd := V.rd } o.dst s2 = (s2.set d' (.arr et' V.t zs)).puto o.dst (.v (.int .i64) (Nat.min V.xs.length xs.length : Nat)) := fun zs => by
    cases o.dst <;> rfl
  unfold Oper.wp
  rw [hop, p2]
  by_cases hne : V.xs = [] ∨ xs = []
  · have hmin : Nat.min V.xs.length xs.length = 0 := by rcases hne with e | e <;> simp [e]
    have hzs : List.take xs.length V.xs ++ xs.drop V.xs.length = xs := by rcases hne with e | e <;> simp [e]
    obtain ⟨adx, capx, e1, _⟩ := hvo
    have hrun : (Builtin.copy_ c.argTypes o.type #[.slice ad xs.length cap, a.eval x]).run P w = .ok (.int .i64 (0 : Nat)) w := by
      rw [e1]
      simp only [Builtin.copy_, et]
      cases adx <;> cases ad <;> simp [run_underlying hu, Builtin.lenOf, hmin, Builtin.firstCells, run_size hty, loadCells, loadCellsFrom, storeCells, goInt]
    rw [hrun]
    refine hK _ _ ⟨φ, ?_⟩
    rw [he, hzs, S.set_self hb2, hmin]
    exact hs.puto hag.dst (RepV.mk_int _ _ _ _)
  · have hne1 : V.xs ≠ [] := fun e => hne (.inl e)
    have hne2 : xs ≠ [] := fun e => hne (.inr e)
    obtain ⟨a', capx, news, e1, hnl, hnews, hone, hrep⟩ := view_flat hvo hne1
    -- the row written
    have hrow : ∃ b' o' z c' el', φ d' = some (b', o', z) ∧ ad = some ⟨b', o', none⟩ ∧ w.heap[b']? = some (.cells c' el' (0, 0)) ∧ c'.size = z ∧ (d' = BOR ∨ et' = 0 ∨ el' = et') ∧ RowAt w (OS C.F φ s2) c' o' V.t xs := by
      rcases hs.blk d' _ hb2 with ⟨_, k1⟩ | ⟨b2, o2, z2, c2, el2, k1, k2, k3, k4, k5⟩
      · exact absurd k1 hne2
      · rcases p4 with ⟨q1, _⟩ | ⟨b', o', z', q1, q2, _⟩
        · rw [q1] at k1; cases k1
        · rw [q1] at k1; cases k1; exact ⟨_, _, _, c2, el2, q1, q2, k2, k3, k4, k5⟩
    obtain ⟨b', o', z, c', el', q1, rfl, q2, q3, q4, q5⟩ := hrow
    have hm : Nat.min V.xs.length xs.length ≤ V.xs.length := Nat.min_le_left _ _
    have hm2 : Nat.min V.xs.length xs.length ≤ xs.length := Nat.min_le_right _ _
    generalize hM : Nat.min V.xs.length xs.length = m at *
    have hcl : (news.take (m * V.t.size)).length = m * V.t.size := by
      rw [List.length_take, hnl]
      exact Nat.min_eq_left (Nat.mul_le_mul_right _ hm)
    have hfitx : o' + xs.length * V.t.size ≤ c'.size := by
      have e : 0 < V.t.size := Nat.pos_of_ne_zero hpos
      have hx0 : xs.length - 1 < xs.length := by cases xs with | nil => exact absurd rfl hne2 | cons => simp
      obtain ⟨vs, h1, _, h3⟩ := q5 (xs.length - 1) xs[xs.length - 1] (List.getElem?_eq_getElem hx0)
      have := h3 (V.t.size - 1) vs[V.t.size - 1] (List.getElem?_eq_getElem (by omega))
      have := (Array.getElem?_eq_some_iff.1 this).1
      have h4 : xs.length * V.t.size = (xs.length - 1) * V.t.size + V.t.size := by
        rw [← Nat.succ_mul]; congr 1; omega
      omega
    have hfit : o' + (news.take (m * V.t.size)).length ≤ c'.size := by
      rw [hcl]
      have : m * V.t.size ≤ xs.length * V.t.size := Nat.mul_le_mul_right _ hm2
      omega
    have hload : (loadCells a' (m * V.t.size)).run P w = .ok (news.take (m * V.t.size)).toArray w := by
      have := run_loadCells_list (P := P) w a' (news.take (m * V.t.size)) (fun j v hj => hnews j v (by
        have := (List.getElem?_eq_some_iff.1 hj).1
        rw [List.getElem?_take, if_pos (by omega)] at hj
        exact hj))
      rwa [hcl] at this
    have hst := run_storeCells_at P b' o' el' (news.take (m * V.t.size)) 0 c' w q2 (by simpa using hfit) (fun v hv => hone v (List.mem_of_mem_take hv))
    simp only [Nat.add_zero] at hst
    have hrun : (Builtin.copy_ c.argTypes o.type #[.slice (some ⟨b', o', none⟩) xs.length cap, a.eval x]).run P w = .ok (.int .i64 (m : Nat)) (w.setRow b' (layA c' o' (news.take (m * V.t.size)))) := by
      rw [e1]
      simp only [Builtin.copy_, et]
      simp [run_underlying hu, Builtin.lenOf, hM, Builtin.firstCells, run_size hty, hload, hst, goInt, layA]
    rw [hrun]
    refine hK _ _ ⟨φ, ?_⟩
    rw [he]
    refine SRp.puto ?_ hag.dst (RepV.mk_int _ _ _ _)
    have hlen : (List.take xs.length V.xs ++ xs.drop V.xs.length).length = xs.length := by
      simp only [List.length_append, List.length_take, List.length_drop]; omega
    refine hs.write hb2 q1 q2 (layA_size hfit) (by simp only [Blk.sh, hlen]) (fun _ t n e k hk => ?_) fun hfr hb' => .inr ⟨b', o', z, _, el', q1, hb', by rw [layA_size hfit]; exact q3, q4, fun i y hy => ?_⟩
    · cases e
      refine layA_out hfit ?_
      rw [hcl]
      have : m * V.t.size ≤ xs.length * V.t.size := Nat.mul_le_mul_right _ hm2
      rcases hk with hk | hk
      · left; exact hk
      · right; omega
    · have hmm : m = V.xs.length ∨ m = xs.length := by rw [← hM]; exact (Nat.le_total V.xs.length xs.length).imp (fun h => Nat.min_eq_left h) (fun h => Nat.min_eq_right h)
      have htl : (List.take xs.length V.xs).length = m := by rw [List.length_take, Nat.min_comm]; exact hM
      by_cases hi : i < m
      · rw [List.getElem?_append_left (by omega), List.getElem?_take, if_pos (by omega)] at hy
        obtain ⟨vs, h1, h2, h3⟩ := hrep i y hy
        refine ⟨vs, h1, RepC.frame hfr (fun _ h => .inl h) _ _ _ h2, fun j v hj => ?_⟩
        have hj' := (List.getElem?_eq_some_iff.1 hj).1
        have hlt : i * V.t.size + j < m * V.t.size := by
          have : (i + 1) * V.t.size ≤ m * V.t.size := Nat.mul_le_mul_right _ hi
          rw [Nat.add_mul, Nat.one_mul] at this
          omega
        rw [Nat.add_assoc, layA_in hfit (by omega), List.getElem?_take, if_pos hlt]
        exact h3 j v hj
      · rw [List.getElem?_append_right (by omega), htl, List.getElem?_drop] at hy
        have hyi : xs[i]? = some y := by
          rw [← hy]
          rcases hmm with e | e
          · congr 1; omega
          · have : i < (List.take xs.length V.xs ++ xs.drop V.xs.length).length := by
              rcases Nat.lt_or_ge i (List.take xs.length V.xs ++ xs.drop V.xs.length).length with h | h
              · exact h
              · rw [List.getElem?_eq_none (by omega)] at hy; cases hy
            omega
        obtain ⟨vs, h1, h2, h3⟩ := q5 i y hyi
        refine ⟨vs, h1, RepC.frame hfr (fun _ h => .inl h) _ _ _ h2, fun j v hj => ?_⟩
        have : m * V.t.size ≤ i * V.t.size := Nat.mul_le_mul_right _ (by omega)
        rw [layA_out hfit (by right; omega)]
        exact h3 j v hj
/-- A slice of a slice: its value, in the evaluator and in the model. -/
theorem slice_res {φ : Pl} {a : Act} {w : World} (hs : SRp C φ s a w) {x : AV} {V : Vw} {u : Value} (hv : s.view x = some V) (ho : Ok φ s.sh (OS C.F φ s) w x u) {ad : Option Addr} {cap l h m : Nat}
    (hu : u = .slice ad V.xs.length cap) (hl : l ≤ h) (hh : h ≤ V.xs.length) (hm : h ≤ m) :
    Ok φ s.sh (OS C.F φ s) w (match V.at_ with | some (d, o) => .osl d (o + l) (h - l) | none => .v (.sl V.t) ((V.xs.take h).drop l))
      (.slice (if m = l then ad else ad.map (·.add (l * V.t.size))) (h - l) (m - l)) := by
  obtain ⟨t, xs, at_⟩ := V
  subst hu
  simp only at hh ⊢
  cases at_ with
  | none =>
    obtain ⟨ad', cap', e, _, hel⟩ := view_ok hs hv ho
    cases e
    have hlen : ((xs.take h).drop l).length = h - l := by rw [List.length_drop, List.length_take]; omega
    refine RepV.of_sl ⟨_, _, by rw [hlen], by rw [hlen]; omega, fun i y hy => ?_⟩
    have hi : i < h - l := Nat.lt_of_lt_of_eq (List.getElem?_eq_some_iff.1 hy).1 hlen
    rw [List.getElem?_drop, List.getElem?_take, if_pos (by omega)] at hy
    obtain ⟨b, o, vs, e1, e2, e3, e4, e5⟩ := hel _ y hy
    subst e1
    refine ⟨b, o + l * t.size, vs, ?_, e3 rfl, e2, ?_, e5⟩
    · rw [if_neg (by omega), Option.map_some, addr_add]
    · simp only at e4
      rw [Nat.add_mul, ← Nat.add_assoc] at e4
      exact e4
  | some p =>
    obtain ⟨d, off⟩ := p
    obtain ⟨n, h1, h2, ad', cap', e, _, h4⟩ := view_at hs hv ho
    cases e
    refine ⟨t, n, _, _, h1, by omega, rfl, by omega, fun hne => ?_⟩
    obtain ⟨b, o, z, e1, e2⟩ := h4 (by omega)
    subst e2
    refine ⟨b, o, z, e1, ?_⟩
    rw [if_neg (by omega), Option.map_some, addr_add, Nat.add_assoc, ← Nat.add_mul]
theorem run_slice {t e : Nat} {T : Ty} (hu : P.underlying t = some (.slice e)) (hty : TyOk P e T) (w : World) (ad : Option Addr) (len cap : Nat) (lo hi mx : Option Value) (l h m : Nat)
    (hb : (Instr.sliceBounds true len cap lo hi mx).run P w = .ok (l, h, m) w) :
    (Instr.sliceAt t (.slice ad len cap) lo hi mx).run P w = .ok (.slice (if m = l then ad else ad.map (·.add (l * T.size))) (h - l) (m - l)) w := by
  simp [Instr.sliceAt, Instr.slice, run_underlying hu, hb, run_size hty]
theorem inC_spec {i : Int} {n : Nat} (h : inC i n = true) : 0 ≤ i ∧ i ≤ n := by simpa [inC] using h
theorem slice_ok (hT : Tabs E P) {t : Nat} {x : Operand} {lo hi mx : Option Operand} {K : Ev → Option R} (ho : o.op = .slice t x lo hi mx) (h : slK E t s (s.ev x) (lo.map s.ev) (hi.map s.ev) (mx.map s.ev) K = some r) :
    ∃ e, EvOk P C s o e ∧ K e = some r := by
  have mxx : x ∈ o.op.operands := by simp [ho, Op.operands]
  have mlo : ∀ y, lo = some y → y ∈ o.op.operands := fun y e => by simp [ho, Op.operands, e]
  have mhi : ∀ y, hi = some y → y ∈ o.op.operands := fun y e => by simp [ho, Op.operands, e]
  have mmx : ∀ y, mx = some y → y ∈ o.op.operands := fun y e => by simp [ho, Op.operands, e]
  have hop : ∀ (a : Act) (w : World), (execOp a.eval o).run P w = ((Instr.sliceAt t (a.eval x) (lo.map a.eval) (hi.map a.eval) (mx.map a.eval)).run P w).andThen fun v w' => .ok (.value v) w' := fun a w => by
    simp [execOp, ho]
  unfold slK at h
  split at h
  · -- a text
    rename_i b hx
    split at h
    rotate_left
    · cases h
    rename_i hty
    have hu : P.underlying t = some .string := (hT.ty _ _ hty).und
    split at h
    · rename_i k n e1 e2 e3
      obtain ⟨h0, h⟩ := cond_some' h
      have h0 := inC_spec h0
      cases lo <;> simp only [Option.map_none, Option.map_some, reduceCtorEq] at e1
      cases mx <;> simp only [Option.map_none, Option.map_some, reduceCtorEq] at e3
      cases hi with
      | none => cases e2
      | some y =>
        have e2 : s.ev y = .v (.int k) n := by simpa using e2
        refine ⟨{ a := .v .str (ByteArray.extract b 0 (Int.toNat n)) }, EvOk.val fun s2 φ a w hag hs => ?_, h⟩
        have g1 := ev_ok hs x
        have g2 := ev_ok hs y
        rw [hag.ev x mxx, hx] at g1
        rw [hag.ev y (mhi y rfl), e2] at g2
        have g1 := RepV.str g1
        have g2 := RepV.int g2
        exact ⟨_, by rw [hop]; simp [Instr.sliceAt, Instr.slice, run_underlying hu, g1, g2, Instr.sliceBounds, Instr.sliceBound, asIntOf, h0], RepV.mk_str _ _ _⟩
    · rename_i k n e1 e2 e3
      obtain ⟨h0, h⟩ := cond_some' h
      have h0 := inC_spec h0
      cases hi <;> simp only [Option.map_none, Option.map_some, reduceCtorEq] at e2
      cases mx <;> simp only [Option.map_none, Option.map_some, reduceCtorEq] at e3
      cases lo with
      | none => cases e1
      | some y =>
        have e1 : s.ev y = .v (.int k) n := by simpa using e1
        refine ⟨{ a := .v .str (ByteArray.extract b (Int.toNat n) (ByteArray.size b)) }, EvOk.val fun s2 φ a w hag hs => ?_, h⟩
        have g1 := ev_ok hs x
        have g2 := ev_ok hs y
        rw [hag.ev x mxx, hx] at g1
        rw [hag.ev y (mlo y rfl), e1] at g2
        have g1 := RepV.str g1
        have g2 := RepV.int g2
        exact ⟨_, by rw [hop]; simp [Instr.sliceAt, Instr.slice, run_underlying hu, g1, g2, Instr.sliceBounds, Instr.sliceBound, asIntOf, h0], RepV.mk_str _ _ _⟩
    · cases h
  · split at h
    · cases h
    rename_i V hv
    split at h
    rotate_left
    · cases h
    rename_i hel
    obtain ⟨el, hu, hty⟩ := elT_some hT hel
    -- the operation, its bounds given
    have key : ∀ (l h' m : Nat → Nat) (av : AV), (av = match V.at_ with | some (d, o) => .osl d (o + l 0) (h' 0 - l 0) | none => .v (.sl V.t) ((V.xs.take (h' 0)).drop (l 0))) →
        l 0 ≤ h' 0 → h' 0 ≤ V.xs.length → (∀ cap, V.xs.length ≤ cap → h' 0 ≤ m cap) →
        (∀ (s2 : S) φ (a : Act) (w : World) (cap : Nat), (∀ x ∈ o.op.operands, s2.ev x = s.ev x) → SRp C φ s2 a w → V.xs.length ≤ cap →
          (Instr.sliceBounds true V.xs.length cap (lo.map a.eval) (hi.map a.eval) (mx.map a.eval)).run P w = .ok (l 0, h' 0, m cap) w) →
        K { a := av, rd := V.rd } = some r → ∃ e, EvOk P C s o e ∧ K e = some r := by
      intro l h' m av hav h1 h2 h3 h4 hk
      refine ⟨_, EvOk.val fun s2 φ a w hag hs => ?_, hk⟩
      have g1 := ev_ok hs x
      rw [hag.ev x mxx] at g1
      have hv2 := view_agree hv fun k hk => hag.bk k hk
      obtain ⟨ad, cap, e1, e2, _⟩ := view_ok hs hv2 g1
      refine ⟨_, by rw [hop, e1, run_slice hu hty w ad _ cap _ _ _ _ _ _ (h4 s2 φ a w cap hag.ev hs e2)]; rfl, ?_⟩
      rw [hav]
      exact slice_res hs hv2 g1 e1 h1 h2 (h3 cap e2)
    split at h
    · rename_i k n e1 e2 e3
      obtain ⟨h0, h⟩ := cond_some' h
      have h0 := inC_spec h0
      have hn : ∃ p : Nat, n = (p : Int) := ⟨Int.toNat n, (Int.toNat_of_nonneg h0.1).symm⟩
      obtain ⟨p, rfl⟩ := hn
      have hp : p ≤ V.xs.length := Int.ofNat_le.1 h0.2
      cases lo <;> simp only [Option.map_none, Option.map_some, reduceCtorEq] at e1
      cases mx <;> simp only [Option.map_none, Option.map_some, reduceCtorEq] at e3
      cases hi with
      | none => cases e2
      | some y =>
        have e2 : s.ev y = .v (.int k) (p : Int) := by simpa using e2
        refine key (fun _ => 0) (fun _ => p) (fun c => c) _ ?_ (Nat.zero_le _) hp (fun c hc => Nat.le_trans hp hc) (fun s2 φ a w cap hag hs hc => ?_) h
        · unfold Vw.out; cases V.at_ <;> simp
        · have g2 := ev_ok hs y
          rw [hag y (mhi y rfl), e2] at g2
          have g2 := RepV.int g2
          have h9 : ¬ cap < p := by omega
          simp [Instr.sliceBounds, Instr.sliceBound, asIntOf, g2, h9]
    · rename_i k n k' m' e1 e2 e3
      obtain ⟨h0, h'⟩ := cond_some' h
      clear h
      obtain ⟨h00, h⟩ := cond_some' h'
      clear h'
      have h0 := inC_spec h0
      simp only [Bool.and_eq_true] at h00
      have h01 : (0 : Int) ≤ n := of_decide_eq_true h00.1
      have h02 : (n : Int) ≤ m' := of_decide_eq_true h00.2
      have hn : ∃ p : Nat, n = (p : Int) := ⟨Int.toNat n, (Int.toNat_of_nonneg h01).symm⟩
      have hm : ∃ q : Nat, m' = (q : Int) := ⟨Int.toNat m', (Int.toNat_of_nonneg h0.1).symm⟩
      obtain ⟨p, rfl⟩ := hn
      obtain ⟨q, rfl⟩ := hm
      have hq : q ≤ V.xs.length := Int.ofNat_le.1 h0.2
      have hpq : p ≤ q := Int.ofNat_le.1 h02
      cases lo <;> simp only [Option.map_none, Option.map_some, reduceCtorEq] at e1
      cases hi with
      | none => cases e2
      | some y =>
        cases mx with
        | none => cases e3
        | some z =>
          have e2 : s.ev y = .v (.int k) (p : Int) := by simpa using e2
          have e3 : s.ev z = .v (.int k') (q : Int) := by simpa using e3
          refine key (fun _ => 0) (fun _ => p) (fun _ => q) _ ?_ (Nat.zero_le _) (Nat.le_trans hpq hq) (fun _ _ => hpq) (fun s2 φ a w cap hag hs hc => ?_) h
          · unfold Vw.out; cases V.at_ <;> simp
          · have g2 := ev_ok hs y
            rw [hag y (mhi y rfl), e2] at g2
            have g2 := RepV.int g2
            have g3 := ev_ok hs z
            rw [hag z (mmx z rfl), e3] at g3
            have g3 := RepV.int g3
            have h9 : q ≤ cap := by omega
            simp [Instr.sliceBounds, Instr.sliceBound, asIntOf, g2, g3, h9, hpq]
    · rename_i k n e1 e2 e3
      obtain ⟨h0, h⟩ := cond_some' h
      have h0 := inC_spec h0
      have hn : ∃ p : Nat, n = (p : Int) := ⟨Int.toNat n, (Int.toNat_of_nonneg h0.1).symm⟩
      obtain ⟨p, rfl⟩ := hn
      have hp : p ≤ V.xs.length := Int.ofNat_le.1 h0.2
      cases hi <;> simp only [Option.map_none, Option.map_some, reduceCtorEq] at e2
      cases mx <;> simp only [Option.map_none, Option.map_some, reduceCtorEq] at e3
      cases lo with
      | none => cases e1
      | some y =>
        have e1 : s.ev y = .v (.int k) (p : Int) := by simpa using e1
        refine key (fun _ => p) (fun _ => V.xs.length) (fun c => c) _ ?_ hp (Nat.le_refl _) (fun c hc => hc) (fun s2 φ a w cap hag hs hc => ?_) h
        · unfold Vw.out; cases V.at_ <;> simp
        · have g2 := ev_ok hs y
          rw [hag y (mlo y rfl), e1] at g2
          have g2 := RepV.int g2
          have h9 : ¬ V.xs.length < p := by omega
          simp [Instr.sliceBounds, Instr.sliceBound, asIntOf, g2, h9]
    · rename_i k n k' m' e1 e2 e3
      obtain ⟨h0, h'⟩ := cond_some' h
      clear h
      obtain ⟨h00, h⟩ := cond_some' h'
      clear h'
      have h0 := inC_spec h0
      simp only [Bool.and_eq_true] at h00
      have h01 : (0 : Int) ≤ n := of_decide_eq_true h00.1
      have h02 : (n : Int) ≤ m' := of_decide_eq_true h00.2
      have hn : ∃ p : Nat, n = (p : Int) := ⟨Int.toNat n, (Int.toNat_of_nonneg h01).symm⟩
      have hm : ∃ q : Nat, m' = (q : Int) := ⟨Int.toNat m', (Int.toNat_of_nonneg h0.1).symm⟩
      obtain ⟨p, rfl⟩ := hn
      obtain ⟨q, rfl⟩ := hm
      have hq : q ≤ V.xs.length := Int.ofNat_le.1 h0.2
      have hpq : p ≤ q := Int.ofNat_le.1 h02
      cases mx <;> simp only [Option.map_none, Option.map_some, reduceCtorEq] at e3
      cases lo with
      | none => cases e1
      | some y =>
        cases hi with
        | none => cases e2
        | some z =>
          have e1 : s.ev y = .v (.int k) (p : Int) := by simpa using e1
          have e2 : s.ev z = .v (.int k') (q : Int) := by simpa using e2
          refine key (fun _ => p) (fun _ => q) (fun c => c) _ ?_ hpq hq (fun c hc => Nat.le_trans hq hc) (fun s2 φ a w cap hag hs hc => ?_) h
          · unfold Vw.out; cases V.at_ <;> simp
          · have g2 := ev_ok hs y
            rw [hag y (mlo y rfl), e1] at g2
            have g2 := RepV.int g2
            have g3 := ev_ok hs z
            rw [hag z (mhi z rfl), e2] at g3
            have g3 := RepV.int g3
            have h9 : q ≤ cap := by omega
            simp [Instr.sliceBounds, Instr.sliceBound, asIntOf, g2, g3, h9, hpq]
    · cases h
end ops
end Go.Proofs.YtgbndganadelpaaGreatDoor.E
