/- Operations that write: stores, append, copy. -/
import Derived.Test.YtbchgegclgpdhaaE6
namespace Go.Proofs.Ytbchgegclgpdhaa.E
open Go
set_option linter.unusedVariables false
set_option linter.unusedSimpArgs false

theorem RepC.one {w : World} {O : Nat → Prop} : ∀ (t : Ty) (x : t.den) (us : List Value), RepC w O t x us → ∀ u ∈ us, u.oneCell' = true
  | .int _, _, _, r, u, h => by simp only [RepC] at r; subst r; rw [List.mem_singleton] at h; subst h; rfl
  | .bool, _, _, r, u, h => by simp only [RepC] at r; subst r; rw [List.mem_singleton] at h; subst h; rfl
  | .str, _, _, r, u, h => by simp only [RepC] at r; subst r; rw [List.mem_singleton] at h; subst h; rfl
  | .unit, _, _, r, u, h => by simp only [RepC] at r; subst r; cases h
  | .pair a b, x, us, r, u, h => by
    obtain ⟨u1, u2, rfl, r1, r2⟩ := r
    rcases List.mem_append.1 h with h | h
    · exact RepC.one a _ _ r1 u h
    · exact RepC.one b _ _ r2 u h
  | .sl t, xs, us, r, u, h => by obtain ⟨ad, cap, rfl, _⟩ := r; rw [List.mem_singleton] at h; subst h; rfl

/-- The cells of a block with others laid over a part of them. -/
def layA (c : Array Value) (o : Nat) (vs : List Value) : Array Value := (c.toList.take o ++ vs ++ c.toList.drop (o + vs.length)).toArray
theorem layA_size {c : Array Value} {o : Nat} {vs : List Value} (h : o + vs.length ≤ c.size) : (layA c o vs).size = c.size := by
  simp only [layA, List.size_toArray, List.length_append, List.length_take, List.length_drop, Array.length_toList]; omega
theorem layA_in {c : Array Value} {o : Nat} {vs : List Value} (h : o + vs.length ≤ c.size) {j : Nat} (hj : j < vs.length) : (layA c o vs)[o + j]? = vs[j]? := by
  have h1 : (c.toList.take o).length = o := by simp; omega
  simp only [layA, List.getElem?_toArray]
  rw [List.append_assoc, List.getElem?_append_right (by omega), h1, List.getElem?_append_left (by omega)]
  congr 1; omega
theorem layA_out {c : Array Value} {o : Nat} {vs : List Value} (h : o + vs.length ≤ c.size) {k : Nat} (hk : k < o ∨ o + vs.length ≤ k) : (layA c o vs)[k]? = c[k]? := by
  have h1 : (c.toList.take o).length = o := by simp; omega
  simp only [layA, List.getElem?_toArray]
  rcases hk with hk | hk
  · rw [List.append_assoc, List.getElem?_append_left (by omega), List.getElem?_take, if_pos hk]; simp
  · rw [List.getElem?_append_right (by simp; omega), List.getElem?_drop]
    simp only [List.length_append, h1, Array.getElem?_toList]
    congr 1; omega

/-- A block is written; its shape stays. -/
theorem SRp.write {C : Ctx} {φ : Pl} {s : S} {a : Act} {w : World} (h : SRp C φ s a w) {d b o z : Nat} {B B' : Blk} {c c' : Array Value} {el : TypeId}
    (hd : s.bk d = some B) (hp : φ d = some (b, o, z)) (hb : w.heap[b]? = some (.cells c el (0, 0))) (hsz : c'.size = c.size) (hsh : B'.sh = B.sh)
    (hwin : d = BOR → ∀ t n, B.sh = .arr t n → ∀ k, k < o ∨ o + n * t.size ≤ k → c'[k]? = c[k]?)
    (hB : Fr (OS C.F φ s) w (w.setRow b c') → (w.setRow b c').heap[b]? = some (.cells c' el (0, 0)) → BlkOk φ s.sh (OS C.F φ s) (w.setRow b c') d B') :
    SRp C φ (s.set d B') a (w.setRow b c') := by
  have hl : (s.bk d).isSome = true := by rw [hd]; rfl
  have hO : OS C.F φ s b := .inr ⟨d, o, z, hl, hp⟩
  have hoth : ∀ k, k ≠ b → (w.setRow b c').heap[k]? = w.heap[k]? := fun k hk => setRow_other w b k c' hk
  have hfr : Fr (OS C.F φ s) w (w.setRow b c') := ⟨by simp, fun k hk _ => hoth k fun e => hk (e ▸ hO)⟩
  obtain ⟨hlt, hpl⟩ := h.place d b o z hl hp
  have hsh0 : s.sh d = some B'.sh := by rw [hsh]; simp only [S.sh, hd, Option.map_some]
  have hSs : (s.set d B').sh = s.sh := by
    funext x
    by_cases e : x = d
    · subst e; rw [set_sh_same, hsh0]
    · exact set_sh_ne _ _ e
  have hOS : OS C.F φ (s.set d B') = OS C.F φ s := by
    funext x
    unfold OS
    congr 1
    apply propext
    constructor
    · rintro ⟨d', o', z', h1, h2⟩
      refine ⟨d', o', z', ?_, h2⟩
      by_cases e : d' = d
      · subst e; exact hl
      · rw [set_ne _ _ e] at h1; exact h1
    · rintro ⟨d', o', z', h1, h2⟩
      refine ⟨d', o', z', ?_, h2⟩
      by_cases e : d' = d
      · subst e; rw [set_same]; rfl
      · rw [set_ne _ _ e]; exact h1
  have key := h.setB (w' := w.setRow b c') d B' (φ d) (.inl ⟨hsh0, rfl⟩) hfr rfl rfl rfl
    (fun k hk hn => hoth k fun e => by
      subst e
      rcases hpl with h1 | ⟨_, t, m, _, h2⟩
      · have := h1.1; omega
      · exact hn _ _ h2)
    (fun k s' n hk => by
      by_cases e : k = b
      · subst e
        rcases hpl with h1 | ⟨e1, t, m, h2, h3⟩
        · have := (h.win _ _ _ hk).1; have := h1.1; omega
        · rw [h3] at hk
          cases hk
          refine .inr ⟨c, c', el, hb, setRow_heap w _ c c' el (0, 0) hb, hsz, fun k hk => ?_⟩
          have : B.sh = .arr t m := by simpa [S.sh, hd] using h2
          exact hwin e1 t m this k hk
      · exact .inl (hoth k e))
    (fun d' b' o' z' hne h1 h2 => hoth b' fun e => by subst e; exact hne (h.inj d' d _ _ _ _ _ h1 hl h2 hp))
    (fun b' o' z' e => by
      rw [hp] at e
      cases e
      exact ⟨by simpa using hlt, hpl.imp id fun ⟨e1, t, m, h2, h3⟩ => ⟨e1, t, m, (by rw [hsh0] at h2; exact Option.some.inj h2), h3⟩,
        fun d' b'' o'' z'' hne h1 h2 e => (by subst e; exact hne (h.inj d' d _ _ _ _ _ h1 hl h2 hp)), .inl hO⟩)
    (by rw [upd_self, hSs, hOS]; exact hB hfr (setRow_heap w b c c' el (0, 0) hb))
  rwa [upd_self] at key

section ops
variable {P : Program} {E : Env} {C : Ctx} {s : S} {o : Oper} {R : Type} {r : R}
theorem run_store_at {t : Nat} {T : Ty} (h : TyOk P t T) {w : World} {b o' : Nat} {v : Value} {c : Array Value} {el : TypeId} (hb : w.heap[b]? = some (.cells c el (0, 0)))
    (hsz : v.cells.size = T.size) (hfit : o' + T.size ≤ c.size) (h1 : ∀ u ∈ v.cells.toList, u.oneCell' = true) :
    (storeVar t ⟨b, o', none⟩ v).run P w = .ok () (w.setRow b (layA c o' v.cells.toList)) := by
  have := run_storeCells_at P b o' el v.cells.toList 0 c w hb (by rw [Array.length_toList, hsz]; omega) h1
  simp only [Nat.add_zero] at this
  simp [storeVar, run_size h, hsz, this, layA]
/-- What a stored value leaves in the cells. -/
theorem valC_ok {φ : Pl} {σ : Nat → Option Sh} {w : World} {O : Nat → Prop} {T : Ty} {x : AV} {new : List AV} {u : Value} (h : valC T x = some new) (ho : Ok φ σ O w x u) :
    u.cells.size = T.size ∧ (∀ v ∈ u.cells.toList, v.oneCell' = true) ∧ CellsOk φ σ O w new u.cells.toList := by
  unfold valC at h
  split at h
  · rename_i y hy
    cases h
    have hr := (asTy_ok hy ho).cells
    exact ⟨by rw [← Array.length_toList]; exact RepC.length _ _ _ hr, RepC.one _ _ _ hr, toC_ok _ _ _ hr⟩
  · cases ht : T.agg with
    | true => rw [ht] at h; cases h
    | false =>
      rw [ht, cond_false] at h
      have h1 : T.size = 1 := by cases T <;> first | rfl | cases ht
      split at h
      · rename_i d
        cases h
        have ho' := ho
        obtain ⟨t, n, ad, cap, _, rfl, _⟩ := ho
        exact ⟨h1.symm, fun v hv => by rw [List.mem_singleton.1 hv]; rfl, ⟨_, [], rfl, ho', rfl⟩⟩
      · cases h
theorem CellsOk.move {φ φ' : Pl} {σ σ' : Nat → Option Sh} {O O' : Nat → Prop} {w w' : World} (hm : ∀ x u, Ok φ σ O w x u → Ok φ' σ' O' w' x u) : ∀ {as : List AV} {us : List Value}, CellsOk φ σ O w as us → CellsOk φ' σ' O' w' as us
  | [], _, h => h
  | a :: r, us, h => by obtain ⟨u, l, e, h1, h2⟩ := h; exact ⟨u, l, e, hm _ _ h1, h2.move hm⟩
theorem store_ok (hT : Tabs E P) {t : Nat} {p x : Operand} {K : Ev → Option R} (ho : o.op = .store t p x) (hdst : o.dst = none) (h : stK E s t (s.ev p) (s.ev x) K = some r) : ∃ e, EvOk P C s o e ∧ K e = some r := by
  have mp : p ∈ o.op.operands := by simp [ho, Op.operands]
  have mx : x ∈ o.op.operands := by simp [ho, Op.operands]
  unfold stK at h
  split at h
  · cases h
  rename_i T hT'
  have hty := hT.ty _ _ hT'
  cases hp : s.ev p with
  | ptr d i off =>
    rw [hp] at h
    simp only at h
    cases hb : s.bk d with
    | none => rw [hb] at h; cases h
    | some B =>
      rw [hb] at h
      cases B with
      | box cs =>
        simp only at h
        split at h
        · rename_i new hnew
          obtain ⟨h0, h⟩ := cond_some' h
          rw [Nat.ble_eq] at h0
          refine ⟨_, ?_, h⟩
          intro s2 hag φ a w hs K' Q hK
          have h1 := ev_ok hs p
          have h2 := ev_ok hs x
          rw [hag.ev p mp, hp] at h1
          rw [hag.ev x mx] at h2
          have hb2 : s2.bk d = some (.box cs) := by rw [hag.wr d _ rfl, hb]
          obtain ⟨b, z, c, el, p1, p2, p3, p4⟩ := blk_cells hs hb2
          obtain ⟨b', o', z', e1, ⟨t', n, e2, _⟩ | ⟨_, _, e3⟩⟩ := h1
          · simp [S.sh, hb2, Blk.sh] at e2
          rw [p1] at e1; cases e1
          rw [Nat.zero_add] at e3
          obtain ⟨v1, v2, v3⟩ := valC_ok hnew h2
          have hl : (a.eval x).cells.toList.length = T.size := by rw [Array.length_toList, v1]
          have hfit : off + (a.eval x).cells.toList.length ≤ c.size := by rw [hl, p3]; exact h0
          have hrun := run_store_at (w := w) (b := b) (o' := off) hty p2 v1 (by rw [p3]; exact h0) v2
          unfold Oper.wp
          have : (execOp a.eval o).run P w = .ok .skip (w.setRow b (layA c off (a.eval x).cells.toList)) := by
            simp [execOp, ho, Instr.storeAt, Instr.sureAddr, e3, hrun]
          rw [this]
          refine hK _ _ ⟨φ, ?_⟩
          have he : Ev.eff { a := .und, wr := some (d, .box (layC cs off T.size new)) } o.dst s2 = s2.set d (.box (layC cs off T.size new)) := by rw [hdst]; rfl
          rw [he, hdst]
          have hlen : (layC cs off T.size new).length = cs.length := by
            have := v3.length
            rw [hl] at this
            simp only [layC, List.length_append, List.length_take, List.length_drop]; omega
          refine hs.write hb2 p1 p2 (layA_size hfit) rfl (fun _ t n e => by cases e) fun hfr hb' => ⟨b, z, _, el, p1, hb', ?_, by rw [layA_size hfit, hlen, p3], fun j y hy => ?_⟩
          · obtain ⟨_, _, _, _, g1, g2, g3, _⟩ := hs.blk d _ hb2
            rw [p1] at g1; cases g1; rw [p2] at g2; cases g2
            rw [layA_size hfit]; exact g3
          · have hc : CellsOk φ s2.sh (OS C.F φ s2) (w.setRow b (layA c off (a.eval x).cells.toList)) (layC cs off T.size new) (layA c off (a.eval x).cells.toList).toList := by
              have := ((p4.take off).append v3).append (p4.drop (off + T.size))
              rw [← hl] at this
              exact CellsOk.move (fun _ _ h => h.frame hfr) (by simpa [layA, layC, hl] using this)
            obtain ⟨u, hu, hok⟩ := hc.at hy
            exact ⟨u, by simpa using hu, hok⟩
        · cases h
      | arr et t' xs =>
        simp only at h
        split at h
        · rename_i v hv
          split at h
          · rename_i y hy
            obtain ⟨h0, h⟩ := cond_some' h
            simp only [Bool.and_eq_true, Bool.not_eq_true', nbeq, decide_eq_false_iff_not, Nat.ble_eq] at h0
            obtain ⟨h0, h00⟩ := h0
            refine ⟨_, ?_, h⟩
            intro s2 hag φ a w hs K' Q hK
            have h1 := ev_ok hs p
            have h2 := ev_ok hs x
            rw [hag.ev p mp, hp] at h1
            rw [hag.ev x mx] at h2
            have hb2 : s2.bk d = some (.arr et t' xs) := by rw [hag.wr d _ rfl, hb]
            have h1' : ∃ b' o' z', φ d = some (b', o', z') ∧ i < xs.length ∧ a.eval p = .pointer (some ⟨b', o' + i * t'.size + off, none⟩) := by
              obtain ⟨b', o', z', e1, ⟨t2, n, e2, e3, e4⟩ | ⟨e2, _⟩⟩ := h1
              · simp only [S.sh, hb2, Option.map_some, Blk.sh, Option.some.injEq, Sh.arr.injEq] at e2
                obtain ⟨rfl, rfl⟩ := e2
                exact ⟨b', o', z', e1, e3, e4⟩
              · simp [S.sh, hb2, Blk.sh] at e2
            obtain ⟨b, o2, z, g1, e3, e4⟩ := h1'
            have h5' : ∃ c el, w.heap[b]? = some (.cells c el (0, 0)) ∧ c.size = z ∧ (d = BOR ∨ et = 0 ∨ el = et) ∧ RowAt w (OS C.F φ s2) c o2 t' xs := by
              rcases hs.blk d _ hb2 with ⟨g, _⟩ | ⟨b', o', z', c, el, g, g2, g3, g4, g5⟩
              · rw [g] at g1; cases g1
              · rw [g] at g1; cases g1; exact ⟨c, el, g2, g3, g4, g5⟩
            obtain ⟨c, el, g2, g3, g4, g5⟩ := h5'
            obtain ⟨us, hul, hr, hc⟩ := g5 i xs[i] (List.getElem?_eq_getElem e3)
            have hx0 : xs.getD i t'.zero = xs[i] := by simp [List.getD, e3]
            rw [hx0] at hy
            have hrv := (asTy_ok hv h2).cells
            have v1 : (a.eval x).cells.size = T.size := by rw [← Array.length_toList]; exact RepC.length _ _ _ hrv
            have hl : (a.eval x).cells.toList.length = T.size := by rw [Array.length_toList, v1]
            -- the element's cells lie in the block
            have hin : o2 + i * t'.size + t'.size ≤ c.size := by
              have := hc (t'.size - 1) us[t'.size - 1] (List.getElem?_eq_getElem (by omega))
              have := (Array.getElem?_eq_some_iff.1 this).1
              omega
            have hfit : o2 + i * t'.size + off + (a.eval x).cells.toList.length ≤ c.size := by rw [hl]; omega
            have hrun := run_store_at (w := w) (b := b) (o' := o2 + i * t'.size + off) hty g2 v1 (by omega) (RepC.one _ _ _ hrv)
            unfold Oper.wp
            have : (execOp a.eval o).run P w = .ok .skip (w.setRow b (layA c (o2 + i * t'.size + off) (a.eval x).cells.toList)) := by
              simp [execOp, ho, Instr.storeAt, Instr.sureAddr, e4, hrun]
            rw [this]
            refine hK _ _ ⟨φ, ?_⟩
            have he : Ev.eff { a := .und, wr := some (d, .arr et t' (xs.set i y)) } o.dst s2 = s2.set d (.arr et t' (xs.set i y)) := by rw [hdst]; rfl
            rw [he, hdst]
            refine hs.write hb2 g1 g2 (layA_size hfit) (by simp [Blk.sh]) (fun e t n e' k hk => ?_) fun hfr hb' => .inr ⟨b, o2, z, _, el, g1, hb', by rw [layA_size hfit]; exact g3, g4, fun j q hq => ?_⟩
            · cases e'
              refine layA_out hfit ?_
              have : (i + 1) * t'.size ≤ xs.length * t'.size := Nat.mul_le_mul_right _ e3
              rw [Nat.add_mul, Nat.one_mul] at this
              rw [hl]
              rcases hk with hk | hk
              · left; omega
              · right; omega
            · by_cases hij : j = i
              · subst hij
                rw [List.getElem?_set_self e3] at hq
                cases hq
                have hcs : CellsOk φ s2.sh (OS C.F φ s2) w (layC (toC t' xs[j]) off T.size (toC T v)) (us.take off ++ (a.eval x).cells.toList ++ us.drop (off + T.size)) :=
                  (((toC_ok _ _ _ hr).take off).append (toC_ok _ _ _ hrv)).append ((toC_ok _ _ _ hr).drop _)
                obtain ⟨vs, us', q1, q2, q3⟩ := ofC_ok t' _ _ _ _ hy hcs
                simp only [CellsOk] at q3
                subst q3
                rw [List.append_nil] at q1
                refine ⟨vs, RepC.length _ _ _ q2, RepC.frame hfr (fun _ h => .inl h) _ _ _ q2, fun k u hk => ?_⟩
                rw [← q1] at hk
                have htl : (us.take off).length = off := by simp; omega
                by_cases hk1 : k < off
                · rw [layA_out hfit (by omega)]
                  rw [List.append_assoc, List.getElem?_append_left (by omega), List.getElem?_take, if_pos hk1] at hk
                  exact hc k u hk
                · by_cases hk2 : k < off + T.size
                  · rw [List.append_assoc, List.getElem?_append_right (by omega), htl, List.getElem?_append_left (by omega)] at hk
                    have := layA_in hfit (j := k - off) (by omega)
                    rw [hk] at this
                    rw [← this]
                    congr 1; omega
                  · rw [List.getElem?_append_right (by simp; omega)] at hk
                    simp only [List.length_append, htl, hl, List.getElem?_drop] at hk
                    rw [layA_out hfit (by omega)]
                    refine hc k u ?_
                    rw [← hk]; congr 1; omega
              · rw [List.getElem?_set_ne (Ne.symm hij)] at hq
                obtain ⟨vs, q1, q2, q3⟩ := g5 j q hq
                refine ⟨vs, q1, RepC.frame hfr (fun _ h => .inl h) _ _ _ q2, fun k u hk => ?_⟩
                have hkl := (List.getElem?_eq_some_iff.1 hk).1
                rw [layA_out hfit ?_]
                · exact q3 k u hk
                · rw [hl]
                  rcases Nat.lt_or_gt_of_ne hij with h3 | h3
                  · left
                    have : (j + 1) * t'.size ≤ i * t'.size := Nat.mul_le_mul_right _ h3
                    rw [Nat.add_mul, Nat.one_mul] at this
                    omega
                  · right
                    have : (i + 1) * t'.size ≤ j * t'.size := Nat.mul_le_mul_right _ h3
                    rw [Nat.add_mul, Nat.one_mul] at this
                    omega
          · cases h
        · cases h
      
  | _ => rw [hp] at h; cases h
end ops
end Go.Proofs.Ytbchgegclgpdhaa.E
