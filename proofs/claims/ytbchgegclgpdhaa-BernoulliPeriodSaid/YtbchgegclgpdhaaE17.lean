/- The tables of a program, checked by evaluation. -/
import Derived.Test.YtbchgegclgpdhaaE16
import Derived.KernelRfl
import Derived.Laws.StructEq
namespace Go.Proofs.Ytbchgegclgpdhaa.E
open Go
set_option linter.unusedVariables false
set_option linter.unusedSimpArgs false

def LamAt (P : Program) (C : Ctx) (Λ : Lam) (i : Nat) (c : Code) : Prop :=
  ∀ (R : Type) (s : S) (K : Ex → S → Option R) (r : R), Λ R i s K = some r → Reach P C (.loop c) s fun e s' => K e s' = some r
theorem LamOk.nil {P : Program} {C : Ctx} {Λ : Lam} : LamOk P C Λ [] := fun p h => by cases h
theorem LamOk.cons {P : Program} {C : Ctx} {Λ : Lam} {i : Nat} {c : Code} {l : List (Nat × Code)} (h1 : LamAt P C Λ i c) (h2 : LamOk P C Λ l) : LamOk P C Λ ((i, c) :: l) := by
  intro p hp
  rcases List.mem_cons.1 hp with rfl | hp
  · exact h1
  · exact h2 p hp
def zeroB : (t : Ty) → t.den → Bool
  | .int _, x => decide ((x : Int) = 0)
  | .bool, x => !x
  | .str, x => ByteArray.data x |>.toList.isEmpty
  | .unit, _ => true
  | .sl _, x => List.isEmpty x
  | .pair a b, x => zeroB a x.1 && zeroB b x.2
theorem zeroB_ok : ∀ (t : Ty) (x : t.den), zeroB t x = true → x = t.zero
  | .int _, x, h => by simpa [zeroB, Ty.zero] using h
  | .bool, x, h => by simpa [zeroB, Ty.zero] using h
  | .str, x, h => by
    simp only [zeroB, List.isEmpty_iff] at h
    obtain ⟨d⟩ := x
    have : d = #[] := by simpa using h
    subst this; rfl
  | .unit, _, _ => rfl
  | .sl _, x, h => by simpa [zeroB, Ty.zero] using h
  | .pair a b, x, h => by
    simp only [zeroB, Bool.and_eq_true] at h
    exact Prod.ext (zeroB_ok a _ h.1) (zeroB_ok b _ h.2)
def undB : Ty → TypeDesc → Bool
  | .int k, .int k' => decide (k' = k)
  | .bool, .bool => true
  | .str, .string => true
  | .sl _, .slice _ => true
  | .unit, .struct _ => true
  | .pair _ _, .struct _ => true
  | _, _ => false
theorem undB_ok {P : Program} {t : Nat} {T : Ty} {u : TypeDesc} (hu : P.underlying t = some u) (h : undB T u = true) : undOk P t T := by
  cases T <;> cases u <;> first | (cases h; done) | skip
  · simp only [undB, decide_eq_true_eq] at h; subst h; exact hu
  · exact hu
  · exact hu
  · exact ⟨_, hu⟩
  · exact ⟨_, hu⟩
  · exact ⟨_, hu⟩
def tyB (P : Program) (p : Nat × Ty) : Bool := match P.info? p.1, P.underlying p.1 with
  | some i, some u => Nat.beq i.size p.2.size && (Nat.ble i.bytes 65536 && (undB p.2 u && match i.zero with
    | some z => match ofVal p.2 z.cells.toList with
      | some (x, []) => zeroB p.2 x
      | _ => false
    | none => false))
  | _, _ => false
theorem tyB_ok {P : Program} {t : Nat} {T : Ty} (h : tyB P (t, T) = true) : TyOk P t T := by
  unfold tyB at h
  split at h
  rotate_left
  · cases h
  rename_i i u hi hu
  simp only [Bool.and_eq_true] at h
  obtain ⟨h1, h2, h3, h4⟩ := h
  split at h4
  rotate_left
  · cases h4
  rename_i z hz
  split at h4
  rotate_left
  · cases h4
  rename_i x hx
  have := zeroB_ok _ _ h4
  subst this
  exact { info := ⟨i, z, hi, Nat.eq_of_beq_eq_true h1, hz, Nat.le_of_ble_eq_true h2, hx⟩, und := undB_ok hu h3 }
section
variable {P : Program} {d : Nat} {xs ys : Array Value} {f : Field} {fs : List Field} {a b : Value} {r s : Bool} {w : World}
theorem eqf_last (hn : (f.name == "_") = false) (ha : (part f.type xs f.offset).run P w = .ok a w) (hb : (part f.type ys f.offset).run P w = .ok b w) (he : (Op.equalIn d f.type a b).run P w = .ok r w) : (Op.eqFields d xs ys [f]).run P w = .ok r w := by
  have hn' : f.name ≠ "_" := by simpa using hn
  simp only [Op.eqFields, if_pos hn', Sem.run_bind, ha, hb, he, Result.andThen_ok]
  cases r <;> simp
theorem eqf_cons (hn : (f.name == "_") = false) (ha : (part f.type xs f.offset).run P w = .ok a w) (hb : (part f.type ys f.offset).run P w = .ok b w) (he : (Op.equalIn d f.type a b).run P w = .ok r w) (hr : (Op.eqFields d xs ys fs).run P w = .ok s w) : (Op.eqFields d xs ys (f :: fs)).run P w = .ok (r && s) w := by
  have hn' : f.name ≠ "_" := by simpa using hn
  rw [Op.eqFields]
  simp only [if_pos hn', Sem.run_bind, ha, hb, he, Result.andThen_ok]
  cases r
  · simp
  · simpa using hr
/-- '==' of a struct of two numbers. -/
theorem eq2_ok {t : TypeId} {f1 f2 : Field} {k1 k2 : IntKind} (hu : P.underlying t = some (.struct #[f1, f2])) (hp : P.stoodInHeld t = false) (hg : P.eqGuardType P.depth t = false)
    (hn1 : (f1.name == "_") = false) (hn2 : (f2.name == "_") = false) (ho1 : f1.offset = 0) (ho2 : f2.offset = 1) (h1 : P.underlying f1.type = some (.int k1)) (h2 : P.underlying f2.type = some (.int k2))
    (hs : ∀ (w : World) (x : Int) (y : Int), (part f1.type #[.int k1 x, .int k2 y] 0).run P w = .ok (.int k1 x) w ∧ (part f2.type #[.int k1 x, .int k2 y] 1).run P w = .ok (.int k2 y) w)
    (he : ∀ (w : World) (n : Nat) (x y : Int), (Op.equalIn (n + 1) f1.type (.int k1 x) (.int k1 y)).run P w = .ok (x == y) w ∧ (Op.equalIn (n + 1) f2.type (.int k2 x) (.int k2 y)).run P w = .ok (x == y) w) :
    EqOk P t (.pair (.int k1) (.pair (.int k2) .unit)) := by
  intro x y u v w O hx hy
  refine ⟨?_, hg⟩
  unfold RepV at hx hy
  rw [if_pos (by rfl)] at hx hy
  obtain ⟨cs, rfl, u1, u2, e1, rfl, u3, u4, rfl, rfl, rfl⟩ := hx
  obtain ⟨ds, rfl, v1, v2, g1, rfl, v3, v4, rfl, rfl, rfl⟩ := hy
  have hc : cs = #[.int k1 x.1, .int k2 x.2.1] := by apply Array.ext'; simpa using e1
  have hd : ds = #[.int k1 y.1, .int k2 y.2.1] := by apply Array.ext'; simpa using g1
  subst hc
  subst hd
  have hf : P.fieldsOf t = #[f1, f2] := by simp [Program.fieldsOf, hu]
  have key := run_equalIn_struct (P := P) w (Op.maxDepth - 1) t #[.int k1 x.1, .int k2 x.2.1] #[.int k1 y.1, .int k2 y.2.1] (by rw [hf]; exact hu) hp
  rw [hf] at key
  have h3 : (Op.eqFields (Op.maxDepth - 1) #[.int k1 x.1, .int k2 x.2.1] #[.int k1 y.1, .int k2 y.2.1] [f1, f2]).run P w = .ok (x.1 == y.1 && (x.2.1 == y.2.1)) w := by
    refine eqf_cons hn1 (by rw [ho1]; exact (hs w x.1 x.2.1).1) (by rw [ho1]; exact (hs w y.1 y.2.1).1) ((he w 9998 x.1 y.1).1) ?_
    exact eqf_last hn2 (by rw [ho2]; exact (hs w x.1 x.2.1).2) (by rw [ho2]; exact (hs w y.1 y.2.1).2) ((he w 9998 x.2.1 y.2.1).2)
  have h4 : (Op.equal t (.agg #[.int k1 x.1, .int k2 x.2.1]) (.agg #[.int k1 y.1, .int k2 y.2.1])).run P w = (Op.equalIn (Op.maxDepth - 1 + 1) t (.agg #[.int k1 x.1, .int k2 x.2.1]) (.agg #[.int k1 y.1, .int k2 y.2.1])).run P w := rfl
  rw [h4, key]
  exact h3
end
def flB (P : Program) (E : Env) (p : Nat × List (Nat × Nat)) : Bool := match P.underlying p.1 with
  | some (.struct fs) => decide (fs.toList.map (fun f => (f.offset, f.type)) = p.2) && p.2.all fun q => (find E.ty q.2).isSome
  | _ => false
def elB (P : Program) (p : Nat × Nat) : Bool := match P.underlying p.1 with
  | some (.slice e) => Nat.beq e p.2
  | _ => false
def sgB (P : Program) (p : Nat × Sg) : Bool := match P.funcs[p.1]? with
  | some fn => !(fn.name == "runtime.NumGoroutine") && fn.body.isSome
  | none => false
theorem find_mem {α : Type} : ∀ {l : List (Nat × α)} {k : Nat} {a : α}, find l k = some a → (k, a) ∈ l
  | [], _, _, h => by cases h
  | (i, b) :: r, k, a, h => by
    simp only [find, nbeq] at h
    by_cases he : i = k
    · rw [decide_eq_true he, cond_true] at h; cases h; subst he; exact List.mem_cons_self
    · rw [decide_eq_false he, cond_false] at h; exact List.mem_cons_of_mem _ (find_mem h)
theorem tabs_ok {P : Program} {E : Env} (h1 : E.ty.all (tyB P) = true) (h2 : E.fl.all (flB P E) = true) (h3 : E.el.all (elB P) = true) (h4 : E.sg.all (sgB P) = true) (hm : P.follows .mixedOrders = true)
    (he : ∀ t T, has E.eqs t = true → find E.ty t = some T → EqOk P t T) : Tabs E P where
  ty t T h := tyB_ok (List.all_eq_true.1 h1 _ (find_mem h))
  fl t l h := by
    have := List.all_eq_true.1 h2 _ (find_mem h)
    simp only [flB] at this
    split at this
    · rename_i fs hf
      simp only [Bool.and_eq_true, decide_eq_true_eq, List.all_eq_true] at this
      exact ⟨fs, hf, this.1, this.2⟩
    · cases this
  el t e h := by
    have := List.all_eq_true.1 h3 _ (find_mem h)
    simp only [elB] at this
    split at this
    · rename_i e' hf
      rw [hf, Nat.eq_of_beq_eq_true this]
    · cases this
  eqs := he
  sg f g h := by
    have := List.all_eq_true.1 h4 _ (find_mem h)
    simp only [sgB] at this
    split at this
    · rename_i fn hf
      simp only [Bool.and_eq_true, Bool.not_eq_true'] at this
      exact ⟨fn, hf, this.1, this.2⟩
    · cases this
  mixed := hm
end Go.Proofs.Ytbchgegclgpdhaa.E
