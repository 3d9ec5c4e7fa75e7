/- A function that writes into the window that it is handed. -/
import Derived.Test.YtgbndganadelpaaGreatDoorYLocalmassStandard6
import Derived.KernelRfl
import Derived.Laws.StructEq
import Derived.Test.YtgbndganadelpaaGreatDoorChecked
import Derived.Eval
namespace Go.Proofs.YtgbndganadelpaaGreatDoor.E
open Go
set_option linter.unusedVariables false
set_option linter.unusedSimpArgs false
section
variable {P : Program} {E : Env}
theorem sh_initB (t : Ty) (xs : List t.den) (as_ : List AV) : (S.initB t xs as_).sh BOR = some (.arr t xs.length) := by
  simp only [S.sh, S.initB, beq_self, cond_true, Option.map_some, Blk.sh]
theorem live_initB {t : Ty} {xs : List t.den} {as_ : List AV} {d : Nat} (h : ((S.initB t xs as_).bk d).isSome = true) : d = BOR := by
  simp only [S.initB] at h
  by_cases e : d = BOR
  · exact e
  · rw [beq_ne e] at h; cases h
theorem getD_initB {as_ : List AV} {us : Array Value} {w : World} {F : Nat → Prop} (h : ArgsOk w F as_ us.toList) (u0 : Value) (k t : Nat) (φ : Pl) (σ : Nat → Option Sh) (h0 : Ok φ σ F w (.own BOR) u0) :
    Ok φ σ F w ((AV.own BOR :: as_).getD t .dead) (((#[u0] ++ us) ++ Array.replicate k undef).getD t undef) := by
  rw [getD_pad]
  have : (#[u0] ++ us).toList = u0 :: us.toList := by simp
  rw [this]
  cases t with
  | zero => exact h0
  | succ t => exact (args_init as_ us.toList h).2 φ σ t
theorem funB_ok (hT : Tabs E P) {l : List En} (hl : AllOk P l) {lB : List EnB} (hlB : AllBOk P lB) {f : Nat} {fn : Func} {c : Code} {g : Sg} {h : HT} {Λ : Lam} {t : Ty} {ps : List Ty} (hfn : P.funcs[f]? = some fn) (hb : fn.body = some c)
    (hn : fn.ntmps ≤ BOR) (hps : ps.length + 1 ≤ fn.ntmps) (hΛ : ∀ C : Ctx, C.n = fn.ntmps → LamOk P C Λ (loops c h)) {k : List t.den → (tyP ps).den → Option (g.r.den × List t.den)}
    (hk : ∀ xs x, semK E (orc l) (orcB lB) fn.ntmps (Λ _) c h (S.initB t xs (avs ps x)) (finB E fn g t xs.length) = k xs x) : EnBOk P ⟨f, t, ps, g.r, g.tup, k⟩ := by
  intro xs x y hy
  simp only at xs x y hy
  obtain ⟨y, ys⟩ := y
  have hk' := hk xs x
  rw [hy] at hk'
  -- what the end says
  have hend : ∀ {e : Ex} {s' : S}, finB E fn g t xs.length e s' = some (y, ys) → fin E fn g e s' = some y ∧ s'.bor t = some ys ∧ ys.length = xs.length := by
    intro e s' h
    unfold finB at h
    split at h
    · rename_i y' ys' h1 h2
      obtain ⟨h3, h⟩ := cond_some' h
      rw [nbeq] at h3
      cases h
      exact ⟨h1, h2, of_decide_eq_true h3⟩
    · cases h
  have hbor : ∀ {s' : S}, s'.bor t = some ys → ∃ et, s'.bk BOR = some (.arr et t ys) := by
    intro s' h
    unfold S.bor at h
    split at h
    · rename_i et t' zs hz
      obtain ⟨e1, e2⟩ := castT_sl h
      subst e1
      simp only at e2
      subst e2
      exact ⟨et, hz⟩
    · cases h
  have main : ∀ (w : World) (u0 : Value) (vs : Array Value) (C : Ctx) (φ0 : Pl), C.w0 = w → C.n = fn.ntmps → ArgsOk w C.F (avs ps x) vs.toList →
      SRp C φ0 (S.initB t xs (avs ps x)) { tmps := (#[u0] ++ vs) ++ Array.replicate (fn.ntmps - (#[u0] ++ vs).size) undef, defers := [] } w →
      Calls P f (#[u0] ++ vs) w fun e w' => ∃ u a' φ s', e = .returned u ∧ ResOk w' C.F (resA g.tup g.r y) u ∧ SRp C φ s' a' w' ∧ s'.bor t = some ys ∧ ys.length = xs.length := by
    intro w u0 vs C φ0 hw hC ha hs
    refine calls_of_wp hfn hb ?_
    rw [← hC] at hk'
    refine semK_ok (C := C) hT (orc_ok l hl) (orcB_ok lB hlB) c h _ _ (hΛ C hC) hk' _ w ⟨φ0, hs⟩ _ fun e s' a' w' h1 h2 => ?_
    obtain ⟨φ, h2⟩ := h2
    obtain ⟨h3, h4, h5⟩ := hend h1
    obtain ⟨he, u, q1, q2⟩ := fin_ok hT h2 h3
    rcases he with rfl | rfl
    · exact ⟨h2.defers, u, q1, u, a', φ, s', rfl, q2, h2, h4, h5⟩
    · exact ⟨h2.defers, u, q1, u, a', φ, s', rfl, q2, h2, h4, h5⟩
  refine fun w u0 vs F hF ha => ⟨?_, ?_⟩
  · rintro ⟨rfl, ad, cap, rfl⟩
    let C : Ctx := { w0 := w, F, bw := none, n := fn.ntmps, hF, hn, hB := fun _ _ _ h => by cases h }
    have hvl : vs.size = ps.length := by
      have := (args_init _ _ ha).1
      rw [← Array.length_toList, this]
      exact avs_length ps x
    have hO : ∀ b, OS C.F (fun _ => none) (S.initB t [] (avs ps x)) b → F b := fun b hb => hb.resolve_right fun ⟨_, _, _, _, h⟩ => by cases h
    have hinit : SRp C (fun _ => none) (S.initB t [] (avs ps x)) { tmps := (#[Value.slice ad 0 cap] ++ vs) ++ Array.replicate (fn.ntmps - (#[Value.slice ad 0 cap] ++ vs).size) undef, defers := [] } w := {
      defers := rfl, size := (by show (_ : Array Value).size = fn.ntmps; simp; omega), os := rfl, tape := rfl, output := rfl, grow := Nat.le_refl _, old := (fun _ _ _ => rfl),
      win := (fun _ _ _ h => by cases h), place := (fun _ _ _ _ _ h => by cases h), inj := (fun _ _ _ _ _ _ _ _ _ h => by cases h),
      blk := (fun d B hB => by
        have hd := live_initB (by rw [hB]; rfl)
        subst hd
        simp only [S.initB, beq_self, cond_true, Option.some.injEq] at hB
        subst hB
        exact .inl ⟨rfl, rfl⟩),
      tmp := fun u => by
        have h1 := getD_initB ha (.slice ad 0 cap) (fn.ntmps - (#[Value.slice ad 0 cap] ++ vs).size) u (fun _ => none) (S.initB t [] (avs ps x)).sh ⟨t, 0, ad, cap, sh_initB t [] _, rfl, Nat.zero_le _, .inl ⟨rfl, .inl rfl⟩⟩
        exact h1.move (Fr.refl _ _) (fun b hb => .inl (hO b hb)) fun _ _ _ => ⟨rfl, rfl⟩ }
    refine (main w _ vs C _ rfl rfl ha hinit).mono ?_
    rintro e w' ⟨u, a', φ, s', rfl, h1, h2, _, h4⟩
    exact ⟨h4, u, rfl, h1, h2.os, h2.tape, h2.output, h2.grow, fun b hb => h2.old b hb fun _ _ h => by cases h⟩
  · intro b s c' el cap hcap hu0 hFb hb0 hrow hfit
    subst hu0
    let C : Ctx := { w0 := w, F, bw := some (b, s, xs.length * t.size), n := fn.ntmps, hF, hn, hB := fun _ _ _ h => by cases h; exact hFb }
    have hvl : vs.size = ps.length := by
      have := (args_init _ _ ha).1
      rw [← Array.length_toList, this]
      exact avs_length ps x
    let φ0 : Pl := fun d => cond (Nat.beq d BOR) (some (b, s, c'.size)) none
    have hφ0 : φ0 BOR = some (b, s, c'.size) := by simp only [φ0, beq_self, cond_true]
    have hO : ∀ b', OS C.F φ0 (S.initB t xs (avs ps x)) b' → F b' := fun b' hb' => by
      rcases hb' with h | ⟨d, o, z, h1, h2⟩
      · exact h
      · have := live_initB h1
        subst this
        rw [hφ0] at h2
        cases h2
        exact hFb
    have hinit : SRp C φ0 (S.initB t xs (avs ps x)) { tmps := (#[Value.slice (some ⟨b, s, none⟩) xs.length cap] ++ vs) ++ Array.replicate (fn.ntmps - (#[Value.slice (some ⟨b, s, none⟩) xs.length cap] ++ vs).size) undef, defers := [] } w := {
      defers := rfl, size := (by show (_ : Array Value).size = fn.ntmps; simp; omega), os := rfl, tape := rfl, output := rfl, grow := Nat.le_refl _, old := (fun _ _ _ => rfl),
      win := (fun b' s' n' h => by
        cases h
        exact ⟨hF.lt _ hFb, c', c', el, hb0, hb0, rfl, fun _ _ => rfl⟩),
      place := (fun d b' o z h1 h2 => by
        have := live_initB h1
        subst this
        rw [hφ0] at h2
        cases h2
        exact ⟨hF.lt _ hFb, .inr ⟨rfl, t, xs.length, sh_initB t xs _, rfl⟩⟩),
      inj := (fun d d' _ _ _ _ _ h1 h2 _ _ => (live_initB h1).trans (live_initB h2).symm),
      blk := (fun d B hB => by
        have hd := live_initB (by rw [hB]; rfl)
        subst hd
        simp only [S.initB, beq_self, cond_true, Option.some.injEq] at hB
        subst hB
        exact .inr ⟨b, s, c'.size, c', el, hφ0, hb0, rfl, .inl rfl, hrow.frame (Fr.refl _ _) fun b' hb' => .inl (hO b' hb')⟩),
      tmp := fun u => by
        have h1 := getD_initB ha (.slice (some ⟨b, s, none⟩) xs.length cap) (fn.ntmps - (#[Value.slice (some ⟨b, s, none⟩) xs.length cap] ++ vs).size) u φ0 (S.initB t xs (avs ps x)).sh
          ⟨t, xs.length, some ⟨b, s, none⟩, cap, sh_initB t xs _, rfl, hcap, .inr ⟨b, s, c'.size, hφ0, rfl, .inl rfl⟩⟩
        exact h1.move (Fr.refl _ _) (fun b hb => .inl (hO b hb)) fun _ _ _ => ⟨rfl, rfl⟩ }
    refine (main w _ vs C _ rfl rfl ha hinit).mono ?_
    rintro e w' ⟨u, a', φ, s', rfl, h1, h2, h3, h4⟩
    obtain ⟨hbs, c1, c2, el', w1, w2, w3, w4⟩ := h2.win b s _ rfl
    have w1 : w.heap[b]? = some (.cells c1 el' (0, 0)) := w1
    rw [hb0] at w1
    cases w1
    refine ⟨h4, u, rfl, h1, h2.os, h2.tape, h2.output, h2.grow, fun b' hb' hne => h2.old b' hb' fun s2 n2 h => ?_, c2, w2, w3, ?_, w4⟩
    · cases h; exact hne rfl
    · obtain ⟨et, hbk⟩ := hbor h3
      rcases h2.blk BOR _ hbk with ⟨_, k1⟩ | ⟨b2, o2, z2, c3, el3, k1, k2, k3, k4, k5⟩
      · subst k1
        intro i z hz; cases hz
      · rcases (h2.place BOR b2 o2 z2 (by rw [hbk]; rfl) k1).2 with ⟨_, h⟩ | ⟨_, t', m, _, h⟩
        · exact absurd rfl h
        · have h : some (b, s, xs.length * t.size) = some (b2, o2, m * t'.size) := h
          simp only [Option.some.injEq, Prod.mk.injEq] at h
          obtain ⟨rfl, rfl, _⟩ := h
          rw [w2] at k2
          cases k2
          exact RowAt.frame (Fr.refl _ _) (fun b' hb' => .inl (.inl hb')) k5
end
end Go.Proofs.YtgbndganadelpaaGreatDoor.E
/- The tables of a program, checked by evaluation. -/
namespace Go.Proofs.YtgbndganadelpaaGreatDoor.E
open Go
set_option linter.unusedVariables false
set_option linter.unusedSimpArgs false
def LamAt (P : Program) (C : Ctx) (Λ : Lam) (i : Nat) (c : Code) : Prop :=
  ∀ (R : Type) (s : S) (K : Ex → S → Option R) (r : R), Λ R i s K = some r → Reach P C (.loop c) s fun e s' => K e s' = some r
theorem LamOk.nil {P : Program} {C : Ctx} {Λ : Lam} : LamOk P C Λ [] := fun p h => by cases h
theorem LamOk.cons {P : Program} {C : Ctx} {Λ : Lam} {i : Nat} {c : Code} {l : List (Nat × Code)} (h1 : LamAt P C Λ i c) (h2 : LamOk P C Λ l) : LamOk P C Λ ((i, c) :: l) := by
  intro p hp
  rcases List.mem_cons.1 hp with rfl | hp
  · exact h1
  · exact h2 p hp
def zeroB : (t : Ty) → t.den → Bool
  | .int _, x => decide ((x : Int) = 0)
  | .bool, x => !x
  | .str, x => ByteArray.data x |>.toList.isEmpty
  | .unit, _ => true
  | .sl _, x => List.isEmpty x
  | .pair a b, x => zeroB a x.1 && zeroB b x.2
theorem zeroB_ok : ∀ (t : Ty) (x : t.den), zeroB t x = true → x = t.zero
  | .int _, x, h => by simpa [zeroB, Ty.zero] using h
  | .bool, x, h => by simpa [zeroB, Ty.zero] using h
  | .str, x, h => by
    simp only [zeroB, List.isEmpty_iff] at h
    obtain ⟨d⟩ := x
    have : d = #[] := by simpa using h
    subst this; rfl
  | .unit, _, _ => rfl
  | .sl _, x, h => by simpa [zeroB, Ty.zero] using h
  | .pair a b, x, h => by
    simp only [zeroB, Bool.and_eq_true] at h
    exact Prod.ext (zeroB_ok a _ h.1) (zeroB_ok b _ h.2)
def undB : Ty → TypeDesc → Bool
  | .int k, .int k' => decide (k' = k)
  | .bool, .bool => true
  | .str, .string => true
  | .sl _, .slice _ => true
  | .unit, .struct _ => true
  | .pair _ _, .struct _ => true
  | _, _ => false
theorem undB_ok {P : Program} {t : Nat} {T : Ty} {u : TypeDesc} (hu : P.underlying t = some u) (h : undB T u = true) : undOk P t T := by
  cases T <;> cases u <;> first | (cases h; done) | skip
  · simp only [undB, decide_eq_true_eq] at h; subst h; exact hu
  · exact hu
  · exact hu
  · exact ⟨_, hu⟩
  · exact ⟨_, hu⟩
  · exact ⟨_, hu⟩
def tyB (P : Program) (p : Nat × Ty) : Bool := match P.info? p.1, P.underlying p.1 with
  | some i, some u => Nat.beq i.size p.2.size && (Nat.ble i.bytes 65536 && (undB p.2 u && match i.zero with
    | some z => match ofVal p.2 z.cells.toList with
      | some (x, []) => zeroB p.2 x
      | _ => false
    | none => false))
  | _, _ => false
theorem tyB_ok {P : Program} {t : Nat} {T : Ty} (h : tyB P (t, T) = true) : TyOk P t T := by
  unfold tyB at h
  split at h
  rotate_left
  · cases h
  rename_i i u hi hu
  simp only [Bool.and_eq_true] at h
  obtain ⟨h1, h2, h3, h4⟩ := h
  split at h4
  rotate_left
  · cases h4
  rename_i z hz
  split at h4
  rotate_left
  · cases h4
  rename_i x hx
  have := zeroB_ok _ _ h4
  subst this
  exact { info := ⟨i, z, hi, Nat.eq_of_beq_eq_true h1, hz, Nat.le_of_ble_eq_true h2, hx⟩, und := undB_ok hu h3 }
section
variable {P : Program} {d : Nat} {xs ys : Array Value} {f : Field} {fs : List Field} {a b : Value} {r s : Bool} {w : World}
end
def flB (P : Program) (E : Env) (p : Nat × List (Nat × Nat)) : Bool := match P.underlying p.1 with
  | some (.struct fs) => decide (fs.toList.map (fun f => (f.offset, f.type)) = p.2) && p.2.all fun q => (find E.ty q.2).isSome
  | _ => false
def elB (P : Program) (p : Nat × Nat) : Bool := match P.underlying p.1 with
  | some (.slice e) => Nat.beq e p.2
  | _ => false
def sgB (P : Program) (p : Nat × Sg) : Bool := match P.funcs[p.1]? with
  | some fn => !(fn.name == "runtime.NumGoroutine") && fn.body.isSome
  | none => false
theorem find_mem {α : Type} : ∀ {l : List (Nat × α)} {k : Nat} {a : α}, find l k = some a → (k, a) ∈ l
  | [], _, _, h => by cases h
  | (i, b) :: r, k, a, h => by
    simp only [find, nbeq] at h
    by_cases he : i = k
    · rw [decide_eq_true he, cond_true] at h; cases h; subst he; exact List.mem_cons_self
    · rw [decide_eq_false he, cond_false] at h; exact List.mem_cons_of_mem _ (find_mem h)
def glB (P : Program) (p : Nat × GL) : Bool := (match P.underlying p.2.ty with
  | some (.array n e) => Nat.beq n p.2.xs.length && Nat.beq e p.2.el
  | _ => false) && tyB P (p.2.el, p.2.T)
theorem tabs_ok {P : Program} {E : Env} (h1 : E.ty.all (tyB P) = true) (h2 : E.fl.all (flB P E) = true) (h3 : E.el.all (elB P) = true) (h4 : E.sg.all (sgB P) = true) (hm : P.follows .mixedOrders = true)
    (he : ∀ t T, has E.eqs t = true → find E.ty t = some T → EqOk P t T) (h5 : gl.all (glB P) = true := by kernel_rfl) : Tabs E P where
  ty t T h := tyB_ok (List.all_eq_true.1 h1 _ (find_mem h))
  fl t l h := by
    have := List.all_eq_true.1 h2 _ (find_mem h)
    simp only [flB] at this
    split at this
    · rename_i fs hf
      simp only [Bool.and_eq_true, decide_eq_true_eq, List.all_eq_true] at this
      exact ⟨fs, hf, this.1, this.2⟩
    · cases this
  el t e h := by
    have := List.all_eq_true.1 h3 _ (find_mem h)
    simp only [elB] at this
    split at this
    · rename_i e' hf
      rw [hf, Nat.eq_of_beq_eq_true this]
    · cases this
  eqs := he
  sg f g h := by
    have := List.all_eq_true.1 h4 _ (find_mem h)
    simp only [sgB] at this
    split at this
    · rename_i fn hf
      simp only [Bool.and_eq_true, Bool.not_eq_true'] at this
      exact ⟨fn, hf, this.1, this.2⟩
    · cases this
  mixed := hm
  gl g G h := by
    have := List.all_eq_true.1 h5 _ (find_mem h)
    simp only [glB, Bool.and_eq_true] at this
    obtain ⟨h6, h7⟩ := this
    split at h6
    · rename_i n e hu
      rw [Bool.and_eq_true] at h6
      have e1 := Nat.eq_of_beq_eq_true h6.1
      have e2 := Nat.eq_of_beq_eq_true h6.2
      rw [hu, e1, e2]
      exact ⟨rfl, tyB_ok h7⟩
    · cases h6
end Go.Proofs.YtgbndganadelpaaGreatDoor.E
/- The tables of the program (printed by gen.py). -/
namespace Go.Proofs.YtgbndganadelpaaGreatDoor.E
open Go
abbrev tZ : Ty := .pair (.bool) (.pair (.sl (.int .u32)) (.unit))
set_option linter.unusedVariables false
set_option maxRecDepth 100000
noncomputable abbrev prog : Program := Tryz.prog
def gl_0 : List (Int × Int × Unit) := [((2 : Int), (1 : Int), ()), ((1 : Int), (1 : Int), ()), ((1 : Int), (0 : Int), ()), ((1 : Int), (-1 : Int), ()), ((2 : Int), (-1 : Int), ()), ((1 : Int), (-1 : Int), ()), ((1 : Int), (0 : Int), ()), ((1 : Int), (1 : Int), ())]
def env : Env where
  ty := [(2, .int .i64), (3, .int .i64), (4, .bool), (5, .int .u8), (9, .str), (30, .sl (.int .u32)), (32, tZ), (34, .pair (tZ) (.pair (tZ) (.unit))), (36, .pair (.pair (tZ) (.pair (tZ) (.unit))) (.pair (.bool) (.unit))), (37, .int .i64), (40, .sl (.pair (.int .i64) (.pair (.int .i64) (.pair (.int .i64) (.pair (.bool) (.pair (.int .i64) (.unit))))))), (42, .pair (.int .i64) (.pair (.sl (.pair (.int .i64) (.pair (.int .i64) (.pair (.int .i64) (.pair (.bool) (.pair (.int .i64) (.unit))))))) (.unit))), (54, .pair (.int .i64) (.pair (.int .i64) (.unit))), (70, .pair (.int .i64) (.pair (.int .i64) (.pair (.int .i64) (.pair (.bool) (.pair (.int .i64) (.unit)))))), (106, .pair (tZ) (.pair (tZ) (.unit))), (139, .int .u64), (141, .sl (tZ)), (148, .pair (.int .i64) (.pair (.int .i64) (.unit))), (173, .sl (.pair (.int .i64) (.pair (.int .i64) (.unit)))), (177, .pair (.int .i64) (.pair (.int .i64) (.unit))), (211, .int .u32), (214, .int .u64), (216, .sl (.int .u8))]
  fl := [(32, [(0, 4), (1, 30)]), (34, [(0, 32), (2, 32)]), (36, [(0, 34), (4, 4)]), (42, [(0, 2), (1, 40)]), (54, [(0, 3), (1, 3)]), (70, [(0, 3), (1, 3), (2, 3), (3, 4), (4, 3)]), (106, [(0, 32), (2, 32)]), (148, [(0, 3), (1, 3)]), (177, [(0, 2), (1, 3)])]
  el := [(30, 211), (40, 70), (49, 2), (141, 32), (173, 177), (216, 5)]
  eqs := []
  sg := [(195, ⟨[.sl (.int .u32)], .sl (.int .u32), false, false⟩), (187, ⟨[.bool, .sl (.int .u32)], tZ, false, false⟩), (113, ⟨[.int .i64], tZ, false, false⟩), (135, ⟨[tZ], .sl (.int .u32), false, false⟩), (183, ⟨[tZ], tZ, false, false⟩), (112, ⟨[tZ], .pair (tZ) (.pair (tZ) (.unit)), false, false⟩), (52, ⟨[.int .i64], .pair (tZ) (.pair (tZ) (.unit)), false, false⟩), (125, ⟨[.int .i64], .bool, false, false⟩), (55, ⟨[.int .i64], .bool, false, false⟩), (61, ⟨[tZ], .int .i64, false, false⟩), (134, ⟨[tZ], tZ, false, false⟩), (60, ⟨[.pair (tZ) (.pair (tZ) (.unit))], .pair (tZ) (.pair (tZ) (.unit)), false, false⟩), (229, ⟨[.sl (.int .u32), .sl (.int .u32)], .sl (.int .u32), false, false⟩), (185, ⟨[tZ, tZ], tZ, false, false⟩), (108, ⟨[.sl (tZ)], tZ, false, false⟩), (184, ⟨[.sl (.int .u32), .int .u32], .pair (.sl (.int .u32)) (.pair (.int .u32) (.unit)), true, false⟩), (194, ⟨[.sl (.int .u32), .sl (.int .u32)], .int .i64, false, false⟩), (254, ⟨[.int .u32], .int .i64, false, false⟩), (245, ⟨[.int .u32], .int .i64, false, false⟩), (246, ⟨[.sl (.int .u32), .int .u64], .sl (.int .u32), true, false⟩), (247, ⟨[.sl (.int .u32), .sl (.int .u32)], .int .u32, false, true⟩), (249, ⟨[.sl (.int .u32), .int .i64], .int .u64, false, false⟩), (248, ⟨[.sl (.int .u32), .int .u64], .sl (.int .u32), false, false⟩), (226, ⟨[.sl (.int .u32), .sl (.int .u32)], .pair (.sl (.int .u32)) (.pair (.sl (.int .u32)) (.unit)), true, false⟩), (227, ⟨[.sl (.int .u32), .sl (.int .u32)], .sl (.int .u32), false, false⟩), (228, ⟨[.sl (.int .u32), .sl (.int .u32)], .sl (.int .u32), false, false⟩), (182, ⟨[tZ, tZ], .pair (tZ) (.pair (tZ) (.pair (.bool) (.unit))), true, false⟩), (186, ⟨[tZ, tZ], tZ, false, false⟩), (109, ⟨[.pair (tZ) (.pair (tZ) (.unit))], .pair (tZ) (.pair (tZ) (.unit)), false, false⟩), (50, ⟨[.pair (tZ) (.pair (tZ) (.unit)), .pair (tZ) (.pair (tZ) (.unit))], .pair (tZ) (.pair (tZ) (.unit)), false, false⟩), (110, ⟨[tZ, .int .i64], .pair (tZ) (.pair (.bool) (.unit)), true, false⟩), (104, ⟨[.pair (tZ) (.pair (tZ) (.unit))], .pair (tZ) (.pair (tZ) (.unit)), false, false⟩), (111, ⟨[tZ, tZ], .pair (.pair (tZ) (.pair (tZ) (.unit))) (.pair (.bool) (.unit)), true, false⟩), (51, ⟨[.pair (tZ) (.pair (tZ) (.unit)), .int .i64], .pair (.pair (tZ) (.pair (tZ) (.unit))) (.pair (.bool) (.unit)), true, false⟩), (255, ⟨[tZ, tZ], tZ, false, false⟩), (250, ⟨[.sl (tZ)], tZ, false, false⟩), (231, ⟨[.pair (tZ) (.pair (tZ) (.unit)), .pair (tZ) (.pair (tZ) (.unit))], .pair (tZ) (.pair (tZ) (.unit)), false, false⟩), (232, ⟨[.pair (tZ) (.pair (tZ) (.unit))], .pair (tZ) (.pair (tZ) (.unit)), false, false⟩), (193, ⟨[.pair (tZ) (.pair (tZ) (.unit)), .pair (tZ) (.pair (tZ) (.unit))], .pair (tZ) (.pair (tZ) (.unit)), false, false⟩), (131, ⟨[.pair (tZ) (.pair (tZ) (.unit)), .int .i64, .int .i64, .int .i64], .pair (tZ) (.pair (tZ) (.unit)), false, false⟩), (132, ⟨[.pair (tZ) (.pair (tZ) (.unit)), .pair (tZ) (.pair (tZ) (.unit))], .pair (.pair (tZ) (.pair (tZ) (.unit))) (.pair (.bool) (.unit)), true, false⟩), (58, ⟨[.int .i64, .int .i64, .int .i64], .pair (tZ) (.pair (tZ) (.unit)), false, false⟩), (25, ⟨[.int .i64, .pair (.int .i64) (.pair (.int .i64) (.unit))], .pair (.pair (tZ) (.pair (tZ) (.unit))) (.pair (.int .i64) (.unit)), true, false⟩), (144, ⟨[.pair (.int .i64) (.pair (.sl (.pair (.int .i64) (.pair (.int .i64) (.pair (.int .i64) (.pair (.bool) (.pair (.int .i64) (.unit))))))) (.unit))], .bool, false, false⟩), (234, ⟨[.pair (.int .i64) (.pair (.int .i64) (.pair (.int .i64) (.pair (.bool) (.pair (.int .i64) (.unit)))))], .bool, false, false⟩), (201, ⟨[.pair (.int .i64) (.pair (.int .i64) (.pair (.int .i64) (.pair (.bool) (.pair (.int .i64) (.unit)))))], .bool, false, false⟩), (202, ⟨[.pair (.int .i64) (.pair (.sl (.pair (.int .i64) (.pair (.int .i64) (.pair (.int .i64) (.pair (.bool) (.pair (.int .i64) (.unit))))))) (.unit))], .bool, false, false⟩), (145, ⟨[.pair (.int .i64) (.pair (.sl (.pair (.int .i64) (.pair (.int .i64) (.pair (.int .i64) (.pair (.bool) (.pair (.int .i64) (.unit))))))) (.unit))], .bool, false, false⟩), (70, ⟨[.pair (.int .i64) (.pair (.sl (.pair (.int .i64) (.pair (.int .i64) (.pair (.int .i64) (.pair (.bool) (.pair (.int .i64) (.unit))))))) (.unit))], .bool, false, false⟩), (30, ⟨[.pair (.int .i64) (.pair (.sl (.pair (.int .i64) (.pair (.int .i64) (.pair (.int .i64) (.pair (.bool) (.pair (.int .i64) (.unit))))))) (.unit))], .pair (.pair (.pair (tZ) (.pair (tZ) (.unit))) (.pair (.bool) (.unit))) (.pair (.int .i64) (.unit)), true, false⟩), (32, ⟨[.pair (.int .i64) (.pair (.sl (.pair (.int .i64) (.pair (.int .i64) (.pair (.int .i64) (.pair (.bool) (.pair (.int .i64) (.unit))))))) (.unit))], .pair (.int .i64) (.pair (.int .i64) (.unit)), true, false⟩), (107, ⟨[.pair (.int .i64) (.pair (.sl (.pair (.int .i64) (.pair (.int .i64) (.pair (.int .i64) (.pair (.bool) (.pair (.int .i64) (.unit))))))) (.unit)), .int .i64], .pair (.int .i64) (.pair (.int .i64) (.pair (.int .i64) (.pair (.bool) (.pair (.int .i64) (.unit))))), false, false⟩), (49, ⟨[.pair (.int .i64) (.pair (.sl (.pair (.int .i64) (.pair (.int .i64) (.pair (.int .i64) (.pair (.bool) (.pair (.int .i64) (.unit))))))) (.unit)), .int .i64], .pair (.int .i64) (.pair (.int .i64) (.unit)), false, false⟩), (16, ⟨[.pair (.int .i64) (.pair (.sl (.pair (.int .i64) (.pair (.int .i64) (.pair (.int .i64) (.pair (.bool) (.pair (.int .i64) (.unit))))))) (.unit))], .pair (.pair (.pair (tZ) (.pair (tZ) (.unit))) (.pair (.bool) (.unit))) (.pair (.int .i64) (.unit)), true, false⟩), (128, ⟨[.int .i64], .bool, false, false⟩), (129, ⟨[.int .i64], .pair (.sl (.pair (.int .i64) (.pair (.int .i64) (.unit)))) (.pair (.int .i64) (.unit)), true, false⟩), (126, ⟨[.int .i64], .pair (.int .i64) (.pair (.int .i64) (.pair (.int .i64) (.unit))), true, false⟩), (127, ⟨[.int .i64, .int .i64], .int .i64, false, false⟩), (56, ⟨[.int .i64], .pair (.int .i64) (.pair (.int .i64) (.unit)), true, false⟩), (130, ⟨[.int .i64, .int .i64], .int .i64, false, false⟩), (57, ⟨[.int .i64, .int .i64], .pair (.int .i64) (.pair (.int .i64) (.unit)), true, false⟩), (18, ⟨[.int .i64, .int .i64, .int .i64], .pair (.pair (tZ) (.pair (tZ) (.unit))) (.pair (.int .i64) (.unit)), true, false⟩), (47, ⟨[.int .i64, .int .i64, .int .i64], .pair (.int .i64) (.pair (.sl (.pair (.int .i64) (.pair (.int .i64) (.pair (.int .i64) (.pair (.bool) (.pair (.int .i64) (.unit))))))) (.unit)), false, false⟩), (105, ⟨[.pair (tZ) (.pair (tZ) (.unit))], .bool, false, false⟩), (106, ⟨[tZ], .str, false, false⟩), (48, ⟨[.pair (tZ) (.pair (tZ) (.unit))], .str, false, false⟩), (15, ⟨[], .bool, false, false⟩), (24, ⟨[.int .u8], .int .i64, false, false⟩), (139, ⟨[.int .i64], .bool, false, false⟩), (66, ⟨[.int .i64], .bool, false, false⟩), (97, ⟨[.sl (.int .u32)], .sl (.int .u32), false, false⟩), (181, ⟨[.bool, .sl (.int .u32)], tZ, false, false⟩), (138, ⟨[.bool, .int .u64], tZ, false, false⟩), (65, ⟨[.int .i64], tZ, false, false⟩), (166, ⟨[tZ], tZ, false, false⟩), (198, ⟨[tZ], .pair (tZ) (.pair (tZ) (.unit)), false, false⟩), (140, ⟨[.int .i64], .pair (tZ) (.pair (tZ) (.unit)), false, false⟩), (99, ⟨[tZ], .int .i64, false, false⟩), (103, ⟨[tZ], tZ, false, false⟩), (143, ⟨[.sl (.int .u32), .sl (.int .u32)], .int .i64, false, false⟩), (224, ⟨[.sl (.int .u32), .sl (.int .u32)], .sl (.int .u32), false, false⟩), (225, ⟨[.sl (.int .u32), .sl (.int .u32)], .sl (.int .u32), false, false⟩), (180, ⟨[tZ, tZ], tZ, false, false⟩), (101, ⟨[tZ, tZ], tZ, false, false⟩), (98, ⟨[.sl (.int .u32)], .int .u64, false, false⟩), (244, ⟨[.sl (.int .u32), .int .u32], .sl (.int .u32), false, false⟩), (223, ⟨[.sl (.int .u32), .sl (.int .u32)], .pair (.sl (.int .u32)) (.pair (.sl (.int .u32)) (.unit)), true, false⟩), (179, ⟨[tZ, tZ], .pair (tZ) (.pair (tZ) (.pair (.bool) (.unit))), true, false⟩), (100, ⟨[tZ, tZ], tZ, false, false⟩), (196, ⟨[tZ], tZ, false, false⟩), (197, ⟨[tZ, tZ], tZ, false, false⟩), (137, ⟨[tZ, tZ], tZ, false, false⟩), (64, ⟨[tZ, tZ], .pair (.pair (tZ) (.pair (tZ) (.unit))) (.pair (.bool) (.unit)), true, false⟩), (23, ⟨[.int .i64, .int .i64], .pair (tZ) (.pair (tZ) (.unit)), false, false⟩), (151, ⟨[.pair (tZ) (.pair (tZ) (.unit))], .pair (tZ) (.pair (tZ) (.unit)), false, false⟩), (102, ⟨[tZ, tZ], tZ, false, false⟩), (211, ⟨[.pair (tZ) (.pair (tZ) (.unit)), .pair (tZ) (.pair (tZ) (.unit))], .pair (.pair (tZ) (.pair (tZ) (.unit))) (.pair (.bool) (.unit)), true, false⟩), (212, ⟨[tZ, .int .i64], .pair (tZ) (.pair (.bool) (.unit)), true, false⟩), (150, ⟨[.pair (tZ) (.pair (tZ) (.unit)), .int .i64], .pair (.pair (tZ) (.pair (tZ) (.unit))) (.pair (.bool) (.unit)), true, false⟩), (73, ⟨[.int .i64, .int .i64], .pair (tZ) (.pair (tZ) (.unit)), false, false⟩), (199, ⟨[.pair (tZ) (.pair (tZ) (.unit)), .pair (tZ) (.pair (tZ) (.unit))], .pair (tZ) (.pair (tZ) (.unit)), false, false⟩), (220, ⟨[.pair (tZ) (.pair (tZ) (.unit)), .pair (tZ) (.pair (tZ) (.unit))], .pair (tZ) (.pair (tZ) (.unit)), false, false⟩), (233, ⟨[.pair (tZ) (.pair (tZ) (.unit))], .pair (tZ) (.pair (tZ) (.unit)), false, false⟩), (200, ⟨[.pair (tZ) (.pair (tZ) (.unit)), .pair (tZ) (.pair (tZ) (.unit))], .pair (tZ) (.pair (tZ) (.unit)), false, false⟩), (141, ⟨[.int .i64, .int .i64], .pair (tZ) (.pair (tZ) (.unit)), false, false⟩), (75, ⟨[.pair (tZ) (.pair (tZ) (.unit)), .pair (tZ) (.pair (tZ) (.unit))], .pair (tZ) (.pair (tZ) (.unit)), false, false⟩), (142, ⟨[.pair (tZ) (.pair (tZ) (.unit)), .int .i64, .int .i64, .int .i64], .pair (tZ) (.pair (tZ) (.unit)), false, false⟩), (67, ⟨[.int .i64, .pair (.int .i64) (.pair (.int .i64) (.unit))], .pair (tZ) (.pair (tZ) (.unit)), false, false⟩), (26, ⟨[.int .i64, .pair (.int .i64) (.pair (.int .i64) (.unit))], .pair (.pair (tZ) (.pair (tZ) (.unit))) (.pair (.int .i64) (.unit)), true, false⟩), (68, ⟨[tZ, tZ], .bool, false, false⟩), (27, ⟨[.pair (tZ) (.pair (tZ) (.unit)), .pair (tZ) (.pair (tZ) (.unit))], .bool, false, false⟩), (5, ⟨[.int .u8, .int .i64, .pair (.int .i64) (.pair (.int .i64) (.unit)), .int .u8, .int .u8, .bool, .bool], .bool, false, false⟩), (190, ⟨[.int .i64, .int .i64], .int .i64, false, false⟩), (189, ⟨[.int .i64, .int .i64, .int .i64], .int .i64, false, false⟩), (116, ⟨[.int .i64, .int .i64], .int .i64, false, false⟩), (213, ⟨[.int .i64], .pair (.sl (.pair (.int .i64) (.pair (.int .i64) (.unit)))) (.pair (.int .i64) (.unit)), true, false⟩), (214, ⟨[.int .i64], .int .i64, false, false⟩), (157, ⟨[.int .i64, .int .i64], .int .i64, false, false⟩), (243, ⟨[.int .i64], .pair (.int .i64) (.pair (.int .i64) (.pair (.int .i64) (.unit))), true, false⟩), (215, ⟨[.int .i64], .pair (.int .i64) (.pair (.int .i64) (.unit)), true, false⟩), (158, ⟨[.int .i64, .int .i64], .int .i64, false, false⟩), (79, ⟨[.int .i64, .int .i64, .int .i64], .pair (tZ) (.pair (tZ) (.unit)), false, false⟩), (37, ⟨[.int .i64, .int .i64, .int .i64], .pair (.pair (tZ) (.pair (tZ) (.unit))) (.pair (.int .i64) (.unit)), true, false⟩), (9, ⟨[.int .i64, .int .i64, .int .u8, .int .i64, .bool, .bool], .bool, false, false⟩)]
theorem tabs : Tabs env prog := tabs_ok (by kernel_rfl) (by kernel_rfl) (by kernel_rfl) (by kernel_rfl) (Checked.mixed Tryz.checked) (fun t T h => by cases h)
end Go.Proofs.YtgbndganadelpaaGreatDoor.E
