/- A function that writes into the window that it is handed. -/
import Derived.Test.YtbchgegclgpdhaaE15
namespace Go.Proofs.Ytbchgegclgpdhaa.E
open Go
set_option linter.unusedVariables false
set_option linter.unusedSimpArgs false
section
variable {P : Program} {E : Env}
theorem sh_initB (t : Ty) (xs : List t.den) (as : List AV) : (S.initB t xs as).sh BOR = some (.arr t xs.length) := by
  simp only [S.sh, S.initB, beq_self, cond_true, Option.map_some, Blk.sh]
theorem live_initB {t : Ty} {xs : List t.den} {as : List AV} {d : Nat} (h : ((S.initB t xs as).bk d).isSome = true) : d = BOR := by
  simp only [S.initB] at h
  by_cases e : d = BOR
  · exact e
  · rw [beq_ne e] at h; cases h
theorem getD_initB {as : List AV} {us : Array Value} {w : World} {F : Nat → Prop} (h : ArgsOk w F as us.toList) (u0 : Value) (k t : Nat) (φ : Pl) (σ : Nat → Option Sh) (h0 : Ok φ σ F w (.own BOR) u0) :
    Ok φ σ F w ((AV.own BOR :: as).getD t .dead) (((#[u0] ++ us) ++ Array.replicate k undef).getD t undef) := by
  rw [getD_pad]
  have : (#[u0] ++ us).toList = u0 :: us.toList := by simp
  rw [this]
  cases t with
  | zero => exact h0
  | succ t => exact (args_init as us.toList h).2 φ σ t
theorem funB_ok (hT : Tabs E P) {l : List En} (hl : AllOk P l) {lB : List EnB} (hlB : AllBOk P lB) {f : Nat} {fn : Func} {c : Code} {g : Sg} {h : HT} {Λ : Lam} {t : Ty} {ps : List Ty} (hfn : P.funcs[f]? = some fn) (hb : fn.body = some c)
    (hn : fn.ntmps ≤ BOR) (hps : ps.length + 1 ≤ fn.ntmps) (hΛ : ∀ C : Ctx, C.n = fn.ntmps → LamOk P C Λ (loops c h)) {k : List t.den → (tyP ps).den → Option (g.r.den × List t.den)}
    (hk : ∀ xs x, semK E (orc l) (orcB lB) fn.ntmps (Λ _) c h (S.initB t xs (avs ps x)) (finB E fn g t xs.length) = k xs x) : EnBOk P ⟨f, t, ps, g.r, g.tup, k⟩ := by
  intro xs x y hy
  simp only at xs x y hy
  obtain ⟨y, ys⟩ := y
  have hk' := hk xs x
  rw [hy] at hk'
  -- what the end says
  have hend : ∀ {e : Ex} {s' : S}, finB E fn g t xs.length e s' = some (y, ys) → fin E fn g e s' = some y ∧ s'.bor t = some ys ∧ ys.length = xs.length := by
    intro e s' h
    unfold finB at h
    split at h
    · rename_i y' ys' h1 h2
      obtain ⟨h3, h⟩ := cond_some' h
      rw [nbeq] at h3
      cases h
      exact ⟨h1, h2, of_decide_eq_true h3⟩
    · cases h
  have hbor : ∀ {s' : S}, s'.bor t = some ys → ∃ et, s'.bk BOR = some (.arr et t ys) := by
    intro s' h
    unfold S.bor at h
    split at h
    · rename_i et t' zs hz
      obtain ⟨e1, e2⟩ := castT_sl h
      subst e1
      simp only at e2
      subst e2
      exact ⟨et, hz⟩
    · cases h
  have main : ∀ (w : World) (u0 : Value) (vs : Array Value) (C : Ctx) (φ0 : Pl), C.w0 = w → C.n = fn.ntmps → ArgsOk w C.F (avs ps x) vs.toList →
      SRp C φ0 (S.initB t xs (avs ps x)) { tmps := (#[u0] ++ vs) ++ Array.replicate (fn.ntmps - (#[u0] ++ vs).size) undef, defers := [] } w →
      Calls P f (#[u0] ++ vs) w fun e w' => ∃ u a' φ s', e = .returned u ∧ ResOk w' C.F (resA g.tup g.r y) u ∧ SRp C φ s' a' w' ∧ s'.bor t = some ys ∧ ys.length = xs.length := by
    intro w u0 vs C φ0 hw hC ha hs
    refine calls_of_wp hfn hb ?_
    rw [← hC] at hk'
    refine semK_ok (C := C) hT (orc_ok l hl) (orcB_ok lB hlB) c h _ _ (hΛ C hC) hk' _ w ⟨φ0, hs⟩ _ fun e s' a' w' h1 h2 => ?_
    obtain ⟨φ, h2⟩ := h2
    obtain ⟨h3, h4, h5⟩ := hend h1
    obtain ⟨he, u, q1, q2⟩ := fin_ok hT h2 h3
    rcases he with rfl | rfl
    · exact ⟨h2.defers, u, q1, u, a', φ, s', rfl, q2, h2, h4, h5⟩
    · exact ⟨h2.defers, u, q1, u, a', φ, s', rfl, q2, h2, h4, h5⟩
  refine fun w u0 vs F hF ha => ⟨?_, ?_⟩
  · rintro ⟨rfl, ad, cap, rfl⟩
    let C : Ctx := { w0 := w, F, bw := none, n := fn.ntmps, hF, hn }
    have hvl : vs.size = ps.length := by
      have := (args_init _ _ ha).1
      rw [← Array.length_toList, this]
      exact avs_length ps x
    have hO : ∀ b, OS C.F (fun _ => none) (S.initB t [] (avs ps x)) b → F b := fun b hb => hb.resolve_right fun ⟨_, _, _, _, h⟩ => by cases h
    have hinit : SRp C (fun _ => none) (S.initB t [] (avs ps x)) { tmps := (#[Value.slice ad 0 cap] ++ vs) ++ Array.replicate (fn.ntmps - (#[Value.slice ad 0 cap] ++ vs).size) undef, defers := [] } w := {
      defers := rfl, size := (by show (_ : Array Value).size = fn.ntmps; simp; omega), os := rfl, tape := rfl, output := rfl, grow := Nat.le_refl _, old := (fun _ _ _ => rfl),
      win := (fun _ _ _ h => by cases h), place := (fun _ _ _ _ _ h => by cases h), inj := (fun _ _ _ _ _ _ _ _ _ h => by cases h),
      blk := (fun d B hB => by
        have hd := live_initB (by rw [hB]; rfl)
        subst hd
        simp only [S.initB, beq_self, cond_true, Option.some.injEq] at hB
        subst hB
        exact .inl ⟨rfl, rfl⟩),
      tmp := fun u => by
        have h1 := getD_initB ha (.slice ad 0 cap) (fn.ntmps - (#[Value.slice ad 0 cap] ++ vs).size) u (fun _ => none) (S.initB t [] (avs ps x)).sh ⟨t, 0, ad, cap, sh_initB t [] _, rfl, Nat.zero_le _, .inl ⟨rfl, .inl rfl⟩⟩
        exact h1.move (Fr.refl _ _) (fun b hb => .inl (hO b hb)) fun _ _ _ => ⟨rfl, rfl⟩ }
    refine (main w _ vs C _ rfl rfl ha hinit).mono ?_
    rintro e w' ⟨u, a', φ, s', rfl, h1, h2, _, h4⟩
    exact ⟨h4, u, rfl, h1, h2.os, h2.tape, h2.output, h2.grow, fun b hb => h2.old b hb fun _ _ h => by cases h⟩
  · intro b s c' el cap hcap hu0 hFb hb0 hrow hfit
    subst hu0
    let C : Ctx := { w0 := w, F, bw := some (b, s, xs.length * t.size), n := fn.ntmps, hF, hn }
    have hvl : vs.size = ps.length := by
      have := (args_init _ _ ha).1
      rw [← Array.length_toList, this]
      exact avs_length ps x
    let φ0 : Pl := fun d => cond (Nat.beq d BOR) (some (b, s, c'.size)) none
    have hφ0 : φ0 BOR = some (b, s, c'.size) := by simp only [φ0, beq_self, cond_true]
    have hO : ∀ b', OS C.F φ0 (S.initB t xs (avs ps x)) b' → F b' := fun b' hb' => by
      rcases hb' with h | ⟨d, o, z, h1, h2⟩
      · exact h
      · have := live_initB h1
        subst this
        rw [hφ0] at h2
        cases h2
        exact hFb
    have hinit : SRp C φ0 (S.initB t xs (avs ps x)) { tmps := (#[Value.slice (some ⟨b, s, none⟩) xs.length cap] ++ vs) ++ Array.replicate (fn.ntmps - (#[Value.slice (some ⟨b, s, none⟩) xs.length cap] ++ vs).size) undef, defers := [] } w := {
      defers := rfl, size := (by show (_ : Array Value).size = fn.ntmps; simp; omega), os := rfl, tape := rfl, output := rfl, grow := Nat.le_refl _, old := (fun _ _ _ => rfl),
      win := (fun b' s' n' h => by
        cases h
        exact ⟨hF _ hFb, c', c', el, hb0, hb0, rfl, fun _ _ => rfl⟩),
      place := (fun d b' o z h1 h2 => by
        have := live_initB h1
        subst this
        rw [hφ0] at h2
        cases h2
        exact ⟨hF _ hFb, .inr ⟨rfl, t, xs.length, sh_initB t xs _, rfl⟩⟩),
      inj := (fun d d' _ _ _ _ _ h1 h2 _ _ => (live_initB h1).trans (live_initB h2).symm),
      blk := (fun d B hB => by
        have hd := live_initB (by rw [hB]; rfl)
        subst hd
        simp only [S.initB, beq_self, cond_true, Option.some.injEq] at hB
        subst hB
        exact .inr ⟨b, s, c'.size, c', el, hφ0, hb0, rfl, .inl rfl, hrow.frame (Fr.refl _ _) fun b' hb' => .inl (hO b' hb')⟩),
      tmp := fun u => by
        have h1 := getD_initB ha (.slice (some ⟨b, s, none⟩) xs.length cap) (fn.ntmps - (#[Value.slice (some ⟨b, s, none⟩) xs.length cap] ++ vs).size) u φ0 (S.initB t xs (avs ps x)).sh
          ⟨t, xs.length, some ⟨b, s, none⟩, cap, sh_initB t xs _, rfl, hcap, .inr ⟨b, s, c'.size, hφ0, rfl, .inl rfl⟩⟩
        exact h1.move (Fr.refl _ _) (fun b hb => .inl (hO b hb)) fun _ _ _ => ⟨rfl, rfl⟩ }
    refine (main w _ vs C _ rfl rfl ha hinit).mono ?_
    rintro e w' ⟨u, a', φ, s', rfl, h1, h2, h3, h4⟩
    obtain ⟨hbs, c1, c2, el', w1, w2, w3, w4⟩ := h2.win b s _ rfl
    have w1 : w.heap[b]? = some (.cells c1 el' (0, 0)) := w1
    rw [hb0] at w1
    cases w1
    refine ⟨h4, u, rfl, h1, h2.os, h2.tape, h2.output, h2.grow, fun b' hb' hne => h2.old b' hb' fun s2 n2 h => ?_, c2, w2, w3, ?_, w4⟩
    · cases h; exact hne rfl
    · obtain ⟨et, hbk⟩ := hbor h3
      rcases h2.blk BOR _ hbk with ⟨_, k1⟩ | ⟨b2, o2, z2, c3, el3, k1, k2, k3, k4, k5⟩
      · subst k1
        intro i z hz; cases hz
      · rcases (h2.place BOR b2 o2 z2 (by rw [hbk]; rfl) k1).2 with ⟨_, h⟩ | ⟨_, t', m, _, h⟩
        · exact absurd rfl h
        · have h : some (b, s, xs.length * t.size) = some (b2, o2, m * t'.size) := h
          simp only [Option.some.injEq, Prod.mk.injEq] at h
          obtain ⟨rfl, rfl, _⟩ := h
          rw [w2] at k2
          cases k2
          exact RowAt.frame (Fr.refl _ _) (fun b' hb' => .inl (.inl hb')) k5
end
end Go.Proofs.Ytbchgegclgpdhaa.E
