/- Chapter 32: the closed values. -/
import Derived.Test.YtgbndganadelpaaGreatDoorYLocalmassDiagonal17
import Derived.Test.YtgbndganadelpaaGreatDoorYLocalmassDiagonal15
import Derived.Test.YtgbndganadelpaaGreatDoorYLocalmassDiagonal7
import Derived.LaidLaws
import Derived.LaidMore
import Derived.MakeChecks
import Derived.OpenShut
import Derived.ChangeSame
import Derived.KernelRfl
import Derived.Test.YtgbndganadelpaaGreatDoorYLocalmassDiagonal12
import Derived.Lib.SmallJoins
import Derived.Deep.Slices
import Derived.Carry
import Derived.WalkKit
import Derived.Below
namespace Go.Proofs.YtgbndganadelpaaGreatDoor.V
open Go Go.Proofs.YtgbndganadelpaaGreatDoor.E
theorem awake_ok : quadformlaw32_awake = some true := c_quadformlaw32_awake.le 300 true (by kernel_rfl)
end Go.Proofs.YtgbndganadelpaaGreatDoor.V
/- LocalmassDiagonal: the law. -/
namespace Go.Proofs.YtgbndganadelpaaGreatDoor.V
open Go Go.Proofs.YtgbndganadelpaaGreatDoor.E Go.Proofs.YtgbndganadelpaaGreatDoor.LI Go.Proofs.YtgbndganadelpaaGreatDoor.Num
set_option linter.unusedVariables false
set_option linter.unusedSimpArgs false
theorem is_same : quadformref22_Is = prime_Is := rfl
theorem known_any (p : Int) : ∃ b, localmass_known p = some b ∧ quadformref24_Small p = some b ∧ (b = true → 2 ≤ p ∧ p ≤ 9973) := by
  obtain ⟨b, h1, h2⟩ := is_any p
  unfold localmass_known quadformref24_Small
  simp only [cite, decide_eq_true_eq]
  by_cases h : p ≤ 9973
  · rw [if_pos h, if_pos h, is_same, h2, Option.bind_some]
    exact ⟨b, rfl, rfl, fun hb => ⟨(h1.1 hb).1, h⟩⟩
  · rw [if_neg h, if_neg h]
    exact ⟨false, rfl, rfl, fun h => by cases h⟩
/-- What is refused. -/
def refuse (n c : Int) : Prop := n < 0 ∨ 9 < n ∨ (n = 0 ∧ c ≠ 1) ∨ (n % 2 = 1 ∧ c ≠ 0) ∨ (n % 2 = 0 ∧ c ≠ 1 ∧ c ≠ -1)
theorem diag_bad {p n c : Int} (hk : localmass_known p = some true) (h : refuse n c) : localmass_Diagonal p (n, c, ()) = some (zQ, 1, ()) := by
  unfold localmass_Diagonal
  rw [hk, Option.bind_some]
  simp only [localmass_Diagonal.j1, localmass_Diagonal.j2, localmass_Diagonal.j3, localmass_Diagonal.j4, Bool.not_true, cite, decide_eq_true_eq, beq_iff_eq, bne_iff_ne]
  rw [if_neg (by decide)]
  by_cases h0 : n < 0
  · rw [if_pos h0]; rfl
  · rw [if_neg h0]
    by_cases h9 : n > 9
    · rw [if_pos h9]; rfl
    · rw [if_neg h9]
      have e2 : Int.tmod n 2 = n % 2 := Int.tmod_eq_emod_of_nonneg (by omega)
      rw [e2]
      unfold refuse at h
      repeat' split
      all_goals first | rfl | (exfalso; omega)
theorem rdiag_bad {p n c : Int} (hk : quadformref24_Small p = some true) (h : refuse n c) : quadformref32_Diagonal p (n, c, ()) = some (zQ, 1, ()) := by
  unfold quadformref32_Diagonal
  rw [hk, Option.bind_some]
  simp only [quadformref32_Diagonal.j1, quadformref32_Diagonal.j2, Bool.not_true, cite, decide_eq_true_eq, beq_iff_eq, bne_iff_ne]
  rw [if_neg (by decide)]
  by_cases h0 : n < 0
  · rw [if_pos h0]; rfl
  · rw [if_neg h0]
    by_cases h9 : n > 9
    · rw [if_pos h9]; rfl
    · rw [if_neg h9]
      have e2 : Int.tmod n 2 = n % 2 := Int.tmod_eq_emod_of_nonneg (by omega)
      rw [e2]
      unfold refuse at h
      repeat' split
      all_goals first | rfl | (exfalso; omega)
theorem diag_zero {p : Int} (hk : localmass_known p = some true) : localmass_Diagonal p (0, 1, ()) = some (mkQ 1, 0, ()) := by
  unfold localmass_Diagonal
  rw [hk, Option.bind_some]
  have h := lwhole (z := 1) (by decide) (by decide)
  simp only [localmass_Diagonal.j1, localmass_Diagonal.j2, localmass_Diagonal.j3, localmass_Diagonal.j4, Bool.not_true, cite, decide_eq_true_eq, beq_iff_eq, bne_iff_ne, etaI, etaQ, etaP]
  rw [h]
  rfl
theorem rfactor_ok {p n : Nat} {c : Int} (hp0 : 2 ≤ p) (hp : p ≤ 9973) (h1 : 1 ≤ n) (h9 : n ≤ 9) (hc : n % 2 = 1 ∧ c = 0 ∨ n % 2 = 0 ∧ (c = 1 ∨ c = -1)) :
    quadformref32_factor (p : Int) ((n : Int), c, ()) = some (mkQ (hf p ((n + 1) / 2) c)) := by
  have e2 : Int.tmod (n : Int) 2 = ((n % 2 : Nat) : Int) := (Int.ofNat_tmod n 2).symm
  have e3 : IntKind.wrap .i64 (Int.tdiv (IntKind.wrap .i64 ((n : Int) + 1)) 2) = (((n + 1) / 2 : Nat) : Int) := by
    rw [up (by omega), show Int.tdiv ((n + 1 : Nat) : Int) 2 = (((n + 1) / 2 : Nat) : Int) from (Int.ofNat_tdiv _ 2).symm, wi64 (by omega) (by omega)]
  have e4 : IntKind.wrap .i64 (Int.tdiv (n : Int) 2) = ((n / 2 : Nat) : Int) := by
    rw [show Int.tdiv (n : Int) 2 = ((n / 2 : Nat) : Int) from (Int.ofNat_tdiv _ 2).symm, wi64 (by omega) (by omega)]
  unfold quadformref32_factor
  simp only [quadformref32_factor.j1, quadformref32_factor.j2, cite, decide_eq_true_eq, beq_iff_eq, e2, e3, e4, etaI, etaQ, etaP]
  rw [if_neg (show ¬ (n : Int) = 0 by omega)]
  rcases hc with ⟨ho, rfl⟩ | ⟨ho, hc⟩
  · rw [if_pos (by omega), group_ok hp0 hp (by omega) (by omega), Option.bind_some, hf_zero]
  · rw [if_neg (by omega), group_ok hp0 hp (by omega) (by omega), Option.bind_some, signed_okR (gr_bd hp (by omega)) (by omega) hp0 hp (by omega) (by omega) (by omega), Option.bind_some, hf_signed, show (n + 1) / 2 = n / 2 by omega]
theorem rdiag_ok {p n : Nat} {c : Int} (hk : quadformref24_Small (p : Int) = some true) (hp0 : 2 ≤ p) (hp : p ≤ 9973) (h1 : 1 ≤ n) (h9 : n ≤ 9) (hc : n % 2 = 1 ∧ c = 0 ∨ n % 2 = 0 ∧ (c = 1 ∨ c = -1)) :
    quadformref32_Diagonal (p : Int) ((n : Int), c, ()) = some (mkQ (hf p ((n + 1) / 2) c), 0, ()) := by
  have hf1 := rfactor_ok hp0 hp h1 h9 hc
  have e2 : Int.tmod (n : Int) 2 = ((n % 2 : Nat) : Int) := (Int.ofNat_tmod n 2).symm
  unfold quadformref32_Diagonal
  rw [hk, Option.bind_some]
  simp only [quadformref32_Diagonal.j1, quadformref32_Diagonal.j2, Bool.not_true, cite, decide_eq_true_eq, beq_iff_eq, bne_iff_ne, e2, hf1, Option.bind_some, etaI, etaQ, etaP]
  rw [if_neg (by decide), if_neg (by omega), if_neg (by omega)]
  repeat' split
  all_goals first | rfl | (exfalso; omega)
theorem rdiag_zero {p : Int} (hk : quadformref24_Small p = some true) : quadformref32_Diagonal p (0, 1, ()) = some (mkQ 1, 0, ()) := by
  have h := rsmallQ (a := 1) (by decide) (by decide)
  have hf1 : quadformref32_factor p (0, 1, ()) = some (mkQ 1) := by
    unfold quadformref32_factor
    simp only [cite, beq_iff_eq, if_true, etaI, etaQ, etaP]
    rw [h]
    rfl
  unfold quadformref32_Diagonal
  rw [hk, Option.bind_some]
  simp only [quadformref32_Diagonal.j1, quadformref32_Diagonal.j2, Bool.not_true, cite, decide_eq_true_eq, beq_iff_eq, bne_iff_ne, etaI, etaQ, etaP]
  rw [hf1]
  rfl
/-- Both say the same. -/
theorem diag_same (p n c : Int) : ∃ (q : QV) (e : Int), localmass_Diagonal p (n, c, ()) = some (q, e, ()) ∧ quadformref32_Diagonal p (n, c, ()) = some (q, e, ()) ∧ quadformref02_Same q q = some true := by
  obtain ⟨b, k1, k2, k3⟩ := known_any p
  cases b with
  | false =>
    refine ⟨zQ, 20, ?_, ?_, zsame⟩
    · unfold localmass_Diagonal; rw [k1]; rfl
    · unfold quadformref32_Diagonal; rw [k2]; rfl
  | true =>
    obtain ⟨h2, h3⟩ := k3 rfl
    by_cases hr : refuse n c
    · exact ⟨zQ, 1, diag_bad k1 hr, rdiag_bad k2 hr, zsame⟩
    · obtain ⟨P, rfl⟩ : ∃ P : Nat, p = P := ⟨p.toNat, by omega⟩
      unfold refuse at hr
      obtain ⟨N, rfl⟩ : ∃ N : Nat, n = N := ⟨n.toNat, by omega⟩
      by_cases h0 : N = 0
      · subst h0
        obtain rfl : c = 1 := by omega
        exact ⟨mkQ 1, 0, diag_zero k1, rdiag_zero k2, by rw [rsameQ q1 (by decide), decide_eq_true rfl]⟩
      · have hc : N % 2 = 1 ∧ c = 0 ∨ N % 2 = 0 ∧ (c = 1 ∨ c = -1) := by omega
        have hb := hf_bd (p := P) (s := (N + 1) / 2) (c := c) (by omega) (by omega) (by omega)
        exact ⟨_, 0, diag_ok k1 (by omega) (by omega) (by omega) (by omega) hc, rdiag_ok k2 (by omega) (by omega) (by omega) (by omega) hc, by rw [rsameQ hb (by decide), decide_eq_true rfl]⟩
theorem scene_some (k : Int) (hk : 0 ≤ k ∧ k < 256) : ∃ p, quadformscene_Prime k = some p := by
  obtain ⟨n, rfl⟩ : ∃ n : Nat, k = n := ⟨k.toNat, by omega⟩
  have e1 : IntKind.wrap .i64 (n : Int) = (n : Int) := wi64 (by omega) (by omega)
  have e2 : Int.tmod (n : Int) 20 = ((n % 20 : Nat) : Int) := (Int.ofNat_tmod n 20).symm
  have hm : n % 20 < 20 := Nat.mod_lt _ (by decide)
  unfold quadformscene_Prime
  simp only [List.length_cons, List.length_nil, cite, inB_t, decide_eq_true_eq]
  rw [e1, show (((0 + 1 + 1 + 1 + 1 + 1 + 1 + 1 + 1 + 1 + 1 + 1 + 1 + 1 + 1 + 1 + 1 + 1 + 1 + 1 + 1 : Nat)) : Int) = 20 from rfl, e2, if_neg (by decide), if_pos (by omega)]
  exact ⟨_, rfl⟩
theorem diag_law (p n c : Int) : quadformlaw32_LocalmassDiagonal.j2 p n c = some true := by
  obtain ⟨q, e, h1, h2, h3⟩ := diag_same p n c
  simp only [quadformlaw32_LocalmassDiagonal.j2, etaI, etaQ, etaP]
  rw [h1, h2, Option.bind_some, Option.bind_some]
  simp only [cite, beq_self_eq_true, if_true]
  rw [h3, Option.bind_some, if_pos rfl, awake_ok, Option.bind_some]
theorem LocalmassDiagonal (k r : Int) (s : Int × Int × Unit) (d g : Int) (w m : Bool) (hk : 0 ≤ k ∧ k < 256) (hd : 0 ≤ d ∧ d < 256) (hg : 0 ≤ g ∧ g < 256) : quadformlaw32_LocalmassDiagonal k r s d g w m = some true := by
  obtain ⟨p, hp⟩ := scene_some k hk
  unfold quadformlaw32_LocalmassDiagonal
  rw [hp, Option.bind_some]
  simp only [quadformlaw32_LocalmassDiagonal.j1, diag_law]
  cases w <;> cases m <;> rfl
end Go.Proofs.YtgbndganadelpaaGreatDoor.V
/- The package variable 'localmass.free': what the row's condition says of its cells. -/
namespace Go.Proofs.YtgbndganadelpaaGreatDoor.V
open Go Go.Proofs.YtgbndganadelpaaGreatDoor.E Go.ChangeShapes Go.WideShapes
set_option linter.unusedVariables false
set_option maxRecDepth 100000
def freeL : List (Int × Int × Unit) := [(2, 1, ()), (1, 1, ()), (1, 0, ()), (1, -1, ()), (2, -1, ()), (1, -1, ()), (1, 0, ()), (1, 1, ())]
def freeDs : List (DataW Unit) := freeL.map fun z => .agg [.lit (.int .i64 z.1), .lit (.int .i64 z.2.1)]
def freeLaid : List (String × DataW Unit) := [("quadform/localmass.free", .agg freeDs)]
theorem cell_size {W : World} {b o : Nat} {v : Value} (h : W.cell? ⟨b, o, none⟩ = some v) : b < W.heap.size := by
  unfold World.cell? at h
  split at h
  · rename_i c e z hb
    exact (Array.getElem?_eq_some_iff.1 hb).1
  · cases h
theorem free_cells {W : World} (h : laidMetH prog freeLaid W) : GlOk W (fun _ => False) := by
  rw [MakeChecks.laidMetH_plain _ _ _ (by kernel_rfl)] at h
  obtain ⟨ps, ⟨g0, t0, cs0, f0, p0, q0, hg0, ht0, hv0, hd0, _⟩, _⟩ := h
  obtain rfl : g0 = 0 := Option.some.inj (hg0.symm.trans (show prog.globalNamed "quadform/localmass.free" = some 0 by kernel_rfl))
  obtain rfl : t0 = 149 := Option.some.inj (ht0.symm.trans (show (prog.globals[0]?).map (·.type) = some 149 by kernel_rfl))
  have uA : prog.underlying 149 = some (.array 8 148) := by kernel_rfl
  have uE : (match prog.underlying 148 with
    | some (.struct fs) => fs.toList.map fun f => (f.offset, f.type)
    | _ => []) = [(0, 3), (1, 3)] := by kernel_rfl
  have uI : prog.underlying 3 = some (.int .i64) := by kernel_rfl
  have cI : prog.cellsOf 3 = 1 := by kernel_rfl
  have cE : prog.cellsOf 148 = 2 := by kernel_rfl
  obtain ⟨fs, uS, hfs⟩ : ∃ fs : Array Field, prog.underlying 148 = some (.struct fs) ∧ fs.toList.map (fun f => (f.offset, f.type)) = [(0, 3), (1, 3)] := by
    split at uE
    · rename_i fs hfs
      exact ⟨fs, hfs, uE⟩
    · cases uE
  obtain ⟨f1, f2, rfl, o1, t1, o2, t2⟩ : ∃ f1 f2 : Field, fs = #[f1, f2] ∧ f1.offset = 0 ∧ f1.type = 3 ∧ f2.offset = 1 ∧ f2.type = 3 := by
    obtain ⟨l⟩ := fs
    match l, hfs with
    | [a, b], hfs =>
      simp only [List.map_cons, List.map_nil, List.cons.injEq, Prod.mk.injEq] at hfs
      exact ⟨a, b, rfl, hfs.1.1, hfs.1.2, hfs.2.1.1, hfs.2.1.2⟩
  obtain ⟨xs, m1, rfl, hx1, hlen, hn8, hel⟩ := DataW.trod_array uA hd0
  have hxs : xs.map (·.1) = freeDs := by
    have := congrArg Prod.fst hx1
    simpa [freeLaid] using this.symm
  have key : ∀ (i : Nat) (z : Int × Int × Unit), freeL[i]? = some z → W.cell? ⟨0, i * 2, none⟩ = some (.int .i64 z.1) ∧ W.cell? ⟨0, i * 2 + 1, none⟩ = some (.int .i64 z.2.1) := by
    intro i z hz
    have hi : i < 8 := by
      have := (List.getElem?_eq_some_iff.1 hz).1
      exact this
    obtain ⟨p, hp⟩ : ∃ p, xs[i]? = some (.agg [.lit (.int .i64 z.1), .lit (.int .i64 z.2.1)], p) := by
      have h1 : (xs.map (·.1))[i]? = some (.agg [.lit (.int .i64 z.1), .lit (.int .i64 z.2.1)]) := by
        rw [hxs]
        unfold freeDs
        rw [List.getElem?_map, hz]
        rfl
      rw [List.getElem?_map, Option.map_eq_some_iff] at h1
      obtain ⟨y, hy, hy2⟩ := h1
      exact ⟨y.2, by rw [hy, ← hy2]⟩
    have h2 := hel i hi
    rw [hp] at h2
    obtain ⟨y0, y1, n, e, hl, r0, r1⟩ := trod_struct2 uS h2
    rw [t1, cI, o1] at r0
    rw [t2, cI, o2] at r1
    obtain ⟨k0, q1, q2, _⟩ := DataW.trod_int uI r0
    obtain ⟨k1, q3, q4, _⟩ := DataW.trod_int uI r1
    rw [q2, q4] at e
    simp only [Prod.mk.injEq, DataW.agg.injEq, List.cons.injEq, DataW.lit.injEq, Lit.int.injEq, true_and, and_true] at e
    obtain ⟨⟨e0, e1⟩, _⟩ := e
    rw [cE] at q1 q3
    have c0 := World.var?_cell hg0 hv0 (i * 2)
    have c1 := World.var?_cell hg0 hv0 (i * 2 + 1)
    have a0 : cs0[i * 2]? = some (.int .i64 k0) := by
      have := congrArg (fun l => l[0]?) q1
      simp only [List.drop_zero, List.getElem?_take, List.getElem?_drop, List.getElem?_cons_zero] at this
      simpa using this
    have a1 : cs0[i * 2 + 1]? = some (.int .i64 k1) := by
      have := congrArg (fun l => l[0]?) q3
      simp only [List.getElem?_take, List.getElem?_drop, List.getElem?_cons_zero] at this
      simpa using this
    exact ⟨by rw [c0, a0, e0], by rw [c1, a1, e1]⟩
  intro g G hG
  have hgl : gl = [(0, ⟨149, 148, .pair (.int .i64) (.pair (.int .i64) .unit), freeL⟩)] := rfl
  rw [hgl] at hG
  simp only [find] at hG
  have hg : g = 0 := by
    cases h0 : Nat.beq 0 g with
    | true => exact (Nat.eq_of_beq_eq_true h0).symm
    | false => rw [h0] at hG; cases hG
  subst hg
  have hG : G = ⟨149, 148, .pair (.int .i64) (.pair (.int .i64) .unit), freeL⟩ := by cases hG; rfl
  subst hG
  refine ⟨id, cell_size (key 0 _ rfl).1, fun i x hx => ?_⟩
  obtain ⟨k1, k2⟩ := key i x hx
  refine ⟨[.int .i64 x.1, .int .i64 x.2.1], rfl, ?_, [.int .i64 x.1], [.int .i64 x.2.1], rfl, rfl, [.int .i64 x.2.1], [], rfl, rfl, rfl⟩
  intro j u hu
  have hj : j = 0 ∨ j = 1 := by
    have := (List.getElem?_eq_some_iff.1 hu).1
    simp only [List.length_cons, List.length_nil] at this
    omega
  rcases hj with rfl | rfl
  · cases hu; exact k1
  · cases hu; exact k2
end Go.Proofs.YtgbndganadelpaaGreatDoor.V
/- Arguments: an integer (sign, limbs) as_ it comes in; what a contract says at the row's call. -/
namespace Go.Proofs.YtgbndganadelpaaGreatDoor.V
open Go Go.Proofs.YtgbndganadelpaaGreatDoor.E Go.Proofs.YtgbndganadelpaaGreatDoor.LI
open Go.Joins Go.ChangeShapes Go.WideShapes Go.RowKit Go.Deep
set_option linter.unusedVariables false
set_option linter.unusedSimpArgs false
@[reducible] def tyI : Ty := .pair .bool (.pair (.sl (.int .u32)) .unit)
section
variable {H : Type} {enc : TypeId × Value → H} {P : Program} {W : World}
end
/-- The result of a law, and the memory behind it. -/
theorem res_true {n : Nat} {w : World} {F : Nat → Prop} {u : Value} (h : ResN n w F (.v .bool true) u) : u = .bool true := by
  rcases h with (⟨t, x, e, h⟩ | ⟨_, _, _, e, _⟩) | ⟨_, _, _, _, e, _⟩
  · cases e
    exact RepV.bool h
  · cases e
  · cases e
theorem below_of {w w' : World} (h : Same w w') : Below w.heap.size w w' := ⟨h.os, h.tape, h.output, h.size, h.block⟩
theorem wf_u8 {n : Int} (h : (Lit.int .u8 n).wf = true) : 0 ≤ n ∧ n < 256 := by
  simp [Lit.wf, IntKind.min, IntKind.max, IntKind.signed, IntKind.bits] at h
  omega
end Go.Proofs.YtgbndganadelpaaGreatDoor.V
/- Arguments: a struct of two numbers as_ it comes in. -/
namespace Go.Proofs.YtgbndganadelpaaGreatDoor.V
open Go Go.Proofs.YtgbndganadelpaaGreatDoor.E Go.Proofs.YtgbndganadelpaaGreatDoor.LI
open Go.Joins Go.ChangeShapes Go.WideShapes Go.RowKit Go.Deep
set_option linter.unusedVariables false
section
variable {H : Type} {enc : TypeId × Value → H} {P : Program} {W : World}
theorem open_S2 {r : Reach} {b0 : Nat} {t : TypeId} {f0 f1 : Field} {v : Value} {d : DataW H} {p : List MemPlace} (hs : P.underlying t = some (.struct #[f0, f1])) (hone : oneCellFields P #[f0, f1] = true) (hC : P.cellsOf t = 2)
    (h0 : P.underlying f0.type = some (.int .i64)) (h1 : P.underlying f1.type = some (.int .i64)) (hv : Value.okWide P W r b0 t v) (h : DataW.Trod enc P W 0 (fun _ => true) true t v d p) :
    ∃ (a b : Int), RepV W (fun _ => False) (.pair (.int .i64) (.pair (.int .i64) .unit)) (a, b, ()) v ∧ ∀ x ∈ p, x.block < W.heap.size := by
  obtain ⟨v0, v1, y0, y1, n, rfl, rfl, rfl, g0, g1⟩ := open_agg2 hs hone hC hv h
  obtain ⟨a, e1, rfl, _⟩ := DataW.trod_int h0 g0
  obtain ⟨b, e2, rfl, _⟩ := DataW.trod_int h1 g1
  cases e1
  cases e2
  exact ⟨a, b, (if_pos rfl).mpr ⟨_, rfl, [.int .i64 a], [.int .i64 b], rfl, rfl, [.int .i64 b], [], rfl, rfl, rfl⟩, fun x hx => by simp at hx⟩
end
end Go.Proofs.YtgbndganadelpaaGreatDoor.V
