/- Chapter 32: the closed values. -/
import Derived.Test.YtgbndganadelpaaDoorYLocalmassPairs15
import Derived.Test.YtgbndganadelpaaDoorYLocalmassPairs13
import Derived.Test.YtgbndganadelpaaDoorYLocalmassPairs7
import Derived.LaidLaws
import Derived.LaidMore
import Derived.MakeChecks
import Derived.OpenShut
import Derived.ChangeSame
import Derived.KernelRfl
import Derived.Test.YtgbndganadelpaaDoorYLocalmassPairs10
import Derived.Lib.SmallJoins
import Derived.Deep.Slices
import Derived.Carry
import Derived.WalkKit
import Derived.Below
namespace Go.Proofs.YtgbndganadelpaaDoor.V
open Go Go.Proofs.YtgbndganadelpaaDoor.E
theorem awake_ok : quadformlaw32_awake = some true := c_quadformlaw32_awake.le 300 true (by kernel_rfl)
end Go.Proofs.YtgbndganadelpaaDoor.V
/- LocalmassPairs: the law. -/
namespace Go.Proofs.YtgbndganadelpaaDoor.V
open Go Go.Proofs.YtgbndganadelpaaDoor.E Go.Proofs.YtgbndganadelpaaDoor.LI Go.Proofs.YtgbndganadelpaaDoor.Num
set_option linter.unusedVariables false
set_option linter.unusedSimpArgs false
def oddp (a : Nat) : Nat := [3, 5, 7, 11, 13, 17, 19, 23].getD a 0
theorem oddp_tab : ∀ a : Fin 8, c_localmass_known 300 (oddp a.val : Int) = some true ∧ 2 ≤ oddp a.val ∧ oddp a.val ≤ 23 ∧ quadformscene_OddPrime (a.val : Int) = some (oddp a.val : Int) := by decide +kernel
theorem pairs_tab : ∀ a : Fin 8, ∀ b : Fin 4, (hf (oddp a.val) (b.val + 1) 1 * hf (oddp a.val) (b.val + 1) (-1) - hf (oddp a.val) (b.val + 1) 0 * hf (oddp a.val) (b.val + 2) 0).num = 0 := by decide +kernel
theorem LocalmassPairs (k s : Int) (hk : 0 ≤ k ∧ k < 256) (hs : 0 ≤ s ∧ s < 256) : quadformlaw32_LocalmassPairs k s = some true := by
  obtain ⟨a, rfl⟩ : ∃ n : Nat, k = n := ⟨k.toNat, by omega⟩
  obtain ⟨b, rfl⟩ : ∃ n : Nat, s = n := ⟨s.toNat, by omega⟩
  have ha : a % 8 < 8 := Nat.mod_lt _ (by decide)
  have hb : b % 4 < 4 := Nat.mod_lt _ (by decide)
  have e1 : Int.tmod (a : Int) 8 = ((a % 8 : Nat) : Int) := (Int.ofNat_tmod a 8).symm
  have e1' : Int.tmod ((a % 8 : Nat) : Int) 8 = ((a % 8 : Nat) : Int) := by
    rw [show Int.tmod ((a % 8 : Nat) : Int) 8 = ((a % 8 % 8 : Nat) : Int) from (Int.ofNat_tmod _ 8).symm, Nat.mod_mod]
  have ho : quadformscene_OddPrime (a : Int) = quadformscene_OddPrime ((a % 8 : Nat) : Int) := by
    unfold quadformscene_OddPrime
    rw [e1, e1']
  obtain ⟨t1, t2, t3, t4⟩ := oddp_tab ⟨a % 8, ha⟩
  have t4 : quadformscene_OddPrime ((a % 8 : Nat) : Int) = some (oddp (a % 8) : Int) := t4
  have hpt := pairs_tab ⟨a % 8, ha⟩ ⟨b % 4, hb⟩
  simp only at t1 t2 t3 hpt
  rw [← ho] at t4
  generalize oddp (a % 8) = p at *
  have hkn := c_localmass_known.le 300 _ _ t1
  have e2 : Int.tmod (b : Int) 4 = ((b % 4 : Nat) : Int) := (Int.ofNat_tmod b 4).symm
  generalize b % 4 = m at *
  have e3 : IntKind.wrap .i64 ((2 : Int) + IntKind.wrap .i64 (2 * (m : Int))) = ((2 * m + 2 : Nat) : Int) := by
    rw [wi64 (x := 2 * (m : Int)) (by omega) (by omega), wi64 (by omega) (by omega)]; omega
  have e4 : IntKind.wrap .i64 (((2 * m + 2 : Nat) : Int) - 1) = ((2 * m + 1 : Nat) : Int) := by rw [wi64 (by omega) (by omega)]; omega
  have e5 : IntKind.wrap .i64 (((2 * m + 2 : Nat) : Int) + 1) = ((2 * m + 3 : Nat) : Int) := by rw [wi64 (by omega) (by omega)]; omega
  have d1 := diag_ok (n := 2 * m + 2) (c := 1) hkn t2 (by omega) (by omega) (by omega) (.inr ⟨by omega, .inl rfl⟩)
  have d2 := diag_ok (n := 2 * m + 2) (c := -1) hkn t2 (by omega) (by omega) (by omega) (.inr ⟨by omega, .inr rfl⟩)
  have d3 := diag_ok (n := 2 * m + 1) (c := 0) hkn t2 (by omega) (by omega) (by omega) (.inl ⟨by omega, rfl⟩)
  have d4 := diag_ok (n := 2 * m + 3) (c := 0) hkn t2 (by omega) (by omega) (by omega) (.inl ⟨by omega, rfl⟩)
  rw [show (2 * m + 2 + 1) / 2 = m + 1 by omega] at d1 d2
  rw [show (2 * m + 1 + 1) / 2 = m + 1 by omega] at d3
  rw [show (2 * m + 3 + 1) / 2 = m + 2 by omega] at d4
  have b1 := hf_bd (p := p) (s := m + 1) (c := 1) (by omega) (by omega) (by decide)
  have b2 := hf_bd (p := p) (s := m + 1) (c := -1) (by omega) (by omega) (by decide)
  have b3 := hf_bd (p := p) (s := m + 1) (c := 0) (by omega) (by omega) (by decide)
  have b4 := hf_bd (p := p) (s := m + 2) (c := 0) (by omega) (by omega) (by decide)
  have heq : hf p (m + 1) 1 * hf p (m + 1) (-1) = hf p (m + 1) 0 * hf p (m + 2) 0 := by
    have := Rat.num_eq_zero.1 hpt
    generalize hf p (m + 1) 1 * hf p (m + 1) (-1) = u at this ⊢
    generalize hf p (m + 1) 0 * hf p (m + 2) 0 = v at this ⊢
    grind
  unfold quadformlaw32_LocalmassPairs
  simp only [etaI, etaQ, etaP]
  rw [t4, Option.bind_some, wi64 (x := (b : Int)) (by omega) (by omega), e2, e3, e4, e5, d1, Option.bind_some, d2, Option.bind_some, d3, Option.bind_some, d4, Option.bind_some]
  simp only [cite, beq_self_eq_true, if_true, beq_iff_eq]
  rw [qmul b1 b2 (by decide), Option.bind_some, qmul b3 b4 (by decide), Option.bind_some, qcmp (b1.mul b2) (b3.mul b4) (by decide), if_pos heq, Option.bind_some, if_pos rfl, awake_ok, Option.bind_some]
end Go.Proofs.YtgbndganadelpaaDoor.V
/- The package variable 'localmass.free': what the row's condition says of its cells. -/
namespace Go.Proofs.YtgbndganadelpaaDoor.V
open Go Go.Proofs.YtgbndganadelpaaDoor.E Go.ChangeShapes Go.WideShapes
set_option linter.unusedVariables false
set_option maxRecDepth 100000
def freeL : List (Int × Int × Unit) := [(2, 1, ()), (1, 1, ()), (1, 0, ()), (1, -1, ()), (2, -1, ()), (1, -1, ()), (1, 0, ()), (1, 1, ())]
def freeDs : List (DataW Unit) := freeL.map fun z => .agg [.lit (.int .i64 z.1), .lit (.int .i64 z.2.1)]
def freeLaid : List (String × DataW Unit) := [("quadform/localmass.free", .agg freeDs)]
theorem cell_size {W : World} {b o : Nat} {v : Value} (h : W.cell? ⟨b, o, none⟩ = some v) : b < W.heap.size := by
  unfold World.cell? at h
  split at h
  · rename_i c e z hb
    exact (Array.getElem?_eq_some_iff.1 hb).1
  · cases h
theorem free_cells {W : World} (h : laidMetH prog freeLaid W) : GlOk W (fun _ => False) := by
  rw [MakeChecks.laidMetH_plain _ _ _ (by kernel_rfl)] at h
  obtain ⟨ps, ⟨g0, t0, cs0, f0, p0, q0, hg0, ht0, hv0, hd0, _⟩, _⟩ := h
  obtain rfl : g0 = 0 := Option.some.inj (hg0.symm.trans (show prog.globalNamed "quadform/localmass.free" = some 0 by kernel_rfl))
  obtain rfl : t0 = 87 := Option.some.inj (ht0.symm.trans (show (prog.globals[0]?).map (·.type) = some 87 by kernel_rfl))
  have uA : prog.underlying 87 = some (.array 8 86) := by kernel_rfl
  have uE : (match prog.underlying 86 with
    | some (.struct fs) => fs.toList.map fun f => (f.offset, f.type)
    | _ => []) = [(0, 3), (1, 3)] := by kernel_rfl
  have uI : prog.underlying 3 = some (.int .i64) := by kernel_rfl
  have cI : prog.cellsOf 3 = 1 := by kernel_rfl
  have cE : prog.cellsOf 86 = 2 := by kernel_rfl
  obtain ⟨fs, uS, hfs⟩ : ∃ fs : Array Field, prog.underlying 86 = some (.struct fs) ∧ fs.toList.map (fun f => (f.offset, f.type)) = [(0, 3), (1, 3)] := by
    split at uE
    · rename_i fs hfs
      exact ⟨fs, hfs, uE⟩
    · cases uE
  obtain ⟨f1, f2, rfl, o1, t1, o2, t2⟩ : ∃ f1 f2 : Field, fs = #[f1, f2] ∧ f1.offset = 0 ∧ f1.type = 3 ∧ f2.offset = 1 ∧ f2.type = 3 := by
    obtain ⟨l⟩ := fs
    match l, hfs with
    | [a, b], hfs =>
      simp only [List.map_cons, List.map_nil, List.cons.injEq, Prod.mk.injEq] at hfs
      exact ⟨a, b, rfl, hfs.1.1, hfs.1.2, hfs.2.1.1, hfs.2.1.2⟩
  obtain ⟨xs, m1, rfl, hx1, hlen, hn8, hel⟩ := DataW.trod_array uA hd0
  have hxs : xs.map (·.1) = freeDs := by
    have := congrArg Prod.fst hx1
    simpa [freeLaid] using this.symm
  have key : ∀ (i : Nat) (z : Int × Int × Unit), freeL[i]? = some z → W.cell? ⟨0, i * 2, none⟩ = some (.int .i64 z.1) ∧ W.cell? ⟨0, i * 2 + 1, none⟩ = some (.int .i64 z.2.1) := by
    intro i z hz
    have hi : i < 8 := by
      have := (List.getElem?_eq_some_iff.1 hz).1
      exact this
    obtain ⟨p, hp⟩ : ∃ p, xs[i]? = some (.agg [.lit (.int .i64 z.1), .lit (.int .i64 z.2.1)], p) := by
      have h1 : (xs.map (·.1))[i]? = some (.agg [.lit (.int .i64 z.1), .lit (.int .i64 z.2.1)]) := by
        rw [hxs]
        unfold freeDs
        rw [List.getElem?_map, hz]
        rfl
      rw [List.getElem?_map, Option.map_eq_some_iff] at h1
      obtain ⟨y, hy, hy2⟩ := h1
      exact ⟨y.2, by rw [hy, ← hy2]⟩
    have h2 := hel i hi
    rw [hp] at h2
    obtain ⟨y0, y1, n, e, hl, r0, r1⟩ := trod_struct2 uS h2
    rw [t1, cI, o1] at r0
    rw [t2, cI, o2] at r1
    obtain ⟨k0, q1, q2, _⟩ := DataW.trod_int uI r0
    obtain ⟨k1, q3, q4, _⟩ := DataW.trod_int uI r1
    rw [q2, q4] at e
    simp only [Prod.mk.injEq, DataW.agg.injEq, List.cons.injEq, DataW.lit.injEq, Lit.int.injEq, true_and, and_true] at e
    obtain ⟨⟨e0, e1⟩, _⟩ := e
    rw [cE] at q1 q3
    have c0 := World.var?_cell hg0 hv0 (i * 2)
    have c1 := World.var?_cell hg0 hv0 (i * 2 + 1)
    have a0 : cs0[i * 2]? = some (.int .i64 k0) := by
      have := congrArg (fun l => l[0]?) q1
      simp only [List.drop_zero, List.getElem?_take, List.getElem?_drop, List.getElem?_cons_zero] at this
      simpa using this
    have a1 : cs0[i * 2 + 1]? = some (.int .i64 k1) := by
      have := congrArg (fun l => l[0]?) q3
      simp only [List.getElem?_take, List.getElem?_drop, List.getElem?_cons_zero] at this
      simpa using this
    exact ⟨by rw [c0, a0, e0], by rw [c1, a1, e1]⟩
  intro g G hG
  have hgl : gl = [(0, ⟨87, 86, .pair (.int .i64) (.pair (.int .i64) .unit), freeL⟩)] := rfl
  rw [hgl] at hG
  simp only [find] at hG
  have hg : g = 0 := by
    cases h0 : Nat.beq 0 g with
    | true => exact (Nat.eq_of_beq_eq_true h0).symm
    | false => rw [h0] at hG; cases hG
  subst hg
  have hG : G = ⟨87, 86, .pair (.int .i64) (.pair (.int .i64) .unit), freeL⟩ := by cases hG; rfl
  subst hG
  refine ⟨id, cell_size (key 0 _ rfl).1, fun i x hx => ?_⟩
  obtain ⟨k1, k2⟩ := key i x hx
  refine ⟨[.int .i64 x.1, .int .i64 x.2.1], rfl, ?_, [.int .i64 x.1], [.int .i64 x.2.1], rfl, rfl, [.int .i64 x.2.1], [], rfl, rfl, rfl⟩
  intro j u hu
  have hj : j = 0 ∨ j = 1 := by
    have := (List.getElem?_eq_some_iff.1 hu).1
    simp only [List.length_cons, List.length_nil] at this
    omega
  rcases hj with rfl | rfl
  · cases hu; exact k1
  · cases hu; exact k2
end Go.Proofs.YtgbndganadelpaaDoor.V
/- Arguments: an integer (sign, limbs) as_ it comes in; what a contract says at the row's call. -/
namespace Go.Proofs.YtgbndganadelpaaDoor.V
open Go Go.Proofs.YtgbndganadelpaaDoor.E Go.Proofs.YtgbndganadelpaaDoor.LI
open Go.Joins Go.ChangeShapes Go.WideShapes Go.RowKit Go.Deep
set_option linter.unusedVariables false
set_option linter.unusedSimpArgs false
@[reducible] def tyI : Ty := .pair .bool (.pair (.sl (.int .u32)) .unit)
section
variable {H : Type} {enc : TypeId × Value → H} {P : Program} {W : World}
end
/-- The result of a law, and the memory behind it. -/
theorem res_true {n : Nat} {w : World} {F : Nat → Prop} {u : Value} (h : ResN n w F (.v .bool true) u) : u = .bool true := by
  rcases h with (⟨t, x, e, h⟩ | ⟨_, _, _, e, _⟩) | ⟨_, _, _, _, e, _⟩
  · cases e
    exact RepV.bool h
  · cases e
  · cases e
theorem below_of {w w' : World} (h : Same w w') : Below w.heap.size w w' := ⟨h.os, h.tape, h.output, h.size, h.block⟩
theorem wf_u8 {n : Int} (h : (Lit.int .u8 n).wf = true) : 0 ≤ n ∧ n < 256 := by
  simp [Lit.wf, IntKind.min, IntKind.max, IntKind.signed, IntKind.bits] at h
  omega
end Go.Proofs.YtgbndganadelpaaDoor.V
