/- Arguments: an integer (sign, limbs) as it comes in; what a contract says at the row's call. -/
import Derived.Test.YtbchgegclgpdhaaN1
import Derived.Lib.SmallJoins
import Derived.Deep.Slices
import Derived.Carry
import Derived.WalkKit
import Derived.Below
namespace Go.Proofs.Ytbchgegclgpdhaa.V
open Go Go.Proofs.Ytbchgegclgpdhaa.E Go.Proofs.Ytbchgegclgpdhaa.LI
open Go.Joins Go.ChangeShapes Go.WideShapes Go.RowKit Go.Deep
set_option linter.unusedVariables false
set_option linter.unusedSimpArgs false

@[reducible] def tyI : Ty := .pair .bool (.pair (.sl (.int .u32)) .unit)
def numOf : Value → Int
  | .int _ n => n
  | _ => 0
theorem wf_u32 {n : Int} (h : (Lit.int .u32 n).wf = true) : 0 ≤ n ∧ n < 4294967296 := by
  simp [Lit.wf, IntKind.min, IntKind.max, IntKind.signed, IntKind.bits] at h
  omega
theorem cell_lt {W : World} {a : Addr} {v : Value} (h : W.cell? a = some v) : a.block < W.heap.size ∧ a.spot = none := by
  unfold World.cell? at h
  split at h
  · rename_i c e z hb
    split at h
    · cases h
    · rename_i h9
      exact ⟨(Array.getElem?_eq_some_iff.1 hb).1, by simpa using h9⟩
  · cases h
theorem add_block (a : Addr) (n : Nat) : (a.add n).block = a.block := by unfold Addr.add; split <;> rfl
section
variable {H : Type} {enc : TypeId × Value → H} {P : Program} {W : World}
theorem open_I {r : Reach} {b0 : Nat} {t e : TypeId} {f0 f1 : Field} {v : Value} {d : DataW H} {p : List MemPlace} (hs : P.underlying t = some (.struct #[f0, f1])) (hone : oneCellFields P #[f0, f1] = true) (hC : P.cellsOf t = 2)
    (h0 : P.underlying f0.type = some .bool) (h1 : P.underlying f1.type = some (.slice e)) (hcE : P.cellsOf e = 1) (hE : P.underlying e = some (.int .u32)) (hv : Value.okWide P W r b0 t v) (h : DataW.Trod enc P W 0 (fun _ => true) true t v d p) :
    ∃ (s : Bool) (l : List Int), RepV W (fun _ => False) tyI (s, l, ()) v ∧ Lim l ∧ ∀ x ∈ p, x.block < W.heap.size := by
  obtain ⟨v0, v1, y0, y1, n, rfl, rfl, rfl, g0, g1⟩ := open_agg2 hs hone hC hv h
  obtain ⟨s, e1, rfl⟩ := DataW.trod_bool h0 g0
  cases e1
  rcases open_slice1 h1 hcE g1 with ⟨e2, rfl⟩ | ⟨a, len, cap, m, n', V, D, Pl, e2, hb, hl, hm, hmm, rfl, hx⟩
  · cases e2
    refine ⟨s, [], ?_, Lim.nil, fun x hx => by simp at hx⟩
    refine (if_pos rfl).mpr ⟨_, rfl, [.bool s], [.slice none 0 0], rfl, rfl, [.slice none 0 0], [], rfl, ⟨none, 0, rfl, Nat.le_refl _, fun i x hx => by simp at hx⟩, rfl⟩
  · cases e2
    simp only [if_true] at hmm
    subst hmm
    have hV : ∀ i, i < m → ∃ k : Int, V i = .int .u32 k ∧ Pl i = [] ∧ 0 ≤ k ∧ k < 4294967296 := fun i hi => by
      obtain ⟨k, q1, q2, q3⟩ := DataW.trod_int hE (hx i hi).2
      exact ⟨k, (List.cons.inj q1).1, by simpa using congrArg Prod.snd q2, wf_u32 q3⟩
    refine ⟨s, (List.range len).map fun i => numOf (V i), ?_, ?_, ?_⟩
    · refine (if_pos rfl).mpr ⟨_, rfl, [.bool s], [.slice (some a) len m], rfl, rfl, [.slice (some a) len m], [], rfl, ⟨some a, m, by simp, by simpa using hl, fun i x hi => ?_⟩, rfl⟩
      simp only [List.getElem?_map, Option.map_eq_some_iff] at hi
      obtain ⟨j, hj, rfl⟩ := hi
      obtain ⟨hlt, rfl⟩ := List.getElem?_eq_some_iff.1 hj
      simp only [List.length_range] at hlt
      simp only [List.getElem_range] at *
      obtain ⟨k, q1, q2, q3⟩ := hV i (by omega)
      have hc := (hx i (by omega)).1
      have hc0 := (hx 0 (by omega)).1
      obtain ⟨ab, ao, asp⟩ := a
      obtain ⟨hblk, hsp⟩ := cell_lt hc0
      have hsp : asp = none := hsp
      subst hsp
      have hblk : ab < W.heap.size := hblk
      refine ⟨ab, ao, [V i], rfl, id, hblk, ?_, by rw [q1]; rfl⟩
      intro j u hu
      cases j with
      | zero =>
        cases hu
        have e3 : (⟨ab, ao, none⟩ : Addr).add i = ⟨ab, ao + i, none⟩ := by
          unfold Addr.add
          split
          · rename_i h9; subst h9; rfl
          · rfl
        rw [e3] at hc
        simpa [Ty.size] using hc
      | succ j => cases hu
    · intro x hx'
      simp only [List.mem_map, List.mem_range] at hx'
      obtain ⟨i, hi, rfl⟩ := hx'
      obtain ⟨k, q1, _, q3⟩ := hV i (by omega)
      rw [q1]
      exact q3
    · intro x hx'
      simp only [List.nil_append, List.mem_append, List.mem_flatMap, List.mem_range] at hx'
      rcases hx' with hx' | ⟨i, hi, hx'⟩
      · obtain ⟨i, hi, rfl⟩ := MemPlace.mem_row.1 hx'
        have := (cell_lt (hx 0 (by omega)).1).1
        rw [add_block] at this
        exact this
      · obtain ⟨k, _, q2, _⟩ := hV i hi
        rw [q2] at hx'
        cases hx'
end
/-- The result of a law, and the memory behind it. -/
theorem res_true {n : Nat} {w : World} {F : Nat → Prop} {u : Value} (h : ResN n w F (.v .bool true) u) : u = .bool true := by
  rcases h with (⟨t, x, e, h⟩ | ⟨_, _, _, e, _⟩) | ⟨_, _, _, _, e, _⟩
  · cases e
    exact RepV.bool h
  · cases e
  · cases e
theorem below_of {w w' : World} (h : Same w w') : Below w.heap.size w w' := ⟨h.os, h.tape, h.output, h.size, h.block⟩
theorem wf_i32 {n : Int} (h : (Lit.int .i32 n).wf = true) : -2147483648 ≤ n ∧ n ≤ 2147483647 := by
  simp [Lit.wf, IntKind.min, IntKind.max, IntKind.signed, IntKind.bits] at h
  omega
theorem wf_i64 {n : Int} (h : (Lit.int .i64 n).wf = true) : -9223372036854775808 ≤ n ∧ n ≤ 9223372036854775807 := by
  simp [Lit.wf, IntKind.min, IntKind.max, IntKind.signed, IntKind.bits] at h
  omega
theorem wf_u8 {n : Int} (h : (Lit.int .u8 n).wf = true) : 0 ≤ n ∧ n < 256 := by
  simp [Lit.wf, IntKind.min, IntKind.max, IntKind.signed, IntKind.bits] at h
  omega
theorem wf_i16 {n : Int} (h : (Lit.int .i16 n).wf = true) : -32768 ≤ n ∧ n ≤ 32767 := by
  simp [Lit.wf, IntKind.min, IntKind.max, IntKind.signed, IntKind.bits] at h
  omega
end Go.Proofs.Ytbchgegclgpdhaa.V
