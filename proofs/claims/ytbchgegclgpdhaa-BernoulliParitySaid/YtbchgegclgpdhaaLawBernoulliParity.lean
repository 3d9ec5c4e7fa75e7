/- BernoulliParity: the row. -/
import Derived.Test.YtbchgegclgpdhaaRows
import Derived.Test.YtbchgegclgpdhaaYBernoulliParity17
import Derived.WalkKit
import Derived.ProofKit
import Derived.OpenShut
import Derived.ShutString
import Derived.ChangeOld
import Derived.Below
import Derived.SizedLaws
import Derived.Carry
namespace Go.Proofs.Ytbchgegclgpdhaa.bernoulliParity
open Go.ChangeShapes Go.WideShapes Go.ChangeAt Go.RowKit
open Go.ChangeMaps (open_string shut_string)
set_option linter.unusedVariables false
theorem own : ownKnob Try.prog.godebug = none := by kernel_rfl
set_option maxRecDepth 100000 in
theorem lifted (os : Os) (started : os.Started) (H : Type) (enc : TypeId × Value → H) :
    ReturnsInHanded {} Try.checked os 7 .any (Rows.bernoulliParitySpec.pre6 enc Try.prog Try.f7 Rows.bernoulliParityRow.domain false) (Rows.bernoulliParitySpec.post enc Try.prog Try.f7 false true false false) := by
  refine returnsInHanded_of_change_sized (C := Try.checked) own started (by kernel_rfl) Try.func7
    (ChangeSpec.witness6 (enc := enc) (C := Try.checked) false ⟨#[], #[.int .u8 0, .int .i16 0], []⟩ 8 (by kernel_rfl) (by kernel_rfl) (by kernel_rfl) (by kernel_rfl)) ?_
  intro W base args ds gs before hval0 hW hcnd hsz0 _
  have hsz : (DataW.weightsEach Try.prog (Try.f7.params.toList ++ Rows.bernoulliParitySpec.plain.varTypes Try.prog) (ds ++ gs)).all (· ≤ reachBytes) = true := hsz0
  have hval : ∀ (j : Nat) t v, Try.f7.params[j]? = some t → args[j]? = some v → Value.okWide Try.prog W .any base t v := hval0
  have hW' := hW
  obtain ⟨p, q, hA0, hV, rfl, hfz, hnd⟩ := hW
  have hA : DataW.TrodAll enc Try.prog W 0 (fun _ => true) true Try.f7.params.toList args.toList ds p := hA0
  rw [Try.params7] at hA hval hsz
  obtain ⟨v0, vs0, d0, ds0, p0, q0, hargs, rfl, rfl, h0, r0⟩ := trodAll_cons hA
  obtain ⟨v1, vs1, d1, ds1, p1, q1, rfl, rfl, rfl, h1, r1⟩ := trodAll_cons r0
  obtain ⟨rfl, rfl, rfl⟩ := trodAll_nil r1
  obtain rfl : args = #[v0, v1] := by cases args; simp_all
  obtain ⟨rfl, rfl⟩ := trodVars_none hV
  obtain ⟨a0, rfl, rfl, rfl, w0⟩ := open_int Try.underlying5 (hval 0 5 v0 rfl rfl) h0
  obtain ⟨a1, rfl, rfl, rfl, w1⟩ := open_int Try.underlying38 (hval 1 38 v1 rfl rfl) h1
  clear hA0 hval0 hsz0 hsz
  refine ((E.quadformlaw31_BernoulliParity.ok (a0, a1, ()) true (V.BernoulliParity a0 a1 (V.wf_u8 w0) (V.wf_i16 w1))) W #[.int .u8 a0, .int .i16 a1] (fun _ => False) (fun _ h => h.elim)
    ⟨_, _, rfl, ⟨_, _, rfl, E.RepV.mk_int _ _ _ _⟩, _, _, rfl, ⟨_, _, rfl, E.RepV.mk_int _ _ _ _⟩, rfl⟩).mono fun e W' ⟨u, he, hr, hsame⟩ => ?_
  subst he
  have hu := V.res_true hr
  subst hu
  have bel := V.below_of hsame
  exact ⟨_, rfl, _, _, _, [], _, [], hW', trodAll_mk1 (shut_bool Try.underlying4 _), (trodAll_cons_mk (shut_int Try.underlying5 w0) (trodAll_cons_mk (shut_int Try.underlying38 w1) trodAll_mk0)), rfl, bel.frame _, fun h => by cases h⟩
theorem over : Rows.bernoulliParityRow.holds Try.pinned (OpenSpec.ofChange Rows.bernoulliParitySpec) :=
  OpenClaim.holds_of_wide 7 Try.f7 rfl rfl rfl rfl rfl rfl rfl ⟨rfl, rfl, rfl, rfl, rfl⟩ rfl rfl rfl rfl rfl (by kernel_rfl) Try.func7 (by kernel_rfl)
    (of_decide_eq_true (by kernel_rfl)) (by unfold Func.isWrapper; first | (rw [if_pos (by decide +kernel)]; kernel_rfl) | (rw [if_neg (by decide +kernel)]; exact ⟨rfl, rfl⟩))
    (fun os started H enc _ => lifted os started H enc)
theorem proved : Rows.BernoulliParitySaid := over
#print axioms proved
end Go.Proofs.Ytbchgegclgpdhaa.bernoulliParity
namespace Go.Proofs.Ytbchgegclgpdhaa
/-- The row, under a short name, for the claim. -/
theorem bernoulliParity_holds : Rows.BernoulliParitySaid := bernoulliParity.proved
end Go.Proofs.Ytbchgegclgpdhaa
