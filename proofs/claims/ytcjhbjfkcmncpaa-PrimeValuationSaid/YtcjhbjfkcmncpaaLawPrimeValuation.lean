/- PrimeValuation: the row. -/
import Derived.Test.YtcjhbjfkcmncpaaRows
import Derived.Test.YtcjhbjfkcmncpaaV1
import Derived.Test.YtcjhbjfkcmncpaaOP
import Derived.WalkKit
import Derived.ProofKit
import Derived.OpenShut
import Derived.ShutString
import Derived.ChangeOld
import Derived.Below
import Derived.SizedLaws
import Derived.Carry
namespace Go.Proofs.Ytcjhbjfkcmncpaa.primeValuation
open Go.ChangeShapes Go.WideShapes Go.ChangeAt Go.RowKit
open Go.ChangeMaps (open_string shut_string)
set_option linter.unusedVariables false
theorem own : ownKnob Try.prog.godebug = none := by kernel_rfl
set_option maxRecDepth 100000 in
theorem lifted (os : Os) (started : os.Started) (H : Type) (enc : TypeId × Value → H) :
    ReturnsInHanded {} Try.checked os 14 .any (Rows.primeValuationSpec.pre6 enc Try.prog Try.f14 Rows.primeValuationRow.domain false) (Rows.primeValuationSpec.post enc Try.prog Try.f14 false true false false) := by
  refine returnsInHanded_of_change_sized (C := Try.checked) own started (by kernel_rfl) Try.func14
    (ChangeSpec.witness6 (enc := enc) (C := Try.checked) false ⟨#[], #[.agg #[.bool false, .slice none 0 0], .int .u8 0, .int .i64 0, .bool false], []⟩ 8 (by kernel_rfl) (by kernel_rfl) (by kernel_rfl) (by kernel_rfl)) ?_
  intro W base args ds gs before hval0 hW hcnd hsz0 _
  have hsz : (DataW.weightsEach Try.prog (Try.f14.params.toList ++ Rows.primeValuationSpec.plain.varTypes Try.prog) (ds ++ gs)).all (· ≤ reachBytes) = true := hsz0
  have hval : ∀ (j : Nat) t v, Try.f14.params[j]? = some t → args[j]? = some v → Value.okWide Try.prog W .any base t v := hval0
  have hW' := hW
  obtain ⟨p, q, hA0, hV, rfl, hfz, hnd⟩ := hW
  have hA : DataW.TrodAll enc Try.prog W 0 (fun _ => true) true Try.f14.params.toList args.toList ds p := hA0
  rw [Try.params14] at hA hval hsz
  obtain ⟨v0, vs0, d0, ds0, p0, q0, hargs, rfl, rfl, h0, r0⟩ := trodAll_cons hA
  obtain ⟨v1, vs1, d1, ds1, p1, q1, rfl, rfl, rfl, h1, r1⟩ := trodAll_cons r0
  obtain ⟨v2, vs2, d2, ds2, p2, q2, rfl, rfl, rfl, h2, r2⟩ := trodAll_cons r1
  obtain ⟨v3, vs3, d3, ds3, p3, q3, rfl, rfl, rfl, h3, r3⟩ := trodAll_cons r2
  obtain ⟨rfl, rfl, rfl⟩ := trodAll_nil r3
  obtain rfl : args = #[v0, v1, v2, v3] := by cases args; simp_all
  obtain ⟨rfl, rfl⟩ := trodVars_none hV
  obtain ⟨s0, l0, rep0, lim0, pl0⟩ := V.open_I Try.underlying40 (by kernel_rfl) (by kernel_rfl) Try.underlying4 Try.underlying38 (by kernel_rfl) Try.underlying69 (hval 0 40 v0 rfl rfl) h0
  obtain ⟨a1, rfl, rfl, rfl, w1⟩ := open_int Try.underlying5 (hval 1 5 v1 rfl rfl) h1
  obtain ⟨a2, rfl, rfl, rfl, w2⟩ := open_int Try.underlying2 (hval 2 2 v2 rfl rfl) h2
  obtain ⟨a3, rfl, rfl, rfl⟩ := open_bool Try.underlying4 (hval 3 4 v3 rfl rfl) h3
  clear hA0 hval0 hsz0 hsz
  have b1 := V.wf_u8 w1
  refine ((E.quadformlaw22_PrimeValuation.ok ((s0, l0, ()), a1, a2, a3, ()) true (V.PrimeValuation lim0 b1.1 b1.2)) W #[v0, .int .u8 a1, .int .i64 a2, .bool a3] (fun _ => False) (fun _ h => h.elim)
    ⟨_, _, rfl, ⟨_, _, rfl, rep0⟩, _, _, rfl, ⟨_, _, rfl, E.RepV.mk_int _ _ _ _⟩, _, _, rfl, ⟨_, _, rfl, E.RepV.mk_int _ _ _ _⟩, _, _, rfl, ⟨_, _, rfl, E.RepV.mk_bool _ _ _⟩, rfl⟩).mono fun e W' ⟨u, he, hr, hsame⟩ => ?_
  subst he
  have hu := V.res_true hr
  subst hu
  have bel := V.below_of hsame
  exact ⟨_, rfl, _, _, _, [], _, [], hW', trodAll_mk1 (shut_bool Try.underlying4 _), (trodAll_cons_mk (Below.trod (by kernel_rfl) (by kernel_rfl) (by decide +kernel) h0 bel pl0) (trodAll_cons_mk (shut_int Try.underlying5 w1) (trodAll_cons_mk (shut_int Try.underlying2 w2) (trodAll_cons_mk (shut_bool Try.underlying4 _) trodAll_mk0)))), rfl, bel.frame _, fun h => by cases h⟩
theorem over : Rows.primeValuationRow.holds Try.pinned (OpenSpec.ofChange Rows.primeValuationSpec) :=
  OpenClaim.holds_of_wide 14 Try.f14 rfl rfl rfl rfl rfl rfl rfl ⟨rfl, rfl, rfl, rfl, rfl⟩ rfl rfl rfl rfl rfl (by kernel_rfl) Try.func14 (by kernel_rfl)
    (of_decide_eq_true (by kernel_rfl)) (by unfold Func.isWrapper; first | (rw [if_pos (by decide +kernel)]; kernel_rfl) | (rw [if_neg (by decide +kernel)]; exact ⟨rfl, rfl⟩))
    (fun os started H enc _ => lifted os started H enc)
theorem proved : Rows.PrimeValuationSaid := over
#print axioms proved
end Go.Proofs.Ytcjhbjfkcmncpaa.primeValuation
namespace Go.Proofs.Ytcjhbjfkcmncpaa
/-- The row, under a short name, for the claim. -/
theorem primeValuation_holds : Rows.PrimeValuationSaid := primeValuation.proved
end Go.Proofs.Ytcjhbjfkcmncpaa
