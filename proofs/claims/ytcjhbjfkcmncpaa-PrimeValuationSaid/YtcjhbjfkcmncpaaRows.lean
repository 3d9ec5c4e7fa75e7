/-
  No cell of these rows narrows 'for every input' (looked for: loops, veiled, ifaces, maps, wideKeys, modest, calm, conditions, laid).
  DERIVED. THE GIVEN ROWS OF THIS SEAT. 12 by the template 'for every input the law returns true; each argument reads behind the call as it read before'; 0 by the template 'total and deterministic' (their statements: YtcjhbjfkcmncpaaTotals.lean).
  GIVEN WITH THE SEED: the statements are not yours to turn. If you find one false, say at which input.
  Laid BY PROGRAM, IN A SANDBOX (cutbox-rows.mjs): the forced cells as the released guide's own fill.sh prints them over the translation 95e889b8bf0970c6… (all of the seat's roots in one cut). By AI agents, Wed Nov 11 2026. No macro, syntax, notation, axiom, sorry.
-/
import Derived.Test.YtcjhbjfkcmncpaaChecked
import GoSem.Claim
import GoSem.ClaimJoined
import GoSem.ClaimMapViews
import Derived.JoinedTies
import Derived.KernelRfl
namespace Go.Proofs.Ytcjhbjfkcmncpaa
/- THE CELL 'sum', in the pinned program and in every row, IS THE sha256 OF THE DUMP (.gsa) THAT YtcjhbjfkcmncpaaProg.lean LOADS. Nothing in Lean hashes anything: it is a label: what it is worth is what the hold of that sum in a sandbox is worth. -/
noncomputable def Try.pinned : Pinned := { name := "ytcjhbjfkcmncpaa", sum := "95e889b8bf0970c6b2645e47278d27526c3ea402dd3992278424fc09ca0d1d42", checked := Try.checked }
namespace Rows
def none {H : Type} : Left H := { results := [], args := [] }

/-- 'quadformlaw22.PrimeIs': WHATEVER THE INPUT: true; the input reads as it did. -/
def primeIsSpec : ChangeSpec := { name := "primeIs", fn := fun _ => fun
  | [d] => { results := [.lit (.bool true)], args := [d] }
  | _ => none }
def primeIsRow : OpenClaim := { program := "ytcjhbjfkcmncpaa", sum := "95e889b8bf0970c6b2645e47278d27526c3ea402dd3992278424fc09ca0d1d42", func := "quadform/quadformlaw22.PrimeIs", spec := "primeIs", apart := false }
def PrimeIsSaid : Prop := primeIsRow.holds Try.pinned (OpenSpec.ofChange primeIsSpec)

/-- ITS FALSE NEIGHBOUR: 'it returns false'. Refute it at one input. -/
def primeIsWrong : ChangeSpec := { name := "primeIs", fn := fun _ => fun
  | [d] => { results := [.lit (.bool false)], args := [d] }
  | _ => none }
def PrimeIsWrongFalsely : Prop := primeIsRow.holds Try.pinned (OpenSpec.ofChange primeIsWrong)

/-- 'quadformlaw22.PrimeFactor': WHATEVER THE INPUT: true; the input reads as it did. -/
def primeFactorSpec : ChangeSpec := { name := "primeFactor", fn := fun _ => fun
  | [d] => { results := [.lit (.bool true)], args := [d] }
  | _ => none }
def primeFactorRow : OpenClaim := { program := "ytcjhbjfkcmncpaa", sum := "95e889b8bf0970c6b2645e47278d27526c3ea402dd3992278424fc09ca0d1d42", func := "quadform/quadformlaw22.PrimeFactor", spec := "primeFactor", apart := false }
def PrimeFactorSaid : Prop := primeFactorRow.holds Try.pinned (OpenSpec.ofChange primeFactorSpec)

/-- ITS FALSE NEIGHBOUR: 'it returns false'. Refute it at one input. -/
def primeFactorWrong : ChangeSpec := { name := "primeFactor", fn := fun _ => fun
  | [d] => { results := [.lit (.bool false)], args := [d] }
  | _ => none }
def PrimeFactorWrongFalsely : Prop := primeFactorRow.holds Try.pinned (OpenSpec.ofChange primeFactorWrong)

/-- 'quadformlaw22.PrimeProduct': WHATEVER THE INPUT: true; the input reads as it did. -/
def primeProductSpec : ChangeSpec := { name := "primeProduct", fn := fun _ => fun
  | [d] => { results := [.lit (.bool true)], args := [d] }
  | _ => none }
def primeProductRow : OpenClaim := { program := "ytcjhbjfkcmncpaa", sum := "95e889b8bf0970c6b2645e47278d27526c3ea402dd3992278424fc09ca0d1d42", func := "quadform/quadformlaw22.PrimeProduct", spec := "primeProduct", apart := false }
def PrimeProductSaid : Prop := primeProductRow.holds Try.pinned (OpenSpec.ofChange primeProductSpec)

/-- ITS FALSE NEIGHBOUR: 'it returns false'. Refute it at one input. -/
def primeProductWrong : ChangeSpec := { name := "primeProduct", fn := fun _ => fun
  | [d] => { results := [.lit (.bool false)], args := [d] }
  | _ => none }
def PrimeProductWrongFalsely : Prop := primeProductRow.holds Try.pinned (OpenSpec.ofChange primeProductWrong)

/-- 'quadformlaw22.PrimeKronecker': WHATEVER THE INPUT: true; the input reads as it did. -/
def primeKroneckerSpec : ChangeSpec := { name := "primeKronecker", fn := fun _ => fun
  | [d1, d2, d3] => { results := [.lit (.bool true)], args := [d1, d2, d3] }
  | _ => none }
def primeKroneckerRow : OpenClaim := { program := "ytcjhbjfkcmncpaa", sum := "95e889b8bf0970c6b2645e47278d27526c3ea402dd3992278424fc09ca0d1d42", func := "quadform/quadformlaw22.PrimeKronecker", spec := "primeKronecker", apart := false }
def PrimeKroneckerSaid : Prop := primeKroneckerRow.holds Try.pinned (OpenSpec.ofChange primeKroneckerSpec)

/-- ITS FALSE NEIGHBOUR: 'it returns false'. Refute it at one input. -/
def primeKroneckerWrong : ChangeSpec := { name := "primeKronecker", fn := fun _ => fun
  | [d1, d2, d3] => { results := [.lit (.bool false)], args := [d1, d2, d3] }
  | _ => none }
def PrimeKroneckerWrongFalsely : Prop := primeKroneckerRow.holds Try.pinned (OpenSpec.ofChange primeKroneckerWrong)

/-- 'quadformlaw22.PrimeMultiplies': WHATEVER THE INPUT: true; the input reads as it did. -/
def primeMultipliesSpec : ChangeSpec := { name := "primeMultiplies", fn := fun _ => fun
  | [d1, d2, d3, d4] => { results := [.lit (.bool true)], args := [d1, d2, d3, d4] }
  | _ => none }
def primeMultipliesRow : OpenClaim := { program := "ytcjhbjfkcmncpaa", sum := "95e889b8bf0970c6b2645e47278d27526c3ea402dd3992278424fc09ca0d1d42", func := "quadform/quadformlaw22.PrimeMultiplies", spec := "primeMultiplies", apart := false }
def PrimeMultipliesSaid : Prop := primeMultipliesRow.holds Try.pinned (OpenSpec.ofChange primeMultipliesSpec)

/-- ITS FALSE NEIGHBOUR: 'it returns false'. Refute it at one input. -/
def primeMultipliesWrong : ChangeSpec := { name := "primeMultiplies", fn := fun _ => fun
  | [d1, d2, d3, d4] => { results := [.lit (.bool false)], args := [d1, d2, d3, d4] }
  | _ => none }
def PrimeMultipliesWrongFalsely : Prop := primeMultipliesRow.holds Try.pinned (OpenSpec.ofChange primeMultipliesWrong)

/-- 'quadformlaw22.PrimeReciprocity': WHATEVER THE INPUT: true; the input reads as it did. -/
def primeReciprocitySpec : ChangeSpec := { name := "primeReciprocity", fn := fun _ => fun
  | [d1, d2] => { results := [.lit (.bool true)], args := [d1, d2] }
  | _ => none }
def primeReciprocityRow : OpenClaim := { program := "ytcjhbjfkcmncpaa", sum := "95e889b8bf0970c6b2645e47278d27526c3ea402dd3992278424fc09ca0d1d42", func := "quadform/quadformlaw22.PrimeReciprocity", spec := "primeReciprocity", apart := false }
def PrimeReciprocitySaid : Prop := primeReciprocityRow.holds Try.pinned (OpenSpec.ofChange primeReciprocitySpec)

/-- ITS FALSE NEIGHBOUR: 'it returns false'. Refute it at one input. -/
def primeReciprocityWrong : ChangeSpec := { name := "primeReciprocity", fn := fun _ => fun
  | [d1, d2] => { results := [.lit (.bool false)], args := [d1, d2] }
  | _ => none }
def PrimeReciprocityWrongFalsely : Prop := primeReciprocityRow.holds Try.pinned (OpenSpec.ofChange primeReciprocityWrong)

/-- 'quadformlaw22.PrimeSquares': WHATEVER THE INPUT: true; the input reads as it did. -/
def primeSquaresSpec : ChangeSpec := { name := "primeSquares", fn := fun _ => fun
  | [d] => { results := [.lit (.bool true)], args := [d] }
  | _ => none }
def primeSquaresRow : OpenClaim := { program := "ytcjhbjfkcmncpaa", sum := "95e889b8bf0970c6b2645e47278d27526c3ea402dd3992278424fc09ca0d1d42", func := "quadform/quadformlaw22.PrimeSquares", spec := "primeSquares", apart := false }
def PrimeSquaresSaid : Prop := primeSquaresRow.holds Try.pinned (OpenSpec.ofChange primeSquaresSpec)

/-- ITS FALSE NEIGHBOUR: 'it returns false'. Refute it at one input. -/
def primeSquaresWrong : ChangeSpec := { name := "primeSquares", fn := fun _ => fun
  | [d] => { results := [.lit (.bool false)], args := [d] }
  | _ => none }
def PrimeSquaresWrongFalsely : Prop := primeSquaresRow.holds Try.pinned (OpenSpec.ofChange primeSquaresWrong)

/-- 'quadformlaw22.PrimeSquarefree': WHATEVER THE INPUT: true; the input reads as it did. -/
def primeSquarefreeSpec : ChangeSpec := { name := "primeSquarefree", fn := fun _ => fun
  | [d1, d2] => { results := [.lit (.bool true)], args := [d1, d2] }
  | _ => none }
def primeSquarefreeRow : OpenClaim := { program := "ytcjhbjfkcmncpaa", sum := "95e889b8bf0970c6b2645e47278d27526c3ea402dd3992278424fc09ca0d1d42", func := "quadform/quadformlaw22.PrimeSquarefree", spec := "primeSquarefree", apart := false }
def PrimeSquarefreeSaid : Prop := primeSquarefreeRow.holds Try.pinned (OpenSpec.ofChange primeSquarefreeSpec)

/-- ITS FALSE NEIGHBOUR: 'it returns false'. Refute it at one input. -/
def primeSquarefreeWrong : ChangeSpec := { name := "primeSquarefree", fn := fun _ => fun
  | [d1, d2] => { results := [.lit (.bool false)], args := [d1, d2] }
  | _ => none }
def PrimeSquarefreeWrongFalsely : Prop := primeSquarefreeRow.holds Try.pinned (OpenSpec.ofChange primeSquarefreeWrong)

/-- 'quadformlaw22.PrimeDiscriminant': WHATEVER THE INPUT: true; the input reads as it did. -/
def primeDiscriminantSpec : ChangeSpec := { name := "primeDiscriminant", fn := fun _ => fun
  | [d1, d2, d3] => { results := [.lit (.bool true)], args := [d1, d2, d3] }
  | _ => none }
def primeDiscriminantRow : OpenClaim := { program := "ytcjhbjfkcmncpaa", sum := "95e889b8bf0970c6b2645e47278d27526c3ea402dd3992278424fc09ca0d1d42", func := "quadform/quadformlaw22.PrimeDiscriminant", spec := "primeDiscriminant", apart := false }
def PrimeDiscriminantSaid : Prop := primeDiscriminantRow.holds Try.pinned (OpenSpec.ofChange primeDiscriminantSpec)

/-- ITS FALSE NEIGHBOUR: 'it returns false'. Refute it at one input. -/
def primeDiscriminantWrong : ChangeSpec := { name := "primeDiscriminant", fn := fun _ => fun
  | [d1, d2, d3] => { results := [.lit (.bool false)], args := [d1, d2, d3] }
  | _ => none }
def PrimeDiscriminantWrongFalsely : Prop := primeDiscriminantRow.holds Try.pinned (OpenSpec.ofChange primeDiscriminantWrong)

/-- 'quadformlaw22.PrimeNext': WHATEVER THE INPUT: true; the input reads as it did. -/
def primeNextSpec : ChangeSpec := { name := "primeNext", fn := fun _ => fun
  | [d] => { results := [.lit (.bool true)], args := [d] }
  | _ => none }
def primeNextRow : OpenClaim := { program := "ytcjhbjfkcmncpaa", sum := "95e889b8bf0970c6b2645e47278d27526c3ea402dd3992278424fc09ca0d1d42", func := "quadform/quadformlaw22.PrimeNext", spec := "primeNext", apart := false }
def PrimeNextSaid : Prop := primeNextRow.holds Try.pinned (OpenSpec.ofChange primeNextSpec)

/-- ITS FALSE NEIGHBOUR: 'it returns false'. Refute it at one input. -/
def primeNextWrong : ChangeSpec := { name := "primeNext", fn := fun _ => fun
  | [d] => { results := [.lit (.bool false)], args := [d] }
  | _ => none }
def PrimeNextWrongFalsely : Prop := primeNextRow.holds Try.pinned (OpenSpec.ofChange primeNextWrong)

/-- 'quadformlaw22.PrimeGaps': WHATEVER THE INPUT: true; the input reads as it did. -/
def primeGapsSpec : ChangeSpec := { name := "primeGaps", fn := fun _ => fun
  | [d] => { results := [.lit (.bool true)], args := [d] }
  | _ => none }
def primeGapsRow : OpenClaim := { program := "ytcjhbjfkcmncpaa", sum := "95e889b8bf0970c6b2645e47278d27526c3ea402dd3992278424fc09ca0d1d42", func := "quadform/quadformlaw22.PrimeGaps", spec := "primeGaps", apart := false }
def PrimeGapsSaid : Prop := primeGapsRow.holds Try.pinned (OpenSpec.ofChange primeGapsSpec)

/-- ITS FALSE NEIGHBOUR: 'it returns false'. Refute it at one input. -/
def primeGapsWrong : ChangeSpec := { name := "primeGaps", fn := fun _ => fun
  | [d] => { results := [.lit (.bool false)], args := [d] }
  | _ => none }
def PrimeGapsWrongFalsely : Prop := primeGapsRow.holds Try.pinned (OpenSpec.ofChange primeGapsWrong)

/-- 'quadformlaw22.PrimeValuation': WHATEVER THE INPUT: true; the input reads as it did. -/
def primeValuationSpec : ChangeSpec := { name := "primeValuation", fn := fun _ => fun
  | [d1, d2, d3, d4] => { results := [.lit (.bool true)], args := [d1, d2, d3, d4] }
  | _ => none }
def primeValuationRow : OpenClaim := { program := "ytcjhbjfkcmncpaa", sum := "95e889b8bf0970c6b2645e47278d27526c3ea402dd3992278424fc09ca0d1d42", func := "quadform/quadformlaw22.PrimeValuation", spec := "primeValuation", apart := false }
def PrimeValuationSaid : Prop := primeValuationRow.holds Try.pinned (OpenSpec.ofChange primeValuationSpec)

/-- ITS FALSE NEIGHBOUR: 'it returns false'. Refute it at one input. -/
def primeValuationWrong : ChangeSpec := { name := "primeValuation", fn := fun _ => fun
  | [d1, d2, d3, d4] => { results := [.lit (.bool false)], args := [d1, d2, d3, d4] }
  | _ => none }
def PrimeValuationWrongFalsely : Prop := primeValuationRow.holds Try.pinned (OpenSpec.ofChange primeValuationWrong)

/- THE SECOND FORM. 'bulk': how many values and letters a reading holds, each counted each time it is reached (what is shared counts as often as it is met; a slice's spare places count too). A statement '..UptoSaid' is the law's where the arguments, and the package variables that the reading takes, are together of bulk at most 1048576: NARROWER than '..Said'. Prove '..Said' where nothing that the law and all that it calls make is longer than what came in: it says more and counts as full. Else prove '..UptoSaid'. A law counts once. -/
mutual
def uptoBulk {H : Type} : DataW H → Nat
  | .lit (.string bytes) => bytes.length + 1
  | .lit _ => 1
  | .nil => 1
  | .ptr d => uptoBulk d + 1
  | .slice elems spare => uptoBulkAll elems + uptoBulkAll spare + 1
  | .agg parts => uptoBulkAll parts + 1
  | .iface _ d => uptoBulk d + 1
  | .map entries => uptoBulkEntries entries + 1
  | .held _ => 1
def uptoBulkAll {H : Type} : List (DataW H) → Nat
  | [] => 0
  | d :: r => uptoBulk d + uptoBulkAll r
def uptoBulkEntries {H : Type} : List (Lit × DataW H) → Nat
  | [] => 0
  | x :: r => uptoBulkEntry x + uptoBulkEntries r
def uptoBulkEntry {H : Type} : Lit × DataW H → Nat
  | (.string bytes, d) => bytes.length + uptoBulk d + 1
  | (_, d) => uptoBulk d + 1
 end
def uptoSmall : (H : Type) → List (DataW H) → Bool := fun _ ds => decide (uptoBulkAll ds ≤ 1048576)
def OpenSpec.upto (s : _root_.Go.ChangeSpec) : _root_.Go.OpenSpec := { _root_.Go.OpenSpec.ofChange s with cond := some uptoSmall }

/-- 'quadformlaw22.PrimeIs', WHERE WHAT IT READS IS OF BULK AT MOST 1048576: true; the input reads as it did. -/
def primeIsUptoRow : OpenClaim := { program := "ytcjhbjfkcmncpaa", sum := "95e889b8bf0970c6b2645e47278d27526c3ea402dd3992278424fc09ca0d1d42", func := "quadform/quadformlaw22.PrimeIs", spec := "primeIs", apart := false, narrowed := true }
def PrimeIsUptoSaid : Prop := primeIsUptoRow.holds Try.pinned (OpenSpec.upto primeIsSpec)

/-- 'quadformlaw22.PrimeFactor', WHERE WHAT IT READS IS OF BULK AT MOST 1048576: true; the input reads as it did. -/
def primeFactorUptoRow : OpenClaim := { program := "ytcjhbjfkcmncpaa", sum := "95e889b8bf0970c6b2645e47278d27526c3ea402dd3992278424fc09ca0d1d42", func := "quadform/quadformlaw22.PrimeFactor", spec := "primeFactor", apart := false, narrowed := true }
def PrimeFactorUptoSaid : Prop := primeFactorUptoRow.holds Try.pinned (OpenSpec.upto primeFactorSpec)

/-- 'quadformlaw22.PrimeProduct', WHERE WHAT IT READS IS OF BULK AT MOST 1048576: true; the input reads as it did. -/
def primeProductUptoRow : OpenClaim := { program := "ytcjhbjfkcmncpaa", sum := "95e889b8bf0970c6b2645e47278d27526c3ea402dd3992278424fc09ca0d1d42", func := "quadform/quadformlaw22.PrimeProduct", spec := "primeProduct", apart := false, narrowed := true }
def PrimeProductUptoSaid : Prop := primeProductUptoRow.holds Try.pinned (OpenSpec.upto primeProductSpec)

/-- 'quadformlaw22.PrimeKronecker', WHERE WHAT IT READS IS OF BULK AT MOST 1048576: true; the input reads as it did. -/
def primeKroneckerUptoRow : OpenClaim := { program := "ytcjhbjfkcmncpaa", sum := "95e889b8bf0970c6b2645e47278d27526c3ea402dd3992278424fc09ca0d1d42", func := "quadform/quadformlaw22.PrimeKronecker", spec := "primeKronecker", apart := false, narrowed := true }
def PrimeKroneckerUptoSaid : Prop := primeKroneckerUptoRow.holds Try.pinned (OpenSpec.upto primeKroneckerSpec)

/-- 'quadformlaw22.PrimeMultiplies', WHERE WHAT IT READS IS OF BULK AT MOST 1048576: true; the input reads as it did. -/
def primeMultipliesUptoRow : OpenClaim := { program := "ytcjhbjfkcmncpaa", sum := "95e889b8bf0970c6b2645e47278d27526c3ea402dd3992278424fc09ca0d1d42", func := "quadform/quadformlaw22.PrimeMultiplies", spec := "primeMultiplies", apart := false, narrowed := true }
def PrimeMultipliesUptoSaid : Prop := primeMultipliesUptoRow.holds Try.pinned (OpenSpec.upto primeMultipliesSpec)

/-- 'quadformlaw22.PrimeReciprocity', WHERE WHAT IT READS IS OF BULK AT MOST 1048576: true; the input reads as it did. -/
def primeReciprocityUptoRow : OpenClaim := { program := "ytcjhbjfkcmncpaa", sum := "95e889b8bf0970c6b2645e47278d27526c3ea402dd3992278424fc09ca0d1d42", func := "quadform/quadformlaw22.PrimeReciprocity", spec := "primeReciprocity", apart := false, narrowed := true }
def PrimeReciprocityUptoSaid : Prop := primeReciprocityUptoRow.holds Try.pinned (OpenSpec.upto primeReciprocitySpec)

/-- 'quadformlaw22.PrimeSquares', WHERE WHAT IT READS IS OF BULK AT MOST 1048576: true; the input reads as it did. -/
def primeSquaresUptoRow : OpenClaim := { program := "ytcjhbjfkcmncpaa", sum := "95e889b8bf0970c6b2645e47278d27526c3ea402dd3992278424fc09ca0d1d42", func := "quadform/quadformlaw22.PrimeSquares", spec := "primeSquares", apart := false, narrowed := true }
def PrimeSquaresUptoSaid : Prop := primeSquaresUptoRow.holds Try.pinned (OpenSpec.upto primeSquaresSpec)

/-- 'quadformlaw22.PrimeSquarefree', WHERE WHAT IT READS IS OF BULK AT MOST 1048576: true; the input reads as it did. -/
def primeSquarefreeUptoRow : OpenClaim := { program := "ytcjhbjfkcmncpaa", sum := "95e889b8bf0970c6b2645e47278d27526c3ea402dd3992278424fc09ca0d1d42", func := "quadform/quadformlaw22.PrimeSquarefree", spec := "primeSquarefree", apart := false, narrowed := true }
def PrimeSquarefreeUptoSaid : Prop := primeSquarefreeUptoRow.holds Try.pinned (OpenSpec.upto primeSquarefreeSpec)

/-- 'quadformlaw22.PrimeDiscriminant', WHERE WHAT IT READS IS OF BULK AT MOST 1048576: true; the input reads as it did. -/
def primeDiscriminantUptoRow : OpenClaim := { program := "ytcjhbjfkcmncpaa", sum := "95e889b8bf0970c6b2645e47278d27526c3ea402dd3992278424fc09ca0d1d42", func := "quadform/quadformlaw22.PrimeDiscriminant", spec := "primeDiscriminant", apart := false, narrowed := true }
def PrimeDiscriminantUptoSaid : Prop := primeDiscriminantUptoRow.holds Try.pinned (OpenSpec.upto primeDiscriminantSpec)

/-- 'quadformlaw22.PrimeNext', WHERE WHAT IT READS IS OF BULK AT MOST 1048576: true; the input reads as it did. -/
def primeNextUptoRow : OpenClaim := { program := "ytcjhbjfkcmncpaa", sum := "95e889b8bf0970c6b2645e47278d27526c3ea402dd3992278424fc09ca0d1d42", func := "quadform/quadformlaw22.PrimeNext", spec := "primeNext", apart := false, narrowed := true }
def PrimeNextUptoSaid : Prop := primeNextUptoRow.holds Try.pinned (OpenSpec.upto primeNextSpec)

/-- 'quadformlaw22.PrimeGaps', WHERE WHAT IT READS IS OF BULK AT MOST 1048576: true; the input reads as it did. -/
def primeGapsUptoRow : OpenClaim := { program := "ytcjhbjfkcmncpaa", sum := "95e889b8bf0970c6b2645e47278d27526c3ea402dd3992278424fc09ca0d1d42", func := "quadform/quadformlaw22.PrimeGaps", spec := "primeGaps", apart := false, narrowed := true }
def PrimeGapsUptoSaid : Prop := primeGapsUptoRow.holds Try.pinned (OpenSpec.upto primeGapsSpec)

/-- 'quadformlaw22.PrimeValuation', WHERE WHAT IT READS IS OF BULK AT MOST 1048576: true; the input reads as it did. -/
def primeValuationUptoRow : OpenClaim := { program := "ytcjhbjfkcmncpaa", sum := "95e889b8bf0970c6b2645e47278d27526c3ea402dd3992278424fc09ca0d1d42", func := "quadform/quadformlaw22.PrimeValuation", spec := "primeValuation", apart := false, narrowed := true }
def PrimeValuationUptoSaid : Prop := primeValuationUptoRow.holds Try.pinned (OpenSpec.upto primeValuationSpec)

end Rows
end Go.Proofs.Ytcjhbjfkcmncpaa
