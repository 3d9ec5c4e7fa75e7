/-
  No cell of these rows narrows 'for every input' (looked for: loops, veiled, ifaces, maps, wideKeys, modest, calm, conditions, laid).
  DERIVED. THE GIVEN ROWS OF THIS SEAT. 10 by the template 'for every input the law returns true; each argument reads behind the call as it read before'; 0 by the template 'total and deterministic' (their statements: YtbchgegclgpdhaaTotals.lean).
  GIVEN WITH THE SEED: the statements are not yours to turn. If you find one false, say at which input.
  Laid BY PROGRAM, IN A SANDBOX (cutbox-rows.mjs): the forced cells as the released guide's own fill.sh prints them over the translation e1bccc68e058d96e… (all of the seat's roots in one cut). By AI agents, Wed Nov 11 2026. No macro, syntax, notation, axiom, sorry.
-/
import Derived.Test.YtbchgegclgpdhaaChecked
import GoSem.Claim
import GoSem.ClaimJoined
import GoSem.ClaimMapViews
import Derived.JoinedTies
import Derived.KernelRfl
namespace Go.Proofs.Ytbchgegclgpdhaa
/- THE CELL 'sum', in the pinned program and in every row, IS THE sha256 OF THE DUMP (.gsa) THAT YtbchgegclgpdhaaProg.lean LOADS. Nothing in Lean hashes anything: it is a label: what it is worth is what the hold of that sum in a sandbox is worth. -/
noncomputable def Try.pinned : Pinned := { name := "ytbchgegclgpdhaa", sum := "e1bccc68e058d96eac7a3d1e25dadfdc69158aed3afad91c1b30abbe6045797b", checked := Try.checked }
namespace Rows
def none {H : Type} : Left H := { results := [], args := [] }

/-- 'quadformlaw31.BernoulliNumber': WHATEVER THE INPUT: true; the input reads as it did. -/
def bernoulliNumberSpec : ChangeSpec := { name := "bernoulliNumber", fn := fun _ => fun
  | [d1, d2] => { results := [.lit (.bool true)], args := [d1, d2] }
  | _ => none }
def bernoulliNumberRow : OpenClaim := { program := "ytbchgegclgpdhaa", sum := "e1bccc68e058d96eac7a3d1e25dadfdc69158aed3afad91c1b30abbe6045797b", func := "quadform/quadformlaw31.BernoulliNumber", spec := "bernoulliNumber", apart := false }
def BernoulliNumberSaid : Prop := bernoulliNumberRow.holds Try.pinned (OpenSpec.ofChange bernoulliNumberSpec)

/-- ITS FALSE NEIGHBOUR: 'it returns false'. Refute it at one input. -/
def bernoulliNumberWrong : ChangeSpec := { name := "bernoulliNumber", fn := fun _ => fun
  | [d1, d2] => { results := [.lit (.bool false)], args := [d1, d2] }
  | _ => none }
def BernoulliNumberWrongFalsely : Prop := bernoulliNumberRow.holds Try.pinned (OpenSpec.ofChange bernoulliNumberWrong)

/-- 'quadformlaw31.BernoulliDenominator': WHATEVER THE INPUT: true; the input reads as it did. -/
def bernoulliDenominatorSpec : ChangeSpec := { name := "bernoulliDenominator", fn := fun _ => fun
  | [d] => { results := [.lit (.bool true)], args := [d] }
  | _ => none }
def bernoulliDenominatorRow : OpenClaim := { program := "ytbchgegclgpdhaa", sum := "e1bccc68e058d96eac7a3d1e25dadfdc69158aed3afad91c1b30abbe6045797b", func := "quadform/quadformlaw31.BernoulliDenominator", spec := "bernoulliDenominator", apart := false }
def BernoulliDenominatorSaid : Prop := bernoulliDenominatorRow.holds Try.pinned (OpenSpec.ofChange bernoulliDenominatorSpec)

/-- ITS FALSE NEIGHBOUR: 'it returns false'. Refute it at one input. -/
def bernoulliDenominatorWrong : ChangeSpec := { name := "bernoulliDenominator", fn := fun _ => fun
  | [d] => { results := [.lit (.bool false)], args := [d] }
  | _ => none }
def BernoulliDenominatorWrongFalsely : Prop := bernoulliDenominatorRow.holds Try.pinned (OpenSpec.ofChange bernoulliDenominatorWrong)

/-- 'quadformlaw31.BernoulliFundamental': WHATEVER THE INPUT: true; the input reads as it did. -/
def bernoulliFundamentalSpec : ChangeSpec := { name := "bernoulliFundamental", fn := fun _ => fun
  | [d1, d2] => { results := [.lit (.bool true)], args := [d1, d2] }
  | _ => none }
def bernoulliFundamentalRow : OpenClaim := { program := "ytbchgegclgpdhaa", sum := "e1bccc68e058d96eac7a3d1e25dadfdc69158aed3afad91c1b30abbe6045797b", func := "quadform/quadformlaw31.BernoulliFundamental", spec := "bernoulliFundamental", apart := false }
def BernoulliFundamentalSaid : Prop := bernoulliFundamentalRow.holds Try.pinned (OpenSpec.ofChange bernoulliFundamentalSpec)

/-- ITS FALSE NEIGHBOUR: 'it returns false'. Refute it at one input. -/
def bernoulliFundamentalWrong : ChangeSpec := { name := "bernoulliFundamental", fn := fun _ => fun
  | [d1, d2] => { results := [.lit (.bool false)], args := [d1, d2] }
  | _ => none }
def BernoulliFundamentalWrongFalsely : Prop := bernoulliFundamentalRow.holds Try.pinned (OpenSpec.ofChange bernoulliFundamentalWrong)

/-- 'quadformlaw31.BernoulliClasses': WHATEVER THE INPUT: true; the input reads as it did. -/
def bernoulliClassesSpec : ChangeSpec := { name := "bernoulliClasses", fn := fun _ => fun
  | [d] => { results := [.lit (.bool true)], args := [d] }
  | _ => none }
def bernoulliClassesRow : OpenClaim := { program := "ytbchgegclgpdhaa", sum := "e1bccc68e058d96eac7a3d1e25dadfdc69158aed3afad91c1b30abbe6045797b", func := "quadform/quadformlaw31.BernoulliClasses", spec := "bernoulliClasses", apart := false }
def BernoulliClassesSaid : Prop := bernoulliClassesRow.holds Try.pinned (OpenSpec.ofChange bernoulliClassesSpec)

/-- ITS FALSE NEIGHBOUR: 'it returns false'. Refute it at one input. -/
def bernoulliClassesWrong : ChangeSpec := { name := "bernoulliClasses", fn := fun _ => fun
  | [d] => { results := [.lit (.bool false)], args := [d] }
  | _ => none }
def BernoulliClassesWrongFalsely : Prop := bernoulliClassesRow.holds Try.pinned (OpenSpec.ofChange bernoulliClassesWrong)

/-- 'quadformlaw31.BernoulliParity': WHATEVER THE INPUT: true; the input reads as it did. -/
def bernoulliParitySpec : ChangeSpec := { name := "bernoulliParity", fn := fun _ => fun
  | [d1, d2] => { results := [.lit (.bool true)], args := [d1, d2] }
  | _ => none }
def bernoulliParityRow : OpenClaim := { program := "ytbchgegclgpdhaa", sum := "e1bccc68e058d96eac7a3d1e25dadfdc69158aed3afad91c1b30abbe6045797b", func := "quadform/quadformlaw31.BernoulliParity", spec := "bernoulliParity", apart := false }
def BernoulliParitySaid : Prop := bernoulliParityRow.holds Try.pinned (OpenSpec.ofChange bernoulliParitySpec)

/-- ITS FALSE NEIGHBOUR: 'it returns false'. Refute it at one input. -/
def bernoulliParityWrong : ChangeSpec := { name := "bernoulliParity", fn := fun _ => fun
  | [d1, d2] => { results := [.lit (.bool false)], args := [d1, d2] }
  | _ => none }
def BernoulliParityWrongFalsely : Prop := bernoulliParityRow.holds Try.pinned (OpenSpec.ofChange bernoulliParityWrong)

/-- 'quadformlaw31.BernoulliCharacter': WHATEVER THE INPUT: true; the input reads as it did. -/
def bernoulliCharacterSpec : ChangeSpec := { name := "bernoulliCharacter", fn := fun _ => fun
  | [d1, d2, d3] => { results := [.lit (.bool true)], args := [d1, d2, d3] }
  | _ => none }
def bernoulliCharacterRow : OpenClaim := { program := "ytbchgegclgpdhaa", sum := "e1bccc68e058d96eac7a3d1e25dadfdc69158aed3afad91c1b30abbe6045797b", func := "quadform/quadformlaw31.BernoulliCharacter", spec := "bernoulliCharacter", apart := false }
def BernoulliCharacterSaid : Prop := bernoulliCharacterRow.holds Try.pinned (OpenSpec.ofChange bernoulliCharacterSpec)

/-- ITS FALSE NEIGHBOUR: 'it returns false'. Refute it at one input. -/
def bernoulliCharacterWrong : ChangeSpec := { name := "bernoulliCharacter", fn := fun _ => fun
  | [d1, d2, d3] => { results := [.lit (.bool false)], args := [d1, d2, d3] }
  | _ => none }
def BernoulliCharacterWrongFalsely : Prop := bernoulliCharacterRow.holds Try.pinned (OpenSpec.ofChange bernoulliCharacterWrong)

/-- 'quadformlaw31.BernoulliPeriod': WHATEVER THE INPUT: true; the input reads as it did. -/
def bernoulliPeriodSpec : ChangeSpec := { name := "bernoulliPeriod", fn := fun _ => fun
  | [d1, d2, d3] => { results := [.lit (.bool true)], args := [d1, d2, d3] }
  | _ => none }
def bernoulliPeriodRow : OpenClaim := { program := "ytbchgegclgpdhaa", sum := "e1bccc68e058d96eac7a3d1e25dadfdc69158aed3afad91c1b30abbe6045797b", func := "quadform/quadformlaw31.BernoulliPeriod", spec := "bernoulliPeriod", apart := false }
def BernoulliPeriodSaid : Prop := bernoulliPeriodRow.holds Try.pinned (OpenSpec.ofChange bernoulliPeriodSpec)

/-- ITS FALSE NEIGHBOUR: 'it returns false'. Refute it at one input. -/
def bernoulliPeriodWrong : ChangeSpec := { name := "bernoulliPeriod", fn := fun _ => fun
  | [d1, d2, d3] => { results := [.lit (.bool false)], args := [d1, d2, d3] }
  | _ => none }
def BernoulliPeriodWrongFalsely : Prop := bernoulliPeriodRow.holds Try.pinned (OpenSpec.ofChange bernoulliPeriodWrong)

/-- 'quadformlaw31.BernoulliSteps': WHATEVER THE INPUT: true; the input reads as it did. -/
def bernoulliStepsSpec : ChangeSpec := { name := "bernoulliSteps", fn := fun _ => fun
  | [d1, d2, d3] => { results := [.lit (.bool true)], args := [d1, d2, d3] }
  | _ => none }
def bernoulliStepsRow : OpenClaim := { program := "ytbchgegclgpdhaa", sum := "e1bccc68e058d96eac7a3d1e25dadfdc69158aed3afad91c1b30abbe6045797b", func := "quadform/quadformlaw31.BernoulliSteps", spec := "bernoulliSteps", apart := false }
def BernoulliStepsSaid : Prop := bernoulliStepsRow.holds Try.pinned (OpenSpec.ofChange bernoulliStepsSpec)

/-- ITS FALSE NEIGHBOUR: 'it returns false'. Refute it at one input. -/
def bernoulliStepsWrong : ChangeSpec := { name := "bernoulliSteps", fn := fun _ => fun
  | [d1, d2, d3] => { results := [.lit (.bool false)], args := [d1, d2, d3] }
  | _ => none }
def BernoulliStepsWrongFalsely : Prop := bernoulliStepsRow.holds Try.pinned (OpenSpec.ofChange bernoulliStepsWrong)

/-- 'quadformlaw31.BernoulliSums': WHATEVER THE INPUT: true; the input reads as it did. -/
def bernoulliSumsSpec : ChangeSpec := { name := "bernoulliSums", fn := fun _ => fun
  | [d1, d2] => { results := [.lit (.bool true)], args := [d1, d2] }
  | _ => none }
def bernoulliSumsRow : OpenClaim := { program := "ytbchgegclgpdhaa", sum := "e1bccc68e058d96eac7a3d1e25dadfdc69158aed3afad91c1b30abbe6045797b", func := "quadform/quadformlaw31.BernoulliSums", spec := "bernoulliSums", apart := false }
def BernoulliSumsSaid : Prop := bernoulliSumsRow.holds Try.pinned (OpenSpec.ofChange bernoulliSumsSpec)

/-- ITS FALSE NEIGHBOUR: 'it returns false'. Refute it at one input. -/
def bernoulliSumsWrong : ChangeSpec := { name := "bernoulliSums", fn := fun _ => fun
  | [d1, d2] => { results := [.lit (.bool false)], args := [d1, d2] }
  | _ => none }
def BernoulliSumsWrongFalsely : Prop := bernoulliSumsRow.holds Try.pinned (OpenSpec.ofChange bernoulliSumsWrong)

/-- 'quadformlaw31.BernoulliSymmetry': WHATEVER THE INPUT: true; the input reads as it did. -/
def bernoulliSymmetrySpec : ChangeSpec := { name := "bernoulliSymmetry", fn := fun _ => fun
  | [d1, d2, d3] => { results := [.lit (.bool true)], args := [d1, d2, d3] }
  | _ => none }
def bernoulliSymmetryRow : OpenClaim := { program := "ytbchgegclgpdhaa", sum := "e1bccc68e058d96eac7a3d1e25dadfdc69158aed3afad91c1b30abbe6045797b", func := "quadform/quadformlaw31.BernoulliSymmetry", spec := "bernoulliSymmetry", unfollowed := true, recurses := true, apart := false }
def BernoulliSymmetrySaid : Prop := bernoulliSymmetryRow.holds Try.pinned (OpenSpec.ofChange bernoulliSymmetrySpec)

/-- ITS FALSE NEIGHBOUR: 'it returns false'. Refute it at one input. -/
def bernoulliSymmetryWrong : ChangeSpec := { name := "bernoulliSymmetry", fn := fun _ => fun
  | [d1, d2, d3] => { results := [.lit (.bool false)], args := [d1, d2, d3] }
  | _ => none }
def BernoulliSymmetryWrongFalsely : Prop := bernoulliSymmetryRow.holds Try.pinned (OpenSpec.ofChange bernoulliSymmetryWrong)

/- THE SECOND FORM. 'bulk': how many values and letters a reading holds, each counted each time it is reached (what is shared counts as often as it is met; a slice's spare places count too). A statement '..UptoSaid' is the law's where the arguments, and the package variables that the reading takes, are together of bulk at most 1048576: NARROWER than '..Said'. Prove '..Said' where nothing that the law and all that it calls make is longer than what came in: it says more and counts as full. Else prove '..UptoSaid'. A law counts once. -/
mutual
def uptoBulk {H : Type} : DataW H → Nat
  | .lit (.string bytes) => bytes.length + 1
  | .lit _ => 1
  | .nil => 1
  | .ptr d => uptoBulk d + 1
  | .slice elems spare => uptoBulkAll elems + uptoBulkAll spare + 1
  | .agg parts => uptoBulkAll parts + 1
  | .iface _ d => uptoBulk d + 1
  | .map entries => uptoBulkEntries entries + 1
  | .held _ => 1
def uptoBulkAll {H : Type} : List (DataW H) → Nat
  | [] => 0
  | d :: r => uptoBulk d + uptoBulkAll r
def uptoBulkEntries {H : Type} : List (Lit × DataW H) → Nat
  | [] => 0
  | x :: r => uptoBulkEntry x + uptoBulkEntries r
def uptoBulkEntry {H : Type} : Lit × DataW H → Nat
  | (.string bytes, d) => bytes.length + uptoBulk d + 1
  | (_, d) => uptoBulk d + 1
 end
def uptoSmall : (H : Type) → List (DataW H) → Bool := fun _ ds => decide (uptoBulkAll ds ≤ 1048576)
def OpenSpec.upto (s : _root_.Go.ChangeSpec) : _root_.Go.OpenSpec := { _root_.Go.OpenSpec.ofChange s with cond := some uptoSmall }

/-- 'quadformlaw31.BernoulliNumber', WHERE WHAT IT READS IS OF BULK AT MOST 1048576: true; the input reads as it did. -/
def bernoulliNumberUptoRow : OpenClaim := { program := "ytbchgegclgpdhaa", sum := "e1bccc68e058d96eac7a3d1e25dadfdc69158aed3afad91c1b30abbe6045797b", func := "quadform/quadformlaw31.BernoulliNumber", spec := "bernoulliNumber", apart := false, narrowed := true }
def BernoulliNumberUptoSaid : Prop := bernoulliNumberUptoRow.holds Try.pinned (OpenSpec.upto bernoulliNumberSpec)

/-- 'quadformlaw31.BernoulliDenominator', WHERE WHAT IT READS IS OF BULK AT MOST 1048576: true; the input reads as it did. -/
def bernoulliDenominatorUptoRow : OpenClaim := { program := "ytbchgegclgpdhaa", sum := "e1bccc68e058d96eac7a3d1e25dadfdc69158aed3afad91c1b30abbe6045797b", func := "quadform/quadformlaw31.BernoulliDenominator", spec := "bernoulliDenominator", apart := false, narrowed := true }
def BernoulliDenominatorUptoSaid : Prop := bernoulliDenominatorUptoRow.holds Try.pinned (OpenSpec.upto bernoulliDenominatorSpec)

/-- 'quadformlaw31.BernoulliFundamental', WHERE WHAT IT READS IS OF BULK AT MOST 1048576: true; the input reads as it did. -/
def bernoulliFundamentalUptoRow : OpenClaim := { program := "ytbchgegclgpdhaa", sum := "e1bccc68e058d96eac7a3d1e25dadfdc69158aed3afad91c1b30abbe6045797b", func := "quadform/quadformlaw31.BernoulliFundamental", spec := "bernoulliFundamental", apart := false, narrowed := true }
def BernoulliFundamentalUptoSaid : Prop := bernoulliFundamentalUptoRow.holds Try.pinned (OpenSpec.upto bernoulliFundamentalSpec)

/-- 'quadformlaw31.BernoulliClasses', WHERE WHAT IT READS IS OF BULK AT MOST 1048576: true; the input reads as it did. -/
def bernoulliClassesUptoRow : OpenClaim := { program := "ytbchgegclgpdhaa", sum := "e1bccc68e058d96eac7a3d1e25dadfdc69158aed3afad91c1b30abbe6045797b", func := "quadform/quadformlaw31.BernoulliClasses", spec := "bernoulliClasses", apart := false, narrowed := true }
def BernoulliClassesUptoSaid : Prop := bernoulliClassesUptoRow.holds Try.pinned (OpenSpec.upto bernoulliClassesSpec)

/-- 'quadformlaw31.BernoulliParity', WHERE WHAT IT READS IS OF BULK AT MOST 1048576: true; the input reads as it did. -/
def bernoulliParityUptoRow : OpenClaim := { program := "ytbchgegclgpdhaa", sum := "e1bccc68e058d96eac7a3d1e25dadfdc69158aed3afad91c1b30abbe6045797b", func := "quadform/quadformlaw31.BernoulliParity", spec := "bernoulliParity", apart := false, narrowed := true }
def BernoulliParityUptoSaid : Prop := bernoulliParityUptoRow.holds Try.pinned (OpenSpec.upto bernoulliParitySpec)

/-- 'quadformlaw31.BernoulliCharacter', WHERE WHAT IT READS IS OF BULK AT MOST 1048576: true; the input reads as it did. -/
def bernoulliCharacterUptoRow : OpenClaim := { program := "ytbchgegclgpdhaa", sum := "e1bccc68e058d96eac7a3d1e25dadfdc69158aed3afad91c1b30abbe6045797b", func := "quadform/quadformlaw31.BernoulliCharacter", spec := "bernoulliCharacter", apart := false, narrowed := true }
def BernoulliCharacterUptoSaid : Prop := bernoulliCharacterUptoRow.holds Try.pinned (OpenSpec.upto bernoulliCharacterSpec)

/-- 'quadformlaw31.BernoulliPeriod', WHERE WHAT IT READS IS OF BULK AT MOST 1048576: true; the input reads as it did. -/
def bernoulliPeriodUptoRow : OpenClaim := { program := "ytbchgegclgpdhaa", sum := "e1bccc68e058d96eac7a3d1e25dadfdc69158aed3afad91c1b30abbe6045797b", func := "quadform/quadformlaw31.BernoulliPeriod", spec := "bernoulliPeriod", apart := false, narrowed := true }
def BernoulliPeriodUptoSaid : Prop := bernoulliPeriodUptoRow.holds Try.pinned (OpenSpec.upto bernoulliPeriodSpec)

/-- 'quadformlaw31.BernoulliSteps', WHERE WHAT IT READS IS OF BULK AT MOST 1048576: true; the input reads as it did. -/
def bernoulliStepsUptoRow : OpenClaim := { program := "ytbchgegclgpdhaa", sum := "e1bccc68e058d96eac7a3d1e25dadfdc69158aed3afad91c1b30abbe6045797b", func := "quadform/quadformlaw31.BernoulliSteps", spec := "bernoulliSteps", apart := false, narrowed := true }
def BernoulliStepsUptoSaid : Prop := bernoulliStepsUptoRow.holds Try.pinned (OpenSpec.upto bernoulliStepsSpec)

/-- 'quadformlaw31.BernoulliSums', WHERE WHAT IT READS IS OF BULK AT MOST 1048576: true; the input reads as it did. -/
def bernoulliSumsUptoRow : OpenClaim := { program := "ytbchgegclgpdhaa", sum := "e1bccc68e058d96eac7a3d1e25dadfdc69158aed3afad91c1b30abbe6045797b", func := "quadform/quadformlaw31.BernoulliSums", spec := "bernoulliSums", apart := false, narrowed := true }
def BernoulliSumsUptoSaid : Prop := bernoulliSumsUptoRow.holds Try.pinned (OpenSpec.upto bernoulliSumsSpec)

/-- 'quadformlaw31.BernoulliSymmetry', WHERE WHAT IT READS IS OF BULK AT MOST 1048576: true; the input reads as it did. -/
def bernoulliSymmetryUptoRow : OpenClaim := { program := "ytbchgegclgpdhaa", sum := "e1bccc68e058d96eac7a3d1e25dadfdc69158aed3afad91c1b30abbe6045797b", func := "quadform/quadformlaw31.BernoulliSymmetry", spec := "bernoulliSymmetry", unfollowed := true, recurses := true, apart := false, narrowed := true }
def BernoulliSymmetryUptoSaid : Prop := bernoulliSymmetryUptoRow.holds Try.pinned (OpenSpec.upto bernoulliSymmetrySpec)

end Rows
end Go.Proofs.Ytbchgegclgpdhaa
