/-
  NARROWER THAN 'FOR EVERY INPUT', by the rows' own cells (each row's printed sentence says how): LocalmassRegular: laid · LocalmassPositive: laid · LocalmassDiagonal: laid · LocalmassCross: laid · LocalmassMass: laid · LocalmassScales: laid · LocalmassStandard: laid · LocalmassSpecies: laid · LocalmassWalks: laid.
  DERIVED. THE GIVEN ROWS OF THIS SEAT. 9 by the template 'for every input the law returns true; each argument reads behind the call as it read before'; 0 by the template 'total and deterministic' (their statements: YtgbndganadelpaaGreatDoorTotals.lean).
  GIVEN WITH THE SEED: the statements are not yours to turn. If you find one false, say at which input.
  Laid BY PROGRAM, IN A SANDBOX (cutbox-rows.mjs): the forced cells as the released guide's own fill.sh prints them over the translation 236b4336e81dbc05… (all of the seat's roots in one cut). By AI agents, Wed Nov 11 2026. No macro, syntax, notation, axiom, sorry.
-/
import Derived.Test.YtgbndganadelpaaGreatDoorChecked
import GoSem.Claim
import GoSem.ClaimJoined
import GoSem.ClaimMapViews
import Derived.JoinedTies
import Derived.KernelRfl
namespace Go.Proofs.YtgbndganadelpaaGreatDoor
/- THE CELL 'sum', in the pinned program and in every row, IS THE sha256 OF THE DUMP (.gsa) THAT YtgbndganadelpaaGreatDoorProg.lean LOADS. Nothing in Lean hashes anything: it is a label: what it is worth is what the hold of that sum in a sandbox is worth. -/
noncomputable def Tryz.pinned : Pinned := { name := "ytgbndganadelpaagreatdoor", sum := "236b4336e81dbc05672678c901622fa8aa5712b93d9a1870a0444d15cde484e6", checked := Tryz.checked }
namespace Rows
def none {H : Type} : Left H := { results := [], args := [] }

/- WHAT THE LISTED PACKAGE-LEVEL VARIABLES READ AS WHEN THE CALL BEGINS. Each datum BY PROGRAM (the guide's laid-datum.mjs) off the statement by which the dump's own 'gosem.cut.vars' lays the variable. In a bare row this is a premise. The card (YtgbndganadelpaaGreatDoorCards.lean) ties it to the program's text. -/
def laid_quadform_localmass_free {H : Type} : DataW H := .agg [.agg [.lit (.int .i64 2), .lit (.int .i64 1)], .agg [.lit (.int .i64 1), .lit (.int .i64 1)], .agg [.lit (.int .i64 1), .lit (.int .i64 0)], .agg [.lit (.int .i64 1), .lit (.int .i64 (-1))], .agg [.lit (.int .i64 2), .lit (.int .i64 (-1))], .agg [.lit (.int .i64 1), .lit (.int .i64 (-1))], .agg [.lit (.int .i64 1), .lit (.int .i64 0)], .agg [.lit (.int .i64 1), .lit (.int .i64 1)]]

/-- 'quadformlaw32.LocalmassRegular': WHATEVER THE INPUT: true; the input reads as it did. -/
def localmassRegularSpec : ChangeSpec := { name := "localmassRegular", fn := fun _ => fun
  | [d1, d2] => { results := [.lit (.bool true)], args := [d1, d2] }
  | _ => none }
def localmassRegularRow : OpenClaim := { program := "ytgbndganadelpaagreatdoor", sum := "236b4336e81dbc05672678c901622fa8aa5712b93d9a1870a0444d15cde484e6", func := "quadform/quadformlaw32.LocalmassRegular", spec := "localmassRegular", unfollowed := true, recurses := true, named := ["quadform/localmass.free"], apart := false, laid := [("quadform/localmass.free", laid_quadform_localmass_free)] }
def LocalmassRegularSaid : Prop := localmassRegularRow.holds Tryz.pinned (OpenSpec.ofChange localmassRegularSpec)

/-- ITS FALSE NEIGHBOUR: 'it returns false'. Refute it at one input. -/
def localmassRegularWrong : ChangeSpec := { name := "localmassRegular", fn := fun _ => fun
  | [d1, d2] => { results := [.lit (.bool false)], args := [d1, d2] }
  | _ => none }
def LocalmassRegularWrongFalsely : Prop := localmassRegularRow.holds Tryz.pinned (OpenSpec.ofChange localmassRegularWrong)

/-- 'quadformlaw32.LocalmassPositive': WHATEVER THE INPUT: true; the input reads as it did. -/
def localmassPositiveSpec : ChangeSpec := { name := "localmassPositive", fn := fun _ => fun
  | [d1, d2] => { results := [.lit (.bool true)], args := [d1, d2] }
  | _ => none }
def localmassPositiveRow : OpenClaim := { program := "ytgbndganadelpaagreatdoor", sum := "236b4336e81dbc05672678c901622fa8aa5712b93d9a1870a0444d15cde484e6", func := "quadform/quadformlaw32.LocalmassPositive", spec := "localmassPositive", unfollowed := true, recurses := true, named := ["quadform/localmass.free"], apart := false, laid := [("quadform/localmass.free", laid_quadform_localmass_free)] }
def LocalmassPositiveSaid : Prop := localmassPositiveRow.holds Tryz.pinned (OpenSpec.ofChange localmassPositiveSpec)

/-- ITS FALSE NEIGHBOUR: 'it returns false'. Refute it at one input. -/
def localmassPositiveWrong : ChangeSpec := { name := "localmassPositive", fn := fun _ => fun
  | [d1, d2] => { results := [.lit (.bool false)], args := [d1, d2] }
  | _ => none }
def LocalmassPositiveWrongFalsely : Prop := localmassPositiveRow.holds Tryz.pinned (OpenSpec.ofChange localmassPositiveWrong)

/-- 'quadformlaw32.LocalmassDiagonal': WHATEVER THE INPUT: true; the input reads as it did. -/
def localmassDiagonalSpec : ChangeSpec := { name := "localmassDiagonal", fn := fun _ => fun
  | [d1, d2, d3, d4, d5, d6, d7] => { results := [.lit (.bool true)], args := [d1, d2, d3, d4, d5, d6, d7] }
  | _ => none }
def localmassDiagonalRow : OpenClaim := { program := "ytgbndganadelpaagreatdoor", sum := "236b4336e81dbc05672678c901622fa8aa5712b93d9a1870a0444d15cde484e6", func := "quadform/quadformlaw32.LocalmassDiagonal", spec := "localmassDiagonal", unfollowed := true, recurses := true, named := ["quadform/localmass.free"], apart := false, laid := [("quadform/localmass.free", laid_quadform_localmass_free)] }
def LocalmassDiagonalSaid : Prop := localmassDiagonalRow.holds Tryz.pinned (OpenSpec.ofChange localmassDiagonalSpec)

/-- ITS FALSE NEIGHBOUR: 'it returns false'. Refute it at one input. -/
def localmassDiagonalWrong : ChangeSpec := { name := "localmassDiagonal", fn := fun _ => fun
  | [d1, d2, d3, d4, d5, d6, d7] => { results := [.lit (.bool false)], args := [d1, d2, d3, d4, d5, d6, d7] }
  | _ => none }
def LocalmassDiagonalWrongFalsely : Prop := localmassDiagonalRow.holds Tryz.pinned (OpenSpec.ofChange localmassDiagonalWrong)

/-- 'quadformlaw32.LocalmassCross': WHATEVER THE INPUT: true; the input reads as it did. -/
def localmassCrossSpec : ChangeSpec := { name := "localmassCross", fn := fun _ => fun
  | [d1, d2, d3, d4, d5, d6] => { results := [.lit (.bool true)], args := [d1, d2, d3, d4, d5, d6] }
  | _ => none }
def localmassCrossRow : OpenClaim := { program := "ytgbndganadelpaagreatdoor", sum := "236b4336e81dbc05672678c901622fa8aa5712b93d9a1870a0444d15cde484e6", func := "quadform/quadformlaw32.LocalmassCross", spec := "localmassCross", unfollowed := true, recurses := true, named := ["quadform/localmass.free"], apart := false, laid := [("quadform/localmass.free", laid_quadform_localmass_free)] }
def LocalmassCrossSaid : Prop := localmassCrossRow.holds Tryz.pinned (OpenSpec.ofChange localmassCrossSpec)

/-- ITS FALSE NEIGHBOUR: 'it returns false'. Refute it at one input. -/
def localmassCrossWrong : ChangeSpec := { name := "localmassCross", fn := fun _ => fun
  | [d1, d2, d3, d4, d5, d6] => { results := [.lit (.bool false)], args := [d1, d2, d3, d4, d5, d6] }
  | _ => none }
def LocalmassCrossWrongFalsely : Prop := localmassCrossRow.holds Tryz.pinned (OpenSpec.ofChange localmassCrossWrong)

/-- 'quadformlaw32.LocalmassMass': WHATEVER THE INPUT: true; the input reads as it did. -/
def localmassMassSpec : ChangeSpec := { name := "localmassMass", fn := fun _ => fun
  | [d1, d2, d3, d4, d5, d6] => { results := [.lit (.bool true)], args := [d1, d2, d3, d4, d5, d6] }
  | _ => none }
def localmassMassRow : OpenClaim := { program := "ytgbndganadelpaagreatdoor", sum := "236b4336e81dbc05672678c901622fa8aa5712b93d9a1870a0444d15cde484e6", func := "quadform/quadformlaw32.LocalmassMass", spec := "localmassMass", unfollowed := true, recurses := true, named := ["quadform/localmass.free"], apart := false, laid := [("quadform/localmass.free", laid_quadform_localmass_free)] }
def LocalmassMassSaid : Prop := localmassMassRow.holds Tryz.pinned (OpenSpec.ofChange localmassMassSpec)

/-- ITS FALSE NEIGHBOUR: 'it returns false'. Refute it at one input. -/
def localmassMassWrong : ChangeSpec := { name := "localmassMass", fn := fun _ => fun
  | [d1, d2, d3, d4, d5, d6] => { results := [.lit (.bool false)], args := [d1, d2, d3, d4, d5, d6] }
  | _ => none }
def LocalmassMassWrongFalsely : Prop := localmassMassRow.holds Tryz.pinned (OpenSpec.ofChange localmassMassWrong)

/-- 'quadformlaw32.LocalmassScales': WHATEVER THE INPUT: true; the input reads as it did. -/
def localmassScalesSpec : ChangeSpec := { name := "localmassScales", fn := fun _ => fun
  | [d1, d2] => { results := [.lit (.bool true)], args := [d1, d2] }
  | _ => none }
def localmassScalesRow : OpenClaim := { program := "ytgbndganadelpaagreatdoor", sum := "236b4336e81dbc05672678c901622fa8aa5712b93d9a1870a0444d15cde484e6", func := "quadform/quadformlaw32.LocalmassScales", spec := "localmassScales", unfollowed := true, recurses := true, named := ["quadform/localmass.free"], apart := false, laid := [("quadform/localmass.free", laid_quadform_localmass_free)] }
def LocalmassScalesSaid : Prop := localmassScalesRow.holds Tryz.pinned (OpenSpec.ofChange localmassScalesSpec)

/-- ITS FALSE NEIGHBOUR: 'it returns false'. Refute it at one input. -/
def localmassScalesWrong : ChangeSpec := { name := "localmassScales", fn := fun _ => fun
  | [d1, d2] => { results := [.lit (.bool false)], args := [d1, d2] }
  | _ => none }
def LocalmassScalesWrongFalsely : Prop := localmassScalesRow.holds Tryz.pinned (OpenSpec.ofChange localmassScalesWrong)

/-- 'quadformlaw32.LocalmassStandard': WHATEVER THE INPUT: true; the input reads as it did. -/
def localmassStandardSpec : ChangeSpec := { name := "localmassStandard", fn := fun _ => fun
  | [d1, d2, d3, d4, d5, d6] => { results := [.lit (.bool true)], args := [d1, d2, d3, d4, d5, d6] }
  | _ => none }
def localmassStandardRow : OpenClaim := { program := "ytgbndganadelpaagreatdoor", sum := "236b4336e81dbc05672678c901622fa8aa5712b93d9a1870a0444d15cde484e6", func := "quadform/quadformlaw32.LocalmassStandard", spec := "localmassStandard", unfollowed := true, recurses := true, named := ["quadform/localmass.free"], apart := false, laid := [("quadform/localmass.free", laid_quadform_localmass_free)] }
def LocalmassStandardSaid : Prop := localmassStandardRow.holds Tryz.pinned (OpenSpec.ofChange localmassStandardSpec)

/-- ITS FALSE NEIGHBOUR: 'it returns false'. Refute it at one input. -/
def localmassStandardWrong : ChangeSpec := { name := "localmassStandard", fn := fun _ => fun
  | [d1, d2, d3, d4, d5, d6] => { results := [.lit (.bool false)], args := [d1, d2, d3, d4, d5, d6] }
  | _ => none }
def LocalmassStandardWrongFalsely : Prop := localmassStandardRow.holds Tryz.pinned (OpenSpec.ofChange localmassStandardWrong)

/-- 'quadformlaw32.LocalmassSpecies': WHATEVER THE INPUT: true; the input reads as it did. -/
def localmassSpeciesSpec : ChangeSpec := { name := "localmassSpecies", fn := fun _ => fun
  | [d1, d2, d3, d4, d5, d6, d7, d8] => { results := [.lit (.bool true)], args := [d1, d2, d3, d4, d5, d6, d7, d8] }
  | _ => none }
def localmassSpeciesRow : OpenClaim := { program := "ytgbndganadelpaagreatdoor", sum := "236b4336e81dbc05672678c901622fa8aa5712b93d9a1870a0444d15cde484e6", func := "quadform/quadformlaw32.LocalmassSpecies", spec := "localmassSpecies", unfollowed := true, recurses := true, named := ["quadform/localmass.free"], apart := false, laid := [("quadform/localmass.free", laid_quadform_localmass_free)] }
def LocalmassSpeciesSaid : Prop := localmassSpeciesRow.holds Tryz.pinned (OpenSpec.ofChange localmassSpeciesSpec)

/-- ITS FALSE NEIGHBOUR: 'it returns false'. Refute it at one input. -/
def localmassSpeciesWrong : ChangeSpec := { name := "localmassSpecies", fn := fun _ => fun
  | [d1, d2, d3, d4, d5, d6, d7, d8] => { results := [.lit (.bool false)], args := [d1, d2, d3, d4, d5, d6, d7, d8] }
  | _ => none }
def LocalmassSpeciesWrongFalsely : Prop := localmassSpeciesRow.holds Tryz.pinned (OpenSpec.ofChange localmassSpeciesWrong)

/-- 'quadformlaw32.LocalmassWalks': WHATEVER THE INPUT: true; the input reads as it did. -/
def localmassWalksSpec : ChangeSpec := { name := "localmassWalks", fn := fun _ => fun
  | [d1, d2] => { results := [.lit (.bool true)], args := [d1, d2] }
  | _ => none }
def localmassWalksRow : OpenClaim := { program := "ytgbndganadelpaagreatdoor", sum := "236b4336e81dbc05672678c901622fa8aa5712b93d9a1870a0444d15cde484e6", func := "quadform/quadformlaw32.LocalmassWalks", spec := "localmassWalks", unfollowed := true, recurses := true, named := ["quadform/localmass.free"], apart := false, laid := [("quadform/localmass.free", laid_quadform_localmass_free)] }
def LocalmassWalksSaid : Prop := localmassWalksRow.holds Tryz.pinned (OpenSpec.ofChange localmassWalksSpec)

/-- ITS FALSE NEIGHBOUR: 'it returns false'. Refute it at one input. -/
def localmassWalksWrong : ChangeSpec := { name := "localmassWalks", fn := fun _ => fun
  | [d1, d2] => { results := [.lit (.bool false)], args := [d1, d2] }
  | _ => none }
def LocalmassWalksWrongFalsely : Prop := localmassWalksRow.holds Tryz.pinned (OpenSpec.ofChange localmassWalksWrong)

/- THE SECOND FORM. 'bulk': how many values and letters a reading holds, each counted each time it is reached (what is shared counts as often as it is met; a slice's spare places count too). A statement '..UptoSaid' is the law's where the arguments, and the package variables that the reading takes, are together of bulk at most 1048576: NARROWER than '..Said'. Prove '..Said' where nothing that the law and all that it calls make is longer than what came in: it says more and counts as full. Else prove '..UptoSaid'. A law counts once. -/
mutual
def uptoBulk {H : Type} : DataW H → Nat
  | .lit (.string bytes) => bytes.length + 1
  | .lit _ => 1
  | .nil => 1
  | .ptr d => uptoBulk d + 1
  | .slice elems spare => uptoBulkAll elems + uptoBulkAll spare + 1
  | .agg parts => uptoBulkAll parts + 1
  | .iface _ d => uptoBulk d + 1
  | .map entries => uptoBulkEntries entries + 1
  | .held _ => 1
def uptoBulkAll {H : Type} : List (DataW H) → Nat
  | [] => 0
  | d :: r => uptoBulk d + uptoBulkAll r
def uptoBulkEntries {H : Type} : List (Lit × DataW H) → Nat
  | [] => 0
  | x :: r => uptoBulkEntry x + uptoBulkEntries r
def uptoBulkEntry {H : Type} : Lit × DataW H → Nat
  | (.string bytes, d) => bytes.length + uptoBulk d + 1
  | (_, d) => uptoBulk d + 1
 end
def uptoSmall : (H : Type) → List (DataW H) → Bool := fun _ ds => decide (uptoBulkAll ds ≤ 1048576)
def OpenSpec.upto (s : _root_.Go.ChangeSpec) : _root_.Go.OpenSpec := { _root_.Go.OpenSpec.ofChange s with cond := some uptoSmall }

/-- 'quadformlaw32.LocalmassRegular', WHERE WHAT IT READS IS OF BULK AT MOST 1048576: true; the input reads as it did. -/
def localmassRegularUptoRow : OpenClaim := { program := "ytgbndganadelpaagreatdoor", sum := "236b4336e81dbc05672678c901622fa8aa5712b93d9a1870a0444d15cde484e6", func := "quadform/quadformlaw32.LocalmassRegular", spec := "localmassRegular", unfollowed := true, recurses := true, named := ["quadform/localmass.free"], apart := false, laid := [("quadform/localmass.free", laid_quadform_localmass_free)], narrowed := true }
def LocalmassRegularUptoSaid : Prop := localmassRegularUptoRow.holds Tryz.pinned (OpenSpec.upto localmassRegularSpec)

/-- 'quadformlaw32.LocalmassPositive', WHERE WHAT IT READS IS OF BULK AT MOST 1048576: true; the input reads as it did. -/
def localmassPositiveUptoRow : OpenClaim := { program := "ytgbndganadelpaagreatdoor", sum := "236b4336e81dbc05672678c901622fa8aa5712b93d9a1870a0444d15cde484e6", func := "quadform/quadformlaw32.LocalmassPositive", spec := "localmassPositive", unfollowed := true, recurses := true, named := ["quadform/localmass.free"], apart := false, laid := [("quadform/localmass.free", laid_quadform_localmass_free)], narrowed := true }
def LocalmassPositiveUptoSaid : Prop := localmassPositiveUptoRow.holds Tryz.pinned (OpenSpec.upto localmassPositiveSpec)

/-- 'quadformlaw32.LocalmassDiagonal', WHERE WHAT IT READS IS OF BULK AT MOST 1048576: true; the input reads as it did. -/
def localmassDiagonalUptoRow : OpenClaim := { program := "ytgbndganadelpaagreatdoor", sum := "236b4336e81dbc05672678c901622fa8aa5712b93d9a1870a0444d15cde484e6", func := "quadform/quadformlaw32.LocalmassDiagonal", spec := "localmassDiagonal", unfollowed := true, recurses := true, named := ["quadform/localmass.free"], apart := false, laid := [("quadform/localmass.free", laid_quadform_localmass_free)], narrowed := true }
def LocalmassDiagonalUptoSaid : Prop := localmassDiagonalUptoRow.holds Tryz.pinned (OpenSpec.upto localmassDiagonalSpec)

/-- 'quadformlaw32.LocalmassCross', WHERE WHAT IT READS IS OF BULK AT MOST 1048576: true; the input reads as it did. -/
def localmassCrossUptoRow : OpenClaim := { program := "ytgbndganadelpaagreatdoor", sum := "236b4336e81dbc05672678c901622fa8aa5712b93d9a1870a0444d15cde484e6", func := "quadform/quadformlaw32.LocalmassCross", spec := "localmassCross", unfollowed := true, recurses := true, named := ["quadform/localmass.free"], apart := false, laid := [("quadform/localmass.free", laid_quadform_localmass_free)], narrowed := true }
def LocalmassCrossUptoSaid : Prop := localmassCrossUptoRow.holds Tryz.pinned (OpenSpec.upto localmassCrossSpec)

/-- 'quadformlaw32.LocalmassMass', WHERE WHAT IT READS IS OF BULK AT MOST 1048576: true; the input reads as it did. -/
def localmassMassUptoRow : OpenClaim := { program := "ytgbndganadelpaagreatdoor", sum := "236b4336e81dbc05672678c901622fa8aa5712b93d9a1870a0444d15cde484e6", func := "quadform/quadformlaw32.LocalmassMass", spec := "localmassMass", unfollowed := true, recurses := true, named := ["quadform/localmass.free"], apart := false, laid := [("quadform/localmass.free", laid_quadform_localmass_free)], narrowed := true }
def LocalmassMassUptoSaid : Prop := localmassMassUptoRow.holds Tryz.pinned (OpenSpec.upto localmassMassSpec)

/-- 'quadformlaw32.LocalmassScales', WHERE WHAT IT READS IS OF BULK AT MOST 1048576: true; the input reads as it did. -/
def localmassScalesUptoRow : OpenClaim := { program := "ytgbndganadelpaagreatdoor", sum := "236b4336e81dbc05672678c901622fa8aa5712b93d9a1870a0444d15cde484e6", func := "quadform/quadformlaw32.LocalmassScales", spec := "localmassScales", unfollowed := true, recurses := true, named := ["quadform/localmass.free"], apart := false, laid := [("quadform/localmass.free", laid_quadform_localmass_free)], narrowed := true }
def LocalmassScalesUptoSaid : Prop := localmassScalesUptoRow.holds Tryz.pinned (OpenSpec.upto localmassScalesSpec)

/-- 'quadformlaw32.LocalmassStandard', WHERE WHAT IT READS IS OF BULK AT MOST 1048576: true; the input reads as it did. -/
def localmassStandardUptoRow : OpenClaim := { program := "ytgbndganadelpaagreatdoor", sum := "236b4336e81dbc05672678c901622fa8aa5712b93d9a1870a0444d15cde484e6", func := "quadform/quadformlaw32.LocalmassStandard", spec := "localmassStandard", unfollowed := true, recurses := true, named := ["quadform/localmass.free"], apart := false, laid := [("quadform/localmass.free", laid_quadform_localmass_free)], narrowed := true }
def LocalmassStandardUptoSaid : Prop := localmassStandardUptoRow.holds Tryz.pinned (OpenSpec.upto localmassStandardSpec)

/-- 'quadformlaw32.LocalmassSpecies', WHERE WHAT IT READS IS OF BULK AT MOST 1048576: true; the input reads as it did. -/
def localmassSpeciesUptoRow : OpenClaim := { program := "ytgbndganadelpaagreatdoor", sum := "236b4336e81dbc05672678c901622fa8aa5712b93d9a1870a0444d15cde484e6", func := "quadform/quadformlaw32.LocalmassSpecies", spec := "localmassSpecies", unfollowed := true, recurses := true, named := ["quadform/localmass.free"], apart := false, laid := [("quadform/localmass.free", laid_quadform_localmass_free)], narrowed := true }
def LocalmassSpeciesUptoSaid : Prop := localmassSpeciesUptoRow.holds Tryz.pinned (OpenSpec.upto localmassSpeciesSpec)

/-- 'quadformlaw32.LocalmassWalks', WHERE WHAT IT READS IS OF BULK AT MOST 1048576: true; the input reads as it did. -/
def localmassWalksUptoRow : OpenClaim := { program := "ytgbndganadelpaagreatdoor", sum := "236b4336e81dbc05672678c901622fa8aa5712b93d9a1870a0444d15cde484e6", func := "quadform/quadformlaw32.LocalmassWalks", spec := "localmassWalks", unfollowed := true, recurses := true, named := ["quadform/localmass.free"], apart := false, laid := [("quadform/localmass.free", laid_quadform_localmass_free)], narrowed := true }
def LocalmassWalksUptoSaid : Prop := localmassWalksUptoRow.holds Tryz.pinned (OpenSpec.upto localmassWalksSpec)

end Rows
end Go.Proofs.YtgbndganadelpaaGreatDoor
