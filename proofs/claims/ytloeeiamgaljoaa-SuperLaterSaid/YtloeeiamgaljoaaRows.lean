/-
  No cell of these rows narrows 'for every input' (looked for: loops, veiled, ifaces, maps, wideKeys, modest, calm, conditions, laid).
  DERIVED. THE GIVEN ROWS OF THIS SEAT. 11 by the template 'for every input the law returns true; each argument reads behind the call as it read before'; 0 by the template 'total and deterministic' (their statements: YtloeeiamgaljoaaTotals.lean).
  GIVEN WITH THE SEED: the statements are not yours to turn. If you find one false, say at which input.
  Laid BY PROGRAM, IN A SANDBOX (cutbox-rows.mjs): the forced cells as the released guide's own fill.sh prints them over the translation e3cc44f6d17bfa53… (all of the seat's roots in one cut). By AI agents, Wed Nov 11 2026. No macro, syntax, notation, axiom, sorry.
-/
import Derived.Test.YtloeeiamgaljoaaChecked
import GoSem.Claim
import GoSem.ClaimJoined
import GoSem.ClaimMapViews
import Derived.JoinedTies
import Derived.KernelRfl
namespace Go.Proofs.Ytloeeiamgaljoaa
/- THE CELL 'sum', in the pinned program and in every row, IS THE sha256 OF THE DUMP (.gsa) THAT YtloeeiamgaljoaaProg.lean LOADS. Nothing in Lean hashes anything: it is a label: what it is worth is what the hold of that sum in a sandbox is worth. -/
noncomputable def Try.pinned : Pinned := { name := "ytloeeiamgaljoaa", sum := "e3cc44f6d17bfa53097479fed0e0952f462e9ba7153d6d8b2f85b959cc841df6", checked := Try.checked }
namespace Rows
def none {H : Type} : Left H := { results := [], args := [] }

/-- 'bursarlaw03.CheckSums': WHATEVER THE INPUT: true; the input reads as it did. -/
def checkSumsSpec : ChangeSpec := { name := "checkSums", fn := fun _ => fun
  | [d] => { results := [.lit (.bool true)], args := [d] }
  | _ => none }
def checkSumsRow : OpenClaim := { program := "ytloeeiamgaljoaa", sum := "e3cc44f6d17bfa53097479fed0e0952f462e9ba7153d6d8b2f85b959cc841df6", func := "bursar/bursarlaw03.CheckSums", spec := "checkSums", apart := false }
def CheckSumsSaid : Prop := checkSumsRow.holds Try.pinned (OpenSpec.ofChange checkSumsSpec)

/-- ITS FALSE NEIGHBOUR: 'it returns false'. Refute it at one input. -/
def checkSumsWrong : ChangeSpec := { name := "checkSums", fn := fun _ => fun
  | [d] => { results := [.lit (.bool false)], args := [d] }
  | _ => none }
def CheckSumsWrongFalsely : Prop := checkSumsRow.holds Try.pinned (OpenSpec.ofChange checkSumsWrong)

/-- 'bursarlaw03.CheckThree': WHATEVER THE INPUT: true; the input reads as it did. -/
def checkThreeSpec : ChangeSpec := { name := "checkThree", fn := fun _ => fun
  | [d1, d2, d3] => { results := [.lit (.bool true)], args := [d1, d2, d3] }
  | _ => none }
def checkThreeRow : OpenClaim := { program := "ytloeeiamgaljoaa", sum := "e3cc44f6d17bfa53097479fed0e0952f462e9ba7153d6d8b2f85b959cc841df6", func := "bursar/bursarlaw03.CheckThree", spec := "checkThree", apart := false }
def CheckThreeSaid : Prop := checkThreeRow.holds Try.pinned (OpenSpec.ofChange checkThreeSpec)

/-- ITS FALSE NEIGHBOUR: 'it returns false'. Refute it at one input. -/
def checkThreeWrong : ChangeSpec := { name := "checkThree", fn := fun _ => fun
  | [d1, d2, d3] => { results := [.lit (.bool false)], args := [d1, d2, d3] }
  | _ => none }
def CheckThreeWrongFalsely : Prop := checkThreeRow.holds Try.pinned (OpenSpec.ofChange checkThreeWrong)

/-- 'bursarlaw03.CheckSeals': WHATEVER THE INPUT: true; the input reads as it did. -/
def checkSealsSpec : ChangeSpec := { name := "checkSeals", fn := fun _ => fun
  | [d1, d2] => { results := [.lit (.bool true)], args := [d1, d2] }
  | _ => none }
def checkSealsRow : OpenClaim := { program := "ytloeeiamgaljoaa", sum := "e3cc44f6d17bfa53097479fed0e0952f462e9ba7153d6d8b2f85b959cc841df6", func := "bursar/bursarlaw03.CheckSeals", spec := "checkSeals", apart := false }
def CheckSealsSaid : Prop := checkSealsRow.holds Try.pinned (OpenSpec.ofChange checkSealsSpec)

/-- ITS FALSE NEIGHBOUR: 'it returns false'. Refute it at one input. -/
def checkSealsWrong : ChangeSpec := { name := "checkSeals", fn := fun _ => fun
  | [d1, d2] => { results := [.lit (.bool false)], args := [d1, d2] }
  | _ => none }
def CheckSealsWrongFalsely : Prop := checkSealsRow.holds Try.pinned (OpenSpec.ofChange checkSealsWrong)

/-- 'bursarlaw03.CheckFinds': WHATEVER THE INPUT: true; the input reads as it did. -/
def checkFindsSpec : ChangeSpec := { name := "checkFinds", fn := fun _ => fun
  | [d1, d2, d3] => { results := [.lit (.bool true)], args := [d1, d2, d3] }
  | _ => none }
def checkFindsRow : OpenClaim := { program := "ytloeeiamgaljoaa", sum := "e3cc44f6d17bfa53097479fed0e0952f462e9ba7153d6d8b2f85b959cc841df6", func := "bursar/bursarlaw03.CheckFinds", spec := "checkFinds", apart := false }
def CheckFindsSaid : Prop := checkFindsRow.holds Try.pinned (OpenSpec.ofChange checkFindsSpec)

/-- ITS FALSE NEIGHBOUR: 'it returns false'. Refute it at one input. -/
def checkFindsWrong : ChangeSpec := { name := "checkFinds", fn := fun _ => fun
  | [d1, d2, d3] => { results := [.lit (.bool false)], args := [d1, d2, d3] }
  | _ => none }
def CheckFindsWrongFalsely : Prop := checkFindsRow.holds Try.pinned (OpenSpec.ofChange checkFindsWrong)

/-- 'bursarlaw03.CheckSame': WHATEVER THE INPUT: true; the input reads as it did. -/
def checkSameSpec : ChangeSpec := { name := "checkSame", fn := fun _ => fun
  | [d1, d2] => { results := [.lit (.bool true)], args := [d1, d2] }
  | _ => none }
def checkSameRow : OpenClaim := { program := "ytloeeiamgaljoaa", sum := "e3cc44f6d17bfa53097479fed0e0952f462e9ba7153d6d8b2f85b959cc841df6", func := "bursar/bursarlaw03.CheckSame", spec := "checkSame", apart := false }
def CheckSameSaid : Prop := checkSameRow.holds Try.pinned (OpenSpec.ofChange checkSameSpec)

/-- ITS FALSE NEIGHBOUR: 'it returns false'. Refute it at one input. -/
def checkSameWrong : ChangeSpec := { name := "checkSame", fn := fun _ => fun
  | [d1, d2] => { results := [.lit (.bool false)], args := [d1, d2] }
  | _ => none }
def CheckSameWrongFalsely : Prop := checkSameRow.holds Try.pinned (OpenSpec.ofChange checkSameWrong)

/-- 'bursarlaw07.SuperPlans': WHATEVER THE INPUT: true; the input reads as it did. -/
def superPlansSpec : ChangeSpec := { name := "superPlans", fn := fun _ => fun
  | [d1, d2, d3] => { results := [.lit (.bool true)], args := [d1, d2, d3] }
  | _ => none }
def superPlansRow : OpenClaim := { program := "ytloeeiamgaljoaa", sum := "e3cc44f6d17bfa53097479fed0e0952f462e9ba7153d6d8b2f85b959cc841df6", func := "bursar/bursarlaw07.SuperPlans", spec := "superPlans", apart := false }
def SuperPlansSaid : Prop := superPlansRow.holds Try.pinned (OpenSpec.ofChange superPlansSpec)

/-- ITS FALSE NEIGHBOUR: 'it returns false'. Refute it at one input. -/
def superPlansWrong : ChangeSpec := { name := "superPlans", fn := fun _ => fun
  | [d1, d2, d3] => { results := [.lit (.bool false)], args := [d1, d2, d3] }
  | _ => none }
def SuperPlansWrongFalsely : Prop := superPlansRow.holds Try.pinned (OpenSpec.ofChange superPlansWrong)

/-- 'bursarlaw07.SuperApart': WHATEVER THE INPUT: true; the input reads as it did. -/
def superApartSpec : ChangeSpec := { name := "superApart", fn := fun _ => fun
  | [d] => { results := [.lit (.bool true)], args := [d] }
  | _ => none }
def superApartRow : OpenClaim := { program := "ytloeeiamgaljoaa", sum := "e3cc44f6d17bfa53097479fed0e0952f462e9ba7153d6d8b2f85b959cc841df6", func := "bursar/bursarlaw07.SuperApart", spec := "superApart", apart := false }
def SuperApartSaid : Prop := superApartRow.holds Try.pinned (OpenSpec.ofChange superApartSpec)

/-- ITS FALSE NEIGHBOUR: 'it returns false'. Refute it at one input. -/
def superApartWrong : ChangeSpec := { name := "superApart", fn := fun _ => fun
  | [d] => { results := [.lit (.bool false)], args := [d] }
  | _ => none }
def SuperApartWrongFalsely : Prop := superApartRow.holds Try.pinned (OpenSpec.ofChange superApartWrong)

/-- 'bursarlaw07.SuperCodes': WHATEVER THE INPUT: true; the input reads as it did. -/
def superCodesSpec : ChangeSpec := { name := "superCodes", fn := fun _ => fun
  | [d1, d2] => { results := [.lit (.bool true)], args := [d1, d2] }
  | _ => none }
def superCodesRow : OpenClaim := { program := "ytloeeiamgaljoaa", sum := "e3cc44f6d17bfa53097479fed0e0952f462e9ba7153d6d8b2f85b959cc841df6", func := "bursar/bursarlaw07.SuperCodes", spec := "superCodes", apart := false }
def SuperCodesSaid : Prop := superCodesRow.holds Try.pinned (OpenSpec.ofChange superCodesSpec)

/-- ITS FALSE NEIGHBOUR: 'it returns false'. Refute it at one input. -/
def superCodesWrong : ChangeSpec := { name := "superCodes", fn := fun _ => fun
  | [d1, d2] => { results := [.lit (.bool false)], args := [d1, d2] }
  | _ => none }
def SuperCodesWrongFalsely : Prop := superCodesRow.holds Try.pinned (OpenSpec.ofChange superCodesWrong)

/-- 'bursarlaw07.SuperFinds': WHATEVER THE INPUT: true; the input reads as it did. -/
def superFindsSpec : ChangeSpec := { name := "superFinds", fn := fun _ => fun
  | [d] => { results := [.lit (.bool true)], args := [d] }
  | _ => none }
def superFindsRow : OpenClaim := { program := "ytloeeiamgaljoaa", sum := "e3cc44f6d17bfa53097479fed0e0952f462e9ba7153d6d8b2f85b959cc841df6", func := "bursar/bursarlaw07.SuperFinds", spec := "superFinds", apart := false }
def SuperFindsSaid : Prop := superFindsRow.holds Try.pinned (OpenSpec.ofChange superFindsSpec)

/-- ITS FALSE NEIGHBOUR: 'it returns false'. Refute it at one input. -/
def superFindsWrong : ChangeSpec := { name := "superFinds", fn := fun _ => fun
  | [d] => { results := [.lit (.bool false)], args := [d] }
  | _ => none }
def SuperFindsWrongFalsely : Prop := superFindsRow.holds Try.pinned (OpenSpec.ofChange superFindsWrong)

/-- 'bursarlaw07.SuperChooses': WHATEVER THE INPUT: true; the input reads as it did. -/
def superChoosesSpec : ChangeSpec := { name := "superChooses", fn := fun _ => fun
  | [d1, d2] => { results := [.lit (.bool true)], args := [d1, d2] }
  | _ => none }
def superChoosesRow : OpenClaim := { program := "ytloeeiamgaljoaa", sum := "e3cc44f6d17bfa53097479fed0e0952f462e9ba7153d6d8b2f85b959cc841df6", func := "bursar/bursarlaw07.SuperChooses", spec := "superChooses", apart := false }
def SuperChoosesSaid : Prop := superChoosesRow.holds Try.pinned (OpenSpec.ofChange superChoosesSpec)

/-- ITS FALSE NEIGHBOUR: 'it returns false'. Refute it at one input. -/
def superChoosesWrong : ChangeSpec := { name := "superChooses", fn := fun _ => fun
  | [d1, d2] => { results := [.lit (.bool false)], args := [d1, d2] }
  | _ => none }
def SuperChoosesWrongFalsely : Prop := superChoosesRow.holds Try.pinned (OpenSpec.ofChange superChoosesWrong)

/-- 'bursarlaw07.SuperLater': WHATEVER THE INPUT: true; the input reads as it did. -/
def superLaterSpec : ChangeSpec := { name := "superLater", fn := fun _ => fun
  | [d1, d2] => { results := [.lit (.bool true)], args := [d1, d2] }
  | _ => none }
def superLaterRow : OpenClaim := { program := "ytloeeiamgaljoaa", sum := "e3cc44f6d17bfa53097479fed0e0952f462e9ba7153d6d8b2f85b959cc841df6", func := "bursar/bursarlaw07.SuperLater", spec := "superLater", apart := false }
def SuperLaterSaid : Prop := superLaterRow.holds Try.pinned (OpenSpec.ofChange superLaterSpec)

/-- ITS FALSE NEIGHBOUR: 'it returns false'. Refute it at one input. -/
def superLaterWrong : ChangeSpec := { name := "superLater", fn := fun _ => fun
  | [d1, d2] => { results := [.lit (.bool false)], args := [d1, d2] }
  | _ => none }
def SuperLaterWrongFalsely : Prop := superLaterRow.holds Try.pinned (OpenSpec.ofChange superLaterWrong)

/- THE SECOND FORM. 'bulk': how many values and letters a reading holds, each counted each time it is reached (what is shared counts as often as it is met; a slice's spare places count too). A statement '..UptoSaid' is the law's where the arguments, and the package variables that the reading takes, are together of bulk at most 1048576: NARROWER than '..Said'. Prove '..Said' where nothing that the law and all that it calls make is longer than what came in: it says more and counts as full. Else prove '..UptoSaid'. A law counts once. -/
mutual
def uptoBulk {H : Type} : DataW H → Nat
  | .lit (.string bytes) => bytes.length + 1
  | .lit _ => 1
  | .nil => 1
  | .ptr d => uptoBulk d + 1
  | .slice elems spare => uptoBulkAll elems + uptoBulkAll spare + 1
  | .agg parts => uptoBulkAll parts + 1
  | .iface _ d => uptoBulk d + 1
  | .map entries => uptoBulkEntries entries + 1
  | .held _ => 1
def uptoBulkAll {H : Type} : List (DataW H) → Nat
  | [] => 0
  | d :: r => uptoBulk d + uptoBulkAll r
def uptoBulkEntries {H : Type} : List (Lit × DataW H) → Nat
  | [] => 0
  | x :: r => uptoBulkEntry x + uptoBulkEntries r
def uptoBulkEntry {H : Type} : Lit × DataW H → Nat
  | (.string bytes, d) => bytes.length + uptoBulk d + 1
  | (_, d) => uptoBulk d + 1
 end
def uptoSmall : (H : Type) → List (DataW H) → Bool := fun _ ds => decide (uptoBulkAll ds ≤ 1048576)
def OpenSpec.upto (s : _root_.Go.ChangeSpec) : _root_.Go.OpenSpec := { _root_.Go.OpenSpec.ofChange s with cond := some uptoSmall }

/-- 'bursarlaw03.CheckSums', WHERE WHAT IT READS IS OF BULK AT MOST 1048576: true; the input reads as it did. -/
def checkSumsUptoRow : OpenClaim := { program := "ytloeeiamgaljoaa", sum := "e3cc44f6d17bfa53097479fed0e0952f462e9ba7153d6d8b2f85b959cc841df6", func := "bursar/bursarlaw03.CheckSums", spec := "checkSums", apart := false, narrowed := true }
def CheckSumsUptoSaid : Prop := checkSumsUptoRow.holds Try.pinned (OpenSpec.upto checkSumsSpec)

/-- 'bursarlaw03.CheckThree', WHERE WHAT IT READS IS OF BULK AT MOST 1048576: true; the input reads as it did. -/
def checkThreeUptoRow : OpenClaim := { program := "ytloeeiamgaljoaa", sum := "e3cc44f6d17bfa53097479fed0e0952f462e9ba7153d6d8b2f85b959cc841df6", func := "bursar/bursarlaw03.CheckThree", spec := "checkThree", apart := false, narrowed := true }
def CheckThreeUptoSaid : Prop := checkThreeUptoRow.holds Try.pinned (OpenSpec.upto checkThreeSpec)

/-- 'bursarlaw03.CheckSeals', WHERE WHAT IT READS IS OF BULK AT MOST 1048576: true; the input reads as it did. -/
def checkSealsUptoRow : OpenClaim := { program := "ytloeeiamgaljoaa", sum := "e3cc44f6d17bfa53097479fed0e0952f462e9ba7153d6d8b2f85b959cc841df6", func := "bursar/bursarlaw03.CheckSeals", spec := "checkSeals", apart := false, narrowed := true }
def CheckSealsUptoSaid : Prop := checkSealsUptoRow.holds Try.pinned (OpenSpec.upto checkSealsSpec)

/-- 'bursarlaw03.CheckFinds', WHERE WHAT IT READS IS OF BULK AT MOST 1048576: true; the input reads as it did. -/
def checkFindsUptoRow : OpenClaim := { program := "ytloeeiamgaljoaa", sum := "e3cc44f6d17bfa53097479fed0e0952f462e9ba7153d6d8b2f85b959cc841df6", func := "bursar/bursarlaw03.CheckFinds", spec := "checkFinds", apart := false, narrowed := true }
def CheckFindsUptoSaid : Prop := checkFindsUptoRow.holds Try.pinned (OpenSpec.upto checkFindsSpec)

/-- 'bursarlaw03.CheckSame', WHERE WHAT IT READS IS OF BULK AT MOST 1048576: true; the input reads as it did. -/
def checkSameUptoRow : OpenClaim := { program := "ytloeeiamgaljoaa", sum := "e3cc44f6d17bfa53097479fed0e0952f462e9ba7153d6d8b2f85b959cc841df6", func := "bursar/bursarlaw03.CheckSame", spec := "checkSame", apart := false, narrowed := true }
def CheckSameUptoSaid : Prop := checkSameUptoRow.holds Try.pinned (OpenSpec.upto checkSameSpec)

/-- 'bursarlaw07.SuperPlans', WHERE WHAT IT READS IS OF BULK AT MOST 1048576: true; the input reads as it did. -/
def superPlansUptoRow : OpenClaim := { program := "ytloeeiamgaljoaa", sum := "e3cc44f6d17bfa53097479fed0e0952f462e9ba7153d6d8b2f85b959cc841df6", func := "bursar/bursarlaw07.SuperPlans", spec := "superPlans", apart := false, narrowed := true }
def SuperPlansUptoSaid : Prop := superPlansUptoRow.holds Try.pinned (OpenSpec.upto superPlansSpec)

/-- 'bursarlaw07.SuperApart', WHERE WHAT IT READS IS OF BULK AT MOST 1048576: true; the input reads as it did. -/
def superApartUptoRow : OpenClaim := { program := "ytloeeiamgaljoaa", sum := "e3cc44f6d17bfa53097479fed0e0952f462e9ba7153d6d8b2f85b959cc841df6", func := "bursar/bursarlaw07.SuperApart", spec := "superApart", apart := false, narrowed := true }
def SuperApartUptoSaid : Prop := superApartUptoRow.holds Try.pinned (OpenSpec.upto superApartSpec)

/-- 'bursarlaw07.SuperCodes', WHERE WHAT IT READS IS OF BULK AT MOST 1048576: true; the input reads as it did. -/
def superCodesUptoRow : OpenClaim := { program := "ytloeeiamgaljoaa", sum := "e3cc44f6d17bfa53097479fed0e0952f462e9ba7153d6d8b2f85b959cc841df6", func := "bursar/bursarlaw07.SuperCodes", spec := "superCodes", apart := false, narrowed := true }
def SuperCodesUptoSaid : Prop := superCodesUptoRow.holds Try.pinned (OpenSpec.upto superCodesSpec)

/-- 'bursarlaw07.SuperFinds', WHERE WHAT IT READS IS OF BULK AT MOST 1048576: true; the input reads as it did. -/
def superFindsUptoRow : OpenClaim := { program := "ytloeeiamgaljoaa", sum := "e3cc44f6d17bfa53097479fed0e0952f462e9ba7153d6d8b2f85b959cc841df6", func := "bursar/bursarlaw07.SuperFinds", spec := "superFinds", apart := false, narrowed := true }
def SuperFindsUptoSaid : Prop := superFindsUptoRow.holds Try.pinned (OpenSpec.upto superFindsSpec)

/-- 'bursarlaw07.SuperChooses', WHERE WHAT IT READS IS OF BULK AT MOST 1048576: true; the input reads as it did. -/
def superChoosesUptoRow : OpenClaim := { program := "ytloeeiamgaljoaa", sum := "e3cc44f6d17bfa53097479fed0e0952f462e9ba7153d6d8b2f85b959cc841df6", func := "bursar/bursarlaw07.SuperChooses", spec := "superChooses", apart := false, narrowed := true }
def SuperChoosesUptoSaid : Prop := superChoosesUptoRow.holds Try.pinned (OpenSpec.upto superChoosesSpec)

/-- 'bursarlaw07.SuperLater', WHERE WHAT IT READS IS OF BULK AT MOST 1048576: true; the input reads as it did. -/
def superLaterUptoRow : OpenClaim := { program := "ytloeeiamgaljoaa", sum := "e3cc44f6d17bfa53097479fed0e0952f462e9ba7153d6d8b2f85b959cc841df6", func := "bursar/bursarlaw07.SuperLater", spec := "superLater", apart := false, narrowed := true }
def SuperLaterUptoSaid : Prop := superLaterUptoRow.holds Try.pinned (OpenSpec.upto superLaterSpec)

end Rows
end Go.Proofs.Ytloeeiamgaljoaa
