/-
  No cell of these rows narrows 'for every input' (looked for: loops, veiled, ifaces, maps, wideKeys, modest, calm, conditions, laid).
  DERIVED. THE GIVEN ROWS OF THIS SEAT. 4 by the template 'for every input the law returns true; each argument reads behind the call as it read before'; 0 by the template 'total and deterministic' (their statements: YtlfnmgmbmgacgaaTotals.lean).
  GIVEN WITH THE SEED: the statements are not yours to turn. If you find one false, say at which input.
  Laid BY PROGRAM, IN A SANDBOX (cutbox-rows.mjs): the forced cells as the released guide's own fill.sh prints them over the translation cb6a84e577ecc960… (all of the seat's roots in one cut). By AI agents, Wed Nov 11 2026. No macro, syntax, notation, axiom, sorry.
-/
import Derived.Test.YtlfnmgmbmgacgaaChecked
import GoSem.Claim
import GoSem.ClaimJoined
import GoSem.ClaimMapViews
import Derived.JoinedTies
import Derived.KernelRfl
namespace Go.Proofs.Ytlfnmgmbmgacgaa
/- THE CELL 'sum', in the pinned program and in every row, IS THE sha256 OF THE DUMP (.gsa) THAT YtlfnmgmbmgacgaaProg.lean LOADS. Nothing in Lean hashes anything: it is a label: what it is worth is what the hold of that sum in a sandbox is worth. -/
noncomputable def Try.pinned : Pinned := { name := "ytlfnmgmbmgacgaa", sum := "cb6a84e577ecc9605dab20b63af4d4dd1a1be6665e459cbe22d23b2e64237fd0", checked := Try.checked }
namespace Rows
def none {H : Type} : Left H := { results := [], args := [] }

/-- 'bursarlaw06.WalAppends': WHATEVER THE INPUT: true; the input reads as it did. -/
def walAppendsSpec : ChangeSpec := { name := "walAppends", fn := fun _ => fun
  | [d] => { results := [.lit (.bool true)], args := [d] }
  | _ => none }
def walAppendsRow : OpenClaim := { program := "ytlfnmgmbmgacgaa", sum := "cb6a84e577ecc9605dab20b63af4d4dd1a1be6665e459cbe22d23b2e64237fd0", func := "bursar/bursarlaw06.WalAppends", spec := "walAppends", unfollowed := true, recurses := true, apart := false }
def WalAppendsSaid : Prop := walAppendsRow.holds Try.pinned (OpenSpec.ofChange walAppendsSpec)

/-- ITS FALSE NEIGHBOUR: 'it returns false'. Refute it at one input. -/
def walAppendsWrong : ChangeSpec := { name := "walAppends", fn := fun _ => fun
  | [d] => { results := [.lit (.bool false)], args := [d] }
  | _ => none }
def WalAppendsWrongFalsely : Prop := walAppendsRow.holds Try.pinned (OpenSpec.ofChange walAppendsWrong)

/-- 'bursarlaw06.WalForged': WHATEVER THE INPUT: true; the input reads as it did. -/
def walForgedSpec : ChangeSpec := { name := "walForged", fn := fun _ => fun
  | [d1, d2] => { results := [.lit (.bool true)], args := [d1, d2] }
  | _ => none }
def walForgedRow : OpenClaim := { program := "ytlfnmgmbmgacgaa", sum := "cb6a84e577ecc9605dab20b63af4d4dd1a1be6665e459cbe22d23b2e64237fd0", func := "bursar/bursarlaw06.WalForged", spec := "walForged", unfollowed := true, recurses := true, apart := false }
def WalForgedSaid : Prop := walForgedRow.holds Try.pinned (OpenSpec.ofChange walForgedSpec)

/-- ITS FALSE NEIGHBOUR: 'it returns false'. Refute it at one input. -/
def walForgedWrong : ChangeSpec := { name := "walForged", fn := fun _ => fun
  | [d1, d2] => { results := [.lit (.bool false)], args := [d1, d2] }
  | _ => none }
def WalForgedWrongFalsely : Prop := walForgedRow.holds Try.pinned (OpenSpec.ofChange walForgedWrong)

/-- 'bursarlaw06.WalScans': WHATEVER THE INPUT: true; the input reads as it did. -/
def walScansSpec : ChangeSpec := { name := "walScans", fn := fun _ => fun
  | [d] => { results := [.lit (.bool true)], args := [d] }
  | _ => none }
def walScansRow : OpenClaim := { program := "ytlfnmgmbmgacgaa", sum := "cb6a84e577ecc9605dab20b63af4d4dd1a1be6665e459cbe22d23b2e64237fd0", func := "bursar/bursarlaw06.WalScans", spec := "walScans", unfollowed := true, recurses := true, apart := false }
def WalScansSaid : Prop := walScansRow.holds Try.pinned (OpenSpec.ofChange walScansSpec)

/-- ITS FALSE NEIGHBOUR: 'it returns false'. Refute it at one input. -/
def walScansWrong : ChangeSpec := { name := "walScans", fn := fun _ => fun
  | [d] => { results := [.lit (.bool false)], args := [d] }
  | _ => none }
def WalScansWrongFalsely : Prop := walScansRow.holds Try.pinned (OpenSpec.ofChange walScansWrong)

/-- 'bursarlaw06.WalCuts': WHATEVER THE INPUT: true; the input reads as it did. -/
def walCutsSpec : ChangeSpec := { name := "walCuts", fn := fun _ => fun
  | [d1, d2, d3] => { results := [.lit (.bool true)], args := [d1, d2, d3] }
  | _ => none }
def walCutsRow : OpenClaim := { program := "ytlfnmgmbmgacgaa", sum := "cb6a84e577ecc9605dab20b63af4d4dd1a1be6665e459cbe22d23b2e64237fd0", func := "bursar/bursarlaw06.WalCuts", spec := "walCuts", unfollowed := true, recurses := true, apart := false }
def WalCutsSaid : Prop := walCutsRow.holds Try.pinned (OpenSpec.ofChange walCutsSpec)

/-- ITS FALSE NEIGHBOUR: 'it returns false'. Refute it at one input. -/
def walCutsWrong : ChangeSpec := { name := "walCuts", fn := fun _ => fun
  | [d1, d2, d3] => { results := [.lit (.bool false)], args := [d1, d2, d3] }
  | _ => none }
def WalCutsWrongFalsely : Prop := walCutsRow.holds Try.pinned (OpenSpec.ofChange walCutsWrong)

/- THE SECOND FORM. 'bulk': how many values and letters a reading holds, each counted each time it is reached (what is shared counts as often as it is met; a slice's spare places count too). A statement '..UptoSaid' is the law's where the arguments, and the package variables that the reading takes, are together of bulk at most 1048576: NARROWER than '..Said'. Prove '..Said' where nothing that the law and all that it calls make is longer than what came in: it says more and counts as full. Else prove '..UptoSaid'. A law counts once. -/
mutual
def uptoBulk {H : Type} : DataW H → Nat
  | .lit (.string bytes) => bytes.length + 1
  | .lit _ => 1
  | .nil => 1
  | .ptr d => uptoBulk d + 1
  | .slice elems spare => uptoBulkAll elems + uptoBulkAll spare + 1
  | .agg parts => uptoBulkAll parts + 1
  | .iface _ d => uptoBulk d + 1
  | .map entries => uptoBulkEntries entries + 1
  | .held _ => 1
def uptoBulkAll {H : Type} : List (DataW H) → Nat
  | [] => 0
  | d :: r => uptoBulk d + uptoBulkAll r
def uptoBulkEntries {H : Type} : List (Lit × DataW H) → Nat
  | [] => 0
  | x :: r => uptoBulkEntry x + uptoBulkEntries r
def uptoBulkEntry {H : Type} : Lit × DataW H → Nat
  | (.string bytes, d) => bytes.length + uptoBulk d + 1
  | (_, d) => uptoBulk d + 1
 end
def uptoSmall : (H : Type) → List (DataW H) → Bool := fun _ ds => decide (uptoBulkAll ds ≤ 1048576)
def OpenSpec.upto (s : _root_.Go.ChangeSpec) : _root_.Go.OpenSpec := { _root_.Go.OpenSpec.ofChange s with cond := some uptoSmall }

/-- 'bursarlaw06.WalAppends', WHERE WHAT IT READS IS OF BULK AT MOST 1048576: true; the input reads as it did. -/
def walAppendsUptoRow : OpenClaim := { program := "ytlfnmgmbmgacgaa", sum := "cb6a84e577ecc9605dab20b63af4d4dd1a1be6665e459cbe22d23b2e64237fd0", func := "bursar/bursarlaw06.WalAppends", spec := "walAppends", unfollowed := true, recurses := true, apart := false, narrowed := true }
def WalAppendsUptoSaid : Prop := walAppendsUptoRow.holds Try.pinned (OpenSpec.upto walAppendsSpec)

/-- 'bursarlaw06.WalForged', WHERE WHAT IT READS IS OF BULK AT MOST 1048576: true; the input reads as it did. -/
def walForgedUptoRow : OpenClaim := { program := "ytlfnmgmbmgacgaa", sum := "cb6a84e577ecc9605dab20b63af4d4dd1a1be6665e459cbe22d23b2e64237fd0", func := "bursar/bursarlaw06.WalForged", spec := "walForged", unfollowed := true, recurses := true, apart := false, narrowed := true }
def WalForgedUptoSaid : Prop := walForgedUptoRow.holds Try.pinned (OpenSpec.upto walForgedSpec)

/-- 'bursarlaw06.WalScans', WHERE WHAT IT READS IS OF BULK AT MOST 1048576: true; the input reads as it did. -/
def walScansUptoRow : OpenClaim := { program := "ytlfnmgmbmgacgaa", sum := "cb6a84e577ecc9605dab20b63af4d4dd1a1be6665e459cbe22d23b2e64237fd0", func := "bursar/bursarlaw06.WalScans", spec := "walScans", unfollowed := true, recurses := true, apart := false, narrowed := true }
def WalScansUptoSaid : Prop := walScansUptoRow.holds Try.pinned (OpenSpec.upto walScansSpec)

/-- 'bursarlaw06.WalCuts', WHERE WHAT IT READS IS OF BULK AT MOST 1048576: true; the input reads as it did. -/
def walCutsUptoRow : OpenClaim := { program := "ytlfnmgmbmgacgaa", sum := "cb6a84e577ecc9605dab20b63af4d4dd1a1be6665e459cbe22d23b2e64237fd0", func := "bursar/bursarlaw06.WalCuts", spec := "walCuts", unfollowed := true, recurses := true, apart := false, narrowed := true }
def WalCutsUptoSaid : Prop := walCutsUptoRow.holds Try.pinned (OpenSpec.upto walCutsSpec)

end Rows
end Go.Proofs.Ytlfnmgmbmgacgaa
