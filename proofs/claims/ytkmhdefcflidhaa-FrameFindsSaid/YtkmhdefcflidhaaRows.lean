/-
  No cell of these rows narrows 'for every input' (looked for: loops, veiled, ifaces, maps, wideKeys, modest, calm, conditions, laid).
  DERIVED. THE GIVEN ROWS OF THIS SEAT. 9 by the template 'for every input the law returns true; each argument reads behind the call as it read before'; 0 by the template 'total and deterministic' (their statements: YtkmhdefcflidhaaTotals.lean).
  GIVEN WITH THE SEED: the statements are not yours to turn. If you find one false, say at which input.
  Laid BY PROGRAM, IN A SANDBOX (cutbox-rows.mjs): the forced cells as the released guide's own fill.sh prints them over the translation 36c95187252b41f0… (all of the seat's roots in one cut). By AI agents, Wed Nov 11 2026. No macro, syntax, notation, axiom, sorry.
-/
import Derived.Test.YtkmhdefcflidhaaChecked
import GoSem.Claim
import GoSem.ClaimJoined
import GoSem.ClaimMapViews
import Derived.JoinedTies
import Derived.KernelRfl
namespace Go.Proofs.Ytkmhdefcflidhaa
/- THE CELL 'sum', in the pinned program and in every row, IS THE sha256 OF THE DUMP (.gsa) THAT YtkmhdefcflidhaaProg.lean LOADS. Nothing in Lean hashes anything: it is a label: what it is worth is what the hold of that sum in a sandbox is worth. -/
noncomputable def Try.pinned : Pinned := { name := "ytkmhdefcflidhaa", sum := "36c95187252b41f0181e158a46382d699d944520ffc841cbc1de746e1db4a1da", checked := Try.checked }
namespace Rows
def none {H : Type} : Left H := { results := [], args := [] }

/-- 'bursarlaw04.DiskCrashes': WHATEVER THE INPUT: true; the input reads as it did. -/
def diskCrashesSpec : ChangeSpec := { name := "diskCrashes", fn := fun _ => fun
  | [d1, d2, d3] => { results := [.lit (.bool true)], args := [d1, d2, d3] }
  | _ => none }
def diskCrashesRow : OpenClaim := { program := "ytkmhdefcflidhaa", sum := "36c95187252b41f0181e158a46382d699d944520ffc841cbc1de746e1db4a1da", func := "bursar/bursarlaw04.DiskCrashes", spec := "diskCrashes", unfollowed := true, recurses := true, apart := false }
def DiskCrashesSaid : Prop := diskCrashesRow.holds Try.pinned (OpenSpec.ofChange diskCrashesSpec)

/-- ITS FALSE NEIGHBOUR: 'it returns false'. Refute it at one input. -/
def diskCrashesWrong : ChangeSpec := { name := "diskCrashes", fn := fun _ => fun
  | [d1, d2, d3] => { results := [.lit (.bool false)], args := [d1, d2, d3] }
  | _ => none }
def DiskCrashesWrongFalsely : Prop := diskCrashesRow.holds Try.pinned (OpenSpec.ofChange diskCrashesWrong)

/-- 'bursarlaw04.DiskKeeps': WHATEVER THE INPUT: true; the input reads as it did. -/
def diskKeepsSpec : ChangeSpec := { name := "diskKeeps", fn := fun _ => fun
  | [d1, d2, d3] => { results := [.lit (.bool true)], args := [d1, d2, d3] }
  | _ => none }
def diskKeepsRow : OpenClaim := { program := "ytkmhdefcflidhaa", sum := "36c95187252b41f0181e158a46382d699d944520ffc841cbc1de746e1db4a1da", func := "bursar/bursarlaw04.DiskKeeps", spec := "diskKeeps", unfollowed := true, recurses := true, apart := false }
def DiskKeepsSaid : Prop := diskKeepsRow.holds Try.pinned (OpenSpec.ofChange diskKeepsSpec)

/-- ITS FALSE NEIGHBOUR: 'it returns false'. Refute it at one input. -/
def diskKeepsWrong : ChangeSpec := { name := "diskKeeps", fn := fun _ => fun
  | [d1, d2, d3] => { results := [.lit (.bool false)], args := [d1, d2, d3] }
  | _ => none }
def DiskKeepsWrongFalsely : Prop := diskKeepsRow.holds Try.pinned (OpenSpec.ofChange diskKeepsWrong)

/-- 'bursarlaw04.DiskBudgets': WHATEVER THE INPUT: true; the input reads as it did. -/
def diskBudgetsSpec : ChangeSpec := { name := "diskBudgets", fn := fun _ => fun
  | [d1, d2, d3] => { results := [.lit (.bool true)], args := [d1, d2, d3] }
  | _ => none }
def diskBudgetsRow : OpenClaim := { program := "ytkmhdefcflidhaa", sum := "36c95187252b41f0181e158a46382d699d944520ffc841cbc1de746e1db4a1da", func := "bursar/bursarlaw04.DiskBudgets", spec := "diskBudgets", unfollowed := true, recurses := true, apart := false }
def DiskBudgetsSaid : Prop := diskBudgetsRow.holds Try.pinned (OpenSpec.ofChange diskBudgetsSpec)

/-- ITS FALSE NEIGHBOUR: 'it returns false'. Refute it at one input. -/
def diskBudgetsWrong : ChangeSpec := { name := "diskBudgets", fn := fun _ => fun
  | [d1, d2, d3] => { results := [.lit (.bool false)], args := [d1, d2, d3] }
  | _ => none }
def DiskBudgetsWrongFalsely : Prop := diskBudgetsRow.holds Try.pinned (OpenSpec.ofChange diskBudgetsWrong)

/-- 'bursarlaw05.FrameLays': WHATEVER THE INPUT: true; the input reads as it did. -/
def frameLaysSpec : ChangeSpec := { name := "frameLays", fn := fun _ => fun
  | [d1, d2, d3] => { results := [.lit (.bool true)], args := [d1, d2, d3] }
  | _ => none }
def frameLaysRow : OpenClaim := { program := "ytkmhdefcflidhaa", sum := "36c95187252b41f0181e158a46382d699d944520ffc841cbc1de746e1db4a1da", func := "bursar/bursarlaw05.FrameLays", spec := "frameLays", unfollowed := true, recurses := true, apart := false }
def FrameLaysSaid : Prop := frameLaysRow.holds Try.pinned (OpenSpec.ofChange frameLaysSpec)

/-- ITS FALSE NEIGHBOUR: 'it returns false'. Refute it at one input. -/
def frameLaysWrong : ChangeSpec := { name := "frameLays", fn := fun _ => fun
  | [d1, d2, d3] => { results := [.lit (.bool false)], args := [d1, d2, d3] }
  | _ => none }
def FrameLaysWrongFalsely : Prop := frameLaysRow.holds Try.pinned (OpenSpec.ofChange frameLaysWrong)

/-- 'bursarlaw05.FrameReads': WHATEVER THE INPUT: true; the input reads as it did. -/
def frameReadsSpec : ChangeSpec := { name := "frameReads", fn := fun _ => fun
  | [d] => { results := [.lit (.bool true)], args := [d] }
  | _ => none }
def frameReadsRow : OpenClaim := { program := "ytkmhdefcflidhaa", sum := "36c95187252b41f0181e158a46382d699d944520ffc841cbc1de746e1db4a1da", func := "bursar/bursarlaw05.FrameReads", spec := "frameReads", unfollowed := true, recurses := true, apart := false }
def FrameReadsSaid : Prop := frameReadsRow.holds Try.pinned (OpenSpec.ofChange frameReadsSpec)

/-- ITS FALSE NEIGHBOUR: 'it returns false'. Refute it at one input. -/
def frameReadsWrong : ChangeSpec := { name := "frameReads", fn := fun _ => fun
  | [d] => { results := [.lit (.bool false)], args := [d] }
  | _ => none }
def FrameReadsWrongFalsely : Prop := frameReadsRow.holds Try.pinned (OpenSpec.ofChange frameReadsWrong)

/-- 'bursarlaw05.FrameFinds': WHATEVER THE INPUT: true; the input reads as it did. -/
def frameFindsSpec : ChangeSpec := { name := "frameFinds", fn := fun _ => fun
  | [d1, d2, d3] => { results := [.lit (.bool true)], args := [d1, d2, d3] }
  | _ => none }
def frameFindsRow : OpenClaim := { program := "ytkmhdefcflidhaa", sum := "36c95187252b41f0181e158a46382d699d944520ffc841cbc1de746e1db4a1da", func := "bursar/bursarlaw05.FrameFinds", spec := "frameFinds", unfollowed := true, recurses := true, apart := false }
def FrameFindsSaid : Prop := frameFindsRow.holds Try.pinned (OpenSpec.ofChange frameFindsSpec)

/-- ITS FALSE NEIGHBOUR: 'it returns false'. Refute it at one input. -/
def frameFindsWrong : ChangeSpec := { name := "frameFinds", fn := fun _ => fun
  | [d1, d2, d3] => { results := [.lit (.bool false)], args := [d1, d2, d3] }
  | _ => none }
def FrameFindsWrongFalsely : Prop := frameFindsRow.holds Try.pinned (OpenSpec.ofChange frameFindsWrong)

/-- 'bursarlaw05.FrameApart': WHATEVER THE INPUT: true; the input reads as it did. -/
def frameApartSpec : ChangeSpec := { name := "frameApart", fn := fun _ => fun
  | [d1, d2] => { results := [.lit (.bool true)], args := [d1, d2] }
  | _ => none }
def frameApartRow : OpenClaim := { program := "ytkmhdefcflidhaa", sum := "36c95187252b41f0181e158a46382d699d944520ffc841cbc1de746e1db4a1da", func := "bursar/bursarlaw05.FrameApart", spec := "frameApart", unfollowed := true, recurses := true, apart := false }
def FrameApartSaid : Prop := frameApartRow.holds Try.pinned (OpenSpec.ofChange frameApartSpec)

/-- ITS FALSE NEIGHBOUR: 'it returns false'. Refute it at one input. -/
def frameApartWrong : ChangeSpec := { name := "frameApart", fn := fun _ => fun
  | [d1, d2] => { results := [.lit (.bool false)], args := [d1, d2] }
  | _ => none }
def FrameApartWrongFalsely : Prop := frameApartRow.holds Try.pinned (OpenSpec.ofChange frameApartWrong)

/-- 'bursarlaw05.FrameChain': WHATEVER THE INPUT: true; the input reads as it did. -/
def frameChainSpec : ChangeSpec := { name := "frameChain", fn := fun _ => fun
  | [d] => { results := [.lit (.bool true)], args := [d] }
  | _ => none }
def frameChainRow : OpenClaim := { program := "ytkmhdefcflidhaa", sum := "36c95187252b41f0181e158a46382d699d944520ffc841cbc1de746e1db4a1da", func := "bursar/bursarlaw05.FrameChain", spec := "frameChain", unfollowed := true, recurses := true, apart := false }
def FrameChainSaid : Prop := frameChainRow.holds Try.pinned (OpenSpec.ofChange frameChainSpec)

/-- ITS FALSE NEIGHBOUR: 'it returns false'. Refute it at one input. -/
def frameChainWrong : ChangeSpec := { name := "frameChain", fn := fun _ => fun
  | [d] => { results := [.lit (.bool false)], args := [d] }
  | _ => none }
def FrameChainWrongFalsely : Prop := frameChainRow.holds Try.pinned (OpenSpec.ofChange frameChainWrong)

/-- 'bursarlaw04.DiskApart': WHATEVER THE INPUT: true; the input reads as it did. -/
def diskApartSpec : ChangeSpec := { name := "diskApart", fn := fun _ => fun
  | [d] => { results := [.lit (.bool true)], args := [d] }
  | _ => none }
def diskApartRow : OpenClaim := { program := "ytkmhdefcflidhaa", sum := "36c95187252b41f0181e158a46382d699d944520ffc841cbc1de746e1db4a1da", func := "bursar/bursarlaw04.DiskApart", spec := "diskApart", unfollowed := true, recurses := true, apart := false }
def DiskApartSaid : Prop := diskApartRow.holds Try.pinned (OpenSpec.ofChange diskApartSpec)

/-- ITS FALSE NEIGHBOUR: 'it returns false'. Refute it at one input. -/
def diskApartWrong : ChangeSpec := { name := "diskApart", fn := fun _ => fun
  | [d] => { results := [.lit (.bool false)], args := [d] }
  | _ => none }
def DiskApartWrongFalsely : Prop := diskApartRow.holds Try.pinned (OpenSpec.ofChange diskApartWrong)

/- THE SECOND FORM. 'bulk': how many values and letters a reading holds, each counted each time it is reached (what is shared counts as often as it is met; a slice's spare places count too). A statement '..UptoSaid' is the law's where the arguments, and the package variables that the reading takes, are together of bulk at most 1048576: NARROWER than '..Said'. Prove '..Said' where nothing that the law and all that it calls make is longer than what came in: it says more and counts as full. Else prove '..UptoSaid'. A law counts once. -/
mutual
def uptoBulk {H : Type} : DataW H → Nat
  | .lit (.string bytes) => bytes.length + 1
  | .lit _ => 1
  | .nil => 1
  | .ptr d => uptoBulk d + 1
  | .slice elems spare => uptoBulkAll elems + uptoBulkAll spare + 1
  | .agg parts => uptoBulkAll parts + 1
  | .iface _ d => uptoBulk d + 1
  | .map entries => uptoBulkEntries entries + 1
  | .held _ => 1
def uptoBulkAll {H : Type} : List (DataW H) → Nat
  | [] => 0
  | d :: r => uptoBulk d + uptoBulkAll r
def uptoBulkEntries {H : Type} : List (Lit × DataW H) → Nat
  | [] => 0
  | x :: r => uptoBulkEntry x + uptoBulkEntries r
def uptoBulkEntry {H : Type} : Lit × DataW H → Nat
  | (.string bytes, d) => bytes.length + uptoBulk d + 1
  | (_, d) => uptoBulk d + 1
 end
def uptoSmall : (H : Type) → List (DataW H) → Bool := fun _ ds => decide (uptoBulkAll ds ≤ 1048576)
def OpenSpec.upto (s : _root_.Go.ChangeSpec) : _root_.Go.OpenSpec := { _root_.Go.OpenSpec.ofChange s with cond := some uptoSmall }

/-- 'bursarlaw04.DiskCrashes', WHERE WHAT IT READS IS OF BULK AT MOST 1048576: true; the input reads as it did. -/
def diskCrashesUptoRow : OpenClaim := { program := "ytkmhdefcflidhaa", sum := "36c95187252b41f0181e158a46382d699d944520ffc841cbc1de746e1db4a1da", func := "bursar/bursarlaw04.DiskCrashes", spec := "diskCrashes", unfollowed := true, recurses := true, apart := false, narrowed := true }
def DiskCrashesUptoSaid : Prop := diskCrashesUptoRow.holds Try.pinned (OpenSpec.upto diskCrashesSpec)

/-- 'bursarlaw04.DiskKeeps', WHERE WHAT IT READS IS OF BULK AT MOST 1048576: true; the input reads as it did. -/
def diskKeepsUptoRow : OpenClaim := { program := "ytkmhdefcflidhaa", sum := "36c95187252b41f0181e158a46382d699d944520ffc841cbc1de746e1db4a1da", func := "bursar/bursarlaw04.DiskKeeps", spec := "diskKeeps", unfollowed := true, recurses := true, apart := false, narrowed := true }
def DiskKeepsUptoSaid : Prop := diskKeepsUptoRow.holds Try.pinned (OpenSpec.upto diskKeepsSpec)

/-- 'bursarlaw04.DiskBudgets', WHERE WHAT IT READS IS OF BULK AT MOST 1048576: true; the input reads as it did. -/
def diskBudgetsUptoRow : OpenClaim := { program := "ytkmhdefcflidhaa", sum := "36c95187252b41f0181e158a46382d699d944520ffc841cbc1de746e1db4a1da", func := "bursar/bursarlaw04.DiskBudgets", spec := "diskBudgets", unfollowed := true, recurses := true, apart := false, narrowed := true }
def DiskBudgetsUptoSaid : Prop := diskBudgetsUptoRow.holds Try.pinned (OpenSpec.upto diskBudgetsSpec)

/-- 'bursarlaw05.FrameLays', WHERE WHAT IT READS IS OF BULK AT MOST 1048576: true; the input reads as it did. -/
def frameLaysUptoRow : OpenClaim := { program := "ytkmhdefcflidhaa", sum := "36c95187252b41f0181e158a46382d699d944520ffc841cbc1de746e1db4a1da", func := "bursar/bursarlaw05.FrameLays", spec := "frameLays", unfollowed := true, recurses := true, apart := false, narrowed := true }
def FrameLaysUptoSaid : Prop := frameLaysUptoRow.holds Try.pinned (OpenSpec.upto frameLaysSpec)

/-- 'bursarlaw05.FrameReads', WHERE WHAT IT READS IS OF BULK AT MOST 1048576: true; the input reads as it did. -/
def frameReadsUptoRow : OpenClaim := { program := "ytkmhdefcflidhaa", sum := "36c95187252b41f0181e158a46382d699d944520ffc841cbc1de746e1db4a1da", func := "bursar/bursarlaw05.FrameReads", spec := "frameReads", unfollowed := true, recurses := true, apart := false, narrowed := true }
def FrameReadsUptoSaid : Prop := frameReadsUptoRow.holds Try.pinned (OpenSpec.upto frameReadsSpec)

/-- 'bursarlaw05.FrameFinds', WHERE WHAT IT READS IS OF BULK AT MOST 1048576: true; the input reads as it did. -/
def frameFindsUptoRow : OpenClaim := { program := "ytkmhdefcflidhaa", sum := "36c95187252b41f0181e158a46382d699d944520ffc841cbc1de746e1db4a1da", func := "bursar/bursarlaw05.FrameFinds", spec := "frameFinds", unfollowed := true, recurses := true, apart := false, narrowed := true }
def FrameFindsUptoSaid : Prop := frameFindsUptoRow.holds Try.pinned (OpenSpec.upto frameFindsSpec)

/-- 'bursarlaw05.FrameApart', WHERE WHAT IT READS IS OF BULK AT MOST 1048576: true; the input reads as it did. -/
def frameApartUptoRow : OpenClaim := { program := "ytkmhdefcflidhaa", sum := "36c95187252b41f0181e158a46382d699d944520ffc841cbc1de746e1db4a1da", func := "bursar/bursarlaw05.FrameApart", spec := "frameApart", unfollowed := true, recurses := true, apart := false, narrowed := true }
def FrameApartUptoSaid : Prop := frameApartUptoRow.holds Try.pinned (OpenSpec.upto frameApartSpec)

/-- 'bursarlaw05.FrameChain', WHERE WHAT IT READS IS OF BULK AT MOST 1048576: true; the input reads as it did. -/
def frameChainUptoRow : OpenClaim := { program := "ytkmhdefcflidhaa", sum := "36c95187252b41f0181e158a46382d699d944520ffc841cbc1de746e1db4a1da", func := "bursar/bursarlaw05.FrameChain", spec := "frameChain", unfollowed := true, recurses := true, apart := false, narrowed := true }
def FrameChainUptoSaid : Prop := frameChainUptoRow.holds Try.pinned (OpenSpec.upto frameChainSpec)

/-- 'bursarlaw04.DiskApart', WHERE WHAT IT READS IS OF BULK AT MOST 1048576: true; the input reads as it did. -/
def diskApartUptoRow : OpenClaim := { program := "ytkmhdefcflidhaa", sum := "36c95187252b41f0181e158a46382d699d944520ffc841cbc1de746e1db4a1da", func := "bursar/bursarlaw04.DiskApart", spec := "diskApart", unfollowed := true, recurses := true, apart := false, narrowed := true }
def DiskApartUptoSaid : Prop := diskApartUptoRow.holds Try.pinned (OpenSpec.upto diskApartSpec)

end Rows
end Go.Proofs.Ytkmhdefcflidhaa
