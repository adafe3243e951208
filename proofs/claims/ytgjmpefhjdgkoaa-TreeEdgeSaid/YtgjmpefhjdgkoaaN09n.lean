/- Chapter 09: the statement of a tree's edge, for the row. -/
import Derived.Test.YtgjmpefhjdgkoaaN09m
namespace Go.Val.Ytgjmpefhjdgkoaa
open Go Go.Val Go.Proofs Go.Proofs.Ytgjmpefhjdgkoaa
theorem ci_bursarlaw09_TreeEdge (n : Int) (hC : 0 ≤ n ∧ n ≤ 65535) : Pure Try.prog n_bursarlaw09_TreeEdge [.int .u16 n] (.bool true) := by
 obtain ⟨m, rfl⟩ := Int.eq_ofNat_of_zero_le hC.1
 exact c_bursarlaw09_TreeEdge m (by omega)
end Go.Val.Ytgjmpefhjdgkoaa
