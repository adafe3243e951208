/- What is proved: the statement 'TreeBack' of the seat: for every input the law answers true, and what was handed in reads as it did. Its walk is in YtgjmpefhjdgkoaaN09z. -/
import Derived.Test.YtgjmpefhjdgkoaaRows
import Derived.Test.YtgjmpefhjdgkoaaN09z
import Derived.Test.YtgjmpefhjdgkoaaVMR
import Derived.WalkKit
import Derived.ProofKit
import Derived.OpenShut
import Derived.ShutString
import Derived.ChangeOld
import Derived.Below
import Derived.SizedLaws
namespace Go.Proofs.Ytgjmpefhjdgkoaa.treeBack
open Go.ChangeShapes Go.WideShapes Go.ChangeAt Go.RowKit
open Go.ChangeMaps (open_string shut_string)
set_option linter.unusedVariables false
theorem own : ownKnob Try.prog.godebug = none := by kernel_rfl
theorem laidOut : laidOutB Try.prog = true := by kernel_rfl
set_option maxRecDepth 100000 in
theorem lifted (os : Os) (started : os.Started) (H : Type) (enc : TypeId × Value → H) :
  ReturnsInHanded {} Try.checked os 11 .any (Rows.treeBackSpec.pre6 enc Try.prog Try.f11 Rows.treeBackRow.domain false) (Rows.treeBackSpec.post enc Try.prog Try.f11 false true false false) := by
 refine returnsInHanded_of_change_sized (C := Try.checked) own started (by kernel_rfl) Try.func11
  (ChangeSpec.witness6 (enc := enc) (C := Try.checked) false ⟨#[], #[.slice none 0 0, .string ByteArray.empty], []⟩ 8 (by kernel_rfl) (by kernel_rfl) (by kernel_rfl) (by kernel_rfl)) ?_
 intro W base args ds gs before hval0 hW hcnd hsz0 _
 have hsz : (DataW.weightsEach Try.prog (Try.f11.params.toList ++ Rows.treeBackSpec.plain.varTypes Try.prog) (ds ++ gs)).all (· ≤ reachBytes) = true := hsz0
 have hval : ∀ (j : Nat) t v, Try.f11.params[j]? = some t → args[j]? = some v → Value.okWide Try.prog W .any base t v := hval0
 have hW' := hW
 obtain ⟨p, q, hA0, hV, rfl, hfz, hnd⟩ := hW
 have hA : DataW.TrodAll enc Try.prog W 0 (fun _ => true) true Try.f11.params.toList args.toList ds p := hA0
 rw [Try.params11] at hA hval hsz
 obtain ⟨v0, vs0, d0, ds0, p0, q0, hargs, rfl, rfl, h0, r0⟩ := trodAll_cons hA
 obtain ⟨v1, vs1, d1, ds1, p1, q1, rfl, rfl, rfl, h1, r1⟩ := trodAll_cons r0
 obtain ⟨rfl, rfl, rfl⟩ := trodAll_nil r1
 obtain rfl : args = #[v0, v1] := by cases args; simp_all
 obtain ⟨rfl, rfl⟩ := trodVars_none hV
 have hw0 : ∀ n ∈ d0.weights Try.prog 22, n ≤ reachBytes := fun n hn => by
  have := List.all_eq_true.1 hsz _ (DataW.weights_mem_each (j := 0) rfl rfl n hn)
  simpa using this
 obtain ⟨a0, len0, cap0, rfl⟩ := okWide_slice Try.underlying22 (hval 0 22 v0 rfl rfl)
 have k0 := h0
 have lt0 : ∀ x ∈ p0, x.block < W.heap.size := by obtain ⟨m, hm⟩ := k0; exact DataW.trod_lt m _ _ _ hm
 obtain ⟨u0, wf0, e0⟩ := Go.Val.ReadsT.one (Go.Val.ReadsT.slice Try.underlying22 (of_decide_eq_true (by kernel_rfl)) (Go.Val.ReadsT.struct2 Try.underlying39 rfl (Go.Val.ReadsT.str Try.underlying9) (Go.Val.ReadsT.str Try.underlying9) (by kernel_rfl) (by kernel_rfl) (by kernel_rfl))) h0 (fun a => .inr ⟨rfl, rfl⟩) hw0
 obtain ⟨a1, rfl, rfl, rfl, y1⟩ := open_string Try.underlying9 (hval 1 9 v1 rfl rfl) h1
 clear hA0 hval0 hsz0 hsz
 refine (Go.Val.call_true (Go.Val.Ytgjmpefhjdgkoaa.c_bursarlaw09_TreeBack u0 a1.data.toList ⟨⟨by have h := wf0.2; rw [show Try.prog.bytesOf 39 = 32 from by kernel_rfl] at h; have h2 : reachBytes ≤ 140737488355328 := (by decide); omega, Go.Val.Ytgjmpefhjdgkoaa.lenP9_of wf0.1⟩, y1⟩) (Go.Val.relL_cons e0 (Go.Val.relL_cons (by have h := Go.Val.RelV.str (G := Go.Val.G0 W) (σ := Go.Val.σ0) (w := W) a1.data.toList; simpa using h) Go.Val.relL_nil))).mono fun e W' ⟨he, bel⟩ => ?_
 subst he
 exact ⟨_, rfl, _, _, _, [], _, [], hW', trodAll_mk1 (shut_bool Try.underlying4 _), (trodAll_cons_mk (Below.trod laidOut (by kernel_rfl) (of_decide_eq_true (by kernel_rfl)) k0 bel lt0) (trodAll_cons_mk (shut_string Try.underlying9 y1) trodAll_mk0)), rfl, bel.frame _, fun h => by cases h⟩
theorem over : Rows.treeBackRow.holds Try.pinned (OpenSpec.ofChange Rows.treeBackSpec) :=
 OpenClaim.holds_of_wide 11 Try.f11 rfl rfl rfl rfl rfl rfl rfl ⟨rfl, rfl, rfl, rfl, rfl⟩ rfl rfl rfl rfl rfl (by kernel_rfl) Try.func11 (by kernel_rfl)
  (of_decide_eq_true (by kernel_rfl)) (by unfold Func.isWrapper; first | (rw [if_pos (by decide +kernel)]; kernel_rfl) | (rw [if_neg (by decide +kernel)]; exact ⟨rfl, rfl⟩))
  (fun os started H enc _ => lifted os started H enc)
theorem proved : Rows.TreeBackSaid := over
end Go.Proofs.Ytgjmpefhjdgkoaa.treeBack
namespace Go.Proofs.Ytgjmpefhjdgkoaa
theorem treeBack_holds : Rows.TreeBackSaid := treeBack.proved
end Go.Proofs.Ytgjmpefhjdgkoaa
