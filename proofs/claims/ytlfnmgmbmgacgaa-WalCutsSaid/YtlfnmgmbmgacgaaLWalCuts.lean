/- What is proved: the statement 'WalCuts' of the seat: for every input the law answers true, and what was handed in reads as it did. Its walk is in YtlfnmgmbmgacgaaY06o. -/
import Derived.Test.YtlfnmgmbmgacgaaRows
import Derived.Test.YtlfnmgmbmgacgaaY06o
import Derived.Test.YtlfnmgmbmgacgaaVMR
import Derived.WalkKit
import Derived.ProofKit
import Derived.OpenShut
import Derived.ShutString
import Derived.ChangeOld
import Derived.Below
import Derived.SizedLaws
namespace Go.Proofs.Ytlfnmgmbmgacgaa.walCuts
open Go.ChangeShapes Go.WideShapes Go.ChangeAt Go.RowKit
open Go.ChangeMaps (open_string shut_string)
set_option linter.unusedVariables false
theorem own : ownKnob Try.prog.godebug = none := by kernel_rfl
theorem laidOut : laidOutB Try.prog = true := by kernel_rfl
set_option maxRecDepth 100000 in
theorem lifted (os : Os) (started : os.Started) (H : Type) (enc : TypeId × Value → H) :
  ReturnsInHanded {} Try.checked os 6 .any (Rows.walCutsSpec.pre6 enc Try.prog Try.f6 Rows.walCutsRow.domain false) (Rows.walCutsSpec.post enc Try.prog Try.f6 false true false false) := by
 refine returnsInHanded_of_change_sized (C := Try.checked) own started (by kernel_rfl) Try.func6
  (ChangeSpec.witness6 (enc := enc) (C := Try.checked) false ⟨#[], #[.slice none 0 0, .slice none 0 0, .slice none 0 0], []⟩ 8 (by kernel_rfl) (by kernel_rfl) (by kernel_rfl) (by kernel_rfl)) ?_
 intro W base args ds gs before hval0 hW hcnd hsz0 _
 have hsz : (DataW.weightsEach Try.prog (Try.f6.params.toList ++ Rows.walCutsSpec.plain.varTypes Try.prog) (ds ++ gs)).all (· ≤ reachBytes) = true := hsz0
 have hval : ∀ (j : Nat) t v, Try.f6.params[j]? = some t → args[j]? = some v → Value.okWide Try.prog W .any base t v := hval0
 have hW' := hW
 obtain ⟨p, q, hA0, hV, rfl, hfz, hnd⟩ := hW
 have hA : DataW.TrodAll enc Try.prog W 0 (fun _ => true) true Try.f6.params.toList args.toList ds p := hA0
 rw [Try.params6] at hA hval hsz
 obtain ⟨v0, vs0, d0, ds0, p0, q0, hargs, rfl, rfl, h0, r0⟩ := trodAll_cons hA
 obtain ⟨v1, vs1, d1, ds1, p1, q1, rfl, rfl, rfl, h1, r1⟩ := trodAll_cons r0
 obtain ⟨v2, vs2, d2, ds2, p2, q2, rfl, rfl, rfl, h2, r2⟩ := trodAll_cons r1
 obtain ⟨rfl, rfl, rfl⟩ := trodAll_nil r2
 obtain rfl : args = #[v0, v1, v2] := by cases args; simp_all
 obtain ⟨rfl, rfl⟩ := trodVars_none hV
 have hw0 : ∀ n ∈ d0.weights Try.prog 22, n ≤ reachBytes := fun n hn => by
  have := List.all_eq_true.1 hsz _ (DataW.weights_mem_each (j := 0) rfl rfl n hn)
  simpa using this
 obtain ⟨a0, len0, cap0, rfl⟩ := okWide_slice Try.underlying22 (hval 0 22 v0 rfl rfl)
 have k0 := h0
 have lt0 : ∀ x ∈ p0, x.block < W.heap.size := by obtain ⟨m, hm⟩ := k0; exact DataW.trod_lt m _ _ _ hm
 obtain ⟨u0, wf0, e0⟩ := Go.Val.ReadsT.one (Go.Val.ReadsT.slice Try.underlying22 (of_decide_eq_true (by kernel_rfl)) (Go.Val.ReadsT.slice Try.underlying28 (of_decide_eq_true (by kernel_rfl)) (Go.Val.ReadsT.byte Try.underlying5))) h0 (fun a => .inr ⟨rfl, rfl⟩) hw0
 have hw1 : ∀ n ∈ d1.weights Try.prog 28, n ≤ reachBytes := fun n hn => by
  have := List.all_eq_true.1 hsz _ (DataW.weights_mem_each (j := 1) rfl rfl n hn)
  simpa using this
 obtain ⟨a1, len1, cap1, rfl⟩ := okWide_slice Try.underlying28 (hval 1 28 v1 rfl rfl)
 have k1 := h1
 have lt1 : ∀ x ∈ p1, x.block < W.heap.size := by obtain ⟨m, hm⟩ := k1; exact DataW.trod_lt m _ _ _ hm
 obtain ⟨u1, wf1, e1⟩ := Go.Val.ReadsT.one (Go.Val.ReadsT.slice Try.underlying28 (of_decide_eq_true (by kernel_rfl)) (Go.Val.ReadsT.byte Try.underlying5)) h1 (fun a => .inr ⟨rfl, rfl⟩) hw1
 have hw2 : ∀ n ∈ d2.weights Try.prog 60, n ≤ reachBytes := fun n hn => by
  have := List.all_eq_true.1 hsz _ (DataW.weights_mem_each (j := 2) rfl rfl n hn)
  simpa using this
 obtain ⟨a2, len2, cap2, rfl⟩ := okWide_slice Try.underlying60 (hval 2 60 v2 rfl rfl)
 have k2 := h2
 have lt2 : ∀ x ∈ p2, x.block < W.heap.size := by obtain ⟨m, hm⟩ := k2; exact DataW.trod_lt m _ _ _ hm
 obtain ⟨u2, wf2, e2⟩ := Go.Val.ReadsT.one (Go.Val.ReadsT.slice Try.underlying60 (of_decide_eq_true (by kernel_rfl)) (Go.Val.ReadsT.slice Try.underlying62 (of_decide_eq_true (by kernel_rfl)) (Go.Val.ReadsT.bool Try.underlying4))) h2 (fun a => .inr ⟨rfl, rfl⟩) hw2
 clear hA0 hval0 hsz0 hsz
 refine (Go.Val.call_true (Go.Val.Ytlfnmgmbmgacgaa.c_bursarlaw06_WalCuts u0 u1 u2 ⟨by have h := wf0.2; rw [show Try.prog.bytesOf 28 = 24 from by kernel_rfl] at h; have h2 : reachBytes ≤ 140737488355328 := (by decide); omega, by have h := wf1.2; rw [show Try.prog.bytesOf 5 = 1 from by kernel_rfl] at h; have h2 : reachBytes ≤ 140737488355328 := (by decide); omega, by have h := wf2.2; rw [show Try.prog.bytesOf 62 = 24 from by kernel_rfl] at h; have h2 : reachBytes ≤ 140737488355328 := (by decide); omega⟩) (Go.Val.relL_cons e0 (Go.Val.relL_cons e1 (Go.Val.relL_cons e2 Go.Val.relL_nil)))).mono fun e W' ⟨he, bel⟩ => ?_
 subst he
 exact ⟨_, rfl, _, _, _, [], _, [], hW', trodAll_mk1 (shut_bool Try.underlying4 _), (trodAll_cons_mk (Below.trod laidOut (by kernel_rfl) (of_decide_eq_true (by kernel_rfl)) k0 bel lt0) (trodAll_cons_mk (Below.trod laidOut (by kernel_rfl) (of_decide_eq_true (by kernel_rfl)) k1 bel lt1) (trodAll_cons_mk (Below.trod laidOut (by kernel_rfl) (of_decide_eq_true (by kernel_rfl)) k2 bel lt2) trodAll_mk0))), rfl, bel.frame _, fun h => by cases h⟩
theorem over : Rows.walCutsRow.holds Try.pinned (OpenSpec.ofChange Rows.walCutsSpec) :=
 OpenClaim.holds_of_wide 6 Try.f6 rfl rfl rfl rfl rfl rfl rfl ⟨rfl, rfl, rfl, rfl, rfl⟩ rfl rfl rfl rfl rfl (by kernel_rfl) Try.func6 (by kernel_rfl)
  (of_decide_eq_true (by kernel_rfl)) (by unfold Func.isWrapper; first | (rw [if_pos (by decide +kernel)]; kernel_rfl) | (rw [if_neg (by decide +kernel)]; exact ⟨rfl, rfl⟩))
  (fun os started H enc _ => lifted os started H enc)
theorem proved : Rows.WalCutsSaid := over
end Go.Proofs.Ytlfnmgmbmgacgaa.walCuts
namespace Go.Proofs.Ytlfnmgmbmgacgaa
theorem walCuts_holds : Rows.WalCutsSaid := walCuts.proved
end Go.Proofs.Ytlfnmgmbmgacgaa
