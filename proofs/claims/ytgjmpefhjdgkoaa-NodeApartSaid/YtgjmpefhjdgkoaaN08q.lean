/- Chapter 08: the chapter's examples, and three laws, walked. -/
import Derived.Test.YtgjmpefhjdgkoaaN08p
import Derived.Test.YtgjmpefhjdgkoaaN08h
import Derived.Test.YtgjmpefhjdgkoaaN08i
namespace Go.Val.Ytgjmpefhjdgkoaa
open Go Go.Val Go.Proofs Go.Proofs.Ytgjmpefhjdgkoaa
attribute [local irreducible] Ev EvD EvC thenQ blockQ RoundG RetQ
set_option maxRecDepth 100000
set_option maxHeartbeats 4000000
set_option linter.unusedSimpArgs false
set_option linter.unusedVariables false
def z512 : List UInt8 := List.replicate 512 0
theorem z512_eq : List.replicate 512 (0 : UInt8) = z512 := rfl
theorem z512_eq2 : List.replicate 512 (DV.int .u8 0) = bytes z512 := by simp [z512, bytes]
theorem z512_len : z512.length = 512 := by decide
theorem z512_dec : decN z512 = ([], [], [], 6) := by decide +kernel
def pg1 : List UInt8 := pageN [([97], [120, 121])] [] []
theorem pg1_may : mayN [([97], [120, 121])] [] [] = true := by decide
theorem pg1_len : pg1.length = 512 := pageN_len (okN_of pg1_may)
theorem pg1_take : pg1.take 8 = [0, 1, 1, 97, 2, 120, 121, 0] := by decide +kernel
theorem may2 : mayN [] [] [1] = false := by decide
theorem pg1_con : Pure Try.prog 23 [.agg [.sl [.agg [.str [97], .str [120, 121]]], .sl [], .sl []]] (.tup [.sl (bytes pg1), .int .i64 0]) := by
 have h := c_node_Encode [([97], [120, 121])] [] [] (by decide)
 rw [if_pos pg1_may, if_pos pg1_may] at h
 exact h
attribute [local irreducible] z512 pg1
attribute [go_sem] z512_len
theorem Pure_le {P : Program} {f : FuncId} {args args' : List DV} {d : DV} (h : Pure P f args' d) (hle : LeL args args') : Pure P f args d :=
 fun σ w0 G vs w hS hr => h σ w0 G vs w hS (hle _ _ _ _ hr)
theorem slt3 (a b c : List DV) : LeL [.agg [.slt a, .slt b, .slt c]] [.agg [.sl a, .sl b, .sl c]] :=
 .cons (.agg (.cons (.sl _) (.cons (.sl _) (.cons (.sl _) .nil)))) .nil
theorem c_bursarlaw08_awake  (hC : True) : Pure Try.prog n_bursarlaw08_awake [] (.bool true) := by
 refine Pure.go tok (rs := [.tmp 0]) [.undef, .undef, .undef, .undef, .undef, .undef, .undef, .undef, .undef, .undef, .undef, .undef, .undef, .undef, .undef, .undef, .undef, .undef, .undef, .undef, .undef, .undef, .undef, .undef, .undef, .undef, .undef, .undef, .undef, .undef, .undef, .undef, .undef, .undef, .undef, .undef, .undef, .undef, .undef, .undef, .undef, .undef, .undef, .undef, .undef, .undef, .undef, .undef, .undef, .undef, .undef, .undef, .undef, .undef, .undef, .undef] Try.func30 (fun σ => ?_)
 have i1 : Con Try.prog 23 [.agg [.slt [.agg [.str [97], .str [120, 121]]], .slt [], .slt []]] True (.tup [.sl (bytes pg1), .int .i64 0]) := ⟨fun _ => Pure_le pg1_con (slt3 _ _ _)⟩
 have i2 : Con Try.prog 23 [.agg [.slt [], .slt [], .slt [.int .i64 1]]] True (.tup [.sl [], .int .i64 1]) := ⟨fun _ => by
  have h := c_node_Encode [] [] [1] (by decide)
  rw [may2] at h
  exact Pure_le h (slt3 _ _ _)⟩
 have i3 : Con Try.prog 31 [.sl (bytes z512)] True (.tup [.agg [.sl [], .sl [], .sl []], .int .i64 6]) := ⟨fun _ => by
  have h := c_node_Decode z512 (by rw [z512_len]; decide)
  rw [z512_dec] at h
  exact h⟩
 have hl := pg1_len
 have ht := pg1_take
 repeat' (first | (show Ev _ _ _ _; first | refine Ev_seq ?_ | refine W_reg ?_ | refine Ev_skip ?_ | refine Ev_exit ?_ | refine Ev_ret ?_) | (show EvD _ _ [] _ _ _; refine W_nil ?_) | (show EvD _ _ (⟨_, _, _, _, _, some _⟩ :: _) _ _ _; first | refine W_grdY ?_ | refine W_grdN ?_ | refine W_grdP (fun h => ?_) (fun h => ?_) | refine W_grdB (fun h => ?_) (fun h => ?_)) | (show EvD _ _ (_ :: _) _ _ _; first | refine W_run tok ?_ ?_ (by simp (maxSteps := 1000000) (disch := omega) only [go_sem, wrap_i64_id, z512_eq, z512_eq2, hl, ht]; with_reducible exact rfl) | refine W_callee ?_ | refine W_frz ?_) | (show EvC _ _ _ _ _ _ _ _ _; first | refine W_con ?_ ?_ | refine W_weak ?_ | refine W_frzArg ?_) | (show RetQ _ _ (RP _ _) _ _; refine R_ret ?_ ?_) | (show FrzTo _ _ _ _; first | refine F_row ?_ | refine F_weak ?_) | refine Q_thenN ?_ | refine Q_thenE ?_ | refine Q_thenR ?_)
 all_goals (try exact sd)
 all_goals (try refine F_done ?_)
 all_goals first | rfl | trace_state
instance i_bursarlaw08_awake  : Con Try.prog 30 [] (True) (.bool true) := ⟨c_bursarlaw08_awake ⟩
end Go.Val.Ytgjmpefhjdgkoaa
