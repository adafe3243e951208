/- Chapter 08: reader.one, walked. -/
import Derived.Test.YtgjmpefhjdgkoaaN08k
namespace Go.Val.Ytgjmpefhjdgkoaa
open Go Go.Val Go.Proofs Go.Proofs.Ytgjmpefhjdgkoaa
attribute [local irreducible] Ev EvD EvC thenQ blockQ RoundG RetQ
set_option maxRecDepth 100000
set_option maxHeartbeats 1000000
set_option linter.unusedSimpArgs false
set_option linter.unusedVariables false
theorem drop_min (d : List UInt8) (n : Nat) : d.drop (min d.length n) = d.drop n := by
 rcases Nat.le_total d.length n with h | h
 ·rw [Nat.min_eq_left h, List.drop_length, List.drop_of_length_le h]
 ·rw [Nat.min_eq_right h]
theorem c_node_reader_one (d : List UInt8) (hC : d.length ≤ 1000) : ∀ (σ : Store) (b : Nat), σ.boxes[b]? = some (some ⟨97, [.sl (bytes d)]⟩) → Does Try.prog n_node_reader_one (.ptr b 0 :: []) σ (one ((.int .i64 ((d.getD 0 0).toNat : Int) : DV).ren (σ.rows.length + ·) (σ.boxes.length + ·) (σ.maps.length + ·)) ((⟨σ.rows, σ.boxes.set b (some ⟨97, [.sl (bytes (d.drop 1))]⟩), σ.maps⟩ : Store).plus [] [] [])) := by
 refine FxP.go tok (rv := [.tmp 2]) (fun b => [.ptr b 0, .undef, .undef, .undef, .undef, .undef, .undef, .undef]) Try.func61 (fun σ b hb hB => ?_)
 have iT : ConP Try.prog 85 [.int .i64 1] 97 [.sl (bytes d)] (1 ≤ 255 ∧ d.length ≤ 1000) (.row 0 1) ([.sl (bytes (d.drop 1))]) ([⟨bytes (takeB d 1), 5, 1⟩]) [] [] := by
  have h := i_node_reader_take d 1
  rw [drop_min] at h
  exact h
 have hl1 := takeB_len d 1
 have hb1 : (bytes (takeB d 1)).getD 0 .undef = .int .u8 ((d.getD 0 0).toNat : Int) := by
  unfold takeB
  cases d with
  | nil => rfl
  | cons x d => simp [bytes]
 have hlt := (d.getD 0 0).toNat_lt
 repeat' (first | (show Ev _ _ _ _; first | refine Ev_seq ?_ | refine W_reg ?_ | refine Ev_skip ?_ | refine Ev_exit ?_ | refine Ev_ret ?_) | (show EvD _ _ [] _ _ _; refine W_nil ?_) | (show EvD _ _ (_ :: _) _ _ _; first | refine W_run tok ?_ ?_ (by simp (maxSteps := 1000000) (disch := omega) only [go_sem, wrap_i64_id, hl1, hb1, hB, List.getElem?_set_self, List.set_set]; with_reducible exact rfl) | refine W_callee ?_ | refine W_frz ?_) | (show EvC _ _ _ _ _ _ _ _ _; first | refine W_conT ?_ ?_ | refine W_con ?_ ?_ | refine W_conOwn ?_ ?_ | refine W_conApp ?_ ?_ ?_ | refine W_weak ?_ | refine W_frzArg ?_ | refine W_box ?_) | (show EvB _ _ _ _ _ _ _ _ _ _ _ _; refine W_conP ?_ ?_) | (show RetQ _ _ (RX _ ⟨_, List.set _ _ _, _⟩ _ [] [] []) _ _; first | refine R_p0 ?_ ?_ ?_ | refine R_p0s hB ?_ ?_ ?_) | (show RetQ _ _ (RX _ _ _ [] [] []) _ _; refine R_x0 ?_ ?_) | (show RetQ _ _ (RX _ _ _ [_] [] []) _ _; refine R_xr ?_ (by intro p q s hp; simp only [DV.ren, rens, hp]; exact rfl) ?_) | (show RetQ _ _ (RX _ _ _ [] [_] []) _ _; refine R_xb ?_ (by intro p q s hp; simp only [DV.ren, rens, hp]; exact rfl) ?_) | (show FrzTo _ _ _ _; first | refine F_row ?_ | refine F_weak ?_) | refine Q_thenN ?_ | refine Q_thenE ?_ | refine Q_thenR ?_)
 all_goals (try exact sd)
 all_goals (try refine F_done ?_)
 all_goals first | rfl | trace_state
instance i_node_reader_one (d : List UInt8) : ConP Try.prog 61 [] 97 [.sl (bytes d)] (d.length ≤ 1000) (.int .i64 ((d.getD 0 0).toNat : Int)) ([.sl (bytes (d.drop 1))]) ([]) ([]) ([]) := ⟨c_node_reader_one d ⟩
end Go.Val.Ytgjmpefhjdgkoaa
