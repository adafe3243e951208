/- Chapter 08: reader.text, walked. -/
import Derived.Test.YtgjmpefhjdgkoaaN08l
namespace Go.Val.Ytgjmpefhjdgkoaa
open Go Go.Val Go.Proofs Go.Proofs.Ytgjmpefhjdgkoaa
attribute [local irreducible] Ev EvD EvC thenQ blockQ RoundG RetQ
set_option maxRecDepth 100000
set_option maxHeartbeats 1000000
set_option linter.unusedSimpArgs false
set_option linter.unusedVariables false
theorem c_node_reader_text (d : List UInt8) (hC : d.length ≤ 1000) : ∀ (σ : Store) (b : Nat), σ.boxes[b]? = some (some ⟨97, [.sl (bytes d)]⟩) → Does Try.prog n_node_reader_text (.ptr b 0 :: []) σ (one ((.str (takeB (d.drop 1) (d.getD 0 0).toNat) : DV).ren (σ.rows.length + ·) (σ.boxes.length + ·) (σ.maps.length + ·)) ((⟨σ.rows, σ.boxes.set b (some ⟨97, [.sl (bytes ((d.drop 1).drop (d.getD 0 0).toNat))]⟩), σ.maps⟩ : Store).plus [] [] [])) := by
 refine FxP.go tok (rv := [.tmp 2]) (fun b => [.ptr b 0, .undef, .undef, .undef, .undef, .undef, .undef, .undef]) Try.func62 (fun σ b hb hB => ?_)
 have hlt := (d.getD 0 0).toNat_lt
 have hdl : (d.drop 1).length ≤ 1000 := by rw [List.length_drop]; omega
 obtain ⟨n, hn⟩ : ∃ n, n = (d.getD 0 0).toNat := ⟨_, rfl⟩
 have iO := i_node_reader_one d
 rw [← hn] at iO ⊢
 have iT : ConP Try.prog 85 [.int .i64 (n : Int)] 97 [.sl (bytes (d.drop 1))] (n ≤ 255 ∧ (d.drop 1).length ≤ 1000) (.row 0 n) ([.sl (bytes ((d.drop 1).drop n))]) ([⟨bytes (takeB (d.drop 1) n), 5, 1⟩]) [] [] := by
  have h := i_node_reader_take (d.drop 1) n
  rw [drop_min] at h
  exact h
 have hl1 := takeB_len (d.drop 1) n
 repeat' (first | (show Ev _ _ _ _; first | refine Ev_seq ?_ | refine W_reg ?_ | refine Ev_skip ?_ | refine Ev_exit ?_ | refine Ev_ret ?_) | (show EvD _ _ [] _ _ _; refine W_nil ?_) | (show EvD _ _ (_ :: _) _ _ _; first | refine W_run tok ?_ ?_ (by simp (maxSteps := 1000000) (disch := omega) only [go_sem, wrap_i64_id, hl1, hB, List.getElem?_set_self, List.set_set]; with_reducible exact rfl) | refine W_callee ?_ | refine W_frz ?_) | (show EvC _ _ _ _ _ _ _ _ _; first | refine W_conT ?_ ?_ | refine W_con ?_ ?_ | refine W_conOwn ?_ ?_ | refine W_conApp ?_ ?_ ?_ | refine W_weak ?_ | refine W_frzArg ?_ | refine W_box ?_) | (show EvB _ _ _ _ _ _ _ _ _ _ _ _; refine W_conP ?_ ?_) | (show RetQ _ _ (RX _ ⟨_, List.set _ _ _, _⟩ _ [] [] []) _ _; first | refine R_p0 ?_ ?_ ?_ | refine R_p0s hB ?_ ?_ ?_) | (show RetQ _ _ (RX _ _ _ [] [] []) _ _; refine R_x0 ?_ ?_) | (show RetQ _ _ (RX _ _ _ [_] [] []) _ _; refine R_xr ?_ (by intro p q s hp; simp only [DV.ren, rens, hp]; exact rfl) ?_) | (show RetQ _ _ (RX _ _ _ [] [_] []) _ _; refine R_xb ?_ (by intro p q s hp; simp only [DV.ren, rens, hp]; exact rfl) ?_) | (show FrzTo _ _ _ _; first | refine F_row ?_ | refine F_weak ?_) | refine Q_thenN ?_ | refine Q_thenE ?_ | refine Q_thenR ?_)
 all_goals (try exact sd)
 all_goals (try refine F_done ?_)
 refine W_box ?_ (hB := List.getElem?_set_self hb)
 repeat' (first | (show Ev _ _ _ _; first | refine Ev_seq ?_ | refine W_reg ?_ | refine Ev_skip ?_ | refine Ev_exit ?_ | refine Ev_ret ?_) | (show EvD _ _ [] _ _ _; refine W_nil ?_) | (show EvD _ _ (_ :: _) _ _ _; first | refine W_run tok ?_ ?_ (by simp (maxSteps := 1000000) (disch := omega) only [go_sem, wrap_i64_id, hl1, hB, List.getElem?_set_self, List.set_set]; with_reducible exact rfl) | refine W_callee ?_ | refine W_frz ?_) | (show EvC _ _ _ _ _ _ _ _ _; first | refine W_conT ?_ ?_ | refine W_con ?_ ?_ | refine W_conOwn ?_ ?_ | refine W_conApp ?_ ?_ ?_ | refine W_weak ?_ | refine W_frzArg ?_ | refine W_box ?_) | (show EvB _ _ _ _ _ _ _ _ _ _ _ _; refine W_conP ?_ ?_) | (show RetQ _ _ (RX _ ⟨_, List.set _ _ _, _⟩ _ [] [] []) _ _; first | refine R_p0 ?_ ?_ ?_ | refine R_p0s hB ?_ ?_ ?_) | (show RetQ _ _ (RX _ _ _ [] [] []) _ _; refine R_x0 ?_ ?_) | (show RetQ _ _ (RX _ _ _ [_] [] []) _ _; refine R_xr ?_ (by intro p q s hp; simp only [DV.ren, rens, hp]; exact rfl) ?_) | (show RetQ _ _ (RX _ _ _ [] [_] []) _ _; refine R_xb ?_ (by intro p q s hp; simp only [DV.ren, rens, hp]; exact rfl) ?_) | (show FrzTo _ _ _ _; first | refine F_row ?_ | refine F_weak ?_) | refine Q_thenN ?_ | refine Q_thenE ?_ | refine Q_thenR ?_)
 all_goals (try exact sd)
 all_goals (try refine F_done ?_)
 all_goals first | rfl | trace_state
instance i_node_reader_text (d : List UInt8) : ConP Try.prog 62 [] 97 [.sl (bytes d)] (d.length ≤ 1000) (.str (takeB (d.drop 1) (d.getD 0 0).toNat)) ([.sl (bytes ((d.drop 1).drop (d.getD 0 0).toNat))]) ([]) ([]) ([]) := ⟨c_node_reader_text d ⟩
end Go.Val.Ytgjmpefhjdgkoaa
