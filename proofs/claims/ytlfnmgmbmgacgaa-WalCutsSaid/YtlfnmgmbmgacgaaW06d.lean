/- Chapter 06: what appending, and clearing, comes to, walked. -/
import Derived.Test.YtlfnmgmbmgacgaaW06c
import Derived.Test.YtlfnmgmbmgacgaaVM6
namespace Go.Val.Ytlfnmgmbmgacgaa
open Go Go.Val Go.Proofs Go.Proofs.Ytlfnmgmbmgacgaa
attribute [local irreducible] Ev EvD EvC thenQ blockQ RoundG RetQ
set_option maxRecDepth 100000
set_option maxHeartbeats 4000000
set_option linter.unusedSimpArgs false
set_option linter.unusedVariables false
abbrev flDV : DV := .fn (.func 33) [] []
def appXs (at_ q : Int) (B : List UInt8) : List DV := [stepW (at_ + 1) (B.drop 64), stepW (at_ + q) nought64, flDV, stepW at_ (B.take 64), flDV]
def appF (at_ q : Int) (B : List UInt8) : Nat → Dk → Dk × Int
 | 0 => wrF (at_ + 1) (B.drop 64)
 | 1 => wrF (at_ + q) nought64
 | 2 => flF
 | 3 => wrF at_ (B.take 64)
 | _ => flF
theorem con_wrS {m : Nat} {at_ : Int} {b : List UInt8} {s : Dk} (h : dkOK m s) (hm : m < 1099511627776) (hb : b.length < 1099511627776) :
  Con Try.prog 52 (dkD s :: [.cp [.sl (bytes b)], .cp [.int .i64 at_]]) True (.tup [dkD (wrF at_ b s).1, .int .i64 (wrF at_ b s).2]) :=
 con_eq (i_wal_write_1 s.1 s.2.1 s.2.2.1 s.2.2.2 at_ b) ⟨h.sz hm, h.2.2, hb⟩ rfl
theorem con_flS {m : Nat} {s : Dk} (h : dkOK m s) (hm : m < 1099511627776) :
  Con Try.prog 33 (dkD s :: []) True (.tup [dkD (flF s).1, .int .i64 (flF s).2]) :=
 con_eq (i_disk_Flush s.1 s.2.1 s.2.2.1 s.2.2.2) ⟨h.sz hm, h.2.2⟩ rfl
theorem step_app {m : Nat} (hm : m < 549755813888) {at_ q : Int} {B : List UInt8} (hB : B.length ≤ 7000) : StepOK 5 (appXs at_ q B) (appF at_ q B) (fun i s => dkOK (m + 200 * i) s) := by
 intro i hi
 have h1 : (B.drop 64).length ≤ 7000 := by rw [List.length_drop]; omega
 have h2 : (B.take 64).length ≤ 7000 := by rw [List.length_take]; omega
 have h3 : nought64.length = 64 := by simp [nought64]
 rcases (by omega : i = 0 ∨ i = 1 ∨ i = 2 ∨ i = 3 ∨ i = 4) with rfl | rfl | rfl | rfl | rfl
 ·exact ⟨_, _, rfl, inferInstance, fun s hs => ⟨con_wrS hs (by omega) (by omega), (wr_ok hs).mono (by omega)⟩⟩
 ·exact ⟨_, _, rfl, inferInstance, fun s hs => ⟨con_wrS hs (by omega) (by omega), (wr_ok hs).mono (by omega)⟩⟩
 ·exact ⟨_, _, rfl, inferInstance, fun s hs => ⟨con_flS hs (by omega), (fl_ok hs).mono (by omega)⟩⟩
 ·exact ⟨_, _, rfl, inferInstance, fun s hs => ⟨con_wrS hs (by omega) (by omega), (wr_ok hs).mono (by omega)⟩⟩
 ·exact ⟨_, _, rfl, inferInstance, fun s hs => ⟨con_flS hs (by omega), (fl_ok hs).mono (by omega)⟩⟩
theorem con_app {m : Nat} (hm : m < 549755813888) {at_ q : Int} {B : List UInt8} (hB : B.length ≤ 7000) {s : Dk} (hs : dkOK m s) :
  Con Try.prog 30 [dkD s, .sl (appXs at_ q B)] True (.tup [dkD (runF (appF at_ q B) s 5).1, .int .i64 (runF (appF at_ q B) s 5).2]) :=
 ⟨fun _ => c_all (appXs at_ q B) (appF at_ q B) (fun i s => dkOK (m + 200 * i) s) s (hs.mono (by omega)) (by simp [appXs]) (step_app hm hB) (by simp [appXs, DV.cells]) (by simp [appXs, nameds, DV.named, bytes_named])⟩
def zeroL : Int × Int × Int × Int := (0, 0, 0, 0)
def appE (s : Dk) (f l a n : Int) (d : List UInt8) : Int := if ¬ mayL s.1 s.2.1 s.2.2.1 f l a n ∨ ¬ mayF n d then 1 else if ¬ roomL l a d.length then 9 else 0
def secQ (d : List UInt8) : Int := (((d.length + 83) / 64 : Nat) : Int)
def appR (s : Dk) (f l a n : Int) (d : List UInt8) : Dk × (Int × Int × Int × Int) × Int :=
 if appE s f l a n d ≠ 0 then (zeroK, zeroL, appE s f l a n d) else
  if (runF (appF (f + a) (secQ d) (layF n d)) s 5).2 ≠ 0 then ((runF (appF (f + a) (secQ d) (layF n d)) s 5).1, zeroL, (runF (appF (f + a) (secQ d) (layF n d)) s 5).2)
  else ((runF (appF (f + a) (secQ d) (layF n d)) s 5).1, (f, l, a + secQ d, n + 1), 0)
abbrev lgD (x : Int × Int × Int × Int) : DV := logD x.1 x.2.1 x.2.2.1 x.2.2.2
theorem c_wal_Append (S : List (List UInt8)) (W : List (Int × List UInt8)) (L : Int) (O : Bool) (f l a n : Int) (d : List UInt8) (hC : (S.length < 1099511627776 ∧ W.length < 549755813888 ∧ L < 9223372036854775808) ∧ d.length < 1099511627776) : Pure Try.prog n_wal_Append [diskD S W L O, logD f l a n, .sl (bytes d)] (.tup [dkD (appR (S, W, L, O) f l a n d).1, lgD (appR (S, W, L, O) f l a n d).2.1, .int .i64 (appR (S, W, L, O) f l a n d).2.2]) := by
 refine Pure.go tok (rs := [.cell 6 25, .cell 7 27, .tmp 8]) [diskD S W L O, logD f l a n, .sl (bytes d), .undef, .undef, .undef, .undef, .undef, .undef, .undef, .undef, .undef, .undef, .undef, .undef, .undef, .undef, .undef, .undef, .undef, .undef, .undef, .undef, .undef, .undef, .undef, .undef, .undef, .undef, .undef, .undef, .undef, .undef, .undef, .undef, .undef, .undef, .undef, .undef, .undef, .undef, .undef, .undef, .undef, .undef, .undef, .undef, .undef, .undef, .undef, .undef, .undef, .undef, .undef, .undef, .undef, .undef, .undef, .undef, .undef, .undef, .undef, .undef, .undef, .undef, .undef, .undef, .undef, .undef, .undef, .undef, .undef, .undef, .undef, .undef, .undef, .undef, .undef, .undef, .undef, .undef, .undef] Try.func10 (fun σ => ?_)
 have hz : szP S W := ⟨hC.1.1, by omega⟩
 by_cases hm : mayL S W L f l a n
 ·obtain ⟨h1, h2, h3, h4, h5, h6, h7, h8, h9⟩ := id hm
  have h1S := h1.1
  by_cases hf : d.length ≤ 6000
  ·have hmf : mayF n d := ⟨h8, h9, by omega⟩
   have hll := layF_len n d
   by_cases hr : roomL l a d.length
   ·have hE : appE (S, W, L, O) f l a n d = 0 := by unfold appE; rw [if_neg (by simp [hm, hmf]), if_neg (by simp [hr])]
    have iA := con_app (m := W.length) (by omega) (at_ := f + a) (q := secQ d) (B := layF n d) (by omega) (s := (S, W, L, O)) ⟨hC.1.1, Nat.le_refl _, hC.1.2.2⟩
    have iL : Con Try.prog 29 [frameD n d] True (.tup [.sl (bytes (layF n d)), .int .i64 0]) := con_eq (i_frame_Lay n d) hC.2 (by rw [if_pos hmf, if_pos hmf])
    have hq : Int.tdiv (layF n d).length 64 = secQ d := by have hv := tdiv_nat (64 * ((d.length + 83) / 64)) 64; rw [hll]; unfold secQ; rw [show (64 * ((d.length + 83) / 64)) / 64 = (d.length + 83) / 64 by omega] at hv; exact hv
    have hqn : 0 ≤ secQ d ∧ secQ d ≤ 100 := by unfold secQ; omega
    have hdt : (layF n d).drop 64 = (layF n d).drop 64 := rfl
    simp only [appXs] at iA
    generalize hrun : runF (appF (f + a) (secQ d) (layF n d)) (S, W, L, O) 5 = r at iA
    obtain ⟨⟨S', W', L', O'⟩, e⟩ := r
    have iA : Con Try.prog 30 [diskD S W L O, .sl [stepW (f + a + 1) ((layF n d).drop 64), stepW (f + a + secQ d) nought64, flDV, stepW (f + a) ((layF n d).take 64), flDV]] True (.tup [diskD S' W' L' O', .int .i64 e]) := iA
    have hL64 : 64 ≤ (layF n d).length := by omega
    by_cases he : e = 0
    ·subst he
     have hR : appR (S, W, L, O) f l a n d = ((S', W', L', O'), (f, l, a + secQ d, n + 1), 0) := by unfold appR; rw [if_neg (by simp [hE]), hrun, if_neg (by simp)]
     rw [hR]
     repeat' (first | (show Ev _ (.region 13 _ true) _ _; refine D_startW2 [9, 49, 51, 54, 65, 68] (fun u v => σ.boxes ++ [some ⟨25, [.sl (secs S'), .sl (pends W'), .int .i64 L', .bool O']⟩, some ⟨27, [.int .i64 f, .int .i64 l, .int .i64 (a + secQ d), .int .i64 (n + 1)]⟩, u, v]) mix ?_) | (show DrD _ (EW2 _) _ [] _ _ _ _; refine D_nil ?_ (hE := ⟨_, _, _, _, rfl⟩); try dsimp only) | (show DrD _ (EW2 _) _ (_ :: _) _ _ _ _; first | refine D_runLW2 tok ?_ ?_ (h := by intro R u v M; simp (maxSteps := 1000000) (disch := omega) only [go_sem, wrap_i64_id, hq, List.take_length, (if_pos hmf)]; with_reducible exact rfl) | refine D_store tok ?_ ?_ (hE := ⟨_, _, _, _, rfl⟩)) | (show Ev _ (.region _ _ true) _ _; refine D_startA [9, 49, 51, 54, 65, 68, 99998] mix ?_) | (show DrD _ _ _ [] _ _ _ _; refine D_nil ?_; try dsimp only) | (show DrD _ EA _ (_ :: _) _ _ _ _; first | refine D_runLA tok ?_ ?_ (h := by intro R; simp (maxSteps := 1000000) (disch := omega) only [go_sem, wrap_i64_id, hq, List.take_length, (if_pos hmf)]; with_reducible exact rfl)) | (show DrD _ _ _ (_ :: _) _ _ _ _; first | refine D_con ?_ ?_ | refine D_store tok ?_ ?_ | refine D_hold tok ?_ ?_) | (show Ev _ _ _ _; first | refine Ev_seq ?_ | refine W_reg ?_ | refine W_ifF ?_ | refine W_ifN ?_ | refine Ev_skip ?_ | refine Ev_ret ?_) | (show EvD _ _ [] _ _ _; refine W_nil ?_) | (show EvD _ _ (_ :: _) _ _ _; first | refine W_run tok ?_ ?_ (by simp (maxSteps := 1000000) (disch := omega) only [go_sem, wrap_i64_id, hq, List.take_length, (if_pos hmf)]; with_reducible exact rfl) | refine W_callee ?_) | (show EvC _ _ _ _ _ _ _ _ _; refine W_con ?_ ?_) | (show RetQ _ _ (RP _ _) _ _; refine R_ret ?_ ?_) | refine Q_thenN ?_ | fail)
     all_goals (try exact sd)
     all_goals (try refine F_done ?_)
     all_goals rfl
    ·have hR : appR (S, W, L, O) f l a n d = ((S', W', L', O'), zeroL, e) := by unfold appR; rw [if_neg (by simp [hE]), hrun, if_pos he]
     rw [hR]
     repeat' (first | (show Ev _ (.region _ _ true) _ _; refine D_startA [9, 49, 51, 54, 65, 68, 99998] mix ?_) | (show DrD _ _ _ [] _ _ _ _; refine D_nil ?_; try dsimp only) | (show DrD _ EA _ (_ :: _) _ _ _ _; first | refine D_runLA tok ?_ ?_ (h := by intro R; simp (maxSteps := 1000000) (disch := omega) only [go_sem, wrap_i64_id, hq, List.take_length, (if_pos hmf)]; with_reducible exact rfl)) | (show DrD _ _ _ (_ :: _) _ _ _ _; first | refine D_con ?_ ?_ | refine D_store tok ?_ ?_ | refine D_hold tok ?_ ?_) | (show Ev _ _ _ _; first | refine Ev_seq ?_ | refine W_reg ?_ | refine W_ifF ?_ | refine W_ifY ?_ | refine W_ifN ?_ | refine Ev_skip ?_ | refine Ev_ret ?_) | (show EvD _ _ [] _ _ _; refine W_nil ?_) | (show EvD _ _ (_ :: _) _ _ _; first | refine W_run tok ?_ ?_ (by simp (maxSteps := 1000000) (disch := omega) only [go_sem, wrap_i64_id, hq, List.take_length, (if_pos hmf)]; with_reducible exact rfl) | refine W_callee ?_) | (show EvC _ _ _ _ _ _ _ _ _; refine W_con ?_ ?_) | (show RetQ _ _ (RP _ _) _ _; refine R_ret ?_ ?_) | refine Q_thenN ?_ | refine Q_thenR ?_ | fail)
     all_goals (try exact sd)
     all_goals (try refine F_done ?_)
     all_goals rfl
   ·have hE : appE (S, W, L, O) f l a n d = 9 := by unfold appE; rw [if_neg (by simp [hm, hmf]), if_pos hr]
    have hR : appR (S, W, L, O) f l a n d = (zeroK, zeroL, 9) := by unfold appR; rw [if_pos (by simp [hE]), hE]
    rw [hR]
    have iL : Con Try.prog 29 [frameD n d] True (.tup [.sl (bytes (layF n d)), .int .i64 0]) := con_eq (i_frame_Lay n d) hC.2 (by rw [if_pos hmf, if_pos hmf])
    repeat' (first | (show Ev _ _ _ _; first | refine Ev_seq ?_ | refine W_reg ?_ | refine W_ifF ?_ | refine W_ifY ?_ | refine W_ifN ?_ | refine Ev_skip ?_ | refine Ev_ret ?_) | (show EvD _ _ [] _ _ _; refine W_nil ?_) | (show EvD _ _ (_ :: _) _ _ _; first | refine W_run tok ?_ ?_ (by simp (maxSteps := 1000000) (disch := omega) only [go_sem, wrap_i64_id]; with_reducible exact rfl) | refine W_callee ?_) | (show EvC _ _ _ _ _ _ _ _ _; refine W_con ?_ ?_) | (show RetQ _ _ (RP _ _) _ _; refine R_ret ?_ ?_) | (show FrzTo _ _ _ _; refine F_weak ?_) | refine Q_thenN ?_ | refine Q_thenR ?_ | fail)
    all_goals (try exact sd)
    all_goals (try refine F_done ?_)
    all_goals rfl
  ·have hmf : ¬ mayF n d := fun h => by have := h.2.2; omega
   have hE : appE (S, W, L, O) f l a n d = 1 := by unfold appE; rw [if_pos (.inr hmf)]
   have hR : appR (S, W, L, O) f l a n d = (zeroK, zeroL, 1) := by unfold appR; rw [if_pos (by simp [hE]), hE]
   rw [hR]
   have iL : Con Try.prog 29 [frameD n d] True (.tup [.sl [], .int .i64 1]) := con_eq (i_frame_Lay n d) hC.2 (by rw [if_neg hmf, if_neg hmf]; rfl)
   repeat' (first | (show Ev _ _ _ _; first | refine Ev_seq ?_ | refine W_reg ?_ | refine W_ifY ?_ | refine W_ifN ?_ | refine Ev_skip ?_ | refine Ev_ret ?_) | (show EvD _ _ [] _ _ _; refine W_nil ?_) | (show EvD _ _ (_ :: _) _ _ _; first | refine W_run tok ?_ ?_ (by simp (maxSteps := 1000000) (disch := omega) only [go_sem, wrap_i64_id]; with_reducible exact rfl) | refine W_callee ?_) | (show EvC _ _ _ _ _ _ _ _ _; refine W_con ?_ ?_) | (show RetQ _ _ (RP _ _) _ _; refine R_ret ?_ ?_) | (show FrzTo _ _ _ _; refine F_weak ?_) | refine Q_thenN ?_ | refine Q_thenR ?_ | fail)
   all_goals (try exact sd)
   all_goals (try refine F_done ?_)
   all_goals rfl
 ·have hE : appE (S, W, L, O) f l a n d = 1 := by unfold appE; rw [if_pos (.inl hm)]
  have hR : appR (S, W, L, O) f l a n d = (zeroK, zeroL, 1) := by unfold appR; rw [if_pos (by simp [hE]), hE]
  rw [hR]
  repeat' (first | (show Ev _ _ _ _; first | refine Ev_seq ?_ | refine W_reg ?_ | refine W_ifY ?_ | refine Ev_ret ?_) | (show EvD _ _ [] _ _ _; refine W_nil ?_) | (show EvD _ _ (_ :: _) _ _ _; first | refine W_run tok ?_ ?_ (by simp (maxSteps := 1000000) (disch := omega) only [go_sem, wrap_i64_id]; with_reducible exact rfl) | refine W_callee ?_) | (show EvC _ _ _ _ _ _ _ _ _; refine W_con ?_ ?_) | (show RetQ _ _ (RP _ _) _ _; refine R_ret ?_ ?_) | (show FrzTo _ _ _ _; refine F_weak ?_) | refine Q_thenN ?_ | refine Q_thenR ?_ | fail)
  all_goals (try exact sd)
  all_goals (try refine F_done ?_)
  all_goals rfl
instance i_wal_Append (S : List (List UInt8)) (W : List (Int × List UInt8)) (L : Int) (O : Bool) (f l a n : Int) (d : List UInt8) : Con Try.prog 10 [diskD S W L O, logD f l a n, .sl (bytes d)] ((S.length < 1099511627776 ∧ W.length < 549755813888 ∧ L < 9223372036854775808) ∧ d.length < 1099511627776) (.tup [dkD (appR (S, W, L, O) f l a n d).1, lgD (appR (S, W, L, O) f l a n d).2.1, .int .i64 (appR (S, W, L, O) f l a n d).2.2]) := ⟨c_wal_Append S  W  L  O  f l a n  d ⟩
end Go.Val.Ytlfnmgmbmgacgaa
