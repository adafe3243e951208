/- Chapter 06: what a log has next by the document is what it has next (plain law); what is read of a sector, walked. -/
import Derived.Test.YtlfnmgmbmgacgaaY06d
import Derived.Test.YtlfnmgmbmgacgaaX06c
namespace Go.Val.Ytlfnmgmbmgacgaa
open Go Go.Val Go.Proofs Go.Proofs.Ytlfnmgmbmgacgaa
attribute [local irreducible] Ev EvD EvC thenQ blockQ RoundG RetQ
set_option maxRecDepth 100000
set_option maxHeartbeats 4000000
set_option linter.unusedSimpArgs false
set_option linter.unusedVariables false
theorem rd_take {b : List UInt8} (he : hdE b = 0) (hL : rdSz b ≤ b.length) : rdE (b.take (rdSz b)) = rdE b ∧ rdS (b.take (rdSz b)) = rdS b ∧ rdD (b.take (rdSz b)) = rdD b ∧ hdN (b.take (rdSz b)) = hdN b := by
 obtain ⟨h16, hn, -⟩ := hd_ok he
 have hz : rdSz b = 64 * ((hdN b + 83) / 64) := rfl
 obtain ⟨e1, e2, e3⟩ := hd_take (b := b) (k := rdSz b) (by omega) (by omega)
 have z : rdSz (b.take (rdSz b)) = rdSz b := by unfold rdSz at *; rw [e3]
 have hl : (b.take (rdSz b)).length = rdSz b := by rw [List.length_take]; omega
 have hT : ∀ k, k ≤ rdSz b → (b.take (rdSz b)).take k = b.take k := fun k hk => by rw [List.take_take, Nat.min_eq_left hk]
 have hD : rdData (b.take (rdSz b)) = rdData b := by unfold rdData; rw [e3, hT _ (by omega)]
 have hA : rdAny (b.take (rdSz b)) = rdAny b := by unfold rdAny; rw [e3, z, hT _ (Nat.le_refl _)]
 have hE : rdE (b.take (rdSz b)) = rdE b := by
  unfold rdE
  rw [e1, e3, z, hl, hT _ (by omega), hT 16 (by omega), hD, hA, if_neg (by omega : ¬ rdSz b < rdSz b), if_neg (by omega : ¬ b.length < rdSz b)]
 refine ⟨hE, ?_, ?_, e3⟩
 ·unfold rdS; rw [hE, e2]
 ·unfold rdD; rw [hE, hD]
theorem readS_split (S : List (List UInt8)) (W : List (Int × List UInt8)) (i k : Nat) : ∀ n, readS S W i (k + n) = readS S W i k ++ readS S W (i + k) n
 | 0 => by simp [readS]
 | n + 1 => by
  rw [← Nat.add_assoc, readS_succ, readS_split S W i k n, readS_succ, List.append_assoc, Nat.add_assoc]
theorem rd_len {b : List UInt8} (h : rdE b = 0) : hdE b = 0 ∧ rdS b = hdS b ∧ (rdD b).length = hdN b ∧ rdN b = (64 * ((hdN b + 83) / 64) : Nat) ∧ rdSz b ≤ b.length := by
 have he := rd_hd h
 obtain ⟨h16, hn, -⟩ := hd_ok he
 have hL : rdSz b ≤ b.length := by
  unfold rdE at h
  rw [if_neg (by omega)] at h
  split at h
  ·cases h
  ·omega
 have hz : rdSz b = 64 * ((hdN b + 83) / 64) := rfl
 refine ⟨he, by unfold rdS; rw [if_pos h], ?_, by unfold rdN; rw [if_pos h]; rfl, hL⟩
 unfold rdD
 rw [if_pos h]
 unfold rdData
 rw [List.length_drop, List.length_take]; omega
def restS (S : List (List UInt8)) (W : List (Int × List UInt8)) (f l a : Int) : List UInt8 := readS S W (f + a).toNat (l - a).toNat
def goodR (S : List (List UInt8)) (W : List (Int × List UInt8)) (f l a n : Int) : Prop := rdE (restS S W f l a) = 0 ∧ rdS (restS S W f l a) = n ∧ roomL l a (rdD (restS S W f l a)).length
instance (S : List (List UInt8)) (W : List (Int × List UInt8)) (f l a n : Int) : Decidable (goodR S W f l a n) := by unfold goodR; infer_instance
theorem next_eq {S : List (List UInt8)} {W : List (Int × List UInt8)} {L : Int} {f l a n : Int} (hm : mayP S W L) (hf : 0 ≤ f) (ha : 0 ≤ a) (hal : a < l) (hfl : f + l ≤ S.length) :
  (goodR S W f l a n → nextR S W L false f l a n = ((n, rdD (restS S W f l a)), (((hdN (restS S W f l a) + 83) / 64 : Nat) : Int), 0) ∧ rdN (restS S W f l a) = ((64 * ((hdN (restS S W f l a) + 83) / 64) : Nat) : Int) ∧ 1 ≤ (hdN (restS S W f l a) + 83) / 64 ∧ (((hdN (restS S W f l a) + 83) / 64 : Nat) : Int) < l - a) ∧
  (¬ goodR S W f l a n → nextR S W L false f l a n = ((0, []), 0, 0)) := by
 have hbl : (restS S W f l a).length = 64 * (l - a).toNat := by unfold restS; exact readS_len hm _ _ (by omega)
 have hpre : ∀ k : Nat, k ≤ (l - a).toNat → readS S W (f + a).toNat k = (restS S W f l a).take (64 * k) := by
  intro k hk
  have hs := readS_split S W (f + a).toNat k ((l - a).toNat - k)
  rw [show k + ((l - a).toNat - k) = (l - a).toNat by omega] at hs
  have hlk := readS_len hm (f + a).toNat k (by omega)
  unfold restS
  rw [hs, List.take_append_of_le_length (by omega), List.take_of_length_le (by omega)]
 have e1 : readE S W L false (f + a) 1 = 0 := by unfold readE; rw [if_neg (by simpa using hm), if_neg (by rw [Classical.not_not]; omega), if_neg (by simp)]
 have hb1 : nb1 S W (f + a) = (restS S W f l a).take 64 := by
  unfold nb1; rw [hpre 1 (by omega)]
 obtain ⟨b, hb⟩ : ∃ b, b = restS S W f l a := ⟨_, rfl⟩
 obtain ⟨t1, t2, t3⟩ := hd_take (b := b) (k := 64) (by omega) (by rw [hb]; omega)
 unfold goodR
 rw [← hb] at hbl hpre hb1 ⊢
 by_cases hbad : hdBad S W (f + a) l a n
 ·have hx : nextR S W L false f l a n = ((0, []), 0, 0) := by
   unfold nextR; rw [if_neg (by simp [e1]), if_pos hbad]
  refine ⟨?_, fun _ => hx⟩
  ·rintro ⟨g1, g2, g3⟩
   exfalso
   obtain ⟨q1, q2, q3, q4, q5⟩ := rd_len g1
   unfold hdBad at hbad
   rw [hb1, t1, t2, t3] at hbad
   rcases hbad with h | h | h
   ·exact h q1
   ·exact h (by rw [← q2]; exact g2)
   ·rw [q3] at g3; exact h g3
 ·have hb' := hbad
  unfold hdBad at hb'
  rw [hb1, t1, t2, t3] at hb'
  have c1 : hdE b = 0 := Classical.not_not.1 fun h => hb' (.inl h)
  have c2 : (hdS b : Int) = n := Classical.not_not.1 fun h => hb' (.inr (.inl h))
  have c3 : roomL l a (hdN b) := Classical.not_not.1 fun h => hb' (.inr (.inr h))
  obtain ⟨h16, hn6, -⟩ := hd_ok c1
  have hsI : secI (hdN b : Int) = (((hdN b + 83) / 64 : Nat) : Int) := by unfold secI; rw [if_pos (by omega)]; rfl
  have hnq : nq S W (f + a) = (((hdN b + 83) / 64 : Nat) : Int) := by unfold nq; rw [hb1, t3, hsI]
  have hlt : (((hdN b + 83) / 64 : Nat) : Int) < l - a := by have := c3.2.2.2.2; rwa [hsI] at this
  have hq1 : 1 ≤ (hdN b + 83) / 64 := by omega
  have e2 : readE S W L false (f + a) (nq S W (f + a)) = 0 := by rw [hnq]; unfold readE; rw [if_neg (by simpa using hm), if_neg (by rw [Classical.not_not]; omega), if_neg (by simp)]
  have hz : rdSz b = 64 * ((hdN b + 83) / 64) := rfl
  have hb2 : nb2 S W (f + a) = b.take (rdSz b) := by
   unfold nb2; rw [hnq, Int.toNat_natCast, hpre _ (by omega), hz]
  obtain ⟨u1, u2, u3, u4⟩ := rd_take c1 (by omega)
  have hx : nextR S W L false f l a n = if rdE b ≠ 0 then ((0, []), 0, 0) else ((rdS b, rdD b), (((hdN b + 83) / 64 : Nat) : Int), 0) := by
   unfold nextR
   rw [if_neg (by simp [e1]), if_neg hbad, if_neg (by simp [e2]), hb2, u1, u2, u3, u4]
  by_cases g1 : rdE b = 0
  ·obtain ⟨q1, q2, q3, q4, q5⟩ := rd_len g1
   have g2 : rdS b = n := by rw [q2]; exact c2
   rw [if_neg (by rw [g1]; simp), g2] at hx
   exact ⟨fun _ => ⟨hx, q4, hq1, hlt⟩, fun h => absurd ⟨g1, g2, by rw [q3]; exact c3⟩ h⟩
  ·rw [if_pos g1] at hx
   exact ⟨fun h => absurd h.1 g1, fun _ => hx⟩
theorem c_bursarref04_Now (S : List (List UInt8)) (W : List (Int × List UInt8)) (L : Int) (O : Bool) (i : Nat) (hC : szP S W ∧ i < S.length) : Pure Try.prog n_bursarref04_Now [diskD S W L O, .int .i64 (i : Int)] (.str (nowS S W i)) := by
 refine Pure.go tok (rs := [.tmp 4]) [diskD S W L O, .int .i64 (i : Int), .undef, .undef, .undef, .undef, .undef, .undef, .undef, .undef, .undef, .undef, .undef, .undef, .undef, .undef, .undef, .undef, .undef, .undef, .undef, .undef, .undef, .undef, .undef, .undef, .undef, .undef, .undef, .undef, .undef, .undef, .undef, .undef, .undef, .undef] Try.func43 (fun σ => ?_)
 obtain ⟨⟨hz1, hz2⟩, hi0⟩ := hC
 have hg := secs_get hi0
 repeat' (first | (show Ev _ _ _ _; first | refine Ev_seq ?_ | refine W_reg ?_ | refine Ev_block ?_) | (show EvD _ _ [] _ _ _; refine W_nil ?_) | (show EvD _ _ (_ :: _) _ _ _; first | refine W_run tok ?_ ?_ (by simp (maxSteps := 1000000) (disch := omega) only [go_sem, wrap_i64_id, hg]; with_reducible exact rfl)) | refine Q_thenN ?_ | fail)
 all_goals (try exact sd)
 all_goals (try refine F_done ?_)
 refine Ev_lp (W.length) (fun k => [(5, .str (nowN S W i k)), (6, i64 k)]) (fun k => ⟨σ.rows, σ.boxes ++ [some ⟨25, [.sl (secs S), .sl (pends W), .int .i64 L, .bool O]⟩], σ.maps⟩) [13, 14, 15, 16, 17, 18, 19, 20, 21, 22, 23, 24, 25, 26, 27, 28, 29, 30, 31, 32, 33, 34] ?_ (by first | rfl | (simp only [List.take_zero, List.append_nil]; done)) (fun k hi => ?_)
 ·exact le1
 by_cases hk' : k < W.length
 ·have hgp := pends_get hk'
  by_cases hc : (W.getD k (0, [])).1 = (i : Int)
  ·have hp : nowN S W i (k + 1) = (W.getD k (0, [])).2 := by rw [nowN, if_pos hc]
   have dc : decide ((W.getD k (0, [])).1 = (i : Int)) = true := decide_eq_true hc
   repeat' (first | (show Ev _ _ _ _; first | refine Ev_seq ?_ | refine W_reg ?_ | refine Ev_block ?_ | refine W_ifT ?_ | refine W_ifY ?_ | refine Ev_skip ?_) | (show EvD _ _ [] _ _ _; refine W_nil ?_) | (show EvD _ _ (_ :: _) _ _ _; first | refine W_run tok ?_ ?_ (by simp (maxSteps := 1000000) (disch := omega) only [go_sem, wrap_i64_id, hgp, dc]; with_reducible exact rfl)) | refine Q_thenN ?_ | refine Q_blkN ?_ | fail)
   all_goals (try exact sd)
   all_goals (try refine F_done ?_)
   refine Q_rndN ?_ (by omega) ?_
   rotate_left
   ·rfl
   repeat (first | exact LeL.nil | refine LeL.cons2 ?_ (Le.undef _) | refine LeL.cons2 ?_ (Le.refl _) | refine LeL.cons2 ?_ (Le.sl _) | refine LeL.cons2 ?_ (Le.eq (by first | rfl | exact congrArg _ (by omega))) | refine LeL.cons2 ?_ (Le.eq ?_))
   all_goals first | rw [hp] | trace_state
  ·have hp : nowN S W i (k + 1) = nowN S W i k := by rw [nowN, if_neg hc]
   have dc : decide ((W.getD k (0, [])).1 = (i : Int)) = false := decide_eq_false hc
   repeat' (first | (show Ev _ _ _ _; first | refine Ev_seq ?_ | refine W_reg ?_ | refine Ev_block ?_ | refine W_ifF ?_ | refine W_ifY ?_ | refine Ev_skip ?_) | (show EvD _ _ [] _ _ _; refine W_nil ?_) | (show EvD _ _ (_ :: _) _ _ _; first | refine W_run tok ?_ ?_ (by simp (maxSteps := 1000000) (disch := omega) only [go_sem, wrap_i64_id, hgp, dc]; with_reducible exact rfl)) | refine Q_thenN ?_ | refine Q_blkN ?_ | fail)
   all_goals (try exact sd)
   all_goals (try refine F_done ?_)
   refine Q_rndN ?_ (by omega) ?_
   rotate_left
   ·rfl
   repeat (first | exact LeL.nil | refine LeL.cons2 ?_ (Le.undef _) | refine LeL.cons2 ?_ (Le.refl _) | refine LeL.cons2 ?_ (Le.sl _) | refine LeL.cons2 ?_ (Le.eq (by first | rfl | exact congrArg _ (by omega))) | refine LeL.cons2 ?_ (Le.eq ?_))
   all_goals first | rw [hp] | trace_state
 ·obtain rfl : k = W.length := by omega
  repeat' (first | (show Ev _ _ _ _; first | refine Ev_seq ?_ | refine W_reg ?_ | refine W_ifN ?_ | refine Ev_exit ?_ | refine Ev_ret ?_) | (show EvD _ _ [] _ _ _; refine W_nil ?_) | (show EvD _ _ (_ :: _) _ _ _; first | refine W_run tok ?_ ?_ (by simp (maxSteps := 1000000) (disch := omega) only [go_sem, wrap_i64_id]; with_reducible exact rfl)) | (show RetQ _ _ (RP _ _) _ _; refine R_ret ?_ ?_) | refine Q_thenN ?_ | refine Q_thenE ?_ | refine Q_blkE ?_ | refine Q_rndE ?_ | fail)
  all_goals (try exact sd)
  all_goals (try refine F_done ?_)
  all_goals first | rfl | trace_state
instance i_bursarref04_Now (S : List (List UInt8)) (W : List (Int × List UInt8)) (L : Int) (O : Bool) (i : Nat) : Con Try.prog 43 [diskD S W L O, .int .i64 (i : Int)] (szP S W ∧ i < S.length) (.str (nowS S W i)) := ⟨c_bursarref04_Now S  W  L  O  i ⟩
end Go.Val.Ytlfnmgmbmgacgaa
