/- Chapter 05: a frame with one up to 32 bits turned over is refused, walked. -/
import Derived.Test.YtkmhdefcflidhaaE05f
namespace Go.Val.Ytkmhdefcflidhaa
open Go Go.Val Go.Proofs Go.Proofs.Ytkmhdefcflidhaa
attribute [local irreducible] Ev EvD EvC thenQ blockQ RoundG RetQ
set_option maxRecDepth 100000
set_option maxHeartbeats 4000000
set_option linter.unusedSimpArgs false
set_option linter.unusedVariables false

/-- With a word turned over the remainder is another one. -/
theorem flips_fold (s : List UInt8) (x : BitVec 32) (hx : x ≠ 0#32) (K : Nat) (hK : K + 32 ≤ 8 * s.length) (n : Nat) (hn : n = min 5 (s.length - K / 8)) :
    crcFold (flips s (turnD x (K % 8)) (K / 8) n) ≠ crcFold s := by
  have hD : (turnD x (K % 8)).length = 5 := rfl
  rw [flips_zip _ _ _ _ (by omega) (by omega)]
  have hE : (List.replicate (K / 8) (0 : UInt8) ++ (turnD x (K % 8)).take n ++ List.replicate (s.length - K / 8 - n) (0 : UInt8)).length = s.length := by
    simp [hD]; omega
  have hf := fold_xor s (List.replicate (K / 8) (0 : UInt8) ++ (turnD x (K % 8)).take n ++ List.replicate (s.length - K / 8 - n) (0 : UInt8)) (BitVec.allOnes 32) 0#32 hE.symm
  rw [BitVec.xor_zero] at hf
  unfold crcFold
  rw [hf]
  intro e
  have hz : (List.replicate (K / 8) (0 : UInt8) ++ (turnD x (K % 8)).take n ++ List.replicate (s.length - K / 8 - n) (0 : UInt8)).foldl crcByte 0#32 = 0#32 := by
    have := congrArg (fun v => s.foldl crcByte (BitVec.allOnes 32) ^^^ v) e
    simpa [← BitVec.xor_assoc] using this
  by_cases h5 : n = 5
  · rw [h5, List.take_of_length_le (by omega)] at hz
    exact turn_fold x hx (K % 8) (by omega) _ _ hz
  · have h4 : n = 4 := by omega
    have h8 : K % 8 = 0 := by omega
    have hm : s.length - K / 8 - n = 0 := by omega
    rw [hm, h4, h8, List.replicate_zero, List.append_nil] at hz
    have : (turnD x 0).take 4 = sumD x := by
      rw [turnD, BitVec.ushiftRight_zero]
      rfl
    rw [this] at hz
    exact turn_fold4 x hx _ hz
theorem rd_ok {b : List UInt8} (h : rdE b = 0) : hdE b = 0 ∧ rdSz b ≤ b.length ∧ (openD (b.take (20 + hdN b))).2 = 0 ∧ rdAny b = false := by
  unfold rdE at h
  split at h
  · rename_i h1; exact absurd h h1
  · rename_i h1
    split at h
    · omega
    · split at h
      · omega
      · rename_i h2 h3
        split at h
        · omega
        · rename_i h4
          refine ⟨Classical.not_not.1 h1, by omega, Classical.not_not.1 fun h => h3 (.inl h), by cases hr : rdAny b with | true => exact absurd hr h4 | false => rfl⟩
theorem open_fold {b : List UInt8} (h : (openD b).2 = 0) : crcFold b = resid 4 := by
  have h4 : ¬ b.length < 4 := by intro h'; unfold openD at h; rw [if_pos h'] at h; cases h
  unfold openD at h
  rw [if_neg h4] at h
  split at h
  · rename_i he
    rw [← (openD_iff b h4).2 he, seal_fold]
  · cases h
theorem any_zeros {l : List UInt8} (h : l.any (fun c => !decide (c = 0)) = false) : l = List.replicate l.length 0 := by
  rw [List.any_eq_false] at h
  exact List.eq_replicate_iff.2 ⟨rfl, fun c hc => by simpa using h c hc⟩
/-- A FRAME WITH A WORD TURNED OVER IS REFUSED, where what tells how many octets there are stays. -/
theorem finds {s : Int} {d : List UInt8} (hm : mayF s d) (x : BitVec 32) (hx : x ≠ 0#32) (K : Nat) (hK : K + 32 ≤ 8 * (layF s d).length) (n : Nat) (hn : n = min 5 ((layF s d).length - K / 8))
    (h10 : ((flips (layF s d) (turnD x (K % 8)) (K / 8) n).take 12).drop 10 = ((layF s d).take 12).drop 10) : rdE (flips (layF s d) (turnD x (K % 8)) (K / 8) n) ≠ 0 := by
  have hne := flips_fold (layF s d) x hx K hK n hn
  have hyl := flips_len (layF s d) (turnD x (K % 8)) (K / 8) n
  generalize flips (layF s d) (turnD x (K % 8)) (K / 8) n = y at hne hyl h10 ⊢
  intro h0
  obtain ⟨he, hz, ho, ha⟩ := rd_ok h0
  have hll := layF_len s d
  have hq := layF_eq s d []
  rw [List.append_nil] at hq
  obtain ⟨e1, e2, e3⟩ := head_lay hm hq (by simp [beN_len])
  have eN : hdN y = d.length := by
    rw [(hd_ok he).2.2.2.2.2, h10, ← (hd_ok e1).2.2.2.2.2, e3]
  have hsl : (sealD (rawF s.toNat d)).length = 20 + d.length := by rw [sealD_len, rawF_len]; omega
  have hzz : rdSz y = (layF s d).length := by unfold rdSz; rw [eN, hll]
  apply hne
  have f1 := open_fold ho
  rw [eN] at f1
  have hy : y = y.take (20 + d.length) ++ List.replicate ((layF s d).length - (20 + d.length)) 0 := by
    have h1 := any_zeros (by unfold rdAny at ha; exact ha)
    rw [eN, hzz, List.take_of_length_le (by omega)] at h1
    rw [List.length_drop, hyl] at h1
    rw [← h1, List.take_append_drop]
  rw [hy, layF]
  unfold crcFold at f1 ⊢
  rw [List.foldl_append, List.foldl_append, f1]
  have f2 := seal_fold (rawF s.toNat d)
  unfold crcFold at f2
  rw [f2]
  congr 2
  rw [List.length_append, hsl, List.length_replicate]
  omega
/-- The first of so many rounds at which something is so. -/
def firstN (n : Nat) (p : Nat → Bool) : Nat := (List.range n).findIdx p
theorem firstN_le (n : Nat) (p : Nat → Bool) : firstN n p ≤ n := by have := List.findIdx_le_length (xs := List.range n) (p := p); simpa [firstN] using this
theorem firstN_lt {n : Nat} {p : Nat → Bool} {i : Nat} (h : i < firstN n p) : p i = false := by
  have := List.not_of_lt_findIdx h
  simpa using this
theorem firstN_eq {n : Nat} {p : Nat → Bool} (h : firstN n p < n) : p (firstN n p) = true := by
  have h' : (List.range n).findIdx p < (List.range n).length := by simpa [firstN] using h
  have := List.findIdx_getElem (w := h')
  simpa [firstN] using this
def badAt (D : List UInt8) (a i : Nat) : Bool := decide (a + i = 10 ∨ a + i = 11) && !decide (D.getD i 0 = 0)
theorem flips_same (s D : List UInt8) (a n : Nat) (h : ∀ i, i < n → badAt D a i = false) : ((flips s D a n).take 12).drop 10 = (s.take 12).drop 10 := by
  apply List.ext_getElem?
  intro j
  rw [List.getElem?_drop, List.getElem?_drop, List.getElem?_take, List.getElem?_take]
  by_cases h12 : 10 + j < 12
  · rw [if_pos h12, if_pos h12, flips, List.getElem?_mapIdx]
    by_cases hc : a ≤ 10 + j ∧ 10 + j < a + n
    · have hb := h (10 + j - a) (by omega)
      have hz : D.getD (10 + j - a) 0 = 0 := by
        unfold badAt at hb
        rw [decide_eq_true (by omega : a + (10 + j - a) = 10 ∨ a + (10 + j - a) = 11)] at hb
        simpa using hb
      cases hs : s[10 + j]? with
      | none => rfl
      | some c => simp only [Option.map_some, if_pos hc, hz, UInt8.xor_zero]
    · cases hs : s[10 + j]? with
      | none => rfl
      | some c => simp only [Option.map_some, if_neg hc]
  · rw [if_neg h12, if_neg h12]
theorem cx_frame_Lay (s : Int) (d : List UInt8) (hC : mayF s d) : ∀ σ : Store, Does Try.prog n_frame_Lay [frameD s d] σ (one ((.tup [.row 0 (layF s d).length, .int .i64 0] : DV).ren (σ.rows.length + ·) (σ.boxes.length + ·) (σ.maps.length + ·)) (σ.plus [⟨bytes (layF s d), 5, 1⟩] [] [])) := by
  refine FxT.go tok (rv := [.tmp 2, .tmp 3]) [frameD s d, .undef, .undef, .undef, .undef, .undef, .undef, .undef, .undef, .undef, .undef, .undef, .undef, .undef, .undef, .undef, .undef, .undef, .undef, .undef, .undef, .undef, .undef, .undef, .undef, .undef, .undef, .undef, .undef, .undef, .undef, .undef, .undef, .undef, .undef, .undef, .undef, .undef, .undef] Try.func26 (fun σ => ?_)
  have hm := hC
  obtain ⟨h1, h2, h3⟩ := hC
  have hc := (crcSum d).isLt
  have hq : secI (d.length : Int) = (((d.length + 83) / 64 : Nat) : Int) := by unfold secI; rw [if_pos (by omega)]; rfl
  have hr := rawF_len s.toNat d
  have hl : (sealD (rawF s.toNat d)).length = 20 + d.length := by rw [sealD_len]; omega
  have hR : (98 :: 117 :: 114 :: 115 :: (beN 6 s.toNat ++ (beN 2 d.length ++ (beN 4 (crcSum d).toNat ++ d)))) = rawF s.toNat d := by simp [rawF]
  have hll := layF_len s d
  have hL : layF s d = sealD (rawF s.toNat d) ++ List.replicate (64 * ((d.length + 83) / 64) - (20 + d.length)) 0 := rfl
  have ht : ((((d.length + 83) / 64 : Nat) : Int) * 64 - ((20 + d.length : Nat) : Int)).toNat = 64 * ((d.length + 83) / 64) - (20 + d.length) := by omega
  have hLn : (layF s d).length = 20 + d.length + (64 * ((d.length + 83) / 64) - (20 + d.length)) := by omega
  rw [hLn]
  repeat' (first | (show Ev _ (.region _ _ true) _ _; first | refine D_start [13, 26, 41, 42, 44, 46, 60] mix ?_ | refine D_startA [13, 26, 41, 42, 44, 46, 60, 99998] mix ?_ | refine D_startA [13, 26, 41, 42, 44, 46, 60] mix ?_) | (show DrD _ _ _ [] _ _ _ _; refine D_nil ?_; try dsimp only) | (show DrD _ _ _ (⟨_, _, _, _, _, some _⟩ :: _) _ _ _ _; first | refine D_grdY ?_ | refine D_grdN ?_ | refine D_grdP (fun h => ?_) (fun h => ?_) | refine D_grdB (fun h => ?_) (fun h => ?_)) | (show DrD _ (EB _ _) _ (_ :: _) _ _ _ _; first | refine D_runL tok ?_ ?_ (h := by intro R; simp (maxSteps := 1000000) (disch := omega) only [go_sem, wrap_i64_id, hq, (if_pos hm), hR, hl, ht]; with_reducible exact rfl)) | (show DrD _ EA _ (_ :: _) _ _ _ _; first | refine D_runLA tok ?_ ?_ (h := by intro R; simp (maxSteps := 1000000) (disch := omega) only [go_sem, wrap_i64_id, hq, (if_pos hm), hR, hl, ht]; with_reducible exact rfl)) | (show DrD _ (ES _) _ (_ :: _) _ _ _ _; first | refine D_runLE tok ?_ ?_ (h := by simp (maxSteps := 1000000) (disch := omega) only [go_sem, wrap_i64_id, hq, (if_pos hm), hR, hl, ht]; with_reducible exact rfl)) | (show DrD _ _ _ (_ :: _) _ _ _ _; first | refine D_con ?_ ?_ | refine D_own ?_ ?_ | refine D_app ?_ ?_ ?_ | refine D_store tok ?_ ?_ | refine D_eff tok ?_ ?_ | refine D_hold tok ?_ ?_) | (show Ev _ _ _ _; first | refine Ev_seq ?_ | refine W_reg ?_ | refine Ev_block ?_ | refine W_ifT ?_ | refine W_ifF ?_ | refine W_ifY ?_ | refine W_ifN ?_ | refine W_ifP (fun h => ?_) (fun h => ?_) | refine W_ifB (fun h => ?_) (fun h => ?_) | refine Ev_skip ?_ | refine Ev_exit ?_ | refine Ev_ret ?_) | (show EvD _ _ [] _ _ _; refine W_nil ?_) | (show EvD _ _ (⟨_, _, _, _, _, some _⟩ :: _) _ _ _; first | refine W_grdY ?_ | refine W_grdN ?_ | refine W_grdP (fun h => ?_) (fun h => ?_) | refine W_grdB (fun h => ?_) (fun h => ?_)) | (show EvD _ _ (⟨some _, .buildSlice _ _ _, _, _, _, none⟩ :: ⟨some _, .convert _ _ (.tmp _), _, _, _, none⟩ :: _) _ _ _; refine W_lit tok ?_ ?_) | (show EvD _ _ (_ :: _) _ _ _; first | refine W_run tok ?_ ?_ (by simp (maxSteps := 1000000) (disch := omega) only [go_sem, wrap_i64_id, hq, (if_pos hm), hR, hl, ht]; with_reducible exact rfl) | refine W_callee ?_ | refine W_frz ?_ | refine W_isnil tok (fun qn hqn => ?_)) | (show EvC _ _ _ _ _ _ _ _ _; first | refine W_con ?_ ?_ | refine W_conOwn ?_ ?_ | refine W_conT ?_ ?_ | refine W_conApp ?_ ?_ ?_ | refine W_weak ?_ | refine W_frzArg ?_ | refine W_box ?_) | (show EvB _ _ _ _ _ _ _ _ _ _ _ _; refine W_conP ?_ ?_) | (show RetQ _ _ (RP _ _) _ _; refine R_ret ?_ ?_) | (show RetQ _ _ (RO _ _ _ _) _ _; refine R_own ?_ ?_) | (show RetQ _ _ (RX _ ⟨_, List.set _ _ _, _⟩ _ [] [] []) _ _; first | refine R_p0 ?_ ?_ ?_ | refine R_p0s hB ?_ ?_ ?_) | (show RetQ _ _ (RX _ _ _ [] [] []) _ _; refine R_x0 ?_ ?_) | (show RetQ _ _ (RX _ _ _ [_] [] []) _ _; refine R_xr ?_ (by intro p q s hp; simp only [DV.ren, rens, hp]; exact rfl) ?_) | (show RetQ _ _ (RX _ _ _ [] [_] []) _ _; refine R_xb ?_ (by intro p q s hp; simp only [DV.ren, rens, hp]; exact rfl) ?_) | (show FrzTo _ _ _ _; first | refine F_row ?_ | refine F_weak ?_) | refine Q_thenN ?_ | refine Q_thenE ?_ | refine Q_thenR ?_ | refine Q_blkN ?_ | refine Q_blkE ?_ | (show blockQ _ _ _ _; refine Q_blkX ?_) | refine Q_blkR ?_ | refine Q_rndE ?_ | refine Q_rndR ?_)
  all_goals (try first | exact trivial | omega | (simp only [List.length_take, List.length_drop, List.length_append, List.length_replicate, List.length_cons, List.length_nil, bytes_len, beN_len, Int.reduceToNat, true_and, and_true]; omega))
  all_goals (try refine F_done ?_)
  all_goals rfl
instance ix_frame_Lay (s : Int) (d : List UInt8) : ConT Try.prog 26 [frameD s d] (mayF s d) (.tup [.row 0 (layF s d).length, .int .i64 0]) ([⟨bytes (layF s d), 5, 1⟩]) ([]) ([]) := ⟨cx_frame_Lay s  d ⟩
theorem conT_lay {s : Int} {d : List UInt8} (h : mayF s d) : ConT Try.prog 26 [frameD s d] True (.tup [.row 0 (layF s d).length, .int .i64 0]) [⟨bytes (layF s d), 5, 1⟩] [] [] := ⟨fun _ => cx_frame_Lay s d h⟩
theorem c_bursarlaw05_FrameFinds (s : Int) (d : List UInt8) (at_ tn : Int) (hC : (0 ≤ at_ ∧ at_ < 18446744073709551616) ∧ 0 ≤ tn ∧ tn < 4294967296) : Pure Try.prog n_bursarlaw05_FrameFinds [frameD s d, .int .u64 at_, .int .u32 tn] (.bool true) := by
  refine Pure.go tok (rs := [.tmp 6]) [frameD s d, .int .u64 at_, .int .u32 tn, .undef, .undef, .undef, .undef, .undef, .undef, .undef, .undef, .undef, .undef, .undef, .undef, .undef, .undef, .undef, .undef, .undef, .undef, .undef, .undef, .undef, .undef, .undef, .undef, .undef, .undef, .undef, .undef, .undef, .undef, .undef, .undef, .undef, .undef, .undef, .undef, .undef, .undef, .undef, .undef, .undef, .undef, .undef, .undef, .undef, .undef, .undef, .undef, .undef, .undef, .undef, .undef, .undef, .undef, .undef, .undef, .undef, .undef, .undef, .undef, .undef, .undef, .undef, .undef, .undef, .undef, .undef, .undef, .undef, .undef, .undef, .undef, .undef, .undef, .undef, .undef, .undef, .undef, .undef, .undef, .undef, .undef, .undef, .undef, .undef, .undef, .undef, .undef, .undef, .undef, .undef, .undef, .undef, .undef, .undef, .undef, .undef, .undef, .undef, .undef, .undef, .undef, .undef, .undef, .undef, .undef, .undef, .undef, .undef, .undef, .undef, .undef, .undef, .undef, .undef, .undef, .undef, .undef, .undef, .undef, .undef, .undef, .undef, .undef, .undef, .undef, .undef, .undef, .undef, .undef, .undef, .undef, .undef, .undef, .undef, .undef] Try.func8 (fun σ => ?_)
  obtain ⟨atN, rfl⟩ : ∃ n : Nat, at_ = (n : Int) := ⟨at_.toNat, by omega⟩
  obtain ⟨x, rfl⟩ : ∃ x : BitVec 32, tn = (x.toNat : Int) := ⟨BitVec.ofNat 32 tn.toNat, by rw [BitVec.toNat_ofNat]; omega⟩
  clear hC
  obtain ⟨d', hd⟩ : ∃ d', d' = fewB d := ⟨_, rfl⟩
  have hdl : d'.length ≤ 6001 := by rw [hd]; exact fewB_le d
  have iF : Con Try.prog 25 [.sl (bytes d)] True (.sl (bytes d')) := by rw [hd]; exact i_bursarlaw05_few d
  clear hd
  by_cases hm : mayF s d'
  · have iL := conT_lay hm
    have hll := layF_len s d'
    have h6 := hm.2.2
    have hfin := finds hm x
    generalize hP : layF s d' = P at iL hll hfin
    have hP64 : 64 ≤ P.length := by omega
    have hP2 : P.length ≤ 6200 := by omega
    by_cases hx : x = 0#32
    · subst hx
      have hz0 : ((0#32 : BitVec 32).toNat : Int) = 0 := rfl
      clear hfin
      repeat' (first | (show Ev _ (.region _ _ true) _ _; first | refine D_start [13, 26, 41, 42, 44, 46, 60] mix ?_ | refine D_startA [13, 26, 41, 42, 44, 46, 60, 99998] mix ?_ | refine D_startA [13, 26, 41, 42, 44, 46, 60] mix ?_) | (show DrD _ _ _ [] _ _ _ _; refine D_nil ?_; try dsimp only) | (show DrD _ _ _ (⟨_, _, _, _, _, some _⟩ :: _) _ _ _ _; first | refine D_grdY ?_ | refine D_grdN ?_ | refine D_grdP (fun h => ?_) (fun h => ?_) | refine D_grdB (fun h => ?_) (fun h => ?_)) | (show DrD _ (EB _ _) _ (_ :: _) _ _ _ _; first | refine D_runL tok ?_ ?_ (h := by intro R; simp (maxSteps := 1000000) (disch := omega) only [go_sem, wrap_i64_id]; with_reducible exact rfl)) | (show DrD _ EA _ (_ :: _) _ _ _ _; first | refine D_runLA tok ?_ ?_ (h := by intro R; simp (maxSteps := 1000000) (disch := omega) only [go_sem, wrap_i64_id]; with_reducible exact rfl)) | (show DrD _ (ES _) _ (_ :: _) _ _ _ _; first | refine D_runLE tok ?_ ?_ (h := by simp (maxSteps := 1000000) (disch := omega) only [go_sem, wrap_i64_id]; with_reducible exact rfl)) | (show DrD _ _ _ (_ :: _) _ _ _ _; first | refine D_con ?_ ?_ | refine D_own ?_ ?_ | refine D_app ?_ ?_ ?_ | refine D_store tok ?_ ?_ | refine D_eff tok ?_ ?_ | refine D_hold tok ?_ ?_) | (show Ev _ _ _ _; first | refine Ev_seq ?_ | refine W_reg ?_ | refine Ev_block ?_ | refine W_ifT ?_ | refine W_ifF ?_ | refine W_ifY ?_ | refine W_ifN ?_ | refine W_ifP (fun h => ?_) (fun h => ?_) | refine W_ifB (fun h => ?_) (fun h => ?_) | refine Ev_skip ?_ | refine Ev_exit ?_ | refine Ev_ret ?_) | (show EvD _ _ [] _ _ _; refine W_nil ?_) | (show EvD _ _ (⟨_, _, _, _, _, some _⟩ :: _) _ _ _; first | refine W_grdY ?_ | refine W_grdN ?_ | refine W_grdP (fun h => ?_) (fun h => ?_) | refine W_grdB (fun h => ?_) (fun h => ?_)) | (show EvD _ _ (⟨some _, .buildSlice _ _ _, _, _, _, none⟩ :: ⟨some _, .convert _ _ (.tmp _), _, _, _, none⟩ :: _) _ _ _; refine W_lit tok ?_ ?_) | (show EvD _ _ (_ :: _) _ _ _; first | refine W_run tok ?_ ?_ (by simp (maxSteps := 1000000) (disch := omega) only [go_sem, wrap_i64_id]; with_reducible exact rfl) | refine W_callee ?_ | refine W_frz ?_ | refine W_isnil tok (fun qn hqn => ?_)) | (show EvC _ _ _ _ _ _ _ _ _; first | refine W_conT ?_ ?_ | refine W_con ?_ ?_ | refine W_conOwn ?_ ?_ | refine W_conApp ?_ ?_ ?_ | refine W_weak ?_ | refine W_frzArg ?_ | refine W_box ?_) | (show EvB _ _ _ _ _ _ _ _ _ _ _ _; refine W_conP ?_ ?_) | (show RetQ _ _ (RP _ _) _ _; refine R_ret ?_ ?_) | (show RetQ _ _ (RO _ _ _ _) _ _; refine R_own ?_ ?_) | (show RetQ _ _ (RX _ ⟨_, List.set _ _ _, _⟩ _ [] [] []) _ _; first | refine R_p0 ?_ ?_ ?_ | refine R_p0s hB ?_ ?_ ?_) | (show RetQ _ _ (RX _ _ _ [] [] []) _ _; refine R_x0 ?_ ?_) | (show RetQ _ _ (RX _ _ _ [_] [] []) _ _; refine R_xr ?_ (by intro p q s hp; simp only [DV.ren, rens, hp]; exact rfl) ?_) | (show RetQ _ _ (RX _ _ _ [] [_] []) _ _; refine R_xb ?_ (by intro p q s hp; simp only [DV.ren, rens, hp]; exact rfl) ?_) | (show FrzTo _ _ _ _; first | refine F_row ?_ | refine F_weak ?_) | refine Q_thenN ?_ | refine Q_thenE ?_ | refine Q_thenR ?_ | refine Q_blkN ?_ | refine Q_blkE ?_ | (show blockQ _ _ _ _; refine Q_blkX ?_) | refine Q_blkR ?_ | refine Q_rndE ?_ | refine Q_rndR ?_)
      all_goals (try first | exact trivial | omega | (simp only [List.length_take, List.length_drop, List.length_append, List.length_replicate, List.length_cons, List.length_nil, bytes_len, beN_len, Int.reduceToNat, true_and, and_true]; omega))
      all_goals (try refine F_done ?_)
      all_goals rfl
    · have hxn : ¬ ((x.toNat : Nat) : Int) = 0 := by
        intro h
        apply hx
        apply BitVec.eq_of_toNat_eq
        simp; omega
      have hxl := x.isLt
      obtain ⟨K, hK⟩ : ∃ K, K = atN % (8 * P.length - 31) := ⟨_, rfl⟩
      have hKb : K < 8 * P.length - 31 := by rw [hK]; exact Nat.mod_lt _ (by omega)
      have hk1 : Int.tmod (atN : Int) (8 * (P.length : Int) - 31) = (K : Int) := by
        rw [show (8 * (P.length : Int) - 31) = ((8 * P.length - 31 : Nat) : Int) by omega, tmod_nat, hK]
      have hk8 : Int.tmod (K : Int) 8 = ((K % 8 : Nat) : Int) := tmod_nat K 8
      have hk9 : Int.tdiv (K : Int) 8 = ((K / 8 : Nat) : Int) := tdiv_nat K 8
      obtain ⟨W, hW⟩ : ∃ W, W = x.toNat * 2 ^ (32 - K % 8) := ⟨_, rfl⟩
      have hWb : W < 18446744073709551616 := by
        rw [hW]
        calc x.toNat * 2 ^ (32 - K % 8) ≤ x.toNat * 2 ^ 32 := Nat.mul_le_mul_left _ (Nat.pow_le_pow_right (by omega) (by omega))
          _ < 2 ^ 32 * 2 ^ 32 := Nat.mul_lt_mul_of_pos_right hxl (by decide)
      have h32 : ((32 : Int) - ((K % 8 : Nat) : Int)).toNat = 32 - K % 8 := by omega
      have h64 : (32 - K % 8 ≤ 64) = True := by simp; omega
      have hWi : IntKind.u64.wrap ((x.toNat : Int) * 2 ^ (32 - K % 8)) = (W : Int) := by
        have e : (x.toNat : Int) * 2 ^ (32 - K % 8) = (W : Int) := by rw [hW, Int.natCast_mul, Int.natCast_pow]; rfl
        rw [e, wrap_u64_id (by omega) (by omega)]
      obtain ⟨n, hn⟩ : ∃ n, n = min 5 (P.length - K / 8) := ⟨_, rfl⟩
      have hfin := hfin hx K (by omega) n hn
      have hk8lt : K % 8 ≤ 7 := by omega
      generalize hD : turnD x (K % 8) = D at hfin
      have hbyte : ∀ i, i < 5 → IntKind.u8.wrap (Int.fdiv (W : Int) (2 ^ (56 - 8 * i))) = ((D.getD i 0).toNat : Int) := by
        intro i hi
        have := turn_byte x (K % 8) hk8lt i hi
        rw [← hW, hD] at this
        rw [← this, Int.fdiv_eq_ediv_of_nonneg _ (Int.pow_nonneg (by omega)), IntKind.wrap_u8', Int.natCast_emod, Int.natCast_ediv, Int.natCast_pow]
        rfl
      clear hWb
      have hfl := fun i => flips_len P D (K / 8) i
      have hf0 := flips_zero P D (K / 8)
      have hsame := flips_same P D (K / 8) n
      repeat' (first | (show Ev _ (.region _ _ true) _ _; first | refine D_start [13, 26, 41, 42, 44, 46, 60] mix ?_ | refine D_startA [13, 26, 41, 42, 44, 46, 60, 99998] mix ?_ | refine D_startA [13, 26, 41, 42, 44, 46, 60] mix ?_) | (show DrD _ _ _ [] _ _ _ _; refine D_nil ?_; try dsimp only) | (show DrD _ _ _ (⟨_, _, _, _, _, some _⟩ :: _) _ _ _ _; first | refine D_grdY ?_ | refine D_grdN ?_ | refine D_grdP (fun h => ?_) (fun h => ?_) | refine D_grdB (fun h => ?_) (fun h => ?_)) | (show DrD _ (EB _ _) _ (_ :: _) _ _ _ _; first | refine D_runL tok ?_ ?_ (h := by intro R; simp (maxSteps := 1000000) (disch := omega) only [go_sem, wrap_i64_id, wrap_u64_id, hk1, hk8, h32, h64, hWi]; with_reducible exact rfl)) | (show DrD _ EA _ (_ :: _) _ _ _ _; first | refine D_runLA tok ?_ ?_ (h := by intro R; simp (maxSteps := 1000000) (disch := omega) only [go_sem, wrap_i64_id, wrap_u64_id, hk1, hk8, h32, h64, hWi]; with_reducible exact rfl)) | (show DrD _ (ES _) _ (_ :: _) _ _ _ _; first | refine D_runLE tok ?_ ?_ (h := by simp (maxSteps := 1000000) (disch := omega) only [go_sem, wrap_i64_id, wrap_u64_id, hk1, hk8, h32, h64, hWi]; with_reducible exact rfl)) | (show DrD _ _ _ (_ :: _) _ _ _ _; first | refine D_con ?_ ?_ | refine D_own ?_ ?_ | refine D_app ?_ ?_ ?_ | refine D_store tok ?_ ?_ | refine D_eff tok ?_ ?_ | refine D_hold tok ?_ ?_) | (show Ev _ _ _ _; first | refine Ev_seq ?_ | refine W_reg ?_ | refine Ev_block ?_ | refine W_ifT ?_ | refine W_ifF ?_ | refine W_ifY ?_ | refine W_ifN ?_ | refine W_ifP (fun h => ?_) (fun h => ?_) | refine W_ifB (fun h => ?_) (fun h => ?_) | refine Ev_skip ?_ | refine Ev_exit ?_ | refine Ev_ret ?_) | (show EvD _ _ [] _ _ _; refine W_nil ?_) | (show EvD _ _ (⟨_, _, _, _, _, some _⟩ :: _) _ _ _; first | refine W_grdY ?_ | refine W_grdN ?_ | refine W_grdP (fun h => ?_) (fun h => ?_) | refine W_grdB (fun h => ?_) (fun h => ?_)) | (show EvD _ _ (⟨some _, .buildSlice _ _ _, _, _, _, none⟩ :: ⟨some _, .convert _ _ (.tmp _), _, _, _, none⟩ :: _) _ _ _; refine W_lit tok ?_ ?_) | (show EvD _ _ (_ :: _) _ _ _; first | refine W_run tok ?_ ?_ (by simp (maxSteps := 1000000) (disch := omega) only [go_sem, wrap_i64_id, wrap_u64_id, hk1, hk8, h32, h64, hWi]; with_reducible exact rfl) | refine W_callee ?_ | refine W_frz ?_ | refine W_isnil tok (fun qn hqn => ?_)) | (show EvC _ _ _ _ _ _ _ _ _; first | refine W_conT ?_ ?_ | refine W_con ?_ ?_ | refine W_conOwn ?_ ?_ | refine W_conApp ?_ ?_ ?_ | refine W_weak ?_ | refine W_frzArg ?_ | refine W_box ?_) | (show EvB _ _ _ _ _ _ _ _ _ _ _ _; refine W_conP ?_ ?_) | (show RetQ _ _ (RP _ _) _ _; refine R_ret ?_ ?_) | (show RetQ _ _ (RO _ _ _ _) _ _; refine R_own ?_ ?_) | (show RetQ _ _ (RX _ ⟨_, List.set _ _ _, _⟩ _ [] [] []) _ _; first | refine R_p0 ?_ ?_ ?_ | refine R_p0s hB ?_ ?_ ?_) | (show RetQ _ _ (RX _ _ _ [] [] []) _ _; refine R_x0 ?_ ?_) | (show RetQ _ _ (RX _ _ _ [_] [] []) _ _; refine R_xr ?_ (by intro p q s hp; simp only [DV.ren, rens, hp]; exact rfl) ?_) | (show RetQ _ _ (RX _ _ _ [] [_] []) _ _; refine R_xb ?_ (by intro p q s hp; simp only [DV.ren, rens, hp]; exact rfl) ?_) | (show FrzTo _ _ _ _; first | refine F_row ?_ | refine F_weak ?_) | refine Q_thenN ?_ | refine Q_thenE ?_ | refine Q_thenR ?_ | refine Q_blkN ?_ | refine Q_blkE ?_ | (show blockQ _ _ _ _; refine Q_blkX ?_) | refine Q_blkR ?_ | refine Q_rndE ?_ | refine Q_rndR ?_)
      all_goals (try first | exact trivial | omega | (simp only [List.length_take, List.length_drop, List.length_append, List.length_replicate, List.length_cons, List.length_nil, bytes_len, beN_len, Int.reduceToNat, true_and, and_true]; omega))
      all_goals (try refine F_done ?_)
      obtain ⟨N, hN⟩ : ∃ N, N = firstN n (badAt D (K / 8)) := ⟨_, rfl⟩
      have hNle : N ≤ n := by rw [hN]; exact firstN_le _ _
      have hNlt : ∀ i, i < N → badAt D (K / 8) i = false := fun i hi => by rw [hN] at hi; exact firstN_lt hi
      have hNeq : N < n → badAt D (K / 8) N = true := fun h => by rw [hN] at h ⊢; exact firstN_eq h
      clear hN
      refine Ev_lp (N) (fun i => [(11, .int .u64 (i : Int))]) (fun i => ⟨σ.rows ++ [some ⟨bytes (flips P D (K / 8) i), 5, 1⟩], σ.boxes ++ [some ⟨47, [.int .i64 s, .sl (bytes d')]⟩], σ.maps⟩) [6, 12, 59, 60, 61, 62, 63, 64, 65, 66, 67, 68, 69, 70, 71, 72, 73, 74, 75, 76, 77, 78, 79, 80, 81, 82, 83, 84, 85, 86, 87, 88, 89, 90, 91, 92, 93, 94, 95, 96, 97, 98, 99, 100, 101, 102, 103, 104, 105, 106, 107, 108, 109, 110, 111, 112] ?_ (by rw [hf0]) (fun i hi => ?_)
      · repeat (first | exact LeL.nil | refine LeL.cons2 ?_ (Le.undef _) | refine LeL.cons2 ?_ (Le.refl _) | refine LeL.cons2 ?_ (Le.sl _) | refine LeL.cons2 ?_ (Le.eq ?_))
        all_goals (first | (simp; done) | (simp; omega) | skip)
      have hfi := hfl i
      have eki : ((K / 8 : Nat) : Int) + (i : Int) = ((K / 8 + i : Nat) : Int) := by omega
      have e56 : ((56 : Int) - 8 * (i : Int)).toNat = 56 - 8 * i := by omega
      have e64 : (56 - 8 * i ≤ 64) = True := by simp; omega
      by_cases hiN : i < N
      · have hi' : K / 8 + i < P.length := by omega
        have h5 : i < 5 := by omega
        have hq := List.getElem?_eq_getElem hi'
        generalize P[K / 8 + i] = c at hq
        have hq1 : (flips P D (K / 8) i)[K / 8 + i]? = some c := by rw [flips_get]; exact hq
        have hg : (bytes (flips P D (K / 8) i)).getD (K / 8 + i) .undef = .int .u8 c.toNat := bytes_get hq1
        have hset := flips_set P D (K / 8) i c hq
        have hb1 := hbyte i h5
        have hbad := hNlt i hiN
        by_cases hat : K / 8 + i = 10 ∨ K / 8 + i = 11
        · have hz : D.getD i 0 = 0 := by
            unfold badAt at hbad
            rw [decide_eq_true hat] at hbad
            simpa using hbad
          have hz2 : (((D.getD i 0).toNat : Nat) : Int) = 0 := by rw [hz]; rfl
          rcases hat with h10 | h11
          · repeat' (first | (show Ev _ (.region _ _ true) _ _; first | refine D_start [13, 26, 41, 42, 44, 46, 60] mix ?_ | refine D_startA [13, 26, 41, 42, 44, 46, 60, 99998] mix ?_ | refine D_startA [13, 26, 41, 42, 44, 46, 60] mix ?_) | (show DrD _ _ _ [] _ _ _ _; refine D_nil ?_; try dsimp only) | (show DrD _ _ _ (⟨_, _, _, _, _, some _⟩ :: _) _ _ _ _; first | refine D_grdY ?_ | refine D_grdN ?_ | refine D_grdP (fun h => ?_) (fun h => ?_) | refine D_grdB (fun h => ?_) (fun h => ?_)) | (show DrD _ (EB _ _) _ (_ :: _) _ _ _ _; first | refine D_runL tok ?_ ?_ (h := by intro R; simp (maxSteps := 1000000) (disch := omega) only [go_sem, wrap_i64_id, wrap_u64_id, hk9, eki, e56, e64, hb1, hg, u8_xor, DV.over, List.headD_cons, hfi]; with_reducible exact rfl)) | (show DrD _ EA _ (_ :: _) _ _ _ _; first | refine D_runLA tok ?_ ?_ (h := by intro R; simp (maxSteps := 1000000) (disch := omega) only [go_sem, wrap_i64_id, wrap_u64_id, hk9, eki, e56, e64, hb1, hg, u8_xor, DV.over, List.headD_cons, hfi]; with_reducible exact rfl)) | (show DrD _ (ES _) _ (_ :: _) _ _ _ _; first | refine D_runLE tok ?_ ?_ (h := by simp (maxSteps := 1000000) (disch := omega) only [go_sem, wrap_i64_id, wrap_u64_id, hk9, eki, e56, e64, hb1, hg, u8_xor, DV.over, List.headD_cons, hfi]; with_reducible exact rfl)) | (show DrD _ _ _ (_ :: _) _ _ _ _; first | refine D_con ?_ ?_ | refine D_own ?_ ?_ | refine D_app ?_ ?_ ?_ | refine D_store tok ?_ ?_ | refine D_eff tok ?_ ?_ | refine D_hold tok ?_ ?_) | (show Ev _ _ _ _; first | refine Ev_seq ?_ | refine W_reg ?_ | refine Ev_block ?_ | refine W_ifT ?_ | refine W_ifF ?_ | refine W_ifY ?_ | refine W_ifN ?_ | refine W_ifP (fun h => ?_) (fun h => ?_) | refine W_ifB (fun h => ?_) (fun h => ?_) | refine Ev_skip ?_ | refine Ev_exit ?_ | refine Ev_ret ?_) | (show EvD _ _ [] _ _ _; refine W_nil ?_) | (show EvD _ _ (⟨_, _, _, _, _, some _⟩ :: _) _ _ _; first | refine W_grdY ?_ | refine W_grdN ?_ | refine W_grdP (fun h => ?_) (fun h => ?_) | refine W_grdB (fun h => ?_) (fun h => ?_)) | (show EvD _ _ (⟨some _, .buildSlice _ _ _, _, _, _, none⟩ :: ⟨some _, .convert _ _ (.tmp _), _, _, _, none⟩ :: _) _ _ _; refine W_lit tok ?_ ?_) | (show EvD _ _ (_ :: _) _ _ _; first | refine W_run tok ?_ ?_ (by simp (maxSteps := 1000000) (disch := omega) only [go_sem, wrap_i64_id, wrap_u64_id, hk9, eki, e56, e64, hb1, hg, u8_xor, DV.over, List.headD_cons, hfi]; with_reducible exact rfl) | refine W_callee ?_ | refine W_frz ?_ | refine W_isnil tok (fun qn hqn => ?_)) | (show EvC _ _ _ _ _ _ _ _ _; first | refine W_conT ?_ ?_ | refine W_con ?_ ?_ | refine W_conOwn ?_ ?_ | refine W_conApp ?_ ?_ ?_ | refine W_weak ?_ | refine W_frzArg ?_ | refine W_box ?_) | (show EvB _ _ _ _ _ _ _ _ _ _ _ _; refine W_conP ?_ ?_) | (show RetQ _ _ (RP _ _) _ _; refine R_ret ?_ ?_) | (show RetQ _ _ (RO _ _ _ _) _ _; refine R_own ?_ ?_) | (show RetQ _ _ (RX _ ⟨_, List.set _ _ _, _⟩ _ [] [] []) _ _; first | refine R_p0 ?_ ?_ ?_ | refine R_p0s hB ?_ ?_ ?_) | (show RetQ _ _ (RX _ _ _ [] [] []) _ _; refine R_x0 ?_ ?_) | (show RetQ _ _ (RX _ _ _ [_] [] []) _ _; refine R_xr ?_ (by intro p q s hp; simp only [DV.ren, rens, hp]; exact rfl) ?_) | (show RetQ _ _ (RX _ _ _ [] [_] []) _ _; refine R_xb ?_ (by intro p q s hp; simp only [DV.ren, rens, hp]; exact rfl) ?_) | (show FrzTo _ _ _ _; first | refine F_row ?_ | refine F_weak ?_) | refine Q_thenN ?_ | refine Q_thenE ?_ | refine Q_thenR ?_ | refine Q_blkN ?_ | refine Q_blkE ?_ | (show blockQ _ _ _ _; refine Q_blkX ?_) | refine Q_blkR ?_ | refine Q_rndE ?_ | refine Q_rndR ?_)
            all_goals (try first | exact trivial | omega | (simp only [List.length_take, List.length_drop, List.length_append, List.length_replicate, List.length_cons, List.length_nil, bytes_len, beN_len, Int.reduceToNat, true_and, and_true]; omega))
            all_goals (try refine F_done ?_)
            refine Q_rndN ?_ (by omega) ?_
            rotate_left
            · rw [← hset]; simp only [bytes, List.map_set]
            repeat (first | exact LeL.nil | refine LeL.cons2 ?_ (Le.undef _) | refine LeL.cons2 ?_ (Le.refl _) | refine LeL.cons2 ?_ (Le.sl _) | refine LeL.cons2 ?_ (Le.eq (by first | rfl | exact congrArg _ (by omega))) | refine LeL.cons2 ?_ (Le.eq ?_))
          · repeat' (first | (show Ev _ (.region _ _ true) _ _; first | refine D_start [13, 26, 41, 42, 44, 46, 60] mix ?_ | refine D_startA [13, 26, 41, 42, 44, 46, 60, 99998] mix ?_ | refine D_startA [13, 26, 41, 42, 44, 46, 60] mix ?_) | (show DrD _ _ _ [] _ _ _ _; refine D_nil ?_; try dsimp only) | (show DrD _ _ _ (⟨_, _, _, _, _, some _⟩ :: _) _ _ _ _; first | refine D_grdY ?_ | refine D_grdN ?_ | refine D_grdP (fun h => ?_) (fun h => ?_) | refine D_grdB (fun h => ?_) (fun h => ?_)) | (show DrD _ (EB _ _) _ (_ :: _) _ _ _ _; first | refine D_runL tok ?_ ?_ (h := by intro R; simp (maxSteps := 1000000) (disch := omega) only [go_sem, wrap_i64_id, wrap_u64_id, hk9, eki, e56, e64, hb1, hg, u8_xor, DV.over, List.headD_cons, hfi]; with_reducible exact rfl)) | (show DrD _ EA _ (_ :: _) _ _ _ _; first | refine D_runLA tok ?_ ?_ (h := by intro R; simp (maxSteps := 1000000) (disch := omega) only [go_sem, wrap_i64_id, wrap_u64_id, hk9, eki, e56, e64, hb1, hg, u8_xor, DV.over, List.headD_cons, hfi]; with_reducible exact rfl)) | (show DrD _ (ES _) _ (_ :: _) _ _ _ _; first | refine D_runLE tok ?_ ?_ (h := by simp (maxSteps := 1000000) (disch := omega) only [go_sem, wrap_i64_id, wrap_u64_id, hk9, eki, e56, e64, hb1, hg, u8_xor, DV.over, List.headD_cons, hfi]; with_reducible exact rfl)) | (show DrD _ _ _ (_ :: _) _ _ _ _; first | refine D_con ?_ ?_ | refine D_own ?_ ?_ | refine D_app ?_ ?_ ?_ | refine D_store tok ?_ ?_ | refine D_eff tok ?_ ?_ | refine D_hold tok ?_ ?_) | (show Ev _ _ _ _; first | refine Ev_seq ?_ | refine W_reg ?_ | refine Ev_block ?_ | refine W_ifT ?_ | refine W_ifF ?_ | refine W_ifY ?_ | refine W_ifN ?_ | refine W_ifP (fun h => ?_) (fun h => ?_) | refine W_ifB (fun h => ?_) (fun h => ?_) | refine Ev_skip ?_ | refine Ev_exit ?_ | refine Ev_ret ?_) | (show EvD _ _ [] _ _ _; refine W_nil ?_) | (show EvD _ _ (⟨_, _, _, _, _, some _⟩ :: _) _ _ _; first | refine W_grdY ?_ | refine W_grdN ?_ | refine W_grdP (fun h => ?_) (fun h => ?_) | refine W_grdB (fun h => ?_) (fun h => ?_)) | (show EvD _ _ (⟨some _, .buildSlice _ _ _, _, _, _, none⟩ :: ⟨some _, .convert _ _ (.tmp _), _, _, _, none⟩ :: _) _ _ _; refine W_lit tok ?_ ?_) | (show EvD _ _ (_ :: _) _ _ _; first | refine W_run tok ?_ ?_ (by simp (maxSteps := 1000000) (disch := omega) only [go_sem, wrap_i64_id, wrap_u64_id, hk9, eki, e56, e64, hb1, hg, u8_xor, DV.over, List.headD_cons, hfi]; with_reducible exact rfl) | refine W_callee ?_ | refine W_frz ?_ | refine W_isnil tok (fun qn hqn => ?_)) | (show EvC _ _ _ _ _ _ _ _ _; first | refine W_conT ?_ ?_ | refine W_con ?_ ?_ | refine W_conOwn ?_ ?_ | refine W_conApp ?_ ?_ ?_ | refine W_weak ?_ | refine W_frzArg ?_ | refine W_box ?_) | (show EvB _ _ _ _ _ _ _ _ _ _ _ _; refine W_conP ?_ ?_) | (show RetQ _ _ (RP _ _) _ _; refine R_ret ?_ ?_) | (show RetQ _ _ (RO _ _ _ _) _ _; refine R_own ?_ ?_) | (show RetQ _ _ (RX _ ⟨_, List.set _ _ _, _⟩ _ [] [] []) _ _; first | refine R_p0 ?_ ?_ ?_ | refine R_p0s hB ?_ ?_ ?_) | (show RetQ _ _ (RX _ _ _ [] [] []) _ _; refine R_x0 ?_ ?_) | (show RetQ _ _ (RX _ _ _ [_] [] []) _ _; refine R_xr ?_ (by intro p q s hp; simp only [DV.ren, rens, hp]; exact rfl) ?_) | (show RetQ _ _ (RX _ _ _ [] [_] []) _ _; refine R_xb ?_ (by intro p q s hp; simp only [DV.ren, rens, hp]; exact rfl) ?_) | (show FrzTo _ _ _ _; first | refine F_row ?_ | refine F_weak ?_) | refine Q_thenN ?_ | refine Q_thenE ?_ | refine Q_thenR ?_ | refine Q_blkN ?_ | refine Q_blkE ?_ | (show blockQ _ _ _ _; refine Q_blkX ?_) | refine Q_blkR ?_ | refine Q_rndE ?_ | refine Q_rndR ?_)
            all_goals (try first | exact trivial | omega | (simp only [List.length_take, List.length_drop, List.length_append, List.length_replicate, List.length_cons, List.length_nil, bytes_len, beN_len, Int.reduceToNat, true_and, and_true]; omega))
            all_goals (try refine F_done ?_)
            refine Q_rndN ?_ (by omega) ?_
            rotate_left
            · rw [← hset]; simp only [bytes, List.map_set]
            repeat (first | exact LeL.nil | refine LeL.cons2 ?_ (Le.undef _) | refine LeL.cons2 ?_ (Le.refl _) | refine LeL.cons2 ?_ (Le.sl _) | refine LeL.cons2 ?_ (Le.eq (by first | rfl | exact congrArg _ (by omega))) | refine LeL.cons2 ?_ (Le.eq ?_))
        · have h10 : ¬ ((K / 8 + i : Nat) : Int) = 10 := by omega
          have h11 : ¬ ((K / 8 + i : Nat) : Int) = 11 := by omega
          repeat' (first | (show Ev _ (.region _ _ true) _ _; first | refine D_start [13, 26, 41, 42, 44, 46, 60] mix ?_ | refine D_startA [13, 26, 41, 42, 44, 46, 60, 99998] mix ?_ | refine D_startA [13, 26, 41, 42, 44, 46, 60] mix ?_) | (show DrD _ _ _ [] _ _ _ _; refine D_nil ?_; try dsimp only) | (show DrD _ _ _ (⟨_, _, _, _, _, some _⟩ :: _) _ _ _ _; first | refine D_grdY ?_ | refine D_grdN ?_ | refine D_grdP (fun h => ?_) (fun h => ?_) | refine D_grdB (fun h => ?_) (fun h => ?_)) | (show DrD _ (EB _ _) _ (_ :: _) _ _ _ _; first | refine D_runL tok ?_ ?_ (h := by intro R; simp (maxSteps := 1000000) (disch := omega) only [go_sem, wrap_i64_id, wrap_u64_id, hk9, eki, e56, e64, hb1, hg, u8_xor, DV.over, List.headD_cons, hfi]; with_reducible exact rfl)) | (show DrD _ EA _ (_ :: _) _ _ _ _; first | refine D_runLA tok ?_ ?_ (h := by intro R; simp (maxSteps := 1000000) (disch := omega) only [go_sem, wrap_i64_id, wrap_u64_id, hk9, eki, e56, e64, hb1, hg, u8_xor, DV.over, List.headD_cons, hfi]; with_reducible exact rfl)) | (show DrD _ (ES _) _ (_ :: _) _ _ _ _; first | refine D_runLE tok ?_ ?_ (h := by simp (maxSteps := 1000000) (disch := omega) only [go_sem, wrap_i64_id, wrap_u64_id, hk9, eki, e56, e64, hb1, hg, u8_xor, DV.over, List.headD_cons, hfi]; with_reducible exact rfl)) | (show DrD _ _ _ (_ :: _) _ _ _ _; first | refine D_con ?_ ?_ | refine D_own ?_ ?_ | refine D_app ?_ ?_ ?_ | refine D_store tok ?_ ?_ | refine D_eff tok ?_ ?_ | refine D_hold tok ?_ ?_) | (show Ev _ _ _ _; first | refine Ev_seq ?_ | refine W_reg ?_ | refine Ev_block ?_ | refine W_ifT ?_ | refine W_ifF ?_ | refine W_ifY ?_ | refine W_ifN ?_ | refine W_ifP (fun h => ?_) (fun h => ?_) | refine W_ifB (fun h => ?_) (fun h => ?_) | refine Ev_skip ?_ | refine Ev_exit ?_ | refine Ev_ret ?_) | (show EvD _ _ [] _ _ _; refine W_nil ?_) | (show EvD _ _ (⟨_, _, _, _, _, some _⟩ :: _) _ _ _; first | refine W_grdY ?_ | refine W_grdN ?_ | refine W_grdP (fun h => ?_) (fun h => ?_) | refine W_grdB (fun h => ?_) (fun h => ?_)) | (show EvD _ _ (⟨some _, .buildSlice _ _ _, _, _, _, none⟩ :: ⟨some _, .convert _ _ (.tmp _), _, _, _, none⟩ :: _) _ _ _; refine W_lit tok ?_ ?_) | (show EvD _ _ (_ :: _) _ _ _; first | refine W_run tok ?_ ?_ (by simp (maxSteps := 1000000) (disch := omega) only [go_sem, wrap_i64_id, wrap_u64_id, hk9, eki, e56, e64, hb1, hg, u8_xor, DV.over, List.headD_cons, hfi]; with_reducible exact rfl) | refine W_callee ?_ | refine W_frz ?_ | refine W_isnil tok (fun qn hqn => ?_)) | (show EvC _ _ _ _ _ _ _ _ _; first | refine W_conT ?_ ?_ | refine W_con ?_ ?_ | refine W_conOwn ?_ ?_ | refine W_conApp ?_ ?_ ?_ | refine W_weak ?_ | refine W_frzArg ?_ | refine W_box ?_) | (show EvB _ _ _ _ _ _ _ _ _ _ _ _; refine W_conP ?_ ?_) | (show RetQ _ _ (RP _ _) _ _; refine R_ret ?_ ?_) | (show RetQ _ _ (RO _ _ _ _) _ _; refine R_own ?_ ?_) | (show RetQ _ _ (RX _ ⟨_, List.set _ _ _, _⟩ _ [] [] []) _ _; first | refine R_p0 ?_ ?_ ?_ | refine R_p0s hB ?_ ?_ ?_) | (show RetQ _ _ (RX _ _ _ [] [] []) _ _; refine R_x0 ?_ ?_) | (show RetQ _ _ (RX _ _ _ [_] [] []) _ _; refine R_xr ?_ (by intro p q s hp; simp only [DV.ren, rens, hp]; exact rfl) ?_) | (show RetQ _ _ (RX _ _ _ [] [_] []) _ _; refine R_xb ?_ (by intro p q s hp; simp only [DV.ren, rens, hp]; exact rfl) ?_) | (show FrzTo _ _ _ _; first | refine F_row ?_ | refine F_weak ?_) | refine Q_thenN ?_ | refine Q_thenE ?_ | refine Q_thenR ?_ | refine Q_blkN ?_ | refine Q_blkE ?_ | (show blockQ _ _ _ _; refine Q_blkX ?_) | refine Q_blkR ?_ | refine Q_rndE ?_ | refine Q_rndR ?_)
          all_goals (try first | exact trivial | omega | (simp only [List.length_take, List.length_drop, List.length_append, List.length_replicate, List.length_cons, List.length_nil, bytes_len, beN_len, Int.reduceToNat, true_and, and_true]; omega))
          all_goals (try refine F_done ?_)
          refine Q_rndN ?_ (by omega) ?_
          rotate_left
          · rw [← hset]; simp only [bytes, List.map_set]
          repeat (first | exact LeL.nil | refine LeL.cons2 ?_ (Le.undef _) | refine LeL.cons2 ?_ (Le.refl _) | refine LeL.cons2 ?_ (Le.sl _) | refine LeL.cons2 ?_ (Le.eq (by first | rfl | exact congrArg _ (by omega))) | refine LeL.cons2 ?_ (Le.eq ?_))
      · obtain rfl : i = N := by omega
        by_cases hin : i < n
        · have hbad := hNeq hin
          have h5 : i < 5 := by omega
          have hi' : K / 8 + i < P.length := by omega
          have hb1 := hbyte i h5
          unfold badAt at hbad
          rw [Bool.and_eq_true, decide_eq_true_eq] at hbad
          have hz2 : ¬ (((D.getD i 0).toNat : Nat) : Int) = 0 := by
            intro h
            have h1 : D.getD i 0 = 0 := UInt8.toNat.inj (show (D.getD i 0).toNat = 0 from by omega)
            rw [h1] at hbad
            simp at hbad
          rcases hbad.1 with h10 | h11
          · repeat' (first | (show Ev _ (.region _ _ true) _ _; first | refine D_start [13, 26, 41, 42, 44, 46, 60] mix ?_ | refine D_startA [13, 26, 41, 42, 44, 46, 60, 99998] mix ?_ | refine D_startA [13, 26, 41, 42, 44, 46, 60] mix ?_) | (show DrD _ _ _ [] _ _ _ _; refine D_nil ?_; try dsimp only) | (show DrD _ _ _ (⟨_, _, _, _, _, some _⟩ :: _) _ _ _ _; first | refine D_grdY ?_ | refine D_grdN ?_ | refine D_grdP (fun h => ?_) (fun h => ?_) | refine D_grdB (fun h => ?_) (fun h => ?_)) | (show DrD _ (EB _ _) _ (_ :: _) _ _ _ _; first | refine D_runL tok ?_ ?_ (h := by intro R; simp (maxSteps := 1000000) (disch := omega) only [go_sem, wrap_i64_id, wrap_u64_id, hk9, eki, e56, e64, hb1, hfi]; with_reducible exact rfl)) | (show DrD _ EA _ (_ :: _) _ _ _ _; first | refine D_runLA tok ?_ ?_ (h := by intro R; simp (maxSteps := 1000000) (disch := omega) only [go_sem, wrap_i64_id, wrap_u64_id, hk9, eki, e56, e64, hb1, hfi]; with_reducible exact rfl)) | (show DrD _ (ES _) _ (_ :: _) _ _ _ _; first | refine D_runLE tok ?_ ?_ (h := by simp (maxSteps := 1000000) (disch := omega) only [go_sem, wrap_i64_id, wrap_u64_id, hk9, eki, e56, e64, hb1, hfi]; with_reducible exact rfl)) | (show DrD _ _ _ (_ :: _) _ _ _ _; first | refine D_con ?_ ?_ | refine D_own ?_ ?_ | refine D_app ?_ ?_ ?_ | refine D_store tok ?_ ?_ | refine D_eff tok ?_ ?_ | refine D_hold tok ?_ ?_) | (show Ev _ _ _ _; first | refine Ev_seq ?_ | refine W_reg ?_ | refine Ev_block ?_ | refine W_ifT ?_ | refine W_ifF ?_ | refine W_ifY ?_ | refine W_ifN ?_ | refine W_ifP (fun h => ?_) (fun h => ?_) | refine W_ifB (fun h => ?_) (fun h => ?_) | refine Ev_skip ?_ | refine Ev_exit ?_ | refine Ev_ret ?_) | (show EvD _ _ [] _ _ _; refine W_nil ?_) | (show EvD _ _ (⟨_, _, _, _, _, some _⟩ :: _) _ _ _; first | refine W_grdY ?_ | refine W_grdN ?_ | refine W_grdP (fun h => ?_) (fun h => ?_) | refine W_grdB (fun h => ?_) (fun h => ?_)) | (show EvD _ _ (⟨some _, .buildSlice _ _ _, _, _, _, none⟩ :: ⟨some _, .convert _ _ (.tmp _), _, _, _, none⟩ :: _) _ _ _; refine W_lit tok ?_ ?_) | (show EvD _ _ (_ :: _) _ _ _; first | refine W_run tok ?_ ?_ (by simp (maxSteps := 1000000) (disch := omega) only [go_sem, wrap_i64_id, wrap_u64_id, hk9, eki, e56, e64, hb1, hfi]; with_reducible exact rfl) | refine W_callee ?_ | refine W_frz ?_ | refine W_isnil tok (fun qn hqn => ?_)) | (show EvC _ _ _ _ _ _ _ _ _; first | refine W_conT ?_ ?_ | refine W_con ?_ ?_ | refine W_conOwn ?_ ?_ | refine W_conApp ?_ ?_ ?_ | refine W_weak ?_ | refine W_frzArg ?_ | refine W_box ?_) | (show EvB _ _ _ _ _ _ _ _ _ _ _ _; refine W_conP ?_ ?_) | (show RetQ _ _ (RP _ _) _ _; refine R_ret ?_ ?_) | (show RetQ _ _ (RO _ _ _ _) _ _; refine R_own ?_ ?_) | (show RetQ _ _ (RX _ ⟨_, List.set _ _ _, _⟩ _ [] [] []) _ _; first | refine R_p0 ?_ ?_ ?_ | refine R_p0s hB ?_ ?_ ?_) | (show RetQ _ _ (RX _ _ _ [] [] []) _ _; refine R_x0 ?_ ?_) | (show RetQ _ _ (RX _ _ _ [_] [] []) _ _; refine R_xr ?_ (by intro p q s hp; simp only [DV.ren, rens, hp]; exact rfl) ?_) | (show RetQ _ _ (RX _ _ _ [] [_] []) _ _; refine R_xb ?_ (by intro p q s hp; simp only [DV.ren, rens, hp]; exact rfl) ?_) | (show FrzTo _ _ _ _; first | refine F_row ?_ | refine F_weak ?_) | refine Q_thenN ?_ | refine Q_thenE ?_ | refine Q_thenR ?_ | refine Q_blkN ?_ | refine Q_blkE ?_ | (show blockQ _ _ _ _; refine Q_blkX ?_) | refine Q_blkR ?_ | refine Q_rndE ?_ | refine Q_rndR ?_)
            all_goals (try first | exact trivial | omega | (simp only [List.length_take, List.length_drop, List.length_append, List.length_replicate, List.length_cons, List.length_nil, bytes_len, beN_len, Int.reduceToNat, true_and, and_true]; omega))
            all_goals (try refine F_done ?_)
            all_goals rfl
          · repeat' (first | (show Ev _ (.region _ _ true) _ _; first | refine D_start [13, 26, 41, 42, 44, 46, 60] mix ?_ | refine D_startA [13, 26, 41, 42, 44, 46, 60, 99998] mix ?_ | refine D_startA [13, 26, 41, 42, 44, 46, 60] mix ?_) | (show DrD _ _ _ [] _ _ _ _; refine D_nil ?_; try dsimp only) | (show DrD _ _ _ (⟨_, _, _, _, _, some _⟩ :: _) _ _ _ _; first | refine D_grdY ?_ | refine D_grdN ?_ | refine D_grdP (fun h => ?_) (fun h => ?_) | refine D_grdB (fun h => ?_) (fun h => ?_)) | (show DrD _ (EB _ _) _ (_ :: _) _ _ _ _; first | refine D_runL tok ?_ ?_ (h := by intro R; simp (maxSteps := 1000000) (disch := omega) only [go_sem, wrap_i64_id, wrap_u64_id, hk9, eki, e56, e64, hb1, hfi]; with_reducible exact rfl)) | (show DrD _ EA _ (_ :: _) _ _ _ _; first | refine D_runLA tok ?_ ?_ (h := by intro R; simp (maxSteps := 1000000) (disch := omega) only [go_sem, wrap_i64_id, wrap_u64_id, hk9, eki, e56, e64, hb1, hfi]; with_reducible exact rfl)) | (show DrD _ (ES _) _ (_ :: _) _ _ _ _; first | refine D_runLE tok ?_ ?_ (h := by simp (maxSteps := 1000000) (disch := omega) only [go_sem, wrap_i64_id, wrap_u64_id, hk9, eki, e56, e64, hb1, hfi]; with_reducible exact rfl)) | (show DrD _ _ _ (_ :: _) _ _ _ _; first | refine D_con ?_ ?_ | refine D_own ?_ ?_ | refine D_app ?_ ?_ ?_ | refine D_store tok ?_ ?_ | refine D_eff tok ?_ ?_ | refine D_hold tok ?_ ?_) | (show Ev _ _ _ _; first | refine Ev_seq ?_ | refine W_reg ?_ | refine Ev_block ?_ | refine W_ifT ?_ | refine W_ifF ?_ | refine W_ifY ?_ | refine W_ifN ?_ | refine W_ifP (fun h => ?_) (fun h => ?_) | refine W_ifB (fun h => ?_) (fun h => ?_) | refine Ev_skip ?_ | refine Ev_exit ?_ | refine Ev_ret ?_) | (show EvD _ _ [] _ _ _; refine W_nil ?_) | (show EvD _ _ (⟨_, _, _, _, _, some _⟩ :: _) _ _ _; first | refine W_grdY ?_ | refine W_grdN ?_ | refine W_grdP (fun h => ?_) (fun h => ?_) | refine W_grdB (fun h => ?_) (fun h => ?_)) | (show EvD _ _ (⟨some _, .buildSlice _ _ _, _, _, _, none⟩ :: ⟨some _, .convert _ _ (.tmp _), _, _, _, none⟩ :: _) _ _ _; refine W_lit tok ?_ ?_) | (show EvD _ _ (_ :: _) _ _ _; first | refine W_run tok ?_ ?_ (by simp (maxSteps := 1000000) (disch := omega) only [go_sem, wrap_i64_id, wrap_u64_id, hk9, eki, e56, e64, hb1, hfi]; with_reducible exact rfl) | refine W_callee ?_ | refine W_frz ?_ | refine W_isnil tok (fun qn hqn => ?_)) | (show EvC _ _ _ _ _ _ _ _ _; first | refine W_conT ?_ ?_ | refine W_con ?_ ?_ | refine W_conOwn ?_ ?_ | refine W_conApp ?_ ?_ ?_ | refine W_weak ?_ | refine W_frzArg ?_ | refine W_box ?_) | (show EvB _ _ _ _ _ _ _ _ _ _ _ _; refine W_conP ?_ ?_) | (show RetQ _ _ (RP _ _) _ _; refine R_ret ?_ ?_) | (show RetQ _ _ (RO _ _ _ _) _ _; refine R_own ?_ ?_) | (show RetQ _ _ (RX _ ⟨_, List.set _ _ _, _⟩ _ [] [] []) _ _; first | refine R_p0 ?_ ?_ ?_ | refine R_p0s hB ?_ ?_ ?_) | (show RetQ _ _ (RX _ _ _ [] [] []) _ _; refine R_x0 ?_ ?_) | (show RetQ _ _ (RX _ _ _ [_] [] []) _ _; refine R_xr ?_ (by intro p q s hp; simp only [DV.ren, rens, hp]; exact rfl) ?_) | (show RetQ _ _ (RX _ _ _ [] [_] []) _ _; refine R_xb ?_ (by intro p q s hp; simp only [DV.ren, rens, hp]; exact rfl) ?_) | (show FrzTo _ _ _ _; first | refine F_row ?_ | refine F_weak ?_) | refine Q_thenN ?_ | refine Q_thenE ?_ | refine Q_thenR ?_ | refine Q_blkN ?_ | refine Q_blkE ?_ | (show blockQ _ _ _ _; refine Q_blkX ?_) | refine Q_blkR ?_ | refine Q_rndE ?_ | refine Q_rndR ?_)
            all_goals (try first | exact trivial | omega | (simp only [List.length_take, List.length_drop, List.length_append, List.length_replicate, List.length_cons, List.length_nil, bytes_len, beN_len, Int.reduceToNat, true_and, and_true]; omega))
            all_goals (try refine F_done ?_)
            all_goals rfl
        · obtain rfl : i = n := by omega
          have hR := hfin (hsame (fun j hj => hNlt j (by omega)))
          obtain ⟨q1, q2, q3⟩ := read_bad hR
          have iR : Con Try.prog 31 [.sl (bytes (flips P D (K / 8) i))] True (.tup [frameD 0 [], .int .i64 0, .int .i64 (rdE (flips P D (K / 8) i))]) :=
            con_eq (i_frame_Read _) (by rw [hfi]; omega) (by rw [q1, q2, q3])
          generalize rdE (flips P D (K / 8) i) = e at hR iR
          by_cases h5 : i < 5
          · have hi' : ¬ K / 8 + i < P.length := by omega
            repeat' (first | (show Ev _ (.region _ _ true) _ _; first | refine D_start [13, 26, 41, 42, 44, 46, 60] mix ?_ | refine D_startA [13, 26, 41, 42, 44, 46, 60, 99998] mix ?_ | refine D_startA [13, 26, 41, 42, 44, 46, 60] mix ?_) | (show DrD _ _ _ [] _ _ _ _; refine D_nil ?_; try dsimp only) | (show DrD _ _ _ (⟨_, _, _, _, _, some _⟩ :: _) _ _ _ _; first | refine D_grdY ?_ | refine D_grdN ?_ | refine D_grdP (fun h => ?_) (fun h => ?_) | refine D_grdB (fun h => ?_) (fun h => ?_)) | (show DrD _ (EB _ _) _ (_ :: _) _ _ _ _; first | refine D_runL tok ?_ ?_ (h := by intro R; simp (maxSteps := 1000000) (disch := omega) only [go_sem, wrap_i64_id, wrap_u64_id, hk9, eki, hfi]; with_reducible exact rfl)) | (show DrD _ EA _ (_ :: _) _ _ _ _; first | refine D_runLA tok ?_ ?_ (h := by intro R; simp (maxSteps := 1000000) (disch := omega) only [go_sem, wrap_i64_id, wrap_u64_id, hk9, eki, hfi]; with_reducible exact rfl)) | (show DrD _ (ES _) _ (_ :: _) _ _ _ _; first | refine D_runLE tok ?_ ?_ (h := by simp (maxSteps := 1000000) (disch := omega) only [go_sem, wrap_i64_id, wrap_u64_id, hk9, eki, hfi]; with_reducible exact rfl)) | (show DrD _ _ _ (_ :: _) _ _ _ _; first | refine D_con ?_ ?_ | refine D_own ?_ ?_ | refine D_app ?_ ?_ ?_ | refine D_store tok ?_ ?_ | refine D_eff tok ?_ ?_ | refine D_hold tok ?_ ?_) | (show Ev _ _ _ _; first | refine Ev_seq ?_ | refine W_reg ?_ | refine Ev_block ?_ | refine W_ifT ?_ | refine W_ifF ?_ | refine W_ifY ?_ | refine W_ifN ?_ | refine W_ifP (fun h => ?_) (fun h => ?_) | refine W_ifB (fun h => ?_) (fun h => ?_) | refine Ev_skip ?_ | refine Ev_exit ?_ | refine Ev_ret ?_) | (show EvD _ _ [] _ _ _; refine W_nil ?_) | (show EvD _ _ (⟨_, _, _, _, _, some _⟩ :: _) _ _ _; first | refine W_grdY ?_ | refine W_grdN ?_ | refine W_grdP (fun h => ?_) (fun h => ?_) | refine W_grdB (fun h => ?_) (fun h => ?_)) | (show EvD _ _ (⟨some _, .buildSlice _ _ _, _, _, _, none⟩ :: ⟨some _, .convert _ _ (.tmp _), _, _, _, none⟩ :: _) _ _ _; refine W_lit tok ?_ ?_) | (show EvD _ _ (_ :: _) _ _ _; first | refine W_run tok ?_ ?_ (by simp (maxSteps := 1000000) (disch := omega) only [go_sem, wrap_i64_id, wrap_u64_id, hk9, eki, hfi]; with_reducible exact rfl) | refine W_callee ?_ | refine W_frz ?_ | refine W_isnil tok (fun qn hqn => ?_)) | (show EvC _ _ _ _ _ _ _ _ _; first | refine W_conT ?_ ?_ | refine W_con ?_ ?_ | refine W_conOwn ?_ ?_ | refine W_conApp ?_ ?_ ?_ | refine W_weak ?_ | refine W_frzArg ?_ | refine W_box ?_) | (show EvB _ _ _ _ _ _ _ _ _ _ _ _; refine W_conP ?_ ?_) | (show RetQ _ _ (RP _ _) _ _; refine R_ret ?_ ?_) | (show RetQ _ _ (RO _ _ _ _) _ _; refine R_own ?_ ?_) | (show RetQ _ _ (RX _ ⟨_, List.set _ _ _, _⟩ _ [] [] []) _ _; first | refine R_p0 ?_ ?_ ?_ | refine R_p0s hB ?_ ?_ ?_) | (show RetQ _ _ (RX _ _ _ [] [] []) _ _; refine R_x0 ?_ ?_) | (show RetQ _ _ (RX _ _ _ [_] [] []) _ _; refine R_xr ?_ (by intro p q s hp; simp only [DV.ren, rens, hp]; exact rfl) ?_) | (show RetQ _ _ (RX _ _ _ [] [_] []) _ _; refine R_xb ?_ (by intro p q s hp; simp only [DV.ren, rens, hp]; exact rfl) ?_) | (show FrzTo _ _ _ _; first | refine F_row ?_ | refine F_weak ?_) | refine Q_thenN ?_ | refine Q_thenE ?_ | refine Q_thenR ?_ | refine Q_blkN ?_ | refine Q_blkE ?_ | (show blockQ _ _ _ _; refine Q_blkX ?_) | refine Q_blkR ?_ | refine Q_rndE ?_ | refine Q_rndR ?_)
            all_goals (try first | exact trivial | omega | (simp only [List.length_take, List.length_drop, List.length_append, List.length_replicate, List.length_cons, List.length_nil, bytes_len, beN_len, Int.reduceToNat, true_and, and_true]; omega))
            all_goals (try refine F_done ?_)
            all_goals rfl
          · repeat' (first | (show Ev _ (.region _ _ true) _ _; first | refine D_start [13, 26, 41, 42, 44, 46, 60] mix ?_ | refine D_startA [13, 26, 41, 42, 44, 46, 60, 99998] mix ?_ | refine D_startA [13, 26, 41, 42, 44, 46, 60] mix ?_) | (show DrD _ _ _ [] _ _ _ _; refine D_nil ?_; try dsimp only) | (show DrD _ _ _ (⟨_, _, _, _, _, some _⟩ :: _) _ _ _ _; first | refine D_grdY ?_ | refine D_grdN ?_ | refine D_grdP (fun h => ?_) (fun h => ?_) | refine D_grdB (fun h => ?_) (fun h => ?_)) | (show DrD _ (EB _ _) _ (_ :: _) _ _ _ _; first | refine D_runL tok ?_ ?_ (h := by intro R; simp (maxSteps := 1000000) (disch := omega) only [go_sem, wrap_i64_id, wrap_u64_id, hk9, eki, hfi]; with_reducible exact rfl)) | (show DrD _ EA _ (_ :: _) _ _ _ _; first | refine D_runLA tok ?_ ?_ (h := by intro R; simp (maxSteps := 1000000) (disch := omega) only [go_sem, wrap_i64_id, wrap_u64_id, hk9, eki, hfi]; with_reducible exact rfl)) | (show DrD _ (ES _) _ (_ :: _) _ _ _ _; first | refine D_runLE tok ?_ ?_ (h := by simp (maxSteps := 1000000) (disch := omega) only [go_sem, wrap_i64_id, wrap_u64_id, hk9, eki, hfi]; with_reducible exact rfl)) | (show DrD _ _ _ (_ :: _) _ _ _ _; first | refine D_con ?_ ?_ | refine D_own ?_ ?_ | refine D_app ?_ ?_ ?_ | refine D_store tok ?_ ?_ | refine D_eff tok ?_ ?_ | refine D_hold tok ?_ ?_) | (show Ev _ _ _ _; first | refine Ev_seq ?_ | refine W_reg ?_ | refine Ev_block ?_ | refine W_ifT ?_ | refine W_ifF ?_ | refine W_ifY ?_ | refine W_ifN ?_ | refine W_ifP (fun h => ?_) (fun h => ?_) | refine W_ifB (fun h => ?_) (fun h => ?_) | refine Ev_skip ?_ | refine Ev_exit ?_ | refine Ev_ret ?_) | (show EvD _ _ [] _ _ _; refine W_nil ?_) | (show EvD _ _ (⟨_, _, _, _, _, some _⟩ :: _) _ _ _; first | refine W_grdY ?_ | refine W_grdN ?_ | refine W_grdP (fun h => ?_) (fun h => ?_) | refine W_grdB (fun h => ?_) (fun h => ?_)) | (show EvD _ _ (⟨some _, .buildSlice _ _ _, _, _, _, none⟩ :: ⟨some _, .convert _ _ (.tmp _), _, _, _, none⟩ :: _) _ _ _; refine W_lit tok ?_ ?_) | (show EvD _ _ (_ :: _) _ _ _; first | refine W_run tok ?_ ?_ (by simp (maxSteps := 1000000) (disch := omega) only [go_sem, wrap_i64_id, wrap_u64_id, hk9, eki, hfi]; with_reducible exact rfl) | refine W_callee ?_ | refine W_frz ?_ | refine W_isnil tok (fun qn hqn => ?_)) | (show EvC _ _ _ _ _ _ _ _ _; first | refine W_conT ?_ ?_ | refine W_con ?_ ?_ | refine W_conOwn ?_ ?_ | refine W_conApp ?_ ?_ ?_ | refine W_weak ?_ | refine W_frzArg ?_ | refine W_box ?_) | (show EvB _ _ _ _ _ _ _ _ _ _ _ _; refine W_conP ?_ ?_) | (show RetQ _ _ (RP _ _) _ _; refine R_ret ?_ ?_) | (show RetQ _ _ (RO _ _ _ _) _ _; refine R_own ?_ ?_) | (show RetQ _ _ (RX _ ⟨_, List.set _ _ _, _⟩ _ [] [] []) _ _; first | refine R_p0 ?_ ?_ ?_ | refine R_p0s hB ?_ ?_ ?_) | (show RetQ _ _ (RX _ _ _ [] [] []) _ _; refine R_x0 ?_ ?_) | (show RetQ _ _ (RX _ _ _ [_] [] []) _ _; refine R_xr ?_ (by intro p q s hp; simp only [DV.ren, rens, hp]; exact rfl) ?_) | (show RetQ _ _ (RX _ _ _ [] [_] []) _ _; refine R_xb ?_ (by intro p q s hp; simp only [DV.ren, rens, hp]; exact rfl) ?_) | (show FrzTo _ _ _ _; first | refine F_row ?_ | refine F_weak ?_) | refine Q_thenN ?_ | refine Q_thenE ?_ | refine Q_thenR ?_ | refine Q_blkN ?_ | refine Q_blkE ?_ | (show blockQ _ _ _ _; refine Q_blkX ?_) | refine Q_blkR ?_ | refine Q_rndE ?_ | refine Q_rndR ?_)
            all_goals (try first | exact trivial | omega | (simp only [List.length_take, List.length_drop, List.length_append, List.length_replicate, List.length_cons, List.length_nil, bytes_len, beN_len, Int.reduceToNat, true_and, and_true]; omega))
            all_goals (try refine F_done ?_)
            all_goals rfl
  · have iL := con_lay0 hm (by omega)
    have iM2 : Con Try.prog 28 [frameD s d'] True (.bool false) := con_eq (i_bursarref05_May s d') trivial (by rw [decide_eq_false hm])
    repeat' (first | (show Ev _ (.region _ _ true) _ _; first | refine D_start [13, 26, 41, 42, 44, 46, 60] mix ?_ | refine D_startA [13, 26, 41, 42, 44, 46, 60, 99998] mix ?_ | refine D_startA [13, 26, 41, 42, 44, 46, 60] mix ?_) | (show DrD _ _ _ [] _ _ _ _; refine D_nil ?_; try dsimp only) | (show DrD _ _ _ (⟨_, _, _, _, _, some _⟩ :: _) _ _ _ _; first | refine D_grdY ?_ | refine D_grdN ?_ | refine D_grdP (fun h => ?_) (fun h => ?_) | refine D_grdB (fun h => ?_) (fun h => ?_)) | (show DrD _ (EB _ _) _ (_ :: _) _ _ _ _; first | refine D_runL tok ?_ ?_) | (show DrD _ EA _ (_ :: _) _ _ _ _; first | refine D_runLA tok ?_ ?_) | (show DrD _ (ES _) _ (_ :: _) _ _ _ _; first | refine D_runLE tok ?_ ?_) | (show DrD _ _ _ (_ :: _) _ _ _ _; first | refine D_con ?_ ?_ | refine D_own ?_ ?_ | refine D_app ?_ ?_ ?_ | refine D_store tok ?_ ?_ | refine D_eff tok ?_ ?_ | refine D_hold tok ?_ ?_) | (show Ev _ _ _ _; first | refine Ev_seq ?_ | refine W_reg ?_ | refine Ev_block ?_ | refine W_ifT ?_ | refine W_ifF ?_ | refine W_ifY ?_ | refine W_ifN ?_ | refine W_ifP (fun h => ?_) (fun h => ?_) | refine W_ifB (fun h => ?_) (fun h => ?_) | refine Ev_skip ?_ | refine Ev_exit ?_ | refine Ev_ret ?_) | (show EvD _ _ [] _ _ _; refine W_nil ?_) | (show EvD _ _ (⟨_, _, _, _, _, some _⟩ :: _) _ _ _; first | refine W_grdY ?_ | refine W_grdN ?_ | refine W_grdP (fun h => ?_) (fun h => ?_) | refine W_grdB (fun h => ?_) (fun h => ?_)) | (show EvD _ _ (⟨some _, .buildSlice _ _ _, _, _, _, none⟩ :: ⟨some _, .convert _ _ (.tmp _), _, _, _, none⟩ :: _) _ _ _; refine W_lit tok ?_ ?_) | (show EvD _ _ (_ :: _) _ _ _; first | refine W_run tok ?_ ?_ | refine W_callee ?_ | refine W_frz ?_ | refine W_isnil tok (fun qn hqn => ?_)) | (show EvC _ _ _ _ _ _ _ _ _; first | refine W_con ?_ ?_ | refine W_conOwn ?_ ?_ | refine W_conT ?_ ?_ | refine W_conApp ?_ ?_ ?_ | refine W_weak ?_ | refine W_frzArg ?_ | refine W_box ?_) | (show EvB _ _ _ _ _ _ _ _ _ _ _ _; refine W_conP ?_ ?_) | (show RetQ _ _ (RP _ _) _ _; refine R_ret ?_ ?_) | (show RetQ _ _ (RO _ _ _ _) _ _; refine R_own ?_ ?_) | (show RetQ _ _ (RX _ ⟨_, List.set _ _ _, _⟩ _ [] [] []) _ _; first | refine R_p0 ?_ ?_ ?_ | refine R_p0s hB ?_ ?_ ?_) | (show RetQ _ _ (RX _ _ _ [] [] []) _ _; refine R_x0 ?_ ?_) | (show RetQ _ _ (RX _ _ _ [_] [] []) _ _; refine R_xr ?_ (by intro p q s hp; simp only [DV.ren, rens, hp]; exact rfl) ?_) | (show RetQ _ _ (RX _ _ _ [] [_] []) _ _; refine R_xb ?_ (by intro p q s hp; simp only [DV.ren, rens, hp]; exact rfl) ?_) | (show FrzTo _ _ _ _; first | refine F_row ?_ | refine F_weak ?_) | refine Q_thenN ?_ | refine Q_thenE ?_ | refine Q_thenR ?_ | refine Q_blkN ?_ | refine Q_blkE ?_ | (show blockQ _ _ _ _; refine Q_blkX ?_) | refine Q_blkR ?_ | refine Q_rndE ?_ | refine Q_rndR ?_)
    all_goals (try first | exact trivial | omega | (simp only [List.length_take, List.length_drop, List.length_append, List.length_replicate, List.length_cons, List.length_nil, bytes_len, beN_len, Int.reduceToNat, true_and, and_true]; omega))
    all_goals (try refine F_done ?_)
    all_goals rfl
instance i_bursarlaw05_FrameFinds (s : Int) (d : List UInt8) (at_ tn : Int) : Con Try.prog 8 [frameD s d, .int .u64 at_, .int .u32 tn] ((0 ≤ at_ ∧ at_ < 18446744073709551616) ∧ 0 ≤ tn ∧ tn < 4294967296) (.bool true) := ⟨c_bursarlaw05_FrameFinds s  d  at_ tn ⟩
end Go.Val.Ytkmhdefcflidhaa
