/- Chapter 06, plain law: appending on a budget, and what a crash leaves of it. -/
import Derived.Test.YtlfnmgmbmgacgaaX06f
namespace Go.Val.Ytlfnmgmbmgacgaa
open Go Go.Val Go.Proofs Go.Proofs.Ytlfnmgmbmgacgaa
set_option maxRecDepth 100000
set_option maxHeartbeats 4000000
set_option linter.unusedSimpArgs false
set_option linter.unusedVariables false
theorem run_o {F : Nat → Dk → Dk × Int} {s : Dk} {k : Nat} {r q : Dk × Int} (h : runF F s k = r) (hr : r.2 = 0) (hq : F k r.1 = q) : runF F s (k + 1) = q := by
 rw [runF, h, if_neg (by rw [hr]; simp)]; exact hq
theorem run_z (F : Nat → Dk → Dk × Int) (s : Dk) : runF F s 0 = (s, 0) := rfl
theorem wr_any {S : List (List UInt8)} {W : List (Int × List UInt8)} {m : Nat} {L i : Int} {b : List UInt8} (k : Nat) (h : goodS S W m) (h1 : 1 ≤ m) (h2 : m ≤ 4096) (hL : -1 ≤ L) (hb : b.length = 64 * k) (hk : 1 ≤ k) (h0 : 0 ≤ i) (hi : i + k ≤ m) :
  ∃ (j : Nat) (L' : Int), -1 ≤ L' ∧ L' ≤ L ∧ ((j = k ∧ wrF i b (S, W, L, false) = ((S, addW W i b k, L', false), 0)) ∨ (j < k ∧ wrF i b (S, W, L, false) = ((S, addW W i b j, L', true), 10))) := by
 have hm : mayP S W L := good_may h h1 h2 hL
 have hq : b.length / 64 = k := by omega
 have hf : fitN L false k ≤ k ∧ (0 ≤ L → (fitN L false k : Int) ≤ L) := by
  unfold fitN
  rw [if_neg (by simp)]
  split <;> omega
 have hE : writeE S W L false i b = if fitN L false k < k then 10 else 0 := by
  unfold writeE
  rw [hq, if_neg (by rintro (h | h | h); exact h hm; omega; omega), if_neg (by rw [Classical.not_not, h.1.1]; omega)]
 refine ⟨fitN L false k, leftL L (fitN L false k), by unfold leftL; split <;> omega, by unfold leftL; split <;> omega, ?_⟩
 by_cases hlt : fitN L false k < k
 ·right
  rw [if_pos hlt] at hE
  refine ⟨hlt, ?_⟩
  unfold wrF
  rw [if_neg (by omega)]
  simp only [hE, hq]
  rfl
 ·left
  rw [if_neg hlt] at hE
  have he : fitN L false k = k := by omega
  refine ⟨he, ?_⟩
  unfold wrF
  rw [if_neg (by omega)]
  simp only [hE, hq, he]
  rfl
theorem fl_any {S : List (List UInt8)} {W : List (Int × List UInt8)} {m : Nat} {L : Int} (h : goodS S W m) (h1 : 1 ≤ m) (h2 : m ≤ 4096) (hL : -1 ≤ L) :
  ∃ L' : Int, -1 ≤ L' ∧ L' ≤ L ∧ (flF (S, W, L, false) = ((flushS S W, [], L', false), 0) ∨ flF (S, W, L, false) = ((S, W, L', true), 10)) := by
 have hm : mayP S W L := good_may h h1 h2 hL
 refine ⟨spendL L false, ?_, by unfold spendL; split <;> omega, ?_⟩
 ·unfold spendL spendB
  split
  ·rename_i h3
   have : L > 0 := h3.2
   omega
  ·exact hL
 ·by_cases h0 : L = 0
  ·right
   have hE : flushE S W L false = 10 := by unfold flushE; rw [if_pos hm, if_neg (by simp [spendB, h0])]
   unfold flF
   simp only [hE]
   rfl
  ·left
   have hE : flushE S W L false = 0 := by unfold flushE; rw [if_pos hm, if_pos (by simp [spendB, h0])]
   unfold flF
   simp only [hE]
   rfl
theorem done_get {S : List (List UInt8)} {W : List (Int × List UInt8)} {p : Nat → Bool} {t : Nat} (hw : ∀ q ∈ W, q.1.toNat ≠ t) : ∀ k, k ≤ W.length → (doneN S W p k)[t]? = S[t]?
 | 0, _ => rfl
 | k + 1, h => by
  have ih := done_get (S := S) (p := p) hw k (by omega)
  unfold doneN
  split
  ·rw [List.getElem?_set_ne (hw _ (getD_memW (by omega))), ih]
  ·exact ih
theorem crash_good {S : List (List UInt8)} {W : List (Int × List UInt8)} {m : Nat} (l : List Bool) (h : goodS S W m) : goodS (crashS S W l) [] m := by
 unfold crashS doneS
 exact ⟨⟨by rw [doneN_len]; exact h.1.1, doneN_good _ h _ (Nat.le_refl _)⟩, by simp⟩
theorem crash_get {S : List (List UInt8)} {W : List (Int × List UInt8)} (l : List Bool) {t : Nat} (hw : ∀ q ∈ W, q.1.toNat ≠ t) : (crashS S W l)[t]? = S[t]? := by
 unfold crashS doneS
 exact done_get hw _ (Nat.le_refl _)
theorem flush_get {S : List (List UInt8)} {W : List (Int × List UInt8)} {t : Nat} (hw : ∀ q ∈ W, q.1.toNat ≠ t) : (flushS S W)[t]? = S[t]? := by
 unfold flushS doneS
 exact done_get hw _ (Nat.le_refl _)
theorem addW_mem {W : List (Int × List UInt8)} {i : Int} {b : List UInt8} {n : Nat} {q : Int × List UInt8} (h : q ∈ addW W i b n) : q ∈ W ∨ (i ≤ q.1 ∧ q.1 < i + n) := by
 unfold addW at h
 rcases List.mem_append.1 h with h | h
 ·exact .inl h
 ·obtain ⟨k, hk, rfl⟩ := List.mem_map.1 h
  have := List.mem_range.1 hk
  right; simp only; omega
theorem LogI.keep {S S' : List (List UInt8)} {m : Nat} {f l a n : Int} {r : List (Int × List UInt8)} (h : LogI S m f l a n r) (hg : goodS S' [] m) (hs : ∀ t : Nat, (t : Int) ≤ f + endA a r → S'[t]? = S[t]?) : LogI S' m f l a n r := by
 have hge := endA_ge r a
 have k1 := h.hf; have k2 := h.ha
 refine ⟨hg, h.m1, h.m2, h.hf, h.hl, h.hfl, h.ha, h.hn, laid_same h.hf r a n h.ha (fun t ht => (hs t (by omega)).symm) h.laid, h.hend, ?_, h.hmax⟩
 rw [hs _ (by omega)]; exact h.nought
theorem LogI.any {S : List (List UInt8)} {m : Nat} {f l a n : Int} {r : List (Int × List UInt8)} (h : LogI S m f l a n r) {d : List UInt8} (hd : d.length ≤ 6000) (hr : roomL l (endA a r) d.length) (hmx : n + r.length + 1 ≤ 281474976710655) {L : Int} (hL : -1 ≤ L) :
  (∃ L', -1 ≤ L' ∧ L' ≤ L ∧ appR (S, [], L, false) f l (endA a r) (n + r.length) d = ((appS S [] (f + endA a r) (secQ d).toNat (layF (n + r.length) d), [], L', false), (f, l, endA a r + secQ d, n + r.length + 1), 0)) ∨
  (∃ Sx Wx Lx, appR (S, [], L, false) f l (endA a r) (n + r.length) d = ((Sx, Wx, Lx, true), zeroL, 10) ∧ -1 ≤ Lx ∧ Lx ≤ L ∧ goodS Sx Wx m ∧ Wx.length ≤ 200 ∧ ∀ keep, LogI (crashS Sx Wx keep) m f l a n r ∨ LogI (crashS Sx Wx keep) m f l a n (r ++ [(n + r.length, d)])) := by
 have hlen := h.good.1.1
 have hge := endA_ge r a
 have h1 := h.m1; have h2 := h.hf; have h3 := h.hl; have h4 := h.hfl; have h5 := h.ha; have h6 := h.hn; have h7 := h.hend; have h8 := h.hmax; have h9 := h.m2
 obtain ⟨-, m2, m3, m4, m5, m6, m7, m8, m9⟩ := h.may
 have hm : mayL S [] L f l (endA a r) (n + r.length) := ⟨good_may h.good h1 h9 hL, m2, m3, m4, m5, m6, m7, m8, m9⟩
 have hmf : mayF (n + r.length) d := ⟨by omega, by omega, by omega⟩
 have hsI : secI (d.length : Int) = secQ d := by unfold secI; rw [if_pos (by omega)]; rfl
 obtain ⟨q1, q2, q3, q4, q5⟩ := id hr
 rw [hsI] at q1 q5
 have hll := layF_len (n + r.length) d
 have hqn : (secQ d).toNat = (d.length + 83) / 64 := by unfold secQ; rfl
 have hfin := (h.app hd hr hmx).2
 have hE : appE (S, [], L, false) f l (endA a r) (n + r.length) d = 0 := by unfold appE; rw [if_neg (by simp [hm, hmf]), if_neg (by simp [hr])]
 have hok : ∀ X : Dk, runF (appF (f + endA a r) (secQ d) (layF (n + r.length) d)) (S, [], L, false) 5 = (X, 0) → appR (S, [], L, false) f l (endA a r) (n + r.length) d = (X, (f, l, endA a r + secQ d, n + r.length + 1), 0) := by
  intro X hX
  unfold appR
  rw [if_neg (by simp [hE]), hX, if_neg (by simp)]
 have hbad : ∀ (k : Nat) (X : Dk), k ≤ 4 → runF (appF (f + endA a r) (secQ d) (layF (n + r.length) d)) (S, [], L, false) (k + 1) = (X, 10) → appR (S, [], L, false) f l (endA a r) (n + r.length) d = (X, zeroL, 10) := by
  intro k X hk hX
  have hX5 := (run_bad (by rw [hX]; simp) 5 (by omega)).trans hX
  unfold appR
  rw [if_neg (by simp [hE]), hX5, if_pos (by simp)]
 obtain ⟨q, hq⟩ : ∃ q, q = (secQ d).toNat := ⟨_, rfl⟩
 have hqI : secQ d = (q : Int) := by rw [hq]; omega
 have hq1 : 1 ≤ q := by omega
 obtain ⟨at_, hat⟩ : ∃ at_, at_ = f + endA a r := ⟨_, rfl⟩
 have hat0 : 0 ≤ at_ := by omega
 have hfit : at_ + q + 1 ≤ m := by omega
 obtain ⟨B, hB⟩ : ∃ B, B = layF (n + r.length) d := ⟨_, rfl⟩
 have hBl : B.length = 64 * q := by rw [hB, hll]; omega
 have hkp := fun S' hg hs => LogI.keep (S' := S') h hg hs
 rw [← hB, ← hat] at hok hbad hfin
 rw [← hq] at hfin
 rw [hqI] at hok hbad
 rw [← hat, ← hq, ← hB]
 rw [← hat] at hkp
 have hz64 : nought64.length = 64 * 1 := by simp [nought64]
 have hd64 : (B.drop 64).length = 64 * (q - 1) := by rw [List.length_drop]; omega
 have ht64 : (B.take 64).length = 64 * 1 := by rw [List.length_take]; omega
 have hF0 : ∀ s, appF at_ q B 0 s = wrF (at_ + 1) (B.drop 64) s := fun s => rfl
 have hF1 : ∀ s, appF at_ q B 1 s = wrF (at_ + q) nought64 s := fun s => rfl
 have hF2 : ∀ s, appF at_ q B 2 s = flF s := fun s => rfl
 have hF3 : ∀ s, appF at_ q B 3 s = wrF at_ (B.take 64) s := fun s => rfl
 have hF4 : ∀ s, appF at_ q B 4 s = flF s := fun s => rfl
 have g0 := h.good
 have hq94 : q ≤ 100 := by omega
 -- what waits ahead of the first flush lies behind the place
 have far : ∀ {j i : Nat}, j ≤ q - 1 → i ≤ 1 → ∀ qq ∈ addW (addW [] (at_ + 1) (B.drop 64) j) (at_ + q) nought64 i, at_ + 1 ≤ qq.1 := by
  intro j i hj hi qq hqq
  rcases addW_mem hqq with hx | hx
  ·rcases addW_mem hx with hy | hy
   ·cases hy
   ·exact hy.1
  ·omega
 have far0 : ∀ {j : Nat}, ∀ qq ∈ addW [] (at_ + 1) (B.drop 64) j, at_ + 1 ≤ qq.1 := by
  intro j qq hqq
  rcases addW_mem hqq with hy | hy
  ·cases hy
  ·exact hy.1
 have stays : ∀ (W : List (Int × List UInt8)), (∀ qq ∈ W, at_ + 1 ≤ qq.1) → ∀ t : Nat, (t : Int) ≤ at_ → ∀ qq ∈ W, qq.1.toNat ≠ t := by
  intro W hW t ht qq hqq
  have := hW qq hqq
  omega
 have good_add : ∀ {W : List (Int × List UInt8)} {i : Int} {b : List UInt8} {k j : Nat}, goodS S W m → 0 ≤ i → i + k ≤ m → j ≤ k → b.length = 64 * k → goodS S (addW W i b j) m := by
  intro W i b k j hg h0 hi hj hb
  exact add_good hg h0 (by omega) (by omega)
 -- the first step
 have step0 : (∃ L1, -1 ≤ L1 ∧ L1 ≤ L ∧ runF (appF at_ q B) (S, [], L, false) 1 = ((S, addW [] (at_ + 1) (B.drop 64) (q - 1), L1, false), 0)) ∨
   (∃ j L1, j < q - 1 ∧ -1 ≤ L1 ∧ L1 ≤ L ∧ runF (appF at_ q B) (S, [], L, false) 1 = ((S, addW [] (at_ + 1) (B.drop 64) j, L1, true), 10)) := by
  by_cases hq2 : q - 1 = 0
  ·left
   refine ⟨L, hL, Int.le_refl _, run_o (run_z _ _) rfl ?_⟩
   rw [hF0]
   unfold wrF
   rw [if_pos (by omega), hq2, addW_zero]
  ·obtain ⟨j, L1, a1, a2, hc⟩ := wr_any (i := at_ + 1) (q - 1) g0 h1 h9 hL hd64 (by omega) (by omega) (by omega)
   rcases hc with ⟨hj, hc⟩ | ⟨hj, hc⟩
   ·left; exact ⟨L1, a1, a2, run_o (run_z _ _) rfl (by rw [hF0]; exact hc)⟩
   ·right; exact ⟨j, L1, hj, a1, a2, run_o (run_z _ _) rfl (by rw [hF0]; exact hc)⟩
 rcases step0 with ⟨L1, a1, b1, r1⟩ | ⟨j, L1, hj, a1, b1, r1⟩
 case inr =>
  right
  have hg := good_add (i := at_ + 1) (b := B.drop 64) (k := q - 1) (j := j) g0 (by omega) (by omega) (by omega) hd64
  refine ⟨_, _, L1, hbad 0 _ (by omega) r1, a1, b1, hg, by rw [addW_len]; simp <;> omega, fun keep => .inl (hkp _ (crash_good keep hg) (fun t ht => crash_get keep (stays _ far0 t ht)))⟩
 have g1 := good_add (i := at_ + 1) (b := B.drop 64) (k := q - 1) (j := q - 1) g0 (by omega) (by omega) (by omega) hd64
 obtain ⟨j, L2, a2, b2, hc⟩ := wr_any (i := at_ + q) 1 g1 h1 h9 a1 hz64 (by omega) (by omega) (by omega)
 rcases hc with ⟨hj, hc⟩ | ⟨hj, hc⟩
 case inr =>
  right
  have hg := good_add (i := at_ + q) (b := nought64) (k := 1) (j := j) g1 (by omega) (by omega) (by omega) hz64
  refine ⟨_, _, L2, hbad 1 _ (by omega) (run_o r1 rfl (by rw [hF1]; exact hc)), a2, by omega, hg, by rw [addW_len, addW_len]; simp <;> omega, fun keep => .inl (hkp _ (crash_good keep hg) (fun t ht => crash_get keep (stays _ (far (by omega) (by omega)) t ht)))⟩
 have r2 : runF (appF at_ q B) (S, [], L, false) 2 = ((S, addW (addW [] (at_ + 1) (B.drop 64) (q - 1)) (at_ + q) nought64 1, L2, false), 0) := run_o r1 rfl (by rw [hF1]; exact hc)
 have g2 := good_add (i := at_ + q) (b := nought64) (k := 1) (j := 1) g1 (by omega) (by omega) (by omega) hz64
 obtain ⟨L3, a3, b3, hc⟩ := fl_any g2 h1 h9 a2
 rcases hc with hc | hc
 case inr =>
  right
  refine ⟨_, _, L3, hbad 2 _ (by omega) (run_o r2 rfl (by rw [hF2]; exact hc)), a3, by omega, g2, by rw [addW_len, addW_len]; simp <;> omega, fun keep => .inl (hkp _ (crash_good keep g2) (fun t ht => crash_get keep (stays _ (far (by omega) (by omega)) t ht)))⟩
 have r3 : runF (appF at_ q B) (S, [], L, false) 3 = ((flushS S (addW (addW [] (at_ + 1) (B.drop 64) (q - 1)) (at_ + q) nought64 1), [], L3, false), 0) := run_o r2 rfl (by rw [hF2]; exact hc)
 have g3 := flush_good g2
 have hs3 : ∀ t : Nat, (t : Int) ≤ at_ → (flushS S (addW (addW [] (at_ + 1) (B.drop 64) (q - 1)) (at_ + q) nought64 1))[t]? = S[t]? := fun t ht => flush_get (stays _ (far (by omega) (by omega)) t ht)
 obtain ⟨S3, hS3⟩ : ∃ S3, S3 = flushS S (addW (addW [] (at_ + 1) (B.drop 64) (q - 1)) (at_ + q) nought64 1) := ⟨_, rfl⟩
 have hfS : appS S [] at_ q B = flushS S3 (addW [] at_ (B.take 64) 1) := by rw [hS3]; rfl
 rw [← hS3] at r3 g3 hs3
 obtain ⟨j, L4, a4, b4, hc⟩ := wr_any (i := at_) 1 g3 h1 h9 a3 ht64 (by omega) (by omega) (by omega)
 rcases hc with ⟨hj, hc⟩ | ⟨hj, hc⟩
 case inr =>
  right
  obtain rfl : j = 0 := by omega
  rw [addW_zero] at hc
  refine ⟨_, _, L4, hbad 3 _ (by omega) (run_o r3 rfl (by rw [hF3]; exact hc)), a4, by omega, g3, by simp, fun keep => .inl (hkp _ (crash_good keep g3) (fun t ht => (crash_get keep (by simp)).trans (hs3 t ht)))⟩
 have r4 : runF (appF at_ q B) (S, [], L, false) 4 = ((S3, addW [] at_ (B.take 64) 1, L4, false), 0) := run_o r3 rfl (by rw [hF3]; exact hc)
 have g4 : goodS S3 (addW [] at_ (B.take 64) 1) m := add_good g3 hat0 (by omega) (by omega)
 obtain ⟨L5, a5, b5, hc⟩ := fl_any g4 h1 h9 a4
 rcases hc with hc | hc
 ·left
  rw [← hfS] at hc
  exact ⟨L5, a5, by omega, by rw [hqI]; exact hok _ (run_o r4 rfl (by rw [hF4]; exact hc))⟩
 ·right
  refine ⟨_, _, L5, hbad 4 _ (by omega) (run_o r4 rfl (by rw [hF4]; exact hc)), a5, by omega, g4, by rw [addW_len]; simp, fun keep => ?_⟩
  have hw1 : (addW [] at_ (B.take 64) 1).length = 1 := by rw [addW_len]; rfl
  have hcr : crashS S3 (addW [] at_ (B.take 64) 1) keep = appS S [] at_ q B ∨ crashS S3 (addW [] at_ (B.take 64) 1) keep = S3 := by
   rw [hfS]
   unfold crashS flushS doneS
   rw [hw1]
   simp only [doneN]
   split
   ·left; simp
   ·right; rfl
  rcases hcr with e | e
  ·right; rw [e]; exact hfin
  ·left; rw [e]; exact hkp _ g3 hs3
end Go.Val.Ytlfnmgmbmgacgaa
