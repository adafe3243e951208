/- Chapter 06, plain law: what was appended is what comes next. -/
import Derived.Test.YtlfnmgmbmgacgaaX06a
import Derived.Test.YtlfnmgmbmgacgaaE05p
namespace Go.Val.Ytlfnmgmbmgacgaa
open Go Go.Val Go.Proofs Go.Proofs.Ytlfnmgmbmgacgaa
set_option maxRecDepth 100000
set_option maxHeartbeats 4000000
set_option linter.unusedSimpArgs false
set_option linter.unusedVariables false
/-! ### sectors behind a flush -/
def putQ (S : List (List UInt8)) (q : Int × List UInt8) : List (List UInt8) := S.set q.1.toNat q.2
theorem done_fold (S : List (List UInt8)) (W : List (Int × List UInt8)) : ∀ k, k ≤ W.length → doneN S W (fun _ => true) k = (W.take k).foldl putQ S
 | 0, _ => rfl
 | k + 1, h => by
  have hk : k < W.length := by omega
  rw [doneN, if_pos rfl, done_fold S W k (by omega), List.take_add_one, List.getElem?_eq_getElem hk, List.foldl_append]
  simp [putQ, List.getD_eq_getElem?_getD, List.getElem?_eq_getElem hk]
theorem flush_fold (S : List (List UInt8)) (W : List (Int × List UInt8)) : flushS S W = W.foldl putQ S := by
 unfold flushS doneS; rw [done_fold S W _ (Nat.le_refl _), List.take_length]
theorem fold_len (W : List (Int × List UInt8)) : ∀ S : List (List UInt8), (W.foldl putQ S).length = S.length := by
 induction W with
 | nil => intro S; rfl
 | cons q W ih => intro S; rw [List.foldl_cons, ih]; simp [putQ]
theorem fold_add (S : List (List UInt8)) (i : Nat) (b : List UInt8) (t : Nat) : ∀ n, ((addW [] (i : Int) b n).foldl putQ S)[t]? = if i ≤ t ∧ t < i + n ∧ t < S.length then some (chunk b (t - i)) else S[t]?
 | 0 => by rw [if_neg (by omega)]; rfl
 | n + 1 => by
  have ih := fold_add S i b t n
  have hl := fold_len (addW [] (i : Int) b n) S
  rw [← addW_succ, List.foldl_append]
  simp only [List.foldl_cons, List.foldl_nil, putQ]
  rw [List.getElem?_set, ih, hl, show ((i : Int) + (n : Int)).toNat = i + n by omega]
  by_cases h1 : i + n = t
  ·rw [if_pos h1]
   by_cases h2 : i + n < S.length
   ·rw [if_pos h2, if_pos (by omega), show t - i = n by omega]
   ·rw [if_neg h2, if_neg (by omega), List.getElem?_eq_none (by omega)]
  ·rw [if_neg h1]
   by_cases h2 : i ≤ t ∧ t < i + n ∧ t < S.length
   ·rw [if_pos h2, if_pos (by omega)]
   ·rw [if_neg h2, if_neg (by omega)]
theorem addW_nil (W : List (Int × List UInt8)) (i : Int) (b : List UInt8) (n : Nat) : addW W i b n = W ++ addW [] i b n := by unfold addW; rfl
theorem chunk_drop (B : List UInt8) (k : Nat) : chunk (B.drop 64) k = chunk B (k + 1) := by
 unfold chunk; rw [List.drop_drop]; congr 2; omega
theorem chunk_one (B : List UInt8) (h : B.length = 64) : chunk B 0 = B := by unfold chunk; rw [Nat.mul_zero, List.drop_zero, List.take_of_length_le (by omega)]
theorem chunk_take (B : List UInt8) : chunk (B.take 64) 0 = chunk B 0 := by unfold chunk; rw [Nat.mul_zero, List.drop_zero, List.drop_zero, List.take_take]; rfl
theorem appS_get {S : List (List UInt8)} {at_ q : Nat} {B : List UInt8} (hq : 1 ≤ q) (hS : at_ + q + 1 ≤ S.length) (t : Nat) :
  (appS S [] (at_ : Int) q B)[t]? = if at_ ≤ t ∧ t < at_ + q then some (chunk B (t - at_)) else if t = at_ + q then some nought64 else S[t]? := by
 have hz : nought64.length = 64 := by simp [nought64]
 unfold appS
 rw [addW_nil (addW [] ((at_ : Int) + 1) (B.drop 64) (q - 1)), flush_fold, flush_fold, List.foldl_append]
 rw [show ((at_ : Int) + 1) = ((at_ + 1 : Nat) : Int) by omega, show ((at_ : Int) + (q : Int)) = ((at_ + q : Nat) : Int) by omega]
 rw [fold_add, fold_len, fold_len, fold_add, fold_len, fold_add]
 by_cases h1 : t = at_
 ·subst h1
  rw [if_pos ⟨Nat.le_refl _, by omega, by omega⟩, if_pos ⟨Nat.le_refl _, by omega⟩, Nat.sub_self, chunk_take]
 ·rw [if_neg (by omega)]
  by_cases h2 : t = at_ + q
  ·rw [if_pos ⟨by omega, by omega, by omega⟩, if_neg (by omega), if_pos h2, show t - (at_ + q) = 0 by omega, chunk_one _ hz]
  ·rw [if_neg (by omega)]
   by_cases h3 : at_ ≤ t ∧ t < at_ + q
   ·rw [if_pos ⟨by omega, by omega, by omega⟩, if_pos h3, chunk_drop, show t - (at_ + 1) + 1 = t - at_ by omega]
   ·rw [if_neg (by omega), if_neg h3, if_neg h2]
theorem appS_len (S : List (List UInt8)) (at_ : Int) (q : Nat) (B : List UInt8) : (appS S [] at_ q B).length = S.length := by
 unfold appS; rw [flush_fold, fold_len, flush_fold, fold_len]
/-! ### what is read -/
theorem now_nil (S : List (List UInt8)) (i : Nat) : nowS S [] i = S.getD i [] := rfl
theorem readS_same {S S' : List (List UInt8)} {i : Nat} : ∀ n, (∀ t, i ≤ t → t < i + n → S[t]? = S'[t]?) → readS S [] i n = readS S' [] i n
 | 0, _ => rfl
 | n + 1, h => by
  rw [readS_succ, readS_succ, readS_same n (fun t h1 h2 => h t h1 (by omega)), now_nil, now_nil, List.getD_eq_getElem?_getD, List.getD_eq_getElem?_getD, h (i + n) (by omega) (by omega)]
theorem read_chunks {S : List (List UInt8)} {i : Nat} {B : List UInt8} : ∀ n, (∀ t, t < n → S[i + t]? = some (chunk B t)) → readS S [] i n = B.take (64 * n)
 | 0, _ => by simp [readS]
 | n + 1, h => by
  rw [readS_succ, read_chunks n (fun t ht => h t (by omega)), now_nil, List.getD_eq_getElem?_getD, h n (by omega)]
  simp only [Option.getD_some, chunk]
  rw [show 64 * (n + 1) = 64 * n + 64 by omega, List.take_add]
/-! ### heads -/
theorem hd_take {b : List UInt8} {k : Nat} (hk : 16 ≤ k) (hb : 16 ≤ b.length) : hdE (b.take k) = hdE b ∧ hdS (b.take k) = hdS b ∧ hdN (b.take k) = hdN b := by
 have hl : ¬ (b.take k).length < 16 := by rw [List.length_take]; omega
 have hl2 : ¬ b.length < 16 := by omega
 have t4 : (b.take k).take 4 = b.take 4 := by rw [List.take_take]; congr 1; omega
 have t10 : (b.take k).take 10 = b.take 10 := by rw [List.take_take]; congr 1; omega
 have t12 : (b.take k).take 12 = b.take 12 := by rw [List.take_take]; congr 1; omega
 have e1 : hdE (b.take k) = hdE b := by unfold hdE; rw [if_neg hl, if_neg hl2, t4, t10, t12]
 unfold hdS hdN
 rw [e1, t10, t12]
 exact ⟨rfl, rfl, rfl⟩
theorem hd_nought : hdE nought64 = 4 := by decide
theorem next_lay {S : List (List UInt8)} {m : Nat} (hg : goodS S [] m) (h1 : 1 ≤ m) (h2 : m ≤ 4096) {f l a n : Int} {d : List UInt8} (hm : mayF n d) (hf : 0 ≤ f) (ha : 0 ≤ a) (hr : roomL l a d.length)
  (hi : f + a + secQ d ≤ m) (hB : readS S [] (f + a).toNat (secQ d).toNat = layF n d) : nextR S [] (-1) false f l a n = ((n, d), secQ d, 0) := by
 have hmp := good_may hg h1 h2 (L := -1) (by omega)
 have h6 := hm.2.2
 have hll := layF_len n d
 have hqN : secQ d = (((d.length + 83) / 64 : Nat) : Int) := rfl
 have hq1 : 1 ≤ (d.length + 83) / 64 := by omega
 have hqt : (secQ d).toNat = (d.length + 83) / 64 := by rw [hqN]; rfl
 have hsI : secI (d.length : Int) = secQ d := by unfold secI; rw [if_pos (by omega)]; rfl
 have hlen : S.length = m := hg.1.1
 have e1 : readE S [] (-1) false (f + a) 1 = 0 := by unfold readE; rw [if_neg (by simpa using hmp), if_neg (by rw [Classical.not_not]; omega), if_neg (by simp)]
 have e2 : readE S [] (-1) false (f + a) (secQ d) = 0 := by unfold readE; rw [if_neg (by simpa using hmp), if_neg (by rw [Classical.not_not]; omega), if_neg (by simp)]
 have hb1 : nb1 S [] (f + a) = (layF n d).take 64 := by
  unfold nb1
  obtain ⟨k, hk⟩ : ∃ k, (secQ d).toNat = k + 1 := ⟨(d.length + 83) / 64 - 1, by omega⟩
  have hsp : ∀ k, readS S [] (f + a).toNat (k + 1) = readS S [] (f + a).toNat 1 ++ (List.range k).flatMap fun t => nowS S [] ((f + a).toNat + (t + 1)) := by
   intro k
   unfold readS
   rw [List.range_succ_eq_map, List.flatMap_cons, List.flatMap_map]
   simp
  have hl1 := readS_len hmp (f + a).toNat 1 (by omega)
  rw [hk, hsp] at hB
  rw [← hB, List.take_append_of_le_length (by omega), List.take_of_length_le (by omega)]
 have hq16 : 16 ≤ (layF n d).length := by omega
 obtain ⟨t1, t2, t3⟩ := hd_take (b := layF n d) (k := 64) (by omega) hq16
 have hq0 := layF_eq n d []
 rw [List.append_nil] at hq0
 obtain ⟨c1, c2, c3⟩ := head_lay hm hq0 (by simp [beN_len])
 have hnq : nq S [] (f + a) = secQ d := by unfold nq; rw [hb1, t3, c3, hsI]
 have hb2 : nb2 S [] (f + a) = layF n d := by unfold nb2; rw [hnq, hB]
 have hnb : ¬ hdBad S [] (f + a) l a n := by
  unfold hdBad
  rw [hb1, t1, t2, t3, c1, c2, c3]
  rintro (h | h | h)
  ·exact h rfl
  ·apply h; have := hm.1; omega
  ·exact h hr
 obtain ⟨r1, r2, r3, r4⟩ := read_lay hm []
 rw [List.append_nil] at r1 r2 r3 r4
 unfold nextR
 rw [if_neg (by simp [e1]), if_neg hnb, hnq, if_neg (by simp [e2]), hb2, if_neg (by simp [r1]), r2, r3, c3]
 rfl
theorem next_nought {S : List (List UInt8)} {m : Nat} (hg : goodS S [] m) (h1 : 1 ≤ m) (h2 : m ≤ 4096) {f l a n : Int} (hf : 0 ≤ f) (ha : 0 ≤ a) (hi : f + a + 1 ≤ m) (hB : S[(f + a).toNat]? = some nought64) :
  nextR S [] (-1) false f l a n = ((0, []), 0, 0) := by
 have hmp := good_may hg h1 h2 (L := -1) (by omega)
 have hlen : S.length = m := hg.1.1
 have e1 : readE S [] (-1) false (f + a) 1 = 0 := by unfold readE; rw [if_neg (by simpa using hmp), if_neg (by rw [Classical.not_not]; omega), if_neg (by simp)]
 have hb1 : nb1 S [] (f + a) = nought64 := by
  unfold nb1
  rw [readS_succ, now_nil, List.getD_eq_getElem?_getD, Nat.add_zero, hB]
  simp [readS]
 unfold nextR
 rw [if_neg (by simp [e1]), if_pos (.inl (by rw [hb1, hd_nought]; simp))]
end Go.Val.Ytlfnmgmbmgacgaa
