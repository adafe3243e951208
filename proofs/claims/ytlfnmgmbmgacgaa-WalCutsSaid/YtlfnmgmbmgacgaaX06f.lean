/- Chapter 06, plain law: records that are appended one behind the other, as long as there is room. -/
import Derived.Test.YtlfnmgmbmgacgaaX06e
namespace Go.Val.Ytlfnmgmbmgacgaa
open Go Go.Val Go.Proofs Go.Proofs.Ytlfnmgmbmgacgaa
set_option maxRecDepth 100000
set_option maxHeartbeats 4000000
set_option linter.unusedSimpArgs false
set_option linter.unusedVariables false
theorem LogI.tail {S : List (List UInt8)} {m : Nat} {f l a n : Int} {x : Int × List UInt8} {r : List (Int × List UInt8)} (h : LogI S m f l a n (x :: r)) : LogI S m f l (a + secQ x.2) (n + 1) r := by
 have hq := secQ_pos x.2
 have hmx := h.hmax
 rw [List.length_cons] at hmx
 exact ⟨h.good, h.m1, h.m2, h.hf, h.hl, h.hfl, by have := h.ha; omega, by have := h.hn; omega, h.laid.2, h.hend, h.nought, by omega⟩
theorem LogI.drop {S : List (List UInt8)} {m : Nat} {f l n : Int} : ∀ (k : Nat) {a n : Int} {r : List (Int × List UInt8)}, k ≤ r.length → LogI S m f l a n r → LogI S m f l (endA a (r.take k)) (n + k) (r.drop k)
 | 0, a, n, r, _, h => by simpa [endA] using h
 | k + 1, a, n, [], hk, h => by simp at hk
 | k + 1, a, n, x :: r, hk, h => by
  have := LogI.drop (n := n) k (by simpa using hk) h.tail
  simp only [List.take_succ_cons, List.drop_succ_cons, endA]
  rw [show n + ((k + 1 : Nat) : Int) = n + 1 + (k : Int) by omega]
  exact this
theorem endA_app : ∀ (p q : List (Int × List UInt8)) (a : Int), endA a (p ++ q) = endA (endA a p) q
 | [], _, _ => rfl
 | _ :: p, q, a => endA_app p q _
theorem endA_take (r : List (Int × List UInt8)) (a : Int) (k : Nat) : endA a r = endA (endA a (r.take k)) (r.drop k) := by rw [← endA_app, List.take_append_drop]
theorem LogI.other {S : List (List UInt8)} {m : Nat} {f l a n : Int} {x : Int × List UInt8} {r : List (Int × List UInt8)} (h : LogI S m f l a n (x :: r)) {n' : Int} (hne : n' ≠ n) (h1 : 1 ≤ n') (h2 : n' ≤ 281474976710655) :
  scanR S [] (-1) false f l a n' = ([], (f, l, a, n'), 0) := by
 obtain ⟨⟨x1, x2, x3, x4⟩, _⟩ := h.laid
 have hmp := good_may h.good h.m1 h.m2 (L := -1) (by omega)
 have hlen := h.good.1.1
 have hge := endA_ge r (a + secQ x.2)
 have hq := secQ_pos x.2
 have k1 := h.hf; have k2 := h.hl; have k3 := h.hfl; have k4 := h.ha; have k5 := h.hend; have km := h.m1
 simp only [endA] at k5
 have hml : mayL S [] (-1) f l a n' := ⟨hmp, k1, k2, by omega, by omega, k4, by omega, h1, h2⟩
 have h6 := x2.2.2
 have hll := layF_len n x.2
 have hqt : (secQ x.2).toNat = (x.2.length + 83) / 64 := by unfold secQ; rfl
 have e1 : readE S [] (-1) false (f + a) 1 = 0 := by unfold readE; rw [if_neg (by simpa using hmp), if_neg (by rw [Classical.not_not]; omega), if_neg (by simp)]
 have hb1 : nb1 S [] (f + a) = (layF n x.2).take 64 := by
  unfold nb1
  obtain ⟨k, hk⟩ : ∃ k, (secQ x.2).toNat = k + 1 := ⟨(x.2.length + 83) / 64 - 1, by omega⟩
  have hl1 := readS_len hmp (f + a).toNat 1 (by omega)
  have hsp : readS S [] (f + a).toNat (k + 1) = readS S [] (f + a).toNat 1 ++ (List.range k).flatMap fun t => nowS S [] ((f + a).toNat + (t + 1)) := by
   unfold readS
   rw [List.range_succ_eq_map, List.flatMap_cons, List.flatMap_map]
   simp
  rw [hk, hsp] at x4
  rw [← x4, List.take_append_of_le_length (by omega), List.take_of_length_le (by omega)]
 obtain ⟨t1, t2, t3⟩ := hd_take (b := layF n x.2) (k := 64) (by omega) (by omega)
 have hq0 := layF_eq n x.2 []
 rw [List.append_nil] at hq0
 obtain ⟨c1, c2, c3⟩ := head_lay x2 hq0 (by simp [beN_len])
 have hnx : nextR S [] (-1) false f l a n' = ((0, []), 0, 0) := by
  unfold nextR
  rw [if_neg (by simp [e1]), if_pos]
  unfold hdBad
  rw [hb1, t1, t2, c2]
  exact .inr (.inl (fun h' => hne (by have := h.hn; omega)))
 have hst : stopS S [] (-1) false f l a n' 0 = true := by
  unfold stopS
  rw [show scS S [] (-1) false f l a n' 0 = ([], a, n') from rfl]
  simp only
  rw [hnx]
  simp
 have hN : scN S [] (-1) false f l a n' = 0 := firstN_is (by omega) (fun j hj => by omega) hst
 unfold scanR
 rw [if_neg (by simp [hml]), hN, show scS S [] (-1) false f l a n' 0 = ([], a, n') from rfl]
 simp only
 rw [hnx, if_neg (by simp)]
theorem LogI.clear {S : List (List UInt8)} {m : Nat} {f l a n : Int} {r : List (Int × List UInt8)} (h : LogI S m f l a n r) (k : Nat) (hk : k ≤ r.length) :
  clrR (S, [], -1, false) f l (endA a (r.take k)) (n + k) = ((flushS S (addW [] (f + endA a (r.take k)) nought64 1), [], -1, false), 0) ∧ LogI (flushS S (addW [] (f + endA a (r.take k)) nought64 1)) m f l a n (r.take k) := by
 have hd := LogI.drop (n := n) k hk h
 have hlen := h.good.1.1
 have k1 := h.hf; have k2 := h.hl; have k3 := h.hfl; have k4 := h.ha; have k5 := h.hend; have k6 := h.m1; have k7 := h.m2; have k8 := h.hn; have k9 := h.hmax
 have d1 := hd.ha; have d2 := hd.hend
 have hge := endA_ge (r.drop k) (endA a (r.take k))
 have hz : nought64.length = 64 := by simp [nought64]
 have hmp := good_may h.good h.m1 h.m2 (L := -1) (by omega)
 have hml : mayL S [] (-1) f l (endA a (r.take k)) (n + k) := ⟨hmp, k1, k2, by omega, by omega, d1, by omega, by omega, by omega⟩
 have g1 := add_good h.good (i := f + endA a (r.take k)) (b := nought64) (n := 1) (by omega) (by omega) (by omega)
 have g2 := flush_good g1
 have e1 := wr_good 1 h.good k6 k7 (i := f + endA a (r.take k)) (b := nought64) (by omega) (by omega) (by omega)
 have e2 := fl_good g1 k6 k7
 have hat : f + endA a (r.take k) = (((f + endA a (r.take k)).toNat : Nat) : Int) := by omega
 have hget : ∀ t, (flushS S (addW [] (f + endA a (r.take k)) nought64 1))[t]? = if t = (f + endA a (r.take k)).toNat then some nought64 else S[t]? := by
  intro t
  rw [flush_fold, hat, fold_add]
  by_cases e : t = (f + endA a (r.take k)).toNat
  ·rw [if_pos ⟨by omega, by omega, by omega⟩, if_pos (by omega), show t - (f + endA a (r.take k)).toNat = 0 by omega, chunk_one _ hz]
  ·rw [if_neg (by omega), if_neg (by omega)]
 refine ⟨?_, ⟨g2, k6, k7, k1, k2, k3, k4, k8, ?_, d2 |> fun _ => by omega, ?_, by rw [List.length_take]; omega⟩⟩
 ·unfold clrR
  rw [if_neg (by simp [hml])]
  have r1 : runF (clrF (f + endA a (r.take k))) (S, [], -1, false) 1 = ((S, addW [] (f + endA a (r.take k)) nought64 1, -1, false), 0) := by
   show (if (0 : Int) ≠ 0 then _ else _) = _
   rw [if_neg (by simp)]; exact e1
  rw [runF, r1, if_neg (by simp)]; exact e2
 ·have hsub : laidP S f l a n (r.take k) := by
   have : ∀ (p q : List (Int × List UInt8)) (a n : Int), laidP S f l a n (p ++ q) → laidP S f l a n p := by
    intro p
    induction p with
    | nil => intro q a n _; trivial
    | cons x p ih => intro q a n h; exact ⟨h.1, ih q _ _ h.2⟩
   refine this _ (r.drop k) a n ?_
   rw [List.take_append_drop]; exact h.laid
  refine laid_same k1 (r.take k) a n k4 (fun t ht => ?_) hsub
  rw [hget, if_neg (by omega)]
 ·rw [hget, if_pos rfl]
/-! ### one behind the other, as long as there is room -/
def wst (n : Int) (ls : List (List UInt8)) : Nat → List (List UInt8) × List (Int × List UInt8)
 | 0 => (newS 20, [])
 | i + 1 => if (few6 (ls.getD i [])).length ≤ 6000 ∧ roomL 16 (endA 0 (wst n ls i).2) (few6 (ls.getD i [])).length then
   (appS (wst n ls i).1 [] (2 + endA 0 (wst n ls i).2) (secQ (few6 (ls.getD i []))).toNat (layF (n + (wst n ls i).2.length) (few6 (ls.getD i []))), (wst n ls i).2 ++ [(n + (wst n ls i).2.length, few6 (ls.getD i []))])
  else wst n ls i
theorem wst_log (n : Int) (ls : List (List UInt8)) (hn : 1 ≤ n) (hn2 : n ≤ 1000) : ∀ i, i ≤ 20 → LogI (wst n ls i).1 20 2 16 0 n (wst n ls i).2 ∧ (wst n ls i).2.length ≤ i
 | 0, _ => ⟨LogI.new (by omega) (by omega) (by omega) (by omega) (by omega) hn (by omega), by simp [wst]⟩
 | i + 1, h => by
  obtain ⟨h1, h2⟩ := wst_log n ls hn hn2 i (by omega)
  unfold wst
  split
  ·rename_i hc
   refine ⟨(h1.app hc.1 hc.2 (by omega)).2, ?_⟩
   simp only [List.length_append, List.length_singleton]
   omega
  ·exact ⟨h1, by omega⟩
def logsD (n : Int) (r : List (Int × List UInt8)) : List DV := (List.range r.length).map fun j => logD 2 16 (endA 0 (r.take j)) (n + j)
theorem logsD_len (n : Int) (r : List (Int × List UInt8)) : (logsD n r).length = r.length := by simp [logsD]
theorem logsD_snoc (n : Int) (r : List (Int × List UInt8)) (x : Int × List UInt8) : logsD n r ++ [logD 2 16 (endA 0 r) (n + r.length)] = logsD n (r ++ [x]) := by
 unfold logsD
 rw [List.length_append, List.length_singleton, List.range_succ, List.map_append]
 congr 1
 ·refine List.map_congr_left fun j hj => ?_
  have := List.mem_range.1 hj
  rw [List.take_append_of_le_length (by omega)]
 ·simp
theorem logsD_get (n : Int) (r : List (Int × List UInt8)) {j : Nat} (h : j < r.length) : (logsD n r).getD j .undef = logD 2 16 (endA 0 (r.take j)) (n + j) := by
 unfold logsD
 rw [List.getD_eq_getElem?_getD, List.getElem?_map, List.getElem?_range h]; rfl
theorem logsD_four (n : Int) (r : List (Int × List UInt8)) : (∀ x ∈ logsD n r, x.cells.length = 4) = True := by
 simp [logsD, DV.cells]
theorem logsD_named (n : Int) (r : List (Int × List UInt8)) (a b c : Nat) : nameds a b c (logsD n r) = true := by
 rw [nameds_iff]
 intro x hx
 obtain ⟨j, _, rfl⟩ := List.mem_map.1 hx
 rfl
end Go.Val.Ytlfnmgmbmgacgaa
