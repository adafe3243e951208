/- Chapter 06, plain law: what was appended is scanned. -/
import Derived.Test.YtlfnmgmbmgacgaaX06b
namespace Go.Val.Ytlfnmgmbmgacgaa
open Go Go.Val Go.Proofs Go.Proofs.Ytlfnmgmbmgacgaa
set_option maxRecDepth 100000
set_option maxHeartbeats 4000000
set_option linter.unusedSimpArgs false
set_option linter.unusedVariables false
theorem secQ_pos (d : List UInt8) : 1 ≤ secQ d := by unfold secQ; omega
def laidP (S : List (List UInt8)) (f l : Int) : Int → Int → List (Int × List UInt8) → Prop
 | _, _, [] => True
 | a, n, x :: r => (x.1 = n ∧ mayF n x.2 ∧ roomL l a x.2.length ∧ readS S [] (f + a).toNat (secQ x.2).toNat = layF n x.2) ∧ laidP S f l (a + secQ x.2) (n + 1) r
def endA : Int → List (Int × List UInt8) → Int
 | a, [] => a
 | a, x :: r => endA (a + secQ x.2) r
theorem endA_snoc : ∀ (r : List (Int × List UInt8)) (a : Int) (x : Int × List UInt8), endA a (r ++ [x]) = endA a r + secQ x.2
 | [], _, _ => rfl
 | y :: r, a, x => endA_snoc r (a + secQ y.2) x
theorem endA_ge : ∀ (r : List (Int × List UInt8)) (a : Int), a + r.length ≤ endA a r
 | [], a => by simp [endA]
 | y :: r, a => by
  have h1 := endA_ge r (a + secQ y.2)
  have h2 := secQ_pos y.2
  simp only [endA, List.length_cons]
  omega
theorem laid_snoc {S : List (List UInt8)} {f l : Int} : ∀ (r : List (Int × List UInt8)) (a n : Int) (x : Int × List UInt8), laidP S f l a n r → (x.1 = n + r.length ∧ mayF (n + r.length) x.2 ∧ roomL l (endA a r) x.2.length ∧ readS S [] (f + endA a r).toNat (secQ x.2).toNat = layF (n + r.length) x.2) → laidP S f l a n (r ++ [x])
 | [], a, n, x, _, h => ⟨by simpa [endA] using h, trivial⟩
 | y :: r, a, n, x, h1, h => by
  refine ⟨h1.1, laid_snoc r (a + secQ y.2) (n + 1) x h1.2 ?_⟩
  have e : n + ((y :: r).length : Int) = n + 1 + (r.length : Int) := by simp; omega
  rw [e] at h
  exact h
theorem laid_same {S S' : List (List UInt8)} {f l : Int} (hf : 0 ≤ f) : ∀ (r : List (Int × List UInt8)) (a n : Int), 0 ≤ a → (∀ t : Nat, (t : Int) < f + endA a r → S[t]? = S'[t]?) → laidP S f l a n r → laidP S' f l a n r
 | [], _, _, _, _, _ => trivial
 | y :: r, a, n, ha, hs, h => by
  have hq := secQ_pos y.2
  have hge := endA_ge r (a + secQ y.2)
  refine ⟨⟨h.1.1, h.1.2.1, h.1.2.2.1, ?_⟩, laid_same hf r (a + secQ y.2) (n + 1) (by omega) hs h.2⟩
  rw [← h.1.2.2.2]
  refine (readS_same _ fun t h1 h2 => hs t ?_).symm
  simp only [endA]
  omega
theorem firstN_is {n k : Nat} {p : Nat → Bool} (hk : k < n) (h0 : ∀ j, j < k → p j = false) (h1 : p k = true) : firstN n p = k := by
 have hle := firstN_le n p
 rcases Nat.lt_trichotomy (firstN n p) k with h | h | h
 ·have := firstN_eq (by omega : firstN n p < n)
  rw [h0 _ h] at this; cases this
 ·exact h
 ·have := firstN_lt h
  rw [h1] at this; cases this
structure LogI (S : List (List UInt8)) (m : Nat) (f l a n : Int) (r : List (Int × List UInt8)) : Prop where
 good : goodS S [] m
 m1 : 1 ≤ m
 m2 : m ≤ 4096
 hf : 0 ≤ f
 hl : 2 ≤ l
 hfl : f + l ≤ m
 ha : 0 ≤ a
 hn : 1 ≤ n
 laid : laidP S f l a n r
 hend : endA a r < l
 nought : S[(f + endA a r).toNat]? = some nought64
 hmax : n + r.length ≤ 281474976710655
theorem LogI.may {S : List (List UInt8)} {m : Nat} {f l a n : Int} {r : List (Int × List UInt8)} (h : LogI S m f l a n r) : mayL S [] (-1) f l (endA a r) (n + r.length) := by
 have hl := h.good.1.1
 have hge := endA_ge r a
 have h1 := h.m1; have h2 := h.hf; have h3 := h.hl; have h4 := h.hfl; have h5 := h.ha; have h6 := h.hn; have h7 := h.hend; have h8 := h.hmax
 exact ⟨good_may h.good h.m1 h.m2 (by omega), h2, h3, by omega, by omega, by omega, h7, by omega, h8⟩
theorem LogI.may0 {S : List (List UInt8)} {m : Nat} {f l a n : Int} {r : List (Int × List UInt8)} (h : LogI S m f l a n r) : mayL S [] (-1) f l a n := by
 have hl := h.good.1.1
 have hge := endA_ge r a
 have h1 := h.m1; have h2 := h.hf; have h3 := h.hl; have h4 := h.hfl; have h5 := h.ha; have h6 := h.hn; have h7 := h.hend; have h8 := h.hmax
 exact ⟨good_may h.good h.m1 h.m2 (by omega), h2, h3, by omega, by omega, by omega, by omega, by omega, by omega⟩
theorem LogI.scan {S : List (List UInt8)} {m : Nat} {f l a n : Int} {r : List (Int × List UInt8)} (h : LogI S m f l a n r) : scanR S [] (-1) false f l a n = (r, (f, l, endA a r, n + r.length), 0) := by
 have hlen := h.good.1.1
 have step : ∀ (r1 r2 : List (Int × List UInt8)), r = r1 ++ r2 → scS S [] (-1) false f l a n r1.length = (r1, endA a r1, n + r1.length) ∧ laidP S f l (endA a r1) (n + r1.length) r2 ∧ (∀ j, j < r1.length → stopS S [] (-1) false f l a n j = false) := by
  intro r1
  induction r1 using snoc_ind with
  | h0 => intro r2 e; subst e; exact ⟨by simp [scS, endA], by simpa [endA] using h.laid, fun j hj => by simp at hj⟩
  | h1 r1 x ih =>
   intro r2 e
   obtain ⟨i1, i2, i3⟩ := ih (x :: r2) (by rw [e]; simp)
   obtain ⟨⟨x1, x2, x3, x4⟩, i2⟩ := i2
   have hge1 := endA_ge r1 a
   have hge2 := endA_ge r2 (endA a r1 + secQ x.2)
   have hend : endA a r = endA (endA a r1 + secQ x.2) r2 := by
    rw [e]
    have : ∀ (p : List (Int × List UInt8)) (b : Int), endA b (p ++ [x] ++ r2) = endA (endA b p + secQ x.2) r2 := by
     intro p
     induction p with
     | nil => intro b; rfl
     | cons y p ih => intro b; exact ih _
    exact this r1 a
   have h4 := h.hfl; have h5 := h.ha; have h7 := h.hend; have h6 := h.hf; have h8 := h.hmax; have h9 := h.hn
   have hrl : r.length = r1.length + (1 + r2.length) := by rw [e]; simp; omega
   have hnx := next_lay h.good h.m1 h.m2 x2 h6 (by omega) x3 (by omega) x4
   have hq := secQ_pos x.2
   have hx : x = (n + (r1.length : Int), x.2) := by rw [← x1]
   refine ⟨?_, ?_, ?_⟩
   ·rw [List.length_append, List.length_singleton, scS, i1, hnx]
    simp only
    rw [endA_snoc, ← hx]
    congr 2
    simp; omega
   ·rw [endA_snoc, List.length_append, List.length_singleton]
    have e2 : n + ((r1.length + 1 : Nat) : Int) = n + (r1.length : Int) + 1 := by omega
    rw [e2]; exact i2
   ·intro j hj
    rw [List.length_append, List.length_singleton] at hj
    rcases Nat.lt_or_ge j r1.length with hj' | hj'
    ·exact i3 j hj'
    ·obtain rfl : j = r1.length := by omega
     unfold stopS
     rw [i1, hnx]
     simp only
     rw [decide_eq_true (by omega : n + (r1.length : Int) ≤ 281474976710655), decide_eq_false (by omega : ¬ secQ x.2 = 0)]
     rfl
 obtain ⟨s1, _, s3⟩ := step r [] (by simp)
 have h4 := h.hfl; have h5 := h.ha; have h7 := h.hend; have h6 := h.hf; have h8 := h.hmax
 have hge := endA_ge r a
 have hno := next_nought h.good h.m1 h.m2 (f := f) (l := l) (a := endA a r) (n := n + r.length) h6 (by omega) (by omega) h.nought
 have hst : stopS S [] (-1) false f l a n r.length = true := by
  unfold stopS
  rw [s1, hno]
  simp
 have hN : scN S [] (-1) false f l a n = r.length := firstN_is (by omega) s3 hst
 unfold scanR
 rw [if_neg (by simp [h.may0]), hN, s1, hno]
 rw [if_neg (by simp)]
theorem LogI.app {S : List (List UInt8)} {m : Nat} {f l a n : Int} {r : List (Int × List UInt8)} (h : LogI S m f l a n r) {d : List UInt8} (hd : d.length ≤ 6000) (hr : roomL l (endA a r) d.length) (hmx : n + r.length + 1 ≤ 281474976710655) :
  appR (S, [], -1, false) f l (endA a r) (n + r.length) d = ((appS S [] (f + endA a r) (secQ d).toNat (layF (n + r.length) d), [], -1, false), (f, l, endA a r + secQ d, n + r.length + 1), 0) ∧
  LogI (appS S [] (f + endA a r) (secQ d).toNat (layF (n + r.length) d)) m f l a n (r ++ [(n + r.length, d)]) := by
 have hlen := h.good.1.1
 have hge := endA_ge r a
 have h1 := h.m1; have h2 := h.hf; have h3 := h.hl; have h4 := h.hfl; have h5 := h.ha; have h6 := h.hn; have h7 := h.hend; have h8 := h.hmax
 have hm := h.may
 have hmf : mayF (n + r.length) d := ⟨by omega, by omega, by omega⟩
 have hsI : secI (d.length : Int) = secQ d := by unfold secI; rw [if_pos (by omega)]; rfl
 obtain ⟨q1, q2, q3, q4, q5⟩ := id hr
 rw [hsI] at q1 q5
 have hll := layF_len (n + r.length) d
 have hqt : ((secQ d).toNat : Int) = secQ d := by omega
 have hqn : (secQ d).toNat = (d.length + 83) / 64 := by unfold secQ; rfl
 obtain ⟨g1, g2⟩ := app_good h.good h.m1 h.m2 (at_ := f + endA a r) (q := (secQ d).toNat) (B := layF (n + r.length) d) (by rw [hll, hqn]) (by omega) (by omega) (by omega)
 rw [hqt] at g1
 have hE : appE (S, [], -1, false) f l (endA a r) (n + r.length) d = 0 := by unfold appE; rw [if_neg (by simp [hm, hmf]), if_neg (by simp [hr])]
 refine ⟨by unfold appR; rw [if_neg (by simp [hE]), g1, if_neg (by simp)], ?_⟩
 have hat : f + endA a r = (((f + endA a r).toNat : Nat) : Int) := by omega
 have hget := appS_get (S := S) (at_ := (f + endA a r).toNat) (q := (secQ d).toNat) (B := layF (n + r.length) d) (by omega) (by omega)
 rw [← hat] at hget
 refine ⟨g2, h1, h.m2, h2, h3, h4, h5, h6, ?_, ?_, ?_, ?_⟩
 ·refine laid_snoc r a n _ (laid_same h2 r a n h5 (fun t ht => ?_) h.laid) ⟨rfl, hmf, hr, ?_⟩
  ·rw [hget t, if_neg (by omega), if_neg (by omega)]
  ·show readS _ [] (f + endA a r).toNat (secQ d).toNat = layF (n + r.length) d
   rw [read_chunks (B := layF (n + r.length) d) _ (fun t ht => by
    rw [hget, if_pos ⟨by omega, by omega⟩, Nat.add_sub_cancel_left])]
   rw [List.take_of_length_le (by omega)]
 ·rw [endA_snoc]; simp only; omega
 ·rw [endA_snoc, hget]
  simp only
  rw [if_neg (by omega), if_pos (by omega)]
 ·rw [List.length_append, List.length_singleton]; omega
theorem newS_nought (m : Nat) (t : Nat) (h : t < m) : (newS m)[t]? = some nought64 := by
 unfold newS
 rw [List.getElem?_replicate, if_pos h]
 rfl
theorem LogI.new {m : Nat} {f l n : Int} (h1 : 1 ≤ m) (h2 : m ≤ 4096) (hf : 0 ≤ f) (hl : 2 ≤ l) (hfl : f + l ≤ m) (hn : 1 ≤ n) (hmx : n ≤ 281474976710655) : LogI (newS m) m f l 0 n [] :=
 ⟨new_good m, h1, h2, hf, hl, hfl, by omega, hn, trivial, by simp [endA]; omega, by rw [newS_nought]; simp [endA]; omega, by simpa using hmx⟩
end Go.Val.Ytlfnmgmbmgacgaa
