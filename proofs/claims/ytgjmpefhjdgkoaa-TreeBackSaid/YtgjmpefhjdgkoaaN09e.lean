/- Chapter 09: a tree's pages, level by level: what they are, as data; lists cloned, walked. -/
import Derived.Test.YtgjmpefhjdgkoaaN09d
namespace Go.Val
theorem LeL.append {a b c d : List DV} (h : LeL a b) (k : LeL c d) (hl : a.length = b.length) : LeL (a ++ c) (b ++ d) := by
 intro G σ w vs hv
 have hlen := hv.1
 have h1 := h G σ w (vs.take a.length) (by
  have := hv.take a.length
  rwa [List.take_left] at this)
 have h2 := k G σ w (vs.drop a.length) (by
  have := hv.drop a.length
  rwa [List.drop_left] at this)
 have := h1.append h2
 rwa [List.take_append_drop] at this
theorem flat_le : ∀ {xs ys : List DV}, xs.length = ys.length → (∀ (i : Nat) (x y : DV), xs[i]? = some x → ys[i]? = some y → x.cells.length = y.cells.length ∧ LeL x.cells y.cells) → LeL (flat xs) (flat ys) ∧ (flat xs).length = (flat ys).length
 | [], [], _, _ => ⟨LeL.refl _, rfl⟩
 | x :: xs, y :: ys, h, hc => by
  obtain ⟨h1, h2⟩ := hc 0 x y rfl rfl
  obtain ⟨h3, h4⟩ := flat_le (xs := xs) (ys := ys) (by simpa using h) (fun i a b ha hb => hc (i + 1) a b (by simpa using ha) (by simpa using hb))
  have e : ∀ (z : DV) zs, flat (z :: zs) = z.cells ++ flat zs := fun z zs => by simp [flat]
  rw [e, e]
  exact ⟨h2.append h3 h1, by simp [h1, h4]⟩
 | [], y :: ys, h, _ => by simp at h
 | x :: xs, [], h, _ => by simp at h
theorem Le.slA {xs ys : List DV} (hl : xs.length = ys.length) (hc : ∀ (i : Nat) (x y : DV), xs[i]? = some x → ys[i]? = some y → x.cells.length = y.cells.length ∧ LeL x.cells y.cells) : Le (.sl xs) (.sl ys) := by
 obtain ⟨h1, h2⟩ := flat_le hl hc
 intro G σ w v h
 cases h with
 | sl _ A n c st b o vs hn hc' hA hst hm hr =>
  refine .sl ys A n c st b o vs (by rw [hn, hl]) hc' ?_ (fun y hy => ?_) (fun i hi => hm i (by rw [h2]; exact hi)) (fun i d hd => ?_)
  ·rcases hA with rfl | hA
   ·exact .inl (List.length_eq_zero_iff.1 hl.symm)
   ·exact .inr hA
  ·obtain ⟨i, hi, rfl⟩ := List.getElem_of_mem hy
   have hx := List.getElem?_eq_getElem (by omega : i < xs.length)
   rw [← (hc i _ _ hx (List.getElem?_eq_getElem hi)).1]
   exact hst _ (List.getElem_mem _)
  ·have hil := (List.getElem?_eq_some_iff.1 hd).1
   have hrl : RelL G σ w (flat xs) ((List.range (flat xs).length).map vs) := ⟨by simp, fun j c v hj hv => by
    have hjl := (List.getElem?_eq_some_iff.1 hj).1
    rw [List.getElem?_map, List.getElem?_range hjl] at hv
    simp only [Option.map_some, Option.some.injEq] at hv
    subst hv
    exact hr j c hj⟩
   have := (h1 _ _ _ _ hrl).2 i d (vs i) hd (by rw [List.getElem?_map, List.getElem?_range (by rw [h2]; exact hil)]; rfl)
   exact this
theorem Pure_ans {P : Program} {f : FuncId} {args : List DV} {d d' : DV} (h : Pure P f args d) (hle : Le d d') : Pure P f args d' := by
 intro σ w0 G vs w hS hr
 refine (h σ w0 G vs w hS hr).mono ?_
 rintro e w' ⟨v, r, σ', G', he, ⟨rfl, rfl⟩, h1, h2, h3⟩
 exact ⟨v, _, _, G', he, ⟨rfl, rfl⟩, h1, h2, hle _ _ _ _ h3⟩
end Go.Val
namespace Go.Val.Ytgjmpefhjdgkoaa
open Go Go.Val Go.Proofs Go.Proofs.Ytgjmpefhjdgkoaa
attribute [local irreducible] Ev EvD EvC thenQ blockQ RoundG RetQ
set_option maxRecDepth 100000
set_option maxHeartbeats 4000000
set_option linter.unusedSimpArgs false
set_option linter.unusedVariables false
abbrev NodeB := List PairB × List (List UInt8) × List Int
def nodeD3 (x : NodeB) : DV := nodeD x.1 x.2.1 x.2.2
def nodesD (N : List NodeB) : List DV := N.map nodeD3
theorem nodesD_len (N : List NodeB) : (nodesD N).length = N.length := by simp [nodesD]
theorem nodesD_three (N : List NodeB) : (∀ x ∈ nodesD N, x.cells.length = 3) = True := by
 simp only [eq_iff_iff, iff_true]
 intro x hx
 obtain ⟨p, _, rfl⟩ := List.mem_map.1 hx
 rfl
theorem nodesD_named (r b m : Nat) (N : List NodeB) : nameds r b m (nodesD N) = true := by
 rw [nameds_iff]; intro x hx; obtain ⟨p, _, rfl⟩ := List.mem_map.1 hx
 simp [nodeD3, nodeD, DV.named, nameds, pairsD_named, strsD_named, kidsD_named]
attribute [go_sem] nodesD_len nodesD_three nodesD_named
def pcl (P : List PairB) (i : Nat) : List PairB := (P.drop (5 * i)).take 5
theorem pcN_pcl (P : List PairB) (i : Nat) : pcN (pairsD P) 5 i = pairsD (pcl P i) := by simp [pcN, pcl, pairsD, List.map_take, List.map_drop]
def keyAt (P : List PairB) (i : Nat) : List UInt8 := (P.getD i ([], [])).1
def leaves (P : List PairB) (k : Nat) : List NodeB := (List.range k).map fun i => (pcl P i, [], [])
def level0 (P : List PairB) (k : Nat) : List PartB := (List.range k).map fun i => (i, keyAt P (5 * i))
def grp (lv : List PartB) (i : Nat) : List PartB := (lv.drop (stG lv.length i)).take (stG lv.length (i + 1) - stG lv.length i)
theorem pcG_grp (lv : List PartB) (i : Nat) : pcG (prtsD lv) i = prtsD (grp lv i) := by simp [pcG, grp, prtsD, List.map_take, List.map_drop]
def keysG (q : List PartB) : List (List UInt8) := (q.drop 1).map (·.2)
def kidsG (q : List PartB) : List Int := q.map fun x => (x.1 : Int)
def nodesG (lv : List PartB) (k : Nat) : List NodeB := (List.range k).map fun i => ([], keysG (grp lv i), kidsG (grp lv i))
def partsG (n : Nat) (lv : List PartB) (k : Nat) : List PartB := (List.range k).map fun i => (n + i, ((grp lv i).getD 0 (0, [])).2)
def bst (P : List PairB) : Nat → List NodeB × List PartB
 | 0 => (leaves P (nL P.length), level0 P (nL P.length))
 | r + 1 => ((bst P r).1 ++ nodesG (bst P r).2 (pcM (bst P r).2.length 8), partsG (bst P r).1.length (bst P r).2 (pcM (bst P r).2.length 8))
def bldT (P : List PairB) : List NodeB := (bst P (rdC (nL P.length))).1
def bldR (P : List PairB) : List NodeB × Nat := if mayT P = false then ([], 1) else if 200 < pagesT P.length then ([], 9) else (bldT P, 0)
theorem bst_len (P : List PairB) : ∀ r, (bst P r).2.length = lvN (nL P.length) r
 | 0 => by simp [bst, level0, lvN]
 | r + 1 => by
  have := bst_len P r
  simp only [bst, partsG, List.length_map, List.length_range, this, lvN, pcM]
  omega
theorem bst_all (P : List PairB) : ∀ r, (bst P r).1.length = sumL (nL P.length) r
 | 0 => by simp [bst, leaves, sumL]
 | r + 1 => by
  have h1 := bst_all P r
  have h2 := bst_len P r
  simp only [bst, nodesG, List.length_append, List.length_map, List.length_range, h1, h2, sumL, lvN, pcM]
  omega
def leafX (Q : List PairB) : DV := .agg [.sl (pairsD Q), .slt [], .slt []]
def innX (q : List PartB) : DV := .agg [.slt [], .sl (strsD (keysG q)), .sl (kidsD (kidsG q))]
def leavesX (P : List PairB) (k : Nat) : List DV := (List.range k).map fun i => leafX (pcl P i)
def nodesGX (lv : List PartB) (k : Nat) : List DV := (List.range k).map fun i => innX (grp lv i)
def bstX (P : List PairB) : Nat → List DV
 | 0 => leavesX P (nL P.length)
 | r + 1 => bstX P r ++ nodesGX (bst P r).2 (pcM (bst P r).2.length 8)
theorem leavesX_len (P : List PairB) (k : Nat) : (leavesX P k).length = k := by simp [leavesX]
theorem nodesGX_len (lv : List PartB) (k : Nat) : (nodesGX lv k).length = k := by simp [nodesGX]
theorem bstX_len (P : List PairB) : ∀ r, (bstX P r).length = (bst P r).1.length
 | 0 => by simp [bstX, bst, leavesX, leaves]
 | r + 1 => by simp [bstX, bst, bstX_len P r, nodesGX, nodesG]
theorem leavesX_named (a b c : Nat) (P : List PairB) (k : Nat) : nameds a b c (leavesX P k) = true := by
 rw [nameds_iff]; intro x hx; obtain ⟨i, _, rfl⟩ := List.mem_map.1 hx
 simp [leafX, DV.named, nameds, pairsD_named]
theorem nodesGX_named (a b c : Nat) (lv : List PartB) (k : Nat) : nameds a b c (nodesGX lv k) = true := by
 rw [nameds_iff]; intro x hx; obtain ⟨i, _, rfl⟩ := List.mem_map.1 hx
 simp [innX, DV.named, nameds, strsD_named, kidsD_named]
theorem bstX_named (a b c : Nat) (P : List PairB) : ∀ r, nameds a b c (bstX P r) = true
 | 0 => leavesX_named a b c P _
 | r + 1 => by rw [bstX, nameds_append, bstX_named a b c P r, nodesGX_named]; rfl
theorem leavesX_snoc (P : List PairB) (i : Nat) : leavesX P i ++ [leafX (pcl P i)] = leavesX P (i + 1) := by simp [leavesX, List.range_succ]
theorem nodesGX_snoc (lv : List PartB) (i : Nat) : nodesGX lv i ++ [innX (grp lv i)] = nodesGX lv (i + 1) := by simp [nodesGX, List.range_succ]
theorem level0_snoc (P : List PairB) (i : Nat) : prtsD (level0 P i) ++ [.agg [.int .i64 (i : Int), .str (keyAt P (5 * i))]] = prtsD (level0 P (i + 1)) := by simp [prtsD, level0, List.range_succ, prtD]
theorem partsG_snoc (n : Nat) (lv : List PartB) (i : Nat) : prtsD (partsG n lv i) ++ [.agg [.int .i64 ((n + i : Nat) : Int), .str ((grp lv i).getD 0 (0, [])).2]] = prtsD (partsG n lv (i + 1)) := by simp [prtsD, partsG, List.range_succ, prtD]
theorem level0_len (P : List PairB) (k : Nat) : (level0 P k).length = k := by simp [level0]
theorem partsG_len (n : Nat) (lv : List PartB) (k : Nat) : (partsG n lv k).length = k := by simp [partsG]
theorem inn_le (q : List PartB) : LeL (innX q).cells (nodeD3 ([], keysG q, kidsG q)).cells := .cons (.sl _) (.cons (.refl _) (.cons (.refl _) .nil))
theorem leaf_le (Q : List PairB) : LeL (leafX Q).cells (nodeD3 (Q, [], [])).cells := .cons (.refl _) (.cons (.sl _) (.cons (.sl _) .nil))
theorem bst_cells (P : List PairB) : ∀ (r i : Nat) (x y : DV), (bstX P r)[i]? = some x → (nodesD (bst P r).1)[i]? = some y → x.cells.length = y.cells.length ∧ LeL x.cells y.cells
 | 0, i, x, y, hx, hy => by
  simp only [bstX, leavesX, List.getElem?_map, bst, leaves, nodesD, List.map_map] at hx hy
  cases hr : (List.range (nL P.length))[i]? with
  | none => rw [hr] at hx; simp at hx
  | some k =>
   rw [hr] at hx hy
   simp only [Option.map_some, Option.some.injEq, Function.comp] at hx hy
   subst hx; subst hy
   exact ⟨rfl, leaf_le _⟩
 | r + 1, i, x, y, hx, hy => by
  have hlen := bstX_len P r
  simp only [bstX, bst, nodesD, List.map_append] at hx hy
  by_cases h : i < (bstX P r).length
  ·rw [List.getElem?_append_left h] at hx
   rw [List.getElem?_append_left (by simpa [hlen] using h)] at hy
   exact bst_cells P r i x y hx hy
  ·rw [List.getElem?_append_right (by omega)] at hx
   rw [List.getElem?_append_right (by simp only [List.length_map]; omega), List.length_map, ← hlen] at hy
   simp only [nodesGX, List.getElem?_map, nodesG, List.map_map] at hx hy
   cases hr : (List.range (pcM (bst P r).2.length 8))[i - (bstX P r).length]? with
   | none => rw [hr] at hx; simp at hx
   | some k =>
    rw [hr] at hx hy
    simp only [Option.map_some, Option.some.injEq, Function.comp] at hx hy
    subst hx; subst hy
    exact ⟨rfl, inn_le _⟩
theorem bst_le (P : List PairB) (r : Nat) : Le (.sl (bstX P r)) (.sl (nodesD (bst P r).1)) := Le.slA (by rw [bstX_len, nodesD_len]) (bst_cells P r)
attribute [go_sem] leavesX_len nodesGX_len leavesX_named nodesGX_named bstX_named level0_len partsG_len
theorem pairsD_c1 (σ : Store) (Q : List PairB) : AllC σ (pairsD Q) = True := by
 simp only [AllC, eq_iff_iff, iff_true]; intro c hc
 simp only [pairsD, flat, List.flatMap_map, List.mem_flatMap] at hc
 obtain ⟨x, _, h⟩ := hc
 simp only [pairD, DV.cells, List.mem_cons, List.not_mem_nil, or_false] at h
 rcases h with rfl | rfl <;> trivial
theorem prtsD_c1 (σ : Store) (Q : List PartB) : AllC σ (prtsD Q) = True := by
 simp only [AllC, eq_iff_iff, iff_true]; intro c hc
 simp only [prtsD, flat, List.flatMap_map, List.mem_flatMap] at hc
 obtain ⟨x, _, h⟩ := hc
 simp only [prtD, DV.cells, List.mem_cons, List.not_mem_nil, or_false] at h
 rcases h with rfl | rfl <;> trivial
theorem c_slices_Clone_s_api_Pair_api_Pair (Q : List PairB) (hC : Q.length ≤ 1000000) : Pure Try.prog n_slices_Clone_s_api_Pair_api_Pair [.sl (pairsD Q)] (.sl (pairsD Q)) := by
 refine Pure.go tok (rs := [.tmp 2]) [.sl (pairsD Q), .undef, .undef, .undef, .undef, .undef, .undef, .undef] Try.func46 (fun σ => ?_)
 repeat' (first | (show Ev _ _ _ _; first | refine Ev_seq ?_ | refine W_reg ?_ | refine W_ifB (fun h => ?_) (fun h => ?_) | refine Ev_skip ?_ | refine Ev_ret ?_) | (show EvD _ _ [] _ _ _; refine W_nil ?_) | (show EvD _ _ (_ :: _) _ _ _; first | refine W_run tok ?_ ?_ (by simp (maxSteps := 1000000) (disch := omega) only [go_sem, wrap_i64_id]; with_reducible exact rfl) | refine W_isnil tok (fun qn hqn => ?_)) | (show RetQ _ _ (RP _ _) _ _; refine R_ret ?_ ?_) | (show FrzTo _ _ _ _; first | refine F_row ?_ | refine F_weak ?_) | refine Q_thenN ?_ | refine Q_thenR ?_ | fail)
 all_goals (try exact sd)
 all_goals (try refine F_done ?_)
 ·rw [hqn h]
 ·rfl
 ·exact ⟨of_eq_true (pairsD_two Q), of_eq_true (pairsD_c1 σ Q), by omega⟩
instance i_slices_Clone_s_api_Pair_api_Pair (Q : List PairB) : Con Try.prog 46 [.sl (pairsD Q)] (Q.length ≤ 1000000) (.sl (pairsD Q)) := ⟨c_slices_Clone_s_api_Pair_api_Pair Q ⟩
end Go.Val.Ytgjmpefhjdgkoaa
