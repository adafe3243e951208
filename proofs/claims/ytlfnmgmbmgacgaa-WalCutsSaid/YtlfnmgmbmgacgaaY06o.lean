/- Chapter 06: the statement of cuts of the power, walked (printed by mk_y06o.py). -/
import Derived.Test.YtlfnmgmbmgacgaaY06n
import Derived.Test.YtlfnmgmbmgacgaaX06z
import Derived.Test.YtlfnmgmbmgacgaaVM6
namespace Go.Val.Ytlfnmgmbmgacgaa
open Go Go.Val Go.Proofs Go.Proofs.Ytlfnmgmbmgacgaa
attribute [local irreducible] Ev EvD EvC thenQ blockQ RoundG RetQ
set_option maxRecDepth 100000
set_option maxHeartbeats 4000000
set_option linter.unusedSimpArgs false
set_option linter.unusedVariables false
theorem tupE6 {a b : DV} {x y : Int} (h : a = b) (hx : x = y) : DV.tup [a, .int .i64 x] = .tup [b, .int .i64 y] := by rw [h, hx]
theorem diskE6 {S S' : List (List UInt8)} {W W' : List (Int × List UInt8)} {L L' : Int} {O O' : Bool} (h1 : S = S') (h2 : W = W') (h3 : L = L') (h4 : O = O') : diskD S W L O = diskD S' W' L' O' := by rw [h1, h2, h3, h4]
theorem bytes_getD {l : List UInt8} {i : Nat} (h : i < l.length) : (bytes l).getD i .undef = .int .u8 ((l.getD i 0).toNat : Int) := by
 simp [bytes, List.getD_eq_getElem?_getD, List.getElem?_map, List.getElem?_eq_getElem h]
def keepsD (ks : List (List Bool)) : List DV := ks.map fun k => .sl (boolsD k)
theorem keepsD_len (ks : List (List Bool)) : (keepsD ks).length = ks.length := by simp [keepsD]
theorem keepsD_get {ks : List (List Bool)} {i : Nat} (h : i < ks.length) : (keepsD ks).getD i .undef = .sl (boolsD (ks.getD i [])) := by
 simp [keepsD, List.getD_eq_getElem?_getD, List.getElem?_map, List.getElem?_eq_getElem h]
theorem keepsD_named (a b c : Nat) (ks : List (List Bool)) : nameds a b c (keepsD ks) = true := by
 rw [nameds_iff]; intro x hx; obtain ⟨k, _, rfl⟩ := List.mem_map.1 hx
 simp only [DV.named, boolsD_named]
attribute [go_sem] keepsD_len keepsD_named
abbrev Cst := List (List UInt8) × Int × List (Int × List UInt8) × Nat
def kpN (ks : List (List Bool)) (i : Nat) : List Bool := if i < ks.length then ks.getD i [] else []
def budN (bd : List UInt8) (L : Int) (i : Nat) : Int := if i < bd.length then (((bd.getD i 0).toNat % 12 : Nat) : Int) else L
def cstep (t : Cst) (L0 : Int) (d : List UInt8) (k : List Bool) : Cst :=
 if (appR (t.1, [], L0, false) 2 16 (endA 0 t.2.2.1) (1 + t.2.2.1.length) d).2.2 = 0 then
  ((appR (t.1, [], L0, false) 2 16 (endA 0 t.2.2.1) (1 + t.2.2.1.length) d).1.1, (appR (t.1, [], L0, false) 2 16 (endA 0 t.2.2.1) (1 + t.2.2.1.length) d).1.2.2.1, t.2.2.1 ++ [(1 + (t.2.2.1.length : Int), d)], t.2.2.2)
 else if (appR (t.1, [], L0, false) 2 16 (endA 0 t.2.2.1) (1 + t.2.2.1.length) d).2.2 = 10 then
  (crashS (appR (t.1, [], L0, false) 2 16 (endA 0 t.2.2.1) (1 + t.2.2.1.length) d).1.1 (appR (t.1, [], L0, false) 2 16 (endA 0 t.2.2.1) (1 + t.2.2.1.length) d).1.2.1 k, -1,
   (scanR (crashS (appR (t.1, [], L0, false) 2 16 (endA 0 t.2.2.1) (1 + t.2.2.1.length) d).1.1 (appR (t.1, [], L0, false) 2 16 (endA 0 t.2.2.1) (1 + t.2.2.1.length) d).1.2.1 k) [] (-1) false 2 16 0 1).1, t.2.2.2 + 1)
 else (t.1, L0, t.2.2.1, t.2.2.2)
def cst (ls : List (List UInt8)) (bd : List UInt8) (ks : List (List Bool)) : Nat → Cst
 | 0 => (newS 20, -1, [], 0)
 | i + 1 => cstep (cst ls bd ks i) (budN bd (cst ls bd ks i).2.1 i) (few6 (ls.getD i [])) (kpN ks i)
theorem budN_ge {bd : List UInt8} {L : Int} (h : -1 ≤ L ∧ L ≤ 11) (i : Nat) : -1 ≤ budN bd L i ∧ budN bd L i ≤ 11 := by
 unfold budN; split <;> omega
inductive App (S : List (List UInt8)) (r : List (Int × List UInt8)) (L0 : Int) (d : List UInt8) (X : Dk × (Int × Int × Int × Int) × Int) : Prop
 | ok (S' : List (List UInt8)) (L' : Int) (hX : X = ((S', [], L', false), (2, 16, endA 0 r + secQ d, 1 + (r.length : Int) + 1), 0)) (h : LogI S' 20 2 16 0 1 (r ++ [(1 + (r.length : Int), d)])) (h1 : -1 ≤ L') (h2 : L' ≤ L0) : App S r L0 d X
 | no (e : Int) (h0 : e ≠ 0) (h10 : e ≠ 10) (hX : X = (zeroK, zeroL, e)) : App S r L0 d X
 | cut (Sx : List (List UInt8)) (Wx : List (Int × List UInt8)) (Lx : Int) (hX : X = ((Sx, Wx, Lx, true), zeroL, 10)) (h1 : -1 ≤ Lx) (hg : goodS Sx Wx 20) (hl : Wx.length ≤ 200) (h : ∀ keep, LogI (crashS Sx Wx keep) 20 2 16 0 1 r ∨ LogI (crashS Sx Wx keep) 20 2 16 0 1 (r ++ [(1 + (r.length : Int), d)])) : App S r L0 d X
theorem app_cases {S : List (List UInt8)} {r : List (Int × List UInt8)} (h : LogI S 20 2 16 0 1 r) (hr : r.length ≤ 12) {d : List UInt8} (hd : d.length ≤ 6001) {L0 : Int} (hL : -1 ≤ L0) : App S r L0 d (appR (S, [], L0, false) 2 16 (endA 0 r) (1 + r.length) d) := by
 obtain ⟨-, m2, m3, m4, m5, m6, m7, m8, m9⟩ := h.may
 have hm : mayL S [] L0 2 16 (endA 0 r) (1 + r.length) := ⟨good_may h.good h.m1 h.m2 hL, m2, m3, m4, m5, m6, m7, m8, m9⟩
 by_cases h6 : d.length ≤ 6000
 ·have hmf : mayF (1 + r.length) d := ⟨by omega, by omega, by omega⟩
  by_cases hrm : roomL 16 (endA 0 r) d.length
  ·rcases h.any h6 hrm (by omega) hL with ⟨L', a, b, c⟩ | ⟨Sx, Wx, Lx, a, b, c, e, f, g⟩
   ·exact .ok _ _ c (h.app h6 hrm (by omega)).2 a b
   ·exact .cut _ _ _ a b e f g
  ·have hE : appE (S, [], L0, false) 2 16 (endA 0 r) (1 + r.length) d = 9 := by unfold appE; rw [if_neg (by simp [hm, hmf]), if_pos hrm]
   exact .no 9 (by decide) (by decide) (by unfold appR; rw [if_pos (by simp [hE]), hE])
 ·have hE : appE (S, [], L0, false) 2 16 (endA 0 r) (1 + r.length) d = 1 := by unfold appE; rw [if_pos (.inr fun h => by have := h.2.2; omega)]
  exact .no 1 (by decide) (by decide) (by unfold appR; rw [if_pos (by simp [hE]), hE])
theorem cst_log (ls : List (List UInt8)) (bd : List UInt8) (ks : List (List Bool)) : ∀ i, i ≤ 12 → LogI (cst ls bd ks i).1 20 2 16 0 1 (cst ls bd ks i).2.2.1 ∧ (-1 ≤ (cst ls bd ks i).2.1 ∧ (cst ls bd ks i).2.1 ≤ 11) ∧ (cst ls bd ks i).2.2.1.length ≤ i ∧ (cst ls bd ks i).2.2.2 ≤ i
 | 0, _ => ⟨LogI.new (by omega) (by omega) (by omega) (by omega) (by omega) (by omega) (by omega), by simp [cst], by simp [cst], by simp [cst]⟩
 | i + 1, hi => by
  obtain ⟨h1, h2, h3, h4⟩ := cst_log ls bd ks i (by omega)
  have hb := budN_ge (bd := bd) h2 i
  have hc := app_cases h1 (by omega) (few6_le (ls.getD i [])) hb.1
  rw [cst]
  unfold cstep
  cases hc with
  | ok S' L' hX h a b =>
   rw [hX, if_pos rfl]
   exact ⟨h, ⟨a, by simp only; omega⟩, by simp only [List.length_append, List.length_singleton]; omega, by simp only; omega⟩
  | no e h0 h10 hX =>
   rw [hX, if_neg h0, if_neg h10]
   exact ⟨h1, hb, by simp only; omega, by simp only; omega⟩
  | cut Sx Wx Lx hX a hg hl h =>
   rw [hX, if_neg (by simp), if_pos rfl]
   rcases h (kpN ks i) with h | h
   ·rw [h.scan]
    exact ⟨h, by simp, by simp only; omega, by simp only; omega⟩
   ·rw [h.scan]
    exact ⟨h, by simp, by simp only [List.length_append, List.length_singleton]; omega, by simp only; omega⟩
def rowsC (t : Cst) : List (Option Row) := List.replicate t.2.2.2 none ++ [some ⟨pends t.2.2.1, 46, 2⟩]
theorem rowsC_all (t : Cst) (a b c : Nat) : ∀ x ∈ rowsC t, ∀ R, x = some R → nameds a b c R.xs = true := by
 intro x hx R hR
 rcases List.mem_append.1 hx with h | h
 ·rw [List.eq_of_mem_replicate h] at hR; cases hR
 ·rw [List.mem_singleton.1 h] at hR
  injection hR with hR
  rw [← hR]; exact pends_named _ _ _ _
theorem rowsC_len (t : Cst) : (rowsC t).length = t.2.2.2 + 1 := by simp [rowsC]
theorem rows_turn (c : Nat) (l : List (Option Row)) : List.replicate c (none : Option Row) ++ (none :: l) = List.replicate (c + 1) none ++ l := by
 rw [List.replicate_succ', List.append_assoc]; rfl
theorem D_startF {P : Program} {l : List Oper} {dsts : List (Option Tmp)} {s : List DV} {σ : Store} {Q : Exit → St → Prop} {id : Nat} (f : List Bool) (hm : P.follows .mixedOrders = true) (h : DrD P (EB σ.boxes σ.maps) dsts l f s σ (fun s τ => Q .normal ⟨s, τ⟩))
  (hd : l.map (·.dst) = dsts := by simp only [List.map_cons, List.map_nil]; exact rfl) (hf : fit l f = true := by decide +kernel) : Ev P (.region id l.toArray true) ⟨s, σ⟩ Q := Ev_drawD hm f _ hd hf h
def logB (r : List (Int × List UInt8)) : List DV := [.int .i64 2, .int .i64 16, .int .i64 (endA 0 r), .int .i64 (1 + (r.length : Int))]
theorem c_bursarlaw06_WalCuts (ls : List (List UInt8)) (bd : List UInt8) (ks : List (List Bool)) (hC : ls.length ≤ 140737488355328 ∧ bd.length ≤ 140737488355328 ∧ ks.length ≤ 140737488355328) : Pure Try.prog n_bursarlaw06_WalCuts [.sl (secs ls), .sl (bytes bd), .sl (keepsD ks)] (.bool true) := by
 refine Pure.go tok (rs := [.tmp 6]) [.sl (secs ls), .sl (bytes bd), .sl (keepsD ks), .undef, .undef, .undef, .undef, .undef, .undef, .undef, .undef, .undef, .undef, .undef, .undef, .undef, .undef, .undef, .undef, .undef, .undef, .undef, .undef, .undef, .undef, .undef, .undef, .undef, .undef, .undef, .undef, .undef, .undef, .undef, .undef, .undef, .undef, .undef, .undef, .undef, .undef, .undef, .undef, .undef, .undef, .undef, .undef, .undef, .undef, .undef, .undef, .undef, .undef, .undef, .undef, .undef, .undef, .undef, .undef, .undef, .undef, .undef, .undef, .undef, .undef, .undef, .undef, .undef, .undef, .undef, .undef, .undef, .undef, .undef, .undef, .undef, .undef, .undef, .undef, .undef, .undef, .undef, .undef, .undef, .undef, .undef, .undef, .undef, .undef, .undef, .undef, .undef, .undef, .undef, .undef, .undef, .undef, .undef, .undef, .undef, .undef, .undef, .undef, .undef, .undef, .undef, .undef, .undef, .undef, .undef, .undef, .undef, .undef, .undef, .undef, .undef, .undef, .undef, .undef, .undef, .undef, .undef, .undef, .undef, .undef, .undef, .undef, .undef, .undef, .undef, .undef, .undef, .undef, .undef, .undef, .undef, .undef, .undef, .undef, .undef, .undef, .undef, .undef, .undef, .undef, .undef, .undef, .undef] Try.func6 (fun σ => ?_)
 obtain ⟨hl1, hl2, hl3⟩ := hC
 obtain ⟨N, hN⟩ : ∃ N, N = min ls.length 12 := ⟨_, rfl⟩
 have hN9 : N ≤ 12 ∧ N ≤ ls.length := by omega
 have hNm : N < 12 → N = ls.length := by omega
 clear hN
 have hlog := fun i (hi : i ≤ N) => cst_log ls bd ks i (by omega)
 have iS : Con Try.prog 18 [.int .i64 20] True (diskD (newS 20) [] (-1) false) := con_eq (i_bursarlaw06_some 20) (by omega) rfl
 have hsl := secs_len ls
 have hbl := bytes_len bd
 have hkl := keepsD_len ks
 repeat' (first | (show Ev _ _ _ _; first | refine Ev_seq ?_ | refine W_reg ?_ | refine Ev_block ?_) | (show EvD _ _ [] _ _ _; refine W_nil ?_) | (show EvD _ _ (_ :: _) _ _ _; first | refine W_run tok ?_ ?_ (by simp (maxSteps := 1000000) (disch := omega) only [go_sem, wrap_i64_id]; with_reducible exact rfl) | refine W_callee ?_) | (show EvC _ _ _ _ _ _ _ _ _; refine W_con ?_ ?_) | refine Q_thenN ?_ | fail)
 all_goals (try exact sd)
 all_goals (try refine F_done ?_)
 refine Ev_seed 10 46 2 rfl (by decide) (by simp only [List.set_cons_succ, List.set_cons_zero]; exact rfl) ?_
 refine Ev_lp (N) (fun i => [(11, i64 i), (10, .row (σ.rows.length + (cst ls bd ks i).2.2.2) (cst ls bd ks i).2.2.1.length)]) (fun i => ⟨σ.rows ++ rowsC (cst ls bd ks i), σ.boxes ++ [some ⟨25, [.sl (secs (cst ls bd ks i).1), .sl (pends []), .int .i64 (cst ls bd ks i).2.1, .bool false]⟩, some ⟨27, [.int .i64 2, .int .i64 16, .int .i64 0, .int .i64 1]⟩, some ⟨27, logB (cst ls bd ks i).2.2.1⟩], σ.maps⟩) [6, 12, 13, 14, 15, 16, 17, 18, 19, 20, 21, 22, 29, 30, 31, 32, 33, 34, 35, 36, 37, 38, 39, 40, 41, 42, 43, 44, 45, 46, 47, 48, 49, 50, 51, 52, 53, 54, 55, 56, 57, 58, 59, 60, 61, 62, 63, 64, 65, 66, 67, 68, 69, 70, 71, 72, 73, 74, 75, 76, 77, 78, 79, 80, 81, 82, 83, 84, 85, 86, 87, 88, 89, 90, 91, 92, 93, 94, 95, 96, 97, 98, 99, 100, 101, 102, 103, 104, 105, 106, 107, 108, 109, 110, 111, 112, 113, 114, 115, 116, 117, 118, 119, 120, 121, 122, 123] ?_ (by simp [cst, rowsC, endA, pends, logB]) (fun i hi => ?_)
 ·exact le1
 obtain ⟨hL, hLb, hrl, hcl⟩ := hlog i hi
 have hs1 : cst ls bd ks (i + 1) = _ := cst.eq_2 ls bd ks i
 generalize hti : cst ls bd ks i = t at *
 obtain ⟨S, L, r, c⟩ := t
 simp only at hL hLb hrl hcl hs1
 have hpl := pends_len r
 have hS20 : S.length = 20 := hL.good.1.1
 have hen := hL.hend
 have hge := endA_ge r 0
 obtain ⟨ρ, hρ⟩ : ∃ ρ, ρ = σ.rows ++ List.replicate c none := ⟨_, rfl⟩
 have hρl : ρ.length = σ.rows.length + c := by rw [hρ]; simp
 have e0 : σ.rows ++ rowsC (S, L, r, c) = ρ ++ [some ⟨pends r, 46, 2⟩] := by rw [hρ, rowsC, List.append_assoc]
 rw [e0, ← hρl]
 simp only [logB]
 by_cases hi' : i < N
 ·have hg := secs_get (S := ls) (i := i) (by omega)
  have hd := few6_le (ls.getD i [])
  have iD := i_bursarlaw06_few (ls.getD i [])
  generalize few6 (ls.getD i []) = d at hd iD hs1
  have hb := budN_ge (bd := bd) hLb i
  have hcs := app_cases hL (by omega) hd hb.1
  have iA : Con Try.prog 10 [diskD S [] (budN bd L i) false, logD 2 16 (endA 0 r) (1 + (r.length : Int)), .sl (bytes d)] True (.tup [dkD (appR (S, [], budN bd L i, false) 2 16 (endA 0 r) (1 + r.length) d).1, lgD (appR (S, [], budN bd L i, false) 2 16 (endA 0 r) (1 + r.length) d).2.1, .int .i64 (appR (S, [], budN bd L i, false) 2 16 (endA 0 r) (1 + r.length) d).2.2]) := ⟨fun _ => c_wal_Append S [] (budN bd L i) false 2 16 (endA 0 r) (1 + r.length) d ⟨⟨by omega, by simp, by omega⟩, by omega⟩⟩
  have hmp : ∀ L : Int, -1 ≤ L → mayP S [] L := fun L h => good_may hL.good (by omega) (by omega) h
  unfold cstep at hs1
  simp only at hs1
  by_cases hbi : i < bd.length
  ·have hb0 : budN bd L i = (((bd.getD i 0).toNat % 12 : Nat) : Int) := by unfold budN; rw [if_pos hbi]
   rw [hb0] at hb hcs iA hs1
   have hgb := bytes_getD hbi
   have hrm : Int.tmod (((bd.getD i 0).toNat : Nat) : Int) 12 = (((bd.getD i 0).toNat % 12 : Nat) : Int) := tmod_nat _ 12
   generalize (bd.getD i 0).toNat % 12 = L0 at hb hcs iA hs1 hrm
   have iB : Con Try.prog 27 [diskD S [] L false, .int .i64 (L0 : Int)] True (.tup [diskD S [] (L0 : Int) false, .int .i64 0]) := con_eq (i_disk_Budget S [] L false L0) ⟨by omega, by simp⟩ (tupE6 (diskE6 (if_pos ⟨hmp L hLb.1, by omega⟩) (if_pos ⟨hmp L hLb.1, by omega⟩) (if_pos ⟨hmp L hLb.1, by omega⟩) (if_pos ⟨hmp L hLb.1, by omega⟩)) (if_pos ⟨hmp L hLb.1, by omega⟩))
   cases hcs with
   | ok S' L' hX h a b =>
    rw [hX] at iA hs1
    rw [if_pos rfl] at hs1
    simp only at hs1
    have iA : Con Try.prog 10 [diskD S [] (L0 : Int) false, logD 2 16 (endA 0 r) (1 + (r.length : Int)), .sl (bytes d)] True (.tup [diskD S' [] L' false, logD 2 16 (endA 0 r + secQ d) (1 + (r.length : Int) + 1), .int .i64 0]) := iA
    have hsn := pends_snoc2 r (1 + (r.length : Int)) d
    have hen2 := endA_snoc r 0 (1 + (r.length : Int), d)
    have hle2 : (1 : Int) + ((r ++ [(1 + (r.length : Int), d)]).length : Int) = 1 + (r.length : Int) + 1 := by simp; omega
    repeat' (first | (show Ev _ _ _ _; first | refine Ev_seq ?_ | (show Ev _ (.region _ _ false) _ _; refine W_reg ?_) | refine Ev_block ?_ | refine W_ifY ?_ | refine Ev_skip ?_) | (show EvD _ _ [] _ _ _; refine W_nil ?_) | (show EvD _ _ (⟨_, _, _, _, _, some _⟩ :: _) _ _ _; refine W_grdY ?_) | (show EvD _ _ (_ :: _) _ _ _; first | refine W_run tok ?_ ?_ (by simp (maxSteps := 1000000) (disch := omega) only [go_sem, wrap_i64_id, hg, hpl, hsl, hgb, hrm]; with_reducible exact rfl) | refine W_callee ?_) | (show EvC _ _ _ _ _ _ _ _ _; refine W_con ?_ ?_) | refine Q_thenN ?_ | fail)
    all_goals (try exact sd)
    all_goals (try refine F_done ?_)
    refine D_startP [] mix ?_
    repeat' (first | (show DrD _ (EP _) _ (_ :: _) _ _ _ _; first | refine D_runLP tok ?_ ?_ (h := by intro R r M; simp (maxSteps := 1000000) (disch := omega) only [go_sem, wrap_i64_id, hg, hpl, hsl, hgb, hrm]; with_reducible exact rfl)) | (show DrD _ _ _ [] _ _ _ _; refine D_nil ?_; try dsimp only) | (show DrD _ _ _ (_ :: _) _ _ _ _; first | refine D_con ?_ ?_ | refine D_store tok ?_ ?_ | refine D_eff tok ?_ ?_) | (show Ev _ _ _ _; first | refine Ev_seq ?_ | (show Ev _ (.region _ _ false) _ _; refine W_reg ?_) | refine W_ifT ?_ | refine W_ifF ?_ | refine Ev_skip ?_) | (show EvD _ _ [] _ _ _; refine W_nil ?_) | (show EvD _ _ (_ :: _) _ _ _; first | refine W_run tok ?_ ?_ (by simp (maxSteps := 1000000) (disch := omega) only [go_sem, wrap_i64_id, hg, hpl, hsl, hgb, hrm]; with_reducible exact rfl) | refine W_callee ?_) | (show EvC _ _ _ _ _ _ _ _ _; refine W_con ?_ ?_) | refine Q_thenN ?_ | fail)
    all_goals (try exact sd)
    all_goals (try refine F_done ?_)
    repeat' (first | (show Ev _ (.region 18 _ true) _ _; refine D_startW2 [9, 21, 49, 51, 54, 65, 68] (fun u v => σ.boxes ++ [u, some ⟨27, [.int .i64 2, .int .i64 16, .int .i64 0, .int .i64 1]⟩, v, some ⟨25, [.sl (secs S), .sl (pends []), .int .i64 (L0 : Int), .bool false]⟩, some ⟨25, [.sl (secs S'), .sl (pends []), .int .i64 L', .bool false]⟩, some ⟨27, [.int .i64 2, .int .i64 16, .int .i64 (endA 0 r + secQ d), .int .i64 (1 + (r.length:Int) + 1)]⟩, some ⟨46, [.int .i64 (1 + (r.length:Int)), .sl (bytes d)]⟩]) mix ?_) | (show DrD _ (EW2 _) _ [] _ _ _ _; refine D_nil ?_ (hE := ⟨_, _, _, _, rfl⟩); try dsimp only) | (show DrD _ (EW2 _) _ (_ :: _) _ _ _ _; first | refine D_runLW2 tok ?_ ?_ (h := by intro R u v M; simp (maxSteps := 1000000) (disch := omega) only [go_sem, wrap_i64_id, hg, hpl, hsl, hgb, hrm, hsn]; with_reducible exact rfl) | refine D_store tok ?_ ?_ (hE := ⟨_, _, _, _, rfl⟩)) | (show Ev _ _ _ _; first | refine W_reg ?_ | refine Ev_exit ?_) | (show EvD _ _ [] _ _ _; refine W_nil ?_) | (show EvD _ _ (_ :: _) _ _ _; first | refine W_run tok ?_ ?_ (by simp (maxSteps := 1000000) (disch := omega) only [go_sem, wrap_i64_id, hg, hpl, hsl, hgb, hrm, hsn]; with_reducible exact rfl)) | refine Q_thenN ?_ | refine Q_thenE ?_ | refine Q_blkE ?_ | fail)
    all_goals (try exact sd)
    all_goals (try refine F_done ?_)
    refine Q_rndC (Rb := σ.rows) (A := σ.boxes) (Mb := σ.maps) (R := rowsC (cst ls bd ks i)) (R' := rowsC (cst ls bd ks (i + 1))) (B := [some ⟨25, [.sl (secs (cst ls bd ks i).1), .sl (pends []), .int .i64 (cst ls bd ks i).2.1, .bool false]⟩, some ⟨27, [.int .i64 2, .int .i64 16, .int .i64 0, .int .i64 1]⟩, some ⟨27, logB (cst ls bd ks i).2.2.1⟩]) (B' := [some ⟨25, [.sl (secs (cst ls bd ks (i + 1)).1), .sl (pends []), .int .i64 (cst ls bd ks (i + 1)).2.1, .bool false]⟩, some ⟨27, [.int .i64 2, .int .i64 16, .int .i64 0, .int .i64 1]⟩, some ⟨27, logB (cst ls bd ks (i + 1)).2.2.1⟩]) (M := []) (M' := []) (mg := []) ?_ (by omega) (by first | rfl | (simp only [List.append_nil]; done) | (simp only [List.append_nil, logB]; done)) (by first | rfl | (simp only [List.append_nil]; done) | (simp only [List.append_nil, logB]; done)) (by rw [hs1]; simp only [rowsC, hρ, hsn, List.append_assoc, List.cons_append, List.nil_append]; exact rfl) (by rw [hs1]; simp only [logB, hen2, hle2, List.append_assoc, List.cons_append, List.nil_append]; exact rfl) (by first | exact rfl | (simp; done)) (by rw [rowsC_len, rowsC_len, hti, hs1]; simp) (by simp) (by simp) (by rw [hs1]; simp [nameds, DV.named, bytes_named, nameds_append, secs_named, pends_named, keepsD_named, rowsC_len] <;> omega) (rowsC_all _ _ _ _) (by rw [hs1]; simp only [logB]; repeat (first | exact allN_nil _ | refine allN_none ?_ | refine allN_some (by first | exact bytes_named _ _ _ _ | (simp [nameds, DV.named, bytes_named, nameds_append, secs_named, pends_named] <;> omega)) ?_)) (by simp)
    repeat (first | exact LeL.nil | refine LeL.cons2 ?_ (Le.undef _) | refine LeL.cons2 ?_ (Le.refl _) | refine LeL.cons2 ?_ (Le.sl _) | refine LeL.cons2 ?_ (Le.eq (by first | rfl | exact congrArg _ (by omega))) | refine LeL.cons2 ?_ (Le.eq ?_))
    all_goals first | (rw [hs1]; simp [hρl]; done) | (rw [hs1, hρl]; exact congrArg (fun z => DV.row z _) (by omega)) | exact ⟨of_eq_true (pends_two _), of_eq_true (pends_c1 _ _), by omega⟩ | trace_state
   | no e h0 h10 hX =>
    rw [hX] at iA hs1
    rw [if_neg h0, if_neg h10] at hs1
    have iA : Con Try.prog 10 [diskD S [] (L0 : Int) false, logD 2 16 (endA 0 r) (1 + (r.length : Int)), .sl (bytes d)] True (.tup [diskD [] [] 0 false, logD 0 0 0 0, .int .i64 e]) := iA
    have z0 : decide (e = 0) = false := decide_eq_false h0
    have z10 : decide (e = 10) = false := decide_eq_false h10
    repeat' (first | (show Ev _ _ _ _; first | refine Ev_seq ?_ | (show Ev _ (.region _ _ false) _ _; refine W_reg ?_) | refine Ev_block ?_ | refine W_ifY ?_ | refine Ev_skip ?_) | (show EvD _ _ [] _ _ _; refine W_nil ?_) | (show EvD _ _ (⟨_, _, _, _, _, some _⟩ :: _) _ _ _; refine W_grdY ?_) | (show EvD _ _ (_ :: _) _ _ _; first | refine W_run tok ?_ ?_ (by simp (maxSteps := 1000000) (disch := omega) only [go_sem, wrap_i64_id, hg, hpl, hsl, hgb, hrm, z0, z10]; with_reducible exact rfl) | refine W_callee ?_) | (show EvC _ _ _ _ _ _ _ _ _; refine W_con ?_ ?_) | refine Q_thenN ?_ | fail)
    all_goals (try exact sd)
    all_goals (try refine F_done ?_)
    refine D_startP [] mix ?_
    repeat' (first | (show DrD _ (EP _) _ (_ :: _) _ _ _ _; first | refine D_runLP tok ?_ ?_ (h := by intro R r M; simp (maxSteps := 1000000) (disch := omega) only [go_sem, wrap_i64_id, hg, hpl, hsl, hgb, hrm, z0, z10]; with_reducible exact rfl)) | (show DrD _ _ _ [] _ _ _ _; refine D_nil ?_; try dsimp only) | (show DrD _ _ _ (_ :: _) _ _ _ _; first | refine D_con ?_ ?_ | refine D_store tok ?_ ?_ | refine D_eff tok ?_ ?_) | (show Ev _ _ _ _; first | refine Ev_seq ?_ | (show Ev _ (.region _ _ false) _ _; refine W_reg ?_) | refine W_ifT ?_ | refine W_ifF ?_ | refine Ev_skip ?_ | refine Ev_exit ?_) | (show EvD _ _ [] _ _ _; refine W_nil ?_) | (show EvD _ _ (_ :: _) _ _ _; first | refine W_run tok ?_ ?_ (by simp (maxSteps := 1000000) (disch := omega) only [go_sem, wrap_i64_id, hg, hpl, hsl, hgb, hrm, z0, z10]; with_reducible exact rfl) | refine W_callee ?_) | (show EvC _ _ _ _ _ _ _ _ _; refine W_con ?_ ?_) | refine Q_thenN ?_ | refine Q_thenE ?_ | refine Q_blkE ?_ | fail)
    all_goals (try exact sd)
    all_goals (try refine F_done ?_)
    refine Q_rndC (Rb := σ.rows) (A := σ.boxes) (Mb := σ.maps) (R := rowsC (cst ls bd ks i)) (R' := rowsC (cst ls bd ks (i + 1))) (B := [some ⟨25, [.sl (secs (cst ls bd ks i).1), .sl (pends []), .int .i64 (cst ls bd ks i).2.1, .bool false]⟩, some ⟨27, [.int .i64 2, .int .i64 16, .int .i64 0, .int .i64 1]⟩, some ⟨27, logB (cst ls bd ks i).2.2.1⟩]) (B' := [some ⟨25, [.sl (secs (cst ls bd ks (i + 1)).1), .sl (pends []), .int .i64 (cst ls bd ks (i + 1)).2.1, .bool false]⟩, some ⟨27, [.int .i64 2, .int .i64 16, .int .i64 0, .int .i64 1]⟩, some ⟨27, logB (cst ls bd ks (i + 1)).2.2.1⟩]) (M := []) (M' := []) (mg := []) ?_ (by omega) (by first | rfl | (simp only [List.append_nil]; done) | (simp only [List.append_nil, logB]; done)) (by first | rfl | (simp only [List.append_nil]; done) | (simp only [List.append_nil, logB]; done)) (by rw [hs1]; simp only [rowsC, hρ, List.append_assoc, List.cons_append, List.nil_append]; exact rfl) (by rw [hs1]; simp only [logB, List.append_assoc, List.cons_append, List.nil_append]; exact rfl) (by first | exact rfl | (simp; done)) (by rw [rowsC_len, rowsC_len, hti, hs1]; simp) (by simp) (by simp) (by rw [hs1]; simp [nameds, DV.named, bytes_named, nameds_append, secs_named, pends_named, keepsD_named, rowsC_len] <;> omega) (rowsC_all _ _ _ _) (by rw [hs1]; simp only [logB]; repeat (first | exact allN_nil _ | refine allN_none ?_ | refine allN_some (by first | exact bytes_named _ _ _ _ | (simp [nameds, DV.named, bytes_named, nameds_append, secs_named, pends_named] <;> omega)) ?_)) (by simp)
    repeat (first | exact LeL.nil | refine LeL.cons2 ?_ (Le.undef _) | refine LeL.cons2 ?_ (Le.refl _) | refine LeL.cons2 ?_ (Le.sl _) | refine LeL.cons2 ?_ (Le.eq (by first | rfl | exact congrArg _ (by omega))) | refine LeL.cons2 ?_ (Le.eq ?_))
    all_goals first | (rw [hs1]; simp [hρl]; done) | (rw [hs1, hρl]; exact congrArg (fun z => DV.row z _) (by omega)) | trace_state
   | cut Sx Wx Lx hX a hgx hlx h =>
    rw [hX] at iA hs1
    rw [if_neg (by simp), if_pos rfl] at hs1
    simp only at hs1
    have iA : Con Try.prog 10 [diskD S [] (L0 : Int) false, logD 2 16 (endA 0 r) (1 + (r.length : Int)), .sl (bytes d)] True (.tup [diskD Sx Wx Lx true, logD 0 0 0 0, .int .i64 10]) := iA
    by_cases hki : i < ks.length
    ·have hkk : kpN ks i = ks.getD i [] := by unfold kpN; rw [if_pos hki]
     have hgk := keepsD_get hki
     rw [hkk] at hs1
     generalize ks.getD i [] = kp at hs1 hgk
     have hk := h kp
     have iC : Con Try.prog 28 [diskD Sx Wx Lx true, .sl (boolsD kp)] True (diskD (crashS Sx Wx kp) [] (-1) false) := by
      refine con_eq (i_disk_Crash Sx Wx Lx true kp) ⟨by have := hgx.1.1; omega, by omega⟩ ?_
      rw [diskIf_pos (good_may hgx (by omega) (by omega) a)]
     generalize crashS Sx Wx kp = Sc at iC hk hs1
     rcases hk with hk | hk
     ·have hsc := hk.scan
      rw [hsc] at hs1
      simp only at hs1
      have hScl := hk.good.1.1
      have iSc : ConT Try.prog 21 [diskD Sc [] (-1) false, logD 2 16 0 1] True (.tup [.row 0 r.length, logD 2 16 (endA 0 r) (1 + (r.length : Int)), .int .i64 0]) [⟨pends r, 46, 2⟩] [] [] := ⟨fun _ => by
       have hx := cx_wal_Scan Sc [] (-1) false 2 16 0 1 ⟨⟨by omega, by simp⟩, hk.may0, by rw [hsc]⟩
       rw [hsc] at hx
       exact hx⟩
      have hrl2 : r.length ≤ 13 := by omega
      have hpl3 := pends_len r
      have iSm : Pure Try.prog 22 [.sl (pends r), .sl (pends r)] (.bool true) := by
       have h := c_bursarref06_Same r r ⟨by omega, by omega⟩
       rwa [decide_eq_true rfl] at h
      repeat' (first | (show Ev _ _ _ _; first | refine Ev_seq ?_ | (show Ev _ (.region _ _ false) _ _; refine W_reg ?_) | refine Ev_block ?_ | refine W_ifY ?_ | refine Ev_skip ?_) | (show EvD _ _ [] _ _ _; refine W_nil ?_) | (show EvD _ _ (⟨_, _, _, _, _, some _⟩ :: _) _ _ _; refine W_grdY ?_) | (show EvD _ _ (_ :: _) _ _ _; first | refine W_run tok ?_ ?_ (by simp (maxSteps := 1000000) (disch := omega) only [go_sem, wrap_i64_id, hg, hpl, hsl, hgb, hrm, hgk, hkl, hpl3]; with_reducible exact rfl) | refine W_callee ?_) | (show EvC _ _ _ _ _ _ _ _ _; refine W_con ?_ ?_) | refine Q_thenN ?_ | fail)
      all_goals (try exact sd)
      all_goals (try refine F_done ?_)
      refine D_startP [] mix ?_
      repeat' (first | (show DrD _ (EP _) _ (_ :: _) _ _ _ _; first | refine D_runLP tok ?_ ?_ (h := by intro R r M; simp (maxSteps := 1000000) (disch := omega) only [go_sem, wrap_i64_id, hg, hpl, hsl, hgb, hrm, hgk, hkl, hpl3]; with_reducible exact rfl)) | (show DrD _ _ _ [] _ _ _ _; refine D_nil ?_; try dsimp only) | (show DrD _ _ _ (_ :: _) _ _ _ _; first | refine D_con ?_ ?_ | refine D_store tok ?_ ?_ | refine D_eff tok ?_ ?_) | (show Ev _ _ _ _; first | refine Ev_seq ?_ | (show Ev _ (.region _ _ false) _ _; refine W_reg ?_) | refine W_ifF ?_ | refine W_ifY ?_ | refine W_ifN ?_ | refine Ev_skip ?_) | (show EvD _ _ [] _ _ _; refine W_nil ?_) | (show EvD _ _ (_ :: _) _ _ _; first | refine W_run tok ?_ ?_ (by simp (maxSteps := 1000000) (disch := omega) only [go_sem, wrap_i64_id, hg, hpl, hsl, hgb, hrm, hgk, hkl, hpl3]; with_reducible exact rfl) | refine W_callee ?_) | (show EvC _ _ _ _ _ _ _ _ _; first | refine W_conT ?_ ?_ | refine W_con ?_ ?_) | refine Q_thenN ?_ | fail)
      all_goals (try exact sd)
      all_goals (try refine F_done ?_)
      refine D_startF [false, false, false, false, false, true, false, false, false, false, false, false, false, false, false, false, false, false, false] mix ?_
      repeat' (first | (show DrD _ (EB _ _) _ (_ :: _) _ _ _ _; first | refine D_runL tok ?_ ?_ (h := by intro R; simp (maxSteps := 1000000) (disch := omega) only [go_sem, wrap_i64_id, hg, hpl, hsl, hgb, hrm, hgk, hkl, hpl3]; with_reducible exact rfl)) | fail)
      all_goals (try exact sd)
      all_goals (try refine F_done ?_)
      refine D_does (args' := [.row (ρ.length + 1) r.length, .row ρ.length r.length]) (hle := by first | rfl | simp only [weakL, List.map_cons, List.map_nil, weakD_row, weakD_sl]) (Does.keep iSm (by repeat (first | exact ThawL.nil | refine ThawL.cons (Thaw.mk (by (try simp only [app_get, app_get0, List.getElem?_cons_succ, List.getElem?_cons_zero]) <;> exact rfl) (by first | rfl | (simp only [go_sem]; done) | (simp only [go_sem]; omega)) (pends_named _ _ _ _)) ?_)) (.bool _)) ?_
      repeat' (first | (show DrD _ _ _ [] _ _ _ _; refine D_nil ?_; try dsimp only) | (show DrD _ (EB _ _) _ (_ :: _) _ _ _ _; first | refine D_runL tok ?_ ?_ (h := by intro R; simp (maxSteps := 1000000) (disch := omega) only [go_sem, wrap_i64_id, hg, hpl, hsl, hgb, hrm, hgk, hkl, hpl3]; with_reducible exact rfl)) | (show DrD _ _ _ (_ :: _) _ _ _ _; refine D_off ?_) | (show Ev _ _ _ _; first | refine W_ifF ?_ | refine Ev_skip ?_) | refine Q_thenN ?_ | fail)
      all_goals (try exact sd)
      all_goals (try refine F_done ?_)
      refine W_frzC ρ.length ?_ (hs := by simp (disch := omega) only [hpl, hpl3, frzAt, frzAtL, if_pos, if_neg, and_self, if_true]; exact rfl)
      repeat' (first | (show Ev _ (.region _ _ true) _ _; refine D_startA [9, 21, 49, 51, 54, 65, 68, 99998] mix ?_) | (show DrD _ _ _ [] _ _ _ _; refine D_nil ?_; try dsimp only) | (show DrD _ EA _ (_ :: _) _ _ _ _; first | refine D_runLA tok ?_ ?_ (h := by intro R; simp (maxSteps := 1000000) (disch := omega) only [go_sem, wrap_i64_id, hg, hpl, hsl, hgb, hrm, hgk, hkl, hpl3]; with_reducible exact rfl)) | (show DrD _ _ _ (_ :: _) _ _ _ _; first | refine D_store tok ?_ ?_ | refine D_hold tok ?_ ?_) | (show Ev _ _ _ _; refine W_reg ?_) | (show EvD _ _ [] _ _ _; refine W_nil ?_) | (show EvD _ _ (_ :: _) _ _ _; first | refine W_run tok ?_ ?_ (by simp (maxSteps := 1000000) (disch := omega) only [go_sem, wrap_i64_id, hg, hpl, hsl, hgb, hrm, hgk, hkl, hpl3]; with_reducible exact rfl)) | refine Q_thenN ?_ | refine Q_blkN ?_ | fail)
      all_goals (try exact sd)
      all_goals (try refine F_done ?_)
      refine Q_rndC (Rb := σ.rows) (A := σ.boxes) (Mb := σ.maps) (R := rowsC (cst ls bd ks i)) (R' := rowsC (cst ls bd ks (i + 1))) (B := [some ⟨25, [.sl (secs (cst ls bd ks i).1), .sl (pends []), .int .i64 (cst ls bd ks i).2.1, .bool false]⟩, some ⟨27, [.int .i64 2, .int .i64 16, .int .i64 0, .int .i64 1]⟩, some ⟨27, logB (cst ls bd ks i).2.2.1⟩]) (B' := [some ⟨25, [.sl (secs (cst ls bd ks (i + 1)).1), .sl (pends []), .int .i64 (cst ls bd ks (i + 1)).2.1, .bool false]⟩, some ⟨27, [.int .i64 2, .int .i64 16, .int .i64 0, .int .i64 1]⟩, some ⟨27, logB (cst ls bd ks (i + 1)).2.2.1⟩]) (M := []) (M' := []) (mg := []) ?_ (by omega) (by first | rfl | (simp only [List.append_nil]; done) | (simp only [List.append_nil, logB]; done)) (by first | rfl | (simp only [List.append_nil]; done) | (simp only [List.append_nil, logB]; done)) (by rw [hs1]; simp only [rowsC, hρ, rows_turn, List.append_assoc, List.cons_append, List.nil_append]; exact rfl) (by rw [hs1]; simp only [logB, List.append_assoc, List.cons_append, List.nil_append]; exact rfl) (by first | exact rfl | (simp; done)) (by rw [rowsC_len, rowsC_len, hti, hs1]; simp) (by simp) (by simp) (by rw [hs1]; simp [nameds, DV.named, bytes_named, nameds_append, secs_named, pends_named, keepsD_named, rowsC_len] <;> omega) (rowsC_all _ _ _ _) (by rw [hs1]; simp only [logB]; repeat (first | exact allN_nil _ | refine allN_none ?_ | refine allN_some (by first | exact bytes_named _ _ _ _ | (simp [nameds, DV.named, bytes_named, nameds_append, secs_named, pends_named] <;> omega)) ?_)) (by simp)
      repeat (first | exact LeL.nil | refine LeL.cons2 ?_ (Le.undef _) | refine LeL.cons2 ?_ (Le.refl _) | refine LeL.cons2 ?_ (Le.sl _) | refine LeL.cons2 ?_ (Le.eq (by first | rfl | exact congrArg _ (by omega))) | refine LeL.cons2 ?_ (Le.eq ?_))
      all_goals first | (rw [hs1]; simp [hρl]; done) | (rw [hs1]; show DV.row (ρ.length + 1) _ = DV.row (σ.rows.length + (c + 1)) _; rw [hρl]; exact congrArg (fun z => DV.row z _) (by omega)) | (rw [hs1, hρl]; exact congrArg (fun z => DV.row z _) (by omega)) | exact ⟨of_eq_true (pends_two _), of_eq_true (pends_c1 _ _), by omega⟩ | trace_state
     ·have hsc := hk.scan
      rw [hsc] at hs1
      simp only at hs1
      have hScl := hk.good.1.1
      have iSc : ConT Try.prog 21 [diskD Sc [] (-1) false, logD 2 16 0 1] True (.tup [.row 0 (r ++ [(1 + (r.length : Int), d)]).length, logD 2 16 (endA 0 (r ++ [(1 + (r.length : Int), d)])) (1 + ((r ++ [(1 + (r.length : Int), d)]).length : Int)), .int .i64 0]) [⟨pends (r ++ [(1 + (r.length : Int), d)]), 46, 2⟩] [] [] := ⟨fun _ => by
       have hx := cx_wal_Scan Sc [] (-1) false 2 16 0 1 ⟨⟨by omega, by simp⟩, hk.may0, by rw [hsc]⟩
       rw [hsc] at hx
       exact hx⟩
      have hrl2 : (r ++ [(1 + (r.length : Int), d)]).length ≤ 13 := by rw [List.length_append, List.length_singleton]; omega
      have hpl3 := pends_len (r ++ [(1 + (r.length : Int), d)])
      have hsn := pends_snoc2 r (1 + (r.length : Int)) d
      have hnr : (r ++ [(1 + (r.length : Int), d)]) ≠ r := fun hh => by have := congrArg List.length hh; rw [List.length_append, List.length_singleton] at this; omega
      have hql : r.length + 1 = (r ++ [(1 + (r.length : Int), d)]).length := by simp
      generalize hqr : (r ++ [(1 + (r.length : Int), d)]) = q at *
      have iSm : Pure Try.prog 22 [.sl (pends q), .sl (pends r)] (.bool false) := by
       have h := c_bursarref06_Same q r ⟨by omega, by omega⟩
       rwa [decide_eq_false hnr] at h
      have iSq : Pure Try.prog 22 [.sl (pends q), .sl (pends q)] (.bool true) := by
       have h := c_bursarref06_Same q q ⟨by omega, by omega⟩
       rwa [decide_eq_true rfl] at h
      repeat' (first | (show Ev _ _ _ _; first | refine Ev_seq ?_ | (show Ev _ (.region _ _ false) _ _; refine W_reg ?_) | refine Ev_block ?_ | refine W_ifY ?_ | refine Ev_skip ?_) | (show EvD _ _ [] _ _ _; refine W_nil ?_) | (show EvD _ _ (⟨_, _, _, _, _, some _⟩ :: _) _ _ _; refine W_grdY ?_) | (show EvD _ _ (_ :: _) _ _ _; first | refine W_run tok ?_ ?_ (by simp (maxSteps := 1000000) (disch := omega) only [go_sem, wrap_i64_id, hg, hpl, hsl, hgb, hrm, hgk, hkl, hpl3]; with_reducible exact rfl) | refine W_callee ?_) | (show EvC _ _ _ _ _ _ _ _ _; refine W_con ?_ ?_) | refine Q_thenN ?_ | fail)
      all_goals (try exact sd)
      all_goals (try refine F_done ?_)
      refine D_startP [] mix ?_
      repeat' (first | (show DrD _ (EP _) _ (_ :: _) _ _ _ _; first | refine D_runLP tok ?_ ?_ (h := by intro R r M; simp (maxSteps := 1000000) (disch := omega) only [go_sem, wrap_i64_id, hg, hpl, hsl, hgb, hrm, hgk, hkl, hpl3]; with_reducible exact rfl)) | (show DrD _ _ _ [] _ _ _ _; refine D_nil ?_; try dsimp only) | (show DrD _ _ _ (_ :: _) _ _ _ _; first | refine D_con ?_ ?_ | refine D_store tok ?_ ?_ | refine D_eff tok ?_ ?_) | (show Ev _ _ _ _; first | refine Ev_seq ?_ | (show Ev _ (.region _ _ false) _ _; refine W_reg ?_) | refine W_ifF ?_ | refine W_ifY ?_ | refine W_ifN ?_ | refine Ev_skip ?_) | (show EvD _ _ [] _ _ _; refine W_nil ?_) | (show EvD _ _ (_ :: _) _ _ _; first | refine W_run tok ?_ ?_ (by simp (maxSteps := 1000000) (disch := omega) only [go_sem, wrap_i64_id, hg, hpl, hsl, hgb, hrm, hgk, hkl, hpl3]; with_reducible exact rfl) | refine W_callee ?_) | (show EvC _ _ _ _ _ _ _ _ _; first | refine W_conT ?_ ?_ | refine W_con ?_ ?_) | refine Q_thenN ?_ | fail)
      all_goals (try exact sd)
      all_goals (try refine F_done ?_)
      refine D_start [22] mix ?_
      repeat' (first | (show DrD _ (EB _ _) _ (_ :: _) _ _ _ _; first | refine D_runL tok ?_ ?_ (h := by intro R; simp (maxSteps := 1000000) (disch := omega) only [go_sem, wrap_i64_id, hg, hpl, hsl, hgb, hrm, hgk, hkl, hpl3]; with_reducible exact rfl)) | fail)
      all_goals (try exact sd)
      all_goals (try refine F_done ?_)
      refine D_does (args' := [.row (ρ.length + 1) q.length, .row ρ.length r.length]) (hle := by first | rfl | simp only [weakL, List.map_cons, List.map_nil, weakD_row, weakD_sl]) (Does.keep iSm (by repeat (first | exact ThawL.nil | refine ThawL.cons (Thaw.mk (by (try simp only [app_get, app_get0, List.getElem?_cons_succ, List.getElem?_cons_zero]) <;> exact rfl) (by first | rfl | (simp only [go_sem]; done) | (simp only [go_sem]; omega)) (pends_named _ _ _ _)) ?_)) (.bool _)) ?_
      repeat' (first | (show DrD _ (EB _ _) _ (_ :: _) _ _ _ _; first | refine D_runL tok ?_ ?_ (h := by intro R; simp (maxSteps := 1000000) (disch := omega) only [go_sem, wrap_i64_id, hg, hpl, hsl, hgb, hrm, hgk, hkl, hpl3]; with_reducible exact rfl)) | (show DrD _ _ _ (_ :: _) _ _ _ _; refine D_eff tok ?_ ?_) | fail)
      all_goals (try exact sd)
      all_goals (try refine F_done ?_)
      simp only [hsn]
      refine D_does (args' := [.row (ρ.length + 1) q.length, .row (ρ.length + 2) (r.length + 1)]) (hle := by first | rfl | simp only [weakL, List.map_cons, List.map_nil, weakD_row, weakD_sl]) (Does.keep iSq (by repeat (first | exact ThawL.nil | refine ThawL.cons (Thaw.mk (by (try simp only [app_get, app_get0, List.getElem?_cons_succ, List.getElem?_cons_zero]) <;> exact rfl) (by first | rfl | (simp only [go_sem]; done) | omega) (pends_named _ _ _ _)) ?_)) (.bool _)) ?_
      repeat' (first | (show DrD _ _ _ [] _ _ _ _; refine D_nil ?_; try dsimp only) | (show DrD _ (EB _ _) _ (_ :: _) _ _ _ _; first | refine D_runL tok ?_ ?_ (h := by intro R; simp (maxSteps := 1000000) (disch := omega) only [go_sem, wrap_i64_id, hg, hpl, hsl, hgb, hrm, hgk, hkl, hpl3, hsn, hqr]; with_reducible exact rfl)) | (show Ev _ _ _ _; first | refine W_ifF ?_ | refine Ev_skip ?_) | refine Q_thenN ?_ | fail)
      all_goals (try exact sd)
      all_goals (try refine F_done ?_)
      refine W_frzC ρ.length ?_ (hs := by simp (disch := omega) only [hpl, hpl3, frzAt, frzAtL, if_pos, if_neg, and_self, if_true]; exact rfl)
      repeat' (first | (show Ev _ (.region _ _ true) _ _; refine D_startA [9, 21, 49, 51, 54, 65, 68, 99998] mix ?_) | (show DrD _ _ _ [] _ _ _ _; refine D_nil ?_; try dsimp only) | (show DrD _ EA _ (_ :: _) _ _ _ _; first | refine D_runLA tok ?_ ?_ (h := by intro R; simp (maxSteps := 1000000) (disch := omega) only [go_sem, wrap_i64_id, hg, hpl, hsl, hgb, hrm, hgk, hkl, hpl3]; with_reducible exact rfl)) | (show DrD _ _ _ (_ :: _) _ _ _ _; first | refine D_store tok ?_ ?_ | refine D_hold tok ?_ ?_) | (show Ev _ _ _ _; refine W_reg ?_) | (show EvD _ _ [] _ _ _; refine W_nil ?_) | (show EvD _ _ (_ :: _) _ _ _; first | refine W_run tok ?_ ?_ (by simp (maxSteps := 1000000) (disch := omega) only [go_sem, wrap_i64_id, hg, hpl, hsl, hgb, hrm, hgk, hkl, hpl3]; with_reducible exact rfl)) | refine Q_thenN ?_ | refine Q_blkN ?_ | fail)
      all_goals (try exact sd)
      all_goals (try refine F_done ?_)
      refine Q_rndC (Rb := σ.rows) (A := σ.boxes) (Mb := σ.maps) (R := rowsC (cst ls bd ks i)) (R' := rowsC (cst ls bd ks (i + 1))) (B := [some ⟨25, [.sl (secs (cst ls bd ks i).1), .sl (pends []), .int .i64 (cst ls bd ks i).2.1, .bool false]⟩, some ⟨27, [.int .i64 2, .int .i64 16, .int .i64 0, .int .i64 1]⟩, some ⟨27, logB (cst ls bd ks i).2.2.1⟩]) (B' := [some ⟨25, [.sl (secs (cst ls bd ks (i + 1)).1), .sl (pends []), .int .i64 (cst ls bd ks (i + 1)).2.1, .bool false]⟩, some ⟨27, [.int .i64 2, .int .i64 16, .int .i64 0, .int .i64 1]⟩, some ⟨27, logB (cst ls bd ks (i + 1)).2.2.1⟩]) (M := []) (M' := []) (mg := []) ?_ (by omega) (by first | rfl | (simp only [List.append_nil]; done) | (simp only [List.append_nil, logB]; done)) (by first | rfl | (simp only [List.append_nil]; done) | (simp only [List.append_nil, logB]; done)) (by rw [hs1]; simp only [rowsC, hρ, rows_turn, List.append_assoc, List.cons_append, List.nil_append]; exact rfl) (by rw [hs1]; simp only [logB, List.append_assoc, List.cons_append, List.nil_append]; exact rfl) (by first | exact rfl | (simp; done)) (by rw [rowsC_len, rowsC_len, hti, hs1]; simp) (by simp) (by simp) (by rw [hs1]; simp [nameds, DV.named, bytes_named, nameds_append, secs_named, pends_named, keepsD_named, rowsC_len] <;> omega) (rowsC_all _ _ _ _) (by rw [hs1]; simp only [logB]; repeat (first | exact allN_nil _ | refine allN_none ?_ | refine allN_some (by first | exact bytes_named _ _ _ _ | (simp [nameds, DV.named, bytes_named, nameds_append, secs_named, pends_named] <;> omega)) ?_)) (by simp)
      repeat (first | exact LeL.nil | refine LeL.cons2 ?_ (Le.undef _) | refine LeL.cons2 ?_ (Le.refl _) | refine LeL.cons2 ?_ (Le.sl _) | refine LeL.cons2 ?_ (Le.eq (by first | rfl | exact congrArg _ (by omega))) | refine LeL.cons2 ?_ (Le.eq ?_))
      all_goals first | (rw [hs1]; simp [hρl]; done) | (rw [hs1]; show DV.row (ρ.length + 1) _ = DV.row (σ.rows.length + (c + 1)) _; rw [hρl]; exact congrArg (fun z => DV.row z _) (by omega)) | (rw [hs1, hρl]; exact congrArg (fun z => DV.row z _) (by omega)) | exact ⟨of_eq_true (pends_two _), of_eq_true (pends_c1 _ _), by omega⟩ | trace_state
    ·have hkk : kpN ks i = [] := by unfold kpN; rw [if_neg hki]
     rw [hkk] at hs1
     obtain ⟨kp, hkp⟩ : ∃ kp : List Bool, kp = [] := ⟨_, rfl⟩
     rw [← hkp] at hs1
     have hkb : boolsD kp = [] := by rw [hkp]; rfl
     have hk := h kp
     have iC : Con Try.prog 28 [diskD Sx Wx Lx true, .sl (boolsD kp)] True (diskD (crashS Sx Wx kp) [] (-1) false) := by
      refine con_eq (i_disk_Crash Sx Wx Lx true kp) ⟨by have := hgx.1.1; omega, by omega⟩ ?_
      rw [diskIf_pos (good_may hgx (by omega) (by omega) a)]
     rw [hkb] at iC
     generalize crashS Sx Wx kp = Sc at iC hk hs1
     rcases hk with hk | hk
     ·have hsc := hk.scan
      rw [hsc] at hs1
      simp only at hs1
      have hScl := hk.good.1.1
      have iSc : ConT Try.prog 21 [diskD Sc [] (-1) false, logD 2 16 0 1] True (.tup [.row 0 r.length, logD 2 16 (endA 0 r) (1 + (r.length : Int)), .int .i64 0]) [⟨pends r, 46, 2⟩] [] [] := ⟨fun _ => by
       have hx := cx_wal_Scan Sc [] (-1) false 2 16 0 1 ⟨⟨by omega, by simp⟩, hk.may0, by rw [hsc]⟩
       rw [hsc] at hx
       exact hx⟩
      have hrl2 : r.length ≤ 13 := by omega
      have hpl3 := pends_len r
      have iSm : Pure Try.prog 22 [.sl (pends r), .sl (pends r)] (.bool true) := by
       have h := c_bursarref06_Same r r ⟨by omega, by omega⟩
       rwa [decide_eq_true rfl] at h
      repeat' (first | (show Ev _ _ _ _; first | refine Ev_seq ?_ | (show Ev _ (.region _ _ false) _ _; refine W_reg ?_) | refine Ev_block ?_ | refine W_ifY ?_ | refine Ev_skip ?_) | (show EvD _ _ [] _ _ _; refine W_nil ?_) | (show EvD _ _ (⟨_, _, _, _, _, some _⟩ :: _) _ _ _; refine W_grdY ?_) | (show EvD _ _ (_ :: _) _ _ _; first | refine W_run tok ?_ ?_ (by simp (maxSteps := 1000000) (disch := omega) only [go_sem, wrap_i64_id, hg, hpl, hsl, hgb, hrm, hkl, hkb, hpl3]; with_reducible exact rfl) | refine W_callee ?_) | (show EvC _ _ _ _ _ _ _ _ _; refine W_con ?_ ?_) | refine Q_thenN ?_ | fail)
      all_goals (try exact sd)
      all_goals (try refine F_done ?_)
      refine D_startP [] mix ?_
      repeat' (first | (show DrD _ (EP _) _ (_ :: _) _ _ _ _; first | refine D_runLP tok ?_ ?_ (h := by intro R r M; simp (maxSteps := 1000000) (disch := omega) only [go_sem, wrap_i64_id, hg, hpl, hsl, hgb, hrm, hkl, hkb, hpl3]; with_reducible exact rfl)) | (show DrD _ _ _ [] _ _ _ _; refine D_nil ?_; try dsimp only) | (show DrD _ _ _ (_ :: _) _ _ _ _; first | refine D_con ?_ ?_ | refine D_store tok ?_ ?_ | refine D_eff tok ?_ ?_) | (show Ev _ _ _ _; first | refine Ev_seq ?_ | (show Ev _ (.region _ _ false) _ _; refine W_reg ?_) | refine W_ifF ?_ | refine W_ifN ?_ | refine Ev_skip ?_) | (show EvD _ _ [] _ _ _; refine W_nil ?_) | (show EvD _ _ (_ :: _) _ _ _; first | refine W_run tok ?_ ?_ (by simp (maxSteps := 1000000) (disch := omega) only [go_sem, wrap_i64_id, hg, hpl, hsl, hgb, hrm, hkl, hkb, hpl3]; with_reducible exact rfl) | refine W_callee ?_) | (show EvC _ _ _ _ _ _ _ _ _; first | refine W_conT ?_ ?_ | refine W_con ?_ ?_ | refine W_weak ?_) | refine Q_thenN ?_ | fail)
      all_goals (try exact sd)
      all_goals (try refine F_done ?_)
      refine D_startF [false, false, false, false, false, true, false, false, false, false, false, false, false, false, false, false, false, false, false] mix ?_
      repeat' (first | (show DrD _ (EB _ _) _ (_ :: _) _ _ _ _; first | refine D_runL tok ?_ ?_ (h := by intro R; simp (maxSteps := 1000000) (disch := omega) only [go_sem, wrap_i64_id, hg, hpl, hsl, hgb, hrm, hkl, hkb, hpl3]; with_reducible exact rfl)) | fail)
      all_goals (try exact sd)
      all_goals (try refine F_done ?_)
      refine D_does (args' := [.row (ρ.length + 1) r.length, .row ρ.length r.length]) (hle := by first | rfl | simp only [weakL, List.map_cons, List.map_nil, weakD_row, weakD_sl]) (Does.keep iSm (by repeat (first | exact ThawL.nil | refine ThawL.cons (Thaw.mk (by (try simp only [app_get, app_get0, List.getElem?_cons_succ, List.getElem?_cons_zero]) <;> exact rfl) (by first | rfl | (simp only [go_sem]; done) | (simp only [go_sem]; omega)) (pends_named _ _ _ _)) ?_)) (.bool _)) ?_
      repeat' (first | (show DrD _ _ _ [] _ _ _ _; refine D_nil ?_; try dsimp only) | (show DrD _ (EB _ _) _ (_ :: _) _ _ _ _; first | refine D_runL tok ?_ ?_ (h := by intro R; simp (maxSteps := 1000000) (disch := omega) only [go_sem, wrap_i64_id, hg, hpl, hsl, hgb, hrm, hkl, hkb, hpl3]; with_reducible exact rfl)) | (show DrD _ _ _ (_ :: _) _ _ _ _; refine D_off ?_) | (show Ev _ _ _ _; first | refine W_ifF ?_ | refine Ev_skip ?_) | refine Q_thenN ?_ | fail)
      all_goals (try exact sd)
      all_goals (try refine F_done ?_)
      refine W_frzC ρ.length ?_ (hs := by simp (disch := omega) only [hpl, hpl3, frzAt, frzAtL, if_pos, if_neg, and_self, if_true]; exact rfl)
      repeat' (first | (show Ev _ (.region _ _ true) _ _; refine D_startA [9, 21, 49, 51, 54, 65, 68, 99998] mix ?_) | (show DrD _ _ _ [] _ _ _ _; refine D_nil ?_; try dsimp only) | (show DrD _ EA _ (_ :: _) _ _ _ _; first | refine D_runLA tok ?_ ?_ (h := by intro R; simp (maxSteps := 1000000) (disch := omega) only [go_sem, wrap_i64_id, hg, hpl, hsl, hgb, hrm, hkl, hkb, hpl3]; with_reducible exact rfl)) | (show DrD _ _ _ (_ :: _) _ _ _ _; first | refine D_store tok ?_ ?_ | refine D_hold tok ?_ ?_) | (show Ev _ _ _ _; refine W_reg ?_) | (show EvD _ _ [] _ _ _; refine W_nil ?_) | (show EvD _ _ (_ :: _) _ _ _; first | refine W_run tok ?_ ?_ (by simp (maxSteps := 1000000) (disch := omega) only [go_sem, wrap_i64_id, hg, hpl, hsl, hgb, hrm, hkl, hkb, hpl3]; with_reducible exact rfl)) | refine Q_thenN ?_ | refine Q_blkN ?_ | fail)
      all_goals (try exact sd)
      all_goals (try refine F_done ?_)
      refine Q_rndC (Rb := σ.rows) (A := σ.boxes) (Mb := σ.maps) (R := rowsC (cst ls bd ks i)) (R' := rowsC (cst ls bd ks (i + 1))) (B := [some ⟨25, [.sl (secs (cst ls bd ks i).1), .sl (pends []), .int .i64 (cst ls bd ks i).2.1, .bool false]⟩, some ⟨27, [.int .i64 2, .int .i64 16, .int .i64 0, .int .i64 1]⟩, some ⟨27, logB (cst ls bd ks i).2.2.1⟩]) (B' := [some ⟨25, [.sl (secs (cst ls bd ks (i + 1)).1), .sl (pends []), .int .i64 (cst ls bd ks (i + 1)).2.1, .bool false]⟩, some ⟨27, [.int .i64 2, .int .i64 16, .int .i64 0, .int .i64 1]⟩, some ⟨27, logB (cst ls bd ks (i + 1)).2.2.1⟩]) (M := []) (M' := []) (mg := []) ?_ (by omega) (by first | rfl | (simp only [List.append_nil]; done) | (simp only [List.append_nil, logB]; done)) (by first | rfl | (simp only [List.append_nil]; done) | (simp only [List.append_nil, logB]; done)) (by rw [hs1]; simp only [rowsC, hρ, rows_turn, List.append_assoc, List.cons_append, List.nil_append]; exact rfl) (by rw [hs1]; simp only [logB, List.append_assoc, List.cons_append, List.nil_append]; exact rfl) (by first | exact rfl | (simp; done)) (by rw [rowsC_len, rowsC_len, hti, hs1]; simp) (by simp) (by simp) (by rw [hs1]; simp [nameds, DV.named, bytes_named, nameds_append, secs_named, pends_named, keepsD_named, rowsC_len] <;> omega) (rowsC_all _ _ _ _) (by rw [hs1]; simp only [logB]; repeat (first | exact allN_nil _ | refine allN_none ?_ | refine allN_some (by first | exact bytes_named _ _ _ _ | (simp [nameds, DV.named, bytes_named, nameds_append, secs_named, pends_named] <;> omega)) ?_)) (by simp)
      repeat (first | exact LeL.nil | refine LeL.cons2 ?_ (Le.undef _) | refine LeL.cons2 ?_ (Le.refl _) | refine LeL.cons2 ?_ (Le.sl _) | refine LeL.cons2 ?_ (Le.eq (by first | rfl | exact congrArg _ (by omega))) | refine LeL.cons2 ?_ (Le.eq ?_))
      all_goals first | (rw [hs1]; simp [hρl]; done) | (rw [hs1]; show DV.row (ρ.length + 1) _ = DV.row (σ.rows.length + (c + 1)) _; rw [hρl]; exact congrArg (fun z => DV.row z _) (by omega)) | (rw [hs1, hρl]; exact congrArg (fun z => DV.row z _) (by omega)) | exact ⟨of_eq_true (pends_two _), of_eq_true (pends_c1 _ _), by omega⟩ | trace_state
     ·have hsc := hk.scan
      rw [hsc] at hs1
      simp only at hs1
      have hScl := hk.good.1.1
      have iSc : ConT Try.prog 21 [diskD Sc [] (-1) false, logD 2 16 0 1] True (.tup [.row 0 (r ++ [(1 + (r.length : Int), d)]).length, logD 2 16 (endA 0 (r ++ [(1 + (r.length : Int), d)])) (1 + ((r ++ [(1 + (r.length : Int), d)]).length : Int)), .int .i64 0]) [⟨pends (r ++ [(1 + (r.length : Int), d)]), 46, 2⟩] [] [] := ⟨fun _ => by
       have hx := cx_wal_Scan Sc [] (-1) false 2 16 0 1 ⟨⟨by omega, by simp⟩, hk.may0, by rw [hsc]⟩
       rw [hsc] at hx
       exact hx⟩
      have hrl2 : (r ++ [(1 + (r.length : Int), d)]).length ≤ 13 := by rw [List.length_append, List.length_singleton]; omega
      have hpl3 := pends_len (r ++ [(1 + (r.length : Int), d)])
      have hsn := pends_snoc2 r (1 + (r.length : Int)) d
      have hnr : (r ++ [(1 + (r.length : Int), d)]) ≠ r := fun hh => by have := congrArg List.length hh; rw [List.length_append, List.length_singleton] at this; omega
      have hql : r.length + 1 = (r ++ [(1 + (r.length : Int), d)]).length := by simp
      generalize hqr : (r ++ [(1 + (r.length : Int), d)]) = q at *
      have iSm : Pure Try.prog 22 [.sl (pends q), .sl (pends r)] (.bool false) := by
       have h := c_bursarref06_Same q r ⟨by omega, by omega⟩
       rwa [decide_eq_false hnr] at h
      have iSq : Pure Try.prog 22 [.sl (pends q), .sl (pends q)] (.bool true) := by
       have h := c_bursarref06_Same q q ⟨by omega, by omega⟩
       rwa [decide_eq_true rfl] at h
      repeat' (first | (show Ev _ _ _ _; first | refine Ev_seq ?_ | (show Ev _ (.region _ _ false) _ _; refine W_reg ?_) | refine Ev_block ?_ | refine W_ifY ?_ | refine Ev_skip ?_) | (show EvD _ _ [] _ _ _; refine W_nil ?_) | (show EvD _ _ (⟨_, _, _, _, _, some _⟩ :: _) _ _ _; refine W_grdY ?_) | (show EvD _ _ (_ :: _) _ _ _; first | refine W_run tok ?_ ?_ (by simp (maxSteps := 1000000) (disch := omega) only [go_sem, wrap_i64_id, hg, hpl, hsl, hgb, hrm, hkl, hkb, hpl3]; with_reducible exact rfl) | refine W_callee ?_) | (show EvC _ _ _ _ _ _ _ _ _; refine W_con ?_ ?_) | refine Q_thenN ?_ | fail)
      all_goals (try exact sd)
      all_goals (try refine F_done ?_)
      refine D_startP [] mix ?_
      repeat' (first | (show DrD _ (EP _) _ (_ :: _) _ _ _ _; first | refine D_runLP tok ?_ ?_ (h := by intro R r M; simp (maxSteps := 1000000) (disch := omega) only [go_sem, wrap_i64_id, hg, hpl, hsl, hgb, hrm, hkl, hkb, hpl3]; with_reducible exact rfl)) | (show DrD _ _ _ [] _ _ _ _; refine D_nil ?_; try dsimp only) | (show DrD _ _ _ (_ :: _) _ _ _ _; first | refine D_con ?_ ?_ | refine D_store tok ?_ ?_ | refine D_eff tok ?_ ?_) | (show Ev _ _ _ _; first | refine Ev_seq ?_ | (show Ev _ (.region _ _ false) _ _; refine W_reg ?_) | refine W_ifF ?_ | refine W_ifN ?_ | refine Ev_skip ?_) | (show EvD _ _ [] _ _ _; refine W_nil ?_) | (show EvD _ _ (_ :: _) _ _ _; first | refine W_run tok ?_ ?_ (by simp (maxSteps := 1000000) (disch := omega) only [go_sem, wrap_i64_id, hg, hpl, hsl, hgb, hrm, hkl, hkb, hpl3]; with_reducible exact rfl) | refine W_callee ?_) | (show EvC _ _ _ _ _ _ _ _ _; first | refine W_conT ?_ ?_ | refine W_con ?_ ?_ | refine W_weak ?_) | refine Q_thenN ?_ | fail)
      all_goals (try exact sd)
      all_goals (try refine F_done ?_)
      refine D_start [22] mix ?_
      repeat' (first | (show DrD _ (EB _ _) _ (_ :: _) _ _ _ _; first | refine D_runL tok ?_ ?_ (h := by intro R; simp (maxSteps := 1000000) (disch := omega) only [go_sem, wrap_i64_id, hg, hpl, hsl, hgb, hrm, hkl, hkb, hpl3]; with_reducible exact rfl)) | fail)
      all_goals (try exact sd)
      all_goals (try refine F_done ?_)
      refine D_does (args' := [.row (ρ.length + 1) q.length, .row ρ.length r.length]) (hle := by first | rfl | simp only [weakL, List.map_cons, List.map_nil, weakD_row, weakD_sl]) (Does.keep iSm (by repeat (first | exact ThawL.nil | refine ThawL.cons (Thaw.mk (by (try simp only [app_get, app_get0, List.getElem?_cons_succ, List.getElem?_cons_zero]) <;> exact rfl) (by first | rfl | (simp only [go_sem]; done) | (simp only [go_sem]; omega)) (pends_named _ _ _ _)) ?_)) (.bool _)) ?_
      repeat' (first | (show DrD _ (EB _ _) _ (_ :: _) _ _ _ _; first | refine D_runL tok ?_ ?_ (h := by intro R; simp (maxSteps := 1000000) (disch := omega) only [go_sem, wrap_i64_id, hg, hpl, hsl, hgb, hrm, hkl, hkb, hpl3]; with_reducible exact rfl)) | (show DrD _ _ _ (_ :: _) _ _ _ _; refine D_eff tok ?_ ?_) | fail)
      all_goals (try exact sd)
      all_goals (try refine F_done ?_)
      simp only [hsn]
      refine D_does (args' := [.row (ρ.length + 1) q.length, .row (ρ.length + 2) (r.length + 1)]) (hle := by first | rfl | simp only [weakL, List.map_cons, List.map_nil, weakD_row, weakD_sl]) (Does.keep iSq (by repeat (first | exact ThawL.nil | refine ThawL.cons (Thaw.mk (by (try simp only [app_get, app_get0, List.getElem?_cons_succ, List.getElem?_cons_zero]) <;> exact rfl) (by first | rfl | (simp only [go_sem]; done) | omega) (pends_named _ _ _ _)) ?_)) (.bool _)) ?_
      repeat' (first | (show DrD _ _ _ [] _ _ _ _; refine D_nil ?_; try dsimp only) | (show DrD _ (EB _ _) _ (_ :: _) _ _ _ _; first | refine D_runL tok ?_ ?_ (h := by intro R; simp (maxSteps := 1000000) (disch := omega) only [go_sem, wrap_i64_id, hg, hpl, hsl, hgb, hrm, hkl, hkb, hpl3, hsn, hqr]; with_reducible exact rfl)) | (show Ev _ _ _ _; first | refine W_ifF ?_ | refine Ev_skip ?_) | refine Q_thenN ?_ | fail)
      all_goals (try exact sd)
      all_goals (try refine F_done ?_)
      refine W_frzC ρ.length ?_ (hs := by simp (disch := omega) only [hpl, hpl3, frzAt, frzAtL, if_pos, if_neg, and_self, if_true]; exact rfl)
      repeat' (first | (show Ev _ (.region _ _ true) _ _; refine D_startA [9, 21, 49, 51, 54, 65, 68, 99998] mix ?_) | (show DrD _ _ _ [] _ _ _ _; refine D_nil ?_; try dsimp only) | (show DrD _ EA _ (_ :: _) _ _ _ _; first | refine D_runLA tok ?_ ?_ (h := by intro R; simp (maxSteps := 1000000) (disch := omega) only [go_sem, wrap_i64_id, hg, hpl, hsl, hgb, hrm, hkl, hkb, hpl3]; with_reducible exact rfl)) | (show DrD _ _ _ (_ :: _) _ _ _ _; first | refine D_store tok ?_ ?_ | refine D_hold tok ?_ ?_) | (show Ev _ _ _ _; refine W_reg ?_) | (show EvD _ _ [] _ _ _; refine W_nil ?_) | (show EvD _ _ (_ :: _) _ _ _; first | refine W_run tok ?_ ?_ (by simp (maxSteps := 1000000) (disch := omega) only [go_sem, wrap_i64_id, hg, hpl, hsl, hgb, hrm, hkl, hkb, hpl3]; with_reducible exact rfl)) | refine Q_thenN ?_ | refine Q_blkN ?_ | fail)
      all_goals (try exact sd)
      all_goals (try refine F_done ?_)
      refine Q_rndC (Rb := σ.rows) (A := σ.boxes) (Mb := σ.maps) (R := rowsC (cst ls bd ks i)) (R' := rowsC (cst ls bd ks (i + 1))) (B := [some ⟨25, [.sl (secs (cst ls bd ks i).1), .sl (pends []), .int .i64 (cst ls bd ks i).2.1, .bool false]⟩, some ⟨27, [.int .i64 2, .int .i64 16, .int .i64 0, .int .i64 1]⟩, some ⟨27, logB (cst ls bd ks i).2.2.1⟩]) (B' := [some ⟨25, [.sl (secs (cst ls bd ks (i + 1)).1), .sl (pends []), .int .i64 (cst ls bd ks (i + 1)).2.1, .bool false]⟩, some ⟨27, [.int .i64 2, .int .i64 16, .int .i64 0, .int .i64 1]⟩, some ⟨27, logB (cst ls bd ks (i + 1)).2.2.1⟩]) (M := []) (M' := []) (mg := []) ?_ (by omega) (by first | rfl | (simp only [List.append_nil]; done) | (simp only [List.append_nil, logB]; done)) (by first | rfl | (simp only [List.append_nil]; done) | (simp only [List.append_nil, logB]; done)) (by rw [hs1]; simp only [rowsC, hρ, rows_turn, List.append_assoc, List.cons_append, List.nil_append]; exact rfl) (by rw [hs1]; simp only [logB, List.append_assoc, List.cons_append, List.nil_append]; exact rfl) (by first | exact rfl | (simp; done)) (by rw [rowsC_len, rowsC_len, hti, hs1]; simp) (by simp) (by simp) (by rw [hs1]; simp [nameds, DV.named, bytes_named, nameds_append, secs_named, pends_named, keepsD_named, rowsC_len] <;> omega) (rowsC_all _ _ _ _) (by rw [hs1]; simp only [logB]; repeat (first | exact allN_nil _ | refine allN_none ?_ | refine allN_some (by first | exact bytes_named _ _ _ _ | (simp [nameds, DV.named, bytes_named, nameds_append, secs_named, pends_named] <;> omega)) ?_)) (by simp)
      repeat (first | exact LeL.nil | refine LeL.cons2 ?_ (Le.undef _) | refine LeL.cons2 ?_ (Le.refl _) | refine LeL.cons2 ?_ (Le.sl _) | refine LeL.cons2 ?_ (Le.eq (by first | rfl | exact congrArg _ (by omega))) | refine LeL.cons2 ?_ (Le.eq ?_))
      all_goals first | (rw [hs1]; simp [hρl]; done) | (rw [hs1]; show DV.row (ρ.length + 1) _ = DV.row (σ.rows.length + (c + 1)) _; rw [hρl]; exact congrArg (fun z => DV.row z _) (by omega)) | (rw [hs1, hρl]; exact congrArg (fun z => DV.row z _) (by omega)) | exact ⟨of_eq_true (pends_two _), of_eq_true (pends_c1 _ _), by omega⟩ | trace_state
  ·have hb0 : budN bd L i = L := by unfold budN; rw [if_neg hbi]
   rw [hb0] at hb hcs iA hs1
   cases hcs with
   | ok S' L' hX h a b =>
    rw [hX] at iA hs1
    rw [if_pos rfl] at hs1
    simp only at hs1
    have iA : Con Try.prog 10 [diskD S [] L false, logD 2 16 (endA 0 r) (1 + (r.length : Int)), .sl (bytes d)] True (.tup [diskD S' [] L' false, logD 2 16 (endA 0 r + secQ d) (1 + (r.length : Int) + 1), .int .i64 0]) := iA
    have hsn := pends_snoc2 r (1 + (r.length : Int)) d
    have hen2 := endA_snoc r 0 (1 + (r.length : Int), d)
    have hle2 : (1 : Int) + ((r ++ [(1 + (r.length : Int), d)]).length : Int) = 1 + (r.length : Int) + 1 := by simp; omega
    repeat' (first | (show Ev _ _ _ _; first | refine Ev_seq ?_ | (show Ev _ (.region _ _ false) _ _; refine W_reg ?_) | refine Ev_block ?_ | refine W_ifT ?_ | refine W_ifY ?_ | refine W_ifN ?_ | refine Ev_skip ?_) | (show EvD _ _ [] _ _ _; refine W_nil ?_) | (show EvD _ _ (⟨_, _, _, _, _, some _⟩ :: _) _ _ _; refine W_grdY ?_) | (show EvD _ _ (_ :: _) _ _ _; first | refine W_run tok ?_ ?_ (by simp (maxSteps := 1000000) (disch := omega) only [go_sem, wrap_i64_id, hg, hpl, hsl]; with_reducible exact rfl) | refine W_callee ?_) | (show EvC _ _ _ _ _ _ _ _ _; refine W_con ?_ ?_) | refine Q_thenN ?_ | fail)
    all_goals (try exact sd)
    all_goals (try refine F_done ?_)
    repeat' (first | (show Ev _ (.region 18 _ true) _ _; refine D_startW2 [9, 21, 49, 51, 54, 65, 68] (fun u v => σ.boxes ++ [u, some ⟨27, [.int .i64 2, .int .i64 16, .int .i64 0, .int .i64 1]⟩, v, some ⟨25, [.sl (secs S'), .sl (pends []), .int .i64 L', .bool false]⟩, some ⟨27, [.int .i64 2, .int .i64 16, .int .i64 (endA 0 r + secQ d), .int .i64 (1 + (r.length:Int) + 1)]⟩, some ⟨46, [.int .i64 (1 + (r.length:Int)), .sl (bytes d)]⟩]) mix ?_) | (show DrD _ (EW2 _) _ [] _ _ _ _; refine D_nil ?_ (hE := ⟨_, _, _, _, rfl⟩); try dsimp only) | (show DrD _ (EW2 _) _ (_ :: _) _ _ _ _; first | refine D_runLW2 tok ?_ ?_ (h := by intro R u v M; simp (maxSteps := 1000000) (disch := omega) only [go_sem, wrap_i64_id, hg, hpl, hsl, hsn]; with_reducible exact rfl) | refine D_store tok ?_ ?_ (hE := ⟨_, _, _, _, rfl⟩)) | (show Ev _ _ _ _; first | refine W_reg ?_ | refine Ev_exit ?_) | (show EvD _ _ [] _ _ _; refine W_nil ?_) | (show EvD _ _ (_ :: _) _ _ _; first | refine W_run tok ?_ ?_ (by simp (maxSteps := 1000000) (disch := omega) only [go_sem, wrap_i64_id, hg, hpl, hsl, hsn]; with_reducible exact rfl)) | refine Q_thenN ?_ | refine Q_thenE ?_ | refine Q_blkE ?_ | fail)
    all_goals (try exact sd)
    all_goals (try refine F_done ?_)
    refine Q_rndC (Rb := σ.rows) (A := σ.boxes) (Mb := σ.maps) (R := rowsC (cst ls bd ks i)) (R' := rowsC (cst ls bd ks (i + 1))) (B := [some ⟨25, [.sl (secs (cst ls bd ks i).1), .sl (pends []), .int .i64 (cst ls bd ks i).2.1, .bool false]⟩, some ⟨27, [.int .i64 2, .int .i64 16, .int .i64 0, .int .i64 1]⟩, some ⟨27, logB (cst ls bd ks i).2.2.1⟩]) (B' := [some ⟨25, [.sl (secs (cst ls bd ks (i + 1)).1), .sl (pends []), .int .i64 (cst ls bd ks (i + 1)).2.1, .bool false]⟩, some ⟨27, [.int .i64 2, .int .i64 16, .int .i64 0, .int .i64 1]⟩, some ⟨27, logB (cst ls bd ks (i + 1)).2.2.1⟩]) (M := []) (M' := []) (mg := []) ?_ (by omega) (by first | rfl | (simp only [List.append_nil]; done) | (simp only [List.append_nil, logB]; done)) (by first | rfl | (simp only [List.append_nil]; done) | (simp only [List.append_nil, logB]; done)) (by rw [hs1]; simp only [rowsC, hρ, hsn, List.append_assoc, List.cons_append, List.nil_append]; exact rfl) (by rw [hs1]; simp only [logB, hen2, hle2, List.append_assoc, List.cons_append, List.nil_append]; exact rfl) (by first | exact rfl | (simp; done)) (by rw [rowsC_len, rowsC_len, hti, hs1]; simp) (by simp) (by simp) (by rw [hs1]; simp [nameds, DV.named, bytes_named, nameds_append, secs_named, pends_named, keepsD_named, rowsC_len] <;> omega) (rowsC_all _ _ _ _) (by rw [hs1]; simp only [logB]; repeat (first | exact allN_nil _ | refine allN_none ?_ | refine allN_some (by first | exact bytes_named _ _ _ _ | (simp [nameds, DV.named, bytes_named, nameds_append, secs_named, pends_named] <;> omega)) ?_)) (by simp)
    repeat (first | exact LeL.nil | refine LeL.cons2 ?_ (Le.undef _) | refine LeL.cons2 ?_ (Le.refl _) | refine LeL.cons2 ?_ (Le.sl _) | refine LeL.cons2 ?_ (Le.eq (by first | rfl | exact congrArg _ (by omega))) | refine LeL.cons2 ?_ (Le.eq ?_))
    all_goals first | (rw [hs1]; simp [hρl]; done) | (rw [hs1, hρl]; exact congrArg (fun z => DV.row z _) (by omega)) | exact ⟨of_eq_true (pends_two _), of_eq_true (pends_c1 _ _), by omega⟩ | trace_state
   | no e h0 h10 hX =>
    rw [hX] at iA hs1
    rw [if_neg h0, if_neg h10] at hs1
    have iA : Con Try.prog 10 [diskD S [] L false, logD 2 16 (endA 0 r) (1 + (r.length : Int)), .sl (bytes d)] True (.tup [diskD [] [] 0 false, logD 0 0 0 0, .int .i64 e]) := iA
    have z0 : decide (e = 0) = false := decide_eq_false h0
    have z10 : decide (e = 10) = false := decide_eq_false h10
    repeat' (first | (show Ev _ _ _ _; first | refine Ev_seq ?_ | (show Ev _ (.region _ _ false) _ _; refine W_reg ?_) | refine Ev_block ?_ | refine W_ifT ?_ | refine W_ifF ?_ | refine W_ifY ?_ | refine W_ifN ?_ | refine Ev_skip ?_ | refine Ev_exit ?_) | (show EvD _ _ [] _ _ _; refine W_nil ?_) | (show EvD _ _ (⟨_, _, _, _, _, some _⟩ :: _) _ _ _; refine W_grdY ?_) | (show EvD _ _ (_ :: _) _ _ _; first | refine W_run tok ?_ ?_ (by simp (maxSteps := 1000000) (disch := omega) only [go_sem, wrap_i64_id, hg, hpl, hsl, z0, z10]; with_reducible exact rfl) | refine W_callee ?_) | (show EvC _ _ _ _ _ _ _ _ _; refine W_con ?_ ?_) | refine Q_thenN ?_ | refine Q_thenE ?_ | refine Q_blkE ?_ | fail)
    all_goals (try exact sd)
    all_goals (try refine F_done ?_)
    refine Q_rndC (Rb := σ.rows) (A := σ.boxes) (Mb := σ.maps) (R := rowsC (cst ls bd ks i)) (R' := rowsC (cst ls bd ks (i + 1))) (B := [some ⟨25, [.sl (secs (cst ls bd ks i).1), .sl (pends []), .int .i64 (cst ls bd ks i).2.1, .bool false]⟩, some ⟨27, [.int .i64 2, .int .i64 16, .int .i64 0, .int .i64 1]⟩, some ⟨27, logB (cst ls bd ks i).2.2.1⟩]) (B' := [some ⟨25, [.sl (secs (cst ls bd ks (i + 1)).1), .sl (pends []), .int .i64 (cst ls bd ks (i + 1)).2.1, .bool false]⟩, some ⟨27, [.int .i64 2, .int .i64 16, .int .i64 0, .int .i64 1]⟩, some ⟨27, logB (cst ls bd ks (i + 1)).2.2.1⟩]) (M := []) (M' := []) (mg := []) ?_ (by omega) (by first | rfl | (simp only [List.append_nil]; done) | (simp only [List.append_nil, logB]; done)) (by first | rfl | (simp only [List.append_nil]; done) | (simp only [List.append_nil, logB]; done)) (by rw [hs1]; simp only [rowsC, hρ, List.append_assoc, List.cons_append, List.nil_append]; exact rfl) (by rw [hs1]; simp only [logB, List.append_assoc, List.cons_append, List.nil_append]; exact rfl) (by first | exact rfl | (simp; done)) (by rw [rowsC_len, rowsC_len, hti, hs1]; simp) (by simp) (by simp) (by rw [hs1]; simp [nameds, DV.named, bytes_named, nameds_append, secs_named, pends_named, keepsD_named, rowsC_len] <;> omega) (rowsC_all _ _ _ _) (by rw [hs1]; simp only [logB]; repeat (first | exact allN_nil _ | refine allN_none ?_ | refine allN_some (by first | exact bytes_named _ _ _ _ | (simp [nameds, DV.named, bytes_named, nameds_append, secs_named, pends_named] <;> omega)) ?_)) (by simp)
    repeat (first | exact LeL.nil | refine LeL.cons2 ?_ (Le.undef _) | refine LeL.cons2 ?_ (Le.refl _) | refine LeL.cons2 ?_ (Le.sl _) | refine LeL.cons2 ?_ (Le.eq (by first | rfl | exact congrArg _ (by omega))) | refine LeL.cons2 ?_ (Le.eq ?_))
    all_goals first | (rw [hs1]; simp [hρl]; done) | (rw [hs1, hρl]; exact congrArg (fun z => DV.row z _) (by omega)) | trace_state
   | cut Sx Wx Lx hX a hgx hlx h =>
    rw [hX] at iA hs1
    rw [if_neg (by simp), if_pos rfl] at hs1
    simp only at hs1
    have iA : Con Try.prog 10 [diskD S [] L false, logD 2 16 (endA 0 r) (1 + (r.length : Int)), .sl (bytes d)] True (.tup [diskD Sx Wx Lx true, logD 0 0 0 0, .int .i64 10]) := iA
    by_cases hki : i < ks.length
    ·have hkk : kpN ks i = ks.getD i [] := by unfold kpN; rw [if_pos hki]
     have hgk := keepsD_get hki
     rw [hkk] at hs1
     generalize ks.getD i [] = kp at hs1 hgk
     have hk := h kp
     have iC : Con Try.prog 28 [diskD Sx Wx Lx true, .sl (boolsD kp)] True (diskD (crashS Sx Wx kp) [] (-1) false) := by
      refine con_eq (i_disk_Crash Sx Wx Lx true kp) ⟨by have := hgx.1.1; omega, by omega⟩ ?_
      rw [diskIf_pos (good_may hgx (by omega) (by omega) a)]
     generalize crashS Sx Wx kp = Sc at iC hk hs1
     rcases hk with hk | hk
     ·have hsc := hk.scan
      rw [hsc] at hs1
      simp only at hs1
      have hScl := hk.good.1.1
      have iSc : ConT Try.prog 21 [diskD Sc [] (-1) false, logD 2 16 0 1] True (.tup [.row 0 r.length, logD 2 16 (endA 0 r) (1 + (r.length : Int)), .int .i64 0]) [⟨pends r, 46, 2⟩] [] [] := ⟨fun _ => by
       have hx := cx_wal_Scan Sc [] (-1) false 2 16 0 1 ⟨⟨by omega, by simp⟩, hk.may0, by rw [hsc]⟩
       rw [hsc] at hx
       exact hx⟩
      have hrl2 : r.length ≤ 13 := by omega
      have hpl3 := pends_len r
      have iSm : Pure Try.prog 22 [.sl (pends r), .sl (pends r)] (.bool true) := by
       have h := c_bursarref06_Same r r ⟨by omega, by omega⟩
       rwa [decide_eq_true rfl] at h
      repeat' (first | (show Ev _ _ _ _; first | refine Ev_seq ?_ | (show Ev _ (.region _ _ false) _ _; refine W_reg ?_) | refine Ev_block ?_ | refine W_ifF ?_ | refine W_ifY ?_ | refine W_ifN ?_ | refine Ev_skip ?_) | (show EvD _ _ [] _ _ _; refine W_nil ?_) | (show EvD _ _ (⟨_, _, _, _, _, some _⟩ :: _) _ _ _; refine W_grdY ?_) | (show EvD _ _ (_ :: _) _ _ _; first | refine W_run tok ?_ ?_ (by simp (maxSteps := 1000000) (disch := omega) only [go_sem, wrap_i64_id, hg, hpl, hsl, hgk, hkl, hpl3]; with_reducible exact rfl) | refine W_callee ?_) | (show EvC _ _ _ _ _ _ _ _ _; first | refine W_conT ?_ ?_ | refine W_con ?_ ?_) | refine Q_thenN ?_ | fail)
      all_goals (try exact sd)
      all_goals (try refine F_done ?_)
      refine D_startF [false, false, false, false, false, true, false, false, false, false, false, false, false, false, false, false, false, false, false] mix ?_
      repeat' (first | (show DrD _ (EB _ _) _ (_ :: _) _ _ _ _; first | refine D_runL tok ?_ ?_ (h := by intro R; simp (maxSteps := 1000000) (disch := omega) only [go_sem, wrap_i64_id, hg, hpl, hsl, hgk, hkl, hpl3]; with_reducible exact rfl)) | fail)
      all_goals (try exact sd)
      all_goals (try refine F_done ?_)
      refine D_does (args' := [.row (ρ.length + 1) r.length, .row ρ.length r.length]) (hle := by first | rfl | simp only [weakL, List.map_cons, List.map_nil, weakD_row, weakD_sl]) (Does.keep iSm (by repeat (first | exact ThawL.nil | refine ThawL.cons (Thaw.mk (by (try simp only [app_get, app_get0, List.getElem?_cons_succ, List.getElem?_cons_zero]) <;> exact rfl) (by first | rfl | (simp only [go_sem]; done) | (simp only [go_sem]; omega)) (pends_named _ _ _ _)) ?_)) (.bool _)) ?_
      repeat' (first | (show DrD _ _ _ [] _ _ _ _; refine D_nil ?_; try dsimp only) | (show DrD _ (EB _ _) _ (_ :: _) _ _ _ _; first | refine D_runL tok ?_ ?_ (h := by intro R; simp (maxSteps := 1000000) (disch := omega) only [go_sem, wrap_i64_id, hg, hpl, hsl, hgk, hkl, hpl3]; with_reducible exact rfl)) | (show DrD _ _ _ (_ :: _) _ _ _ _; refine D_off ?_) | (show Ev _ _ _ _; first | refine W_ifF ?_ | refine Ev_skip ?_) | refine Q_thenN ?_ | fail)
      all_goals (try exact sd)
      all_goals (try refine F_done ?_)
      refine W_frzC ρ.length ?_ (hs := by simp (disch := omega) only [hpl, hpl3, frzAt, frzAtL, if_pos, if_neg, and_self, if_true]; exact rfl)
      repeat' (first | (show Ev _ (.region _ _ true) _ _; refine D_startA [9, 21, 49, 51, 54, 65, 68, 99998] mix ?_) | (show DrD _ _ _ [] _ _ _ _; refine D_nil ?_; try dsimp only) | (show DrD _ EA _ (_ :: _) _ _ _ _; first | refine D_runLA tok ?_ ?_ (h := by intro R; simp (maxSteps := 1000000) (disch := omega) only [go_sem, wrap_i64_id, hg, hpl, hsl, hgk, hkl, hpl3]; with_reducible exact rfl)) | (show DrD _ _ _ (_ :: _) _ _ _ _; first | refine D_store tok ?_ ?_ | refine D_hold tok ?_ ?_) | (show Ev _ _ _ _; refine W_reg ?_) | (show EvD _ _ [] _ _ _; refine W_nil ?_) | (show EvD _ _ (_ :: _) _ _ _; first | refine W_run tok ?_ ?_ (by simp (maxSteps := 1000000) (disch := omega) only [go_sem, wrap_i64_id, hg, hpl, hsl, hgk, hkl, hpl3]; with_reducible exact rfl)) | refine Q_thenN ?_ | refine Q_blkN ?_ | fail)
      all_goals (try exact sd)
      all_goals (try refine F_done ?_)
      refine Q_rndC (Rb := σ.rows) (A := σ.boxes) (Mb := σ.maps) (R := rowsC (cst ls bd ks i)) (R' := rowsC (cst ls bd ks (i + 1))) (B := [some ⟨25, [.sl (secs (cst ls bd ks i).1), .sl (pends []), .int .i64 (cst ls bd ks i).2.1, .bool false]⟩, some ⟨27, [.int .i64 2, .int .i64 16, .int .i64 0, .int .i64 1]⟩, some ⟨27, logB (cst ls bd ks i).2.2.1⟩]) (B' := [some ⟨25, [.sl (secs (cst ls bd ks (i + 1)).1), .sl (pends []), .int .i64 (cst ls bd ks (i + 1)).2.1, .bool false]⟩, some ⟨27, [.int .i64 2, .int .i64 16, .int .i64 0, .int .i64 1]⟩, some ⟨27, logB (cst ls bd ks (i + 1)).2.2.1⟩]) (M := []) (M' := []) (mg := []) ?_ (by omega) (by first | rfl | (simp only [List.append_nil]; done) | (simp only [List.append_nil, logB]; done)) (by first | rfl | (simp only [List.append_nil]; done) | (simp only [List.append_nil, logB]; done)) (by rw [hs1]; simp only [rowsC, hρ, rows_turn, List.append_assoc, List.cons_append, List.nil_append]; exact rfl) (by rw [hs1]; simp only [logB, List.append_assoc, List.cons_append, List.nil_append]; exact rfl) (by first | exact rfl | (simp; done)) (by rw [rowsC_len, rowsC_len, hti, hs1]; simp) (by simp) (by simp) (by rw [hs1]; simp [nameds, DV.named, bytes_named, nameds_append, secs_named, pends_named, keepsD_named, rowsC_len] <;> omega) (rowsC_all _ _ _ _) (by rw [hs1]; simp only [logB]; repeat (first | exact allN_nil _ | refine allN_none ?_ | refine allN_some (by first | exact bytes_named _ _ _ _ | (simp [nameds, DV.named, bytes_named, nameds_append, secs_named, pends_named] <;> omega)) ?_)) (by simp)
      repeat (first | exact LeL.nil | refine LeL.cons2 ?_ (Le.undef _) | refine LeL.cons2 ?_ (Le.refl _) | refine LeL.cons2 ?_ (Le.sl _) | refine LeL.cons2 ?_ (Le.eq (by first | rfl | exact congrArg _ (by omega))) | refine LeL.cons2 ?_ (Le.eq ?_))
      all_goals first | (rw [hs1]; simp [hρl]; done) | (rw [hs1]; show DV.row (ρ.length + 1) _ = DV.row (σ.rows.length + (c + 1)) _; rw [hρl]; exact congrArg (fun z => DV.row z _) (by omega)) | (rw [hs1, hρl]; exact congrArg (fun z => DV.row z _) (by omega)) | exact ⟨of_eq_true (pends_two _), of_eq_true (pends_c1 _ _), by omega⟩ | trace_state
     ·have hsc := hk.scan
      rw [hsc] at hs1
      simp only at hs1
      have hScl := hk.good.1.1
      have iSc : ConT Try.prog 21 [diskD Sc [] (-1) false, logD 2 16 0 1] True (.tup [.row 0 (r ++ [(1 + (r.length : Int), d)]).length, logD 2 16 (endA 0 (r ++ [(1 + (r.length : Int), d)])) (1 + ((r ++ [(1 + (r.length : Int), d)]).length : Int)), .int .i64 0]) [⟨pends (r ++ [(1 + (r.length : Int), d)]), 46, 2⟩] [] [] := ⟨fun _ => by
       have hx := cx_wal_Scan Sc [] (-1) false 2 16 0 1 ⟨⟨by omega, by simp⟩, hk.may0, by rw [hsc]⟩
       rw [hsc] at hx
       exact hx⟩
      have hrl2 : (r ++ [(1 + (r.length : Int), d)]).length ≤ 13 := by rw [List.length_append, List.length_singleton]; omega
      have hpl3 := pends_len (r ++ [(1 + (r.length : Int), d)])
      have hsn := pends_snoc2 r (1 + (r.length : Int)) d
      have hnr : (r ++ [(1 + (r.length : Int), d)]) ≠ r := fun hh => by have := congrArg List.length hh; rw [List.length_append, List.length_singleton] at this; omega
      have hql : r.length + 1 = (r ++ [(1 + (r.length : Int), d)]).length := by simp
      generalize hqr : (r ++ [(1 + (r.length : Int), d)]) = q at *
      have iSm : Pure Try.prog 22 [.sl (pends q), .sl (pends r)] (.bool false) := by
       have h := c_bursarref06_Same q r ⟨by omega, by omega⟩
       rwa [decide_eq_false hnr] at h
      have iSq : Pure Try.prog 22 [.sl (pends q), .sl (pends q)] (.bool true) := by
       have h := c_bursarref06_Same q q ⟨by omega, by omega⟩
       rwa [decide_eq_true rfl] at h
      repeat' (first | (show Ev _ _ _ _; first | refine Ev_seq ?_ | (show Ev _ (.region _ _ false) _ _; refine W_reg ?_) | refine Ev_block ?_ | refine W_ifF ?_ | refine W_ifY ?_ | refine W_ifN ?_ | refine Ev_skip ?_) | (show EvD _ _ [] _ _ _; refine W_nil ?_) | (show EvD _ _ (⟨_, _, _, _, _, some _⟩ :: _) _ _ _; refine W_grdY ?_) | (show EvD _ _ (_ :: _) _ _ _; first | refine W_run tok ?_ ?_ (by simp (maxSteps := 1000000) (disch := omega) only [go_sem, wrap_i64_id, hg, hpl, hsl, hgk, hkl, hpl3]; with_reducible exact rfl) | refine W_callee ?_) | (show EvC _ _ _ _ _ _ _ _ _; first | refine W_conT ?_ ?_ | refine W_con ?_ ?_) | refine Q_thenN ?_ | fail)
      all_goals (try exact sd)
      all_goals (try refine F_done ?_)
      refine D_start [22] mix ?_
      repeat' (first | (show DrD _ (EB _ _) _ (_ :: _) _ _ _ _; first | refine D_runL tok ?_ ?_ (h := by intro R; simp (maxSteps := 1000000) (disch := omega) only [go_sem, wrap_i64_id, hg, hpl, hsl, hgk, hkl, hpl3]; with_reducible exact rfl)) | fail)
      all_goals (try exact sd)
      all_goals (try refine F_done ?_)
      refine D_does (args' := [.row (ρ.length + 1) q.length, .row ρ.length r.length]) (hle := by first | rfl | simp only [weakL, List.map_cons, List.map_nil, weakD_row, weakD_sl]) (Does.keep iSm (by repeat (first | exact ThawL.nil | refine ThawL.cons (Thaw.mk (by (try simp only [app_get, app_get0, List.getElem?_cons_succ, List.getElem?_cons_zero]) <;> exact rfl) (by first | rfl | (simp only [go_sem]; done) | (simp only [go_sem]; omega)) (pends_named _ _ _ _)) ?_)) (.bool _)) ?_
      repeat' (first | (show DrD _ (EB _ _) _ (_ :: _) _ _ _ _; first | refine D_runL tok ?_ ?_ (h := by intro R; simp (maxSteps := 1000000) (disch := omega) only [go_sem, wrap_i64_id, hg, hpl, hsl, hgk, hkl, hpl3]; with_reducible exact rfl)) | (show DrD _ _ _ (_ :: _) _ _ _ _; refine D_eff tok ?_ ?_) | fail)
      all_goals (try exact sd)
      all_goals (try refine F_done ?_)
      simp only [hsn]
      refine D_does (args' := [.row (ρ.length + 1) q.length, .row (ρ.length + 2) (r.length + 1)]) (hle := by first | rfl | simp only [weakL, List.map_cons, List.map_nil, weakD_row, weakD_sl]) (Does.keep iSq (by repeat (first | exact ThawL.nil | refine ThawL.cons (Thaw.mk (by (try simp only [app_get, app_get0, List.getElem?_cons_succ, List.getElem?_cons_zero]) <;> exact rfl) (by first | rfl | (simp only [go_sem]; done) | omega) (pends_named _ _ _ _)) ?_)) (.bool _)) ?_
      repeat' (first | (show DrD _ _ _ [] _ _ _ _; refine D_nil ?_; try dsimp only) | (show DrD _ (EB _ _) _ (_ :: _) _ _ _ _; first | refine D_runL tok ?_ ?_ (h := by intro R; simp (maxSteps := 1000000) (disch := omega) only [go_sem, wrap_i64_id, hg, hpl, hsl, hgk, hkl, hpl3, hsn, hqr]; with_reducible exact rfl)) | (show Ev _ _ _ _; first | refine W_ifF ?_ | refine Ev_skip ?_) | refine Q_thenN ?_ | fail)
      all_goals (try exact sd)
      all_goals (try refine F_done ?_)
      refine W_frzC ρ.length ?_ (hs := by simp (disch := omega) only [hpl, hpl3, frzAt, frzAtL, if_pos, if_neg, and_self, if_true]; exact rfl)
      repeat' (first | (show Ev _ (.region _ _ true) _ _; refine D_startA [9, 21, 49, 51, 54, 65, 68, 99998] mix ?_) | (show DrD _ _ _ [] _ _ _ _; refine D_nil ?_; try dsimp only) | (show DrD _ EA _ (_ :: _) _ _ _ _; first | refine D_runLA tok ?_ ?_ (h := by intro R; simp (maxSteps := 1000000) (disch := omega) only [go_sem, wrap_i64_id, hg, hpl, hsl, hgk, hkl, hpl3]; with_reducible exact rfl)) | (show DrD _ _ _ (_ :: _) _ _ _ _; first | refine D_store tok ?_ ?_ | refine D_hold tok ?_ ?_) | (show Ev _ _ _ _; refine W_reg ?_) | (show EvD _ _ [] _ _ _; refine W_nil ?_) | (show EvD _ _ (_ :: _) _ _ _; first | refine W_run tok ?_ ?_ (by simp (maxSteps := 1000000) (disch := omega) only [go_sem, wrap_i64_id, hg, hpl, hsl, hgk, hkl, hpl3]; with_reducible exact rfl)) | refine Q_thenN ?_ | refine Q_blkN ?_ | fail)
      all_goals (try exact sd)
      all_goals (try refine F_done ?_)
      refine Q_rndC (Rb := σ.rows) (A := σ.boxes) (Mb := σ.maps) (R := rowsC (cst ls bd ks i)) (R' := rowsC (cst ls bd ks (i + 1))) (B := [some ⟨25, [.sl (secs (cst ls bd ks i).1), .sl (pends []), .int .i64 (cst ls bd ks i).2.1, .bool false]⟩, some ⟨27, [.int .i64 2, .int .i64 16, .int .i64 0, .int .i64 1]⟩, some ⟨27, logB (cst ls bd ks i).2.2.1⟩]) (B' := [some ⟨25, [.sl (secs (cst ls bd ks (i + 1)).1), .sl (pends []), .int .i64 (cst ls bd ks (i + 1)).2.1, .bool false]⟩, some ⟨27, [.int .i64 2, .int .i64 16, .int .i64 0, .int .i64 1]⟩, some ⟨27, logB (cst ls bd ks (i + 1)).2.2.1⟩]) (M := []) (M' := []) (mg := []) ?_ (by omega) (by first | rfl | (simp only [List.append_nil]; done) | (simp only [List.append_nil, logB]; done)) (by first | rfl | (simp only [List.append_nil]; done) | (simp only [List.append_nil, logB]; done)) (by rw [hs1]; simp only [rowsC, hρ, rows_turn, List.append_assoc, List.cons_append, List.nil_append]; exact rfl) (by rw [hs1]; simp only [logB, List.append_assoc, List.cons_append, List.nil_append]; exact rfl) (by first | exact rfl | (simp; done)) (by rw [rowsC_len, rowsC_len, hti, hs1]; simp) (by simp) (by simp) (by rw [hs1]; simp [nameds, DV.named, bytes_named, nameds_append, secs_named, pends_named, keepsD_named, rowsC_len] <;> omega) (rowsC_all _ _ _ _) (by rw [hs1]; simp only [logB]; repeat (first | exact allN_nil _ | refine allN_none ?_ | refine allN_some (by first | exact bytes_named _ _ _ _ | (simp [nameds, DV.named, bytes_named, nameds_append, secs_named, pends_named] <;> omega)) ?_)) (by simp)
      repeat (first | exact LeL.nil | refine LeL.cons2 ?_ (Le.undef _) | refine LeL.cons2 ?_ (Le.refl _) | refine LeL.cons2 ?_ (Le.sl _) | refine LeL.cons2 ?_ (Le.eq (by first | rfl | exact congrArg _ (by omega))) | refine LeL.cons2 ?_ (Le.eq ?_))
      all_goals first | (rw [hs1]; simp [hρl]; done) | (rw [hs1]; show DV.row (ρ.length + 1) _ = DV.row (σ.rows.length + (c + 1)) _; rw [hρl]; exact congrArg (fun z => DV.row z _) (by omega)) | (rw [hs1, hρl]; exact congrArg (fun z => DV.row z _) (by omega)) | exact ⟨of_eq_true (pends_two _), of_eq_true (pends_c1 _ _), by omega⟩ | trace_state
    ·have hkk : kpN ks i = [] := by unfold kpN; rw [if_neg hki]
     rw [hkk] at hs1
     obtain ⟨kp, hkp⟩ : ∃ kp : List Bool, kp = [] := ⟨_, rfl⟩
     rw [← hkp] at hs1
     have hkb : boolsD kp = [] := by rw [hkp]; rfl
     have hk := h kp
     have iC : Con Try.prog 28 [diskD Sx Wx Lx true, .sl (boolsD kp)] True (diskD (crashS Sx Wx kp) [] (-1) false) := by
      refine con_eq (i_disk_Crash Sx Wx Lx true kp) ⟨by have := hgx.1.1; omega, by omega⟩ ?_
      rw [diskIf_pos (good_may hgx (by omega) (by omega) a)]
     rw [hkb] at iC
     generalize crashS Sx Wx kp = Sc at iC hk hs1
     rcases hk with hk | hk
     ·have hsc := hk.scan
      rw [hsc] at hs1
      simp only at hs1
      have hScl := hk.good.1.1
      have iSc : ConT Try.prog 21 [diskD Sc [] (-1) false, logD 2 16 0 1] True (.tup [.row 0 r.length, logD 2 16 (endA 0 r) (1 + (r.length : Int)), .int .i64 0]) [⟨pends r, 46, 2⟩] [] [] := ⟨fun _ => by
       have hx := cx_wal_Scan Sc [] (-1) false 2 16 0 1 ⟨⟨by omega, by simp⟩, hk.may0, by rw [hsc]⟩
       rw [hsc] at hx
       exact hx⟩
      have hrl2 : r.length ≤ 13 := by omega
      have hpl3 := pends_len r
      have iSm : Pure Try.prog 22 [.sl (pends r), .sl (pends r)] (.bool true) := by
       have h := c_bursarref06_Same r r ⟨by omega, by omega⟩
       rwa [decide_eq_true rfl] at h
      repeat' (first | (show Ev _ _ _ _; first | refine Ev_seq ?_ | (show Ev _ (.region _ _ false) _ _; refine W_reg ?_) | refine Ev_block ?_ | refine W_ifF ?_ | refine W_ifY ?_ | refine W_ifN ?_ | refine Ev_skip ?_) | (show EvD _ _ [] _ _ _; refine W_nil ?_) | (show EvD _ _ (⟨_, _, _, _, _, some _⟩ :: _) _ _ _; refine W_grdY ?_) | (show EvD _ _ (_ :: _) _ _ _; first | refine W_run tok ?_ ?_ (by simp (maxSteps := 1000000) (disch := omega) only [go_sem, wrap_i64_id, hg, hpl, hsl, hkl, hkb, hpl3]; with_reducible exact rfl) | refine W_callee ?_) | (show EvC _ _ _ _ _ _ _ _ _; first | refine W_conT ?_ ?_ | refine W_con ?_ ?_ | refine W_weak ?_) | refine Q_thenN ?_ | fail)
      all_goals (try exact sd)
      all_goals (try refine F_done ?_)
      refine D_startF [false, false, false, false, false, true, false, false, false, false, false, false, false, false, false, false, false, false, false] mix ?_
      repeat' (first | (show DrD _ (EB _ _) _ (_ :: _) _ _ _ _; first | refine D_runL tok ?_ ?_ (h := by intro R; simp (maxSteps := 1000000) (disch := omega) only [go_sem, wrap_i64_id, hg, hpl, hsl, hkl, hkb, hpl3]; with_reducible exact rfl)) | fail)
      all_goals (try exact sd)
      all_goals (try refine F_done ?_)
      refine D_does (args' := [.row (ρ.length + 1) r.length, .row ρ.length r.length]) (hle := by first | rfl | simp only [weakL, List.map_cons, List.map_nil, weakD_row, weakD_sl]) (Does.keep iSm (by repeat (first | exact ThawL.nil | refine ThawL.cons (Thaw.mk (by (try simp only [app_get, app_get0, List.getElem?_cons_succ, List.getElem?_cons_zero]) <;> exact rfl) (by first | rfl | (simp only [go_sem]; done) | (simp only [go_sem]; omega)) (pends_named _ _ _ _)) ?_)) (.bool _)) ?_
      repeat' (first | (show DrD _ _ _ [] _ _ _ _; refine D_nil ?_; try dsimp only) | (show DrD _ (EB _ _) _ (_ :: _) _ _ _ _; first | refine D_runL tok ?_ ?_ (h := by intro R; simp (maxSteps := 1000000) (disch := omega) only [go_sem, wrap_i64_id, hg, hpl, hsl, hkl, hkb, hpl3]; with_reducible exact rfl)) | (show DrD _ _ _ (_ :: _) _ _ _ _; refine D_off ?_) | (show Ev _ _ _ _; first | refine W_ifF ?_ | refine Ev_skip ?_) | refine Q_thenN ?_ | fail)
      all_goals (try exact sd)
      all_goals (try refine F_done ?_)
      refine W_frzC ρ.length ?_ (hs := by simp (disch := omega) only [hpl, hpl3, frzAt, frzAtL, if_pos, if_neg, and_self, if_true]; exact rfl)
      repeat' (first | (show Ev _ (.region _ _ true) _ _; refine D_startA [9, 21, 49, 51, 54, 65, 68, 99998] mix ?_) | (show DrD _ _ _ [] _ _ _ _; refine D_nil ?_; try dsimp only) | (show DrD _ EA _ (_ :: _) _ _ _ _; first | refine D_runLA tok ?_ ?_ (h := by intro R; simp (maxSteps := 1000000) (disch := omega) only [go_sem, wrap_i64_id, hg, hpl, hsl, hkl, hkb, hpl3]; with_reducible exact rfl)) | (show DrD _ _ _ (_ :: _) _ _ _ _; first | refine D_store tok ?_ ?_ | refine D_hold tok ?_ ?_) | (show Ev _ _ _ _; refine W_reg ?_) | (show EvD _ _ [] _ _ _; refine W_nil ?_) | (show EvD _ _ (_ :: _) _ _ _; first | refine W_run tok ?_ ?_ (by simp (maxSteps := 1000000) (disch := omega) only [go_sem, wrap_i64_id, hg, hpl, hsl, hkl, hkb, hpl3]; with_reducible exact rfl)) | refine Q_thenN ?_ | refine Q_blkN ?_ | fail)
      all_goals (try exact sd)
      all_goals (try refine F_done ?_)
      refine Q_rndC (Rb := σ.rows) (A := σ.boxes) (Mb := σ.maps) (R := rowsC (cst ls bd ks i)) (R' := rowsC (cst ls bd ks (i + 1))) (B := [some ⟨25, [.sl (secs (cst ls bd ks i).1), .sl (pends []), .int .i64 (cst ls bd ks i).2.1, .bool false]⟩, some ⟨27, [.int .i64 2, .int .i64 16, .int .i64 0, .int .i64 1]⟩, some ⟨27, logB (cst ls bd ks i).2.2.1⟩]) (B' := [some ⟨25, [.sl (secs (cst ls bd ks (i + 1)).1), .sl (pends []), .int .i64 (cst ls bd ks (i + 1)).2.1, .bool false]⟩, some ⟨27, [.int .i64 2, .int .i64 16, .int .i64 0, .int .i64 1]⟩, some ⟨27, logB (cst ls bd ks (i + 1)).2.2.1⟩]) (M := []) (M' := []) (mg := []) ?_ (by omega) (by first | rfl | (simp only [List.append_nil]; done) | (simp only [List.append_nil, logB]; done)) (by first | rfl | (simp only [List.append_nil]; done) | (simp only [List.append_nil, logB]; done)) (by rw [hs1]; simp only [rowsC, hρ, rows_turn, List.append_assoc, List.cons_append, List.nil_append]; exact rfl) (by rw [hs1]; simp only [logB, List.append_assoc, List.cons_append, List.nil_append]; exact rfl) (by first | exact rfl | (simp; done)) (by rw [rowsC_len, rowsC_len, hti, hs1]; simp) (by simp) (by simp) (by rw [hs1]; simp [nameds, DV.named, bytes_named, nameds_append, secs_named, pends_named, keepsD_named, rowsC_len] <;> omega) (rowsC_all _ _ _ _) (by rw [hs1]; simp only [logB]; repeat (first | exact allN_nil _ | refine allN_none ?_ | refine allN_some (by first | exact bytes_named _ _ _ _ | (simp [nameds, DV.named, bytes_named, nameds_append, secs_named, pends_named] <;> omega)) ?_)) (by simp)
      repeat (first | exact LeL.nil | refine LeL.cons2 ?_ (Le.undef _) | refine LeL.cons2 ?_ (Le.refl _) | refine LeL.cons2 ?_ (Le.sl _) | refine LeL.cons2 ?_ (Le.eq (by first | rfl | exact congrArg _ (by omega))) | refine LeL.cons2 ?_ (Le.eq ?_))
      all_goals first | (rw [hs1]; simp [hρl]; done) | (rw [hs1]; show DV.row (ρ.length + 1) _ = DV.row (σ.rows.length + (c + 1)) _; rw [hρl]; exact congrArg (fun z => DV.row z _) (by omega)) | (rw [hs1, hρl]; exact congrArg (fun z => DV.row z _) (by omega)) | exact ⟨of_eq_true (pends_two _), of_eq_true (pends_c1 _ _), by omega⟩ | trace_state
     ·have hsc := hk.scan
      rw [hsc] at hs1
      simp only at hs1
      have hScl := hk.good.1.1
      have iSc : ConT Try.prog 21 [diskD Sc [] (-1) false, logD 2 16 0 1] True (.tup [.row 0 (r ++ [(1 + (r.length : Int), d)]).length, logD 2 16 (endA 0 (r ++ [(1 + (r.length : Int), d)])) (1 + ((r ++ [(1 + (r.length : Int), d)]).length : Int)), .int .i64 0]) [⟨pends (r ++ [(1 + (r.length : Int), d)]), 46, 2⟩] [] [] := ⟨fun _ => by
       have hx := cx_wal_Scan Sc [] (-1) false 2 16 0 1 ⟨⟨by omega, by simp⟩, hk.may0, by rw [hsc]⟩
       rw [hsc] at hx
       exact hx⟩
      have hrl2 : (r ++ [(1 + (r.length : Int), d)]).length ≤ 13 := by rw [List.length_append, List.length_singleton]; omega
      have hpl3 := pends_len (r ++ [(1 + (r.length : Int), d)])
      have hsn := pends_snoc2 r (1 + (r.length : Int)) d
      have hnr : (r ++ [(1 + (r.length : Int), d)]) ≠ r := fun hh => by have := congrArg List.length hh; rw [List.length_append, List.length_singleton] at this; omega
      have hql : r.length + 1 = (r ++ [(1 + (r.length : Int), d)]).length := by simp
      generalize hqr : (r ++ [(1 + (r.length : Int), d)]) = q at *
      have iSm : Pure Try.prog 22 [.sl (pends q), .sl (pends r)] (.bool false) := by
       have h := c_bursarref06_Same q r ⟨by omega, by omega⟩
       rwa [decide_eq_false hnr] at h
      have iSq : Pure Try.prog 22 [.sl (pends q), .sl (pends q)] (.bool true) := by
       have h := c_bursarref06_Same q q ⟨by omega, by omega⟩
       rwa [decide_eq_true rfl] at h
      repeat' (first | (show Ev _ _ _ _; first | refine Ev_seq ?_ | (show Ev _ (.region _ _ false) _ _; refine W_reg ?_) | refine Ev_block ?_ | refine W_ifF ?_ | refine W_ifY ?_ | refine W_ifN ?_ | refine Ev_skip ?_) | (show EvD _ _ [] _ _ _; refine W_nil ?_) | (show EvD _ _ (⟨_, _, _, _, _, some _⟩ :: _) _ _ _; refine W_grdY ?_) | (show EvD _ _ (_ :: _) _ _ _; first | refine W_run tok ?_ ?_ (by simp (maxSteps := 1000000) (disch := omega) only [go_sem, wrap_i64_id, hg, hpl, hsl, hkl, hkb, hpl3]; with_reducible exact rfl) | refine W_callee ?_) | (show EvC _ _ _ _ _ _ _ _ _; first | refine W_conT ?_ ?_ | refine W_con ?_ ?_ | refine W_weak ?_) | refine Q_thenN ?_ | fail)
      all_goals (try exact sd)
      all_goals (try refine F_done ?_)
      refine D_start [22] mix ?_
      repeat' (first | (show DrD _ (EB _ _) _ (_ :: _) _ _ _ _; first | refine D_runL tok ?_ ?_ (h := by intro R; simp (maxSteps := 1000000) (disch := omega) only [go_sem, wrap_i64_id, hg, hpl, hsl, hkl, hkb, hpl3]; with_reducible exact rfl)) | fail)
      all_goals (try exact sd)
      all_goals (try refine F_done ?_)
      refine D_does (args' := [.row (ρ.length + 1) q.length, .row ρ.length r.length]) (hle := by first | rfl | simp only [weakL, List.map_cons, List.map_nil, weakD_row, weakD_sl]) (Does.keep iSm (by repeat (first | exact ThawL.nil | refine ThawL.cons (Thaw.mk (by (try simp only [app_get, app_get0, List.getElem?_cons_succ, List.getElem?_cons_zero]) <;> exact rfl) (by first | rfl | (simp only [go_sem]; done) | (simp only [go_sem]; omega)) (pends_named _ _ _ _)) ?_)) (.bool _)) ?_
      repeat' (first | (show DrD _ (EB _ _) _ (_ :: _) _ _ _ _; first | refine D_runL tok ?_ ?_ (h := by intro R; simp (maxSteps := 1000000) (disch := omega) only [go_sem, wrap_i64_id, hg, hpl, hsl, hkl, hkb, hpl3]; with_reducible exact rfl)) | (show DrD _ _ _ (_ :: _) _ _ _ _; refine D_eff tok ?_ ?_) | fail)
      all_goals (try exact sd)
      all_goals (try refine F_done ?_)
      simp only [hsn]
      refine D_does (args' := [.row (ρ.length + 1) q.length, .row (ρ.length + 2) (r.length + 1)]) (hle := by first | rfl | simp only [weakL, List.map_cons, List.map_nil, weakD_row, weakD_sl]) (Does.keep iSq (by repeat (first | exact ThawL.nil | refine ThawL.cons (Thaw.mk (by (try simp only [app_get, app_get0, List.getElem?_cons_succ, List.getElem?_cons_zero]) <;> exact rfl) (by first | rfl | (simp only [go_sem]; done) | omega) (pends_named _ _ _ _)) ?_)) (.bool _)) ?_
      repeat' (first | (show DrD _ _ _ [] _ _ _ _; refine D_nil ?_; try dsimp only) | (show DrD _ (EB _ _) _ (_ :: _) _ _ _ _; first | refine D_runL tok ?_ ?_ (h := by intro R; simp (maxSteps := 1000000) (disch := omega) only [go_sem, wrap_i64_id, hg, hpl, hsl, hkl, hkb, hpl3, hsn, hqr]; with_reducible exact rfl)) | (show Ev _ _ _ _; first | refine W_ifF ?_ | refine Ev_skip ?_) | refine Q_thenN ?_ | fail)
      all_goals (try exact sd)
      all_goals (try refine F_done ?_)
      refine W_frzC ρ.length ?_ (hs := by simp (disch := omega) only [hpl, hpl3, frzAt, frzAtL, if_pos, if_neg, and_self, if_true]; exact rfl)
      repeat' (first | (show Ev _ (.region _ _ true) _ _; refine D_startA [9, 21, 49, 51, 54, 65, 68, 99998] mix ?_) | (show DrD _ _ _ [] _ _ _ _; refine D_nil ?_; try dsimp only) | (show DrD _ EA _ (_ :: _) _ _ _ _; first | refine D_runLA tok ?_ ?_ (h := by intro R; simp (maxSteps := 1000000) (disch := omega) only [go_sem, wrap_i64_id, hg, hpl, hsl, hkl, hkb, hpl3]; with_reducible exact rfl)) | (show DrD _ _ _ (_ :: _) _ _ _ _; first | refine D_store tok ?_ ?_ | refine D_hold tok ?_ ?_) | (show Ev _ _ _ _; refine W_reg ?_) | (show EvD _ _ [] _ _ _; refine W_nil ?_) | (show EvD _ _ (_ :: _) _ _ _; first | refine W_run tok ?_ ?_ (by simp (maxSteps := 1000000) (disch := omega) only [go_sem, wrap_i64_id, hg, hpl, hsl, hkl, hkb, hpl3]; with_reducible exact rfl)) | refine Q_thenN ?_ | refine Q_blkN ?_ | fail)
      all_goals (try exact sd)
      all_goals (try refine F_done ?_)
      refine Q_rndC (Rb := σ.rows) (A := σ.boxes) (Mb := σ.maps) (R := rowsC (cst ls bd ks i)) (R' := rowsC (cst ls bd ks (i + 1))) (B := [some ⟨25, [.sl (secs (cst ls bd ks i).1), .sl (pends []), .int .i64 (cst ls bd ks i).2.1, .bool false]⟩, some ⟨27, [.int .i64 2, .int .i64 16, .int .i64 0, .int .i64 1]⟩, some ⟨27, logB (cst ls bd ks i).2.2.1⟩]) (B' := [some ⟨25, [.sl (secs (cst ls bd ks (i + 1)).1), .sl (pends []), .int .i64 (cst ls bd ks (i + 1)).2.1, .bool false]⟩, some ⟨27, [.int .i64 2, .int .i64 16, .int .i64 0, .int .i64 1]⟩, some ⟨27, logB (cst ls bd ks (i + 1)).2.2.1⟩]) (M := []) (M' := []) (mg := []) ?_ (by omega) (by first | rfl | (simp only [List.append_nil]; done) | (simp only [List.append_nil, logB]; done)) (by first | rfl | (simp only [List.append_nil]; done) | (simp only [List.append_nil, logB]; done)) (by rw [hs1]; simp only [rowsC, hρ, rows_turn, List.append_assoc, List.cons_append, List.nil_append]; exact rfl) (by rw [hs1]; simp only [logB, List.append_assoc, List.cons_append, List.nil_append]; exact rfl) (by first | exact rfl | (simp; done)) (by rw [rowsC_len, rowsC_len, hti, hs1]; simp) (by simp) (by simp) (by rw [hs1]; simp [nameds, DV.named, bytes_named, nameds_append, secs_named, pends_named, keepsD_named, rowsC_len] <;> omega) (rowsC_all _ _ _ _) (by rw [hs1]; simp only [logB]; repeat (first | exact allN_nil _ | refine allN_none ?_ | refine allN_some (by first | exact bytes_named _ _ _ _ | (simp [nameds, DV.named, bytes_named, nameds_append, secs_named, pends_named] <;> omega)) ?_)) (by simp)
      repeat (first | exact LeL.nil | refine LeL.cons2 ?_ (Le.undef _) | refine LeL.cons2 ?_ (Le.refl _) | refine LeL.cons2 ?_ (Le.sl _) | refine LeL.cons2 ?_ (Le.eq (by first | rfl | exact congrArg _ (by omega))) | refine LeL.cons2 ?_ (Le.eq ?_))
      all_goals first | (rw [hs1]; simp [hρl]; done) | (rw [hs1]; show DV.row (ρ.length + 1) _ = DV.row (σ.rows.length + (c + 1)) _; rw [hρl]; exact congrArg (fun z => DV.row z _) (by omega)) | (rw [hs1, hρl]; exact congrArg (fun z => DV.row z _) (by omega)) | exact ⟨of_eq_true (pends_two _), of_eq_true (pends_c1 _ _), by omega⟩ | trace_state
 ·obtain rfl : i = N := by omega
  have iC : Con Try.prog 28 [diskD S [] L false, .sl []] True (diskD S [] (-1) false) := con_eq (i_disk_Crash S [] L false []) ⟨by omega, by simp⟩ (by rw [diskIf_pos (good_may hL.good (by omega) (by omega) hLb.1)]; rfl)
  have iD : Con Try.prog 21 [diskD S [] (-1) false, logD 2 16 0 1] True (.tup [.sl (pends r), logD 2 16 (endA 0 r) (1 + (r.length : Int)), .int .i64 0]) := ⟨fun _ => by
   have hx := c_wal_Scan S [] (-1) false 2 16 0 1 ⟨by omega, by simp⟩
   rw [hL.scan] at hx
   exact hx⟩
  have iM : Con Try.prog 22 [.sl (pends r), .sl (pends r)] True (.bool true) := con_eq (i_bursarref06_Same r r) ⟨by omega, by omega⟩ (by simp)
  have ra : decide (endA 0 r = endA 0 r) = true := decide_eq_true rfl
  have rb : decide (1 + (r.length : Int) = 1 + (r.length : Int)) = true := decide_eq_true rfl
  repeat' (first | (show Ev _ _ _ _; first | refine Ev_seq ?_ | refine W_reg ?_ | refine W_ifF ?_ | refine W_ifN ?_ | refine Ev_exit ?_ | refine Ev_ret ?_) | (show EvD _ _ [] _ _ _; refine W_nil ?_) | (show EvD _ _ (⟨_, _, _, _, _, some _⟩ :: _) _ _ _; refine W_grdP (fun h => ?_) (fun h => ?_)) | (show EvD _ _ (_ :: _) _ _ _; first | refine W_run tok ?_ ?_ (by simp (maxSteps := 1000000) (disch := omega) only [go_sem, wrap_i64_id, hpl, ra, rb, hsl]; with_reducible exact rfl) | refine W_callee ?_) | (show EvC _ _ _ _ _ _ _ _ _; first | refine W_con ?_ ?_ | refine W_weak ?_ | refine W_frzArg ?_) | refine Q_thenN ?_ | refine Q_thenE ?_ | refine Q_blkE ?_ | refine Q_rndE ?_ | fail)
  all_goals (try exact sd)
  all_goals (try refine F_done ?_)
  all_goals first | (refine R_ret ?_ trivial (hg := ⟨⟨List.replicate c none ++ [none], by rw [hρ, List.append_assoc]⟩, ⟨_, rfl⟩, ⟨[], (List.append_nil _).symm⟩⟩); first | exact F_done rfl | (refine F_done ?_; first | rfl | (simp; done)) | trace_state) | trace_state
instance i_bursarlaw06_WalCuts (ls : List (List UInt8)) (bd : List UInt8) (ks : List (List Bool)) : Con Try.prog 6 [.sl (secs ls), .sl (bytes bd), .sl (keepsD ks)] (ls.length ≤ 140737488355328 ∧ bd.length ≤ 140737488355328 ∧ ks.length ≤ 140737488355328) (.bool true) := ⟨c_bursarlaw06_WalCuts ls  bd  ks ⟩
end Go.Val.Ytlfnmgmbmgacgaa
