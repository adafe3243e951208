/- What a function answers: rows that it hands back are only read from then on. -/
import Derived.Test.YtloeeiamgaljoaaVGo2
namespace Go.Val
open Go.RowKit
set_option linter.unusedSimpArgs false
set_option linter.unusedVariables false

mutual
/-- A row's handle, wherever it stands, becomes what it holds. -/
def frzA (id : Nat) (xs : List DV) : DV → DV
  | .row i len => if i = id ∧ len = xs.length then .sl xs else .row i len
  | .agg cs => .agg (frzL id xs cs)
  | .tup cs => .tup (frzL id xs cs)
  | d => d
def frzL (id : Nat) (xs : List DV) : List DV → List DV
  | [] => []
  | c :: cs => frzA id xs c :: frzL id xs cs
end
theorem frzL_map (id : Nat) (xs : List DV) : ∀ cs, frzL id xs cs = cs.map (frzA id xs)
  | [] => by simp [frzL]
  | c :: cs => by simp [frzL, frzL_map id xs cs]

section
variable {P : Program} {T : TypeId → TI} {w0 : World} {G : Gh} {σ : Store} {w : World}

theorem StoreRel.frzA (hS : StoreRel w0 G σ w) {id : Nat} {R : Row} (hR : σ.rows[id]? = some (some R)) :
    ∃ G', StoreRel w0 G' ⟨σ.rows.set id none, σ.boxes, σ.maps⟩ w ∧ Ext G σ w G' ⟨σ.rows.set id none, σ.boxes, σ.maps⟩ w ∧ (∀ d v, RelV G σ w d v → RelV G' ⟨σ.rows.set id none, σ.boxes, σ.maps⟩ w (frzA id R.xs d) v) := by
  obtain ⟨G', h1, h2, h3⟩ := hS.frzS hR
  refine ⟨G', h1, h2, fun d v hd => ?_⟩
  induction hd with
  | agg cs vs hl _ ih =>
    rw [Val.frzA, frzL_map]
    refine .agg _ _ (by simpa using hl) (fun i c v hc hv => ?_)
    rw [List.getElem?_map] at hc
    cases hq : cs[i]? with
    | none => rw [hq] at hc; simp at hc
    | some c0 =>
      rw [hq] at hc
      simp only [Option.map_some, Option.some.injEq] at hc
      subst hc
      exact ih i c0 v hq hv
  | tup cs vs hl _ ih =>
    rw [Val.frzA, frzL_map]
    refine .tup _ _ (by simpa using hl) (fun i c v hc hv => ?_)
    rw [List.getElem?_map] at hc
    cases hq : cs[i]? with
    | none => rw [hq] at hc; simp at hc
    | some c0 =>
      rw [hq] at hc
      simp only [Option.map_some, Option.some.injEq] at hc
      subst hc
      exact ih i c0 v hq hv
  | row i len v hid hle h =>
    have := h3 (.row i len) v (.row i len v hid hle h)
    simpa [Val.frzA, frz] using this
  | undef v => exact .undef v
  | int k n => exact .int k n
  | bool b => exact .bool b
  | str s => exact .str s
  | sl xs A n c st b o vs a1 a2 a3 a4 a5 a6 _ => exact (RelV.sl xs A n c st b o vs a1 a2 a3 a4 a5 a6).ext h2
  | slt xs A n st b o vs a1 a3 a4 a5 a6 _ => exact (RelV.slt xs A n st b o vs a1 a3 a4 a5 a6).ext h2
  | ptr b off hb => exact (RelV.ptr b off hb).ext h2
  | cp cs b o vs a1 a2 a3 _ => exact (RelV.cp cs b o vs a1 a2 a3).ext h2
  | rp i l j o v a1 a2 a3 => exact (RelV.rp i l j o v a1 a2 a3).ext h2
  | nilp => exact .nilp
  | fn f fs cs us vs a1 a2 a3 a4 _ _ => exact (RelV.fn f fs cs us vs a1 a2 a3 a4).ext h2
  | nilfn => exact .nilfn
  | mp i hid => exact (RelV.mp i hid).ext h2
  | it i hid => exact (RelV.it i hid).ext h2
  | cm ks vs k clock es a1 a2 a3 a4 a5 a6 a7 a8 _ _ => exact (RelV.cm ks vs k clock es a1 a2 a3 a4 a5 a6 a7 a8).ext h2

/-- The answer once its rows are only read. -/
inductive FrzTo (n : Nat) : Store → DV → DV → Prop
  | done {σ : Store} {d : DV} : FrzTo n σ d d
  | le {σ : Store} {r r' d : DV} (hle : Le r r') (h : FrzTo n σ r' d) : FrzTo n σ r d
  | row {σ : Store} {r d : DV} (id : Nat) (R : Row) (hid : n ≤ id) (hR : σ.rows[id]? = some (some R)) (h : FrzTo n ⟨σ.rows.set id none, σ.boxes, σ.maps⟩ (frzA id R.xs r) d) : FrzTo n σ r d
def RP (σ : Store) (d : DV) : DV → Store → Prop := fun r σ' => FrzTo σ.rows.length σ' r d ∧ Grew σ σ'

theorem frzTo_run {σ0 σ' : Store} {G' : Gh} {w' : World} {r d : DV} {v : Value} (h : FrzTo σ0.rows.length σ' r d) (hg : Grew σ0 σ') (hS : StoreRel w0 G' σ' w') (hv : RelV G' σ' w' r v) :
    ∃ G2 σ2, StoreRel w0 G2 σ2 w' ∧ Ext G' σ' w' G2 σ2 w' ∧ RelV G2 σ2 w' d v ∧ Grew σ0 σ2 := by
  induction h generalizing G' with
  | done => exact ⟨G', _, hS, Ext.refl _ _ _, hv, hg⟩
  | le hle _ ih => exact ih hg hS (hle _ _ _ _ hv)
  | row id R hid hR _ ih =>
    obtain ⟨G1, h1, h2, h3⟩ := hS.frzA hR
    obtain ⟨⟨a, ha⟩, hb, hc⟩ := hg
    obtain ⟨G2, σ2, k1, k2, k3, k4⟩ := ih ⟨⟨a.set (id - σ0.rows.length) none, by simp only [ha]; rw [List.set_append_right _ _ hid]⟩, hb, hc⟩ h1 (h3 _ _ hv)
    exact ⟨G2, σ2, k1, h2.trans k2, k3, k4⟩

theorem Pure.of2 {f : FuncId} {args : List DV} {d : DV} (hd : d.named 0 0 0 = true) (h : ∀ σ, Does P f args σ (RP σ d)) : Pure P f args d := by
  refine Pure.of hd (fun σ => ?_)
  intro w0 G vs w hS hr
  refine (h σ w0 G vs w hS hr).mono ?_
  rintro e w' ⟨v, r, σ', G', he, ⟨hf, hg⟩, hS', hE, hv⟩
  obtain ⟨G2, σ2, k1, k2, k3, k4⟩ := frzTo_run hf hg hS' hv
  exact ⟨v, d, σ2, G2, he, ⟨rfl, k4.out⟩, k1, hE.trans k2, k3⟩

/-- A body, from its first step on. -/
theorem Pure.go (hT : TOK P T) {f : FuncId} {fn : Func} {c : Code} {args : List DV} {d : DV} {rs : List ResultVar} {n : Nat} (slots : List DV) (hf : P.funcs[f]? = some fn)
    (h : ∀ σ, Ev P c ⟨slots, σ⟩ (RetQ T rs (RP σ d))) (hb : fn.body = some c := by rfl) (hn : fn.ntmps = n := by rfl) (hr : fn.results.toList = rs := by exact rfl)
    (hs : args ++ List.replicate (n - args.length) .undef = slots := by rfl)
    (hd : d.named 0 0 0 = true := by first | rfl | exact bytes_named _ _ _ _ | (simp only [DV.named, nameds, bytes_named, Bool.and_true, Bool.and_self]; done) | (simp only [go_sem, DV.named, nameds, bytes_named, Bool.and_true, Bool.and_self]; done)) : Pure P f args d :=
  Pure.of2 hd (fun σ => Does_body hT hf hb (by rw [hn, hs, hr]; exact h σ))
def RO (σ : Store) (xs : List DV) (e : TypeId) (st : Nat) : DV → Store → Prop := fun r σ' => ∃ id, σ.rows.length ≤ id ∧ r = .row id xs.length ∧ σ'.rows[id]? = some (some ⟨xs, e, st⟩) ∧ Grew σ σ'
theorem PureOwn.go (hT : TOK P T) {f : FuncId} {fn : Func} {c : Code} {args : List DV} {xs : List DV} {e : TypeId} {st : Nat} {rs : List ResultVar} {n : Nat} (slots : List DV) (hf : P.funcs[f]? = some fn)
    (h : ∀ σ, Ev P c ⟨slots, σ⟩ (RetQ T rs (RO σ xs e st))) (hb : fn.body = some c := by rfl) (hn : fn.ntmps = n := by rfl) (hr : fn.results.toList = rs := by exact rfl)
    (hs : args ++ List.replicate (n - args.length) .undef = slots := by rfl)
    (hd : nameds 0 0 0 xs = true := by first | rfl | exact bytes_named _ _ _ _ | (simp only [DV.named, nameds, bytes_named, Bool.and_true, Bool.and_self]; done) | (simp only [go_sem, DV.named, nameds, bytes_named, Bool.and_true, Bool.and_self]; done)) : PureOwn P f args xs e st :=
  fun σ => Does.own hd ((Does_body hT (R := RO σ xs e st) hf hb (by rw [hn, hs, hr]; exact h σ)).mono (fun r σ' ⟨id, h1, h2, h3, h4⟩ => ⟨id, h1, h2, h3, h4.out⟩))
theorem Does.go (hT : TOK P T) {f : FuncId} {fn : Func} {c : Code} {args : List DV} {R : DV → Store → Prop} {rs : List ResultVar} {n : Nat} (slots : List DV) (hf : P.funcs[f]? = some fn)
    (h : Ev P c ⟨slots, σ⟩ (RetQ T rs R)) (hb : fn.body = some c := by rfl) (hn : fn.ntmps = n := by rfl) (hr : fn.results.toList = rs := by exact rfl)
    (hs : args ++ List.replicate (n - args.length) .undef = slots := by rfl) : Does P f args σ R :=
  Does_body hT hf hb (by rw [hn, hs, hr]; exact h)

/-- A function that lays something behind a row, and leaves nothing else. -/
def RA (σ : Store) (id : Nat) (xs ys : List DV) (e : TypeId) (st : Nat) : DV → Store → Prop := fun r σ' => r = .row id (xs.length + ys.length) ∧ Grew { σ with rows := σ.rows.set id (some ⟨xs ++ ys, e, st⟩) } σ'
theorem PureApp.go (hT : TOK P T) {f : FuncId} {fn : Func} {c : Code} {args : List DV} {ys : List DV} {e : TypeId} {st room : Nat} {rs : List ResultVar} {n : Nat} (slots : Nat → Nat → List DV) (hf : P.funcs[f]? = some fn)
    (h : ∀ (σ : Store) id xs, σ.rows[id]? = some (some ⟨xs, e, st⟩) → xs.length ≤ room → Ev P c ⟨slots id xs.length, σ⟩ (RetQ T rs (RA σ id xs ys e st))) (hb : fn.body = some c := by rfl) (hn : fn.ntmps = n := by rfl) (hr : fn.results.toList = rs := by exact rfl)
    (hs : ∀ id len, (.row id len :: args) ++ List.replicate (n - (args.length + 1)) .undef = slots id len := by intro id len; rfl)
    (hd : nameds 0 0 0 ys = true := by first | rfl | exact bytes_named _ _ _ _ | (simp only [DV.named, nameds, bytes_named, Bool.and_true, Bool.and_self]; done) | (simp only [go_sem, DV.named, nameds, bytes_named, Bool.and_true, Bool.and_self]; done)) : PureApp P f args ys e st room := by
  intro σ id xs hR hroom
  have hbody := Does_body hT (args := .row id xs.length :: args) (σ := σ) (R := RA σ id xs ys e st) hf hb (by rw [hn, hr]; have := hs id xs.length; simp only [List.length_cons]; rw [this]; exact h σ id xs hR hroom)
  have hid := (List.getElem?_eq_some_iff.1 hR).1
  intro w0 G vs w hS hr0
  have hxs : nameds σ.rows.length σ.boxes.length σ.maps.length xs = true := RowRel.names hS hR
  refine (Does.clean hbody ?_ w0 G vs w hS hr0).mono ?_
  · rintro r σ' ⟨rfl, hg⟩
    obtain ⟨rs', bs, ms, rfl⟩ := hg.out
    refine ⟨by simpa [DV.named] using hid, ⟨fun i R h => ?_, fun i B h => .inl ?_, fun i M h => .inl ?_⟩⟩
    · simp only [Store.trunc] at h
      rw [List.take_append_of_le_length (by simp), List.take_of_length_le (by simp)] at h
      by_cases hi : id = i
      · subst hi
        rw [List.getElem?_set_self hid] at h
        simp only [Option.some.injEq] at h
        subst h
        refine .inr ?_
        rw [nameds_append, hxs, Bool.true_and]
        exact nameds_mono (Nat.zero_le _) (Nat.zero_le _) (Nat.zero_le _) _ hd
      · rw [List.getElem?_set_ne hi] at h
        exact .inl h
    · simpa [Store.trunc] using h
    · simpa [Store.trunc] using h
  · rintro e' w' ⟨v, r, σ', G', he, ⟨σ2, ⟨rfl, hg⟩, rfl⟩, rest⟩
    obtain ⟨rs', bs, ms, rfl⟩ := hg.out
    refine ⟨v, _, _, G', he, ⟨rfl, ?_⟩, rest⟩
    simp only [Store.trunc]
    rw [List.take_append_of_le_length (by simp), List.take_of_length_le (by simp)]
    simp

/-! ### rows in an answer, or in what is handed on -/
mutual
def DV.rowIn : DV → Option (Nat × Nat)
  | .row i len => some (i, len)
  | .agg cs => rowInL cs
  | .tup cs => rowInL cs
  | _ => none
def rowInL : List DV → Option (Nat × Nat)
  | [] => none
  | c :: cs => match c.rowIn with
    | some p => some p
    | none => rowInL cs
end
mutual
/-- Slices without more room are slices. -/
def weakA : DV → DV
  | .slt xs => .sl xs
  | .agg cs => .agg (weakAL cs)
  | .tup cs => .tup (weakAL cs)
  | .undef => .undef
  | .int k n => .int k n
  | .bool b => .bool b
  | .str s => .str s
  | .sl xs => .sl xs
  | .row i l => .row i l
  | .ptr b o => .ptr b o
  | .cp cs => .cp cs
  | .rp a b c d => .rp a b c d
  | .nilp => .nilp
  | .fn f a b => .fn f a b
  | .nilfn => .nilfn
  | .mp i => .mp i
  | .it i => .it i
  | .cm a b => .cm a b
def weakAL : List DV → List DV
  | [] => []
  | c :: cs => weakA c :: weakAL cs
end
mutual
def hasSlt : DV → Bool
  | .slt _ => true
  | .agg cs => hasSltL cs
  | .tup cs => hasSltL cs
  | _ => false
def hasSltL : List DV → Bool
  | [] => false
  | c :: cs => hasSlt c || hasSltL cs
end
mutual
theorem Le_weakA : ∀ d, Le d (weakA d)
  | .slt xs => by rw [weakA]; exact Le.sl xs
  | .agg cs => by rw [weakA]; exact Le.agg (LeL_weakAL cs)
  | .tup cs => by rw [weakA]; exact Le.tup (LeL_weakAL cs)
  | .undef | .int _ _ | .bool _ | .str _ | .sl _ | .row _ _ | .ptr _ _ | .cp _ | .rp _ _ _ _ | .nilp | .fn _ _ _ | .nilfn | .mp _ | .it _ | .cm _ _ => by rw [weakA]; exact Le.refl _
theorem LeL_weakAL : ∀ cs, LeL cs (weakAL cs)
  | [] => LeL.nil
  | c :: cs => by rw [weakAL]; exact LeL.cons (Le_weakA c) (LeL_weakAL cs)
end
mutual
def frzAt (id l : Nat) (xs : List DV) : DV → DV
  | .row i len => if i = id ∧ len = l then .sl xs else .row i len
  | .agg cs => .agg (frzAtL id l xs cs)
  | .tup cs => .tup (frzAtL id l xs cs)
  | d => d
def frzAtL (id l : Nat) (xs : List DV) : List DV → List DV
  | [] => []
  | c :: cs => frzAt id l xs c :: frzAtL id l xs cs
end
mutual
theorem frzAt_eq (id : Nat) (xs : List DV) : ∀ d, frzAt id xs.length xs d = frzA id xs d
  | .row i len => by simp [frzAt, frzA]
  | .agg cs => by simp [frzAt, frzA, frzAtL_eq id xs cs]
  | .tup cs => by simp [frzAt, frzA, frzAtL_eq id xs cs]
  | .undef | .int _ _ | .bool _ | .str _ | .sl _ | .slt _ | .ptr _ _ | .cp _ | .rp _ _ _ _ | .nilp | .fn _ _ _ | .nilfn | .mp _ | .it _ | .cm _ _ => by simp [frzAt, frzA]
theorem frzAtL_eq (id : Nat) (xs : List DV) : ∀ cs, frzAtL id xs.length xs cs = frzL id xs cs
  | [] => by simp [frzAtL, frzL]
  | c :: cs => by simp [frzAtL, frzL, frzAt_eq id xs c, frzAtL_eq id xs cs]
end
theorem frzAtL_map (id : Nat) (xs : List DV) (cs : List DV) : frzAtL id xs.length xs cs = cs.map (frzA id xs) := by rw [frzAtL_eq, frzL_map]

def frzBox (id l : Nat) (xs : List DV) : Option Box → Option Box
  | some B => some ⟨B.ty, frzAtL id l xs B.cs⟩
  | none => none

theorem StoreRel.frzB {A B : List (Option Box)} (hS : StoreRel w0 G σ w) {id : Nat} {R : Row} (hR : σ.rows[id]? = some (some R)) (hb : σ.boxes = A ++ B) :
    ∃ G', StoreRel w0 G' ⟨σ.rows.set id none, A ++ B.map (frzBox id R.xs.length R.xs), σ.maps⟩ w ∧ Ext G σ w G' ⟨σ.rows.set id none, A ++ B.map (frzBox id R.xs.length R.xs), σ.maps⟩ w ∧
      (∀ d v, RelV G σ w d v → RelV G' ⟨σ.rows.set id none, A ++ B.map (frzBox id R.xs.length R.xs), σ.maps⟩ w (frzAt id R.xs.length R.xs d) v) := by
  obtain ⟨G', h1, h2, h3⟩ := hS.frzA hR
  have x : Ext G' ⟨σ.rows.set id none, σ.boxes, σ.maps⟩ w G' ⟨σ.rows.set id none, A ++ B.map (frzBox id R.xs.length R.xs), σ.maps⟩ w :=
    ⟨fun k hk => ⟨hk, rfl⟩, Nat.le_refl _, by simp [hb], Nat.le_refl _, fun i R' hi hR' => ⟨R', hR', rfl, Nat.le_refl _, fun _ => rfl⟩, fun _ _ => rfl, fun _ _ => rfl⟩
  refine ⟨G', ⟨h1.below, h1.lt, h1.trk, fun i R hR => (h1.rows i R hR).keep x rfl (fun _ hk => ⟨hk, rfl⟩), fun i B0 hB0 => ?_, fun i M hM => (h1.maps i M hM).keep x rfl (fun _ hk => ⟨hk, rfl⟩)⟩, h2.trans x, fun d v hd => by rw [frzAt_eq]; exact (h3 d v hd).ext x⟩
  rcases Nat.lt_or_ge i A.length with hi | hi
  · have hB1 : σ.boxes[i]? = some (some B0) := by
      rw [hb, List.getElem?_append_left hi]
      simp only at hB0
      rwa [List.getElem?_append_left hi] at hB0
    exact (h1.boxes i B0 hB1).keep x rfl (fun _ hk => ⟨hk, rfl⟩)
  · simp only at hB0
    rw [List.getElem?_append_right hi, List.getElem?_map] at hB0
    cases hq : B[i - A.length]? with
    | none => rw [hq] at hB0; simp at hB0
    | some ob =>
      rw [hq] at hB0
      cases ob with
      | none => simp [frzBox] at hB0
      | some B1 =>
        simp only [Option.map_some, frzBox, Option.some.injEq] at hB0
        subst hB0
        have hB1 : σ.boxes[i]? = some (some B1) := by rw [hb, List.getElem?_append_right hi]; exact hq
        obtain ⟨k1, arr, k2, k3⟩ := hS.boxes i B1 hB1
        obtain ⟨k4, arr', k5, k6⟩ := h1.boxes i B1 hB1
        have he : arr = arr' := by
          have hbx := h2.boxB i (List.getElem?_eq_some_iff.1 hB1).1
          rw [hbx, k2] at k5
          simp only [Option.some.injEq, Obj.cells.injEq] at k5
          exact k5.1
        subst he
        refine ⟨k4, arr, k5, ?_⟩
        simp only [frzAtL_map]
        refine ⟨by simpa using k3.1, fun j c v hc hv => ?_⟩
        rw [List.getElem?_map] at hc
        cases hq2 : B1.cs[j]? with
        | none => rw [hq2] at hc; simp at hc
        | some c0 =>
          rw [hq2] at hc
          simp only [Option.map_some, Option.some.injEq] at hc
          subst hc
          exact (h3 c0 v (k3.2 j c0 v hq2 hv)).ext x
section
variable {dsts : List (Option Tmp)} {rest : List Oper} {slots slots' : List DV} {Q : Exit → St → Prop} {dst : Option Tmp} {A B : List (Option Box)} {rows' : List (Option Row)} {B' : List (Option Box)}
theorem RelS.frzB {a : Act} {id : Nat} {R : Row} (hr : RelS w0 G ⟨slots, σ⟩ a w) (hR : σ.rows[id]? = some (some R)) (hb : σ.boxes = A ++ B) :
    ∃ G', RelS w0 G' ⟨frzAtL id R.xs.length R.xs slots, ⟨σ.rows.set id none, A ++ B.map (frzBox id R.xs.length R.xs), σ.maps⟩⟩ a w ∧ Ext G σ w G' ⟨σ.rows.set id none, A ++ B.map (frzBox id R.xs.length R.xs), σ.maps⟩ w ∧
      (∀ ds vs, RelL G σ w ds vs → RelL G' ⟨σ.rows.set id none, A ++ B.map (frzBox id R.xs.length R.xs), σ.maps⟩ w (frzAtL id R.xs.length R.xs ds) vs) := by
  obtain ⟨G', h1, h2, h3⟩ := hr.2.2.frzB hR hb
  have key : ∀ ds vs, RelL G σ w ds vs → RelL G' ⟨σ.rows.set id none, A ++ B.map (frzBox id R.xs.length R.xs), σ.maps⟩ w (frzAtL id R.xs.length R.xs ds) vs := by
    intro ds vs hd
    refine ⟨by simpa [frzAtL_map] using hd.1, fun i c v hc hv => ?_⟩
    rw [frzAtL_map, List.getElem?_map] at hc
    cases hq : ds[i]? with
    | none => rw [hq] at hc; simp at hc
    | some c0 =>
      rw [hq] at hc
      simp only [Option.map_some, Option.some.injEq] at hc
      subst hc
      have := h3 c0 v (hd.2 i c0 v hq hv)
      rwa [frzAt_eq] at this
  exact ⟨G', ⟨hr.1, key _ _ hr.2.1, h1⟩, h2, key⟩

/-- A row that is handed to a function, or of which a text is made, is only read from then on. -/
theorem W_frzArg {f : FuncId} {args args' : List DV} {id len : Nat} {R : Row} (k : EvC P f args' dst dsts rest slots' ⟨rows', A ++ B', σ.maps⟩ Q)
    (hi : rowInL args = some (id, len) := by simp only [go_sem]; exact rfl)
    (hR : σ.rows[id]? = some (some R) := by (try simp only [app_get, app_get0, List.getElem?_cons_succ, List.getElem?_cons_zero]) <;> exact rfl)
    (hl : R.xs.length = len := by first | rfl | (simp only [go_sem]; done) | (simp only [go_sem]; omega))
    (hb : σ.boxes = A ++ B := by first | rfl | exact (List.append_nil _).symm)
    (ha : frzAtL id len R.xs args = args' := by simp (disch := omega) only [frzAt, frzAtL, if_pos, if_neg, and_self, if_true]; exact rfl)
    (hs : frzAtL id len R.xs slots = slots' := by simp (disch := omega) only [frzAt, frzAtL, if_pos, if_neg, and_self, if_true]; exact rfl)
    (hB : B.map (frzBox id len R.xs) = B' := by simp (disch := omega) only [frzBox, List.map_cons, List.map_nil, frzAt, frzAtL, if_pos, if_neg, and_self, if_true]; exact rfl)
    (hr : σ.rows.set id none = rows' := by (try simp only [app_set, app_set0, List.set_cons_succ, List.set_cons_zero]) <;> exact rfl) : EvC P f args dst dsts rest slots σ Q := by
  subst hl; subst ha; subst hs; subst hB; subst hr
  intro ops ho w0 G0 σ0 W0 G a w vs hx hr hrel
  obtain ⟨G', h1, h2, h3⟩ := hr.frzB hR hb
  exact k ops ho w0 G0 σ0 W0 G' a w vs (hx.trans h2) h1 (h3 _ _ hrel)
def opRow (slots : List DV) : Op → Option (Nat × Nat)
  | .convert _ _ x => (get slots x).rowIn
  | .slice _ x _ _ _ => (get slots x).rowIn
  | .binOp _ _ x _ _ => (get slots x).rowIn
  | _ => none
theorem W_frz {op : Op} {ty : TypeId} {pos : String} {af : Array Edge} {g : Option (Nat × Bool)} {id len : Nat} {R : Row} (k : EvD P dsts (⟨dst, op, ty, pos, af, g⟩ :: rest) slots' ⟨rows', A ++ B', σ.maps⟩ Q)
    (hi : opRow slots op = some (id, len) := by simp only [go_sem]; exact rfl)
    (hR : σ.rows[id]? = some (some R) := by (try simp only [app_get, app_get0, List.getElem?_cons_succ, List.getElem?_cons_zero]) <;> exact rfl)
    (hl : R.xs.length = len := by first | rfl | (simp only [go_sem]; done) | (simp only [go_sem]; omega))
    (hb : σ.boxes = A ++ B := by first | rfl | exact (List.append_nil _).symm)
    (hs : frzAtL id len R.xs slots = slots' := by simp (disch := omega) only [frzAt, frzAtL, if_pos, if_neg, and_self, if_true]; exact rfl)
    (hB : B.map (frzBox id len R.xs) = B' := by simp (disch := omega) only [frzBox, List.map_cons, List.map_nil, frzAt, frzAtL, if_pos, if_neg, and_self, if_true]; exact rfl)
    (hr : σ.rows.set id none = rows' := by (try simp only [app_set, app_set0, List.set_cons_succ, List.set_cons_zero]) <;> exact rfl) : EvD P dsts (⟨dst, op, ty, pos, af, g⟩ :: rest) slots σ Q := by
  subst hl; subst hs; subst hB; subst hr
  intro ops ho w0 G0 σ0 W0 G a w hx hr
  obtain ⟨G', h1, h2, h3⟩ := hr.frzB hR hb
  exact k ops ho w0 G0 σ0 W0 G' a w (hx.trans h2) h1
/-- The same ahead of any code, where the row is named. -/
theorem W_frzC {c : Code} (id : Nat) {R : Row} (k : Ev P c ⟨slots', ⟨rows', A ++ B', σ.maps⟩⟩ Q)
    (hR : σ.rows[id]? = some (some R) := by (try simp only [app_get, app_get0, List.getElem?_cons_succ, List.getElem?_cons_zero]) <;> exact rfl)
    (hb : σ.boxes = A ++ B := by first | rfl | exact (List.append_nil _).symm)
    (hs : frzAtL id R.xs.length R.xs slots = slots' := by simp (disch := omega) only [bytes_len, app_len, List.length_cons, List.length_nil, List.length_map, List.length_take, List.length_drop, frzAt, frzAtL, if_pos, if_neg, and_self, if_true]; exact rfl)
    (hB : B.map (frzBox id R.xs.length R.xs) = B' := by simp (disch := omega) only [frzBox, List.map_cons, List.map_nil, bytes_len, app_len, List.length_cons, List.length_nil, List.length_map, List.length_take, List.length_drop, frzAt, frzAtL, if_pos, if_neg, and_self, if_true]; exact rfl)
    (hr : σ.rows.set id none = rows' := by (try simp only [app_set, app_set0, List.set_cons_succ, List.set_cons_zero]) <;> exact rfl) : Ev P c ⟨slots, σ⟩ Q := by
  subst hs; subst hB; subst hr
  intro w0 G0 σ0 W0 G a w hx hr
  obtain ⟨G', h1, h2, h3⟩ := hr.frzB hR hb
  exact k w0 G0 σ0 W0 G' a w (hx.trans h2) h1
end

/-! ### returning -/
section
variable {rs : List ResultVar} {s : St} {C : Prop} {n : Nat} {d r r' : DV} {σ' : Store}
theorem R_ret {slots : List DV} {σ0 : Store} {d d' : DV} (k : FrzTo σ0.rows.length σ d' d) (hc : C) (h : resD T ⟨slots, σ⟩ rs = some (C, d') := by simp (disch := omega) only [go_sem, resD, resDs, resD1]; exact rfl)
    (hg : Grew σ0 σ := by exact ⟨by first | exact ⟨[], (List.append_nil _).symm⟩ | exact ⟨_, rfl⟩, by first | exact ⟨[], (List.append_nil _).symm⟩ | exact ⟨_, rfl⟩, by first | exact ⟨[], (List.append_nil _).symm⟩ | exact ⟨_, rfl⟩⟩) : RetQ T rs (RP σ0 d) .ret ⟨slots, σ⟩ := ⟨C, d', h, hc, k, hg⟩
theorem F_row {id len : Nat} {R : Row} (k : FrzTo n σ' r' d)
    (hi : r.rowIn = some (id, len) := by simp only [go_sem]; exact rfl)
    (hR : σ.rows[id]? = some (some R) := by (try simp only [app_get, app_get0, List.getElem?_cons_succ, List.getElem?_cons_zero]) <;> exact rfl)
    (hl : R.xs.length = len := by first | rfl | (simp only [go_sem]; done) | (simp only [go_sem]; omega))
    (hf : frzAt id len R.xs r = r' := by simp (disch := omega) only [frzAt, frzAtL, if_pos, if_neg, and_self, if_true]; exact rfl)
    (hσ : (⟨σ.rows.set id none, σ.boxes, σ.maps⟩ : Store) = σ' := by (try simp only [app_set, app_set0, List.set_cons_succ, List.set_cons_zero]) <;> exact rfl)
    (hn : n ≤ id := by omega) : FrzTo n σ r d := by
  subst hl; subst hσ
  rw [frzAt_eq] at hf
  subst hf
  exact .row id R hn hR k
theorem F_weak (k : FrzTo n σ r' d) (hh : hasSlt r = true := by simp only [hasSlt, hasSltL, Bool.or_true, Bool.true_or, Bool.false_or, Bool.or_false] <;> fail)
    (hw : weakA r = r' := by simp only [weakA, weakAL]; exact rfl) : FrzTo n σ r d := .le (hw ▸ Le_weakA r) k
theorem F_done (h : r = d) : FrzTo n σ r d := h ▸ .done
theorem R_app {slots : List DV} {σ0 : Store} {id len : Nat} {xs ys zs : List DV} {e : TypeId} {st : Nat} (hx : zs = xs ++ ys) (hc : C) (hl : len = xs.length + ys.length) (hg : ∀ ws, ws = zs → Grew { σ0 with rows := σ0.rows.set id (some ⟨ws, e, st⟩) } σ) (h : resD T ⟨slots, σ⟩ rs = some (C, .row id len) := by simp (disch := omega) only [go_sem, resD, resDs, resD1]; exact rfl) :
    RetQ T rs (RA σ0 id xs ys e st) .ret ⟨slots, σ⟩ := by
  subst hl
  exact ⟨C, _, h, hc, rfl, hg _ hx.symm⟩
theorem R_own {slots : List DV} {σ0 : Store} {id len : Nat} {xs ys : List DV} {e : TypeId} {st : Nat} (hx : ys = xs) (hc : C) (h : resD T ⟨slots, σ⟩ rs = some (C, .row id len) := by simp (disch := omega) only [go_sem, resD, resDs, resD1]; exact rfl)
    (hR : σ.rows[id]? = some (some ⟨ys, e, st⟩) := by (try simp only [app_get, app_get0, List.getElem?_cons_succ, List.getElem?_cons_zero]) <;> exact rfl)
    (hl : ys.length = len := by first | rfl | (simp only [go_sem]; done) | (simp only [go_sem]; omega))
    (hn : σ0.rows.length ≤ id := by omega)
    (hg : Grew σ0 σ := by exact ⟨by first | exact ⟨[], (List.append_nil _).symm⟩ | exact ⟨_, rfl⟩, by first | exact ⟨[], (List.append_nil _).symm⟩ | exact ⟨_, rfl⟩, by first | exact ⟨[], (List.append_nil _).symm⟩ | exact ⟨_, rfl⟩⟩) : RetQ T rs (RO σ0 xs e st) .ret ⟨slots, σ⟩ := by
  subst hx; subst hl
  exact ⟨C, _, h, hc, id, hn, rfl, hR, hg⟩
end
end
attribute [go_sem] DV.rowIn rowInL opRow frzAt frzAtL
end Go.Val
