/- Values built out of parts; one function for all operations without a trace. -/
import Derived.Test.YtloeeiamgaljoaaVOps4
namespace Go.Val
open Go.RowKit
set_option linter.unusedSimpArgs false
set_option linter.unusedVariables false

theorem foldl_over (off : Nat) : ∀ (l : List Value) (k : Nat) (arr : Array Value), off + k + l.length ≤ arr.size →
    ((l.zipIdx k).foldl (fun cs p => cs.setIfInBounds (off + p.2) p.1) arr).toList = over arr.toList (off + k) l
  | [], k, arr, h => by simp [over]
  | v :: l, k, arr, h => by
    simp only [List.length_cons] at h
    simp only [List.zipIdx_cons, List.foldl_cons]
    rw [foldl_over off l (k + 1) (arr.setIfInBounds (off + k) v) (by simp; omega)]
    simp only [over, Array.toList_setIfInBounds, List.length_cons]
    have h1 : (arr.toList.set (off + k) v).take (off + (k + 1)) = arr.toList.take (off + k) ++ [v] := by
      rw [show off + (k + 1) = off + k + 1 by omega, List.take_succ_eq_append_getElem (by simp; omega)]
      simp [List.take_set_of_le]
    have h2 : (arr.toList.set (off + k) v).drop (off + (k + 1) + l.length) = arr.toList.drop (off + k + (l.length + 1)) := by
      rw [List.drop_set_of_lt (by omega)]
      congr 1
      omega
    rw [h1, h2]
    simp

section
variable {P : Program} {T : TypeId → TI} {G : Gh} {σ : Store} (w : World)

theorem RelL.over {cs ds : List DV} {vs us : List Value} (h : RelL G σ w cs vs) (k : RelL G σ w ds us) (off : Nat) : RelL G σ w (over cs off ds) (Val.over vs off us) := by
  unfold Val.over
  rw [k.1]
  exact ((h.take off).append k).append (h.drop _)

theorem fill_sound {w0 : World} (hS : StoreRel w0 G σ w) {place : Nat → Option (Nat × Nat)} : ∀ (parts : List (Nat × DV)) (pv : List (Nat × Value)) (cells : List DV) (arr : Array Value) (C : Prop) (r : List DV),
    (parts.map (·.1) = pv.map (·.1)) → RelL G σ w (parts.map (·.2)) (pv.map (·.2)) → RelL G σ w cells arr.toList → fillD T place σ cells parts = some (C, r) → C →
    ∃ rs, Instr.fill place arr pv = some rs ∧ RelL G σ w r rs.toList
  | [], pv, cells, arr, C, r, h1, h2, h3, h4, hc => by
    cases pv with
    | nil => simp only [fillD, Option.some.injEq, Prod.mk.injEq] at h4; obtain ⟨_, rfl⟩ := h4; exact ⟨arr, rfl, h3⟩
    | cons p pv => simp at h1
  | (i, d) :: parts, pv, cells, arr, C, r, h1, h2, h3, h4, hc => by
    cases pv with
    | nil => simp at h1
    | cons p pv =>
      obtain ⟨i', v⟩ := p
      simp only [List.map_cons, List.cons.injEq] at h1
      obtain ⟨rfl, h1⟩ := h1
      unfold fillD at h4
      split at h4
      · simp at h4
      · rename_i off size hp
        split at h4
        · rename_i C' r' hf
          simp only [Option.some.injEq, Prod.mk.injEq] at h4
          obtain ⟨rfl, rfl⟩ := h4
          obtain ⟨⟨hs, hl, hb⟩, hc⟩ := hc
          have hv : RelV G σ w d v := h2.2 0 d v rfl rfl
          have hcell := solid_cells w hS hv hs
          have hsz : v.cells.size = size := by rw [← hl, ← hcell.1, Array.length_toList]
          have harr : arr.size = cells.length := by rw [← h3.1, Array.length_toList]
          have hfold : (v.cells.zipIdx.foldl (fun cs (x : Value × Nat) => cs.setIfInBounds (off + x.2) x.1) arr).toList = over arr.toList off v.cells.toList := by
            rw [← Array.foldl_toList, Array.toList_zipIdx]
            exact foldl_over off v.cells.toList 0 arr (by simp; omega)
          obtain ⟨rs, e, hr⟩ := fill_sound hS parts pv (over cells off d.cells) (v.cells.zipIdx.foldl (fun cs (x : Value × Nat) => cs.setIfInBounds (off + x.2) x.1) arr) C' r' h1
            ⟨by simpa using h2.1, fun j c u hc' hu => h2.2 (j + 1) c u (by simpa using hc') (by simpa using hu)⟩ (by rw [hfold]; exact h3.over w hcell off) hf hc
          refine ⟨rs, ?_, hr⟩
          rw [Instr.fill, hp]
          simp only [hsz, ne_eq, not_true_eq_false, decide_false, Bool.false_or, decide_eq_true_eq]
          rw [if_neg (by omega)]
          exact e
        · simp at h4

theorem mapM_places (hT : TOK P T) : ∀ (gs : List Field), (∀ f ∈ gs, (T f.type).ty ≠ .other) →
    (gs.mapM (m := Sem) fun f => do pure (f.offset, ← sizeOf f.type)).run P w = .ok (gs.map fun f => (f.offset, (T f.type).size)) w
  | [], _ => by simp
  | f :: gs, h => by
    have ih := mapM_places hT gs (fun g hg => h g (by simp [hg]))
    simp only [List.mapM_cons, Sem.run_bind, TOK.size hT w (h f (by simp)), Result.andThen_ok, Sem.run_pure] at ih ⊢
    rw [ih]
    simp

theorem buildD_sound (hT : TOK P T) {w0 : World} (hS : StoreRel w0 G σ w) {t : TypeId} {parts : List (Nat × DV)} {pv : Array (Nat × Value)} {C : Prop} {d : DV}
    (h1 : parts.map (·.1) = pv.toList.map (·.1)) (h2 : RelL G σ w (parts.map (·.2)) (pv.toList.map (·.2)))
    (h : buildD T σ t parts = some (C, d)) (hc : C) : VRun P G σ w (Instr.build t pv) d := by
  unfold buildD at h
  split at h
  · rename_i fs hy
    split at h
    · rename_i C' cs hf
      simp only [Option.some.injEq, Prod.mk.injEq] at h; obtain ⟨rfl, rfl⟩ := h
      obtain ⟨hne, ⟨z, hz⟩, hc⟩ := hc
      obtain ⟨gs, hg, he⟩ := TOK.und_struct hT w hy
      subst he
      have hzr : RelL G σ w (ofVal (T t).zero).cells (T t).zero.cells.toList := by
        rw [hz]
        have := ofVal_rel (G := G) (σ := σ) w (.agg z)
        exact this.cells (by simp [ofVal]) (by simp [ofVal]) (by simp [ofVal])
      obtain ⟨rs, e, hr⟩ := fill_sound (T := T) w hS parts pv.toList _ _ _ _ h1 h2 hzr hf hc
      refine ⟨.agg rs, ?_, ?_⟩
      · have hpl : (gs.mapM (m := Sem) fun f => do pure (f.offset, ← sizeOf f.type)).run P w = .ok (gs.map fun f => (f.offset, (T f.type).size)) w := by
          have := mapM_places (P := P) w hT gs.toList (fun f hf => hne (f.type, f.offset) (by simp; exact ⟨f, by simpa using hf, rfl, rfl⟩))
          rw [Array.mapM_eq_mapM_toList]
          simp only [Sem.run_map, this, Result.andThen_ok]
          congr 1
          apply Array.ext'
          simp
        have hpf : (fun (i : Nat) => (gs.map fun f => (f.offset, (T f.type).size))[i]?) = (fun (i : Nat) => ((gs.toList.map fun f => (f.type, f.offset))[i]?).map fun (f : TypeId × Nat) => (f.2, (T f.1).size)) := by
          funext i
          simp [Option.map_map]
          rfl
        simp only [Instr.build, Sem.run_bind, TOK.zero hT w (by rw [hy]; simp), Result.andThen_ok, hg, hpl]
        rw [hpf, e]
        rfl
      · obtain ⟨l⟩ := rs
        exact .agg cs l hr.1 hr.2
    · simp at h
  · rename_i n e hy
    split at h
    · rename_i C' cs hf
      simp only [Option.some.injEq, Prod.mk.injEq] at h; obtain ⟨rfl, rfl⟩ := h
      obtain ⟨hne, ⟨z, hz⟩, hc⟩ := hc
      have hzr : RelL G σ w (ofVal (T t).zero).cells (T t).zero.cells.toList := by
        rw [hz]
        have := ofVal_rel (G := G) (σ := σ) w (.agg z)
        exact this.cells (by simp [ofVal]) (by simp [ofVal]) (by simp [ofVal])
      obtain ⟨rs, e1, hr⟩ := fill_sound (T := T) w hS parts pv.toList _ _ _ _ h1 h2 hzr hf hc
      refine ⟨.agg rs, ?_, ?_⟩
      · simp only [Instr.build, Sem.run_bind, TOK.zero hT w (show (T t).ty ≠ .other by rw [hy]; simp), Result.andThen_ok, TOK.und_array hT w hy, TOK.size hT w hne]
        rw [e1]
        rfl
      · obtain ⟨l⟩ := rs
        exact .agg cs l hr.1 hr.2
    · simp at h
  · simp at h
end

/-! ### one function for the operations without a trace -/
def gets (slots : List DV) (xs : Array Operand) : List DV := xs.toList.map (get slots)

def mmD (mx : Bool) : List DV → Option (Prop × DV)
  | [.int k a, .int k' b] => some (k = k', .int k (if mx then (if b > a then b else a) else (if b < a then b else a)))
  | _ => none

def callD (T : TypeId → TI) (σ : Store) (slots : List DV) (c : Call) : Option (Prop × DV) :=
  match c.callee, c.args.toList, c.argTypes.toList with
  | .builtin .len, [x], [t] => lenD T σ t (get slots x)
  | .builtin .max, xs, _ => mmD true (xs.map (get slots))
  | .builtin .min, xs, _ => mmD false (xs.map (get slots))
  | _, _, _ => none

def nilD (x : DV) : Option (Prop × DV) :=
  match x with
  | .ptr b o => some (True, .ptr b o)
  | .cp cs => some (True, .cp cs)
  | .fn (.func f) a b => some (True, .fn (.func f) a b)
  | _ => none

def stepQ (T : TypeId → TI) (σ : Store) (slots : List DV) (op : Op) : Option (Prop × DV) :=
  match op with
  | .move x | .assign x => some (True, get slots x)
  | .pick c a b =>
    match get slots c with
    | .bool true => some (True, get slots a)
    | .bool false => some (True, get slots b)
    | _ => none
  | .build t parts => buildD T σ t (parts.toList.map fun p => (p.1, get slots p.2))
  | .load t a => loadD T σ t (get slots a)
  | .nilCheck x => nilD (get slots x)
  | .binOp op t x y _ => binD T op t (get slots x) (get slots y)
  | .unOp op _ x => unD op (get slots x)
  | .convert src dst x => convD T src dst (get slots x)
  | .sliceToArrayPointer t x => arrayPtrD T t (get slots x)
  | .makeFunc f fs cs => some (True, .fn f (gets slots fs) (gets slots cs))
  | .slice t x lo hi mx => sliceD T t (get slots x) (lo.map (get slots)) (hi.map (get slots)) (mx.map (get slots))
  | .fieldAddr s x f =>
    match get slots x with
    | .rp id len i o =>
      match fieldAddrD T s (.rp id len i o) f with
      | some (C, d) => some (Solid σ (.rp id len i o) ∧ C, d)
      | none => none
    | d => fieldAddrD T s d f
  | .field s x f => fieldD T s (get slots x) f
  | .indexAddr t x i => indexAddrD T σ t (get slots x) (get slots i)
  | .index t x i => indexD T t (get slots x) (get slots i)
  | .extract x i =>
    match get slots x with
    | .tup vs => some (i < vs.length, vs.getD i .undef)
    | _ => none
  | .call c => callD T σ slots c
  | _ => none

section
variable {P : Program} {T : TypeId → TI} {G : Gh} {σ : Store} (w : World)

theorem gets_rel {slots : List DV} {a : Act} (h : RelL G σ w slots a.tmps.toList) (xs : Array Operand) : RelL G σ w (gets slots xs) (xs.map a.eval).toList := by
  refine ⟨by simp [gets], fun i c v hc hv => ?_⟩
  simp only [gets, List.getElem?_map, Option.map_eq_some_iff] at hc
  simp only [Array.toList_map, List.getElem?_map, Option.map_eq_some_iff] at hv
  obtain ⟨x, hx, rfl⟩ := hc
  obtain ⟨y, hy, rfl⟩ := hv
  rw [hx] at hy; injection hy with hy; subst hy
  exact get_rel w h x
theorem opt_rel {slots : List DV} {a : Act} (h : RelL G σ w slots a.tmps.toList) (x : Option Operand) : OptRel G σ w (x.map (get slots)) (x.map a.eval) := by
  cases x with
  | none => trivial
  | some x => exact get_rel w h x

theorem mmD_sound {mx : Bool} {xs : List DV} {vs : List Value} {ats : Array TypeId} {ty : TypeId} {C : Prop} {d : DV} (hx : RelL G σ w xs vs) (h : mmD mx xs = some (C, d)) (hc : C) :
    VRun P G σ w (if mx then Builtin.max_ ats ty vs.toArray else Builtin.min_ ats ty vs.toArray) d := by
  unfold mmD at h
  split at h
  · rename_i k a k' b
    simp only [Option.some.injEq, Prod.mk.injEq] at h; obtain ⟨rfl, rfl⟩ := h
    subst hc
    obtain ⟨hl, hr⟩ := hx
    match vs, hl with
    | [u, v], _ =>
      have h0 := hr 0 _ u rfl rfl
      have h1 := hr 1 _ v rfl rfl
      cases h0; cases h1
      cases mx
      · exact ⟨.int k (if b < a then b else a), by simp [Builtin.min_, Builtin.min2], .int _ _⟩
      · exact ⟨.int k (if b > a then b else a), by simp [Builtin.max_, Builtin.max2], .int _ _⟩
  · simp at h

theorem stepQ_sound (hT : TOK P T) {w0 : World} (hS : StoreRel w0 G σ w) {slots : List DV} {a : Act} (hr : RelL G σ w slots a.tmps.toList) {o : Oper} {C : Prop} {d : DV}
    (h : stepQ T σ slots o.op = some (C, d)) (hc : C) : ∃ v, (execOp a.eval o).run P w = .ok (.value v) w ∧ RelV G σ w d v := by
  have lift : ∀ {s : Sem Value}, VRun P G σ w s d → (execOp a.eval o = do pure (.value (← s))) → ∃ v, (execOp a.eval o).run P w = .ok (.value v) w ∧ RelV G σ w d v := by
    intro s ⟨v, hv, hd⟩ he
    exact ⟨v, by rw [he]; simp [hv], hd⟩
  unfold stepQ at h
  split at h
  · rename_i x ho
    simp only [Option.some.injEq, Prod.mk.injEq] at h; obtain ⟨_, rfl⟩ := h
    exact ⟨_, by simp [execOp, ho], get_rel w hr x⟩
  · rename_i x ho
    simp only [Option.some.injEq, Prod.mk.injEq] at h; obtain ⟨_, rfl⟩ := h
    exact ⟨_, by simp [execOp, ho], get_rel w hr x⟩
  · rename_i c x y ho
    have hb := get_rel w hr c
    split at h
    · rename_i hg
      simp only [Option.some.injEq, Prod.mk.injEq] at h; obtain ⟨_, rfl⟩ := h
      rw [hg] at hb
      generalize hcv : a.eval c = vc at hb
      cases hb
      exact ⟨_, by simp [execOp, ho, hcv, asBool], get_rel w hr x⟩
    · rename_i hg
      simp only [Option.some.injEq, Prod.mk.injEq] at h; obtain ⟨_, rfl⟩ := h
      rw [hg] at hb
      generalize hcv : a.eval c = vc at hb
      cases hb
      exact ⟨_, by simp [execOp, ho, hcv, asBool], get_rel w hr y⟩
    · simp at h
  · rename_i t parts ho
    refine lift (buildD_sound (P := P) (pv := parts.map fun (i, x) => (i, a.eval x)) w hT hS ?_ ?_ h hc) (by simp only [execOp, ho])
    · simp
    · refine ⟨by simp, fun i c v h1 h2 => ?_⟩
      simp at h1 h2
      obtain ⟨p, q, h3, rfl⟩ := h1
      obtain ⟨p', q', h4, rfl⟩ := h2
      rw [h3] at h4; injection h4 with h4; injection h4 with _ h4; subst h4
      exact get_rel w hr q
  · rename_i t x ho
    exact lift (loadD_sound w hT hS (get_rel w hr x) h hc) (by simp only [execOp, ho])
  · rename_i x ho
    have hb := get_rel w hr x
    generalize hcv : a.eval x = vc at hb
    unfold nilD at h
    split at h
    · rename_i b o hg
      rw [hg] at hb
      simp only [Option.some.injEq, Prod.mk.injEq] at h; obtain ⟨_, rfl⟩ := h
      have hb' := hb
      cases hb
      exact ⟨_, by simp only [execOp, ho, hcv]; rfl, hb'⟩
    · rename_i cs hg
      rw [hg] at hb
      simp only [Option.some.injEq, Prod.mk.injEq] at h; obtain ⟨_, rfl⟩ := h
      have hb' := hb
      cases hb
      exact ⟨_, by simp only [execOp, ho, hcv]; rfl, hb'⟩
    · rename_i f u v hg
      rw [hg] at hb
      simp only [Option.some.injEq, Prod.mk.injEq] at h; obtain ⟨_, rfl⟩ := h
      have hb' := hb
      cases hb
      exact ⟨_, by simp only [execOp, ho, hcv]; rfl, hb'⟩
    · simp at h
  · rename_i op t x y u ho
    obtain ⟨v, hv, hd⟩ := binD_sound w hT (get_rel w hr x) (get_rel w hr y) h hc
    refine ⟨v, ?_, hd⟩
    simp only [execOp, ho, Sem.run_bind, binD_guard w (get_rel w hr x) (get_rel w hr y) h x y, Result.andThen_ok, hv]
    rfl
  · rename_i op t x ho
    exact lift (unD_sound w (get_rel w hr x) h) (by simp only [execOp, ho])
  · rename_i s d x ho
    exact lift (convD_sound w hT (get_rel w hr x) h hc) (by simp only [execOp, ho])
  · rename_i t x ho
    exact lift (arrayPtrD_sound w hT (get_rel w hr x) h hc) (by simp only [execOp, ho])
  · rename_i f fs cs ho
    simp only [Option.some.injEq, Prod.mk.injEq] at h; obtain ⟨_, rfl⟩ := h
    have h1 := gets_rel w hr fs
    have h2 := gets_rel w hr cs
    refine ⟨.func f (fs.map a.eval) (cs.map a.eval), by simp [execOp, ho, Instr.makeFunc], ?_⟩
    have := RelV.fn (G := G) (σ := σ) (w := w) f (gets slots fs) (gets slots cs) _ _ h1.1 h1.2 h2.1 h2.2
    rwa [Array.toArray_toList, Array.toArray_toList] at this
  · rename_i t x lo hi mx ho
    exact lift (sliceD_sound w hT (get_rel w hr x) (opt_rel w hr lo) (opt_rel w hr hi) (opt_rel w hr mx) h hc) (by simp only [execOp, ho])
  · rename_i s x f ho
    have hx := get_rel w hr x
    split at h
    · rename_i i len j off hg
      rw [hg] at hx
      split at h
      · rename_i C' d' hf
        simp only [Option.some.injEq, Prod.mk.injEq] at h; obtain ⟨rfl, rfl⟩ := h
        exact lift (fieldAddrD_sound w hT hx (fun _ _ _ _ e => by injection e with e1 e2; subst e1; subst e2; exact hc.1) hf hc.2) (by simp only [execOp, ho])
      · simp at h
    · rename_i hn
      exact lift (fieldAddrD_sound w hT hx (fun i l j o e => absurd e (hn i l j o)) h hc) (by simp only [execOp, ho])
  · rename_i s x f ho
    exact lift (fieldD_sound w hT (get_rel w hr x) h hc) (by simp only [execOp, ho])
  · rename_i t x i ho
    exact lift (indexAddrD_sound w hT hS (get_rel w hr x) (get_rel w hr i) h hc) (by simp only [execOp, ho])
  · rename_i t x i ho
    exact lift (indexD_sound w hT (get_rel w hr x) (get_rel w hr i) h hc) (by simp only [execOp, ho])
  · rename_i x i ho
    have hx := get_rel w hr x
    split at h
    · rename_i vs hg
      rw [hg] at hx
      simp only [Option.some.injEq, Prod.mk.injEq] at h; obtain ⟨rfl, rfl⟩ := h
      generalize hcv : a.eval x = vc at hx
      cases hx with
      | tup _ us hl hr' =>
        have hi : i < us.length := by rw [hl]; exact hc
        refine ⟨us[i], by simp [execOp, ho, hcv, Instr.extract, List.getElem?_eq_getElem hi], ?_⟩
        exact hr' i _ _ (by rw [List.getD_eq_getElem?_getD, List.getElem?_eq_getElem hc]; rfl) (List.getElem?_eq_getElem hi)
    · simp at h
  · rename_i c ho
    obtain ⟨callee, args, ats⟩ := c
    unfold callD at h
    split at h
    · rename_i x t h1 h2 h3
      simp only at h1 h2 h3
      obtain ⟨l⟩ := args
      obtain ⟨l'⟩ := ats
      subst h1
      simp only at h2 h3
      subst h2; subst h3
      obtain ⟨v, hv, hd⟩ := lenD_sound (ty := o.type) w hT hS (get_rel w hr x) h hc
      exact ⟨v, by simp [execOp, ho, resolve, invoke, builtin, hv], hd⟩
    · rename_i h3
      simp only at h3 h
      subst h3
      obtain ⟨v, hv, hd⟩ := mmD_sound (P := P) (vs := (args.map a.eval).toList) (ats := ats) (ty := o.type) w (gets_rel w hr args) (by simpa [gets] using h) hc
      exact ⟨v, by simp only [if_true, Array.toArray_toList] at hv; simp [execOp, ho, resolve, invoke, builtin, hv], hd⟩
    · rename_i h3
      simp only at h3 h
      subst h3
      obtain ⟨v, hv, hd⟩ := mmD_sound (P := P) (vs := (args.map a.eval).toList) (ats := ats) (ty := o.type) w (gets_rel w hr args) (by simpa [gets] using h) hc
      exact ⟨v, by simp only [Bool.false_eq_true, if_false, Array.toArray_toList] at hv; simp [execOp, ho, resolve, invoke, builtin, hv], hd⟩
    · simp at h
  · simp at h
end
end Go.Val
