/- Append, as an effect on rows. -/
import Derived.Test.YtloeeiamgaljoaaVApp
namespace Go.Val
open Go.RowKit
set_option linter.unusedSimpArgs false
set_option linter.unusedVariables false

/-- What is appended. -/
def srcD (T : TypeId → TI) (σ : Store) (t2 : TypeId) (x : DV) : Option (Prop × List DV) :=
  match (T t2).ty, x with
  | .slice _, .sl ys => some (True, ys)
  | .slice _, .slt ys => some (True, ys)
  | .slice _, .row id len =>
    match σ.rows[id]? with
    | some (some R) => some (R.xs.length = len, R.xs)
    | _ => none
  | .str, .str s => some (True, bytes s)
  | _, _ => none

theorem bytes_cells (l : List UInt8) : ∀ y ∈ bytes l, y.cells.length = 1 := by
  intro y hy
  simp only [bytes, List.mem_map] at hy
  obtain ⟨b, _, rfl⟩ := hy
  rfl
theorem flat_of_bytes (l : List UInt8) : flat (bytes l) = bytes l := by
  simp only [flat, bytes, List.flatMap_map]
  induction l with
  | nil => rfl
  | cons b l ih => simp only [List.flatMap_cons, List.map_cons, ih]; rfl

section
variable {P : Program} {T : TypeId → TI} {s : St}

theorem srcD_notInt {σ : Store} {t2 : TypeId} {x : DV} {C : Prop} {ys : List DV} (h : srcD T σ t2 x = some (C, ys)) : notInt (T t2).ty = true := by
  unfold srcD at h
  split at h
  · rename_i h1; rw [h1]; rfl
  · rename_i h1; rw [h1]; rfl
  · rename_i h1; rw [h1]; rfl
  · rename_i h1; rw [h1]; rfl
  · simp at h

theorem srcD_sound (hT : TOK P T) {w0 : World} {G : Gh} {σ : Store} {w : World} (hS : StoreRel w0 G σ w) {t2 : TypeId} {x : DV} {vx : Value} (hx : RelV G σ w x vx) {C : Prop} {ys : List DV}
    (h : srcD T σ t2 x = some (C, ys)) (hc : C) {st : Nat} (hst : ∀ y ∈ ys, y.cells.length = st) :
    ∃ new : Array Value, RelL G σ w (flat ys) new.toList ∧ ∀ w', w'.heap = w.heap → (Builtin.lenOf vx).run P w' = .ok ys.length w' ∧ (Builtin.firstCells st ys.length vx).run P w' = .ok new w' := by
  have mem : ∀ (A : Option Addr) (c : Nat), (ys = [] ∨ ∃ b o, A = some ⟨b, o, none⟩ ∧ MemAt G σ w b o (flat ys)) →
      ∃ new : Array Value, RelL G σ w (flat ys) new.toList ∧ ∀ w', w'.heap = w.heap → (Builtin.lenOf (.slice A ys.length c)).run P w' = .ok ys.length w' ∧ (Builtin.firstCells st ys.length (.slice A ys.length c)).run P w' = .ok new w' := by
    intro A c hm
    rcases hm with rfl | ⟨b, o, rfl, hm⟩
    · refine ⟨#[], by simp [flat]; exact .nil, fun w' hw => ⟨rfl, ?_⟩⟩
      cases A with
      | none => rfl
      | some a => simp [Builtin.firstCells, loadCells, loadCellsFrom]
    · obtain ⟨vs, hr, hv⟩ := hm
      refine ⟨vs.toArray, by simpa using hr, fun w' hw => ⟨rfl, ?_⟩⟩
      have hl : vs.length = ys.length * st := by rw [hr.1, flat_len hst]
      have := run_loadCells_list (P := P) w' ⟨b, o, none⟩ vs (fun j v hj => by
        rw [Addr_add]
        have := hv j v hj
        simp only [World.cell?, hw] at this ⊢
        exact this)
      rw [hl] at this
      simpa [Builtin.firstCells] using this
  unfold srcD at h
  split at h
  · simp only [Option.some.injEq, Prod.mk.injEq] at h; obtain ⟨_, rfl⟩ := h
    obtain ⟨A, c, _, rfl, _, _, hm⟩ := hx.sl_mem
    exact mem A c (hm.imp id (fun ⟨b, o, h1, _, h2⟩ => ⟨b, o, h1, h2⟩))
  · simp only [Option.some.injEq, Prod.mk.injEq] at h; obtain ⟨_, rfl⟩ := h
    obtain ⟨A, _, rfl, _, hm⟩ := hx.slt_mem
    exact mem A _ (hm.imp id (fun ⟨b, o, h1, _, h2⟩ => ⟨b, o, h1, h2⟩))
  · split at h
    · rename_i R hR
      simp only [Option.some.injEq, Prod.mk.injEq] at h; obtain ⟨rfl, rfl⟩ := h
      cases hx with
      | row _ _ v hid hle hv =>
        rw [hv R hR hc]
        obtain ⟨A, c, e, hm⟩ := row_mem w hS hR
        rw [e]
        exact mem A c (hm.imp id (fun ⟨g, h1, h2⟩ => ⟨g, 0, h1, h2⟩))
    · simp at h
  · rename_i l hy
    simp only [Option.some.injEq, Prod.mk.injEq] at h; obtain ⟨_, rfl⟩ := h
    cases hx
    have hz : (⟨l.toArray⟩ : ByteArray).size = (bytes l).length := by simp [ByteArray.size, bytes]
    refine ⟨(l.map fun b => Value.int .u8 b.toNat).toArray, ?_, fun w' hw => ⟨by simp [Builtin.lenOf, hz], ?_⟩⟩
    · rw [flat_of_bytes]
      refine ⟨by simp [bytes], fun i c v hc hv => ?_⟩
      simp only [bytes, List.getElem?_map, Option.map_eq_some_iff] at hc
      simp only [List.getElem?_map, Option.map_eq_some_iff] at hv
      obtain ⟨b, hb, rfl⟩ := hc
      obtain ⟨b', hb', rfl⟩ := hv
      rw [hb] at hb'; injection hb' with hb'; subst hb'
      exact .int _ _
    · simp only [Builtin.firstCells, Sem.run_pure, Result.ok.injEq, and_true]
      have : (⟨l.toArray⟩ : ByteArray).extract 0 (bytes l).length = ⟨l.toArray⟩ := by
        rw [str_cut l 0 _ (by omega) (by simp [bytes])]
        simp [bytes]
      rw [this]
      simp
  · simp at h

theorem row_grow {w0 : World} {G : Gh} {σ : Store} {w : World} (hS : StoreRel w0 G σ w) {id : Nat} {R : Row} (hR : σ.rows[id]? = some (some R)) {ys : List DV} (hst : ∀ y ∈ ys, y.cells.length = R.st)
    {old new rest : Array Value} {nc : Nat} (ho : RelL G σ w (flat R.xs) old.toList) (hn : RelL G σ w (flat ys) new.toList) (hnc : R.xs.length + ys.length ≤ nc) (hrest : rest.size = (nc - (R.xs.length + ys.length)) * R.st)
    (hne : ys ≠ []) :
    ∃ G', StoreRel w0 G' { σ with rows := σ.rows.set id (some { R with xs := R.xs ++ ys }) } (w.drew.alloc (.cells (old ++ new ++ rest) R.e)) ∧
      Ext G σ w G' { σ with rows := σ.rows.set id (some { R with xs := R.xs ++ ys }) } (w.drew.alloc (.cells (old ++ new ++ rest) R.e)) ∧
      G'.rowV id = .slice (some ⟨w.heap.size, 0, none⟩) (R.xs.length + ys.length) nc := by
  have hid := (List.getElem?_eq_some_iff.1 hR).1
  obtain ⟨h0, hall, A, n, c, hA, hn', hcap, hrow⟩ := hS.rows id R hR
  have hyl : 0 < ys.length := List.length_pos_iff.2 hne
  let G' : Gh := { G with own := fun k => if k = w.heap.size then .row id else if G.own k = .row id then .free else G.own k, rowV := updN G.rowV id (.slice (some ⟨w.heap.size, 0, none⟩) (R.xs.length + ys.length) nc) }
  have hown : ∀ k, G'.own k = if k = w.heap.size then .row id else if G.own k = .row id then .free else G.own k := fun _ => rfl
  have hlt : ∀ k, G.own k ≠ .free → k ≠ w.heap.size := fun k hk => by have := hS.lt k hk; omega
  have hsz1 : (w.drew.alloc (.cells (old ++ new ++ rest) R.e)).heap.size = w.heap.size + 1 := by simp
  have hheap : ∀ k, k < w.heap.size → (w.drew.alloc (.cells (old ++ new ++ rest) R.e)).heap[k]? = w.heap[k]? := fun k hk => Below.heap_alloc w.drew _ k hk
  have hflat : flat (R.xs ++ ys) = flat R.xs ++ flat ys := flat_append _ _
  obtain ⟨h1, h2⟩ := hS.row_set (G' := G') (w' := w.drew.alloc (.cells (old ++ new ++ rest) R.e)) hR (xs := R.xs ++ ys) (u := .slice (some ⟨w.heap.size, 0, none⟩) (R.xs.length + ys.length) nc) (by simp)
    (fun e => by simp at e; exact absurd e hne)
    (fun k => by
      by_cases e : k = w.heap.size
      · exact .inr (.inr ⟨by omega, by rw [hown, if_pos e]⟩)
      · by_cases e2 : G.own k = .row id
        · exact .inl e2
        · exact .inr (.inl (by rw [hown, if_neg e, if_neg e2])))
    (fun k hk hk2 => by rw [hown, if_neg (hlt k hk), if_neg hk2])
    (fun k hk => .inr (by rw [hown, if_neg (hlt k (by rw [hk]; simp)), if_pos hk]))
    rfl rfl rfl
    (hS.below.drew.alloc hS.below.size _)
    (fun k hk => by
      rw [hsz1]
      rw [hown] at hk
      split at hk
      · omega
      · split at hk
        · simp at hk
        · have := hS.lt k hk; omega)
    (fun k hk _ => hheap k (hS.lt k hk))
    (fun hE => by
      refine ⟨h0, ?_, some ⟨w.heap.size, 0, none⟩, _, nc, by show updN _ _ _ _ = _; rw [updN_same], by simp, by simpa using hnc, .inr ⟨w.heap.size, old ++ new ++ rest, (0, 0), rfl, by rw [hown, if_pos rfl], heap_alloc_new w.drew _, fun k _ h => by simp at h, ?_, ?_⟩⟩
      · intro y hy
        rcases List.mem_append.1 hy with hy | hy
        · exact hall y hy
        · exact hst y hy
      · have e1 : old.size = R.xs.length * R.st := by rw [← Array.length_toList, ho.1, flat_len hall]
        have e2 : new.size = ys.length * R.st := by rw [← Array.length_toList, hn.1, flat_len hst]
        rw [Array.size_append, Array.size_append, e1, e2, hrest, ← Nat.add_mul, ← Nat.add_mul]
        congr 1
        omega
      · intro i d v hd hv
        simp only [hflat] at hd
        have hi := (List.getElem?_eq_some_iff.1 hd).1
        have hrel := (ho.append hn).2 i d v hd (by
          rw [← Array.toList_append, Array.getElem?_toList]
          rw [Array.getElem?_append_left (by
            have := (ho.append hn).1
            rw [← Array.toList_append, Array.length_toList] at this
            rw [this]; exact hi)] at hv
          exact hv)
        exact hrel.ext hE)
  exact ⟨G', h1, h2, by show updN _ _ _ _ = _; rw [updN_same]⟩

theorem Effect.appendS (hT : TOK P T) {o : Oper} {c : Call} {x y : Operand} {t t2 e : TypeId} (ho : o.op = .call c) (hcal : c.callee = .builtin .append) (hargs : c.args = #[x, y]) (hts : c.argTypes = #[t, t2])
    {id len : Nat} (hx : get s.slots x = .row id len) {R : Row} (hR : s.σ.rows[id]? = some (some R)) (hl : R.xs.length = len) (ht : (T t).ty = .slice e) (hne : (T e).ty ≠ .other) (he : R.e = e) (hs : R.st = (T e).size) (hzc : (T e).zero.cells.size = (T e).size) (hb : 0 < (T e).bytes)
    {ys : List DV} (hsrc : ∀ w0 G a w, RelS w0 G s a w → ∃ new : Array Value, RelL G s.σ w (flat ys) new.toList ∧ AppSrc P T t t2 o.type e (a.eval y) ys.length new w) (hst : ∀ y ∈ ys, y.cells.length = R.st) (h1 : ∀ c ∈ flat ys, Cell1 s.σ c) (hsz : (len + ys.length) * (T e).bytes ≤ 140737488355328) :
    Effect P s o (one (.row id (len + ys.length)) { s.σ with rows := s.σ.rows.set id (some { R with xs := R.xs ++ ys }) }) := by
  intro w0 G a w hr
  have hid := (List.getElem?_eq_some_iff.1 hR).1
  have hxv := get_rel w hr.2.1 x
  rw [hx] at hxv
  have hxe : a.eval x = G.rowV id := by
    cases hxv with
    | row _ _ v hid hle hv => exact hv R hR hl
  obtain ⟨h0, hall, A, n, cp, hA, hn, hcap, hrow⟩ := hr.2.2.rows id R hR
  obtain ⟨new, hnew, hsr⟩ := hsrc w0 G a w hr
  have hexec : (execOp a.eval o).run P w = ((Builtin.append_ #[t, t2] o.type #[G.rowV id, a.eval y]).run P w).andThen fun v w' => .ok (.value v) w' := by
    simp [execOp, ho, resolve, hcal, hargs, hts, invoke, builtin, hxe]
  have hlen : ys.length * R.st = new.size := by rw [← Array.length_toList, hnew.1, flat_len hst]
  subst he
  by_cases hroom : n + ys.length ≤ cp
  · -- there is room
    rcases hrow with rfl | ⟨g, arr, fr, rfl, hg, hh, hfr, hsz', hcell⟩
    · have hy0 : ys = [] := List.eq_nil_of_length_eq_zero (by omega)
      subst hy0
      have hn0 : n = 0 := by omega
      have hR0 : R.xs = [] := List.eq_nil_of_length_eq_zero (by omega)
      have hnil : new = #[] := by
        have := hlen
        simp at this
        exact Array.eq_empty_of_size_eq_zero this.symm
      have hsame : { s.σ with rows := s.σ.rows.set id (some { R with xs := R.xs ++ [] }) } = s.σ := by
        have : s.σ.rows.set id (some { R with xs := R.xs ++ [] }) = s.σ.rows := by
          apply List.ext_getElem?
          intro k
          by_cases e : k = id
          · subst e; rw [List.getElem?_set_self hid, hR]; simp
          · rw [List.getElem?_set_ne (Ne.symm e)]
        rw [this]
      rw [hsame]
      refine ⟨.value (.slice A (n + ([] : List DV).length) 0), w, _, _, _, G, ?_, .inl rfl, ⟨rfl, rfl⟩, hr.2.2, Ext.refl _ _ _, ?_⟩
      · rw [hexec, hA]
        have := hsr.inn A n 0 w (by simpa using hroom)
          (by cases A with
            | none => rfl
            | some ad => rw [hnil]; simp [storeCells])
        rw [this]
        rfl
      · have e2 : Value.slice A (n + ([] : List DV).length) 0 = G.rowV id := by rw [hA]; rfl
        rw [e2]
        exact .row id _ _ hid (fun R' hR' => by rw [hR] at hR'; injection hR' with hR'; injection hR' with hR'; subst hR'; simp [hl]) (fun _ _ _ => rfl)
    · have hpos : n * R.st + new.toList.length ≤ arr.size := by
        have : (n + ys.length) * R.st ≤ cp * R.st := Nat.mul_le_mul_right _ hroom
        rw [Nat.add_mul] at this
        rw [Array.length_toList, ← hlen]
        omega
      obtain ⟨w', e1, e2, e3⟩ := run_storeCells_blk P g (n * R.st) R.e fr new.toList 0 arr w hh (by simpa using hpos) hfr (flatD_ones hr.2.2 hnew h1)
      rw [Nat.add_zero] at e3
      have hne' : ∀ k, G.own k ≠ .row id → k ≠ g := fun k hk e => by subst e; exact hk hg
      have hovl : (Val.over arr.toList (n * R.st) new.toList).length = arr.size := by rw [over_len _ _ _ (by simpa using hpos)]; simp
      have hfl := flat_len hall
      obtain ⟨k1, k2⟩ := hr.2.2.row_set (G' := { G with rowV := updN G.rowV id (.slice (some ⟨g, 0, none⟩) (n + ys.length) cp) }) (w' := w') hR (xs := R.xs ++ ys) (u := .slice (some ⟨g, 0, none⟩) (n + ys.length) cp) (by simp)
        (fun e => by simp at e; subst e; rw [hA]; rfl)
        (fun k => .inr (.inl rfl)) (fun _ _ _ => rfl) (fun k hk => .inl hk) rfl rfl rfl
        (by
          have ht := hr.2.2.trk g (by rw [hg]; simp) (by rw [hg]; simp)
          exact hr.2.2.below.trans ⟨e2.os, e2.tape, e2.output, by rw [e2.size]; exact Nat.le_refl _, fun k hk => e2.other k (by omega)⟩)
        (fun k hk => by rw [e2.size]; exact hr.2.2.lt k hk) (fun k _ hk => e2.other k (hne' k hk))
        (by
          intro hE
          refine ⟨h0, ?_, some ⟨g, 0, none⟩, n + ys.length, cp, by simp, by simp [hn], hroom, .inr ⟨g, _, fr, rfl, hg, e3, by simpa [hovl] using hfr, by simpa [hovl] using hsz', ?_⟩⟩
          · intro z hz
            rcases List.mem_append.1 hz with hz | hz
            · exact hall z hz
            · exact hst z hz
          · intro i d v hd hv
            simp only [flat_append] at hd
            have hi := (List.getElem?_eq_some_iff.1 hd).1
            rw [List.length_append, hfl, flat_len hst] at hi
            have hv' : (Val.over arr.toList (n * R.st) new.toList)[i]? = some v := by simpa using hv
            unfold Val.over at hv'
            have hnl : new.toList.length = ys.length * R.st := by rw [Array.length_toList, hlen]
            have hnm : n * R.st = R.xs.length * R.st := by rw [hn]
            have hpos2 : n * R.st + ys.length * R.st ≤ arr.size := by rw [← hnl]; exact hpos
            have hm : (arr.toList.take (n * R.st)).length = R.xs.length * R.st := by rw [List.length_take, Array.length_toList]; omega
            rcases Nat.lt_or_ge i (flat R.xs).length with hlt | hge
            · rw [List.getElem?_append_left hlt] at hd
              rw [hfl] at hlt
              rw [List.append_assoc, List.getElem?_append_left (by rw [hm]; exact hlt), List.getElem?_take, if_pos (by rw [hn]; exact hlt)] at hv'
              exact (hcell i d v hd (by simpa using hv')).ext hE
            · rw [List.getElem?_append_right hge] at hd
              rw [hfl] at hge hd
              rw [List.getElem?_append_left (by rw [List.length_append, hm, hnl]; exact hi), List.getElem?_append_right (by rw [hm]; exact hge), hm] at hv'
              exact (hnew.2 _ d v hd hv').ext hE)
      refine ⟨.value (.slice (some ⟨g, 0, none⟩) (n + ys.length) cp), w', _, _, _, _, ?_, .inl rfl, ⟨rfl, rfl⟩, k1, k2, ?_⟩
      · rw [hexec, hA, hsr.inn (some ⟨g, 0, none⟩) n cp w' hroom (by show (storeCells ((⟨g, 0, none⟩ : Addr).add (n * (T R.e).size)) new.toList).run P w = _; rw [Addr_add, Nat.zero_add, ← hs]; exact e1)]
        rfl
      · refine .row id _ _ (by simpa using hid) (fun R' hR' => ?_) (fun R' hR' _ => by simp)
        rw [List.getElem?_set_self hid] at hR'; injection hR' with hR'; injection hR' with hR'; subst hR'
        simp [hl]
  · -- it moves
    have hyne : ys ≠ [] := by rintro rfl; simp at hroom; omega
    obtain ⟨A', c', e4, hm⟩ := row_mem w hr.2.2 hR
    rw [hA] at e4
    injection e4 with e4 _ e6
    subst e4; subst e6
    have hold : ∃ old : Array Value, RelL G s.σ w (flat R.xs) old.toList ∧ (Builtin.firstCells R.st n (.slice A n cp)).run P w.drew = .ok old w.drew := by
      rcases hm with hnil | ⟨g, rfl, vs, hv1, hv2⟩
      · refine ⟨#[], by rw [hnil]; exact .nil, ?_⟩
        have hn0 : n = 0 := by rw [hn, hnil]; rfl
        rw [hn0]
        cases A with
        | none => rfl
        | some ad => simp [Builtin.firstCells, loadCells, loadCellsFrom]
      · refine ⟨vs.toArray, by simpa using hv1, ?_⟩
        have hvl : vs.length = n * R.st := by rw [hv1.1, flat_len hall, hn]
        have := run_loadCells_list (P := P) w.drew ⟨g, 0, none⟩ vs (fun j v hj => by
          rw [Addr_add]
          exact hv2 j v hj)
        rw [hvl] at this
        simpa [Builtin.firstCells] using this
    obtain ⟨old, ho1, ho2⟩ := hold
    obtain ⟨nc, rest, g1, g2, g3⟩ := hsr.grow A n cp old (by rw [← hs]; exact ho2) (by omega) (by rw [hn, hl]; exact hsz)
    obtain ⟨G', k1, k2, k3⟩ := row_grow hr.2.2 hR hst ho1 hnew (by rw [← hn]; exact g1) (by rw [g2, hzc, ← hs, hn]) hyne
    refine ⟨.value (.slice (some ⟨w.heap.size, 0, none⟩) (n + ys.length) nc), _, _, _, _, G', ?_, .inl rfl, ⟨rfl, rfl⟩, k1, k2, ?_⟩
    · rw [hexec, hA, g3]; rfl
    · refine .row id _ _ (by simpa using hid) (fun R' hR' => ?_) (fun R' hR' _ => by rw [k3, hn])
      rw [List.getElem?_set_self hid] at hR'; injection hR' with hR'; injection hR' with hR'; subst hR'
      simp [hl]
theorem AppSrc.ofSrc (hT : TOK P T) {t t2 ty e : TypeId} (ht : (T t).ty = .slice e) (hne : (T e).ty ≠ .other) (hb : 0 < (T e).bytes) {y : Operand} {C : Prop} {ys : List DV} (hy : srcD T s.σ t2 (get s.slots y) = some (C, ys)) (hc : C) (hst : ∀ y ∈ ys, y.cells.length = (T e).size) :
    ∀ w0 G a w, RelS w0 G s a w → ∃ new : Array Value, RelL G s.σ w (flat ys) new.toList ∧ AppSrc P T t t2 ty e (a.eval y) ys.length new w := by
  intro w0 G a w hr
  obtain ⟨new, hnew, hrun⟩ := srcD_sound hT hr.2.2 (get_rel w hr.2.1 y) hy hc hst
  exact ⟨new, hnew, .of hT ht (srcD_notInt hy) hne hb hrun⟩
theorem Effect.append (hT : TOK P T) {o : Oper} {c : Call} {x y : Operand} {t t2 e : TypeId} (ho : o.op = .call c) (hcal : c.callee = .builtin .append) (hargs : c.args = #[x, y]) (hts : c.argTypes = #[t, t2])
    {id len : Nat} (hx : get s.slots x = .row id len) {R : Row} (hR : s.σ.rows[id]? = some (some R)) (hl : R.xs.length = len) (ht : (T t).ty = .slice e) (hne : (T e).ty ≠ .other) (he : R.e = e) (hs : R.st = (T e).size) (hzc : (T e).zero.cells.size = (T e).size) (hb : 0 < (T e).bytes)
    {C : Prop} {ys : List DV} (hy : srcD T s.σ t2 (get s.slots y) = some (C, ys)) (hc : C) (hst : ∀ y ∈ ys, y.cells.length = R.st) (h1 : ∀ c ∈ flat ys, Cell1 s.σ c) (hsz : (len + ys.length) * (T e).bytes ≤ 140737488355328) :
    Effect P s o (one (.row id (len + ys.length)) { s.σ with rows := s.σ.rows.set id (some { R with xs := R.xs ++ ys }) }) :=
  Effect.appendS hT ho hcal hargs hts hx hR hl ht hne he hs hzc hb (AppSrc.ofSrc hT ht hne hb hy hc (by rw [← hs]; exact hst)) hst h1 hsz
end
end Go.Val
