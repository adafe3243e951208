/- New rows: append to what is full, noughts, make, literals, texts as octets; rows and variables that are only read from now on. -/
import Derived.Test.YtloeeiamgaljoaaVApp2
import Derived.IntWalk
namespace Go.Val
open Go.RowKit
set_option linter.unusedSimpArgs false
set_option linter.unusedVariables false

section
variable {P : Program} {T : TypeId → TI} {s : St}

theorem Effect.appendNewS (hT : TOK P T) {o : Oper} {c : Call} {x y : Operand} {t t2 e : TypeId} (ho : o.op = .call c) (hcal : c.callee = .builtin .append) (hargs : c.args = #[x, y]) (hts : c.argTypes = #[t, t2])
    {xs : List DV} (hx : get s.slots x = .slt xs) (ht : (T t).ty = .slice e) (hne : (T e).ty ≠ .other) (hs0 : 0 < (T e).size) (hzc : (T e).zero.cells.size = (T e).size) (hb : 0 < (T e).bytes)
    {ys : List DV} (hsrc : ∀ w0 G a w, RelS w0 G s a w → ∃ new : Array Value, RelL G s.σ w (flat ys) new.toList ∧ AppSrc P T t t2 o.type e (a.eval y) ys.length new w) (hxs : ∀ x ∈ xs, x.cells.length = (T e).size) (hst : ∀ y ∈ ys, y.cells.length = (T e).size) (hnew : xs = [] ∨ ys ≠ []) (hsz : (xs.length + ys.length) * (T e).bytes ≤ 140737488355328) :
    Effect P s o (one (.row s.σ.rows.length (xs.length + ys.length)) { s.σ with rows := s.σ.rows ++ [some ⟨xs ++ ys, e, (T e).size⟩] }) := by
  intro w0 G a w hr
  have hxv := get_rel w hr.2.1 x
  rw [hx] at hxv
  obtain ⟨A, st, hxe, hst', hm⟩ := hxv.slt_mem
  obtain ⟨new, hnew', hsr⟩ := hsrc w0 G a w hr
  have hexec : (execOp a.eval o).run P w = ((Builtin.append_ #[t, t2] o.type #[.slice A xs.length xs.length, a.eval y]).run P w).andThen fun v w' => .ok (.value v) w' := by
    simp [execOp, ho, resolve, hcal, hargs, hts, invoke, builtin, hxe]
  have hlen : ys.length * (T e).size = new.size := by rw [← Array.length_toList, hnew'.1, flat_len hst]
  by_cases hy0 : ys = []
  · subst hy0
    have hx0 : xs = [] := by rcases hnew with h | h; exact h; exact absurd rfl h
    subst hx0
    have hnil : new = #[] := by
      have := hlen
      simp at this
      exact Array.eq_empty_of_size_eq_zero this.symm
    obtain ⟨G', k1, k2, k3⟩ := hr.2.2.row0 (e := e) hs0 A
    refine ⟨.value (.slice A 0 0), w, _, _, _, G', ?_, .inl rfl, ⟨rfl, rfl⟩, by simpa using k1, by simpa using k2, ?_⟩
    · rw [hexec]
      have := hsr.inn A 0 0 w (by simp)
        (by cases A with
          | none => rfl
          | some ad => rw [hnil]; simp [storeCells])
      simp only [List.length_nil]
      rw [this]
      rfl
    · refine .row _ _ _ (by simp) (fun R' hR' => ?_) (fun R' hR' _ => k3.symm)
      simp at hR'
      subst hR'
      simp
  · have hold : ∃ old : Array Value, RelL G s.σ w (flat xs) old.toList ∧ (Builtin.firstCells (T e).size xs.length (.slice A xs.length xs.length)).run P w.drew = .ok old w.drew := by
      rcases hm with hnil | ⟨b, g, rfl, _, vs, hv1, hv2⟩
      · refine ⟨#[], by rw [hnil]; exact .nil, ?_⟩
        rw [hnil]
        cases A with
        | none => rfl
        | some ad => simp [Builtin.firstCells, loadCells, loadCellsFrom]
      · refine ⟨vs.toArray, by simpa using hv1, ?_⟩
        have hvl : vs.length = xs.length * (T e).size := by rw [hv1.1, flat_len hxs]
        have := run_loadCells_list (P := P) w.drew ⟨b, g, none⟩ vs (fun j v hj => by
          rw [Addr_add]
          exact hv2 j v hj)
        rw [hvl] at this
        simpa [Builtin.firstCells] using this
    obtain ⟨old, ho1, ho2⟩ := hold
    have hyl : 0 < ys.length := List.length_pos_iff.2 hy0
    obtain ⟨nc, rest, g1, g2, g3⟩ := hsr.grow A xs.length xs.length old ho2 (by omega) hsz
    obtain ⟨d1, d2⟩ := hr.2.2.drew
    have e1 : old.size = xs.length * (T e).size := by rw [← Array.length_toList, ho1.1, flat_len hxs]
    obtain ⟨G', k1, k2, k3⟩ := d1.row (xs := xs ++ ys) (e := e) (st := (T e).size) (c := nc) (arr := old ++ new ++ rest) hs0
      (by
        intro z hz
        rcases List.mem_append.1 hz with hz | hz
        · exact hxs z hz
        · exact hst z hz)
      (by simpa using g1)
      (by
        rw [Array.size_append, Array.size_append, e1, ← hlen, g2, hzc, ← Nat.add_mul, ← Nat.add_mul]
        congr 1
        omega)
      (by
        intro i d v hd hv
        rw [flat_append] at hd
        have hi := (List.getElem?_eq_some_iff.1 hd).1
        have hrel := (ho1.append hnew').2 i d v hd (by
          rw [← Array.toList_append, Array.getElem?_toList]
          rw [Array.getElem?_append_left (by
            have := (ho1.append hnew').1
            rw [← Array.toList_append, Array.length_toList] at this
            rw [this]; exact hi)] at hv
          exact hv)
        exact hrel.ext d2) rfl (fr := (0, 0)) (fun k _ h => by simp at h)
    refine ⟨.value (.slice (some ⟨w.heap.size, 0, none⟩) (xs.length + ys.length) nc), _, _, _, _, G', ?_, .inl rfl, ⟨rfl, rfl⟩, k1, d2.trans k2, ?_⟩
    · rw [hexec, g3]; rfl
    · refine .row _ _ _ (by simp) (fun R' hR' => ?_) (fun R' hR' _ => by rw [k3]; simp)
      simp at hR'
      subst hR'
      simp

theorem Effect.appendNew (hT : TOK P T) {o : Oper} {c : Call} {x y : Operand} {t t2 e : TypeId} (ho : o.op = .call c) (hcal : c.callee = .builtin .append) (hargs : c.args = #[x, y]) (hts : c.argTypes = #[t, t2])
    {xs : List DV} (hx : get s.slots x = .slt xs) (ht : (T t).ty = .slice e) (hne : (T e).ty ≠ .other) (hs0 : 0 < (T e).size) (hzc : (T e).zero.cells.size = (T e).size) (hb : 0 < (T e).bytes)
    {C : Prop} {ys : List DV} (hy : srcD T s.σ t2 (get s.slots y) = some (C, ys)) (hc : C) (hxs : ∀ x ∈ xs, x.cells.length = (T e).size) (hst : ∀ y ∈ ys, y.cells.length = (T e).size) (hnew : xs = [] ∨ ys ≠ []) (hsz : (xs.length + ys.length) * (T e).bytes ≤ 140737488355328) :
    Effect P s o (one (.row s.σ.rows.length (xs.length + ys.length)) { s.σ with rows := s.σ.rows ++ [some ⟨xs ++ ys, e, (T e).size⟩] }) :=
  Effect.appendNewS hT ho hcal hargs hts hx ht hne hs0 hzc hb (AppSrc.ofSrc hT ht hne hb hy hc hst) hxs hst hnew hsz

/-! noughts -/
theorem zero_get {z : Array Value} {n i : Nat} {u : Value} (h : ((Array.range (n * z.size)).map fun i => z[i % z.size]!)[i]? = some u) : ∃ hz : i % z.size < z.size, u = z[i % z.size] ∧ i < n * z.size := by
  simp only [Array.getElem?_map, Option.map_eq_some_iff] at h
  obtain ⟨j, hj, rfl⟩ := h
  have hji : j = i ∧ i < n * z.size := by
    have := Array.getElem?_eq_some_iff.1 hj
    obtain ⟨h1, h2⟩ := this
    simp at h1 h2
    exact ⟨h2.symm, h1⟩
  obtain ⟨rfl, hlt⟩ := hji
  have hpos : 0 < z.size := by
    rcases Nat.eq_zero_or_pos z.size with h | h
    · rw [h] at hlt; simp at hlt
    · exact h
  exact ⟨Nat.mod_lt _ hpos, by rw [getElem!_pos z (j % z.size) (Nat.mod_lt _ hpos)], hlt⟩

theorem flat_replicate_get {z : DV} {n i : Nat} {d : DV} (h : (flat (List.replicate n z))[i]? = some d) : z.cells[i % z.cells.length]? = some d ∧ i < n * z.cells.length := by
  have hl : (flat (List.replicate n z)).length = n * z.cells.length := by
    rw [flat_len (st := z.cells.length) (by intro x hx; rw [List.eq_of_mem_replicate hx]), List.length_replicate]
  have hi : i < n * z.cells.length := by rw [← hl]; exact (List.getElem?_eq_some_iff.1 h).1
  refine ⟨?_, hi⟩
  have hpos : 0 < z.cells.length := by
    rcases Nat.eq_zero_or_pos z.cells.length with e | e
    · rw [e] at hi; simp at hi
    · exact e
  have hk : i / z.cells.length < n := by rw [Nat.div_lt_iff_lt_mul hpos]; exact hi
  have := flat_at (xs := List.replicate n z) (st := z.cells.length) (by intro x hx; rw [List.eq_of_mem_replicate hx]) (i / z.cells.length) (by simpa using hk)
  have e1 : (List.replicate n z).getD (i / z.cells.length) .undef = z := by
    rw [List.getD_eq_getElem?_getD, List.getElem?_replicate, if_pos hk]; rfl
  rw [e1] at this
  have h2 : z.cells[i % z.cells.length]? = ((flat (List.replicate n z)).drop (i / z.cells.length * z.cells.length))[i % z.cells.length]? := by
    have h3 := congrArg (fun l : List DV => l[i % z.cells.length]?) this
    simp only [List.getElem?_take] at h3
    rw [if_pos (Nat.mod_lt _ hpos)] at h3
    exact h3.symm
  rw [h2, List.getElem?_drop, Nat.mul_comm, Nat.div_add_mod]
  exact h

theorem zeros_rel {G : Gh} {σ : Store} {w : World} {z : Value} {n i : Nat} {d : DV} {u : Value} (hd : (flat (List.replicate n (ofVal z)))[i]? = some d) {m : Nat}
    (hu : ((Array.range (m * z.cells.size)).map fun i => z.cells[i % z.cells.size]!)[i]? = some u) : RelV G σ w d u := by
  obtain ⟨h1, _⟩ := flat_replicate_get hd
  obtain ⟨h2, rfl, _⟩ := zero_get hu
  have hr := ofVal_cells (G := G) (σ := σ) (w := w) z
  have hl : (ofVal z).cells.length = z.cells.size := by rw [← hr.1, Array.length_toList]
  rw [hl] at h1
  exact hr.2 _ d _ h1 (by rw [Array.getElem?_toList, Array.getElem?_eq_getElem h2])

theorem wrap_nat {n : Int} (h0 : 0 ≤ n) (h1 : n < 9223372036854775808) : IntKind.i64.wrap n = n := IntWalk.i64_in n (by omega)

theorem Effect.make (hT : TOK P T) {o : Oper} {x y : Operand} {t e : TypeId} (ho : o.op = .makeSlice t x y) (ht : (T t).ty = .slice e) (hne : (T e).ty ≠ .other) (hs0 : 0 < (T e).size) (hzc : (T e).zero.cells.size = (T e).size) (hb : 0 < (T e).bytes)
    {k k' : IntKind} {n m : Int} (hx : get s.slots x = .int k n) (hy : get s.slots y = .int k' m) (h0 : 0 ≤ n) (hnm : n ≤ m) (hsz : m * (T e).bytes ≤ 281474976710656) :
    Effect P s o (one (.row s.σ.rows.length n.toNat) { s.σ with rows := s.σ.rows ++ [some ⟨List.replicate n.toNat (ofVal (T e).zero), e, (T e).size⟩] }) := by
  intro w0 G a w hr
  have hxv := get_rel w hr.2.1 x
  have hyv := get_rel w hr.2.1 y
  rw [hx] at hxv
  rw [hy] at hyv
  generalize hxe : a.eval x = vx at hxv
  generalize hye : a.eval y = vy at hyv
  cases hxv; cases hyv
  have hm1 : m ≤ m * (T e).bytes := by
    have : m * 1 ≤ m * (T e).bytes := Int.mul_le_mul_of_nonneg_left (by omega) (by omega)
    omega
  have hwn : IntKind.i64.wrap n = n := wrap_nat h0 (by omega)
  have hwm : IntKind.i64.wrap m = m := wrap_nat (by omega) (by omega)
  obtain ⟨i, hi, _, hib, _⟩ := TOK.info hT w hne
  have hcl : (ofVal (T e).zero).cells.length = (T e).size := by
    have := (ofVal_cells (G := G) (σ := s.σ) (w := w) (T e).zero).1
    rw [← this, Array.length_toList, hzc]
  obtain ⟨G', k1, k2, k3⟩ := hr.2.2.row (xs := List.replicate n.toNat (ofVal (T e).zero)) (e := e) (st := (T e).size) (c := m.toNat) (arr := (Array.range (m.toNat * (T e).size)).map fun i => (T e).zero.cells[i % (T e).zero.cells.size]!) hs0
    (by intro x hx; rw [List.eq_of_mem_replicate hx]; exact hcl) (by simp; omega) (by simp)
    (fun i d v hd hv => by rw [← hzc] at hv; exact zeros_rel hd hv) rfl (fr := (0, 0)) (fun k _ h => by simp at h)
  have hlarge : ¬ ((decide (m < 0) || decide ((i.bytes : Int) * m > 2 ^ 48)) || decide (n < 0) || decide (n > m)) = true := by
    rw [hib]
    rw [Int.mul_comm] at hsz
    simp
    omega
  refine ⟨.value (.slice (some ⟨w.heap.size, 0, none⟩) n.toNat m.toNat), _, _, _, _, G', ?_, .inl rfl, ⟨rfl, rfl⟩, k1, k2, ?_⟩
  · by_cases hm0 : m.toNat = 0
    · simp only [execOp, ho, hxe, hye, Instr.makeSlice, asInt, asIntOf, Sem.run_bind, Sem.run_pure, TOK.und_slice hT w ht, Result.andThen_ok, hi, hwn, hwm, Sem.run_ite, hlarge, if_false, run_askRoom, TOK.size hT w hne, newRow, run_newObj, hm0, Nat.zero_mul, if_true]
      have hz0 : ∀ f : Nat → Value, Array.map f (Array.range 0) = #[] := fun f => by apply Array.eq_empty_of_size_eq_zero; simp
      simp [hz0]
    · have hne0 : ¬ m.toNat * (T e).size = 0 := by
        have : 0 < m.toNat * (T e).size := Nat.mul_pos (by omega) hs0
        omega
      simp only [execOp, ho, hxe, hye, Instr.makeSlice, asInt, asIntOf, Sem.run_bind, Sem.run_pure, TOK.und_slice hT w ht, Result.andThen_ok, hi, hwn, hwm, Sem.run_ite, hlarge, if_false, run_askRoom, TOK.size hT w hne, newRow, run_newObj, hne0, TOK.zero hT w hne, World.alloc_eq]
      simp
  · refine .row _ _ _ (by simp) (fun R' hR' => ?_) (fun R' hR' _ => by rw [k3]; simp)
    simp at hR'
    subst hR'
    simp

/-- So many noughts, laid behind a row. -/
theorem AppSrc.zeros (hT : TOK P T) {t t2 ty e : TypeId} {k : IntKind} (ht : (T t).ty = .slice e) (h2 : (T t2).ty = .int k) (hne : (T e).ty ≠ .other) (hs0 : 0 < (T e).size) (hzc : (T e).zero.cells.size = (T e).size) (hb : 0 < (T e).bytes) {y : Operand} {k' : IntKind} {n : Int}
    (hy : get s.slots y = .int k' n) (h0 : 0 ≤ n) (hsz : n * (T e).bytes ≤ 140737488355328) :
    ∀ w0 G a w, RelS w0 G s a w → ∃ new : Array Value, RelL G s.σ w (flat (List.replicate n.toNat (ofVal (T e).zero))) new.toList ∧ AppSrc P T t t2 ty e (a.eval y) (List.replicate n.toNat (ofVal (T e).zero)).length new w := by
  intro w0 G a w hr
  have hyv := get_rel w hr.2.1 y
  rw [hy] at hyv
  generalize hye : a.eval y = vy at hyv
  cases hyv
  have hn1 : n ≤ n * (T e).bytes := by
    have : n * 1 ≤ n * (T e).bytes := Int.mul_le_mul_of_nonneg_left (by omega) (by omega)
    omega
  have hwn : IntKind.i64.wrap n = n := wrap_nat h0 (by omega)
  have hcl : (ofVal (T e).zero).cells.length = (T e).size := by
    have := (ofVal_cells (G := G) (σ := s.σ) (w := w) (T e).zero).1
    rw [← this, Array.length_toList, hzc]
  have hlt : ¬ n < 0 := by omega
  have hbig : ¬ n * ((T e).bytes : Int) > 2 ^ 48 := by omega
  have hzsz : (Builtin.zeroCells (T e).zero.cells n.toNat).size = n.toNat * (T e).size := by rw [size_zeroCells, hzc]
  have happ : ∀ w' : World, (if n.toNat * (T e).size = 0 then Result.ok #[] w' else ((zeroValue e).run P w').andThen fun a w'' => Result.ok (Builtin.zeroCells a.cells n.toNat) w'') = Result.ok (Builtin.zeroCells (T e).zero.cells n.toNat) w' := by
    intro w'
    by_cases hz : n.toNat * (T e).size = 0
    · rw [if_pos hz]
      have : Builtin.zeroCells (T e).zero.cells n.toNat = #[] := Array.eq_empty_of_size_eq_zero (by rw [hzsz, hz])
      rw [this]
    · rw [if_neg hz, TOK.zero hT w' hne]; rfl
  have und2 : ∀ w' : World, (underlying t2).run P w' = .ok (.int k) w' := fun w' => TOK.und_int hT w' h2
  refine ⟨Builtin.zeroCells (T e).zero.cells n.toNat, ⟨?_, fun i d v hd hv => ?_⟩, ?_⟩
  · rw [Array.length_toList, hzsz, flat_len (st := (T e).size) (by intro x hx; rw [List.eq_of_mem_replicate hx]; exact hcl), List.length_replicate]
  · rw [Array.getElem?_toList] at hv
    exact zeros_rel hd hv
  · rw [List.length_replicate]
    refine ⟨fun A n' c w' hroom hst => ?_, fun A n' c old hfo hroom hsz' => ?_⟩
    · obtain ⟨i, hi, hi1, hi2, hi3⟩ := TOK.info hT w hne
      unfold Builtin.append_
      simp only [List.getElem?_toArray, List.getElem?_cons_zero, List.getElem?_cons_succ, Sem.run_bind, TOK.und_slice hT w ht, Result.andThen_ok, TOK.size hT w hne, und2, Sem.run_pure, if_true, asInt, asIntOf, hwn, Sem.run_ite, hlt, if_false, hi, hi2, hbig, hroom,
        Bool.not_true, Bool.false_eq_true]
      rw [happ w]
      simp only [Result.andThen_ok]
      cases A with
      | none => simp only at hst ⊢; subst hst; rfl
      | some ad => simp only at hst ⊢; rw [Sem.run_bind, hst]; rfl
    · have hfit := growslice_fits hroom hsz'
      obtain ⟨i, hi, hi1, hi2, hi3⟩ := TOK.info hT w hne
      have hmax : ¬ ((n' + n.toNat : Nat) : Int) > IntKind.i64.max := by
        have h1 : n' + n.toNat ≤ (n' + n.toNat) * (T e).bytes := Nat.le_mul_of_pos_right _ hb
        simp only [IntKind.max, IntKind.signed, IntKind.bits]
        simp only [if_true]
        omega
      have hmb : ¬ (Builtin.nextslicecap (n' + n.toNat) c * i.bytes > 2 ^ 48) := by rw [hi2]; omega
      have hnr : ¬ (n' + n.toNat ≤ c) := by omega
      have hz : (zeroValue e).run P w.drew = .ok (T e).zero w.drew := TOK.zero hT w.drew hne
      have hi' : (typeInfo e).run P w.drew = .ok i w.drew := by
        obtain ⟨i', h1, _⟩ := TOK.info hT w.drew hne
        simp only [typeInfo, Sem.run_bind, run_program, Result.andThen_ok] at hi h1 ⊢
        cases hq : P.info? e with
        | none => rw [hq] at hi; simp at hi
        | some j => rw [hq] at hi; simp at hi; simp [hi]
      refine ⟨(Question.appendCap (n' + n.toNat) c e).cut (w.tape w.drawn (.appendCap (n' + n.toNat) c e)), Builtin.zeroCells (T e).zero.cells ((Question.appendCap (n' + n.toNat) c e).cut (w.tape w.drawn (.appendCap (n' + n.toNat) c e)) - (n' + n.toNat)), by simp [Question.cut], size_zeroCells _ _, ?_⟩
      have happ' := happ w.drew
      rw [hz] at happ'
      unfold Builtin.append_
      simp only [List.getElem?_toArray, List.getElem?_cons_zero, List.getElem?_cons_succ, Sem.run_bind, TOK.und_slice hT w ht, Result.andThen_ok, TOK.size hT w hne, und2, Sem.run_pure, if_true, asInt, asIntOf, hwn, Sem.run_ite, hlt, if_false, hi, hi2, hbig, hnr,
        Bool.not_true, Bool.false_eq_true, hmax, false_and, run_choose, Question.forced, run_askRoom, World.drew_eq, hfo, hz, hi', newRow, run_newObj, World.alloc_eq, World.size_drew]
      rw [hi2] at hmb
      simp only [hmb, if_false, Result.andThen_ok]
      simp only [Result.andThen_ok] at happ'
      rw [happ']
      simp only [Result.andThen_ok, hz, World.size_drew]
end
end Go.Val
