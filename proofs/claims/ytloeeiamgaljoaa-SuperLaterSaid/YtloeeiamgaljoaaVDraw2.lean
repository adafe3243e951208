/- Drawn regions, gone through. -/
import Derived.Test.YtloeeiamgaljoaaVDraw
namespace Go.Val
open Go.RowKit
set_option linter.unusedSimpArgs false
set_option linter.unusedVariables false

theorem get_agree {s s' : List DV} {x : Operand} (h : ∀ t, x = .tmp t → s'.getD t .undef = s.getD t .undef) : get s' x = get s x := by
  cases x <;> try rfl
  exact h _ rfl

theorem gets_congr {s s' : List DV} {xs : Array Operand} (h : ∀ x ∈ xs, get s' x = get s x) : gets s' xs = gets s xs := by
  simp only [gets]
  exact List.map_congr_left (fun x hx => h x (by simpa using hx))
theorem opt_congr {s s' : List DV} {x : Option Operand} (h : ∀ y ∈ x, get s' y = get s y) : x.map (get s') = x.map (get s) := by
  cases x with
  | none => rfl
  | some y => simp [h y rfl]
theorem parts_congr {s s' : List DV} {ps : Array (Nat × Operand)} (h : ∀ x ∈ (ps.toList.map (·.2)).toArray, get s' x = get s x) : (ps.toList.map fun p => (p.1, get s' p.2)) = ps.toList.map fun p => (p.1, get s p.2) :=
  List.map_congr_left (fun p hp => by rw [h p.2 (by simp; exact ⟨p.1, by simpa using hp⟩)])

theorem stepQ_congr {T : TypeId → TI} {σ : Store} {s s' : List DV} {op : Op} (h : ∀ x ∈ op.operands, get s' x = get s x) : stepQ T σ s' op = stepQ T σ s op := by
  cases op <;> simp only [stepQ]
  case call c =>
    have hc : ∀ x ∈ c.args, get s' x = get s x := fun x hx => h x (by
      simp only [Op.operands, Call.operands]
      cases c.callee <;> simp [hx])
    unfold callD
    split
    · rename_i x t hcal hargs hts
      rw [hc x (by rw [← Array.mem_toList_iff, hargs]; simp)]
    · rename_i xs ts hcal
      rw [List.map_congr_left (fun x hx => hc x (by simpa using hx))]
    · rename_i xs ts hcal
      rw [List.map_congr_left (fun x hx => hc x (by simpa using hx))]
    · rfl
  case build t ps => rw [parts_congr (fun x hx => h x (by simpa [Op.operands] using hx))]
  case makeFunc f a b => rw [gets_congr (fun x hx => h x (by simp [Op.operands, hx])), gets_congr (fun x hx => h x (by simp [Op.operands, hx]))]
  case slice t x lo hi mx =>
    rw [h x (by simp [Op.operands]), opt_congr (fun y hy => h y (by cases hy; simp [Op.operands])), opt_congr (fun y hy => h y (by cases hy; simp [Op.operands])), opt_congr (fun y hy => h y (by cases hy; simp [Op.operands]))]
  all_goals (try simp only [Op.operands, List.mem_toArray, List.mem_cons, List.not_mem_nil, or_false, forall_eq_or_imp, forall_eq] at h)
  all_goals (try simp only [h])

theorem newD_congr {T : TypeId → TI} {σ : Store} {s s' : List DV} {op : Op} (h : ∀ x ∈ op.operands, get s' x = get s x) : newD T σ s' op = newD T σ s op := by
  cases op <;> simp only [newD]
  case buildSlice t n ps => rw [parts_congr (fun x hx => h x (by simpa [Op.operands] using hx))]
  case convert a b x => rw [h x (by simp [Op.operands])]

theorem cmpD_congr {T : TypeId → TI} {s s' : List DV} {op : Op} (h : ∀ x ∈ op.operands, get s' x = get s x) : cmpD T s' op = cmpD T s op := by
  cases op
  case binOp b t x y t2 =>
    cases b <;> simp only [cmpD]
    all_goals rw [h x (by simp [Op.operands]), h y (by simp [Op.operands])]
  all_goals rfl

theorem stepA_congr {T : TypeId → TI} {σ : Store} {s s' : List DV} {op : Op} (h : ∀ x ∈ op.operands, get s' x = get s x) : stepA T σ s' op = stepA T σ s op := by
  have hc : convR T σ s' op = convR T σ s op := by
    cases op <;> try rfl
    case convert a b x => simp only [convR]; rw [h x (by simp [Op.operands])]
  have hm : makeQ T s' op = makeQ T s op := by
    cases op <;> try rfl
    case makeSlice a x y => simp only [makeQ]; rw [h x (by simp [Op.operands]), h y (by simp [Op.operands])]
  have ha : appQ T σ s' op = appQ T σ s op := by
    cases op <;> try rfl
    case call c =>
      simp only [appQ]
      cases hcc : appCall c with
      | none => rfl
      | some q =>
        obtain ⟨x, y, t, t2⟩ := q
        obtain ⟨_, a2, _⟩ := appCall_some hcc
        simp only
        rw [h x (by simp [Op.operands, Call.operands, a2]), h y (by simp [Op.operands, Call.operands, a2])]
  unfold stepA
  rw [hc, hm, ha, newD_congr h, cmpD_congr h, stepQ_congr h]

theorem agree_ops {ops : Array Oper} {o : Oper} {s s' : List DV} (h : agree (o.looksAt ops) s s') : ∀ x ∈ o.op.operands, get s' x = get s x := by
  intro x hx
  refine get_agree (fun t ht => h t ?_)
  subst ht
  simp only [Oper.looksAt, List.mem_append, List.mem_filterMap]
  exact .inl ⟨.tmp t, by simpa using hx, rfl⟩

def runQ (T : TypeId → TI) (dsts : List (Option Tmp)) (τ : Store) : List Oper → List Bool → List DV → Prop → List DV → Prop × List DV × List DV × List Oper × List Bool
  | [], f, s, C, acc => (C, acc, s, [], f)
  | o :: l, f, s, C, acc =>
    match f.headD false with
    | true => (C, acc, s, o :: l, f)
    | false =>
      match onD dsts s o.guard with
      | none => (C, acc, s, o :: l, f)
      | some false => runQ T dsts τ l f.tail (putS s o.dst (.tup [])) C (.tup [] :: acc)
      | some true =>
        match stepA T τ s o.op with
        | some (C', d) => runQ T dsts τ l f.tail (putS s o.dst d) (C ∧ C') (d :: acc)
        | none => (C, acc, s, o :: l, f)

section
variable {P : Program} {T : TypeId → TI} {dsts : List (Option Tmp)} {l rest : List Oper} {f f' : List Bool} {s s' : List DV} {σ σ' : Store} {E : Store → Prop} {K : List DV → Store → Prop} {Q : Exit → St → Prop}

def DrD (P : Program) (E : Store → Prop) (dsts : List (Option Tmp)) (l : List Oper) (f : List Bool) (s : List DV) (σ : Store) (K : List DV → Store → Prop) : Prop :=
  ∀ ops : Array Oper, ops.toList.map (·.dst) = dsts → Drw P E ops l f s σ K

theorem Ev_drawD {id : Nat} (hm : P.follows .mixedOrders = true) (f : List Bool) (E : Store → Prop) (hd : l.map (·.dst) = dsts) (hf : fit l f = true)
    (h : DrD P E dsts l f s σ (fun s τ => Q .normal ⟨s, τ⟩)) : Ev P (.region id l.toArray true) ⟨s, σ⟩ Q :=
  Ev_draw hm f E hf (h _ (by simpa using hd))

theorem DrD_nil (hE : E σ) (h : K s σ) : DrD P E dsts [] f s σ K := fun _ _ => ⟨hE, h⟩

theorem runQ_acc {τ : Store} : ∀ {l : List Oper} {f : List Bool} {s : List DV} {C : Prop} {acc : List DV}, ∃ xs, (runQ T dsts τ l f s C acc).2.1 = xs ++ acc
  | [], f, s, C, acc => ⟨[], rfl⟩
  | o :: l, f, s, C, acc => by
    unfold runQ
    split
    · exact ⟨[], rfl⟩
    · split
      · exact ⟨[], rfl⟩
      · obtain ⟨xs, h⟩ := runQ_acc (τ := τ) (l := l) (f := f.tail) (s := putS s o.dst (.tup [])) (C := C) (acc := .tup [] :: acc)
        exact ⟨xs ++ [.tup []], by rw [h]; simp⟩
      · split
        · rename_i C' d _
          obtain ⟨xs, h⟩ := runQ_acc (τ := τ) (l := l) (f := f.tail) (s := putS s o.dst d) (C := C ∧ C') (acc := d :: acc)
          exact ⟨xs ++ [d], by rw [h]; simp⟩
        · exact ⟨[], rfl⟩
theorem runQ_C {τ : Store} : ∀ {l : List Oper} {f : List Bool} {s : List DV} {C : Prop} {acc : List DV}, (runQ T dsts τ l f s C acc).1 → C
  | [], f, s, C, acc, h => h
  | o :: l, f, s, C, acc, h => by
    unfold runQ at h
    split at h
    · exact h
    · split at h
      · exact h
      · exact runQ_C h
      · split at h
        · exact (runQ_C h).1
        · exact h

/-- What the conditions are plays no part. -/
theorem runQ_weak {τ : Store} {acc : List DV} : ∀ (l : List Oper) (f : List Bool) (s : List DV) (A B : Prop) (acc0 : List DV), (A → B) → ∀ C, runQ T dsts τ l f s A acc0 = (C, acc, s', rest, f') → C → ∃ C', runQ T dsts τ l f s B acc0 = (C', acc, s', rest, f') ∧ C' := by
  intro l
  induction l with
  | nil =>
    intro f s A B acc0 hAB C e hc
    simp only [runQ, Prod.mk.injEq] at e ⊢
    obtain ⟨rfl, e⟩ := e
    exact ⟨B, ⟨rfl, e⟩, hAB hc⟩
  | cons o l ih =>
    intro f s A B acc0 hAB C e hc
    have stop : (A, acc0, s, o :: l, f) = (C, acc, s', rest, f') → ∃ C', (B, acc0, s, o :: l, f) = (C', acc, s', rest, f') ∧ C' := by
      intro e1
      simp only [Prod.mk.injEq] at e1 ⊢
      obtain ⟨e0, e1⟩ := e1
      exact ⟨B, ⟨rfl, e1⟩, hAB (e0 ▸ hc)⟩
    unfold runQ at e ⊢
    cases hf : f.headD false with
    | true => rw [hf] at e; exact stop e
    | false =>
      rw [hf] at e
      simp only at e ⊢
      cases ho : onD dsts s o.guard with
      | none => rw [ho] at e; exact stop e
      | some b =>
        rw [ho] at e
        cases b with
        | false => exact ih _ _ _ _ _ hAB _ e hc
        | true =>
          simp only at e ⊢
          cases h3 : stepA T τ s o.op with
          | none => rw [h3] at e; exact stop e
          | some p =>
            rw [h3] at e
            exact ih _ _ _ _ _ (fun h => ⟨hAB h.1, h.2⟩) _ e hc

theorem DrD_run (hT : TOK P T) (hE : E σ) {acc : List DV} (h : ∀ τ, E τ → ∃ C, runQ T dsts τ l f s True [] = (C, acc, s', rest, f') ∧ C) (k : DrD P E dsts rest f' s' σ K) : DrD P E dsts l f s σ K := by
  suffices H : ∀ (l : List Oper) (f : List Bool) (s : List DV) (acc0 : List DV) (C0 : Store → Prop), (∀ τ, E τ → ∃ C, runQ T dsts τ l f s (C0 τ) acc0 = (C, acc, s', rest, f') ∧ C) → DrD P E dsts l f s σ K from H l f s [] (fun _ => True) h
  intro l
  induction l with
  | nil =>
    intro f s acc0 C0 h
    obtain ⟨C, h1, _⟩ := h σ hE
    simp only [runQ, Prod.mk.injEq] at h1
    obtain ⟨_, _, rfl, rfl, rfl⟩ := h1
    exact k
  | cons o l ih =>
    intro f s acc0 C0 h
    have stop : ∀ C D : Prop, (C, acc0, s, o :: l, f) = (D, acc, s', rest, f') → DrD P E dsts (o :: l) f s σ K := by
      intro C D e
      simp only [Prod.mk.injEq] at e
      obtain ⟨_, _, rfl, rfl, rfl⟩ := e
      exact k
    obtain ⟨C1, h1, hc1⟩ := h σ hE
    unfold runQ at h1
    cases hf : f.headD false with
    | true => rw [hf] at h1; exact stop _ _ h1
    | false =>
      rw [hf] at h1
      simp only at h1
      cases hon : onD dsts s o.guard with
      | none => rw [hon] at h1; exact stop _ _ h1
      | some b =>
        rw [hon] at h1
        cases b with
        | false =>
          have := ih f.tail (putS s o.dst (.tup [])) (.tup [] :: acc0) C0 (fun τ hτ => by
            obtain ⟨C, e, hc⟩ := h τ hτ
            unfold runQ at e
            rw [hf, hon] at e
            exact ⟨C, e, hc⟩)
          intro ops ho
          exact ⟨hE, .inl ⟨onD_wanted ho hon, hf, by rw [putS_eq]; exact this ops ho⟩⟩
        | true =>
          simp only at h1
          cases hst : stepA T σ s o.op with
          | none => rw [hst] at h1; exact stop _ _ h1
          | some p =>
            obtain ⟨C', d⟩ := p
            rw [hst] at h1
            simp only at h1
            have all : ∀ τ, E τ → ∃ C', stepA T τ s o.op = some (C', d) ∧ C' ∧ ∃ C, runQ T dsts τ l f.tail (putS s o.dst d) (C0 τ ∧ C') (d :: acc0) = (C, acc, s', rest, f') ∧ C := by
              intro τ hτ
              obtain ⟨C, e, hc⟩ := h τ hτ
              unfold runQ at e
              rw [hf, hon] at e
              simp only at e
              obtain ⟨xs, hxs⟩ : ∃ xs, acc = xs ++ d :: acc0 := by
                obtain ⟨xs, hx⟩ := runQ_acc (T := T) (dsts := dsts) (τ := σ) (l := l) (f := f.tail) (s := putS s o.dst d) (C := C0 σ ∧ C') (acc := d :: acc0)
                rw [h1] at hx
                exact ⟨xs, hx⟩
              cases hst2 : stepA T τ s o.op with
              | some p2 =>
                obtain ⟨C2, d2⟩ := p2
                rw [hst2] at e
                simp only at e
                obtain ⟨ys, hy⟩ := runQ_acc (T := T) (dsts := dsts) (τ := τ) (l := l) (f := f.tail) (s := putS s o.dst d2) (C := C0 τ ∧ C2) (acc := d2 :: acc0)
                rw [e] at hy
                have hy : acc = ys ++ d2 :: acc0 := hy
                have hd : d2 = d := by
                  have e1 := hxs.symm.trans hy
                  have e2 := congrArg List.reverse e1
                  simp only [List.reverse_append, List.reverse_cons, List.append_assoc] at e2
                  have e3 := List.append_cancel_left e2
                  simp at e3
                  exact e3.1.symm
                subst hd
                have hC2 : C2 := by
                  have := runQ_C (T := T) (dsts := dsts) (τ := τ) (l := l) (f := f.tail) (s := putS s o.dst d2) (C := C0 τ ∧ C2) (acc := d2 :: acc0) (by rw [e]; exact hc)
                  exact this.2
                exact ⟨C2, rfl, hC2, C, e, hc⟩
              | none =>
                rw [hst2] at e
                simp only [Prod.mk.injEq] at e
                have := congrArg List.length (e.2.1.trans hxs)
                simp at this
                omega
            intro ops ho
            refine ⟨hE, .inr (.inl ⟨onD_wanted ho hon, hf, d, ?_, ?_⟩)⟩
            · intro τ hτ s1 hag
              obtain ⟨C2, hst2, hC2, _⟩ := all τ hτ
              exact Quiet.stepA hT (by rw [stepA_congr (agree_ops hag)]; exact hst2) hC2
            · rw [putS_eq]
              refine ih f.tail (putS s o.dst d) (d :: acc0) (fun τ => True) (fun τ hτ => ?_) ops ho
              obtain ⟨C2, _, hC2, C, e, hc⟩ := all τ hτ
              exact runQ_weak _ _ _ _ _ _ (fun _ => trivial) C e hc

theorem drw_append {ops : Array Oper} {K1 : List DV → Store → Prop} {l2 : List Oper} : ∀ {l1 : List Oper} {f : List Bool} {s : List DV} {σ : Store}, Drw P E ops l1 f s σ K1 → (∀ s' σ', K1 s' σ' → Drw P E ops l2 (f.drop l1.length) s' σ' K) → Drw P E ops (l1 ++ l2) f s σ K
  | [], f, s, σ, h, k => k s σ h.2
  | o :: l1, f, s, σ, h, k => by
    have e : f.drop (o :: l1).length = f.tail.drop l1.length := by cases f <;> simp
    rw [e] at k
    refine ⟨h.1, ?_⟩
    rcases h.2 with ⟨h1, h2, h3⟩ | ⟨h1, h2, d, h3, h4⟩ | ⟨h1, h2, d, σ', h3, h4⟩
    · exact .inl ⟨h1, h2, drw_append h3 k⟩
    · exact .inr (.inl ⟨h1, h2, d, h3, drw_append h4 k⟩)
    · exact .inr (.inr ⟨h1, h2, d, σ', h3, drw_append h4 k⟩)
/-- So many operations of a drawn region in one go. -/
theorem DrD_runN (hT : TOK P T) (hE : E σ) (n : Nat) {acc : List DV} {l1 l2 : List Oper} {f2 : List Bool} (h1 : l.take n = l1) (h2 : l.drop n = l2) (hn : n ≤ l.length) (h3 : f.drop n = f2)
    (h : ∀ τ, E τ → ∃ C, runQ T dsts τ l1 f s True [] = (C, acc, s', [], f') ∧ C) (k : DrD P E dsts l2 f2 s' σ K) : DrD P E dsts l f s σ K := by
  intro ops ho
  have hd : DrD P E dsts l1 f s σ (fun s'' σ'' => s'' = s' ∧ σ'' = σ) := DrD_run hT hE h (DrD_nil hE ⟨rfl, rfl⟩)
  have hl : l = l1 ++ l2 := by rw [← h1, ← h2, List.take_append_drop]
  have hlen : l1.length = n := by rw [← h1, List.length_take]; omega
  rw [hl]
  refine drw_append (hd ops ho) ?_
  rintro s'' σ'' ⟨rfl, rfl⟩
  rw [hlen, h3]
  exact k ops ho

theorem calleeD_congr {c : Call} {s s' : List DV} (h : ∀ x ∈ (Op.call c).operands, get s' x = get s x) : calleeD P s' c = calleeD P s c := by
  have hc : ∀ x ∈ c.args, get s' x = get s x := fun x hx => h x (by
    simp only [Op.operands, Call.operands]
    cases c.callee <;> simp [hx])
  unfold calleeD
  split
  · rename_i x hx
    rw [h x (by simp [Op.operands, Call.operands, hx]), gets_congr hc]
  · rfl

variable {t : Tmp} {ty : TypeId} {pos : String} {af : Array Edge} {g : Option (Nat × Bool)}

/-- A call of values alone. -/
theorem DrD_pure {c : Call} {dst : Option Tmp} (hon : onD dsts s g = some true) (hf : f.headD false = false) {fu : FuncId} {args args' : List DV} {d : DV} (h : calleeD P s c = some (fu, args)) (hle : LeL args args') (hF : Pure P fu args' d) (hat : FnAt P fu) (hE : E σ)
    (hs : putS s dst d = s') (k : DrD P E dsts l f.tail s' σ K) : DrD P E dsts (⟨dst, .call c, ty, pos, af, g⟩ :: l) f s σ K := by
  intro ops ho
  refine ⟨hE, .inr (.inl ⟨onD_wanted ho hon, hf, d, ?_, by rw [putS_eq, hs]; exact k ops ho⟩)⟩
  intro τ hτ s1 hag w0 G a w K Qr hr hK
  refine Does.act (s := ⟨s1, τ⟩) rfl (by rw [calleeD_congr (agree_ops hag)]; exact h) hle (hF τ) hat w0 G a w K Qr hr ?_
  rintro v r σ' G' w' ⟨rfl, rfl⟩ hS' hE' hd
  exact hK v G' w' hS' hE' hd

/-- A call that hands back a new row. -/
theorem DrD_own {c : Call} {dst : Option Tmp} (hon : onD dsts s g = some true) (hf : f.headD false = true) {fu : FuncId} {args args' : List DV} {xs : List DV} {e : TypeId} {st : Nat} (h : calleeD P s c = some (fu, args)) (hle : LeL args args') (hF : PureOwn P fu args' xs e st) (hat : FnAt P fu) (hE : E σ)
    (hs : putS s dst (.row σ.rows.length xs.length) = s') (hσ : (⟨σ.rows ++ [some ⟨xs, e, st⟩], σ.boxes, σ.maps⟩ : Store) = σ') (k : DrD P E dsts l f.tail s' σ' K) : DrD P E dsts (⟨dst, .call c, ty, pos, af, g⟩ :: l) f s σ K := by
  intro ops ho
  refine ⟨hE, .inr (.inr ⟨onD_wanted ho hon, hf, _, σ', ?_, by rw [putS_eq, hs]; exact k ops ho⟩)⟩
  subst hσ
  refine ⟨(fun h => by cases h), ?_⟩
  intro s1 hag
  exact Does.act (s := ⟨s1, σ⟩) rfl (by rw [calleeD_congr (agree_ops hag)]; exact h) hle (hF σ) hat

/-- What writes. -/
theorem DrD_eff {op : Op} {dst : Option Tmp} (hon : onD dsts s g = some true) (hf : f.headD false = true) {d : DV} (h : ∀ s1, (∀ x ∈ op.operands, get s1 x = get s x) → Effect P ⟨s1, σ⟩ ⟨dst, op, ty, pos, af, g⟩ (one d σ')) (hE : E σ)
    (hs : putS s dst d = s') (k : DrD P E dsts l f.tail s' σ' K) (hrd : isRd ⟨dst, op, ty, pos, af, g⟩ = false) : DrD P E dsts (⟨dst, op, ty, pos, af, g⟩ :: l) f s σ K := by
  intro ops ho
  refine ⟨hE, .inr (.inr ⟨onD_wanted ho hon, hf, d, σ', ?_, by rw [putS_eq, hs]; exact k ops ho⟩)⟩
  refine ⟨(fun h => by rw [hrd] at h; cases h), ?_⟩
  intro s1 hag
  exact (h s1 (agree_ops hag)).act
end
end Go.Val
