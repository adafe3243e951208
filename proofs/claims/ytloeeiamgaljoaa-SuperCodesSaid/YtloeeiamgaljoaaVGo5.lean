/- Regions that draw their order, in the short rules: what is only read there are variables, never rows that are written. -/
import Derived.Test.YtloeeiamgaljoaaVGo4
namespace Go.Val
open Go.RowKit
set_option linter.unusedSimpArgs false
set_option linter.unusedVariables false

/-- The variables and maps are as they were. -/
def EB (bx : List (Option Box)) (mp : List (Option (List (DV × DV)))) : Store → Prop := fun τ => τ.boxes = bx ∧ τ.maps = mp
def isWr (own : List FuncId) (o : Oper) : Bool :=
  match o.op with
  | .call c =>
    match c.callee with
    | .builtin .append => true
    | .value (.func f) => own.contains f
    | _ => false
  | .alloc _ | .box _ _ | .makeSlice _ _ _ | .store _ _ _ => true
  | _ => false
def flagsOf (own : List FuncId) (l : List Oper) : List Bool := l.map (isWr own)

section
variable {P : Program} {T : TypeId → TI} {dsts : List (Option Tmp)} {l rest : List Oper} {f f' : List Bool} {s s' : List DV} {σ σ' : Store} {K : List DV → Store → Prop} {Q : Exit → St → Prop}
  {dst : Option Tmp} {op : Op} {ty : TypeId} {pos : String} {af : Array Edge} {g : Option (Nat × Bool)} {bx : List (Option Box)} {mp : List (Option (List (DV × DV)))} {E : Store → Prop}

theorem effD_congr {op : Op} (h : ∀ x ∈ op.operands, get s' x = get s x) : effD T σ s' op = effD T σ s op := by
  cases op <;> try rfl
  case box e x => simp only [effD]; rw [h x (by simp [Op.operands])]
  case makeSlice t x y => simp only [effD]; rw [h x (by simp [Op.operands]), h y (by simp [Op.operands])]
  case call c =>
    simp only [effD]
    cases hc : appCall c with
    | none => rfl
    | some q =>
      obtain ⟨x, y, t, t2⟩ := q
      obtain ⟨_, a2, _⟩ := appCall_some hc
      simp only
      rw [h x (by simp [Op.operands, Call.operands, a2]), h y (by simp [Op.operands, Call.operands, a2])]

/-- Any store. -/
def EA : Store → Prop := fun _ => True
def noStore (l : List Oper) : Bool := l.all fun o => match o.op with | .store _ _ _ | .alloc _ | .box _ _ => false | _ => true
theorem D_startA {id : Nat} (own : List FuncId) (hm : P.follows .mixedOrders = true) (h : DrD P EA dsts l (flagsOf own l) s σ (fun s τ => Q .normal ⟨s, τ⟩))
    (hd : l.map (·.dst) = dsts := by simp only [List.map_cons, List.map_nil]; exact rfl) (hf : fit l (flagsOf own l) = true := by decide +kernel) : Ev P (.region id l.toArray true) ⟨s, σ⟩ Q :=
  Ev_drawD hm _ _ hd hf h
theorem D_runA (hT : TOK P T) {C : Prop} {acc : List DV} (k : DrD P EA dsts rest f' s' σ K) (hc : C)
    (h : ∀ τ, runQ T dsts τ l f s True [] = (C, acc, s', rest, f') := by intro τ; simp (maxSteps := 1000000) (disch := omega) only [go_sem]; with_reducible exact rfl)
    (hp : rest.length < l.length := by decide) : DrD P EA dsts l f s σ K :=
  DrD_run hT trivial (acc := acc) (fun τ _ => ⟨C, h τ, hc⟩) k
theorem storeD_congr {t : TypeId} {p x : Operand} (h : ∀ y ∈ (Op.store t p x).operands, get s' y = get s y) : storeD T σ t (get s' p) (get s' x) = storeD T σ t (get s p) (get s x) := by
  rw [h p (by simp [Op.operands]), h x (by simp [Op.operands])]
theorem D_start {id : Nat} (own : List FuncId) (hm : P.follows .mixedOrders = true) (h : DrD P (EB σ.boxes σ.maps) dsts l (flagsOf own l) s σ (fun s τ => Q .normal ⟨s, τ⟩))
    (hd : l.map (·.dst) = dsts := by simp only [List.map_cons, List.map_nil]; exact rfl) (hns : noStore l = true := by rfl) (hf : fit l (flagsOf own l) = true := by decide +kernel) : Ev P (.region id l.toArray true) ⟨s, σ⟩ Q :=
  Ev_drawD hm _ _ hd hf h
theorem D_nil (h : K s σ) (hE : E σ := by first | exact ⟨rfl, rfl⟩ | exact trivial) : DrD P E dsts [] f s σ K := DrD_nil hE h
theorem D_run (hT : TOK P T) {C : Prop} {acc : List DV} (k : DrD P (EB bx mp) dsts rest f' s' σ K) (hc : C)
    (h : ∀ R, runQ T dsts ⟨R, bx, mp⟩ l f s True [] = (C, acc, s', rest, f') := by intro R; simp (maxSteps := 1000000) (disch := omega) only [go_sem]; with_reducible exact rfl)
    (hp : rest.length < l.length := by decide) (hE : EB bx mp σ := by exact ⟨rfl, rfl⟩) : DrD P (EB bx mp) dsts l f s σ K := by
  refine DrD_run hT hE (acc := acc) (fun τ hτ => ⟨C, ?_, hc⟩) k
  obtain ⟨R, b, m⟩ := τ
  obtain ⟨h1, h2⟩ := hτ
  simp only at h1 h2
  subst h1; subst h2
  exact h R
theorem D_con {c : Call} {fu : FuncId} {args args' : List DV} {C : Prop} {d : DV} [hfu : FnC P fu] [hi : Con P fu args' C d] (k : DrD P E dsts l f.tail s' σ K) (hc : C)
    (h : calleeD P s c = some (fu, args) := by simp (disch := omega) only [go_sem]; with_reducible exact rfl)
    (hle : weakL args = args' := by simp only [weakL, List.map_cons, List.map_nil, weakD_slt, weakD_sl, weakD_int, weakD_bool, weakD_str, weakD_agg, weakD_row, weakD_ptr, weakD_cp, weakD_rp, weakD_nilp, weakD_fn, weakD_mp, weakD_undef]; exact rfl)
    (hs : putS s dst d = s' := by simp only [putS, List.set_cons_succ, List.set_cons_zero]; exact rfl)
    (hon : onD dsts s g = some true := by simp only [go_sem] <;> fail) (hf : f.headD false = false := by rfl) (hE : E σ := by first | exact ⟨rfl, rfl⟩ | exact trivial) : DrD P E dsts (⟨dst, .call c, ty, pos, af, g⟩ :: l) f s σ K :=
  DrD_pure hon hf h (hle ▸ LeL_weak args) (hi.ok hc) hfu.at_ hE hs k
theorem D_own {c : Call} {fu : FuncId} {args args' : List DV} {C : Prop} {xs : List DV} {e : TypeId} {st : Nat} [hfu : FnC P fu] [hi : ConOwn P fu args' C xs e st] (k : DrD P E dsts l f.tail s' σ' K) (hc : C)
    (h : calleeD P s c = some (fu, args) := by simp (disch := omega) only [go_sem]; with_reducible exact rfl)
    (hle : weakL args = args' := by simp only [weakL, List.map_cons, List.map_nil, weakD_slt, weakD_sl, weakD_int, weakD_bool, weakD_str, weakD_agg, weakD_row, weakD_ptr, weakD_cp, weakD_rp, weakD_nilp, weakD_fn, weakD_mp, weakD_undef]; exact rfl)
    (hs : putS s dst (.row σ.rows.length xs.length) = s' := by simp only [go_sem]; exact rfl)
    (hσ : (⟨σ.rows ++ [some ⟨xs, e, st⟩], σ.boxes, σ.maps⟩ : Store) = σ' := by (try simp only [List.append_assoc, List.cons_append, List.nil_append]) <;> exact rfl)
    (hon : onD dsts s g = some true := by simp only [go_sem] <;> fail) (hf : f.headD false = true := by rfl) (hE : E σ := by first | exact ⟨rfl, rfl⟩ | exact trivial) : DrD P E dsts (⟨dst, .call c, ty, pos, af, g⟩ :: l) f s σ K :=
  DrD_own hon hf h (hle ▸ LeL_weak args) (hi.ok hc) hfu.at_ hE hs hσ k
theorem D_app {c : Call} {fu : FuncId} {args : List DV} {id len e' st' : Nat} {xs : List DV} {C : Prop} {ys : List DV} {e : TypeId} {st room : Nat} [hfu : FnC P fu] [hi : ConApp P fu args C ys e st room] (k : DrD P E dsts l f.tail s' σ' K) (hc : C) (hl : xs.length ≤ room)
    (h : calleeD P s c = some (fu, .row id len :: args) := by simp (disch := omega) only [go_sem]; with_reducible exact rfl)
    (hR : σ.rows[id]? = some (some ⟨xs, e', st'⟩) := by (try simp only [app_get, app_get0, List.getElem?_cons_succ, List.getElem?_cons_zero]) <;> exact rfl) (hx : len = xs.length := by first | rfl | (simp only [go_sem]; done) | (simp only [go_sem]; omega)) (he : e' = e := by rfl) (hst : st' = st := by rfl)
    (hs : putS s dst (.row id (len + ys.length)) = s' := by simp only [go_sem]; exact rfl)
    (hσ : (⟨σ.rows.set id (some ⟨xs ++ ys, e, st⟩), σ.boxes, σ.maps⟩ : Store) = σ' := by (try simp only [app_set, app_set0, List.set_cons_succ, List.set_cons_zero, List.nil_append, List.cons_append, List.append_assoc]) <;> exact rfl)
    (hon : onD dsts s g = some true := by simp only [go_sem] <;> fail) (hf : f.headD false = true := by rfl) (hE : E σ := by first | exact ⟨rfl, rfl⟩ | exact trivial) : DrD P E dsts (⟨dst, .call c, ty, pos, af, g⟩ :: l) f s σ K := by
  subst hx; subst hσ; subst he; subst hst
  intro ops ho
  refine ⟨hE, .inr (.inr ⟨onD_wanted ho hon, hf, _, _, ?_, by rw [putS_eq, hs]; exact k ops ho⟩)⟩
  intro s1 hag
  exact Does.act (s := ⟨s1, σ⟩) rfl (by rw [calleeD_congr (agree_ops hag)]; exact h) (LeL.refl _) (hi.ok hc σ id xs hR hl) hfu.at_
theorem D_eff (hT : TOK P T) {C : Prop} {d : DV} (k : DrD P E dsts l f.tail s' σ' K) (hc : C)
    (h : effD T σ s op = some (C, d, σ') := by simp (maxSteps := 1000000) (disch := omega) only [go_sem]; with_reducible exact rfl)
    (hs : putS s dst d = s' := by simp only [putS, List.set_cons_succ, List.set_cons_zero]; exact rfl)
    (hon : onD dsts s g = some true := by simp only [go_sem] <;> fail) (hf : f.headD false = true := by rfl) (hE : E σ := by first | exact ⟨rfl, rfl⟩ | exact trivial) : DrD P E dsts (⟨dst, op, ty, pos, af, g⟩ :: l) f s σ K :=
  DrD_eff hon hf (fun s1 hs1 => effD_sound hT (o := ⟨dst, op, ty, pos, af, g⟩) (by rw [effD_congr hs1]; exact h) hc) hE hs k
theorem D_store (hT : TOK P T) {t : TypeId} {p x : Operand} {C : Prop} (k : DrD P E dsts l f.tail s σ' K) (hc : C)
    (h : storeD T σ t (get s p) (get s x) = some (C, σ') := by simp (maxSteps := 1000000) (disch := omega) only [go_sem]; with_reducible exact rfl)
    (hon : onD dsts s g = some true := by simp only [go_sem] <;> fail) (hf : f.headD false = true := by rfl) (hE : E σ := by first | exact ⟨rfl, rfl⟩ | exact trivial) : DrD P E dsts (⟨none, .store t p x, ty, pos, af, g⟩ :: l) f s σ K :=
  DrD_eff hon hf (d := .undef) (fun s1 hs1 => storeD_sound hT (slots := s1) (o := ⟨none, .store t p x, ty, pos, af, g⟩) rfl (by rw [storeD_congr hs1]; exact h) hc) hE rfl k
end
theorem forallT_nil {α : Type} (p : α → Prop) : (∀ x ∈ ([] : List α), p x) = True := by simp
attribute [go_sem] forallT_nil List.forall_mem_cons runQ isWr flagsOf List.contains_cons List.contains_nil
end Go.Val
