/- Regions that draw their order, in the short rules: what is only read there are variables, never rows that are written. -/
import Derived.Test.YtloeeiamgaljoaaVGo4
namespace Go.Val
open Go.RowKit
set_option linter.unusedSimpArgs false
set_option linter.unusedVariables false

/-- The variables and maps are as they were. -/
def EB (bx : List (Option Box)) (mp : List (Option (List (DV × DV)))) : Store → Prop := fun τ => τ.boxes = bx ∧ τ.maps = mp
def isWr (own : List FuncId) (o : Oper) : Bool :=
  match o.op with
  | .call c =>
    match c.callee with
    | .builtin .append => match o.dst with | some t => !own.contains (100000 + t) | none => true
    | .value (.func f) => own.contains f
    | _ => false
  | .makeSlice _ _ _ => !own.contains 99999
  | .load _ _ => own.contains 99998
  | .indexAddr _ _ _ => own.contains 99997
  | .alloc _ | .box _ _ | .store _ _ _ => true
  | _ => false
def flagsOf (own : List FuncId) (l : List Oper) : List Bool := l.map (isWr own)

section
variable {P : Program} {T : TypeId → TI} {dsts : List (Option Tmp)} {l rest : List Oper} {f f' : List Bool} {s s' : List DV} {σ σ' : Store} {K : List DV → Store → Prop} {Q : Exit → St → Prop}
  {dst : Option Tmp} {op : Op} {ty : TypeId} {pos : String} {af : Array Edge} {g : Option (Nat × Bool)} {bx : List (Option Box)} {mp : List (Option (List (DV × DV)))} {E : Store → Prop}

theorem effD_congr {op : Op} (h : ∀ x ∈ op.operands, get s' x = get s x) : effD T σ s' op = effD T σ s op := by
  cases op <;> try rfl
  case box e x => simp only [effD]; rw [h x (by simp [Op.operands])]
  case makeSlice t x y => simp only [effD]; rw [h x (by simp [Op.operands]), h y (by simp [Op.operands])]
  case call c =>
    simp only [effD]
    cases hc : appCall c with
    | none => rfl
    | some q =>
      obtain ⟨x, y, t, t2⟩ := q
      obtain ⟨_, a2, _⟩ := appCall_some hc
      simp only
      rw [h x (by simp [Op.operands, Call.operands, a2]), h y (by simp [Op.operands, Call.operands, a2])]

/-- Any store. -/
def EA : Store → Prop := fun _ => True
def noStore (l : List Oper) : Bool := l.all fun o => match o.op with | .store _ _ _ | .alloc _ | .box _ _ => false | _ => true
theorem D_startA {id : Nat} (own : List FuncId) (hm : P.follows .mixedOrders = true) (h : DrD P EA dsts l (flagsOf own l) s σ (fun s τ => Q .normal ⟨s, τ⟩))
    (hd : l.map (·.dst) = dsts := by simp only [List.map_cons, List.map_nil]; exact rfl) (hf : fit l (flagsOf own l) = true := by decide +kernel) : Ev P (.region id l.toArray true) ⟨s, σ⟩ Q :=
  Ev_drawD hm _ _ hd hf h
theorem D_runA (hT : TOK P T) {C : Prop} {acc : List DV} (k : DrD P EA dsts rest f' s' σ K) (hc : C)
    (h : ∀ τ, runQ T dsts τ l f s True [] = (C, acc, s', rest, f') := by intro τ; simp (maxSteps := 1000000) (disch := omega) only [go_sem]; with_reducible exact rfl)
    (hp : rest.length < l.length := by decide) : DrD P EA dsts l f s σ K :=
  DrD_run hT trivial (acc := acc) (fun τ _ => ⟨C, h τ, hc⟩) k
theorem storeD_congr {t : TypeId} {p x : Operand} (h : ∀ y ∈ (Op.store t p x).operands, get s' y = get s y) : storeD T σ t (get s' p) (get s' x) = storeD T σ t (get s p) (get s x) := by
  rw [h p (by simp [Op.operands]), h x (by simp [Op.operands])]
theorem D_start {id : Nat} (own : List FuncId) (hm : P.follows .mixedOrders = true) (h : DrD P (EB σ.boxes σ.maps) dsts l (flagsOf own l) s σ (fun s τ => Q .normal ⟨s, τ⟩))
    (hd : l.map (·.dst) = dsts := by simp only [List.map_cons, List.map_nil]; exact rfl) (hns : noStore l = true := by rfl) (hf : fit l (flagsOf own l) = true := by decide +kernel) : Ev P (.region id l.toArray true) ⟨s, σ⟩ Q :=
  Ev_drawD hm _ _ hd hf h
/-- Nothing is written: the store is as it is. -/
def ES (σ : Store) : Store → Prop := fun τ => τ = σ
theorem D_startE {id : Nat} (own : List FuncId) (hm : P.follows .mixedOrders = true) (h : DrD P (ES σ) dsts l (flagsOf own l) s σ (fun s τ => Q .normal ⟨s, τ⟩))
    (hd : l.map (·.dst) = dsts := by simp only [List.map_cons, List.map_nil]; exact rfl) (hf : fit l (flagsOf own l) = true := by decide +kernel) : Ev P (.region id l.toArray true) ⟨s, σ⟩ Q :=
  Ev_drawD hm _ _ hd hf h
theorem D_runE (hT : TOK P T) {C : Prop} {acc : List DV} (k : DrD P (ES σ) dsts rest f' s' σ K) (hc : C)
    (h : runQ T dsts σ l f s True [] = (C, acc, s', rest, f') := by simp (maxSteps := 1000000) (disch := omega) only [go_sem]; with_reducible exact rfl)
    (hp : rest.length < l.length := by decide) : DrD P (ES σ) dsts l f s σ K :=
  DrD_run hT rfl (acc := acc) (fun τ hτ => ⟨C, by rw [show τ = σ from hτ]; exact h, hc⟩) k
/-- The variables that were there are as they were; new ones may have come. -/
def EP (bx : List (Option Box)) : Store → Prop := fun τ => ∃ r, τ.boxes = bx ++ r
theorem EP_self {R : List (Option Row)} {M : List (Option (List (DV × DV)))} (b : List (Option Box)) : EP b ⟨R, b, M⟩ := ⟨[], (List.append_nil _).symm⟩
theorem EP_one {R : List (Option Row)} {M : List (Option (List (DV × DV)))} (b c : List (Option Box)) : EP b ⟨R, b ++ c, M⟩ := ⟨c, rfl⟩
theorem EP_app {R : List (Option Row)} {M : List (Option (List (DV × DV)))} (a b c : List (Option Box)) : EP (a ++ b) ⟨R, a ++ (b ++ c), M⟩ := ⟨c, (List.append_assoc _ _ _).symm⟩
theorem D_startP {id : Nat} (own : List FuncId) (hm : P.follows .mixedOrders = true) (h : DrD P (EP σ.boxes) dsts l (flagsOf own l) s σ (fun s τ => Q .normal ⟨s, τ⟩))
    (hd : l.map (·.dst) = dsts := by simp only [List.map_cons, List.map_nil]; exact rfl) (hf : fit l (flagsOf own l) = true := by decide +kernel) : Ev P (.region id l.toArray true) ⟨s, σ⟩ Q :=
  Ev_drawD hm _ _ hd hf h
theorem D_nil (h : K s σ) (hE : E σ := by first | exact ⟨rfl, rfl⟩ | exact trivial | exact rfl | exact EP_app _ _ _ | exact EP_self _ | exact EP_one _ _) : DrD P E dsts [] f s σ K := DrD_nil hE h
theorem D_run (hT : TOK P T) {C : Prop} {acc : List DV} (k : DrD P (EB bx mp) dsts rest f' s' σ K) (hc : C)
    (h : ∀ R, runQ T dsts ⟨R, bx, mp⟩ l f s True [] = (C, acc, s', rest, f') := by intro R; simp (maxSteps := 1000000) (disch := omega) only [go_sem]; with_reducible exact rfl)
    (hp : rest.length < l.length := by decide) (hE : EB bx mp σ := by exact ⟨rfl, rfl⟩) : DrD P (EB bx mp) dsts l f s σ K := by
  refine DrD_run hT hE (acc := acc) (fun τ hτ => ⟨C, ?_, hc⟩) k
  obtain ⟨R, b, m⟩ := τ
  obtain ⟨h1, h2⟩ := hτ
  simp only at h1 h2
  subst h1; subst h2
  exact h R
theorem D_con {c : Call} {fu : FuncId} {args args' : List DV} {C : Prop} {d : DV} [hfu : FnC P fu] [hi : Con P fu args' C d] (k : DrD P E dsts l f.tail s' σ K) (hc : C)
    (h : calleeD P s c = some (fu, args) := by simp (disch := omega) only [go_sem]; with_reducible exact rfl)
    (hle : weakL args = args' := by simp only [weakL, List.map_cons, List.map_nil, weakD_slt, weakD_sl, weakD_int, weakD_bool, weakD_str, weakD_agg, weakD_row, weakD_ptr, weakD_cp, weakD_rp, weakD_nilp, weakD_fn, weakD_mp, weakD_it, weakD_cm, weakD_undef]; exact rfl)
    (hs : putS s dst d = s' := by simp only [putS, List.set_cons_succ, List.set_cons_zero]; exact rfl)
    (hon : onD dsts s g = some true := by simp only [go_sem] <;> fail) (hf : f.headD false = false := by rfl) (hE : E σ := by first | exact ⟨rfl, rfl⟩ | exact trivial | exact rfl | exact EP_app _ _ _ | exact EP_self _ | exact EP_one _ _) : DrD P E dsts (⟨dst, .call c, ty, pos, af, g⟩ :: l) f s σ K :=
  DrD_pure hon hf h (hle ▸ LeL_weak args) (hi.ok hc) hfu.at_ hE hs k
theorem D_own {c : Call} {fu : FuncId} {args args' : List DV} {C : Prop} {xs : List DV} {e : TypeId} {st : Nat} [hfu : FnC P fu] [hi : ConOwn P fu args' C xs e st] (k : DrD P E dsts l f.tail s' σ' K) (hc : C)
    (h : calleeD P s c = some (fu, args) := by simp (disch := omega) only [go_sem]; with_reducible exact rfl)
    (hle : weakL args = args' := by simp only [weakL, List.map_cons, List.map_nil, weakD_slt, weakD_sl, weakD_int, weakD_bool, weakD_str, weakD_agg, weakD_row, weakD_ptr, weakD_cp, weakD_rp, weakD_nilp, weakD_fn, weakD_mp, weakD_it, weakD_cm, weakD_undef]; exact rfl)
    (hs : putS s dst (.row σ.rows.length xs.length) = s' := by simp only [go_sem]; exact rfl)
    (hσ : (⟨σ.rows ++ [some ⟨xs, e, st⟩], σ.boxes, σ.maps⟩ : Store) = σ' := by (try simp only [List.append_assoc, List.cons_append, List.nil_append]) <;> exact rfl)
    (hon : onD dsts s g = some true := by simp only [go_sem] <;> fail) (hf : f.headD false = true := by rfl) (hE : E σ := by first | exact ⟨rfl, rfl⟩ | exact trivial | exact rfl | exact EP_app _ _ _ | exact EP_self _ | exact EP_one _ _) : DrD P E dsts (⟨dst, .call c, ty, pos, af, g⟩ :: l) f s σ K :=
  DrD_own hon hf h (hle ▸ LeL_weak args) (hi.ok hc) hfu.at_ hE hs hσ k
theorem D_app {c : Call} {fu : FuncId} {args : List DV} {id len e' st' : Nat} {xs : List DV} {C : Prop} {ys : List DV} {e : TypeId} {st room : Nat} [hfu : FnC P fu] [hi : ConApp P fu args C ys e st room] (k : DrD P E dsts l f.tail s' σ' K) (hc : C) (hl : xs.length ≤ room)
    (h : calleeD P s c = some (fu, .row id len :: args) := by simp (disch := omega) only [go_sem]; with_reducible exact rfl)
    (hR : σ.rows[id]? = some (some ⟨xs, e', st'⟩) := by (try simp only [app_get, app_get0, List.getElem?_cons_succ, List.getElem?_cons_zero]) <;> exact rfl) (hx : len = xs.length := by first | rfl | (simp only [go_sem]; done) | (simp only [go_sem]; omega)) (he : e' = e := by rfl) (hst : st' = st := by rfl)
    (hs : putS s dst (.row id (len + ys.length)) = s' := by simp only [go_sem]; exact rfl)
    (hσ : (⟨σ.rows.set id (some ⟨xs ++ ys, e, st⟩), σ.boxes, σ.maps⟩ : Store) = σ' := by (try simp only [app_set, app_set0, List.set_cons_succ, List.set_cons_zero, List.nil_append, List.cons_append, List.append_assoc]) <;> exact rfl)
    (hon : onD dsts s g = some true := by simp only [go_sem] <;> fail) (hf : f.headD false = true := by rfl) (hE : E σ := by first | exact ⟨rfl, rfl⟩ | exact trivial | exact rfl | exact EP_app _ _ _ | exact EP_self _ | exact EP_one _ _) : DrD P E dsts (⟨dst, .call c, ty, pos, af, g⟩ :: l) f s σ K := by
  subst hx; subst hσ; subst he; subst hst
  intro ops ho
  refine ⟨hE, .inr (.inr ⟨onD_wanted ho hon, hf, _, _, ?_, by rw [putS_eq, hs]; exact k ops ho⟩)⟩
  refine ⟨(fun h => by cases h), ?_⟩
  intro s1 hag
  exact Does.act (s := ⟨s1, σ⟩) rfl (by rw [calleeD_congr (agree_ops hag)]; exact h) (LeL.refl _) (hi.ok hc σ id xs hR hl) hfu.at_
theorem D_eff (hT : TOK P T) {C : Prop} {d : DV} (k : DrD P E dsts l f.tail s' σ' K) (hc : C)
    (h : effD T σ s op = some (C, d, σ') := by simp (maxSteps := 1000000) (disch := omega) only [go_sem]; with_reducible exact rfl)
    (hs : putS s dst d = s' := by simp only [putS, List.set_cons_succ, List.set_cons_zero]; exact rfl)
    (hon : onD dsts s g = some true := by simp only [go_sem] <;> fail) (hf : f.headD false = true := by rfl) (hE : E σ := by first | exact ⟨rfl, rfl⟩ | exact trivial | exact rfl | exact EP_app _ _ _ | exact EP_self _ | exact EP_one _ _) : DrD P E dsts (⟨dst, op, ty, pos, af, g⟩ :: l) f s σ K :=
  DrD_eff hon hf (fun s1 hs1 => effD_sound hT (o := ⟨dst, op, ty, pos, af, g⟩) (by rw [effD_congr hs1]; exact h) hc) hE hs k (by cases op <;> first | rfl | (simp [effD] at h))
/-! ### so many as have the first one's guard, and are no calls -/
def stopOp (o : Oper) : Bool :=
  match o.op with
  | .call c =>
    match c.callee with
    | .builtin _ => false
    | _ => true
  | .alloc _ | .box _ _ | .store _ _ _ => true
  | _ => false
def sameG : Option (Nat × Bool) → Option (Nat × Bool) → Bool
  | none, none => true
  | some (j, w), some (j', w') => j == j' && w == w'
  | _, _ => false
def leadG (g : Option (Nat × Bool)) : List Oper → List Bool → Nat
  | [], _ => 0
  | o :: l, f => if sameG g o.guard && !stopOp o && !f.headD false then leadG g l f.tail + 1 else 0
def leadQ (l : List Oper) (f : List Bool) : Nat := match l with | [] => 0 | o :: _ => leadG o.guard l f
theorem D_runL (hT : TOK P T) {C : Prop} {acc : List DV} {n : Nat} {l1 l2 : List Oper} {f2 : List Bool} (k : DrD P (EB bx mp) dsts l2 f2 s' σ K) (hc : C)
    (hn : leadQ l f = n := by simp only [List.drop_succ_cons, List.drop_zero, leadQ, leadG, sameG, stopOp, flagsOf, isWr, List.map_cons, List.map_nil, List.headD_cons, List.tail_cons, List.contains_cons, List.contains_nil, Nat.reduceBEq, beq_self_eq_true, Bool.true_beq, Bool.false_beq, Bool.not_true, Bool.not_false, Bool.and_true, Bool.true_and, Bool.and_false, Bool.false_and, Bool.or_false, Bool.false_or, Bool.or_true, Bool.true_or, Bool.and_self, if_true, if_false, Bool.false_eq_true, Nat.zero_add, Nat.reduceAdd]; exact rfl) (h1 : l.take n = l1 := by simp only [List.take_succ_cons, List.take_zero]; exact rfl) (h2 : l.drop n = l2 := by simp only [List.drop_succ_cons, List.drop_zero]; exact rfl) (hl : Nat.ble n l.length = true := by rfl) (h3 : f.drop n = f2 := by rfl)
    (h : ∀ R, runQ T dsts ⟨R, bx, mp⟩ l1 f s True [] = (C, acc, s', [], f') := by intro R; simp (maxSteps := 1000000) (disch := omega) only [go_sem]; with_reducible exact rfl)
    (hp : l2.length < l.length := by decide) (hE : EB bx mp σ := by exact ⟨rfl, rfl⟩) : DrD P (EB bx mp) dsts l f s σ K := by
  refine DrD_runN hT hE n (acc := acc) (f' := f') h1 h2 (Nat.le_of_ble_eq_true hl) h3 (fun τ hτ => ⟨C, ?_, hc⟩) k
  obtain ⟨R, b, m⟩ := τ
  obtain ⟨h1, h2⟩ := hτ
  simp only at h1 h2
  subst h1; subst h2
  exact h R
theorem D_runLA (hT : TOK P T) {C : Prop} {acc : List DV} {n : Nat} {l1 l2 : List Oper} {f2 : List Bool} (k : DrD P EA dsts l2 f2 s' σ K) (hc : C)
    (hn : leadQ l f = n := by simp only [List.drop_succ_cons, List.drop_zero, leadQ, leadG, sameG, stopOp, flagsOf, isWr, List.map_cons, List.map_nil, List.headD_cons, List.tail_cons, List.contains_cons, List.contains_nil, Nat.reduceBEq, beq_self_eq_true, Bool.true_beq, Bool.false_beq, Bool.not_true, Bool.not_false, Bool.and_true, Bool.true_and, Bool.and_false, Bool.false_and, Bool.or_false, Bool.false_or, Bool.or_true, Bool.true_or, Bool.and_self, if_true, if_false, Bool.false_eq_true, Nat.zero_add, Nat.reduceAdd]; exact rfl) (h1 : l.take n = l1 := by simp only [List.take_succ_cons, List.take_zero]; exact rfl) (h2 : l.drop n = l2 := by simp only [List.drop_succ_cons, List.drop_zero]; exact rfl) (hl : Nat.ble n l.length = true := by rfl) (h3 : f.drop n = f2 := by rfl)
    (h : ∀ τ, runQ T dsts τ l1 f s True [] = (C, acc, s', [], f') := by intro R; simp (maxSteps := 1000000) (disch := omega) only [go_sem]; with_reducible exact rfl)
    (hp : l2.length < l.length := by decide) : DrD P EA dsts l f s σ K :=
  DrD_runN hT trivial n (acc := acc) (f' := f') h1 h2 (Nat.le_of_ble_eq_true hl) h3 (fun τ _ => ⟨C, h τ, hc⟩) k
theorem D_runLP (hT : TOK P T) {C : Prop} {acc : List DV} {n : Nat} {l1 l2 : List Oper} {f2 : List Bool} (k : DrD P (EP bx) dsts l2 f2 s' σ K) (hc : C)
    (hn : leadQ l f = n := by simp only [List.drop_succ_cons, List.drop_zero, leadQ, leadG, sameG, stopOp, flagsOf, isWr, List.map_cons, List.map_nil, List.headD_cons, List.tail_cons, List.contains_cons, List.contains_nil, Nat.reduceBEq, beq_self_eq_true, Bool.true_beq, Bool.false_beq, Bool.not_true, Bool.not_false, Bool.and_true, Bool.true_and, Bool.and_false, Bool.false_and, Bool.or_false, Bool.false_or, Bool.or_true, Bool.true_or, Bool.and_self, if_true, if_false, Bool.false_eq_true, Nat.zero_add, Nat.reduceAdd]; exact rfl) (h1 : l.take n = l1 := by simp only [List.take_succ_cons, List.take_zero]; exact rfl) (h2 : l.drop n = l2 := by simp only [List.drop_succ_cons, List.drop_zero]; exact rfl) (hl : Nat.ble n l.length = true := by rfl) (h3 : f.drop n = f2 := by rfl)
    (h : ∀ R r M, runQ T dsts ⟨R, bx ++ r, M⟩ l1 f s True [] = (C, acc, s', [], f') := by intro R r M; simp (maxSteps := 1000000) (disch := omega) only [go_sem]; with_reducible exact rfl)
    (hp : l2.length < l.length := by decide) (hE : EP bx σ := by first | exact EP_app _ _ _ | exact EP_self _ | exact EP_one _ _) : DrD P (EP bx) dsts l f s σ K := by
  refine DrD_runN hT hE n (acc := acc) (f' := f') h1 h2 (Nat.le_of_ble_eq_true hl) h3 (fun τ hτ => ⟨C, ?_, hc⟩) k
  obtain ⟨R, b, m⟩ := τ
  obtain ⟨r, h1⟩ := hτ
  simp only at h1
  subst h1
  exact h R r m
theorem D_runLE (hT : TOK P T) {C : Prop} {acc : List DV} {n : Nat} {l1 l2 : List Oper} {f2 : List Bool} (k : DrD P (ES σ) dsts l2 f2 s' σ K) (hc : C)
    (hn : leadQ l f = n := by simp only [List.drop_succ_cons, List.drop_zero, leadQ, leadG, sameG, stopOp, flagsOf, isWr, List.map_cons, List.map_nil, List.headD_cons, List.tail_cons, List.contains_cons, List.contains_nil, Nat.reduceBEq, beq_self_eq_true, Bool.true_beq, Bool.false_beq, Bool.not_true, Bool.not_false, Bool.and_true, Bool.true_and, Bool.and_false, Bool.false_and, Bool.or_false, Bool.false_or, Bool.or_true, Bool.true_or, Bool.and_self, if_true, if_false, Bool.false_eq_true, Nat.zero_add, Nat.reduceAdd]; exact rfl) (h1 : l.take n = l1 := by simp only [List.take_succ_cons, List.take_zero]; exact rfl) (h2 : l.drop n = l2 := by simp only [List.drop_succ_cons, List.drop_zero]; exact rfl) (hl : Nat.ble n l.length = true := by rfl) (h3 : f.drop n = f2 := by rfl)
    (h : runQ T dsts σ l1 f s True [] = (C, acc, s', [], f') := by simp (maxSteps := 1000000) (disch := omega) only [go_sem]; with_reducible exact rfl)
    (hp : l2.length < l.length := by decide) : DrD P (ES σ) dsts l f s σ K :=
  DrD_runN hT rfl n (acc := acc) (f' := f') h1 h2 (Nat.le_of_ble_eq_true hl) h3 (fun τ hτ => ⟨C, by rw [show τ = σ from hτ]; exact h, hc⟩) k
/-! ### guards that part the way -/
theorem D_split {b : Bool} {s1 s2 : List DV} {t : Nat} (hv : s.getD t .undef = .bool b) (h1 : s.set t (.bool true) = s1) (h2 : s.set t (.bool false) = s2) (k1 : b = true → DrD P E dsts l f s1 σ K) (k2 : b = false → DrD P E dsts l f s2 σ K) : DrD P E dsts l f s σ K := by
  cases b
  · rw [← bset hv, h2]; exact k2 rfl
  · rw [← bset hv, h1]; exact k1 rfl
theorem D_grdP {b : Bool} {p : Prop} [Decidable p] {s1 s2 : List DV} {j t : Nat} {want : Bool} (k1 : p → DrD P E dsts (⟨dst, op, ty, pos, af, some (j, want)⟩ :: rest) f s1 σ K) (k2 : ¬p → DrD P E dsts (⟨dst, op, ty, pos, af, some (j, want)⟩ :: rest) f s2 σ K)
    (hj : dsts.getD j none = some t := by simp only [List.getD_cons_succ, List.getD_cons_zero]; exact rfl)
    (hv : s.getD t .undef = .bool b := by simp only [List.getD_cons_succ, List.getD_cons_zero]; exact rfl) (hb : b = decide p := by first | with_reducible exact rfl | with_reducible exact notD _)
    (h1 : s.set t (.bool true) = s1 := by simp only [List.set_cons_succ, List.set_cons_zero]; exact rfl)
    (h2 : s.set t (.bool false) = s2 := by simp only [List.set_cons_succ, List.set_cons_zero]; exact rfl) : DrD P E dsts (⟨dst, op, ty, pos, af, some (j, want)⟩ :: rest) f s σ K :=
  D_split (hb ▸ hv) h1 h2 (fun h => k1 (of_decide_eq_true h)) (fun h => k2 (of_decide_eq_false h))
theorem D_grdB {b : Bool} {s1 s2 : List DV} {j t : Nat} {want : Bool} (k1 : b = true → DrD P E dsts (⟨dst, op, ty, pos, af, some (j, want)⟩ :: rest) f s1 σ K) (k2 : b = false → DrD P E dsts (⟨dst, op, ty, pos, af, some (j, want)⟩ :: rest) f s2 σ K)
    (hj : dsts.getD j none = some t := by simp only [List.getD_cons_succ, List.getD_cons_zero]; exact rfl)
    (hv : s.getD t .undef = .bool b := by simp only [List.getD_cons_succ, List.getD_cons_zero]; exact rfl)
    (hm : Marked b := by (fail_if_success with_reducible exact Marked_t); (fail_if_success with_reducible exact Marked_f); exact Marked_any _)
    (h1 : s.set t (.bool true) = s1 := by simp only [List.set_cons_succ, List.set_cons_zero]; exact rfl)
    (h2 : s.set t (.bool false) = s2 := by simp only [List.set_cons_succ, List.set_cons_zero]; exact rfl) : DrD P E dsts (⟨dst, op, ty, pos, af, some (j, want)⟩ :: rest) f s σ K :=
  D_split hv h1 h2 k1 k2
theorem D_grdY {b : Bool} {p : Prop} [Decidable p] {s1 : List DV} {j t : Nat} {want : Bool} (k1 : DrD P E dsts (⟨dst, op, ty, pos, af, some (j, want)⟩ :: rest) f s1 σ K)
    (hj : dsts.getD j none = some t := by simp only [List.getD_cons_succ, List.getD_cons_zero]; exact rfl)
    (hv : s.getD t .undef = .bool b := by simp only [List.getD_cons_succ, List.getD_cons_zero]; exact rfl) (hb : b = decide p := by first | with_reducible exact rfl | with_reducible exact notD _) (hp : p := by first | assumption | omega | exact fun hq => hq (by assumption))
    (h1 : s.set t (.bool true) = s1 := by simp only [List.set_cons_succ, List.set_cons_zero]; exact rfl) : DrD P E dsts (⟨dst, op, ty, pos, af, some (j, want)⟩ :: rest) f s σ K :=
  D_split (hb ▸ hv) h1 rfl (fun _ => k1) (fun h => absurd hp (of_decide_eq_false h))
theorem D_grdN {b : Bool} {p : Prop} [Decidable p] {s1 : List DV} {j t : Nat} {want : Bool} (k1 : DrD P E dsts (⟨dst, op, ty, pos, af, some (j, want)⟩ :: rest) f s1 σ K)
    (hj : dsts.getD j none = some t := by simp only [List.getD_cons_succ, List.getD_cons_zero]; exact rfl)
    (hv : s.getD t .undef = .bool b := by simp only [List.getD_cons_succ, List.getD_cons_zero]; exact rfl) (hb : b = decide p := by first | with_reducible exact rfl | with_reducible exact notD _) (hp : ¬p := by first | assumption | omega | exact fun hq => hq (by assumption))
    (h1 : s.set t (.bool false) = s1 := by simp only [List.set_cons_succ, List.set_cons_zero]; exact rfl) : DrD P E dsts (⟨dst, op, ty, pos, af, some (j, want)⟩ :: rest) f s σ K :=
  D_split (hb ▸ hv) rfl h1 (fun h => absurd (of_decide_eq_true h) hp) (fun _ => k1)
/-- The same where a value is picked. -/
theorem D_pickP {p : Prop} [Decidable p] {s1 s2 : List DV} {t : Nat} {x y : Operand} (k1 : p → DrD P E dsts (⟨dst, .pick (.tmp t) x y, ty, pos, af, g⟩ :: rest) f s1 σ K) (k2 : ¬p → DrD P E dsts (⟨dst, .pick (.tmp t) x y, ty, pos, af, g⟩ :: rest) f s2 σ K)
    (hv : s.getD t .undef = .bool (decide p) := by simp only [List.getD_cons_succ, List.getD_cons_zero]; exact rfl)
    (h1 : s.set t (.bool true) = s1 := by simp only [List.set_cons_succ, List.set_cons_zero]; exact rfl)
    (h2 : s.set t (.bool false) = s2 := by simp only [List.set_cons_succ, List.set_cons_zero]; exact rfl) : DrD P E dsts (⟨dst, .pick (.tmp t) x y, ty, pos, af, g⟩ :: rest) f s σ K :=
  D_split hv h1 h2 (fun h => k1 (of_decide_eq_true h)) (fun h => k2 (of_decide_eq_false h))
theorem Quiet.act {o : Oper} {d : DV} (h : Quiet P σ s o d) : Act1 P ⟨s, σ⟩ o (one d σ) :=
  fun w0 G a w K Qr hr hK => h w0 G a w K Qr hr (fun v G' w' hS hE hv => hK v d σ G' w' ⟨rfl, rfl⟩ hS hE hv)
/-- What is only read where it stands among what is written. -/
theorem D_hold (hT : TOK P T) {C : Prop} {d : DV} (k : DrD P E dsts l f.tail s' σ K) (hc : C)
    (h : stepA T σ s op = some (C, d) := by simp (maxSteps := 1000000) (disch := omega) only [go_sem]; with_reducible exact rfl)
    (hs : putS s dst d = s' := by simp only [putS, List.set_cons_succ, List.set_cons_zero]; exact rfl)
    (hon : onD dsts s g = some true := by simp only [go_sem] <;> fail) (hf : f.headD false = true := by rfl) (hE : E σ := by first | exact ⟨rfl, rfl⟩ | exact trivial | exact rfl | exact EP_app _ _ _ | exact EP_self _ | exact EP_one _ _) : DrD P E dsts (⟨dst, op, ty, pos, af, g⟩ :: l) f s σ K := by
  intro ops ho
  refine ⟨hE, .inr (.inr ⟨onD_wanted ho hon, hf, _, _, ?_, by rw [putS_eq, hs]; exact k ops ho⟩)⟩
  refine ⟨fun _ => rfl, ?_⟩
  intro s1 hag
  exact Quiet.act (o := ⟨dst, op, ty, pos, af, g⟩) (Quiet.stepA hT (by rw [stepA_congr (agree_ops hag)]; exact h) hc)
theorem D_store (hT : TOK P T) {t : TypeId} {p x : Operand} {C : Prop} (k : DrD P E dsts l f.tail s σ' K) (hc : C)
    (h : storeD T σ t (get s p) (get s x) = some (C, σ') := by simp (maxSteps := 1000000) (disch := omega) only [go_sem]; with_reducible exact rfl)
    (hon : onD dsts s g = some true := by simp only [go_sem] <;> fail) (hf : f.headD false = true := by rfl) (hE : E σ := by first | exact ⟨rfl, rfl⟩ | exact trivial | exact rfl | exact EP_app _ _ _ | exact EP_self _ | exact EP_one _ _) : DrD P E dsts (⟨none, .store t p x, ty, pos, af, g⟩ :: l) f s σ K :=
  DrD_eff hon hf (d := .undef) (fun s1 hs1 => storeD_sound hT (slots := s1) (o := ⟨none, .store t p x, ty, pos, af, g⟩) rfl (by rw [storeD_congr hs1]; exact h) hc) hE rfl k rfl
end
theorem forallT_nil {α : Type} (p : α → Prop) : (∀ x ∈ ([] : List α), p x) = True := by simp
attribute [go_sem] forallT_nil List.forall_mem_cons runQ isWr flagsOf List.contains_cons List.contains_nil
end Go.Val
