/- Code on values as data: what a piece of code comes to, and the rules by which it is shown. -/
import Derived.Test.YtloeeiamgaljoaaVOps5
import Derived.Calls
import Derived.Tactics
namespace Go.Val
open Go.RowKit
set_option linter.unusedSimpArgs false
set_option linter.unusedVariables false

structure St where
  slots : List DV
  σ : Store

def RelS (w0 : World) (G : Gh) (s : St) (a : Act) (w : World) : Prop :=
  a.defers = [] ∧ RelL G s.σ w s.slots a.tmps.toList ∧ StoreRel w0 G s.σ w

/-- What stands behind: data that meet Q, in a world that has gone on from where the call began. -/
def Post (w0 : World) (G0 : Gh) (σ0 : Store) (W0 : World) (Q : Exit → St → Prop) : Exit → Act → World → Prop :=
  fun x a w => ∃ s G, Q x s ∧ RelS w0 G s a w ∧ Ext G0 σ0 W0 G s.σ w

def Ev (P : Program) (c : Code) (s : St) (Q : Exit → St → Prop) : Prop :=
  ∀ w0 G0 σ0 W0 G a w, Ext G0 σ0 W0 G s.σ w → RelS w0 G s a w → c.wp P (Post w0 G0 σ0 W0 Q) a w

def EvL (P : Program) (ops : Array Oper) (l : List Oper) (s : St) (Q : Exit → St → Prop) : Prop :=
  ∀ w0 G0 σ0 W0 G a w, Ext G0 σ0 W0 G s.σ w → RelS w0 G s a w → wpList P ops (Post w0 G0 σ0 W0 Q) l a w

def thenQ (P : Program) (y : Code) (Q : Exit → St → Prop) : Exit → St → Prop
  | .normal, s => Ev P y s Q
  | e, s => Q e s
def blockQ (id : Nat) (Q : Exit → St → Prop) : Exit → St → Prop
  | .exit id', s => if id' = id then Q .normal s else Q (.exit id') s
  | e, s => Q e s

section
variable {P : Program} {T : TypeId → TI} {s : St} {Q Q' : Exit → St → Prop}

theorem Post.mono {w0 : World} {G0 : Gh} {σ0 : Store} {W0 : World} (h : ∀ e s, Q e s → Q' e s) {x : Exit} {a : Act} {w : World} (hp : Post w0 G0 σ0 W0 Q x a w) : Post w0 G0 σ0 W0 Q' x a w := by
  obtain ⟨s, G, hq, r⟩ := hp
  exact ⟨s, G, h _ _ hq, r⟩
theorem Ev.mono {c : Code} (h : Ev P c s Q) (hq : ∀ e s, Q e s → Q' e s) : Ev P c s Q' :=
  fun w0 G0 σ0 W0 G a w hx hr => wp_mono (h w0 G0 σ0 W0 G a w hx hr) (fun _ _ _ hp => hp.mono hq)

theorem Ev_skip (h : Q .normal s) : Ev P .skip s Q := fun w0 G0 σ0 W0 G a w hx hr => wp_skip ⟨s, G, h, hr, hx⟩
theorem Ev_exit {id : Nat} (h : Q (.exit id) s) : Ev P (.exit id) s Q := fun w0 G0 σ0 W0 G a w hx hr => wp_exit ⟨s, G, h, hr, hx⟩
theorem Ev_ret (h : Q .ret s) : Ev P .ret s Q := fun w0 G0 σ0 W0 G a w hx hr => wp_ret ⟨s, G, h, hr, hx⟩
theorem Ev_seq {x y : Code} (h : Ev P x s (thenQ P y Q)) : Ev P (.seq x y) s Q := by
  intro w0 G0 σ0 W0 G a w hx hr
  refine wp_seq (wp_mono (h w0 G0 σ0 W0 G a w hx hr) ?_)
  rintro e a' w' ⟨s', G', hq, hr', hx'⟩
  cases e with
  | normal => exact hq w0 G0 σ0 W0 G' a' w' hx' hr'
  | _ => exact ⟨s', G', hq, hr', hx'⟩
theorem Ev_cond {c : Operand} {x y : Code} {b : Bool} (hc : get s.slots c = .bool b) (ht : b = true → Ev P x s Q) (hf : b = false → Ev P y s Q) : Ev P (.cond c x y) s Q := by
  intro w0 G0 σ0 W0 G a w hx hr
  have hv := get_rel w hr.2.1 c
  rw [hc] at hv
  generalize hcv : a.eval c = vc at hv
  cases hv
  cases b
  · exact wp_cond_false hcv (hf rfl w0 G0 σ0 W0 G a w hx hr)
  · exact wp_cond_true hcv (ht rfl w0 G0 σ0 W0 G a w hx hr)
theorem Ev_block {id : Nat} {c : Code} (h : Ev P c s (blockQ id Q)) : Ev P (.block id c) s Q := by
  intro w0 G0 σ0 W0 G a w hx hr
  refine wp_block (wp_mono (h w0 G0 σ0 W0 G a w hx hr) ?_)
  rintro e a' w' ⟨s', G', hq, hr', hx'⟩
  cases e with
  | exit id' =>
    simp only [blockQ] at hq
    simp only [Exit.inBlock]
    split at hq <;> rename_i hid
    · rw [if_pos hid]; exact ⟨s', G', hq, hr', hx'⟩
    · rw [if_neg hid]; exact ⟨s', G', hq, hr', hx'⟩
  | _ => exact ⟨s', G', hq, hr', hx'⟩

/-- So many rounds at the most. -/
def Rounds (P : Program) (c : Code) (Q : Exit → St → Prop) : Nat → St → Prop
  | 0, _ => False
  | n + 1, s => Ev P c s (fun e s' => match e with
    | .normal => Rounds P c Q n s'
    | e => Q e s')
theorem Ev_loop {c : Code} (n : Nat) (h : Rounds P c Q n s) : Ev P (.loop c) s Q := by
  intro w0 G0 σ0 W0 G a w hx hr
  refine wp_loop_rounds n ?_
  induction n generalizing s G a w with
  | zero => exact h.elim
  | succ n ih =>
    refine wp_mono (h w0 G0 σ0 W0 G a w hx hr) ?_
    rintro e a' w' ⟨s', G', hq, hr', hx'⟩
    cases e with
    | normal => exact ih hq G' a' w' hx' hr'
    | _ => exact ⟨s', G', hq, hr', hx'⟩
theorem Rounds_succ {c : Code} {n : Nat} (h : Ev P c s (fun e s' => match e with
    | .normal => Rounds P c Q n s'
    | e => Q e s')) : Rounds P c Q (n + 1) s := h

theorem Ev_region {id : Nat} {l : List Oper} (h : EvL P l.toArray l s Q) : Ev P (.region id l.toArray false) s Q :=
  fun w0 G0 σ0 W0 G a w hx hr => wp_region_lit (h w0 G0 σ0 W0 G a w hx hr)

theorem EvL_nil {ops : Array Oper} (h : Q .normal s) : EvL P ops [] s Q := fun w0 G0 σ0 W0 G a w hx hr => ⟨s, G, h, hr, hx⟩

def St.put (s : St) (d : Option Tmp) (v : DV) : St :=
  match d with
  | some t => { s with slots := s.slots.set t v }
  | none => s

theorem RelL_put {G : Gh} {σ : Store} {w : World} {slots : List DV} {a : Act} (h : RelL G σ w slots a.tmps.toList) {d : DV} {v : Value} (hv : RelV G σ w d v) (t : Option Tmp) :
    RelL G σ w (St.put ⟨slots, σ⟩ t d).slots (a.put t v).tmps.toList := by
  cases t with
  | none => exact h
  | some t => simp only [St.put, Act.put, Array.toList_setIfInBounds]; exact h.set t hv
theorem put_defers (a : Act) (t : Option Tmp) (v : Value) : (a.put t v).defers = a.defers := by cases t <;> rfl
theorem put_σ (s : St) (t : Option Tmp) (v : DV) : (s.put t v).σ = s.σ := by cases t <;> rfl

/-- What a guard asks of a value; '.tup []': what an operation that was left out has. -/
def litG (want : Bool) : DV → Option Bool
  | .bool b => some (b == want)
  | .tup [] => some false
  | _ => none
/-- What a guard asks. -/
def wantedD (ops : Array Oper) (slots : List DV) (o : Oper) : Option Bool :=
  match o.guard with
  | none => some true
  | some (j, want) =>
    match ((ops[j]?).bind (·.dst)).map (fun t => slots.getD t .undef) with
    | some d => litG want d
    | none => none

theorem wanted_rel {ops : Array Oper} {slots : List DV} {o : Oper} {b : Bool} {G : Gh} {σ : Store} {w : World} {a : Act} (h : RelL G σ w slots a.tmps.toList) (hw : wantedD ops slots o = some b) :
    Region.wanted o (yielded ops a.tmps) = b := by
  unfold wantedD at hw
  unfold Region.wanted
  split at hw
  · rename_i hg; rw [hg]; simpa using hw
  · rename_i j want hg
    rw [hg]
    split at hw
    · rename_i d0 hc
      simp only [yielded]
      cases hd : (ops[j]?).bind (·.dst) with
      | none => simp [hd] at hc
      | some t =>
        simp only [hd, Option.map_some, Option.some.injEq] at hc
        have hs : ∀ d, slots.getD t .undef = d → d ≠ .undef → slots[t]? = some d := by
          intro d hd hne
          rw [List.getD_eq_getElem?_getD] at hd
          cases hq : slots[t]? with
          | none => rw [hq] at hd; simp at hd; exact absurd hd.symm hne
          | some x => rw [hq] at hd; simp at hd; rw [hd]
        unfold litG at hw
        split at hw
        · rename_i c
          obtain ⟨v, hv, hr⟩ := h.get (hs _ hc (by simp))
          cases hr
          rw [Array.getElem?_toList] at hv
          simp only [Option.some.injEq] at hw
          simp only [Option.bind_some, hv, ← hw]
          cases c <;> cases want <;> rfl
        · obtain ⟨v, hv, hr⟩ := h.get (hs _ hc (by simp))
          cases hr
          rename_i vs hl _
          have : vs = [] := by cases vs with | nil => rfl | cons _ _ => simp at hl
          subst this
          rw [Array.getElem?_toList] at hv
          simp only [Option.some.injEq] at hw
          subst hw
          simp only [Option.bind_some, hv]
          rfl
        · simp at hw
    · simp at hw

/-- One operation that leaves no trace in the store. -/
def Quiet (P : Program) (σ : Store) (slots : List DV) (o : Oper) (d : DV) : Prop :=
  ∀ w0 G a w (K : Act → World → Prop) Qr, RelS w0 G ⟨slots, σ⟩ a w →
    (∀ v G' w', StoreRel w0 G' σ w' → Ext G σ w G' σ w' → RelV G' σ w' d v → K (a.put o.dst v) w') → o.wp P a w K Qr

theorem Quiet.step (hT : TOK P T) {σ : Store} {slots : List DV} {o : Oper} {C : Prop} {d : DV} (h : stepQ T σ slots o.op = some (C, d)) (hc : C) : Quiet P σ slots o d := by
  intro w0 G a w K Qr hr hK
  obtain ⟨v, hv, hd⟩ := stepQ_sound w hT hr.2.2 hr.2.1 h hc
  simp only [Oper.wp, hv, Oper.upon]
  exact hK v G w hr.2.2 (Ext.refl _ _ _) hd

theorem EvL_quiet {ops : Array Oper} {o : Oper} {rest : List Oper} {d : DV} (hg : wantedD ops s.slots o = some true) (h : Quiet P s.σ s.slots o d) (k : EvL P ops rest (s.put o.dst d) Q) :
    EvL P ops (o :: rest) s Q := by
  intro w0 G0 σ0 W0 G a w hx hr
  rw [wpList]
  rw [if_pos (wanted_rel hr.2.1 hg)]
  refine .inl (h w0 G a w _ _ hr ?_)
  intro v G' w' hS hE hv
  refine k w0 G0 σ0 W0 G' _ w' (by rw [put_σ]; exact hx.trans hE) ⟨by rw [put_defers]; exact hr.1, ?_, by rw [put_σ]; exact hS⟩
  have := RelL_put (hr.2.1.ext hE) hv o.dst
  rw [put_σ]
  exact this

theorem EvL_step (hT : TOK P T) {ops : Array Oper} {o : Oper} {rest : List Oper} {C : Prop} {d : DV} (h : stepQ T s.σ s.slots o.op = some (C, d)) (hg : wantedD ops s.slots o = some true) (hc : C)
    (k : EvL P ops rest (s.put o.dst d) Q) : EvL P ops (o :: rest) s Q := EvL_quiet hg (Quiet.step hT h hc) k

theorem EvL_off {ops : Array Oper} {o : Oper} {rest : List Oper} (hg : wantedD ops s.slots o = some false) (k : EvL P ops rest (s.put o.dst .undef) Q) : EvL P ops (o :: rest) s Q := by
  intro w0 G0 σ0 W0 G a w hx hr
  rw [wpList]
  rw [if_neg (by rw [wanted_rel hr.2.1 hg]; simp)]
  refine k w0 G0 σ0 W0 G _ w (by rw [put_σ]; exact hx) ⟨by rw [put_defers]; exact hr.1, ?_, by rw [put_σ]; exact hr.2.2⟩
  rw [put_σ]
  exact RelL_put hr.2.1 (.undef _) o.dst

/-! ### functions -/
def Does (P : Program) (f : FuncId) (args : List DV) (σ : Store) (Q : DV → Store → Prop) : Prop :=
  ∀ w0 G (vs : Array Value) w, StoreRel w0 G σ w → RelL G σ w args vs.toList →
    Calls P f vs w fun e w' => ∃ v r σ' G', e = .returned v ∧ Q r σ' ∧ StoreRel w0 G' σ' w' ∧ Ext G σ w G' σ' w' ∧ RelV G' σ' w' r v

theorem Does.mono {f : FuncId} {args : List DV} {σ : Store} {R R' : DV → Store → Prop} (h : Does P f args σ R) (hq : ∀ r σ', R r σ' → R' r σ') : Does P f args σ R' := by
  intro w0 G vs w hS hr
  refine (h w0 G vs w hS hr).mono ?_
  rintro e w' ⟨v, r, σ', G', he, hR, rest⟩
  exact ⟨v, r, σ', G', he, hq _ _ hR, rest⟩

def resD1 (T : TypeId → TI) (s : St) : ResultVar → Option (Prop × DV)
  | .tmp t => some (True, s.slots.getD t .undef)
  | .cell a t => loadD T s.σ t (s.slots.getD a .undef)
def resDs (T : TypeId → TI) (s : St) : List ResultVar → Option (Prop × List DV)
  | [] => some (True, [])
  | r :: rs =>
    match resD1 T s r, resDs T s rs with
    | some (C, d), some (C', ds) => some (C ∧ C', d :: ds)
    | _, _ => none
def resD (T : TypeId → TI) (s : St) (rs : List ResultVar) : Option (Prop × DV) :=
  match resDs T s rs with
  | some (C, [d]) => some (C, d)
  | some (C, ds) => some (C, .tup ds)
  | none => none

def resRun (tmps : Array Value) : ResultVar → Sem Value
  | .tmp t => pure (tmps.getD t Go.undef)
  | .cell p t => do loadVar t (← asAddr (tmps.getD p Go.undef))

theorem resDs_sound (hT : TOK P T) {w0 : World} {G : Gh} {a : Act} {w : World} (hr : RelS w0 G s a w) : ∀ (rs : List ResultVar) (C : Prop) (ds : List DV), resDs T s rs = some (C, ds) → C →
    ∃ vs : List Value, (rs.mapM (resRun a.tmps)).run P w = .ok vs w ∧ RelL G s.σ w ds vs
  | [], C, ds, h, hc => by
    simp only [resDs, Option.some.injEq, Prod.mk.injEq] at h
    obtain ⟨_, rfl⟩ := h
    exact ⟨[], by simp, .nil⟩
  | r :: rs, C, ds, h, hc => by
    unfold resDs at h
    split at h
    · rename_i C1 d1 C2 ds2 h1 h2
      simp only [Option.some.injEq, Prod.mk.injEq] at h
      obtain ⟨rfl, rfl⟩ := h
      obtain ⟨vs, hv, hrel⟩ := resDs_sound hT hr rs C2 ds2 h2 hc.2
      cases r with
      | tmp t =>
        simp only [resD1, Option.some.injEq, Prod.mk.injEq] at h1
        obtain ⟨_, rfl⟩ := h1
        refine ⟨a.tmps.getD t Go.undef :: vs, ?_, .cons (get_rel w hr.2.1 (.tmp t)) hrel⟩
        simp only [List.mapM_cons, Sem.run_bind, resRun, Sem.run_pure, Result.andThen_ok, hv]
      | cell p t =>
        simp only [resD1] at h1
        obtain ⟨v, hl, hd⟩ := loadD_sound w hT hr.2.2 (get_rel w hr.2.1 (.tmp p)) h1 hc.1
        refine ⟨v :: vs, ?_, .cons hd hrel⟩
        have he : ∃ ad, a.tmps.getD p Go.undef = .pointer (some ad) := by
          simp only [Instr.loadAt, Act.eval] at hl
          cases hq : a.tmps.getD p Go.undef with
          | pointer x =>
            cases x with
            | some ad => exact ⟨ad, rfl⟩
            | none => rw [hq] at hl; simp [Instr.sureAddr] at hl
          | _ => rw [hq] at hl; simp [Instr.sureAddr] at hl
        obtain ⟨ad, he⟩ := he
        simp only [Instr.loadAt, Act.eval, he, Instr.sureAddr, Sem.run_bind, Sem.run_pure, Result.andThen_ok] at hl
        simp only [List.mapM_cons, Sem.run_bind, resRun, he, asAddr, Sem.run_pure, Result.andThen_ok, hl, hv]
    · simp at h

theorem resD_sound (hT : TOK P T) {w0 : World} {G : Gh} {a : Act} {w : World} (hr : RelS w0 G s a w) {fn : Func} {C : Prop} {d : DV} (h : resD T s fn.results.toList = some (C, d)) (hc : C) :
    ∃ v, (results fn a.tmps).run P w = .ok v w ∧ RelV G s.σ w d v := by
  have run : ∀ vs : List Value, (fn.results.toList.mapM (resRun a.tmps)).run P w = .ok vs w →
      (results fn a.tmps).run P w = .ok (if h : vs.length = 1 then vs[0] else .tuple vs.toArray) w := by
    intro vs hv
    have e : results fn a.tmps = (fn.results.mapM (resRun a.tmps) >>= fun vs => pure (if h : vs.size = 1 then vs[0] else .tuple vs)) := by
      unfold results
      congr 2
    rw [e, Sem.run_bind, Array.mapM_eq_mapM_toList, Sem.run_map, hv]
    simp only [Result.andThen_ok, Sem.run_pure, List.size_toArray, List.getElem_toArray]
  unfold resD at h
  split at h
  · rename_i C' d' hq
    simp only [Option.some.injEq, Prod.mk.injEq] at h
    obtain ⟨rfl, rfl⟩ := h
    obtain ⟨vs, hv, hrel⟩ := resDs_sound hT hr _ _ _ hq hc
    match vs, hrel.1 with
    | [v], _ =>
      refine ⟨v, ?_, hrel.2 0 _ v rfl rfl⟩
      rw [run [v] hv]
      rfl
  · rename_i C' ds hn hq
    simp only [Option.some.injEq, Prod.mk.injEq] at h
    obtain ⟨rfl, rfl⟩ := h
    obtain ⟨vs, hv, hrel⟩ := resDs_sound hT hr _ _ _ hq hc
    have hne : vs.length ≠ 1 := by
      rw [hrel.1]
      intro hl
      match ds, hl with
      | [d], _ => exact hn d rfl
    refine ⟨.tuple vs.toArray, ?_, .tup ds vs hrel.1 hrel.2⟩
    rw [run vs hv, dif_neg hne]
  · simp at h

/-- What a body must come to. -/
def RetQ (T : TypeId → TI) (rs : List ResultVar) (R : DV → Store → Prop) : Exit → St → Prop
  | .normal, s | .ret, s => ∃ C d, resD T s rs = some (C, d) ∧ C ∧ R d s.σ
  | _, _ => False

theorem Does_body (hT : TOK P T) {f : FuncId} {fn : Func} {c : Code} {args : List DV} {σ : Store} {R : DV → Store → Prop} (hf : P.funcs[f]? = some fn) (hb : fn.body = some c)
    (h : Ev P c ⟨args ++ List.replicate (fn.ntmps - args.length) .undef, σ⟩ (RetQ T fn.results.toList R)) : Does P f args σ R := by
  intro w0 G vs w hS hr
  refine calls_of_wp hf hb ?_
  have hl : vs.size = args.length := by rw [← hr.1, Array.length_toList]
  refine wp_mono (h w0 G σ w G { tmps := vs ++ Array.replicate (fn.ntmps - vs.size) Go.undef, defers := [] } w (Ext.refl _ _ _) ⟨rfl, ?_, hS⟩) ?_
  · simp only [Array.toList_append, Array.toList_replicate, hl]
    refine hr.append ⟨by simp, fun i c v hc hv => ?_⟩
    have := List.eq_of_mem_replicate (List.mem_of_getElem? hc)
    subst this
    exact .undef v
  · rintro e a' w' ⟨s', G', hq, hr', hx'⟩
    cases e <;> simp only [RetQ] at hq
    all_goals
      obtain ⟨C, d, he, hc, hR⟩ := hq
      obtain ⟨v, hv, hd⟩ := resD_sound hT hr' he hc
      exact ⟨hr'.1, v, hv, v, d, s'.σ, G', rfl, hR, hr'.2.2, hx', hd⟩

/-- What says less. -/
def Le (d d' : DV) : Prop := ∀ G σ w v, RelV G σ w d v → RelV G σ w d' v
def LeL (ds ds' : List DV) : Prop := ∀ G σ w vs, RelL G σ w ds vs → RelL G σ w ds' vs
theorem Le.refl (d : DV) : Le d d := fun _ _ _ _ h => h
theorem Le.sl (xs : List DV) : Le (.slt xs) (.sl xs) := fun _ _ _ _ h => h.sl_of_slt
theorem LeL.refl (ds : List DV) : LeL ds ds := fun _ _ _ _ h => h
theorem LeL.nil : LeL [] [] := LeL.refl _
theorem LeL.cons {d d' : DV} {ds ds' : List DV} (h : Le d d') (hs : LeL ds ds') : LeL (d :: ds) (d' :: ds') := by
  intro G σ w vs hr
  cases vs with
  | nil => have := hr.1; simp at this
  | cons v vs =>
    have h1 : RelL G σ w ds vs := ⟨by simpa using hr.1, fun i c u hc hu => hr.2 (i + 1) c u (by simpa using hc) (by simpa using hu)⟩
    exact .cons (h _ _ _ _ (hr.2 0 d v rfl rfl)) (hs _ _ _ _ h1)
theorem Le.agg {cs cs' : List DV} (h : LeL cs cs') : Le (.agg cs) (.agg cs') := by
  intro G σ w v hr
  cases hr with
  | agg _ vs hl hr => have := h G σ w vs ⟨hl, hr⟩; exact .agg _ _ this.1 this.2
theorem Le.tup {cs cs' : List DV} (h : LeL cs cs') : Le (.tup cs) (.tup cs') := by
  intro G σ w v hr
  cases hr with
  | tup _ vs hl hr => have := h G σ w vs ⟨hl, hr⟩; exact .tup _ _ this.1 this.2
theorem Le.fn {f : Fn} {fs fs' cs cs' : List DV} (hf : LeL fs fs') (h : LeL cs cs') : Le (.fn f fs cs) (.fn f fs' cs') := by
  intro G σ w v hr
  cases hr with
  | fn _ _ _ us vs hl1 hr1 hl hr =>
    have := h G σ w vs ⟨hl, hr⟩
    have k := hf G σ w us ⟨hl1, hr1⟩
    exact .fn _ _ _ _ _ k.1 k.2 this.1 this.2

/-- Who is called, with what: the function's number, and its arguments. -/
def calleeD (P : Program) (slots : List DV) (c : Call) : Option (FuncId × List DV) :=
  match c.callee with
  | .value x =>
    match get slots x with
    | .fn (.func f) fs cs => some (f, fs ++ gets slots c.args ++ cs)
    | _ => none
  | _ => none

theorem call_run {σ : Store} {slots : List DV} {G : Gh} {w : World} {a : Act} (hr : RelL G σ w slots a.tmps.toList) {o : Oper} {c : Call} (ho : o.op = .call c) {f : FuncId} {args : List DV}
    (h : calleeD P slots c = some (f, args)) {fn : Func} {body : Code} (hf : P.funcs[f]? = some fn) (hb : fn.body = some body) (hn : fn.name ≠ "runtime.NumGoroutine") :
    ∃ vs : Array Value, (execOp a.eval o).run P w = .ok (.enter f vs) w ∧ RelL G σ w args vs.toList := by
  obtain ⟨callee, cargs, ats⟩ := c
  unfold calleeD at h
  split at h
  · rename_i x hx
    simp only at hx
    subst hx
    split at h
    · rename_i g fs cs hg
      simp only [Option.some.injEq, Prod.mk.injEq] at h
      obtain ⟨rfl, rfl⟩ := h
      have hv := get_rel w hr x
      rw [hg] at hv
      generalize hcv : a.eval x = vc at hv
      cases hv with
      | fn _ _ _ us vs h1 h2 h3 h4 =>
        refine ⟨us.toArray ++ cargs.map a.eval ++ vs.toArray, ?_, ?_⟩
        · simp only [execOp, ho, resolve, hcv, Deferred.ofValue, Sem.run_bind, Sem.run_pure, Result.andThen_ok, invoke, callFunc, run_program, hf, Sem.run_ite]
          simp [hn, hb]
        · have := (RelL.append ⟨h1, h2⟩ (gets_rel w hr cargs)).append (show RelL G σ w cs vs from ⟨h3, h4⟩)
          simpa using this
    · simp at h
  · simp at h

theorem EvL_call {ops : Array Oper} {o : Oper} {rest : List Oper} {c : Call} {f : FuncId} {args args' : List DV} {R : DV → Store → Prop} {fn : Func} {body : Code} (ho : o.op = .call c) (hg : wantedD ops s.slots o = some true)
    (h : calleeD P s.slots c = some (f, args)) (hf : P.funcs[f]? = some fn) (hb : fn.body = some body) (hn : fn.name ≠ "runtime.NumGoroutine") (hle : LeL args args') (hF : Does P f args' s.σ R)
    (k : ∀ r σ', R r σ' → EvL P ops rest (St.put ⟨s.slots, σ'⟩ o.dst r) Q) : EvL P ops (o :: rest) s Q := by
  intro w0 G0 σ0 W0 G a w hx hr
  rw [wpList]
  rw [if_pos (wanted_rel hr.2.1 hg)]
  obtain ⟨vs, he, hrel⟩ := call_run hr.2.1 ho h hf hb hn
  refine .inl ?_
  simp only [Oper.wp, he, Oper.upon]
  refine (hF w0 G vs w hr.2.2 (hle _ _ _ _ hrel)).mono ?_
  rintro e w' ⟨v, r, σ', G', rfl, hR, hS, hE, hv⟩
  refine k r σ' hR w0 G0 σ0 W0 G' _ w' (by rw [put_σ]; exact hx.trans hE) ⟨by rw [put_defers]; exact hr.1, ?_, by rw [put_σ]; exact hS⟩
  rw [put_σ]
  exact RelL_put (hr.2.1.ext hE) hv o.dst

/-- A call that leaves no trace. -/
theorem Quiet.call {o : Oper} {c : Call} {slots : List DV} {σ : Store} {f : FuncId} {args args' : List DV} {d : DV} {fn : Func} {body : Code} (ho : o.op = .call c)
    (h : calleeD P slots c = some (f, args)) (hf : P.funcs[f]? = some fn) (hb : fn.body = some body) (hn : fn.name ≠ "runtime.NumGoroutine") (hle : LeL args args')
    (hF : Does P f args' σ (fun r σ' => r = d ∧ σ' = σ)) : Quiet P σ slots o d := by
  intro w0 G a w K Qr hr hK
  obtain ⟨vs, he, hrel⟩ := call_run hr.2.1 ho h hf hb hn
  simp only [Oper.wp, he, Oper.upon]
  refine (hF w0 G vs w hr.2.2 (hle _ _ _ _ hrel)).mono ?_
  rintro e w' ⟨v, r, σ', G', rfl, ⟨rfl, rfl⟩, hS, hE, hv⟩
  exact hK v G' w' hS hE hv
end
end Go.Val
