/- Drawn regions in two parts: what is read ahead of a place is asked of the stores ahead of it, what is read behind it of those behind; calls there that write a variable, or hand back what is new. Ranges over functions: a round of the loop, walked; the iterator that calls it; the loop. -/
import Derived.Test.YtgjmpefhjdgkoaaVM7
import Derived.Test.YtgjmpefhjdgkoaaVM6
import Derived.RangeFuncIn
import Derived.RangeFuncRecord
import Derived.LoopNIn
import Derived.TacticsIn
section
namespace Go.Val
open Go.RowKit
set_option linter.unusedSimpArgs false
set_option linter.unusedVariables false
section
variable {P : Program} {T : TypeId → TI} {l : List Oper} {f : List Bool}
theorem Drw.mono {E : Store → Prop} {ops : Array Oper} {K K' : List DV → Store → Prop} (hk : ∀ s τ, K s τ → K' s τ) : ∀ {l : List Oper} {f : List Bool} {s : List DV} {σ : Store}, Drw P E ops l f s σ K → Drw P E ops l f s σ K' := by
 intro l
 induction l with
 | nil => intro f s σ h; exact ⟨h.1, hk _ _ h.2⟩
 | cons o l ih =>
  intro f s σ h
  obtain ⟨hE, h⟩ := h
  refine ⟨hE, ?_⟩
  rcases h with ⟨h1, h2, h3⟩ | ⟨h1, h2, d, h3, h4⟩ | ⟨h1, h2, d, σ', h3, h4⟩
  ·exact .inl ⟨h1, h2, ih h3⟩
  ·exact .inr (.inl ⟨h1, h2, d, h3, ih h4⟩)
  ·exact .inr (.inr ⟨h1, h2, d, σ', h3, ih h4⟩)
def barr (l : List Oper) (n : Nat) : Bool :=
 let c := closB l
 (List.range l.length).all fun j => decide (j < n) || (List.range n).all fun i => (c.getD j 0).testBit i
end
section
variable {P : Program} {T : TypeId → TI} {dsts : List (Option Tmp)} {l rest : List Oper} {f f' : List Bool} {s s' : List DV} {σ σ' : Store} {K : List DV → Store → Prop} {Q : Exit → St → Prop}
 {dst : Option Tmp} {op : Op} {ty : TypeId} {pos : String} {af : Array Edge} {g : Option (Nat × Bool)} {E : Store → Prop}
end
end Go.Val
end

section
namespace Go.Val
open Go.RowKit
set_option linter.unusedSimpArgs false
set_option linter.unusedVariables false
section
variable {P : Program} {T : TypeId → TI} {F : Fence} {n : Nat}
def WideF (F : Fence) : Prop := F = Fence.wide ∨ ∃ l, F = Fence.wide.inRound l
theorem WideF.fn (hF : WideF F) (f : FuncId) : F.fn f := by rcases hF with rfl | ⟨l, rfl⟩ <;> trivial
theorem WideF.depth (hF : WideF F) : F.depth = none := by rcases hF with rfl | ⟨l, rfl⟩ <;> rfl
theorem WideF.asks (hF : WideF F) {p : Prop} : F.depth.isSome = true → p := by rw [hF.depth]; intro h; cases h
theorem WideF.calls (hF : WideF F) {f : FuncId} {args : Array Value} {w : World} {R : Ending → World → Prop} (h : Calls P f args w R) : CallsIn F n P f args w R := by
 rcases hF with rfl | ⟨l, rfl⟩
 ·exact callsIn_wide.2 h
 ·exact callsIn_wide.2 h
theorem WideF.rows (hF : WideF F) {row : String} {args : Array Value} {w : World} {R : Value → World → Prop} (h : Rows P row args w R) : RowsIn F n P row args w R := by
 intro c cs _
 obtain ⟨v, w', r, s⟩ := h c cs
 rcases hF with rfl | ⟨l, rfl⟩
 ·exact ⟨v, w', r, stepsIn_wide.2 s⟩
 ·exact ⟨v, w', r, stepsIn_wide.2 s⟩
theorem oper_in (hF : WideF F) {o : Oper} {a : Act} {w : World} {next next' : Act → World → Prop} {Q0 Q : Exit → Act → World → Prop} (hd : ∀ c, o.op ≠ .defer c) (hn : ∀ a w, next a w → next' a w)
  (hq : ∀ e a w, e ≠ .normal → ¬ Q0 e a w) (h : o.wp P a w next Q0) : o.wpIn F n P a w next' Q := by
 refine ⟨fun f _ => hF.fn f, ?_⟩
 rw [Oper.semAt_eq _ _ _ hd]
 unfold Oper.wp at h
 generalize (execOp a.eval o).run P w = r at h ⊢
 cases r with
 | ok x w' =>
  cases x with
  | value v => exact hn _ _ h
  | skip => exact hn _ _ h
  | defer d => exact hn _ _ h
  | enter f args =>
   refine ⟨hF.asks, hF.calls (Calls.mono h ?_)⟩
   rintro e w'' he
   cases e with
   | returned v => exact hn _ _ he
   | panicked chain => exact absurd he (hq _ _ _ (by simp))
   | outgrown => obtain ⟨a', w1, h1⟩ := he; exact absurd h1 (hq _ _ _ (by simp))
  | row row args => exact ⟨hF.asks, hF.rows (Rows.mono h fun v w'' => hn _ _)⟩
  | _ => exact h.elim
 | halt h' w' =>
  cases h' with
  | panic v => exact absurd h (hq _ _ _ (by simp))
  | _ => exact h.elim
theorem list_in (hF : WideF F) {ops : Array Oper} {rest : List Oper} {Q0 Q : Exit → Act → World → Prop} (hq : ∀ e a w, e ≠ .normal → ¬ Q0 e a w) (hk : ∀ a w, Q0 .normal a w → wpListIn F n P ops Q rest a w) :
  ∀ {l : List Oper}, (∀ o ∈ l, ∀ c, o.op ≠ .defer c) → ∀ {a : Act} {w : World}, wpList P ops Q0 l a w → wpListIn F n P ops Q (l ++ rest) a w := by
 intro l
 induction l with
 | nil => intro _ a w h; exact hk _ _ h
 | cons o l ih =>
  intro hd a w h
  rw [wpList] at h
  rw [List.cons_append, wpListIn]
  split
  ·rename_i hw
   rw [if_pos hw] at h
   rcases h with h | ⟨_, a', w', h⟩
   ·exact oper_in hF (hd o (by simp)) (fun a w hh => ih (fun o ho => hd o (by simp [ho])) hh) hq h
   ·exact absurd h (hq _ _ _ (by simp))
  ·rename_i hw
   rw [if_neg hw] at h
   exact ⟨fun f _ => hF.fn f, ih (fun o ho => hd o (by simp [ho])) h⟩

/-! ### walks whose ground is known -/
abbrev Grd := Gh → Store → World → Prop
def EvI (F : Fence) (n : Nat) (B : Grd) (P : Program) (c : Code) (s : St) (Q : Exit → St → Prop) : Prop :=
 ∀ w0 G0 σ0 W0 G a w, B G0 σ0 W0 → Ext G0 σ0 W0 G s.σ w → RelS w0 G s a w → c.wpIn F n P (Post w0 G0 σ0 W0 Q) a w
def EvLI (F : Fence) (n : Nat) (B : Grd) (P : Program) (ops : Array Oper) (l : List Oper) (s : St) (Q : Exit → St → Prop) : Prop :=
 ∀ w0 G0 σ0 W0 G a w, B G0 σ0 W0 → Ext G0 σ0 W0 G s.σ w → RelS w0 G s a w → wpListIn F n P ops (Post w0 G0 σ0 W0 Q) l a w
def thenI (F : Fence) (n : Nat) (B : Grd) (P : Program) (y : Code) (Q : Exit → St → Prop) : Exit → St → Prop
 | .normal, s => EvI F n B P y s Q
 | e, s => Q e s
def Then (K : St → Prop) : Exit → St → Prop := fun e s => e = .normal ∧ K s
variable {B : Grd} {s : St} {Q Q' : Exit → St → Prop}
theorem EvI.mono {c : Code} (h : EvI F n B P c s Q) (hq : ∀ e s, Q e s → Q' e s) : EvI F n B P c s Q' :=
 fun w0 G0 σ0 W0 G a w hB hx hr => wpIn_mono (h w0 G0 σ0 W0 G a w hB hx hr) (fun _ _ _ hp => hp.mono hq)
theorem EvI_seq {x y : Code} (h : EvI F n B P x s (thenI F n B P y Q)) : EvI F n B P (.seq x y) s Q := by
 intro w0 G0 σ0 W0 G a w hB hx hr
 refine wpIn_seq (wpIn_mono (h w0 G0 σ0 W0 G a w hB hx hr) ?_)
 rintro e a' w' ⟨s', G', hq, hr', hx'⟩
 cases e with
 | normal => exact hq w0 G0 σ0 W0 G' a' w' hB hx' hr'
 | _ => exact ⟨s', G', hq, hr', hx'⟩
theorem EvI_skip (h : Q .normal s) : EvI F n B P .skip s Q := fun w0 G0 σ0 W0 G a w _ hx hr => wpIn_skip ⟨s, G, h, hr, hx⟩
theorem EvI_exit {id : Nat} (h : Q (.exit id) s) : EvI F n B P (.exit id) s Q := fun w0 G0 σ0 W0 G a w _ hx hr => wpIn_exit ⟨s, G, h, hr, hx⟩
theorem EvI_true {c : Operand} {x y : Code} (hc : get s.slots c = .bool true) (h : EvI F n B P x s Q) : EvI F n B P (.cond c x y) s Q := by
 intro w0 G0 σ0 W0 G a w hB hx hr
 have hv := get_rel w hr.2.1 c
 rw [hc] at hv
 generalize hcv : a.eval c = vc at hv
 cases hv
 exact wpIn_cond_true hcv (h w0 G0 σ0 W0 G a w hB hx hr)
theorem EvI_false {c : Operand} {x y : Code} (hc : get s.slots c = .bool false) (h : EvI F n B P y s Q) : EvI F n B P (.cond c x y) s Q := by
 intro w0 G0 σ0 W0 G a w hB hx hr
 have hv := get_rel w hr.2.1 c
 rw [hc] at hv
 generalize hcv : a.eval c = vc at hv
 cases hv
 exact wpIn_cond_false hcv (h w0 G0 σ0 W0 G a w hB hx hr)
theorem EvI_block {id : Nat} {c : Code} (h : EvI F n B P c s (blockQ id Q)) : EvI F n B P (.block id c) s Q := by
 intro w0 G0 σ0 W0 G a w hB hx hr
 refine wpIn_block (wpIn_mono (h w0 G0 σ0 W0 G a w hB hx hr) ?_)
 rintro e a' w' ⟨s', G', hq, hr', hx'⟩
 cases e with
 | exit id' =>
  simp only [blockQ] at hq
  simp only [Exit.inBlock]
  split at hq <;> rename_i hid
  ·rw [if_pos hid]; exact ⟨s', G', hq, hr', hx'⟩
  ·rw [if_neg hid]; exact ⟨s', G', hq, hr', hx'⟩
 | _ => exact ⟨s', G', hq, hr', hx'⟩
theorem EvI_loop {c : Code} (S : Nat → St) (m : Nat) (h : ∀ i, i ≤ m → EvI F n B P c (S i) (fun e s' => match e with
  | .normal => i < m ∧ s' = S (i + 1)
  | e => Q e s')) : EvI F n B P (.loop c) (S 0) Q := by
 intro w0 G0 σ0 W0 G a w hB hx hr
 have key : ∀ k i, i + k = m → ∀ G a w, Ext G0 σ0 W0 G (S i).σ w → RelS w0 G (S i) a w → Code.roundsIn F n P c (Post w0 G0 σ0 W0 Q) (k + 1) a w := by
  intro k
  induction k with
  | zero =>
   intro i hi G a w hx hr
   refine wpIn_mono (h i (by omega) w0 G0 σ0 W0 G a w hB hx hr) ?_
   rintro e a' w' ⟨s', G', hq, hr', hx'⟩
   cases e with
   | normal => exact absurd hq.1 (by omega)
   | _ => exact ⟨s', G', hq, hr', hx'⟩
  | succ k ih =>
   intro i hi G a w hx hr
   refine wpIn_mono (h i (by omega) w0 G0 σ0 W0 G a w hB hx hr) ?_
   rintro e a' w' ⟨s', G', hq, hr', hx'⟩
   cases e with
   | normal => obtain ⟨_, rfl⟩ := hq; exact ih (i + 1) (by omega) G' a' w' hx' hr'
   | _ => exact ⟨s', G', hq, hr', hx'⟩
 exact wpIn_loop_rounds (m + 1) (key m 0 (by omega) G a w hx hr)
theorem EvI_of {c : Code} (h : Ev P c s Q) : EvI Fence.wide n B P c s Q := fun w0 G0 σ0 W0 G a w _ hx hr => wpIn_wide.2 (h w0 G0 σ0 W0 G a w hx hr)
theorem EvI_seqL {x y : Code} (h : Ev P x s (Then fun s' => EvI Fence.wide n B P y s' Q)) : EvI Fence.wide n B P (.seq x y) s Q :=
 EvI_seq ((EvI_of h).mono fun e s' hj => by obtain ⟨rfl, hk⟩ := hj; exact hk)
theorem EvI_endL {x : Code} (h : Ev P x s (Then fun s' => Q .normal s')) : EvI Fence.wide n B P x s Q :=
 (EvI_of h).mono fun e s' hj => by obtain ⟨rfl, hk⟩ := hj; exact hk
theorem EvI_region {id : Nat} {l : List Oper} (h : EvLI F n B P l.toArray l s Q) : EvI F n B P (.region id l.toArray false) s Q :=
 fun w0 G0 σ0 W0 G a w hB hx hr => wpIn_region_lit (h w0 G0 σ0 W0 G a w hB hx hr)
theorem EvLI_leaf (hF : WideF F) {ops : Array Oper} {l l1 l2 : List Oper} (hl : l = l1 ++ l2) (hd : ∀ o ∈ l1, ∀ c, o.op ≠ .defer c) {K : St → Prop} (h : EvL P ops l1 s (Then K)) (k : ∀ s', K s' → EvLI F n B P ops l2 s' Q) : EvLI F n B P ops l s Q := by
 subst hl
 intro w0 G0 σ0 W0 G a w hB hx hr
 refine list_in hF ?_ ?_ hd (h w0 G0 σ0 W0 G a w hx hr)
 ·rintro e a w he ⟨s', G', ⟨rfl, _⟩, _⟩; exact he rfl
 ·rintro a w ⟨s', G', ⟨_, hk⟩, hr', hx'⟩
  exact k s' hk w0 G0 σ0 W0 G' a w hB hx' hr'
theorem EvLI_nil {ops : Array Oper} (h : Q .normal s) : EvLI F n B P ops [] s Q := fun w0 G0 σ0 W0 G a w _ hx hr => ⟨s, G, h, hr, hx⟩
/-! ### the call of yield -/
theorem Dfs.other {G : Gh} {w w' : World} {l : Nat} {rec : Loop} (hl : w.heap[l]? = some (.loop rec)) (ho : ∀ k, k ≠ l → w'.heap[k]? = w.heap[k]?) {ds : List Deferred} (h : Dfs G w ds) : Dfs G w' ds :=
 ⟨h.1, fun d hd => let ⟨r, h1, h2, h3⟩ := h.2 d hd; ⟨r, h1, h2, by rw [ho r (fun e => by rw [e, hl] at h3; cases h3)]; exact h3⟩⟩
def LoopB (l : Nat) (p : Tmp) (assign body : Code) (own : List DV) : Grd := fun G σ w =>
 ∃ (rec : Loop) (m : Nat), w.heap[l]? = some (.loop rec) ∧ rec.state = .ready ∧ rec.pending = none ∧ rec.assign = assign ∧ rec.body = body ∧ rec.params = #[p] ∧ G.own l = .dfr m ∧ RelL G σ w own rec.tmps.toList
theorem LoopB.up {l : Nat} {p : Tmp} {assign body : Code} {own : List DV} {G : Gh} {σ : Store} {w : World} (h : LoopB l p assign body own G σ w) : LoopB l p assign body own G.up σ w := by
 obtain ⟨rec, m, h1, h2, h3, h4, h5, h6, h7, h8⟩ := h
 exact ⟨rec, m + 1, h1, h2, h3, h4, h5, h6, show (G.own l).up = _ by rw [h7]; rfl, h8.chg (chg_up (w0 := w) G)⟩
def RoundD (P : Program) (p : Tmp) (assign body : Code) (own : List DV) (x : DV) (S S' : Store) : Prop :=
 ∀ l n, EvI (Fence.wide.inRound l) n (fun _ _ _ => True) P assign ⟨own.set p x, S⟩ (Then fun s1 => s1.σ = S ∧ EvI (Fence.wide.inRound l) n (fun _ _ _ => True) P body s1 (Then fun s => s.σ = S'))
theorem EvLI_yield {l : Nat} {p : Tmp} {assign body : Code} {own : List DV} {ops : Array Oper} {rest : List Oper} {y x : Operand} {ats : Array TypeId} {dst : Option Tmp} {ty : TypeId} {pos : String} {af : Array Edge} {d : DV} {S' : Store}
  (hy : get s.slots y = .fn (.yield l) [] []) (hd : Le (get s.slots x) d) (hR : RoundD P p assign body own d s.σ S')
  (k : EvLI Fence.wide n (LoopB l p assign body own) P ops rest (St.put ⟨s.slots, S'⟩ dst (.bool true)) Q) :
  EvLI Fence.wide n (LoopB l p assign body own) P ops (⟨dst, .call ⟨.value y, #[x], ats⟩, ty, pos, af, none⟩ :: rest) s Q := by
 intro w0 G0 σ0 W0 G a w hB hx0 hr
 have hB0 := hB
 obtain ⟨rec, m, hh, hst, hpe, has, hbo, hps, hown, hrel⟩ := hB
 obtain ⟨hl1, hl2⟩ := hx0.dfr l hown
 have hl : w.heap[l]? = some (.loop rec) := hl2.trans hh
 have hlt : l < w.heap.size := (Array.getElem?_eq_some_iff.1 hl).1
 have hyv := get_rel w hr.2.1 y
 rw [hy] at hyv
 have hev : a.eval y = .func (.yield l) #[] #[] := by
  generalize a.eval y = vy at hyv
  cases hyv with
  | fn _ _ _ us vs h1 _ h3 _ =>
   have e1 : us = [] := List.length_eq_zero_iff.1 h1
   have e2 : vs = [] := List.length_eq_zero_iff.1 h3
   subst e1; subst e2; rfl
 have hxv := hd _ _ _ _ (get_rel w hr.2.1 x)
 rw [wpListIn, if_pos (by simp [Region.wanted])]
 refine ⟨fun f _ => trivial, ?_⟩
 have run : (Oper.semAt Fence.wide.round a.eval ⟨dst, .call ⟨.value y, #[x], ats⟩, ty, pos, af, none⟩).run P w = .ok (.round l rec.fn (rec.tmps.setIfInBounds p (a.eval x)) rec.assign rec.body) w := by
  rw [Oper.semAt_eq _ _ _ (by simp)]
  have h1 := run_yield (P := P) (args := #[a.eval x]) hl (by simp [hps])
  simp only [execOp, resolve, hev, Deferred.ofValue, Sem.run_bind, Sem.run_pure, Result.andThen_ok, invoke]
  simpa [hps] using h1
 rw [run]
 refine ⟨fun h => by simp [Fence.wide] at h, roundIn_of_wpIn trivial ?_⟩
 have hA := hR l (n - 1)
 rw [has, hbo]
 have hrl : RelL G s.σ w (own.set p d) (rec.tmps.setIfInBounds p (a.eval x)).toList := by
  rw [Array.toList_setIfInBounds]
  exact (hrel.ext hx0).set p hxv
 refine wpIn_mono (hA w0 G s.σ w G { tmps := rec.tmps.setIfInBounds p (a.eval x), defers := [] } w trivial (Ext.refl _ _ _) ⟨Dfs.nil, hrl, hr.2.2⟩) ?_
 rintro e a1 w1 ⟨⟨s1, σ1⟩, G1, ⟨rfl, hσ1, hBd⟩, hr1, hx1⟩
 simp only at hσ1
 subst hσ1
 obtain ⟨o1, h1⟩ := hx1.dfr l hl1
 have hw1 : w1.heap[l]? = some (.loop rec) := h1.trans hl
 have hlt1 : l < w1.heap.size := (Array.getElem?_eq_some_iff.1 hw1).1
 refine ⟨_, run_beginRound hw1 hst, ?_⟩
 have oth1 : ∀ (o : Obj) k, k ≠ l → (w1.putObj l o).heap[k]? = w1.heap[k]? := fun o k hk => World.putObj_heap_other hk
 have hw0 : w0.heap.size ≤ l := hr1.2.2.trk l (by rw [o1]; simp) (by rw [o1]; simp)
 have hc1 : Chg w0 G1 G1 w1 (w1.putObj l (.loop { rec with state := .busy })) :=
  ⟨fun k k1 k2 => ⟨rfl, oth1 _ k (fun e => k2 m (e ▸ o1))⟩, fun k h => ⟨h, fun h => h⟩, rfl, rfl, rfl, ⟨rfl, rfl, rfl, Nat.le_of_eq World.putObj_size.symm, fun k hk => oth1 _ k (by omega)⟩⟩
 refine wpIn_mono (hBd w0 G1 s.σ _ G1 a1 _ trivial (Ext.refl _ _ _) ⟨hr1.1.other hw1 (oth1 _), hr1.2.1.chg hc1, hr1.2.2.chg hc1 (Nat.le_of_eq World.putObj_size.symm)⟩) ?_
 rintro e a2 w2 ⟨s2, G2, ⟨rfl, hσ⟩, hr2, hx2⟩
 obtain ⟨o2, h2⟩ := hx2.dfr l o1
 have hw2 : w2.heap[l]? = some (.loop { rec with state := .busy }) := h2.trans (World.putObj_heap_same hlt1)
 have hlt2 : l < w2.heap.size := (Array.getElem?_eq_some_iff.1 hw2).1
 refine ⟨_, _, run_endRound none hw2, ?_⟩
 have erec : ({ { rec with state := LoopState.busy } with state := if (none : Option Code).isNone then LoopState.ready else .done, pending := none } : Loop) = rec := by
  cases rec; simp only at hst hpe; subst hst; subst hpe; rfl
 simp only at erec
 rw [erec]
 have oth2 : ∀ k, k ≠ l → (w2.putObj l (.loop rec)).heap[k]? = w2.heap[k]? := fun k hk => World.putObj_heap_other hk
 have hc2 : Chg w0 G2 G2 w2 (w2.putObj l (.loop rec)) :=
  ⟨fun k k1 k2 => ⟨rfl, oth2 k (fun e => k2 m (e ▸ o2))⟩, fun k h => ⟨h, fun h => h⟩, rfl, rfl, rfl, ⟨rfl, rfl, rfl, Nat.le_of_eq World.putObj_size.symm, fun k hk => oth2 k (by omega)⟩⟩
 subst hσ
 have hE2 : Ext G1 s.σ w1 G2 s2.σ (w2.putObj l (.loop rec)) := by
  refine ⟨fun k hk => ?_, hx2.rowsLen, hx2.boxesLen, hx2.mapsLen, hx2.rowV, hx2.boxB, hx2.mapB, fun {j} k hk => ?_⟩
  ·have hne : k ≠ l := fun e => by rw [e, o1] at hk; cases hk
   obtain ⟨q1, q2⟩ := hx2.imm k hk
   exact ⟨q1, (oth2 k hne).trans (q2.trans (oth1 _ k hne))⟩
  ·obtain ⟨q1, q2⟩ := hx2.dfr k hk
   by_cases hne : k = l
   ·subst hne
    exact ⟨q1, (World.putObj_heap_same hlt2).trans hw1.symm⟩
   ·exact ⟨q1, (oth2 k hne).trans (q2.trans (oth1 _ k hne))⟩
 have hE := hx1.trans hE2
 refine k w0 G0 σ0 W0 G2 _ _ hB0 (by rw [put_σ]; exact hx0.trans hE) ⟨by rw [put_defers]; exact hr.1.ext hE, ?_, by rw [put_σ]; exact hr2.2.2.chg hc2 (Nat.le_of_eq World.putObj_size.symm)⟩
 rw [put_σ]
 exact RelL_put (hr.2.1.ext hE) (.bool true) dst

/-! ### the iterator -/
def DoesB (B : Grd) (P : Program) (f : FuncId) (args : List DV) (σ : Store) (R : DV → Store → Prop) : Prop :=
 ∀ w0 G (vs : Array Value) w, B G σ w → StoreRel w0 G σ w → RelL G σ w args vs.toList →
  Calls P f vs w fun e w' => ∃ v r σ' G', e = .returned v ∧ R r σ' ∧ StoreRel w0 G' σ' w' ∧ Ext G σ w G' σ' w' ∧ RelV G' σ' w' r v
theorem DoesB_body (hT : TOK P T) {f : FuncId} {fn : Func} {c : Code} {args : List DV} {σ : Store} {R : DV → Store → Prop} (hf : P.funcs[f]? = some fn) (hb : fn.body = some c) (hBu : ∀ G σ w, B G σ w → B G.up σ w)
  (h : EvI Fence.wide 0 B P c ⟨args ++ List.replicate (fn.ntmps - args.length) .undef, σ⟩ (RetQ T fn.results.toList R)) : DoesB B P f args σ R := by
 intro w0 G vs w hB hS hr
 refine callsIn_wide (n := 0).1 (callsIn_of_wp_marks hf hb trivial ?_ rfl)
 have hl : vs.size = args.length := by rw [← hr.1, Array.length_toList]
 refine wpIn_mono (h w0 G.up σ w G.up { tmps := vs ++ Array.replicate (fn.ntmps - vs.size) Go.undef, defers := [] } w (hBu _ _ _ hB) (Ext.refl _ _ _) ⟨Dfs.nil, ?_, hS.chg (chg_up G) (Nat.le_refl _)⟩) ?_
 ·simp only [Array.toList_append, Array.toList_replicate, hl]
  refine (hr.chg (chg_up (w0 := w0) G)).append ⟨by simp, fun i c v hc hv => ?_⟩
  have := List.eq_of_mem_replicate (List.mem_of_getElem? hc)
  subst this
  exact .undef v
 ·rintro e a' w' ⟨s', G', hq, hr', hx'⟩
  have fin := fun C d he hc hR => leaves_down (fn := fn) (R := R) (G := G) (σ := σ) (w := w) hT hr' hx' C d he hc hR
  cases e <;> simp only [RetQ] at hq
  all_goals
   obtain ⟨C, d, he, hc, hR⟩ := hq
   exact fin C d he hc hR
theorem Ext.past {G0 G : Gh} {σ0 σ : Store} {W0 w w' : World} {b : Nat} (ho : ∀ k, k ≠ b → w'.heap[k]? = w.heap[k]?) (h0 : G0.own b ≠ .imm) (h1 : ∀ n, G0.own b ≠ .dfr n) (h : Ext G0 σ0 W0 G σ w) : Ext G0 σ0 W0 G σ w' :=
 ⟨fun k hk => ⟨(h.imm k hk).1, by rw [ho k (fun e => h0 (e ▸ hk))]; exact (h.imm k hk).2⟩, h.rowsLen, h.boxesLen, h.mapsLen, h.rowV, h.boxB, h.mapB, fun k hk => ⟨(h.dfr k hk).1, by rw [ho k (fun e => h1 _ (e ▸ hk))]; exact (h.dfr k hk).2⟩⟩
theorem Ev_range {g : Operand} {p : Tmp} {assign body : Code} {slots : List DV} {σ σ' : Store} {f : FuncId} {cs : List DV} {Q : Exit → St → Prop} (hg : get slots g = .fn (.func f) [] cs) (hat : FnAt P f)
  (hit : ∀ l, DoesB (LoopB l p assign body slots) P f (.fn (.yield l) [] [] :: cs) σ (fun _ τ => τ = σ')) (k : Q .normal ⟨slots, σ'⟩) : Ev P (.rangeFunc g #[p] assign body) ⟨slots, σ⟩ Q := by
 intro w0 G0 σ0 W0 G a w hx hr
 refine (wpIn_wide (n := 1)).1 (wpIn_rangeFunc fun fn _ => ?_)
 obtain ⟨fn', c', hf, hb, hn⟩ := hat
 have hgv := get_rel w hr.2.1 g
 rw [hg] at hgv
 obtain ⟨vs, hev, hvs⟩ : ∃ vs : List Value, a.eval g = .func (.func f) #[] vs.toArray ∧ RelL G σ w cs vs := by
  generalize a.eval g = vg at hgv
  cases hgv with
  | fn _ _ _ us vs h1 _ h3 h4 =>
   have e1 : us = [] := List.length_eq_zero_iff.1 h1
   subst e1
   exact ⟨vs, rfl, h3, h4⟩
 obtain ⟨rec, hrec⟩ : ∃ rec : Loop, rec = { state := .ready, pending := none, fn, tmps := a.tmps, params := #[p], assign, body, defers := w.heap.size } := ⟨_, rfl⟩
 obtain ⟨S1, E1⟩ := hr.2.2.new (.deferred (some [])) (.dfr 0) (by simp)
 obtain ⟨S2, E2⟩ := S1.new (.loop rec) (.dfr 0) (by simp)
 rw [World.size_alloc] at S2 E2
 obtain ⟨G2, hG2⟩ : ∃ G2 : Gh, G2 = { { G with own := updN G.own w.heap.size (.dfr 0) } with own := updN (updN G.own w.heap.size (.dfr 0)) (w.heap.size + 1) (.dfr 0) } := ⟨_, rfl⟩
 obtain ⟨W1, hW1⟩ : ∃ W1, W1 = (w.alloc (.deferred (some []))).alloc (.loop rec) := ⟨_, rfl⟩
 rw [← hW1] at S2 E2
 have E12 := E1.trans E2
 have hG2' : G2 = { own := updN (updN G.own w.heap.size (.dfr 0)) (w.heap.size + 1) (.dfr 0), rowV := G.rowV, boxB := G.boxB, mapB := G.mapB } := hG2
 simp only at S2 E12
 rw [← hG2'] at S2 E12
 have ol : G2.own (w.heap.size + 1) = .dfr 0 := by rw [hG2]; simp
 have or : G2.own w.heap.size = .dfr 0 := by rw [hG2]; simp [updN]
 have hL1 : W1.heap[w.heap.size + 1]? = some (.loop rec) := by
  rw [hW1]; have := World.alloc_heap_new (w.alloc (.deferred (some []))) (.loop rec); rwa [World.size_alloc] at this
 have hK1 : W1.heap[w.heap.size]? = some (.deferred (some [])) := by
  rw [hW1]; exact (Below.heap_alloc _ _ _ (by simp)).trans (World.alloc_heap_new w _)
 have hB : LoopB (w.heap.size + 1) p assign body slots G2 σ W1 := ⟨rec, 0, hL1, by rw [hrec], by rw [hrec], by rw [hrec], by rw [hrec], by rw [hrec], ol, by rw [hrec]; exact hr.2.1.ext E12⟩
 refine ⟨w.heap.size + 1, [{ target := .collected w.heap.size, args := #[] }], W1, { target := .fn (.func f) vs.toArray, args := #[.func (.yield (w.heap.size + 1)) #[] #[]] }, W1, f,
  #[.func (.yield (w.heap.size + 1)) #[] #[]] ++ vs.toArray, W1, ?_, ?_, fun _ _ => trivial, ?_, fun h => by simp [Fence.wide] at h, ?_⟩
 ·rw [hW1, hrec]; exact run_enterLoop_outer _ _ _ _ _
 ·simp only [resolve, hev]
  simp [go_sem]
 ·simp only [invoke, callFunc, Sem.run_bind, run_program, Result.andThen_ok, hf, Sem.run_ite]
  simp [hn, hb]
 ·refine callsIn_wide.2 (Calls.mono (hit (w.heap.size + 1) w0 G2 _ W1 hB S2 ?_) ?_)
  ·have h1 : RelV G2 σ W1 (.fn (.yield (w.heap.size + 1)) [] []) (.func (.yield (w.heap.size + 1)) #[] #[]) := .fn (.yield (w.heap.size + 1)) [] [] [] [] rfl (by simp) rfl (by simp)
   simpa using RelL.cons h1 (hvs.ext E12)
  ·rintro e w3 ⟨v, r, τ, G3, rfl, rfl, S3, E3, _⟩
   obtain ⟨o3, h3⟩ := E3.dfr _ ol
   obtain ⟨q3, g3⟩ := E3.dfr _ or
   have hl3 : w3.heap[w.heap.size + 1]? = some (.loop rec) := h3.trans hL1
   have hk3 : w3.heap[w.heap.size]? = some (.deferred (some [])) := g3.trans hK1
   refine ⟨rec.pending, _, run_endLoop hl3 (by rw [hrec]; simp), ?_⟩
   have hpn : rec.pending = none := by rw [hrec]
   rw [hpn]
   have oth : ∀ (o : Obj) k, k ≠ w.heap.size + 1 → (w3.putObj (w.heap.size + 1) o).heap[k]? = w3.heap[k]? := fun o k hk => World.putObj_heap_other hk
   have hfree : ∀ j, w.heap.size ≤ j → G.own j = .free := fun j hj => by
    cases hq : G.own j with
    | free => rfl
    | _ => have := hr.2.2.lt j (by rw [hq]; simp); omega
   have hw0 : w0.heap.size ≤ w.heap.size + 1 := by have := hr.2.2.below.size; omega
   have hX := hx.trans (E12.trans E3)
   have hc : ∀ o : Obj, Chg w0 G3 G3 w3 (w3.putObj (w.heap.size + 1) o) := fun o =>
    ⟨fun k k1 k2 => ⟨rfl, oth o k (fun e => k2 0 (e ▸ o3))⟩, fun k h => ⟨h, fun h => h⟩, rfl, rfl, rfl, ⟨rfl, rfl, rfl, Nat.le_of_eq World.putObj_size.symm, fun k hk => oth o k (by omega)⟩⟩
   refine ⟨⟨slots, τ⟩, G3, k, ⟨?_, ((hr.2.1.ext E12).ext E3).chg (hc _), S3.chg (hc _) (Nat.le_of_eq World.putObj_size.symm)⟩, hX.past (oth _) (fun h => ?_) (fun j h => ?_)⟩
   ·have hD := (hr.1.ext (E12.trans E3)).other hl3 (oth (.loop { rec with state := .exhausted, pending := none }))
    refine ⟨List.nodup_append.2 ⟨by simp, hr.1.1, ?_⟩, ?_⟩
    ·intro d hd d' hd' e
     simp only [List.mem_singleton] at hd
     subst hd; subst e
     obtain ⟨r', e', o', _⟩ := hr.1.2 _ hd'
     have e2 : w.heap.size = r' := by injection e' with e' _; injection e'
     rw [← e2, hfree _ (Nat.le_refl _)] at o'; cases o'
    ·intro d hd
     rcases List.mem_append.1 hd with hd | hd
     ·simp only [List.mem_singleton] at hd
      exact ⟨w.heap.size, hd, q3, (oth _ _ (by omega)).trans hk3⟩
     ·exact hD.2 d hd
   ·have := (hx.imm _ h).1; rw [hfree _ (by omega)] at this; cases this
   ·have := (hx.dfr _ h).1; rw [hfree _ (by omega)] at this; cases this
end
/-! ### the short rules -/
section
variable {P : Program} {T : TypeId → TI} {F : Fence} {n : Nat} {B : Grd} {Q : Exit → St → Prop} {dsts : List (Option Tmp)} {l l1 l2 rest : List Oper} {slots slots1 : List DV} {σ σ1 : Store}
def EvDI (F : Fence) (n : Nat) (B : Grd) (P : Program) (dsts : List (Option Tmp)) (l : List Oper) (slots : List DV) (σ : Store) (Q : Exit → St → Prop) : Prop :=
 ∀ ops : Array Oper, ops.toList.map (·.dst) = dsts → EvLI F n B P ops l ⟨slots, σ⟩ Q
def noDefer (l : List Oper) : Bool := l.all fun o => match o.op with | .defer _ => false | _ => true
theorem noDefer_spec (h : noDefer l = true) : ∀ o ∈ l, ∀ c, o.op ≠ .defer c := by
 intro o ho c hc
 have := List.all_eq_true.1 h o ho
 rw [hc] at this
 cases this
theorem wide_wide : WideF Fence.wide := .inl rfl
theorem wide_round (l : Nat) : WideF (Fence.wide.inRound l) := .inr ⟨l, rfl⟩
theorem EvI_reg {id : Nat} (h : EvDI F n B P dsts l slots σ Q) (hd : l.map (·.dst) = dsts := by simp only [List.map_cons, List.map_nil]; exact rfl) : EvI F n B P (.region id l.toArray false) ⟨slots, σ⟩ Q :=
 EvI_region (h _ (by simpa using hd))
theorem EvDI_cut (hF : WideF F) (k : Nat) (h : EvD P dsts l1 slots σ (Then fun s' => EvDI F n B P dsts l2 s'.slots s'.σ Q))
  (h1 : l.take k = l1 := by simp only [List.take_succ_cons, List.take_zero]; exact rfl) (h2 : l.drop k = l2 := by simp only [List.drop_succ_cons, List.drop_zero]; exact rfl) (hd : noDefer l1 = true := by rfl) : EvDI F n B P dsts l slots σ Q := by
 intro ops ho
 subst h1; subst h2
 exact EvLI_leaf hF (List.take_append_drop k l).symm (noDefer_spec hd) (h ops ho) (fun s' hk => hk ops ho)
theorem EvDI_all (hF : WideF F) (h : EvD P dsts l slots σ (Then fun s' => Q .normal s')) (hd : noDefer l = true := by rfl) : EvDI F n B P dsts l slots σ Q :=
 fun ops ho => EvLI_leaf hF (List.append_nil l).symm (noDefer_spec hd) (h ops ho) (fun _ hk => EvLI_nil hk)
theorem EvDI_yield {k : Nat} {p : Tmp} {assign body : Code} {own : List DV} {y x : Operand} {ats : Array TypeId} {dst : Option Tmp} {ty : TypeId} {pos : String} {af : Array Edge} {d : DV} {S' : Store}
  (hR : RoundD P p assign body own d σ S') (q : EvDI Fence.wide n (LoopB k p assign body own) P dsts rest slots1 S' Q)
  (hy : get slots y = .fn (.yield k) [] [] := by rfl) (hd : Le (get slots x) d := by first | exact Le.refl _ | exact Le.sl _) (hs : putS slots dst (.bool true) = slots1 := by simp only [putS, List.set_cons_succ, List.set_cons_zero]; exact rfl) :
  EvDI Fence.wide n (LoopB k p assign body own) P dsts (⟨dst, .call ⟨.value y, #[x], ats⟩, ty, pos, af, none⟩ :: rest) slots σ Q := by
 intro ops ho
 refine EvLI_yield (s := ⟨slots, σ⟩) hy hd hR ?_
 subst hs
 have := q ops ho
 cases dst <;> exact this
theorem EvI_weak {c : Code} {t : List DV} (hle : LeL slots t) (h : EvI F n B P c ⟨t, σ⟩ Q) : EvI F n B P c ⟨slots, σ⟩ Q :=
 fun w0 G0 σ0 W0 G a w hB hx hr => h w0 G0 σ0 W0 G a w hB hx ⟨hr.1, hle _ _ _ _ hr.2.1, hr.2.2⟩
theorem EvI_lp {c : Code} (S : Nat → List DV) (st : Nat → Store) (m : Nat) (h0 : LeL slots (S 0)) (hσ : σ = st 0) (h : ∀ i, i ≤ m → EvI F n B P c ⟨S i, st i⟩ (fun e s' => match e with
  | .normal => i < m ∧ LeL s'.slots (S (i + 1)) ∧ s'.σ = st (i + 1)
  | e => Q e s')) : EvI F n B P (.loop c) ⟨slots, σ⟩ Q := by
 subst hσ
 refine EvI_weak h0 ?_
 refine EvI_loop (fun i => ⟨S i, st i⟩) m fun i hi => ?_
 intro w0 G0 σ0 W0 G a w hB hx hr
 refine wpIn_mono (h i hi w0 G0 σ0 W0 G a w hB hx hr) ?_
 rintro e a' w' ⟨s', G', hq, hr', hx'⟩
 cases e with
 | normal =>
  obtain ⟨q1, q2, q3⟩ := hq
  refine ⟨⟨S (i + 1), st (i + 1)⟩, G', ⟨q1, rfl⟩, ?_, ?_⟩
  ·rw [← q3]; exact ⟨hr'.1, q2 _ _ _ _ hr'.2.1, hr'.2.2⟩
  ·rw [← q3]; exact hx'
 | _ => exact ⟨s', G', hq, hr', hx'⟩
theorem RetQ_none {T : TypeId → TI} {R : DV → Store → Prop} {s : St} (h : R (.tup []) s.σ) : RetQ T [] R .normal s := ⟨True, .tup [], rfl, trivial, h⟩
end
end Go.Val
end
