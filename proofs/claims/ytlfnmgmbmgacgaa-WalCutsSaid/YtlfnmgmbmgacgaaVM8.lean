/- Drawn regions in two parts: what is read ahead of a place is asked of the stores ahead of it, what is read behind it of those behind; calls there that write a variable, or hand back what is new. Ranges over functions: a round of the loop, walked; the iterator that calls it; the loop. Pure functions that are handed own rows: they read them, and all that there is stays as it was. -/
import Derived.Test.YtlfnmgmbmgacgaaVM7
import Derived.Test.YtlfnmgmbmgacgaaVM6
import Derived.RangeFuncIn
import Derived.RangeFuncRecord
import Derived.LoopNIn
import Derived.TacticsIn
section
namespace Go.Val
open Go.RowKit
set_option linter.unusedSimpArgs false
set_option linter.unusedVariables false
section
variable {P : Program} {T : TypeId → TI} {l : List Oper} {f : List Bool}
theorem Drw.mono {E : Store → Prop} {ops : Array Oper} {K K' : List DV → Store → Prop} (hk : ∀ s τ, K s τ → K' s τ) : ∀ {l : List Oper} {f : List Bool} {s : List DV} {σ : Store}, Drw P E ops l f s σ K → Drw P E ops l f s σ K' := by
 intro l
 induction l with
 | nil => intro f s σ h; exact ⟨h.1, hk _ _ h.2⟩
 | cons o l ih =>
  intro f s σ h
  obtain ⟨hE, h⟩ := h
  refine ⟨hE, ?_⟩
  rcases h with ⟨h1, h2, h3⟩ | ⟨h1, h2, d, h3, h4⟩ | ⟨h1, h2, d, σ', h3, h4⟩
  ·exact .inl ⟨h1, h2, ih h3⟩
  ·exact .inr (.inl ⟨h1, h2, d, h3, ih h4⟩)
  ·exact .inr (.inr ⟨h1, h2, d, σ', h3, ih h4⟩)
def barr (l : List Oper) (n : Nat) : Bool :=
 let c := closB l
 (List.range l.length).all fun j => decide (j < n) || (List.range n).all fun i => (c.getD j 0).testBit i
end
section
variable {P : Program} {T : TypeId → TI} {dsts : List (Option Tmp)} {l rest : List Oper} {f f' : List Bool} {s s' : List DV} {σ σ' : Store} {K : List DV → Store → Prop} {Q : Exit → St → Prop}
 {dst : Option Tmp} {op : Op} {ty : TypeId} {pos : String} {af : Array Edge} {g : Option (Nat × Bool)} {E : Store → Prop}
theorem D_does {c : Call} {fu : FuncId} {args args' : List DV} {d : DV}
  [hfu : FnC P fu] (hF : Does P fu args' σ (one d σ')) (k : DrD P E dsts l f.tail s' σ' K)
  (h : calleeD P s c = some (fu, args) := by simp (disch := omega) only [go_sem]; with_reducible exact rfl)
  (hle : weakL args = args' := by simp only [weakL, List.map_cons, List.map_nil, weakD_slt, weakD_sl, weakD_int, weakD_bool, weakD_str, weakD_agg, weakD_row, weakD_ptr, weakD_cp, weakD_rp, weakD_nilp, weakD_fn, weakD_mp, weakD_it, weakD_cm, weakD_undef]; exact rfl)
  (hs : putS s dst d = s' := by simp only [go_sem]; exact rfl)
  (hon : onD dsts s g = some true := by simp only [go_sem] <;> fail) (hf : f.headD false = true := by rfl) (hE : E σ := by first | exact ⟨_, _, _, _, rfl⟩ | exact ⟨rfl, rfl⟩ | exact trivial | exact rfl | exact EP_app _ _ _ | exact EP_self _ | exact EP_one _ _) : DrD P E dsts (⟨dst, .call c, ty, pos, af, g⟩ :: l) f s σ K := by
 intro ops ho
 refine ⟨hE, .inr (.inr ⟨onD_wanted ho hon, hf, _, _, ?_, by rw [putS_eq, hs]; exact k ops ho⟩)⟩
 refine ⟨(fun h => by cases h), ?_⟩
 intro s1 hag
 exact Does.act (s := ⟨s1, σ⟩) rfl (by rw [calleeD_congr (agree_ops hag)]; exact h) (hle ▸ LeL_weak args) hF hfu.at_
end
end Go.Val
end

section
namespace Go.Val
open Go.RowKit
set_option linter.unusedSimpArgs false
set_option linter.unusedVariables false
section
variable {P : Program} {T : TypeId → TI} {F : Fence} {n : Nat}
def WideF (F : Fence) : Prop := F = Fence.wide ∨ ∃ l, F = Fence.wide.inRound l
theorem WideF.fn (hF : WideF F) (f : FuncId) : F.fn f := by rcases hF with rfl | ⟨l, rfl⟩ <;> trivial
theorem WideF.depth (hF : WideF F) : F.depth = none := by rcases hF with rfl | ⟨l, rfl⟩ <;> rfl
theorem WideF.calls (hF : WideF F) {f : FuncId} {args : Array Value} {w : World} {R : Ending → World → Prop} (h : Calls P f args w R) : CallsIn F n P f args w R := by
 rcases hF with rfl | ⟨l, rfl⟩
 ·exact callsIn_wide.2 h
 ·exact callsIn_wide.2 h
theorem WideF.rows (hF : WideF F) {row : String} {args : Array Value} {w : World} {R : Value → World → Prop} (h : Rows P row args w R) : RowsIn F n P row args w R := by
 intro c cs _
 obtain ⟨v, w', r, s⟩ := h c cs
 rcases hF with rfl | ⟨l, rfl⟩
 ·exact ⟨v, w', r, stepsIn_wide.2 s⟩
 ·exact ⟨v, w', r, stepsIn_wide.2 s⟩
/-! ### walks whose ground is known -/
abbrev Grd := Gh → Store → World → Prop
def EvI (F : Fence) (n : Nat) (B : Grd) (P : Program) (c : Code) (s : St) (Q : Exit → St → Prop) : Prop :=
 ∀ w0 G0 σ0 W0 G a w, B G0 σ0 W0 → Ext G0 σ0 W0 G s.σ w → RelS w0 G s a w → c.wpIn F n P (Post w0 G0 σ0 W0 Q) a w
def EvLI (F : Fence) (n : Nat) (B : Grd) (P : Program) (ops : Array Oper) (l : List Oper) (s : St) (Q : Exit → St → Prop) : Prop :=
 ∀ w0 G0 σ0 W0 G a w, B G0 σ0 W0 → Ext G0 σ0 W0 G s.σ w → RelS w0 G s a w → wpListIn F n P ops (Post w0 G0 σ0 W0 Q) l a w
def thenI (F : Fence) (n : Nat) (B : Grd) (P : Program) (y : Code) (Q : Exit → St → Prop) : Exit → St → Prop
 | .normal, s => EvI F n B P y s Q
 | e, s => Q e s
def Then (K : St → Prop) : Exit → St → Prop := fun e s => e = .normal ∧ K s
variable {B : Grd} {s : St} {Q Q' : Exit → St → Prop}
theorem EvI.mono {c : Code} (h : EvI F n B P c s Q) (hq : ∀ e s, Q e s → Q' e s) : EvI F n B P c s Q' :=
 fun w0 G0 σ0 W0 G a w hB hx hr => wpIn_mono (h w0 G0 σ0 W0 G a w hB hx hr) (fun _ _ _ hp => hp.mono hq)
/-! ### the call of yield -/
theorem Dfs.other {G : Gh} {w w' : World} {l : Nat} {rec : Loop} (hl : w.heap[l]? = some (.loop rec)) (ho : ∀ k, k ≠ l → w'.heap[k]? = w.heap[k]?) {ds : List Deferred} (h : Dfs G w ds) : Dfs G w' ds :=
 ⟨h.1, fun d hd => let ⟨r, h1, h2, h3⟩ := h.2 d hd; ⟨r, h1, h2, by rw [ho r (fun e => by rw [e, hl] at h3; cases h3)]; exact h3⟩⟩
def LoopB (l : Nat) (p : Tmp) (assign body : Code) (own : List DV) : Grd := fun G σ w =>
 ∃ (rec : Loop) (m : Nat), w.heap[l]? = some (.loop rec) ∧ rec.state = .ready ∧ rec.pending = none ∧ rec.assign = assign ∧ rec.body = body ∧ rec.params = #[p] ∧ G.own l = .dfr m ∧ RelL G σ w own rec.tmps.toList
theorem LoopB.up {l : Nat} {p : Tmp} {assign body : Code} {own : List DV} {G : Gh} {σ : Store} {w : World} (h : LoopB l p assign body own G σ w) : LoopB l p assign body own G.up σ w := by
 obtain ⟨rec, m, h1, h2, h3, h4, h5, h6, h7, h8⟩ := h
 exact ⟨rec, m + 1, h1, h2, h3, h4, h5, h6, show (G.own l).up = _ by rw [h7]; rfl, h8.chg (chg_up (w0 := w) G)⟩
def RoundD (P : Program) (p : Tmp) (assign body : Code) (own : List DV) (x : DV) (S S' : Store) : Prop :=
 ∀ l n, EvI (Fence.wide.inRound l) n (fun _ _ _ => True) P assign ⟨own.set p x, S⟩ (Then fun s1 => s1.σ = S ∧ EvI (Fence.wide.inRound l) n (fun _ _ _ => True) P body s1 (Then fun s => s.σ = S'))
/-! ### the iterator -/
def DoesB (B : Grd) (P : Program) (f : FuncId) (args : List DV) (σ : Store) (R : DV → Store → Prop) : Prop :=
 ∀ w0 G (vs : Array Value) w, B G σ w → StoreRel w0 G σ w → RelL G σ w args vs.toList →
  Calls P f vs w fun e w' => ∃ v r σ' G', e = .returned v ∧ R r σ' ∧ StoreRel w0 G' σ' w' ∧ Ext G σ w G' σ' w' ∧ RelV G' σ' w' r v
end
/-! ### the short rules -/
section
variable {P : Program} {T : TypeId → TI} {F : Fence} {n : Nat} {B : Grd} {Q : Exit → St → Prop} {dsts : List (Option Tmp)} {l l1 l2 rest : List Oper} {slots slots1 : List DV} {σ σ1 : Store}
def EvDI (F : Fence) (n : Nat) (B : Grd) (P : Program) (dsts : List (Option Tmp)) (l : List Oper) (slots : List DV) (σ : Store) (Q : Exit → St → Prop) : Prop :=
 ∀ ops : Array Oper, ops.toList.map (·.dst) = dsts → EvLI F n B P ops l ⟨slots, σ⟩ Q
def noDefer (l : List Oper) : Bool := l.all fun o => match o.op with | .defer _ => false | _ => true
end
end Go.Val
end

section
namespace Go.Val
open Go.RowKit
set_option linter.unusedSimpArgs false
set_option linter.unusedVariables false
inductive Plain : DV → Prop
 | int (k : IntKind) (n : Int) : Plain (.int k n)
 | bool (b : Bool) : Plain (.bool b)
 | str (s : List UInt8) : Plain (.str s)
 | agg (cs : List DV) (h : ∀ c ∈ cs, Plain c) : Plain (.agg cs)
 | tup (cs : List DV) (h : ∀ c ∈ cs, Plain c) : Plain (.tup cs)
theorem Plain.rel {G G2 : Gh} {σ σ2 : Store} {w w2 : World} {d : DV} (hp : Plain d) : ∀ {v : Value}, RelV G σ w d v → RelV G2 σ2 w2 d v := by
 induction hp with
 | int k n => intro v h; cases h; exact .int _ _
 | bool b => intro v h; cases h; exact .bool _
 | str s => intro v h; cases h; exact .str _
 | agg cs h ih =>
  intro v hv
  cases hv with
  | agg _ vs hl hr => exact .agg cs vs hl (fun i c v hc hv => ih c (List.mem_of_getElem? hc) (hr i c v hc hv))
 | tup cs h ih =>
  intro v hv
  cases hv with
  | tup _ vs hl hr => exact .tup cs vs hl (fun i c v hc hv => ih c (List.mem_of_getElem? hc) (hr i c v hc hv))
inductive Thaw (σ : Store) : DV → DV → Prop
 | same {d : DV} (h : d.named 0 0 0 = true) : Thaw σ d d
 | row {id len : Nat} {R : Row} (h : σ.rows[id]? = some (some R)) (hl : len = R.xs.length) (hn : nameds 0 0 0 R.xs = true) : Thaw σ (.row id len) (.sl R.xs)
theorem Thaw.mk {σ : Store} {id len : Nat} {xs : List DV} {e : TypeId} {st : Nat} (h : σ.rows[id]? = some (some ⟨xs, e, st⟩)) (hl : len = xs.length) (hn : nameds 0 0 0 xs = true) : Thaw σ (.row id len) (.sl xs) := Thaw.row h hl hn
inductive ThawL (σ : Store) : List DV → List DV → Prop
 | nil : ThawL σ [] []
 | cons {a b : DV} {as bs : List DV} (h : Thaw σ a b) (t : ThawL σ as bs) : ThawL σ (a :: as) (b :: bs)
section
variable {P : Program} {T : TypeId → TI} {G : Gh} {σ : Store} {w w' w0 : World}
def sealG (G : Gh) (n : Nat) : Gh := { G with own := fun k => if k < n then .imm else .free }
def noneS : Store := ⟨[], [], []⟩
theorem seal_moves (G G1 : Gh) (σ : Store) (w : World) (hlt : ∀ k, G1.own k ≠ .free → k < w.heap.size) : Moves G1 σ id id id (sealG G w.heap.size) noneS id id id 0 0 0 :=
 ⟨fun k hk => by simp only [sealG]; rw [if_pos (hlt k (by rw [hk]; simp))], fun _ h => by omega, fun _ h => by omega, fun _ h => by omega⟩
theorem Thaw.rel (hS : StoreRel w0 G σ w) {a b : DV} {v : Value} (h : Thaw σ a b) (hv : RelV G σ w a v) : RelV (sealG G w.heap.size) noneS w b v := by
 cases h with
 | same hn => exact hv.move (seal_moves G G σ w hS.lt) hn
 | row hR hl hn =>
  rename_i id len R
  subst hl
  obtain ⟨G', h1, h2, h3⟩ := hS.frzS hR
  have h4 := h3 _ _ hv
  have hfz : frz id R.xs (.row id R.xs.length) = .sl R.xs := by simp [frz]
  rw [hfz] at h4
  exact h4.move (seal_moves G G' _ w h1.lt) (by simpa only [DV.named] using hn)
theorem ThawL.rel (hS : StoreRel w0 G σ w) : ∀ {as bs : List DV} {vs : List Value}, ThawL σ as bs → RelL G σ w as vs → RelL (sealG G w.heap.size) noneS w bs vs
 | [], [], vs, _, h => by
  have : vs = [] := by have := h.1; cases vs with | nil => rfl | cons _ _ => simp at this
  subst this
  exact ⟨rfl, fun i c v hc => by simp at hc⟩
 | a :: as, b :: bs, vs, ht, h => by
  cases ht with
  | cons h1 h2 =>
   obtain ⟨v, us, rfl, hv, hu⟩ := h.cons_inv
   exact RelL.cons (Thaw.rel hS h1 hv) (ThawL.rel hS h2 hu)
theorem seal_store (hS : StoreRel w0 G σ w) : StoreRel w (sealG G w.heap.size) noneS w :=
 ⟨Below.refl _ _, fun k hk => by
  simp only [sealG] at hk
  by_cases h : k < w.heap.size
  ·exact h
  ·rw [if_neg h] at hk; exact absurd rfl hk, fun k h1 h2 => by
  simp only [sealG] at h1 h2
  by_cases h : k < w.heap.size
  ·rw [if_pos h] at h2; exact absurd rfl h2
  ·rw [if_neg h] at h1; exact absurd rfl h1, fun id R h => by simp [noneS] at h, fun id B h => by simp [noneS] at h, fun id M h => by simp [noneS] at h⟩
theorem Does.keep {f : FuncId} {args args' : List DV} {d : DV} (hF : Pure P f args d) (ht : ThawL σ args' args) (hd : Plain d) : Does P f args' σ (one d σ) := by
 intro w0 G vs w hS hr
 refine (hF noneS w (sealG G w.heap.size) vs w (seal_store hS) (ht.rel hS hr)).mono ?_
 rintro e w' ⟨v, r, σ', G', he, ⟨rfl, rfl⟩, hS', hE, hv⟩
 have hsame : ∀ k, k < w.heap.size → w'.heap[k]? = w.heap[k]? := fun k hk => (hE.imm k (by simp only [sealG]; rw [if_pos hk])).2
 have hb := hS'.below
 have hc : Chg w0 G G w w' := ⟨fun k hk _ => ⟨rfl, hsame k (hS.lt k hk)⟩, fun k hk => ⟨hk, fun h => h⟩, rfl, rfl, rfl, ⟨hb.os, hb.tape, hb.output, hb.size, fun k hk => hsame k (Nat.lt_of_lt_of_le hk hS.below.size)⟩⟩
 refine ⟨v, _, σ, G, he, ⟨rfl, rfl⟩, hS.chg hc hb.size, ⟨fun k hk => ⟨hk, hsame k (hS.lt k (by rw [hk]; simp))⟩, Nat.le_refl _, Nat.le_refl _, Nat.le_refl _, fun i R _ h => ⟨R, h, rfl, Nat.le_refl _, fun _ => rfl⟩, fun _ _ => rfl, fun _ _ => rfl, fun k hk => ⟨hk, hsame k (hS.lt k (by rw [hk]; simp))⟩⟩, hd.rel hv⟩
end
section
variable {P : Program} {T : TypeId → TI} {dsts : List (Option Tmp)} {l rest : List Oper} {f : List Bool} {s s' slots slots' : List DV} {σ : Store} {K : List DV → Store → Prop} {Q : Exit → St → Prop}
 {dst : Option Tmp} {ty : TypeId} {pos : String} {af : Array Edge} {g : Option (Nat × Bool)}
end
end Go.Val
end
