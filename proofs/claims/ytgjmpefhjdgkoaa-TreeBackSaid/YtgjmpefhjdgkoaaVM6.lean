/- What a function hands back that is new, under the next numbers; what was there may have been written. Contracts for what hands back what is new, and for what writes a variable of its caller's; the rules. Functions that are handed a function: what it says of each thing. Regions that draw their order and make variables that nothing orders: their numbers are those of the text. Texts' octets laid out in a region that draws its order: one step of such a region, where a block that is only read gets its mark. Regions that draw their order, lay out texts' octets, and make variables that nothing orders. Drawn regions that write two variables, and read others. -/
import Derived.Test.YtgjmpefhjdgkoaaVM5
section
namespace Go.Val
open Go.RowKit
set_option linter.unusedSimpArgs false
set_option linter.unusedVariables false

mutual
def DV.ren (p q s : Nat → Nat) : DV → DV
 | .row i l => .row (p i) l
 | .ptr b o => .ptr (q b) o
 | .rp i l j o => .rp (p i) l j o
 | .mp i => .mp (s i)
 | .it i => .it (s i)
 | .cm a b => .cm a b
 | .agg cs => .agg (rens p q s cs)
 | .tup cs => .tup (rens p q s cs)
 | .fn f fs cs => .fn f (rens p q s fs) (rens p q s cs)
 | .undef => .undef
 | .int k n => .int k n
 | .bool b => .bool b
 | .str b => .str b
 | .sl xs => .sl xs
 | .slt xs => .slt xs
 | .cp xs => .cp xs
 | .nilp => .nilp
 | .nilfn => .nilfn
def rens (p q s : Nat → Nat) : List DV → List DV
 | [] => []
 | c :: cs => c.ren p q s :: rens p q s cs
end
mutual
def DV.top (r b m : Nat) : DV → Bool
 | .row i _ => decide (i < r)
 | .ptr i _ => decide (i < b)
 | .rp i _ _ _ => decide (i < r)
 | .mp i => decide (i < m)
 | .it i => decide (i < m)
 | .cm a b => nameds 0 0 0 a && nameds 0 0 0 b
 | .agg cs => tops r b m cs
 | .tup cs => tops r b m cs
 | .fn _ fs cs => tops r b m fs && tops r b m cs
 | .sl xs => nameds 0 0 0 xs
 | .slt xs => nameds 0 0 0 xs
 | .cp xs => nameds 0 0 0 xs
 | .undef => true
 | .int _ _ => true
 | .bool _ => true
 | .str _ => true
 | .nilp => true
 | .nilfn => true
def tops (r b m : Nat) : List DV → Bool
 | [] => true
 | c :: cs => c.top r b m && tops r b m cs
end
structure Moves (G : Gh) (σ : Store) (p q s : Nat → Nat) (G2 : Gh) (σ2 : Store) (p2 q2 s2 : Nat → Nat) (r b m : Nat) : Prop where
 imm : ∀ k, G.own k = .imm → G2.own k = .imm
 rows : ∀ i, i < r → p2 i < σ2.rows.length ∧ ∀ R2, σ2.rows[p2 i]? = some (some R2) → ∃ R, σ.rows[p i]? = some (some R) ∧ R.xs.length = R2.xs.length ∧ R.st = R2.st ∧ G2.rowV (p2 i) = G.rowV (p i)
 boxes : ∀ i, i < b → q2 i < σ2.boxes.length ∧ G2.boxB (q2 i) = G.boxB (q i)
 maps : ∀ i, i < m → s2 i < σ2.maps.length ∧ G2.mapB (s2 i) = G.mapB (s i)

section
variable {P : Program} {T : TypeId → TI} {w0 : World} {G G2 : Gh} {σ σ2 : Store} {w : World} {r b m : Nat}

theorem RelV.move (hm : Moves G σ id id id G2 σ2 id id id r b m) {d : DV} {v : Value} (h : RelV G σ w d v) (hd : d.named r b m = true) : RelV G2 σ2 w d v := by
 have lst : ∀ {cs : List DV}, nameds r b m cs = true → ∀ (i : Nat) c, cs[i]? = some c → c.named r b m = true := by
  intro cs h i c hc
  exact nameds_iff.1 h c (List.mem_of_getElem? hc)
 induction h with
 | undef v => exact .undef v
 | int k n => exact .int k n
 | bool b => exact .bool b
 | str s => exact .str s
 | agg cs vs hl _ ih => simp only [DV.named] at hd; exact .agg cs vs hl (fun i c v hc hv => ih i c v hc hv (lst hd i c hc))
 | tup cs vs hl _ ih => simp only [DV.named] at hd; exact .tup cs vs hl (fun i c v hc hv => ih i c v hc hv (lst hd i c hc))
 | sl xs A n c st b o vs hn hc hA hst hmm hr ih => simp only [DV.named] at hd; rw [← nameds_flat] at hd; exact .sl xs A n c st b o vs hn hc (hA.imp (fun h => h) (fun h => ⟨h.1, hm.imm _ h.2⟩)) hst hmm (fun i d he => ih i d he (lst hd i d he))
 | slt xs A n st b o vs hn hA hst hmm hr ih => simp only [DV.named] at hd; rw [← nameds_flat] at hd; exact .slt xs A n st b o vs hn (hA.imp (fun h => h) (fun h => ⟨h.1, hm.imm _ h.2⟩)) hst hmm (fun i d he => ih i d he (lst hd i d he))
 | row id len v hid hle h =>
  simp only [DV.named, decide_eq_true_eq] at hd
  obtain ⟨h1, h2⟩ := hm.rows id hd
  exact .row id len v h1 (fun R hR => by obtain ⟨R1, e1, e2, _, _⟩ := h2 R hR; rw [← e2]; exact hle R1 e1) (fun R hR hl => by obtain ⟨R1, e1, e2, _, e4⟩ := h2 R hR; rw [h R1 e1 (by rw [e2]; exact hl)]; exact e4.symm)
 | ptr b' off hb' =>
  simp only [DV.named, decide_eq_true_eq] at hd
  obtain ⟨h1, h2⟩ := hm.boxes b' hd
  simp only [_root_.id] at h1 h2
  rw [← h2]; exact .ptr b' off h1
 | cp cs b o vs him hmm hr ih => simp only [DV.named] at hd; exact .cp cs b o vs (hm.imm _ him) hmm (fun i d he => ih i d he (lst hd i d he))
 | rp id len i off v hid hle h =>
  simp only [DV.named, decide_eq_true_eq] at hd
  obtain ⟨h1, h2⟩ := hm.rows id hd
  exact .rp id len i off v h1 (fun R hR => by obtain ⟨R1, e1, e2, _, _⟩ := h2 R hR; rw [← e2]; exact hle R1 e1) (fun R hR hl => by
   obtain ⟨R1, e1, e2, e3, e4⟩ := h2 R hR
   obtain ⟨g, n, c, k1, k2⟩ := h R1 e1 (by rw [e2]; exact hl)
   exact ⟨g, n, c, by rw [show G2.rowV id = G.rowV id from e4]; exact k1, by rw [← e3]; exact k2⟩)
 | nilp => exact .nilp
 | fn f fs cs us vs hf _ hl _ ihF ih =>
  simp only [DV.named, Bool.and_eq_true] at hd
  exact .fn f fs cs us vs hf (fun i c v hc hv => ihF i c v hc hv (lst hd.1 i c hc)) hl (fun i c v hc hv => ih i c v hc hv (lst hd.2 i c hc))
 | nilfn => exact .nilfn
 | mp id hid =>
  simp only [DV.named, decide_eq_true_eq] at hd
  obtain ⟨h1, h2⟩ := hm.maps id hd
  simp only [_root_.id] at h1 h2
  rw [← h2]; exact .mp id h1
 | it id hid =>
  simp only [DV.named, decide_eq_true_eq] at hd
  obtain ⟨h1, h2⟩ := hm.maps id hd
  simp only [_root_.id] at h1 h2
  rw [← h2]; exact .it id h1
 | cm ks vs k clock es him hh h1 h2 hk hv hb hn ihk ihv =>
  simp only [DV.named, Bool.and_eq_true] at hd
  exact .cm ks vs k clock es (hm.imm _ him) hh h1 h2 (fun i d e he hq => ihk i d e he hq (lst hd.1 i d he)) (fun i d e he hq => ihv i d e he hq (lst hd.2 i d he)) hb hn

theorem Moves.closed {p q s p2 q2 s2 : Nat → Nat} (hm : Moves G σ p q s G2 σ2 p2 q2 s2 r b m) : Moves G σ id id id G2 σ2 id id id 0 0 0 :=
 ⟨hm.imm, fun i h => absurd h (Nat.not_lt_zero i), fun i h => absurd h (Nat.not_lt_zero i), fun i h => absurd h (Nat.not_lt_zero i)⟩

theorem RelL.nil_inv {vs : List Value} (h : RelL G σ w [] vs) : vs = [] := by have := h.1; cases vs with | nil => rfl | cons _ _ => simp at this
theorem RelL.cons_inv {c : DV} {cs : List DV} {vs : List Value} (h : RelL G σ w (c :: cs) vs) : ∃ v us, vs = v :: us ∧ RelV G σ w c v ∧ RelL G σ w cs us := by
 cases vs with
 | nil => have := h.1; simp at this
 | cons v us => exact ⟨v, us, rfl, h.2 0 c v rfl rfl, ⟨by simpa using h.1, fun i d u hd hu => h.2 (i + 1) d u (by simpa using hd) (by simpa using hu)⟩⟩

mutual
theorem RelV.ren {p q s p2 q2 s2 : Nat → Nat} (hm : Moves G σ p q s G2 σ2 p2 q2 s2 r b m) : ∀ (d : DV) (v : Value), d.top r b m = true → RelV G σ w (d.ren p q s) v → RelV G2 σ2 w (d.ren p2 q2 s2) v
 | .row i len, v, hd, h => by
  simp only [DV.top, decide_eq_true_eq] at hd
  simp only [DV.ren] at h ⊢
  obtain ⟨h1, h2⟩ := hm.rows i hd
  cases h with
  | row _ _ _ hid hle h => exact .row _ _ _ h1 (fun R hR => by obtain ⟨R1, e1, e2, _, _⟩ := h2 R hR; rw [← e2]; exact hle R1 e1) (fun R hR hl => by obtain ⟨R1, e1, e2, _, e4⟩ := h2 R hR; rw [h R1 e1 (by rw [e2]; exact hl)]; exact e4.symm)
 | .rp i len j off, v, hd, h => by
  simp only [DV.top, decide_eq_true_eq] at hd
  simp only [DV.ren] at h ⊢
  obtain ⟨h1, h2⟩ := hm.rows i hd
  cases h with
  | rp _ _ _ _ _ hid hle h =>
   exact .rp _ _ _ _ _ h1 (fun R hR => by obtain ⟨R1, e1, e2, _, _⟩ := h2 R hR; rw [← e2]; exact hle R1 e1) (fun R hR hl => by
    obtain ⟨R1, e1, e2, e3, e4⟩ := h2 R hR
    obtain ⟨g, n, c, k1, k2⟩ := h R1 e1 (by rw [e2]; exact hl)
    exact ⟨g, n, c, by rw [e4]; exact k1, by rw [← e3]; exact k2⟩)
 | .ptr i off, v, hd, h => by
  simp only [DV.top, decide_eq_true_eq] at hd
  simp only [DV.ren] at h ⊢
  obtain ⟨h1, h2⟩ := hm.boxes i hd
  cases h with
  | ptr _ _ hb => rw [← h2]; exact .ptr _ _ h1
 | .mp i, v, hd, h => by
  simp only [DV.top, decide_eq_true_eq] at hd
  simp only [DV.ren] at h ⊢
  obtain ⟨h1, h2⟩ := hm.maps i hd
  cases h with
  | mp _ hb => rw [← h2]; exact .mp _ h1
 | .it i, v, hd, h => by
  simp only [DV.top, decide_eq_true_eq] at hd
  simp only [DV.ren] at h ⊢
  obtain ⟨h1, h2⟩ := hm.maps i hd
  cases h with
  | it _ hb => rw [← h2]; exact .it _ h1
 | .cm a b, v, hd, h => by simp only [DV.ren] at h ⊢; exact h.move hm.closed (by simpa only [DV.top, DV.named] using hd)
 | .agg cs, v, hd, h => by
  simp only [DV.top] at hd
  simp only [DV.ren] at h ⊢
  cases h with
  | agg _ vs hl h => have := RelL.ren hm cs vs hd ⟨hl, h⟩; exact .agg _ _ this.1 this.2
 | .tup cs, v, hd, h => by
  simp only [DV.top] at hd
  simp only [DV.ren] at h ⊢
  cases h with
  | tup _ vs hl h => have := RelL.ren hm cs vs hd ⟨hl, h⟩; exact .tup _ _ this.1 this.2
 | .fn f fs cs, v, hd, h => by
  simp only [DV.top, Bool.and_eq_true] at hd
  simp only [DV.ren] at h ⊢
  cases h with
  | fn _ _ _ us vs h1 h2 h3 h4 =>
   have k1 := RelL.ren hm fs us hd.1 ⟨h1, h2⟩
   have k2 := RelL.ren hm cs vs hd.2 ⟨h3, h4⟩
   exact .fn _ _ _ _ _ k1.1 k1.2 k2.1 k2.2
 | .sl xs, v, hd, h => by simp only [DV.ren] at h ⊢; exact h.move hm.closed (by simpa only [DV.top, DV.named] using hd)
 | .slt xs, v, hd, h => by simp only [DV.ren] at h ⊢; exact h.move hm.closed (by simpa only [DV.top, DV.named] using hd)
 | .cp xs, v, hd, h => by simp only [DV.ren] at h ⊢; exact h.move hm.closed (by simpa only [DV.top, DV.named] using hd)
 | .undef, v, _, _ => .undef v
 | .int _ _, v, _, h => by simp only [DV.ren] at h ⊢; cases h; exact .int _ _
 | .bool _, v, _, h => by simp only [DV.ren] at h ⊢; cases h; exact .bool _
 | .str _, v, _, h => by simp only [DV.ren] at h ⊢; cases h; exact .str _
 | .nilp, v, _, h => by simp only [DV.ren] at h ⊢; cases h; exact .nilp
 | .nilfn, v, _, h => by simp only [DV.ren] at h ⊢; cases h; exact .nilfn
theorem RelL.ren {p q s p2 q2 s2 : Nat → Nat} (hm : Moves G σ p q s G2 σ2 p2 q2 s2 r b m) : ∀ (cs : List DV) (vs : List Value), tops r b m cs = true → RelL G σ w (rens p q s cs) vs → RelL G2 σ2 w (rens p2 q2 s2 cs) vs
 | [], vs, _, h => by simp only [rens] at h ⊢; rw [h.nil_inv]; exact .nil
 | c :: cs, vs, hd, h => by
  simp only [tops, Bool.and_eq_true] at hd
  simp only [rens] at h ⊢
  obtain ⟨v, us, rfl, h1, h2⟩ := h.cons_inv
  exact .cons (RelV.ren hm c v hd.1 h1) (RelL.ren hm cs us hd.2 h2)
end
theorem RelL.move (hm : Moves G σ id id id G2 σ2 id id id r b m) {cs : List DV} {vs : List Value} (h : RelL G σ w cs vs) (hd : nameds r b m cs = true) : RelL G2 σ2 w cs vs :=
 ⟨h.1, fun i c v hc hv => (h.2 i c v hc hv).move hm (nameds_iff.1 hd c (List.mem_of_getElem? hc))⟩

structure Kept (n : Nat) (k : Nat) (l : List Nat) : Prop where
 len : l.length = k
 nd : l.Nodup
 ge : ∀ i ∈ l, n ≤ i
def oldN (n : Nat) (l : List Nat) (j : Nat) : Nat := if j < n then j else l.getD (j - n) 0
def newN (n : Nat) (l : List Nat) (i : Nat) : Option Nat := if i < n then some i else if i ∈ l then some (n + l.idxOf i) else none
theorem newN_old {n : Nat} {l : List Nat} (hge : ∀ i ∈ l, n ≤ i) (hnd : l.Nodup) {j : Nat} (hj : j < n + l.length) : newN n l (oldN n l j) = some j := by
 by_cases h : j < n
 ·unfold oldN newN; rw [if_pos h, if_pos h]
 ·unfold oldN newN
  rw [if_neg h]
  have hlt : j - n < l.length := by omega
  have hx : l.getD (j - n) 0 = l[j - n] := by rw [List.getD_eq_getElem?_getD, List.getElem?_eq_getElem hlt]; rfl
  have hm : l[j - n] ∈ l := List.getElem_mem hlt
  rw [hx, if_neg (by have := hge _ hm; omega), if_pos hm, hnd.idxOf_getElem]
  congr 1; omega
def newO (n : Nat) (l : List Nat) (mk : Nat → Owner) (i : Nat) : Owner := match newN n l i with | some j => mk j | none => .free
def reO (nr : Nat) (kr : List Nat) (nb : Nat) (kb : List Nat) (nm : Nat) (km : List Nat) : Owner → Owner
 | .row i => newO nr kr .row i
 | .box i => newO nb kb .box i
 | .map i => newO nm km .map i
 | .imm => .imm
 | .dfr n => .dfr n
 | .free => .free

def RX (σ τ : Store) (d : DV) (rs : List Row) (bs : List Box) (ms : List (List (DV × DV))) : DV → Store → Prop := fun r σ' =>
 ∃ kr kb km, Kept σ.rows.length rs.length kr ∧ Kept σ.boxes.length bs.length kb ∧ Kept σ.maps.length ms.length km ∧
  r = d.ren (kr.getD · 0) (kb.getD · 0) (km.getD · 0) ∧
  (∀ j R, rs[j]? = some R → σ'.rows[kr.getD j 0]? = some (some R)) ∧ (∀ j B, bs[j]? = some B → σ'.boxes[kb.getD j 0]? = some (some B)) ∧ (∀ j M, ms[j]? = some M → σ'.maps[km.getD j 0]? = some (some M)) ∧ Grew τ σ'
def Store.plus (τ : Store) (rs : List Row) (bs : List Box) (ms : List (List (DV × DV))) : Store := ⟨τ.rows ++ rs.map some, τ.boxes ++ bs.map some, τ.maps ++ ms.map some⟩
structure Wrote (σ τ : Store) : Prop where
 rl : τ.rows.length = σ.rows.length
 bl : τ.boxes.length = σ.boxes.length
 ml : τ.maps.length = σ.maps.length
 rows : ∀ (i : Nat) R, τ.rows[i]? = some (some R) → σ.rows[i]? = some (some R) ∨ nameds σ.rows.length σ.boxes.length σ.maps.length R.xs = true
 boxes : ∀ (i : Nat) B, τ.boxes[i]? = some (some B) → ∀ c ∈ B.cs, c.named 0 0 0 = true ∨ ∃ (i0 : Nat) (B0 : Box), σ.boxes[i0]? = some (some B0) ∧ c ∈ B0.cs
 maps : ∀ (i : Nat) M, τ.maps[i]? = some (some M) → σ.maps[i]? = some (some M) ∨ ∀ p ∈ M, p.1.named σ.rows.length σ.boxes.length σ.maps.length = true ∧ p.2.named σ.rows.length σ.boxes.length σ.maps.length = true
theorem Wrote.refl (σ : Store) : Wrote σ σ := ⟨rfl, rfl, rfl, fun _ _ h => .inl h, fun i B h c hc => .inr ⟨i, B, h, hc⟩, fun _ _ h => .inl h⟩

theorem plus_get {α : Type} {A : List (Option α)} {rs : List α} {j : Nat} {R : α} (h : (A ++ rs.map some)[j]? = some (some R)) :
  (j < A.length ∧ A[j]? = some (some R)) ∨ (A.length ≤ j ∧ rs[j - A.length]? = some R) := by
 rcases Nat.lt_or_ge j A.length with hj | hj
 ·rw [List.getElem?_append_left hj] at h; exact .inl ⟨hj, h⟩
 ·rw [List.getElem?_append_right hj, List.getElem?_map] at h
  refine .inr ⟨hj, ?_⟩
  cases hq : rs[j - A.length]? with
  | none => rw [hq] at h; simp at h
  | some x => rw [hq] at h; simpa using h
theorem oldN_lt {n : Nat} {l : List Nat} {j : Nat} (h : j < n) : oldN n l j = j := by unfold oldN; rw [if_pos h]
theorem oldN_ge {n : Nat} {l : List Nat} (j : Nat) : oldN n l (n + j) = l.getD j 0 := by unfold oldN; rw [if_neg (by omega), Nat.add_sub_cancel_left]

theorem Does.fx {f : FuncId} {args : List DV} {τ : Store} {d : DV} {rs : List Row} {bs : List Box} {ms : List (List (DV × DV))}
  (hd : d.top rs.length bs.length ms.length = true) (hrs : ∀ R ∈ rs, nameds 0 0 0 R.xs = true) (hbs : ∀ B ∈ bs, nameds 0 0 0 B.cs = true) (hms : ∀ M ∈ ms, ∀ p ∈ M, p.1.named 0 0 0 = true ∧ p.2.named 0 0 0 = true)
  (hτ : Wrote σ τ) (h : Does P f args σ (RX σ τ d rs bs ms)) :
  Does P f args σ (one (d.ren (σ.rows.length + ·) (σ.boxes.length + ·) (σ.maps.length + ·)) (τ.plus rs bs ms)) := by
 intro w0 G vs w hS hr
 refine (h w0 G vs w hS hr).mono ?_
 rintro ed w' ⟨v, r, σ', G', he, ⟨kr, kb, km, Kr, Kb, Km, hrd, gr, gb, gm, hg⟩, hS', hE, hv⟩
 obtain ⟨lr, nr, er⟩ := Kr
 obtain ⟨lb, nb, eb⟩ := Kb
 obtain ⟨lm, nm, em⟩ := Km
 subst hrd
 obtain ⟨⟨ra, hra⟩, ⟨ba, hba⟩, ⟨ma, hma⟩⟩ := hg
 have hns := hS.names
 let G2 : Gh := { own := fun k => reO σ.rows.length kr σ.boxes.length kb σ.maps.length km (G'.own k), rowV := fun j => G'.rowV (oldN σ.rows.length kr j), boxB := fun j => G'.boxB (oldN σ.boxes.length kb j), mapB := fun j => G'.mapB (oldN σ.maps.length km j) }
 have hown : ∀ k, G2.own k = reO σ.rows.length kr σ.boxes.length kb σ.maps.length km (G'.own k) := fun _ => rfl
 have himm : ∀ k, G'.own k = .imm → G2.own k = .imm := fun k hk => by rw [hown, hk]; rfl
 have hfree : ∀ k, G2.own k ≠ .free → G'.own k ≠ .free := fun k hk hf => hk (by rw [hown, hf]; rfl)
 have himm2 : ∀ k, G2.own k ≠ .imm → G'.own k ≠ .imm := fun k hk hf => hk (himm k hf)
 -- the old thing of each new number
 have oR : ∀ (j : Nat) (R : Row), (τ.plus rs bs ms).rows[j]? = some (some R) → σ'.rows[oldN σ.rows.length kr j]? = some (some R) ∧ j < σ.rows.length + kr.length := by
  intro j R hj
  rcases plus_get hj with ⟨h1, h2⟩ | ⟨h1, h2⟩
  ·rw [hτ.rl] at h1
   rw [oldN_lt h1, hra, List.getElem?_append_left (by rw [hτ.rl]; exact h1)]
   exact ⟨h2, by omega⟩
  ·rw [hτ.rl] at h1 h2
   have := gr _ _ h2
   rw [show j = σ.rows.length + (j - σ.rows.length) by omega, oldN_ge]
   exact ⟨this, by have := (List.getElem?_eq_some_iff.1 h2).1; omega⟩
 have oB : ∀ (j : Nat) (R : Box), (τ.plus rs bs ms).boxes[j]? = some (some R) → σ'.boxes[oldN σ.boxes.length kb j]? = some (some R) ∧ j < σ.boxes.length + kb.length := by
  intro j R hj
  rcases plus_get hj with ⟨h1, h2⟩ | ⟨h1, h2⟩
  ·rw [hτ.bl] at h1
   rw [oldN_lt h1, hba, List.getElem?_append_left (by rw [hτ.bl]; exact h1)]
   exact ⟨h2, by omega⟩
  ·rw [hτ.bl] at h1 h2
   have := gb _ _ h2
   rw [show j = σ.boxes.length + (j - σ.boxes.length) by omega, oldN_ge]
   exact ⟨this, by have := (List.getElem?_eq_some_iff.1 h2).1; omega⟩
 have oM : ∀ (j : Nat) (R : List (DV × DV)), (τ.plus rs bs ms).maps[j]? = some (some R) → σ'.maps[oldN σ.maps.length km j]? = some (some R) ∧ j < σ.maps.length + km.length := by
  intro j R hj
  rcases plus_get hj with ⟨h1, h2⟩ | ⟨h1, h2⟩
  ·rw [hτ.ml] at h1
   rw [oldN_lt h1, hma, List.getElem?_append_left (by rw [hτ.ml]; exact h1)]
   exact ⟨h2, by omega⟩
  ·rw [hτ.ml] at h1 h2
   have := gm _ _ h2
   rw [show j = σ.maps.length + (j - σ.maps.length) by omega, oldN_ge]
   exact ⟨this, by have := (List.getElem?_eq_some_iff.1 h2).1; omega⟩
 -- what was there moves as it is
 have mv : Moves G' σ' id id id G2 (τ.plus rs bs ms) id id id σ.rows.length σ.boxes.length σ.maps.length := by
  refine ⟨himm, fun i hi => ⟨by simp only [Store.plus, _root_.id, List.length_append, hτ.rl]; omega, fun R2 hR2 => ?_⟩, fun i hi => ⟨by simp only [Store.plus, _root_.id, List.length_append, hτ.bl]; omega, ?_⟩, fun i hi => ⟨by simp only [Store.plus, _root_.id, List.length_append, hτ.ml]; omega, ?_⟩⟩
  ·have := (oR _ _ hR2).1
   simp only [_root_.id] at this ⊢
   rw [oldN_lt hi] at this
   exact ⟨R2, this, rfl, rfl, by show G'.rowV _ = _; rw [oldN_lt hi]⟩
  ·show G'.boxB _ = _; simp only [_root_.id]; rw [oldN_lt hi]
  ·show G'.mapB _ = _; simp only [_root_.id]; rw [oldN_lt hi]
 have mvd : Moves G' σ' (kr.getD · 0) (kb.getD · 0) (km.getD · 0) G2 (τ.plus rs bs ms) (σ.rows.length + ·) (σ.boxes.length + ·) (σ.maps.length + ·) rs.length bs.length ms.length := by
  refine ⟨himm, fun i hi => ⟨by simp only [Store.plus, List.length_append, List.length_map, hτ.rl]; omega, fun R2 hR2 => ?_⟩, fun i hi => ⟨by simp only [Store.plus, List.length_append, List.length_map, hτ.bl]; omega, ?_⟩, fun i hi => ⟨by simp only [Store.plus, List.length_append, List.length_map, hτ.ml]; omega, ?_⟩⟩
  ·have := (oR _ _ hR2).1
   rw [oldN_ge] at this
   exact ⟨R2, this, rfl, rfl, by show G'.rowV _ = _; rw [oldN_ge]⟩
  ·show G'.boxB _ = _; rw [oldN_ge]
  ·show G'.mapB _ = _; rw [oldN_ge]
 have cn : ∀ {xs : List DV}, nameds 0 0 0 xs = true → nameds σ.rows.length σ.boxes.length σ.maps.length xs = true := fun h => nameds_mono (Nat.zero_le _) (Nat.zero_le _) (Nat.zero_le _) _ h
 have cn1 : ∀ {x : DV}, x.named 0 0 0 = true → x.named σ.rows.length σ.boxes.length σ.maps.length = true := fun h => named_mono (Nat.zero_le _) (Nat.zero_le _) (Nat.zero_le _) _ h
 have nR : ∀ (j : Nat) (R : Row), (τ.plus rs bs ms).rows[j]? = some (some R) → nameds σ.rows.length σ.boxes.length σ.maps.length R.xs = true := by
  intro j R hj
  rcases plus_get hj with ⟨h1, h2⟩ | ⟨h1, h2⟩
  ·rcases hτ.rows j R h2 with h3 | h3
   ·exact hns.rows j R h3
   ·exact h3
  ·exact cn (hrs R (List.mem_of_getElem? h2))
 have nB : ∀ (j : Nat) (B : Box), (τ.plus rs bs ms).boxes[j]? = some (some B) → nameds σ.rows.length σ.boxes.length σ.maps.length B.cs = true := by
  intro j R hj
  rcases plus_get hj with ⟨h1, h2⟩ | ⟨h1, h2⟩
  ·rw [nameds_iff]
   intro c hc
   rcases hτ.boxes j R h2 c hc with h3 | ⟨i0, B0, h3, h4⟩
   ·exact cn1 h3
   ·exact nameds_iff.1 (hns.boxes i0 B0 h3) c h4
  ·exact cn (hbs R (List.mem_of_getElem? h2))
 have nM : ∀ (j : Nat) (M : List (DV × DV)), (τ.plus rs bs ms).maps[j]? = some (some M) → ∀ p ∈ M, p.1.named σ.rows.length σ.boxes.length σ.maps.length = true ∧ p.2.named σ.rows.length σ.boxes.length σ.maps.length = true := by
  intro j R hj
  rcases plus_get hj with ⟨h1, h2⟩ | ⟨h1, h2⟩
  ·rcases hτ.maps j R h2 with h3 | h3
   ·exact hns.maps j R h3
   ·exact h3
  ·exact fun p hp => ⟨cn1 (hms R (List.mem_of_getElem? h2) p hp).1, cn1 (hms R (List.mem_of_getElem? h2) p hp).2⟩
 refine ⟨v, _, _, G2, he, ⟨rfl, rfl⟩, ⟨hS'.below, fun k hk => hS'.lt k (hfree k hk), fun k hk hi => hS'.trk k (hfree k hk) (himm2 k hi), fun j R hj => ?_, fun j B hj => ?_, fun j M hj => ?_⟩, ?_, ?_⟩
 ·obtain ⟨h1, h2⟩ := oR j R hj
  have hn := nR j R hj
  obtain ⟨h0, hall, A, n, c, hA, hn', hc, hr2⟩ := hS'.rows _ _ h1
  refine ⟨h0, hall, A, n, c, hA, hn', hc, hr2.imp (fun h => h) (fun ⟨g, arr, fr, a1, a2, a3, a4, a5, a6⟩ => ⟨g, arr, fr, a1, ?_, a3, a4, a5, fun i d u hd hu => (a6 i d u hd hu).move mv ?_⟩)⟩
  ·rw [hown, a2]; simp only [reO, newO, newN_old er nr h2]
  ·rw [← nameds_flat] at hn; exact nameds_iff.1 hn d (List.mem_of_getElem? hd)
 ·obtain ⟨h1, h2⟩ := oB j B hj
  obtain ⟨a0, arr, a1, a2⟩ := hS'.boxes _ _ h1
  refine ⟨?_, arr, a1, a2.move mv (nB j B hj)⟩
  show G2.own (G'.boxB _) = _
  rw [hown, a0]; simp only [reO, newO, newN_old eb nb h2]
 ·obtain ⟨h1, h2⟩ := oM j M hj
  have hn := nM j M hj
  obtain ⟨a0, a⟩ := hS'.maps _ _ h1
  refine ⟨?_, a.imp ?_ ?_⟩
  ·show G2.own (G'.mapB _) = _
   rw [hown, a0]; simp only [reO, newO, newN_old em nm h2]
  ·rintro ⟨g0, es, clock, a1, a2, a3, a4⟩
   exact ⟨g0, es, clock, a1, a2, fun i e p he hp => ⟨(a3 i e p he hp).1.move mv (hn p (List.mem_of_getElem? hp)).1, (a3 i e p he hp).2.move mv (hn p (List.mem_of_getElem? hp)).2⟩, a4⟩
  ·rintro ⟨ks, vs, is, k, es, clock, since, last, seen, h1, h2, h3⟩
   exact ⟨ks, vs, is, k, es, clock, since, last, seen, h1, h2.move mv (hn (.nilfn, .cm ks vs) (by rw [h1]; simp [iterL])).2, h3⟩
 ·refine ⟨fun k hk => ⟨himm k (hE.imm k hk).1, (hE.imm k hk).2⟩, by simp only [Store.plus, List.length_append, hτ.rl]; omega, by simp only [Store.plus, List.length_append, hτ.bl]; omega, by simp only [Store.plus, List.length_append, hτ.ml]; omega, fun id R' hid hR' => ?_, fun i hi => ?_, fun i hi => ?_, fun k hk => ⟨by rw [hown, (hE.dfr k hk).1]; rfl, (hE.dfr k hk).2⟩⟩
  ·have := (oR _ _ hR').1
   rw [oldN_lt hid] at this
   obtain ⟨R, b1, b2, b3, b4⟩ := hE.rowV id R' hid this
   exact ⟨R, b1, b2, b3, fun hl => by show G'.rowV _ = _; rw [oldN_lt hid]; exact b4 hl⟩
  ·show G'.boxB _ = _; rw [oldN_lt hi]; exact hE.boxB i hi
  ·show G'.mapB _ = _; rw [oldN_lt hi]; exact hE.mapB i hi
 ·exact RelV.ren mvd d v hd hv
end
end Go.Val
end

section
namespace Go.Val
open Go.RowKit
set_option linter.unusedSimpArgs false
set_option linter.unusedVariables false

class ConT (P : Program) (f : FuncId) (args : List DV) (C : outParam Prop) (d : outParam DV) (rs : outParam (List Row)) (bs : outParam (List Box)) (ms : outParam (List (List (DV × DV)))) : Prop where
 ok : C → ∀ σ : Store, Does P f args σ (one (d.ren (σ.rows.length + ·) (σ.boxes.length + ·) (σ.maps.length + ·)) (σ.plus rs bs ms))
class ConP (P : Program) (f : FuncId) (args : List DV) (ty : TypeId) (cs : List DV) (C : outParam Prop) (d : outParam DV) (cs' : outParam (List DV)) (rs : outParam (List Row)) (bs : outParam (List Box)) (ms : outParam (List (List (DV × DV)))) : Prop where
 ok : C → ∀ (σ : Store) (b : Nat), σ.boxes[b]? = some (some ⟨ty, cs⟩) → Does P f (.ptr b 0 :: args) σ (one (d.ren (σ.rows.length + ·) (σ.boxes.length + ·) (σ.maps.length + ·)) ((⟨σ.rows, σ.boxes.set b (some ⟨ty, cs'⟩), σ.maps⟩ : Store).plus rs bs ms))

section
variable {P : Program} {T : TypeId → TI} {dsts : List (Option Tmp)} {l rest : List Oper} {slots slots' : List DV} {σ σ' : Store} {Q : Exit → St → Prop} {dst : Option Tmp}

def EvB (P : Program) (f : FuncId) (args : List DV) (b : Nat) (ty : TypeId) (cs : List DV) (t : Option Tmp) (dsts : List (Option Tmp)) (rest : List Oper) (slots : List DV) (σ : Store) (Q : Exit → St → Prop) : Prop :=
 σ.boxes[b]? = some (some ⟨ty, cs⟩) → EvC P f (.ptr b 0 :: args) t dsts rest slots σ Q
/-! ### bodies -/
theorem FxT.go (hT : TOK P T) {f : FuncId} {fn : Func} {c : Code} {args : List DV} {d : DV} {rs : List Row} {bs : List Box} {ms : List (List (DV × DV))} {rv : List ResultVar} {n : Nat} (slots : List DV) (hf : P.funcs[f]? = some fn)
  (h : ∀ σ : Store, Ev P c ⟨slots, σ⟩ (RetQ T rv (RX σ σ d rs bs ms))) (hb : fn.body = some c := by rfl) (hn : fn.ntmps = n := by rfl) (hr : fn.results.toList = rv := by exact rfl)
  (hs : args ++ List.replicate (n - args.length) .undef = slots := by rfl)
  (hd : d.top rs.length bs.length ms.length = true := by first | rfl | (simp [DV.top, tops, nameds, DV.named, bytes_named, go_sem]; done))
  (hrs : ∀ R ∈ rs, nameds 0 0 0 R.xs = true := by first | (simp [nameds, DV.named, bytes_named, go_sem]; done) | skip)
  (hbs : ∀ B ∈ bs, nameds 0 0 0 B.cs = true := by first | (simp [nameds, DV.named, bytes_named, go_sem]; done) | skip)
  (hms : ∀ M ∈ ms, ∀ p ∈ M, p.1.named 0 0 0 = true ∧ p.2.named 0 0 0 = true := by first | (simp [nameds, DV.named, bytes_named, go_sem]; done) | skip) :
  ∀ σ : Store, Does P f args σ (one (d.ren (σ.rows.length + ·) (σ.boxes.length + ·) (σ.maps.length + ·)) (σ.plus rs bs ms)) :=
 fun σ => Does.fx hd hrs hbs hms (Wrote.refl σ) (Does_body hT hf hb (by rw [hn, hs, hr]; exact h σ))
theorem FxP.go (hT : TOK P T) {f : FuncId} {fn : Func} {c : Code} {args : List DV} {ty : TypeId} {cs cs' : List DV} {d : DV} {rs : List Row} {bs : List Box} {ms : List (List (DV × DV))} {rv : List ResultVar} {n : Nat} (slots : Nat → List DV) (hf : P.funcs[f]? = some fn)
  (h : ∀ (σ : Store) (b : Nat), b < σ.boxes.length → σ.boxes[b]? = some (some ⟨ty, cs⟩) → Ev P c ⟨slots b, σ⟩ (RetQ T rv (RX σ ⟨σ.rows, σ.boxes.set b (some ⟨ty, cs'⟩), σ.maps⟩ d rs bs ms))) (hb : fn.body = some c := by rfl) (hn : fn.ntmps = n := by rfl) (hr : fn.results.toList = rv := by exact rfl)
  (hs : ∀ b, (.ptr b 0 :: args) ++ List.replicate (n - (args.length + 1)) .undef = slots b := by intro b; rfl)
  (hcs : ∀ c ∈ cs', c.named 0 0 0 = true ∨ c ∈ cs := by (repeat (refine List.forall_mem_cons.2 ⟨by first | (left; rfl) | (right; simp; done) | (left; simp [DV.named, nameds, bytes_named]; done), ?_⟩)); exact fun _ h => nomatch h)
  (hd : d.top rs.length bs.length ms.length = true := by first | rfl | (simp [DV.top, tops, nameds, DV.named, bytes_named, go_sem]; done))
  (hrs : ∀ R ∈ rs, nameds 0 0 0 R.xs = true := by first | (simp [nameds, DV.named, bytes_named, go_sem]; done) | skip)
  (hbs : ∀ B ∈ bs, nameds 0 0 0 B.cs = true := by first | (simp [nameds, DV.named, bytes_named, go_sem]; done) | skip)
  (hms : ∀ M ∈ ms, ∀ p ∈ M, p.1.named 0 0 0 = true ∧ p.2.named 0 0 0 = true := by first | (simp [nameds, DV.named, bytes_named, go_sem]; done) | skip) :
  ∀ (σ : Store) (b : Nat), σ.boxes[b]? = some (some ⟨ty, cs⟩) → Does P f (.ptr b 0 :: args) σ (one (d.ren (σ.rows.length + ·) (σ.boxes.length + ·) (σ.maps.length + ·)) ((⟨σ.rows, σ.boxes.set b (some ⟨ty, cs'⟩), σ.maps⟩ : Store).plus rs bs ms)) := by
 intro σ b hB
 have hlt := (List.getElem?_eq_some_iff.1 hB).1
 refine Does.fx hd hrs hbs hms ⟨rfl, by simp, rfl, fun _ _ h => .inl h, fun i B hi c hc => ?_, fun _ _ h => .inl h⟩ (Does_body hT (args := .ptr b 0 :: args) hf hb (by rw [hn, hr]; have := hs b; simp only [List.length_cons]; rw [this]; exact h σ b hlt hB))
 by_cases hib : b = i
 ·subst hib
  simp only at hi
  rw [List.getElem?_set_self hlt] at hi
  simp only [Option.some.injEq] at hi
  subst hi
  rcases hcs c hc with h1 | h1
  ·exact .inl h1
  ·exact .inr ⟨b, _, hB, h1⟩
 ·simp only at hi
  rw [List.getElem?_set_ne hib] at hi
  exact .inr ⟨i, B, hi, hc⟩

/-! ### returning -/
variable {rv : List ResultVar} {C : Prop} {d r : DV} {σ0 τ : Store}
end
attribute [go_sem] DV.ren rens
end Go.Val
end

section
namespace Go.Val
open Go.RowKit
set_option linter.unusedSimpArgs false
set_option linter.unusedVariables false

class PredC (P : Program) (g : FuncId) (fs cs : List DV) (dom : outParam (DV → Prop)) (p : outParam (DV → Bool)) : Prop where
 fn : FnAt P g
 ok : ∀ x, dom x → Pure P g (fs ++ [x] ++ cs) (.bool (p x))
 nm : nameds 0 0 0 fs = true ∧ nameds 0 0 0 cs = true
theorem PredC.of {P : Program} {g : FuncId} {fs cs : List DV} {dom : DV → Prop} {p : DV → Bool} (fn : FnAt P g) (ok : ∀ x, dom x → Pure P g (fs ++ [x] ++ cs) (.bool (p x))) (nm : nameds 0 0 0 fs = true ∧ nameds 0 0 0 cs = true := by first | exact ⟨rfl, rfl⟩ | (simp [nameds, DV.named, bytes_named, go_sem]; done)) : PredC P g fs cs dom p := ⟨fn, ok, nm⟩
theorem PredC.fnc {P : Program} {g : FuncId} {fs cs : List DV} {dom : DV → Prop} {p : DV → Bool} (h : PredC P g fs cs dom p) : FnC P g := ⟨h.fn⟩
theorem PredC.con {P : Program} {g : FuncId} {fs cs : List DV} {dom : DV → Prop} {p : DV → Bool} (h : PredC P g fs cs dom p) (x : DV) : Con P g (fs ++ (x :: cs)) (dom x) (.bool (p x)) :=
 ⟨fun hd => by have := h.ok x hd; simpa using this⟩
theorem fi_lt {p : DV → Bool} {xs : List DV} {i : Nat} (h : i < xs.findIdx p) : p (xs.getD i .undef) = false := by
 have hl : i < xs.length := Nat.lt_of_lt_of_le h List.findIdx_le_length
 have := List.not_of_lt_findIdx h
 rw [List.getD_eq_getElem?_getD, List.getElem?_eq_getElem hl]
 simpa using this
theorem fi_eq {p : DV → Bool} {xs : List DV} (h : xs.findIdx p < xs.length) : p (xs.getD (xs.findIdx p) .undef) = true := by
 rw [List.getD_eq_getElem?_getD, List.getElem?_eq_getElem h]
 exact List.findIdx_getElem (w := h)
def idxI (p : DV → Bool) (xs : List DV) : Int := if xs.findIdx p < xs.length then (xs.findIdx p : Nat) else -1
theorem idxI_any (p : DV → Bool) (xs : List DV) : decide (0 ≤ idxI p xs) = xs.any p := by
 unfold idxI
 by_cases h : xs.findIdx p < xs.length
 ·rw [if_pos h]
  have : xs.any p = true := by rw [List.any_eq_true]; exact ⟨_, List.getElem_mem h, List.findIdx_getElem (w := h)⟩
  rw [this]; simp
 ·rw [if_neg h]
  have : xs.any p = false := by
   rw [List.any_eq_false]
   intro x hx
   have e : xs.findIdx p = xs.length := Nat.le_antisymm List.findIdx_le_length (Nat.le_of_not_lt h)
   rw [List.findIdx_eq_length] at e
   simp [e x hx]
  rw [this]; simp
theorem getD_mem {xs : List DV} {i : Nat} (h : i < xs.length) : xs.getD i .undef ∈ xs := by
 rw [List.getD_eq_getElem?_getD, List.getElem?_eq_getElem h]; exact List.getElem_mem h
theorem PureOwn.pure {P : Program} {f : FuncId} {args xs : List DV} {e : TypeId} {st : Nat} (h : PureOwn P f args xs e st) (hn : nameds 0 0 0 xs = true) : Pure P f args (.sl xs) := by
 refine Pure.of2 (by simpa only [DV.named] using hn) (fun σ => (h σ).mono ?_)
 rintro r σ' ⟨rfl, rfl⟩
 refine ⟨.row σ.rows.length ⟨xs, e, st⟩ (Nat.le_refl _) (by simp) ?_, ⟨⟨_, rfl⟩, ⟨[], (List.append_nil _).symm⟩, ⟨[], (List.append_nil _).symm⟩⟩⟩
 have : frzA σ.rows.length xs (.row σ.rows.length xs.length) = .sl xs := by simp [frzA]
 rw [this]
 exact .done
section
variable {slots : List DV} {σ : Store} {Q : Exit → St → Prop} {s : Nat → List DV} {st : Nat → Store} {n i : Nat} {Rb R R' rg : List (Option Row)} {A B B' bg : List (Option Box)} {Mb M M' mg : List (Option (List (DV × DV)))}
theorem Q_rndC (hle : LeL slots (s (i + 1))) (hi : i < n) (h0 : st i = ⟨Rb ++ R, A ++ B, Mb ++ M⟩) (h1 : st (i + 1) = ⟨Rb ++ R', A ++ B', Mb ++ M'⟩) (hr : σ.rows = Rb ++ (R' ++ rg)) (hb : σ.boxes = A ++ (B' ++ bg)) (hm : σ.maps = Mb ++ (M' ++ mg))
  (l1 : R.length ≤ R'.length) (l2 : B.length ≤ B'.length) (l3 : M.length ≤ M'.length) (hn : nameds (Rb ++ R').length (A ++ B').length (Mb ++ M').length (s (i + 1)) = true)
  (hR : ∀ x ∈ R', ∀ b, x = some b → nameds (Rb ++ R').length (A ++ B').length (Mb ++ M').length b.xs = true)
  (hB : ∀ x ∈ B', ∀ b, x = some b → nameds (Rb ++ R').length (A ++ B').length (Mb ++ M').length b.cs = true)
  (hM : ∀ x ∈ M', ∀ b, x = some b → ∀ p ∈ b, p.1.named (Rb ++ R').length (A ++ B').length (Mb ++ M').length = true ∧ p.2.named (Rb ++ R').length (A ++ B').length (Mb ++ M').length = true) :
  RoundG s st n i Q .normal ⟨slots, σ⟩ := by
 refine Q_rndG hi ⟨hle, ?_, ?_, ?_, ?_⟩
 ·rw [h1]; exact ⟨⟨rg, by rw [hr, List.append_assoc]⟩, ⟨bg, by rw [hb, List.append_assoc]⟩, ⟨mg, by rw [hm, List.append_assoc]⟩⟩
 ·rw [h0, h1]; simp; omega
 ·rw [h1]; exact hn
 ·rw [h0, h1]
  refine ⟨fun id R0 h => ?_, fun id b h => ?_, fun id b h => ?_⟩
  ·simp only at h ⊢
   rcases Nat.lt_or_ge id Rb.length with hlt | hge
   ·rw [List.getElem?_append_left hlt] at h ⊢
    exact .inl h
   ·rw [List.getElem?_append_right hge] at h
    exact .inr (hR _ (List.mem_of_getElem? h) R0 rfl)
  ·simp only at h ⊢
   rcases Nat.lt_or_ge id A.length with hlt | hge
   ·rw [List.getElem?_append_left hlt] at h ⊢
    exact .inl h
   ·rw [List.getElem?_append_right hge] at h
    exact .inr (hB _ (List.mem_of_getElem? h) b rfl)
  ·simp only at h ⊢
   rcases Nat.lt_or_ge id Mb.length with hlt | hge
   ·rw [List.getElem?_append_left hlt] at h ⊢
    exact .inl h
   ·rw [List.getElem?_append_right hge] at h
    exact .inr (hM _ (List.mem_of_getElem? h) b rfl)
def rowInB : List (Option Box) → Option (Nat × Nat)
 | [] => none
 | none :: l => rowInB l
 | some b :: l => match rowInL b.cs with
  | some p => some p
  | none => rowInB l
theorem allN_nil {α : Type} (p : α → Prop) : ∀ x ∈ ([] : List (Option α)), ∀ b, x = some b → p b := by simp
theorem allN_none {α : Type} {p : α → Prop} {l : List (Option α)} (h : ∀ x ∈ l, ∀ b, x = some b → p b) : ∀ x ∈ none :: l, ∀ b, x = some b → p b := by
 intro x hx b hb
 rcases List.mem_cons.1 hx with rfl | hx
 ·cases hb
 ·exact h x hx b hb
theorem allN_some {α : Type} {p : α → Prop} {a : α} {l : List (Option α)} (ha : p a) (h : ∀ x ∈ l, ∀ b, x = some b → p b) : ∀ x ∈ some a :: l, ∀ b, x = some b → p b := by
 intro x hx b hb
 rcases List.mem_cons.1 hx with rfl | hx
 ·cases hb; exact ha
 ·exact h x hx b hb
end
end Go.Val
end

section
namespace Go.Val
open Go.RowKit
set_option linter.unusedSimpArgs false
set_option linter.unusedVariables false

structure Cre where
  at_ : Nat
  tmp : Tmp
  ty : TypeId
  deriving DecidableEq
def boxOf (T : TypeId → TI) (c : Cre) : Option Box := some ⟨c.ty, (ofVal (T c.ty).zero).cells⟩
def isCre (cs : List Cre) (i : Nat) : Bool := cs.any fun c => c.at_ == i
def creT (cs : List Cre) (t : Tmp) : Option Nat := cs.findIdx? fun c => c.tmp == t
def pat (cs : List Cre) (n0 : Nat) (s : List DV) : List DV := s.mapIdx fun t x => match creT cs t with | some i => .ptr (n0 + i) 0 | none => x

def DrwC (P : Program) (E : Store → Prop) (ops : Array Oper) : List Oper → List Bool → List Bool → List DV → Store → (List DV → Store → Prop) → Prop
  | [], _, _, s, σ, K => E σ ∧ K s σ
  | o :: l, f, g, s, σ, K => E σ ∧
      ((g.headD false = true ∧ DrwC P E ops l f.tail g.tail s σ K)
      ∨ (g.headD false = false ∧ wantedD ops s o = some false ∧ f.headD false = false ∧ DrwC P E ops l f.tail g.tail (St.put ⟨s, σ⟩ o.dst (.tup [])).slots σ K)
      ∨ (g.headD false = false ∧ wantedD ops s o = some true ∧ f.headD false = false ∧ ∃ d, Stable P E ops s o d ∧ DrwC P E ops l f.tail g.tail (St.put ⟨s, σ⟩ o.dst d).slots σ K)
      ∨ (g.headD false = false ∧ wantedD ops s o = some true ∧ f.headD false = true ∧ ∃ d σ', StableE P ops s σ o d σ' ∧ DrwC P E ops l f.tail g.tail (St.put ⟨s, σ⟩ o.dst d).slots σ' K))

def keepAt : List Oper → List Bool → List Oper
  | [], _ => []
  | o :: l, g => if g.headD false then keepAt l g.tail else o :: keepAt l g.tail
def keepF : List Oper → List Bool → List Bool → List Bool
  | [], _, _ => []
  | _ :: l, f, g => if g.headD false then keepF l f.tail g.tail else f.headD false :: keepF l f.tail g.tail
theorem DrwC.of {P : Program} {E : Store → Prop} {ops : Array Oper} {K : List DV → Store → Prop} : ∀ {l : List Oper} {f g : List Bool} {s : List DV} {σ : Store},
    E σ → Drw P E ops (keepAt l g) (keepF l f g) s σ K → DrwC P E ops l f g s σ K
  | [], _, _, _, _, _, h => h
  | o :: l, f, g, s, σ, hE, h => by
    unfold keepAt keepF at h
    cases hg : g.headD false with
    | true =>
      rw [hg] at h
      exact ⟨hE, .inl ⟨hg, DrwC.of hE h⟩⟩
    | false =>
      rw [hg] at h
      simp only [Bool.false_eq_true, if_false] at h
      obtain ⟨_, h⟩ := h
      refine ⟨hE, .inr ?_⟩
      rcases h with ⟨h1, h2, h3⟩ | ⟨h1, h2, d, h3, h4⟩ | ⟨h1, h2, d, σ', h3, h4⟩
      · exact .inl ⟨hg, h1, h2, DrwC.of hE h3⟩
      · exact .inr (.inl ⟨hg, h1, h2, d, h3, DrwC.of hE h4⟩)
      · refine .inr (.inr ⟨hg, h1, h2, d, σ', h3, DrwC.of ?_ h4⟩)
        have : ∀ {l : List Oper} {f : List Bool} {s : List DV} {σ : Store}, Drw P E ops l f s σ K → E σ := by
          intro l f s σ h; cases l <;> exact h.1
        exact this h4
theorem DrwC.steps {P : Program} {E : Store → Prop} {ops : Array Oper} {K : List DV → Store → Prop} : ∀ {l : List Oper} {f g : List Bool} {s : List DV} {σ : Store}, DrwC P E ops l f g s σ K →
    ∃ (ss : Nat → List DV) (st : Nat → Store) (d : Nat → DV), ss 0 = s ∧ st 0 = σ ∧ K (ss l.length) (st l.length) ∧ (∀ i, i ≤ l.length → E (st i)) ∧
      ∀ i o, l[i]? = some o → (g.getD i false = true → ss (i + 1) = ss i ∧ st (i + 1) = st i ∧ d i = .undef) ∧ (g.getD i false = false → StepAt P E ops f i o (ss i) (st i) (d i) (st (i + 1)) ∧ ss (i + 1) = putS (ss i) o.dst (d i)) := by
  intro l
  induction l with
  | nil => intro f g s σ h; exact ⟨fun _ => s, fun _ => σ, fun _ => .undef, rfl, rfl, h.2, fun _ _ => h.1, fun i o h => by simp at h⟩
  | cons o l ih =>
    intro f g s σ h
    obtain ⟨hE, h⟩ := h
    have h0f : f.getD 0 false = f.headD false := by cases f <;> rfl
    have h0g : g.getD 0 false = g.headD false := by cases g <;> rfl
    have fin : ∀ (d0 : DV) (s1 : List DV) (σ1 : Store), (g.getD 0 false = true → s1 = s ∧ σ1 = σ ∧ d0 = .undef) → (g.getD 0 false = false → StepAt P E ops f 0 o s σ d0 σ1 ∧ s1 = putS s o.dst d0) → DrwC P E ops l f.tail g.tail s1 σ1 K →
        ∃ (ss : Nat → List DV) (st : Nat → Store) (d : Nat → DV), ss 0 = s ∧ st 0 = σ ∧ K (ss (o :: l).length) (st (o :: l).length) ∧ (∀ i, i ≤ (o :: l).length → E (st i)) ∧
          ∀ i p, (o :: l)[i]? = some p → (g.getD i false = true → ss (i + 1) = ss i ∧ st (i + 1) = st i ∧ d i = .undef) ∧ (g.getD i false = false → StepAt P E ops f i p (ss i) (st i) (d i) (st (i + 1)) ∧ ss (i + 1) = putS (ss i) p.dst (d i)) := by
      intro d0 s1 σ1 h0 h0' h1
      obtain ⟨ss, st, d, e1, e2, e3, e4, e5⟩ := ih h1
      refine ⟨fun i => match i with | 0 => s | i + 1 => ss i, fun i => match i with | 0 => σ | i + 1 => st i, fun i => match i with | 0 => d0 | i + 1 => d i, rfl, rfl, e3, fun i hi => ?_, fun i p hp => ?_⟩
      · cases i with
        | zero => exact hE
        | succ i => exact e4 i (by simpa using hi)
      · cases i with
        | zero =>
          simp only [List.getElem?_cons_zero, Option.some.injEq] at hp
          subst hp
          simp only [e1, e2]
          exact ⟨h0, h0'⟩
        | succ i =>
          simp only [List.getElem?_cons_succ] at hp
          have := e5 i p hp
          simp only
          rw [show g.getD (i + 1) false = g.tail.getD i false by cases g <;> simp]
          refine ⟨this.1, fun hg => ?_⟩
          have h := this.2 hg
          refine ⟨?_, h.2⟩
          have h := h.1
          unfold StepAt at h ⊢
          rw [show f.getD (i + 1) false = f.tail.getD i false by cases f <;> simp]
          exact h
    rcases h with ⟨hg, h1⟩ | ⟨hg, h1, h2, h3⟩ | ⟨hg, h1, h2, d, h3, h4⟩ | ⟨hg, h1, h2, d, σ', h3, h4⟩
    · exact fin .undef s σ (fun _ => ⟨rfl, rfl, rfl⟩) (fun h => by rw [h0g, hg] at h; cases h) h1
    · rw [putS_eq] at h3; exact fin (.tup []) _ σ (fun h => by rw [h0g, hg] at h; cases h) (fun _ => ⟨.inl ⟨h1, by rw [h0f, h2], rfl, rfl⟩, rfl⟩) h3
    · rw [putS_eq] at h4; exact fin d _ σ (fun h => by rw [h0g, hg] at h; cases h) (fun _ => ⟨.inr (.inl ⟨h1, by rw [h0f, h2], rfl, h3⟩), rfl⟩) h4
    · rw [putS_eq] at h4; exact fin d _ σ' (fun h => by rw [h0g, hg] at h; cases h) (fun _ => ⟨.inr (.inr ⟨h1, by rw [h0f, h2], h3⟩), rfl⟩) h4

section
variable {P : Program} {T : TypeId → TI} {l : List Oper} {f g : List Bool} {cs : List Cre} {n0 : Nat}

def adoptG (G : Gh) (n0 k : Nat) (gb : Nat → Nat) : Gh :=
  { G with own := fun x => match (List.range k).find? (fun i => gb i == x) with | some i => .box (n0 + i) | none => G.own x,
           boxB := fun id => if n0 ≤ id ∧ id < n0 + k then gb (id - n0) else G.boxB id }
def boxC (T : TypeId → TI) (c : Cre) : Box := ⟨c.ty, (ofVal (T c.ty).zero).cells⟩
def creOK (l : List Oper) (f g : List Bool) (cs : List Cre) : Bool :=
  (cs.all fun c => (match l[c.at_]? with
    | some o => (match o.op with | .alloc e => e == c.ty | _ => false) && o.dst == some c.tmp && o.guard.isNone
    | none => false) && !f.getD c.at_ false) && decide ((cs.map (·.at_)).Nodup) && decide ((cs.map (·.tmp)).Nodup) && decide (g.length ≤ l.length) &&
  (let cl := closB l
   (List.range l.length).all fun j => match l[j]? with
    | none => true
    | some o => (g.getD j false == isCre cs j) && (isCre cs j ||
        ((match o.dst with | some t => (creT cs t).isNone | none => true) &&
          (!(f.getD j false || (o.looksAt l.toArray).any fun t => (creT cs t).isSome) || cs.all fun c => (cl.getD j 0).testBit c.at_))))
end
/-! ### the short rule -/
def setsC : List Cre → Nat → List DV → List DV
  | [], _, s => s
  | c :: cs, n, s => setsC cs (n + 1) (s.set c.tmp (.ptr n 0))
def maskF : List Bool → List Bool → List Bool
  | [], _ => []
  | b :: f, g => (b && !g.headD false) :: maskF f g.tail
section
variable {P : Program} {T : TypeId → TI} {dsts : List (Option Tmp)} {l l' : List Oper} {s s' : List DV} {σ : Store} {Q : Exit → St → Prop} {bs : List (Option Box)}
end
end Go.Val
end

section
namespace Go.Val
open Go.RowKit
set_option linter.unusedSimpArgs false
set_option linter.unusedVariables false

structure Refr (b : Nat) (w w' : World) : Prop where
 os : w'.os = w.os
 tape : w'.tape = w.tape
 output : w'.output = w.output
 size : w'.heap.size = w.heap.size
 other : ∀ k, k ≠ b → w'.heap[k]? = w.heap[k]?
 cells : ∃ C e fr fr', w.heap[b]? = some (.cells C e fr) ∧ w'.heap[b]? = some (.cells C e fr')
section
variable {w0 : World} {G : Gh} {σ : Store} {w w' : World} {b : Nat}
theorem Refr.cell (h : Refr b w w') (a : Addr) : w'.cell? a = w.cell? a := by
 simp only [World.cell?]
 by_cases e : a.block = b
 ·obtain ⟨C, e', fr, fr', h1, h2⟩ := h.cells
  rw [e, h1, h2]
 ·rw [h.other _ e]
theorem Refr.map {k : Nat} {es : Array MapEntry} {c : Nat} (h : Refr b w w') (hk : w.heap[k]? = some (.map es c)) : w'.heap[k]? = some (.map es c) := by
 rw [h.other k ?_]
 ·exact hk
 ·rintro rfl
  obtain ⟨C, e', fr, fr', h1, h2⟩ := h.cells
  rw [hk] at h1; cases h1
end

structure Lit where
 i : Nat
 j : Nat
 t : Tmp
 ty : TypeId
 e : TypeId
 deriving DecidableEq
def fixL (lits : List Lit) (i : Nat) (o : Oper) : Oper := match lits.find? (fun x => x.j == i) with | some x => { o with op := .move (.tmp x.t) } | none => o
structure LitFacts (P : Program) (T : TypeId → TI) (l : List Oper) (f : List Bool) (lits : List Lit) : Prop where
 one : ∀ x ∈ lits, ∀ k o, l[k]? = some o → o.dst = some x.t → k = x.i
 bld : ∀ x ∈ lits, ∃ len ps o, l[x.i]? = some o ∧ o.op = .buildSlice x.ty len ps ∧ o.dst = some x.t ∧ 0 < len ∧ o.guard = none ∧ ∀ σ s, ∃ C xs, newD T σ s (.buildSlice x.ty len ps) = some (C, .slt xs) ∧ C
 cnv : ∀ x ∈ lits, ∃ o, l[x.j]? = some o ∧ o.op = .convert x.ty x.ty (.tmp x.t)
 fl : ∀ x ∈ lits, f.getD x.i false = false ∧ f.getD x.j false = false
 lt : ∀ x ∈ lits, x.i < x.j
 ty : ∀ x ∈ lits, (T x.ty).ty = .slice x.e ∧ (T x.e).ty = .int .u8

def LInv (lits : List Lit) (A : Nat → Bool) (w0 : World) (G0 G : Gh) (a : Act) (w : World) : Prop :=
 ∀ x ∈ lits, A x.i = true → ∃ b C fr n, a.tmps.toList[x.t]? = some (.slice (some ⟨b, 0, none⟩) n n) ∧ G.own b = .imm ∧ w.heap[b]? = some (.cells C x.e fr) ∧ w0.heap.size ≤ b ∧ G0.own b ≠ .imm

theorem tmps_put_ne {a : Act} {t : Option Tmp} {v : Value} {u : Tmp} (h : t ≠ some u) : (a.put t v).tmps.toList[u]? = a.tmps.toList[u]? := by
 cases t with
 | none => rfl
 | some t =>
  simp only [Act.put, Array.toList_setIfInBounds, List.getElem?_set]
  rw [if_neg (fun e => h (by rw [e]))]

section
variable {P : Program} {T : TypeId → TI} {lits : List Lit} {l : List Oper} {f : List Bool} {w0 : World} {G0 G G' : Gh} {σ σ' σ0 : Store} {a : Act} {w w' W0 : World} {A : Nat → Bool} {i : Nat} {o : Oper}

theorem LInv.ext (h : LInv lits A w0 G0 G a w) (hE : Ext G σ w G' σ' w') : LInv lits A w0 G0 G' a w' := by
 intro x hx hA
 obtain ⟨b, C, fr, n, h1, h2, h3, h4, h5⟩ := h x hx hA
 obtain ⟨e1, e2⟩ := hE.imm b h2
 exact ⟨b, C, fr, n, h1, e1, by rw [e2]; exact h3, h4, h5⟩
theorem LInv.put (h : LInv lits A w0 G0 G a w) (hF : LitFacts P T l f lits) (ho : l[i]? = some o) (hi : ∀ x ∈ lits, x.i ≠ i) (v : Value) : LInv lits (plus A i) w0 G0 G (a.put o.dst v) w := by
 intro x hx hA
 simp only [plus] at hA
 rw [if_neg (hi x hx)] at hA
 obtain ⟨b, C, fr, n, h1, h2, h3, h4, h5⟩ := h x hx hA
 refine ⟨b, C, fr, n, ?_, h2, h3, h4, h5⟩
 rw [tmps_put_ne]
 ·exact h1
 ·intro e; exact hi x hx (hF.one x hx i o ho e).symm

end
end Go.Val
end

section
namespace Go.Val
open Go.RowKit
set_option linter.unusedSimpArgs false
set_option linter.unusedVariables false

def litL (lits : List Lit) (l : List Oper) : List Oper := l.mapIdx (fixL lits)
section
variable {P : Program} {T : TypeId → TI} {l : List Oper} {f : List Bool} {lits : List Lit}
def StepL (P : Program) (E : Store → Prop) (l : List Oper) (f : List Bool) (lits : List Lit) (i : Nat) (o : Oper) (s : List DV) (σ : Store) (d : DV) (σ' : Store) : Prop :=
 (wantedD l.toArray s o = some false ∧ f.getD i false = false ∧ d = .tup [] ∧ σ' = σ) ∨
 (wantedD l.toArray s o = some true ∧ f.getD i false = false ∧ σ' = σ ∧ (∀ t n ps, (fixL lits i o).op = .buildSlice t n ps → ∃ xs, d = .slt xs ∧ xs.length = n) ∧ ∀ τ, E τ → ∀ s', agree (o.looksAt l.toArray) s s' → Quiet P τ s' (fixL lits i o) d) ∨
 (wantedD l.toArray s o = some true ∧ f.getD i false = true ∧ StableE P l.toArray s σ o d σ')
end

section
variable {P : Program} {T : TypeId → TI} {l : List Oper} {f g : List Bool} {cs : List Cre} {n0 : Nat}
end
section
variable {P : Program} {T : TypeId → TI} {dsts : List (Option Tmp)} {l l' : List Oper} {s s' : List DV} {σ : Store} {Q : Exit → St → Prop} {bs : List (Option Box)} {lits : List Lit}
def opAt (l : List Oper) (i : Nat) : Op := match l[i]? with | some o => o.op | none => .move (.const (.bool false))
def litOK (l : List Oper) (f : List Bool) (lits : List Lit) : Bool :=
 lits.all fun x =>
  (match l[x.i]? with
  | some o => (match o.op with | .buildSlice t n _ => t == x.ty && decide (0 < n) | _ => false) && o.dst == some x.t && o.guard.isNone
  | none => false) &&
  (match l[x.j]? with
  | some o => (match o.op with | .convert a b (.tmp t) => a == x.ty && b == x.ty && t == x.t | _ => false)
  | none => false) && !f.getD x.i false && !f.getD x.j false && decide (x.i < x.j) &&
  (List.range l.length).all fun k => match l[k]? with | some o => !(o.dst == some x.t) || k == x.i | none => true
def LitB (T : TypeId → TI) (l : List Oper) (lits : List Lit) : Prop := ∀ x ∈ lits, ∀ σ s, ∃ C xs, newD T σ s (opAt l x.i) = some (C, .slt xs) ∧ C
def litT : List (Option Tmp) → List Oper → List Oper
 | some t :: ms, o :: l => { o with op := .move (.tmp t) } :: litT ms l
 | none :: ms, o :: l => o :: litT ms l
 | _, l => l
def marks (lits : List Lit) (k n : Nat) : List (Option Tmp) := (List.range' k n).map fun i => (lits.find? (fun x => x.j == i)).map (·.t)
end
end Go.Val
end

section
namespace Go.Val
open Go.RowKit
set_option linter.unusedSimpArgs false
set_option linter.unusedVariables false
section
variable {P : Program} {T : TypeId → TI} {dsts : List (Option Tmp)} {l rest : List Oper} {f f' : List Bool} {s s' : List DV} {σ σ' : Store} {K : List DV → Store → Prop} {Q : Exit → St → Prop}
def EW2 (B : Option Box → Option Box → List (Option Box)) : Store → Prop := fun τ => ∃ R M u v, τ = ⟨R, B u v, M⟩
end
end Go.Val
end
