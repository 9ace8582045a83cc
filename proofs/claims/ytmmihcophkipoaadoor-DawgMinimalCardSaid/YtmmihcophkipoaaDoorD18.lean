import Derived.Test.YtmmihcophkipoaaDoorD17
import Derived.Test.YtmmihcophkipoaaDoorChain
namespace Go.Proofs.YtmmihcophkipoaaDoor
open Go.ChangeShapes Go.WideShapes Go.ChangeAt Go.RowKit
set_option linter.unusedVariables false
set_option linter.unusedSimpArgs false
/-- only the blocks of S, and new ones, may have changed -/
structure Kp (S : Nat → Prop) (w w' : World) : Prop where
  os : w'.os = w.os
  tape : w'.tape = w.tape
  output : w'.output = w.output
  size : w.heap.size ≤ w'.heap.size
  block : ∀ k, k < w.heap.size → ¬ S k → w'.heap[k]? = w.heap[k]?
theorem Kp.refl (S : Nat → Prop) (w : World) : Kp S w w := ⟨rfl, rfl, rfl, Nat.le_refl _, fun _ _ _ => rfl⟩
theorem Kp.trans {S S1 S2 : Nat → Prop} {a b c : World} (h : Kp S1 a b) (k : Kp S2 b c) (h1 : ∀ i, i < a.heap.size → S1 i → S i) (h2 : ∀ i, i < a.heap.size → S2 i → S i) : Kp S a c :=
  ⟨k.os.trans h.os, k.tape.trans h.tape, k.output.trans h.output, Nat.le_trans h.size k.size, fun i hi hs => (k.block i (Nat.lt_of_lt_of_le hi h.size) (fun e => hs (h2 i hi e))).trans (h.block i hi fun e => hs (h1 i hi e))⟩
theorem Kp.mono {S S1 : Nat → Prop} {a b : World} (h : Kp S1 a b) (h1 : ∀ i, i < a.heap.size → S1 i → S i) : Kp S a b := ⟨h.os, h.tape, h.output, h.size, fun i hi hs => h.block i hi fun e => hs (h1 i hi e)⟩
theorem Kp.of_ext {S : Nat → Prop} {w w' : World} (h : Ext w w') : Kp S w w' := ⟨h.os, h.tape, h.output, h.size, fun i hi _ => h.block i hi⟩
theorem Kp.ext {w w' : World} (h : Kp (fun _ => False) w w') : Ext w w' := ⟨h.os, h.tape, h.output, h.size, fun i hi => h.block i hi (fun e => e)⟩
theorem Kp.below {S : Nat → Prop} {B : Nat} {w w' : World} (h : Kp S w w') (hB : B ≤ w.heap.size) (hS : ∀ i, S i → B ≤ i) : Below B w w' := ⟨h.os, h.tape, h.output, h.size, fun i hi => h.block i (by omega) (fun e => by have := hS i e; omega)⟩
theorem Kp.of_grown {S : Nat → Prop} {w w' : World} {row : Option Nat} (h : w.grownBy w' row) (hS : ∀ i, some i = row → S i) : Kp S w w' := ⟨h.os, h.tape, h.output, h.size, fun i hi hs => h.block i hi fun e => hs (hS i e)⟩
theorem Kp.of_set {S : Nat → Prop} (w : World) (p : Addr) (u : Value) (hS : S p.block) : Kp S w (w.setCell p u) := by
  have hb := Below.setCell (Below.refl (min w.heap.size p.block) w) (p := p) (by omega) u
  exact ⟨hb.os, hb.tape, hb.output, hb.size, fun i hi hs => Below.heap_setCell w p u i (fun e => hs (e ▸ hS))⟩
theorem Blk.kp {S : Nat → Prop} {w w' : World} {g : Nat} {t : TypeId} {cs : Array Value} (h : Blk w g t cs) (k : Kp S w w') (hS : ¬ S g) : Blk w' g t cs := (k.block g h.lt hS).trans h
theorem Rd.kp {S : Nat → Prop} {w w' : World} {e : TypeId} {k n : Nat} {A : Option Addr} {xs : List Value} (h : Rd w e k A n xs) (he : e ≠ 0) (kp : Kp S w w') (hS : ∀ (b : Nat) cs fr, w.heap[b]? = some (.cells cs e fr) → ¬ S b) : Rd w' e k A n xs :=
  h.keep kp.size fun b hb ad _ _ hK => kp.block b hb (by
    rcases hK with h0 | ⟨cs, fr, h1⟩
    · exact absurd h0 he
    · exact hS b cs fr h1)
theorem own_kp {S : Nat → Prop} {w w' : World} {base : Nat} {e : TypeId} {k n : Nat} {v : Value} {xs : List Value} (h : w.ownsRow base e k v n xs) (kp : Kp S w w') (hS : ∀ g, v.ownBlock = some g → ¬ S g) : w'.ownsRow base e k v n xs :=
  own_keep h fun g hg hl _ => kp.block g hl (hS g hg)
theorem own_typ {w : World} {base : Nat} {e : TypeId} {k n g : Nat} {v : Value} {xs : List Value} (h : w.ownsRow base e k v n xs) (hg : v.ownBlock = some g) : (∃ cs, w.heap[g]? = some (.cells cs e (0, 0))) ∧ base ≤ g ∧ g < w.heap.size := by
  rcases h.2 with hn | ⟨g', cap, cur, rfl, hb, hgg, rest⟩
  · rw [hn.1] at hg; cases hg
  · injection hg with hg; subst hg; exact ⟨⟨cur, hgg⟩, hb, (Array.getElem?_eq_some_iff.1 hgg).1⟩
theorem own_ne {w : World} {base : Nat} {e t : TypeId} {k n g : Nat} {v : Value} {xs : List Value} {cs : Array Value} {fr : Nat × Nat} (h : w.ownsRow base e k v n xs) (hg : w.heap[g]? = some (.cells cs t fr)) (ht : t ≠ e) : v.ownBlock ≠ some g := by
  intro e1
  obtain ⟨⟨cs', h1⟩, _⟩ := own_typ h e1
  rw [hg] at h1
  injection h1 with h1
  injection h1 with _ h2
  exact ht h2
/-- a store into the row -/
theorem own_put {w : World} {base g : Nat} {e : TypeId} {k n cap : Nat} {xs : List Value} (h : w.ownsRow base e k (.slice (some ⟨g, 0, none⟩) n cap) n xs) (j : Nat) (hj : j < n * k) (u : Value) : (w.setCell ⟨g, j, none⟩ u).ownsRow base e k (.slice (some ⟨g, 0, none⟩) n cap) n (xs.set j u) := by
  refine ⟨by rw [List.length_set]; exact h.1, ?_⟩
  rcases h.2 with ⟨hn, _⟩ | ⟨g', cap', cur, hv, hb, hgg, h1, h2, h3, h4⟩
  · cases hn
  · injection hv with hv1 hv2 hv3
    injection hv1 with hv1
    injection hv1 with hv1
    subst hv1 hv3
    have hB : Blk w g e cur := hgg
    refine .inr ⟨g, cap, cur.setIfInBounds j u, rfl, hb, hB.set_ j u, h1, h2, by simpa using h3, ?_⟩
    rw [Array.toList_setIfInBounds, ← h4]
    rw [List.take_set]
/-- the lists of words of the builder -/
def Rst (w : World) (vs : List (List W)) (rcs : List Value) : Prop := ∀ i (h : i < vs.length), ∃ A c, rcs[i]? = some (.slice A vs[i].length c) ∧ Rd w 9 1 A vs[i].length (sv vs[i]) ∧ vs[i].length ≤ c ∧ c ≤ maxLen ∧ vs[i].length ≤ 1000
/-- the node of a list of words -/
def Nd (Z : Nat → Prop) (w : World) (vs : List (List W)) (l : List W) (f v : Value) : Prop := ∃ a c, f = .bool (fin l) ∧ v = .slice a (grp l).length c ∧ Rd w 49 2 a (grp l).length (acells (node vs l).2) ∧ (grp l).length ≤ c ∧ c ≤ maxLen ∧ (∀ a ∈ grp l, a.2 ∈ vs) ∧ ∀ ad, a = some ad → ad.block < w.heap.size ∧ ¬ Z ad.block
/-- the nodes of the builder, but for the open ones -/
def Nds (Z : Nat → Prop) (w : World) (vs : List (List W)) (opn : Nat → Prop) (dcs : List Value) : Prop := ∀ i (h : i < vs.length), ¬ opn i → ∃ f v, dcs[i * 2]? = some f ∧ dcs[i * 2 + 1]? = some v ∧ Nd Z w vs vs[i] f v
structure St (Z : Nat → Prop) (base x : Nat) (vs : List (List W)) (opn : Nat → Prop) (dv rv : Value) (w : World) : Prop where
  X : Blk w x 95 #[dv, rv]
  D : ∃ dcs, w.ownsRow base 44 2 dv vs.length dcs ∧ Nds Z w vs opn dcs
  R : ∃ rcs, w.ownsRow base 25 1 rv vs.length rcs ∧ Rst w vs rcs
theorem Rst.kp {S : Nat → Prop} {w w' : World} {vs : List (List W)} {rcs : List Value} (h : Rst w vs rcs) (kp : Kp S w w') (hS : ∀ (b : Nat) cs fr, w.heap[b]? = some (.cells cs 9 fr) → ¬ S b) : Rst w' vs rcs := fun i hi => by
  obtain ⟨A, c, h1, h2, h3⟩ := h i hi
  exact ⟨A, c, h1, h2.kp (by decide) kp hS, h3⟩
theorem Rd.kpa {S : Nat → Prop} {w w' : World} {e : TypeId} {k n : Nat} {A : Option Addr} {xs : List Value} (h : Rd w e k A n xs) (he : e ≠ 0) (kp : Kp S w w') (hS : ∀ ad, A = some ad → ∀ cs fr, w.heap[ad.block]? = some (.cells cs e fr) → ¬ S ad.block) : Rd w' e k A n xs :=
  h.keep kp.size fun b hb ad ha hbk hK => kp.block b hb (by
    subst hbk
    rcases hK with h0 | ⟨cs, fr, h1⟩
    · exact absurd h0 he
    · exact hS ad ha cs fr h1)
theorem Nd.kp {S Z : Nat → Prop} {w w' : World} {vs : List (List W)} {l : List W} {f v : Value} (h : Nd Z w vs l f v) (kp : Kp S w w') (hS : ∀ (b : Nat) cs fr, w.heap[b]? = some (.cells cs 49 fr) → S b → Z b) : Nd Z w' vs l f v := by
  obtain ⟨a, c, h1, h2, h3, h4, h5, h6, h7⟩ := h
  exact ⟨a, c, h1, h2, h3.kpa (by decide) kp (fun ad ha cs fr hb hs => (h7 ad ha).2 (hS _ cs fr hb hs)), h4, h5, h6, fun ad ha => ⟨Nat.lt_of_lt_of_le (h7 ad ha).1 kp.size, (h7 ad ha).2⟩⟩
theorem Nd.mono {Z Z' : Nat → Prop} {w : World} {vs : List (List W)} {l : List W} {f v : Value} (h : Nd Z w vs l f v) (hz : ∀ b, b < w.heap.size → Z' b → Z b) : Nd Z' w vs l f v := by
  obtain ⟨a, c, h1, h2, h3, h4, h5, h6, h7⟩ := h
  exact ⟨a, c, h1, h2, h3, h4, h5, h6, fun ad ha => ⟨(h7 ad ha).1, fun e => (h7 ad ha).2 (hz _ (h7 ad ha).1 e)⟩⟩
theorem Nds.kp {S Z : Nat → Prop} {w w' : World} {vs : List (List W)} {opn : Nat → Prop} {dcs : List Value} (h : Nds Z w vs opn dcs) (kp : Kp S w w') (hS : ∀ (b : Nat) cs fr, w.heap[b]? = some (.cells cs 49 fr) → S b → Z b) : Nds Z w' vs opn dcs := fun i hi ho => by
  obtain ⟨f, v, h1, h2, h3⟩ := h i hi ho
  exact ⟨f, v, h1, h2, h3.kp kp hS⟩
theorem Nds.mono {Z Z' : Nat → Prop} {w : World} {vs : List (List W)} {opn : Nat → Prop} {dcs : List Value} (h : Nds Z w vs opn dcs) (hz : ∀ b, b < w.heap.size → Z' b → Z b) : Nds Z' w vs opn dcs := fun i hi ho => by
  obtain ⟨f, v, h1, h2, h3⟩ := h i hi ho
  exact ⟨f, v, h1, h2, h3.mono hz⟩
theorem St.kp {S Z : Nat → Prop} {w w' : World} {base x : Nat} {vs : List (List W)} {opn : Nat → Prop} {dv rv : Value} (h : St Z base x vs opn dv rv w) (kp : Kp S w w') (hx : ¬ S x) (hd : ∀ g, dv.ownBlock = some g → ¬ S g) (hr : ∀ g, rv.ownBlock = some g → ¬ S g)
    (h9 : ∀ (b : Nat) cs fr, w.heap[b]? = some (.cells cs 9 fr) → ¬ S b) (h49 : ∀ (b : Nat) cs fr, w.heap[b]? = some (.cells cs 49 fr) → S b → Z b) : St Z base x vs opn dv rv w' := by
  obtain ⟨dcs, d1, d2⟩ := h.D
  obtain ⟨rcs, r1, r2⟩ := h.R
  exact ⟨h.X.kp kp hx, ⟨dcs, own_kp d1 kp hd, d2.kp kp h49⟩, ⟨rcs, own_kp r1 kp hr, r2.kp kp h9⟩⟩
theorem St.ext {Z : Nat → Prop} {w w' : World} {base x : Nat} {vs : List (List W)} {opn : Nat → Prop} {dv rv : Value} (h : St Z base x vs opn dv rv w) (hE : Ext w w') : St Z base x vs opn dv rv w' :=
  h.kp (Kp.of_ext (S := fun _ => False) hE) (fun e => e) (fun _ _ e => e) (fun _ _ e => e) (fun _ _ _ _ e => e) (fun _ _ _ _ e => e.elim)
theorem idx_app {vs us : List (List W)} {m : List W} (h : m ∈ vs) : (vs ++ us).idxOf m = vs.idxOf m := by rw [List.idxOf_append, if_pos h]
theorem node_app {vs us : List (List W)} {l : List W} (h : ∀ a ∈ grp l, a.2 ∈ vs) : node (vs ++ us) l = node vs l := by
  unfold node
  congr 1
  exact List.map_congr_left fun a ha => by rw [idx_app (h a ha)]
theorem Nd.app {Z : Nat → Prop} {w : World} {vs us : List (List W)} {l : List W} {f v : Value} (h : Nd Z w vs l f v) : Nd Z w (vs ++ us) l f v := by
  obtain ⟨a, c, h1, h2, h3, h4, h5, h6, h7⟩ := h
  exact ⟨a, c, h1, h2, by rw [node_app h6]; exact h3, h4, h5, fun a ha => List.mem_append_left _ (h6 a ha), h7⟩
theorem Rst.push {w : World} {vs : List (List W)} {rcs : List Value} {l : List W} {A : Option Addr} {c : Nat} (h : Rst w vs rcs) (hl : rcs.length = vs.length) (hr : Rd w 9 1 A l.length (sv l)) (h1 : l.length ≤ c) (h2 : c ≤ maxLen) (h3 : l.length ≤ 1000) : Rst w (vs ++ [l]) (rcs ++ [.slice A l.length c]) := fun i hi => by
  by_cases e : i < vs.length
  · obtain ⟨A', c', k1, k2⟩ := h i e
    rw [List.getElem_append_left e]
    exact ⟨A', c', by rw [List.getElem?_append_left (by omega)]; exact k1, k2⟩
  · obtain rfl : i = vs.length := by simp at hi; omega
    rw [List.getElem_append_right (by omega)]
    simp only [Nat.sub_self, List.getElem_cons_zero]
    exact ⟨A, c, by rw [List.getElem?_append_right (by omega), hl]; simp, hr, h1, h2, h3⟩
theorem Nds.push {Z : Nat → Prop} {w : World} {vs : List (List W)} {opn : Nat → Prop} {dcs : List Value} {l : List W} {a b : Value} (h : Nds Z w vs opn dcs) (hl : dcs.length = vs.length * 2) : Nds Z w (vs ++ [l]) (fun i => opn i ∨ i = vs.length) (dcs ++ [a, b]) := fun i hi ho => by
  have e : i < vs.length := by have : i ≠ vs.length := fun e => ho (.inr e); simp at hi; omega
  obtain ⟨f, v, k1, k2, k3⟩ := h i e (fun e => ho (.inl e))
  rw [List.getElem_append_left e]
  exact ⟨f, v, by rw [List.getElem?_append_left (by omega)]; exact k1, by rw [List.getElem?_append_left (by omega)]; exact k2, k3.app⟩
theorem Nds.close {Z : Nat → Prop} {w : World} {vs : List (List W)} {opn : Nat → Prop} {dcs : List Value} {n : Nat} {f v : Value} (h : Nds Z w vs (fun i => opn i ∨ i = n) dcs) (hl : dcs.length = vs.length * 2) (hn : n < vs.length) (hd : Nd Z w vs vs[n] f v) : Nds Z w vs opn ((dcs.set (n * 2) f).set (n * 2 + 1) v) := fun i hi ho => by
  by_cases e : i = n
  · subst e
    exact ⟨f, v, by rw [List.getElem?_set_ne (by omega), List.getElem?_set_self (by omega)], by rw [List.getElem?_set_self (by simp; omega)], hd⟩
  · obtain ⟨f', v', k1, k2, k3⟩ := h i hi (fun e' => e'.elim ho e)
    exact ⟨f', v', by rw [List.getElem?_set_ne (by omega), List.getElem?_set_ne (by omega)]; exact k1, by rw [List.getElem?_set_ne (by omega), List.getElem?_set_ne (by omega)]; exact k2, k3⟩
/-- the blocks that a call of node may change -/
def Sn (x : Nat) (dv rv : Value) : Nat → Prop := fun k => k = x ∨ some k = dv.ownBlock ∨ some k = rv.ownBlock
/-- the own block is the elder one or a new one -/
def Gr (w : World) (v v' : Value) : Prop := ∀ g, v'.ownBlock = some g → v.ownBlock = some g ∨ w.heap.size ≤ g
theorem Gr.refl (w : World) (v : Value) : Gr w v v := fun g h => .inl h
theorem Gr.trans {w w' : World} {v v' v'' : Value} (h : Gr w v v') (k : Gr w' v' v'') (hs : w.heap.size ≤ w'.heap.size) : Gr w v v'' := fun g hg => by
  rcases k g hg with h1 | h1
  · exact h g h1
  · exact .inr (by omega)
theorem opVal_append {P : Program} {o : Oper} {a : Act} {w w' : World} {R : Value → World → Prop} (hg : o.guard = none) (s x : Operand) (t : TypeId) (ho : o.op = .call { callee := .builtin .append, args := #[s, x], argTypes := #[t, t] })
    (S X : Value) (hs : a.eval s = S) (hx : a.eval x = X) {v' : Value} (hrun : (Builtin.append_ #[t, t] o.type #[S, X]).run P w = .ok v' w') (h : R v' w') : opVal P R ((execOp a.eval o).run P w) := by
  unfold execOp
  simp only [ho, resolve, invoke, builtin, Sem.run_bind, Sem.run_pure, Result.andThen_ok, List.map_toArray, List.map_cons, List.map_nil, hs, hx, hrun]
  exact h
/-- the builder between two stores -/
structure Pc (Z : Nat → Prop) (base x : Nat) (vn : List (List W)) (opn : Nat → Prop) (vt : List (List W)) (u v dv rv : Value) (dcs rcs : List Value) (w : World) : Prop where
  X : Blk w x 95 #[u, v]
  D : w.ownsRow base 44 2 dv vn.length dcs
  N : Nds Z w vn opn dcs
  R : w.ownsRow base 25 1 rv vt.length rcs
  T : Rst w vt rcs
section
variable {Z : Nat → Prop} {base x : Nat} {vn vt vs : List (List W)} {opn : Nat → Prop} {u v dv rv : Value} {dcs rcs : List Value} {w w' : World}
theorem St.pc (h : St Z base x vs opn dv rv w) : ∃ dcs rcs, Pc Z base x vs opn vs dv rv dv rv dcs rcs w := by
  obtain ⟨dcs, d1, d2⟩ := h.D
  obtain ⟨rcs, r1, r2⟩ := h.R
  exact ⟨dcs, rcs, h.X, d1, d2, r1, r2⟩
theorem Pc.st (h : Pc Z base x vs opn vs dv rv dv rv dcs rcs w) : St Z base x vs opn dv rv w := ⟨h.X, ⟨dcs, h.D, h.N⟩, ⟨rcs, h.R, h.T⟩⟩
theorem Pc.kp {S : Nat → Prop} (h : Pc Z base x vn opn vt u v dv rv dcs rcs w) (kp : Kp S w w') (hx : ¬ S x) (hd : ∀ g, dv.ownBlock = some g → ¬ S g) (hr : ∀ g, rv.ownBlock = some g → ¬ S g)
    (h9 : ∀ (b : Nat) cs fr, w.heap[b]? = some (.cells cs 9 fr) → ¬ S b) (h49 : ∀ (b : Nat) cs fr, w.heap[b]? = some (.cells cs 49 fr) → S b → Z b) : Pc Z base x vn opn vt u v dv rv dcs rcs w' :=
  ⟨h.X.kp kp hx, own_kp h.D kp hd, h.N.kp kp h49, own_kp h.R kp hr, h.T.kp kp h9⟩
theorem Pc.ext (h : Pc Z base x vn opn vt u v dv rv dcs rcs w) (hE : Ext w w') : Pc Z base x vn opn vt u v dv rv dcs rcs w' :=
  h.kp (Kp.of_ext (S := fun _ => False) hE) (fun e => e) (fun _ _ e => e) (fun _ _ e => e) (fun _ _ _ _ e => e) (fun _ _ _ _ e => e.elim)
theorem Pc.appD {a b dv' : Value} {l : List W} (h : Pc Z base x vn opn vt u v dv rv dcs rcs w) (hg : w.grownBy w' dv.ownBlock) (hD : w'.ownsRow base 44 2 dv' (vn.length + 1) (dcs ++ [a, b])) :
    Pc Z base x (vn ++ [l]) (fun i => opn i ∨ i = vn.length) vt u v dv' rv (dcs ++ [a, b]) rcs w' := by
  have kp : Kp (fun k => some k = dv.ownBlock) w w' := Kp.of_grown hg fun i e => e
  refine ⟨h.X.kp kp (fun e => own_ne h.D h.X (by decide) e.symm), by simpa using hD, (h.N.kp kp fun b cs fr hb e => absurd e.symm (own_ne h.D hb (by decide))).push (own_len h.D), own_kp h.R kp fun g hg e => ?_, h.T.kp kp fun b cs fr hb e => own_ne h.D hb (by decide) e.symm⟩
  obtain ⟨⟨cs, hc⟩, _⟩ := own_typ h.R hg
  exact own_ne h.D hc (by decide) e.symm
theorem Pc.appR {A : Option Addr} {c : Nat} {rv' : Value} {l : List W} (h : Pc Z base x vn opn vt u v dv rv dcs rcs w) (hg : w.grownBy w' rv.ownBlock) (hR : w'.ownsRow base 25 1 rv' (vt.length + 1) (rcs ++ [.slice A l.length c]))
    (hr : Rd w 9 1 A l.length (sv l)) (h1 : l.length ≤ c) (h2 : c ≤ maxLen) (h3 : l.length ≤ 1000) :
    Pc Z base x vn opn (vt ++ [l]) u v dv rv' dcs (rcs ++ [.slice A l.length c]) w' := by
  have kp : Kp (fun k => some k = rv.ownBlock) w w' := Kp.of_grown hg fun i e => e
  have k9 : ∀ (b : Nat) cs fr, w.heap[b]? = some (.cells cs 9 fr) → ¬ (some b = rv.ownBlock) := fun b cs fr hb e => own_ne h.R hb (by decide) e.symm
  refine ⟨h.X.kp kp (fun e => own_ne h.R h.X (by decide) e.symm), own_kp h.D kp fun g hg e => ?_, h.N.kp kp fun b cs fr hb e => absurd e.symm (own_ne h.R hb (by decide)), by simpa using hR, (h.T.kp kp k9).push (by have := own_len h.R; omega) (hr.kp (by decide) kp k9) h1 h2 h3⟩
  obtain ⟨⟨cs, hc⟩, _⟩ := own_typ h.D hg
  exact own_ne h.R hc (by decide) e.symm
theorem Pc.set_ (h : Pc Z base x vn opn vt u v dv rv dcs rcs w) (i : Nat) (z : Value) {u' v' : Value} (hc : (#[u, v] : Array Value).setIfInBounds i z = #[u', v']) : Pc Z base x vn opn vt u' v' dv rv dcs rcs (w.setCell ⟨x, i, none⟩ z) := by
  have kp : Kp (fun k => k = x) w (w.setCell ⟨x, i, none⟩ z) := Kp.of_set w ⟨x, i, none⟩ z rfl
  have hne : ∀ {t : TypeId} (b : Nat) cs fr, w.heap[b]? = some (.cells cs t fr) → t ≠ 95 → b ≠ x := fun b cs fr hb ht e => by
    subst e
    have := h.X
    unfold Blk at this
    rw [hb] at this
    injection this with this
    injection this with _ h2
    exact ht h2
  refine ⟨by rw [← hc]; exact h.X.set_ i z, own_kp h.D kp fun g hg e => ?_, h.N.kp kp fun b cs fr hb e => absurd e (hne b cs fr hb (by decide)), own_kp h.R kp fun g hg e => ?_, h.T.kp kp fun b cs fr hb => hne b cs fr hb (by decide)⟩
  · obtain ⟨⟨cs, hc⟩, _⟩ := own_typ h.D hg; exact hne g cs _ hc (by decide) e
  · obtain ⟨⟨cs, hc⟩, _⟩ := own_typ h.R hg; exact hne g cs _ hc (by decide) e
/-- the blocks of the words and of the arcs are none that a call changes -/
theorem St.far {t : TypeId} (h : St Z base x vs opn dv rv w) (h1 : t ≠ 95) (h2 : t ≠ 44) (h3 : t ≠ 25) (b : Nat) (cs : Array Value) (fr : Nat × Nat) (hb : w.heap[b]? = some (.cells cs t fr)) : ¬ Sn x dv rv b := by
  obtain ⟨dcs, d1, d2⟩ := h.D
  obtain ⟨rcs, r1, r2⟩ := h.R
  rintro (rfl | e | e)
  · have := h.X
    unfold Blk at this
    rw [hb] at this
    injection this with this
    injection this with _ h2
    exact h1 h2
  · exact own_ne d1 hb h2 e.symm
  · exact own_ne r1 hb h3 e.symm
end
theorem St.close {Z : Nat → Prop} {base x n gd cap : Nat} {V : List (List W)} {opn : Nat → Prop} {rv f v : Value} {w : World} (hS : St Z base x V (fun i => opn i ∨ i = n) (.slice (some ⟨gd, 0, none⟩) V.length cap) rv w) (hn : n < V.length) (hd : Nd Z w V V[n] f v) :
    St Z base x V opn (.slice (some ⟨gd, 0, none⟩) V.length cap) rv ((w.setCell ⟨gd, n * 2, none⟩ f).setCell ⟨gd, n * 2 + 1, none⟩ v) ∧ Kp (fun k => k = gd) w ((w.setCell ⟨gd, n * 2, none⟩ f).setCell ⟨gd, n * 2 + 1, none⟩ v) := by
  obtain ⟨dcs, D, N⟩ := hS.D
  obtain ⟨rcs, R, T⟩ := hS.R
  have kp : Kp (fun k => k = gd) w ((w.setCell ⟨gd, n * 2, none⟩ f).setCell ⟨gd, n * 2 + 1, none⟩ v) := Kp.trans (Kp.of_set (S := fun k => k = gd) w _ f rfl) (Kp.of_set (S := fun k => k = gd) _ _ v rfl) (fun _ _ e => e) (fun _ _ e => e)
  obtain ⟨⟨cs, hc⟩, _⟩ := own_typ D (g := gd) rfl
  have hne : ∀ {t : TypeId} (b : Nat) cs' fr, w.heap[b]? = some (.cells cs' t fr) → t ≠ 44 → b ≠ gd := fun b cs' fr hb ht e => by
    subst e
    rw [hc] at hb
    injection hb with hb
    injection hb with _ h2
    exact ht h2.symm
  refine ⟨⟨hS.X.kp kp (hne x _ _ hS.X (by decide)), ⟨_, own_put (own_put D (n * 2) (by omega) f) (n * 2 + 1) (by omega) v, ?_⟩, ⟨rcs, own_kp R kp fun g hg e => ?_, T.kp kp fun b cs' fr hb => hne b cs' fr hb (by decide)⟩⟩, kp⟩
  · exact (N.close (own_len D) hn hd).kp kp fun b cs' fr hb e => absurd e (hne b cs' fr hb (by decide))
  · obtain ⟨⟨cs', hc'⟩, _⟩ := own_typ R hg; exact hne g cs' _ hc' (by decide) e
theorem St.mono {Z Z' : Nat → Prop} {base x : Nat} {vs : List (List W)} {opn : Nat → Prop} {dv rv : Value} {w : World} (h : St Z base x vs opn dv rv w) (hz : ∀ b, b < w.heap.size → Z' b → Z b) : St Z' base x vs opn dv rv w := by
  obtain ⟨dcs, D, N⟩ := h.D
  exact ⟨h.X, ⟨dcs, D, N.mono hz⟩, h.R⟩
theorem grp_len (l : List W) : (grp l).length ≤ l.length := by
  induction l with
  | nil => exact Nat.le_refl _
  | cons w l ih =>
    rw [grp_cons]
    unfold cons1
    split
    · simp; omega
    · split
      · rename_i e
        rw [e] at ih
        split <;> simp at ih ⊢ <;> omega
      · simp
/-- the groups whose byte is less than c -/
def gl (l : List W) (c : Nat) : List (UInt8 × List W) := (grp l).filter fun a => decide (a.1.toNat < c)
theorem filter_none {α : Type} {p : α → Bool} {l : List α} (h : ∀ a ∈ l, p a = false) : l.filter p = [] := List.filter_eq_nil_iff.2 fun a ha => by rw [h a ha]; simp
theorem sorted_step (g : List (UInt8 × List W)) (hp : g.Pairwise fun a b => a.1 < b.1) (c : Nat) : g.filter (fun a => decide (a.1.toNat < c + 1)) = g.filter (fun a => decide (a.1.toNat < c)) ++ g.filter (fun a => decide (a.1.toNat = c)) := by
  induction g with
  | nil => rfl
  | cons a g ih =>
    obtain ⟨h1, h2⟩ := List.pairwise_cons.1 hp
    have hlt : ∀ b ∈ g, a.1.toNat < b.1.toNat := fun b hb => by have := h1 b hb; rwa [UInt8.lt_iff_toNat_lt] at this
    rcases Nat.lt_trichotomy a.1.toNat c with h | h | h
    · rw [List.filter_cons_of_pos (by simp; omega), List.filter_cons_of_pos (by simp; omega), List.filter_cons_of_neg (by simp; omega), ih h2]; rfl
    · rw [List.filter_cons_of_pos (by simp; omega), List.filter_cons_of_neg (by simp; omega), List.filter_cons_of_pos (by simp; omega),
        filter_none (p := fun a : UInt8 × List W => decide (a.1.toNat < c + 1)) (fun b hb => by have := hlt b hb; simp; omega), filter_none (p := fun a : UInt8 × List W => decide (a.1.toNat < c)) (fun b hb => by have := hlt b hb; simp; omega), filter_none (p := fun a : UInt8 × List W => decide (a.1.toNat = c)) (fun b hb => by have := hlt b hb; simp; omega)]
      rfl
    · rw [List.filter_cons_of_neg (by simp; omega), List.filter_cons_of_neg (by simp; omega), List.filter_cons_of_neg (by simp; omega), ih h2]
theorem filter_one (g : List (UInt8 × List W)) (hp : g.Pairwise fun a b => a.1 < b.1) {a : UInt8 × List W} (ha : a ∈ g) : g.filter (fun b => decide (b.1.toNat = a.1.toNat)) = [a] := by
  induction g with
  | nil => cases ha
  | cons b g ih =>
    obtain ⟨h1, h2⟩ := List.pairwise_cons.1 hp
    have hlt : ∀ d ∈ g, b.1.toNat < d.1.toNat := fun d hd => by have := h1 d hd; rwa [UInt8.lt_iff_toNat_lt] at this
    rcases List.mem_cons.1 ha with rfl | ha
    · rw [List.filter_cons_of_pos (by simp), filter_none (fun d hd => by have := hlt d hd; simp; omega)]
    · rw [List.filter_cons_of_neg (by have := hlt a ha; simp; omega)]
      exact ih h2 ha
theorem gl_none {l : List W} (hu : Up l) (hby : ∀ u ∈ l, ∀ b ∈ u, 33 ≤ b.toNat ∧ b.toNat < 127) : gl l 33 = [] := filter_none fun a ha => by
  obtain ⟨t, ht⟩ := (grp_up hu).2.2.2 a ha
  have := (hby _ ht a.1 (List.mem_cons_self ..)).1
  simp; omega
theorem gl_all {l : List W} (hu : Up l) (hby : ∀ u ∈ l, ∀ b ∈ u, 33 ≤ b.toNat ∧ b.toNat < 127) : gl l 127 = grp l := List.filter_eq_self.2 fun a ha => by
  obtain ⟨t, ht⟩ := (grp_up hu).2.2.2 a ha
  have := (hby _ ht a.1 (List.mem_cons_self ..)).2
  simp; omega
theorem gl_skip {l : List W} (hu : Up l) {c : UInt8} (h : aft c l = []) : gl l (c.toNat + 1) = gl l c.toNat := by
  unfold gl
  rw [sorted_step _ (grp_up hu).1]
  rw [filter_none (p := fun a : UInt8 × List W => decide (a.1.toNat = c.toNat)), List.append_nil]
  intro a ha
  simp only [decide_eq_false_iff_not]
  intro e
  have hc : a.1 = c := UInt8.toNat_inj.1 e
  have h1 := (grp_up hu).2.1 a ha
  rw [hc, h] at h1
  exact grp_ne a ha h1
theorem gl_next {l : List W} (hu : Up l) {c : UInt8} (h : aft c l ≠ []) : gl l (c.toNat + 1) = gl l c.toNat ++ [(c, aft c l)] := by
  unfold gl
  rw [sorted_step _ (grp_up hu).1]
  obtain ⟨a, ha, hc⟩ := (grp_up hu).2.2.1 c h
  have h1 := (grp_up hu).2.1 a ha
  have e : a = (c, aft c l) := by rw [← hc]; exact Prod.ext rfl h1
  subst e
  rw [filter_one _ (grp_up hu).1 ha]
theorem gl_sub {l : List W} {c : Nat} : ∀ a ∈ gl l c, a ∈ grp l := fun a ha => (List.mem_filter.1 ha).1
theorem sorted_split (g : List (UInt8 × List W)) (hp : g.Pairwise fun a b => a.1 < b.1) (c : Nat) : g = g.filter (fun a => decide (a.1.toNat < c)) ++ g.filter (fun a => decide (c ≤ a.1.toNat)) := by
  induction g with
  | nil => rfl
  | cons a g ih =>
    obtain ⟨h1, h2⟩ := List.pairwise_cons.1 hp
    have hlt : ∀ b ∈ g, a.1.toNat < b.1.toNat := fun b hb => by have := h1 b hb; rwa [UInt8.lt_iff_toNat_lt] at this
    by_cases h : a.1.toNat < c
    · rw [List.filter_cons_of_pos (by simp; omega), List.filter_cons_of_neg (by simp; omega)]
      exact congrArg (a :: ·) (ih h2)
    · rw [List.filter_cons_of_neg (by simp; omega), List.filter_cons_of_pos (by simp; omega), filter_none (p := fun a : UInt8 × List W => decide (a.1.toNat < c)) (fun b hb => by have := hlt b hb; simp; omega)]
      rw [List.nil_append, List.filter_eq_self.2 fun b hb => by have := hlt b hb; simp; omega]
theorem gl_pre {l : List W} (hu : Up l) (f : Nat) (vs : List (List W)) (c : Nat) : dfsAll f vs (gl l c) <+: dfsAll f vs (grp l) := by
  have h := sorted_split (grp l) (grp_up hu).1 c
  have e : dfsAll f vs (grp l) = dfsAll f (dfsAll f vs (gl l c)) ((grp l).filter (fun a => decide (c ≤ a.1.toNat))) := by
    conv => lhs; rw [h]
    unfold dfsAll gl
    rw [List.foldl_append]
  rw [e]
  exact dfsAll_pre _ _ _
end Go.Proofs.YtmmihcophkipoaaDoor
