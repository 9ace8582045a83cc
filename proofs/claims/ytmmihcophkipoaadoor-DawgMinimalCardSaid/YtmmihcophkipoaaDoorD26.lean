/-
  The shapes in memory: the sets that are finished, each with its block; and the shape that is being made.
-/
import Derived.Test.YtmmihcophkipoaaDoorD25
import Derived.Test.YtmmihcophkipoaaDoorP4
namespace Go.Proofs.YtmmihcophkipoaaDoor
open Go.ChangeShapes Go.WideShapes Go.ChangeAt Go.RowKit
set_option linter.unusedVariables false
set_option linter.unusedSimpArgs false
def ptr (p : Nat) : Value := .pointer (some ⟨p, 0, none⟩)
def ptrs (ps : List Nat) (vs : List (List W)) (g : List (UInt8 × List W)) : List Value := g.map fun a => ptr (ps.getD (vs.idxOf a.2) 0)
def ents (vs : List (List W)) (ps : List Nat) : List (W × Value) := (vs.zip ps).map fun a => (nm vs a.1, ptr a.2)
def entv (vs : List (List W)) (ps : List Nat) : List (Value × Value) := (ents vs ps).map fun a => (.string (bs a.1), a.2)
/-- the finished set l, the i-th, in block p -/
structure Sh1 (Z : Nat → Prop) (w : World) (vs : List (List W)) (ps : List Nat) (l : List W) (p i : Nat) : Prop where
  ex : ∃ A a B b, Blk w p 133 #[.bool (fin l), .slice A (grp l).length a, .slice B (grp l).length b, .string (bs (Lib.decDigits i))] ∧ Rd w 5 1 A (grp l).length (bv ((grp l).map (·.1))) ∧ Rd w 88 1 B (grp l).length (ptrs ps vs (grp l)) ∧
    (grp l).length ≤ a ∧ a ≤ maxLen ∧ (grp l).length ≤ b ∧ b ≤ maxLen ∧ (∀ ad, A = some ad → ad.block < w.heap.size ∧ ¬ Z ad.block) ∧ (∀ ad, B = some ad → ad.block < w.heap.size ∧ ¬ Z ad.block)
  kids : ∀ a ∈ grp l, a.2 ∈ vs
  far : ¬ Z p
  up : Up l
  ne : l ≠ []
section
variable {Z Z' S : Nat → Prop} {w w' : World} {vs us : List (List W)} {ps qs : List Nat} {l : List W} {p i : Nat}
theorem Sh1.kp (h : Sh1 Z w vs ps l p i) (k : Kp S w w') (hS : ∀ (b : Nat) cs t fr, w.heap[b]? = some (.cells cs t fr) → S b → Z b) : Sh1 Z w' vs ps l p i := by
  obtain ⟨A, a, B, b, h1, h2, h3, h4, h5, h6, h7, h8, h9⟩ := h.ex
  refine ⟨⟨A, a, B, b, h1.kp k (fun e => h.far (hS _ _ _ _ h1 e)), h2.kpa (by decide) k (fun ad ha cs fr hc e => (h8 ad ha).2 (hS _ _ _ _ hc e)), h3.kpa (by decide) k (fun ad ha cs fr hc e => (h9 ad ha).2 (hS _ _ _ _ hc e)), h4, h5, h6, h7, fun ad ha => ⟨Nat.lt_of_lt_of_le (h8 ad ha).1 k.size, (h8 ad ha).2⟩, fun ad ha => ⟨Nat.lt_of_lt_of_le (h9 ad ha).1 k.size, (h9 ad ha).2⟩⟩, h.kids, h.far, h.up, h.ne⟩
theorem Sh1.mono (h : Sh1 Z w vs ps l p i) (hz : ∀ b, b < w.heap.size → Z' b → Z b) : Sh1 Z' w vs ps l p i := by
  obtain ⟨A, a, B, b, h1, h2, h3, h4, h5, h6, h7, h8, h9⟩ := h.ex
  exact ⟨⟨A, a, B, b, h1, h2, h3, h4, h5, h6, h7, fun ad ha => ⟨(h8 ad ha).1, fun e => (h8 ad ha).2 (hz _ (h8 ad ha).1 e)⟩, fun ad ha => ⟨(h9 ad ha).1, fun e => (h9 ad ha).2 (hz _ (h9 ad ha).1 e)⟩⟩, h.kids, fun e => h.far (hz _ h1.lt e), h.up, h.ne⟩
theorem ptrs_app (hl : vs.length = ps.length) {g : List (UInt8 × List W)} (h : ∀ a ∈ g, a.2 ∈ vs) : ptrs (ps ++ qs) (vs ++ us) g = ptrs ps vs g := by
  unfold ptrs
  refine List.map_congr_left fun a ha => ?_
  have h1 := List.idxOf_lt_length_iff.2 (h a ha)
  rw [List.idxOf_append, if_pos (h a ha), List.getD_eq_getElem?_getD, List.getD_eq_getElem?_getD, List.getElem?_append_left (by omega)]
theorem Sh1.app (h : Sh1 Z w vs ps l p i) (hl : vs.length = ps.length) : Sh1 Z w (vs ++ us) (ps ++ qs) l p i := by
  obtain ⟨A, a, B, b, h1, h2, h3, h4⟩ := h.ex
  exact ⟨⟨A, a, B, b, h1, h2, by rw [ptrs_app hl h.kids]; exact h3, h4⟩, fun a ha => List.mem_append_left _ (h.kids a ha), h.far, h.up, h.ne⟩
end
structure Shp (Z : Nat → Prop) (w : World) (vs : List (List W)) (ps : List Nat) : Prop where
  len : vs.length = ps.length
  nodup : vs.Nodup
  each : ∀ i (h : i < vs.length), Sh1 Z w vs ps vs[i] (ps.getD i 0) i
section
variable {Z Z' S : Nat → Prop} {w w' : World} {vs us : List (List W)} {ps qs : List Nat} {l : List W} {p i : Nat}
theorem Shp.kp (h : Shp Z w vs ps) (k : Kp S w w') (hS : ∀ (b : Nat) cs t fr, w.heap[b]? = some (.cells cs t fr) → S b → Z b) : Shp Z w' vs ps := ⟨h.len, h.nodup, fun i hi => (h.each i hi).kp k hS⟩
theorem Shp.mono (h : Shp Z w vs ps) (hz : ∀ b, b < w.heap.size → Z' b → Z b) : Shp Z' w vs ps := ⟨h.len, h.nodup, fun i hi => (h.each i hi).mono hz⟩
theorem Shp.ext (h : Shp Z w vs ps) (hE : Ext w w') : Shp Z w' vs ps := h.kp (Kp.of_ext (S := fun _ => False) hE) (fun _ _ _ _ _ e => e.elim)
theorem Shp.nil (Z : Nat → Prop) (w : World) : Shp Z w [] [] := ⟨rfl, List.nodup_nil, fun i h => absurd h (by simp)⟩
theorem Shp.push (h : Shp Z w vs ps) (hn : l ∉ vs) (h1 : Sh1 Z w (vs ++ [l]) (ps ++ [p]) l p vs.length) : Shp Z w (vs ++ [l]) (ps ++ [p]) := by
  refine ⟨by simp [h.len], List.nodup_append.2 ⟨h.nodup, by simp, fun a ha b hb => by rw [List.mem_singleton.1 hb]; rintro rfl; exact hn ha⟩, fun i hi => ?_⟩
  by_cases e : i < vs.length
  · have e2 : (ps ++ [p]).getD i 0 = ps.getD i 0 := by rw [List.getD_eq_getElem?_getD, List.getD_eq_getElem?_getD, List.getElem?_append_left (by have := h.len; omega)]
    rw [List.getElem_append_left e, e2]
    exact (h.each i e).app h.len
  · obtain rfl : i = vs.length := by simp at hi; omega
    have e2 : (ps ++ [p]).getD vs.length 0 = p := by rw [List.getD_eq_getElem?_getD, h.len, List.getElem?_append_right (Nat.le_refl _)]; simp
    rw [List.getElem_append_right (by omega), e2]
    simpa using h1
theorem Shp.at_ (h : Shp Z w vs ps) (hm : l ∈ vs) : Sh1 Z w vs ps l (ps.getD (vs.idxOf l) 0) (vs.idxOf l) := by
  have h1 := List.idxOf_lt_length_iff.2 hm
  have h2 := h.each _ h1
  rw [List.getElem_idxOf h1] at h2
  exact h2
theorem Shp.key (h : Shp Z w vs ps) {m : List W} (hm : m ∈ vs) (hu : Up l) (hk : ∀ a ∈ grp l, a.2 ∈ vs) (e : nm vs m = nm vs l) : m = l := nm_inj (h.at_ hm).up hu (h.at_ hm).kids hk e
theorem ents_len (h : Shp Z w vs ps) : (entv vs ps).length = vs.length := by simp [entv, ents, h.len]
theorem ents_at (h : Shp Z w vs ps) (i : Nat) (hi : i < vs.length) : (entv vs ps)[i]'(by rw [ents_len h]; exact hi) = (.string (bs (nm vs vs[i])), ptr (ps.getD i 0)) := by
  have h2 : i < ps.length := by rw [← h.len]; exact hi
  simp [entv, ents, h2]
theorem asc_known (h : Shp Z w vs ps) (hm : l ∈ vs) (hu : Up l) : asc (.string (bs (nm vs l))) (entv vs ps) 0 = some (vs.idxOf l, ptr (ps.getD (vs.idxOf l) 0)) := by
  have h1 := List.idxOf_lt_length_iff.2 hm
  have h2 : vs[vs.idxOf l] = l := List.getElem_idxOf h1
  have h3 := ents_at h _ h1
  rw [asc_at (j := vs.idxOf l) (by rw [ents_len h]; exact h1)]
  · rw [h3]; simp
  · rw [h3, h2]
  · intro m hmm
    rw [ents_at h m (by omega)]
    intro e
    have e1 := bs_inj (Value.string.inj e)
    have e2 := h.key (List.getElem_mem (by omega)) hu (h.at_ hm).kids e1
    have := List.not_of_lt_findIdx (p := fun y => y == l) (xs := vs) (i := m) hmm
    simp [e2] at this
theorem asc_unknown (h : Shp Z w vs ps) (hm : l ∉ vs) (hu : Up l) (hk : ∀ a ∈ grp l, a.2 ∈ vs) : asc (.string (bs (nm vs l))) (entv vs ps) 0 = none := by
  refine asc_none fun e he hh => ?_
  obtain ⟨i, hi, rfl⟩ := List.getElem_of_mem he
  have hi2 : i < vs.length := by rw [ents_len h] at hi; exact hi
  rw [ents_at h i hi2] at hh
  have e1 := bs_inj (Value.string.inj hh)
  have e2 := h.key (List.getElem_mem hi2) hu hk e1
  exact hm (e2 ▸ List.getElem_mem hi2)
theorem ents_push (h : Shp Z w vs ps) (hk : ∀ a ∈ grp l, a.2 ∈ vs) : entv (vs ++ [l]) (ps ++ [p]) = entv vs ps ++ [(.string (bs (nm vs l)), ptr p)] := by
  unfold entv ents
  rw [List.zip_append h.len, List.map_append, List.map_append]
  congr 1
  · congr 1
    refine List.map_congr_left fun a ha => ?_
    obtain ⟨a1, a2⟩ := a
    have hm := (List.of_mem_zip ha).1
    rw [nm_app (h.at_ hm).kids]
  · simp [nm_app hk]
end
/-- the blocks of the shape that is being made -/
def Zo (Z : Nat → Prop) (bl s nb : Nat) (av tv nv : Value) : Nat → Prop := fun b => Z b ∨ b = bl ∨ b = s ∨ b = nb ∨ some b = av.ownBlock ∨ some b = tv.ownBlock ∨ some b = nv.ownBlock
/-- the shape that is being made: its bytes so far are those of ga, its pointers those of gt, its name that of gn -/
structure Ost (Z : Nat → Prop) (mb bl s nb : Nat) (l : List W) (w0 : World) (ga gt gn : List (UInt8 × List W)) (vs : List (List W)) (ps : List Nat) (av tv pt nv : Value) (w : World) : Prop where
  S : Blk w s 133 #[.bool (fin l), av, tv, .string (bs [])]
  A : w.ownsRow w0.heap.size 5 1 av ga.length (bv (ga.map (·.1)))
  T : w.ownsRow w0.heap.size 88 1 tv gt.length (ptrs ps vs gt)
  TV : ∀ a ∈ gt, a.2 ∈ vs
  N : Blk w nb 137 #[pt, nv]
  P : Pt nb pt
  O : Ob w0.heap.size (truth (fin l) ++ nmG vs gn) nv w
  OV : ∀ a ∈ gn, a.2 ∈ vs
  H : Shp (Zo Z bl s nb av tv nv) w vs ps
  M : Mp w mb (entv vs ps)
  AN : ∀ k, av.ownBlock = some k → nv.ownBlock ≠ some k
  ZB : ∀ b, Zo Z bl s nb av tv nv b → b < w.heap.size
  K : Kp (· = mb) w0 w
  s0 : w0.heap.size ≤ s
  n0 : w0.heap.size ≤ nb
  b0 : w0.heap.size ≤ bl
section
variable {Z : Nat → Prop} {mb bl s nb : Nat} {l : List W} {w0 w w' : World} {ga gt gn : List (UInt8 × List W)} {vs us : List (List W)} {ps qs : List Nat} {av tv pt nv : Value}
theorem Ost.ext (h : Ost Z mb bl s nb l w0 ga gt gn vs ps av tv pt nv w) (hE : Ext w w') : Ost Z mb bl s nb l w0 ga gt gn vs ps av tv pt nv w' :=
  ⟨h.S.ext hE, own_below h.A hE (Nat.le_refl _), own_below h.T hE (Nat.le_refl _), h.TV, h.N.ext hE, h.P, h.O.ext hE, h.OV, h.H.ext hE, h.M.ext hE, h.AN, fun b hb => Nat.lt_of_lt_of_le (h.ZB b hb) hE.le, h.K.trans (Kp.of_ext (S := fun _ => False) hE) (fun _ _ e => e) (fun _ _ e => e.elim), h.s0, h.n0, h.b0⟩
/-- behind the call for the next set -/
theorem Ost.rec_ (h : Ost Z mb bl s nb l w0 ga gt gn vs ps av tv pt nv w) (hK : Kp (· = mb) w w') (hH : Shp (Zo Z bl s nb av tv nv) w' (vs ++ us) (ps ++ qs)) (hM : Mp w' mb (entv (vs ++ us) (ps ++ qs))) : Ost Z mb bl s nb l w0 ga gt gn (vs ++ us) (ps ++ qs) av tv pt nv w' := by
  have hne : ∀ (b : Nat) cs t fr, w.heap[b]? = some (.cells cs t fr) → ¬ (b = mb) := fun b cs t fr hb e => h.M.not_cells (e ▸ hb)
  refine ⟨h.S.kp hK (hne _ _ _ _ h.S), own_kp h.A hK (fun g hg => ?_), ?_, fun a ha => List.mem_append_left _ (h.TV a ha), h.N.kp hK (hne _ _ _ _ h.N), h.P, ?_, fun a ha => List.mem_append_left _ (h.OV a ha), hH, hM, h.AN, fun b hb => Nat.lt_of_lt_of_le (h.ZB b hb) hK.size, h.K.trans hK (fun _ _ e => e) (fun _ _ e => e), h.s0, h.n0, h.b0⟩
  · obtain ⟨⟨cs, hc⟩, _⟩ := own_typ h.A hg
    exact hne _ _ _ _ hc
  · rw [ptrs_app h.H.len h.TV]
    exact own_kp h.T hK fun g hg => by
      obtain ⟨⟨cs, hc⟩, _⟩ := own_typ h.T hg
      exact hne _ _ _ _ hc
  · rw [nmG_app h.OV]
    exact own_kp h.O hK fun g hg => by
      obtain ⟨⟨cs, hc⟩, _⟩ := own_typ h.O hg
      exact hne _ _ _ _ hc
end
end Go.Proofs.YtmmihcophkipoaaDoor
