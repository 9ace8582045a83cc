import Derived.Test.YtecdmgcgplohoaaCa11
import Derived.Maps.AppendAt
namespace Go.Proofs.Ytecdmgcgplohoaa
open Go.ChangeShapes Go.WideShapes Go.ChangeAt Go.RowKit
set_option linter.unusedVariables false
set_option linter.unusedSimpArgs false
attribute [local go_sem] ba_beq ba_bne
/-- append of one element onto an own row: what turns, exactly -/
def RowOk (n : Nat) (K : Value) (g : Nat) (w w' : World) : Prop := ∀ cs, w.heap[g]? = some (.cells cs 9 (0, 0)) → ∃ cs', w'.heap[g]? = some (.cells cs' 9 (0, 0)) ∧ cs'.size = cs.size ∧ (∀ j, j ≠ n → cs'[j]? = cs[j]?) ∧ (cs[n]? = some K → cs'[n]? = some K)
/-- only the blocks p and q may turn, each at its n-th cell, and there only to its one value -/
structure Gr (n : Nat) (p : Option Nat) (K : Value) (q : Option Nat) (V : Value) (w w' : World) : Prop where
  os : w'.os = w.os
  tape : w'.tape = w.tape
  output : w'.output = w.output
  size : w.heap.size ≤ w'.heap.size
  block : ∀ i, i < w.heap.size → p ≠ some i → q ≠ some i → w'.heap[i]? = w.heap[i]?
  rp : ∀ g, p = some g → RowOk n K g w w'
  rq : ∀ g, q = some g → RowOk n V g w w'
theorem RowOk.refl (n : Nat) (K : Value) (g : Nat) (w : World) : RowOk n K g w w := fun cs h => ⟨cs, h, rfl, fun _ _ => rfl, id⟩
theorem RowOk.trans {n : Nat} {K : Value} {g : Nat} {a b c : World} (h : RowOk n K g a b) (k : RowOk n K g b c) : RowOk n K g a c := fun cs hc => by
  obtain ⟨d, h1, h2, h3, h4⟩ := h cs hc
  obtain ⟨e, k1, k2, k3, k4⟩ := k d h1
  exact ⟨e, k1, k2.trans h2, fun j hj => (k3 j hj).trans (h3 j hj), fun hn => k4 (h4 hn)⟩
theorem RowOk.same {n : Nat} {K : Value} {g : Nat} {w w' : World} (h : g < w.heap.size → w'.heap[g]? = w.heap[g]?) : RowOk n K g w w' := fun cs hc => by
  have hl := (Array.getElem?_eq_some_iff.1 hc).1
  exact ⟨cs, (h hl).trans hc, rfl, fun _ _ => rfl, id⟩
section
variable {n : Nat} {p q : Option Nat} {K V : Value}
theorem Gr.refl (w : World) : Gr n p K q V w w := ⟨rfl, rfl, rfl, Nat.le_refl _, fun _ _ _ _ => rfl, fun g _ => RowOk.refl _ _ _ _, fun g _ => RowOk.refl _ _ _ _⟩
theorem Gr.trans {a b c : World} (h : Gr n p K q V a b) (k : Gr n p K q V b c) : Gr n p K q V a c :=
  ⟨k.os.trans h.os, k.tape.trans h.tape, k.output.trans h.output, Nat.le_trans h.size k.size, fun i hi hp hq => (k.block i (Nat.lt_of_lt_of_le hi h.size) hp hq).trans (h.block i hi hp hq),
   fun g hg => (h.rp g hg).trans (k.rp g hg), fun g hg => (h.rq g hg).trans (k.rq g hg)⟩
theorem Gr.of_ext {w w' : World} (h : Ext w w') : Gr n p K q V w w' :=
  ⟨h.os, h.tape, h.output, h.size, fun i hi _ _ => h.block i hi, fun g _ => RowOk.same (h.block g), fun g _ => RowOk.same (h.block g)⟩
theorem Gr.symm {w w' : World} (h : Gr n p K q V w w') : Gr n q V p K w w' := ⟨h.os, h.tape, h.output, h.size, fun i hi hq hp => h.block i hi hp hq, h.rq, h.rp⟩
theorem Gr.blk {w w' : World} (h : Gr n p K q V w w') {b : Nat} {t : TypeId} {cs : Array Value} (hB : Blk w b t cs) (hp : p ≠ some b) (hq : q ≠ some b) : Blk w' b t cs := (h.block b hB.lt hp hq).trans hB
theorem Gr.below {w w' a : World} {B : Nat} (h : Gr n p K q V w w') (ha : Below B a w) (hp : ∀ g, p = some g → B ≤ g) (hq : ∀ g, q = some g → B ≤ g) (hB : B ≤ w.heap.size) : Below B a w' :=
  ha.trans ⟨h.os, h.tape, h.output, h.size, fun i hi => h.block i (by omega) (fun e => by have := hp i e; omega) (fun e => by have := hq i e; omega)⟩
theorem Gr.own {w w' : World} (h : Gr n p K q V w w') {base : Nat} {v : Value} {xs : List Value} (ho : w.ownsRow base 9 1 v (n + 1) (xs ++ [K])) {g : Nat} (hg : v.ownBlock = some g) (hq : q ≠ some g) : w'.ownsRow base 9 1 v (n + 1) (xs ++ [K]) := by
  refine ⟨ho.1, ?_⟩
  rcases ho.2 with ⟨_, h0⟩ | ⟨g', cap, cur, rfl, hbg, hgg, h1, h2, h3, h4⟩
  · omega
  · simp only [Value.ownBlock, Option.some.injEq] at hg
    subst hg
    by_cases hp : p = some g'
    · obtain ⟨cs', k1, k2, k3, k4⟩ := h.rp g' hp cur hgg
      refine .inr ⟨g', cap, cs', rfl, hbg, k1, h1, h2, k2.trans h3, ?_⟩
      rw [← h4]
      have hx : xs.length = n := by have := ho.1; simp at this; omega
      have hK : cur[n]? = some K := by
        have : (cur.toList.take ((n + 1) * 1))[n]? = some K := by rw [h4, List.getElem?_append_right (by omega), hx]; simp
        rw [List.getElem?_take, if_pos (by omega), Array.getElem?_toList] at this
        exact this
      apply List.ext_getElem?
      intro j
      simp only [List.getElem?_take, Array.getElem?_toList]
      by_cases e : j = n
      · subst e; rw [k4 hK, hK]
      · rw [k3 j e]
    · exact .inr ⟨g', cap, cur, rfl, hbg, (h.block g' (Array.getElem?_eq_some_iff.1 hgg).1 hp hq).trans hgg, h1, h2, h3, h4⟩
/-- a slice of one string in a block of its own -/
def S1 (p q : Option Nat) (x : Value) (v : Value) (w : World) : Prop := ∃ b, v = .slice (some ⟨b, 0, none⟩) 1 1 ∧ p ≠ some b ∧ q ≠ some b ∧ Blk w b 9 #[x]
theorem S1.gr {x v : Value} {w w' : World} (h : Gr n p K q V w w') (k : S1 p q x v w) : S1 p q x v w' := by
  obtain ⟨b, h1, h2, h3, h4⟩ := k
  exact ⟨b, h1, h2, h3, h.blk h4 h2 h3⟩
/-- a row of the call's own with one more element -/
def Ow (q : Option Nat) (n base : Nat) (xs : List Value) (K : Value) (v : Value) (w : World) : Prop := w.ownsRow base 9 1 v (n + 1) (xs ++ [K]) ∧ ∃ g, v.ownBlock = some g ∧ q ≠ some g
theorem Ow.gr {base : Nat} {xs : List Value} {v : Value} {w w' : World} (h : Gr n p K q V w w') (k : Ow q n base xs K v w) : Ow q n base xs K v w' := by
  obtain ⟨h1, g, h2, h3⟩ := k
  exact ⟨h.own h1 h2 h3, g, h2, h3⟩
theorem Ow.grq {base : Nat} {xs : List Value} {v : Value} {w w' : World} (h : Gr n p K q V w w') (k : Ow p n base xs V v w) : Ow p n base xs V v w' := Ow.gr h.symm k
theorem Ow.ne {base : Nat} {xs ys : List Value} {K V u v : Value} {w : World} (h : Ow q n base xs K u w) (k : Ow p n base ys V v w) (hne : v ≠ u) : ∀ g, u.ownBlock = some g → v.ownBlock ≠ some g := by
  intro g h1 h2
  apply hne
  rcases h.1.2 with ⟨_, h0⟩ | ⟨g1, cap, cur, rfl, _, hg1, _, _, h3, _⟩
  · omega
  rcases k.1.2 with ⟨_, h0⟩ | ⟨g2, cap', cur', rfl, _, hg2, _, _, h3', _⟩
  · omega
  simp only [Value.ownBlock, Option.some.injEq] at h1 h2
  subst h1 h2
  rw [hg1] at hg2
  injection hg2 with hg2
  injection hg2 with hg2
  subst hg2
  have : cap = cap' := by omega
  subst this
  rfl
end
theorem Gr.own0 {n : Nat} {p : Value} {q : Option Nat} {K V : Value} {w w' : World} (h : Gr n p.ownBlock K q V w w') {base : Nat} {xs : List Value} (ho : w.ownsRow base 9 1 p n xs) : w'.ownsRow base 9 1 p n xs := by
  refine ⟨ho.1, ?_⟩
  rcases ho.2 with h0 | ⟨g, cap, cur, rfl, hbg, hgg, h1, h2, h3, h4⟩
  · exact .inl h0
  · obtain ⟨cs', k1, k2, k3, _⟩ := h.rp g rfl cur hgg
    refine .inr ⟨g, cap, cs', rfl, hbg, k1, h1, h2, k2.trans h3, ?_⟩
    rw [← h4]
    apply List.ext_getElem?
    intro j
    simp only [List.getElem?_take, Array.getElem?_toList]
    by_cases e : j < n * 1
    · rw [if_pos e, if_pos e, k3 j (by omega)]
    · rw [if_neg e, if_neg e]
theorem app_row {n base b c : Nat} {p q V : Value} {xs : List Value} {k : BA} (w : World) (hown : w.ownsRow base 9 1 p n xs) (hne : ∀ g, p.ownBlock = some g → q.ownBlock ≠ some g) (hqlt : ∀ g, q.ownBlock = some g → g < w.heap.size)
    (hs : w.cell? ⟨b, 0, none⟩ = some (.string k)) (hn : n ≤ 64) (hb : base ≤ w.heap.size) :
    ∃ v' w', (Builtin.append_ #[24, 24] 24 #[p, .slice (some ⟨b, 0, none⟩) 1 c]).run Try.prog w = .ok v' w' ∧ Gr n p.ownBlock (.string k) q.ownBlock V w w' ∧ Ow q.ownBlock n base xs (.string k) v' w' ∧
      (∀ ys u, Ow p.ownBlock n base ys V u w → v' ≠ u) := by
  obtain ⟨i0, hi0, hz0, hz1, hz2⟩ := info_parts str_info
  obtain ⟨v', w', hrun, ho, hcase⟩ := run_app1 (P := Try.prog) w base 24 24 9 i0 _ 16 Try.underlying24 hi0 hz0 hz1 hz2 rfl p n xs hown ⟨b, 0, none⟩ c (.string k) hs rfl (by simp only [maxLen]; omega) (by omega) hb
  have hlt : ∀ (ys : List Value) (u : Value), Ow p.ownBlock n base ys V u w → ∃ g, u.ownBlock = some g ∧ p.ownBlock ≠ some g ∧ g < w.heap.size := fun ys u hu => by
    obtain ⟨h1, g, h2, h3⟩ := hu
    exact ⟨g, h2, h3, (h1.lt g h2).2⟩
  refine ⟨v', w', hrun, ?_⟩
  rcases hcase with ⟨g, cap, cur, cur', rfl, rfl, hg, hg', hsz, hj, hK, hgr⟩ | ⟨hE, hv⟩
  · refine ⟨⟨hgr.os, hgr.tape, hgr.output, hgr.size, fun i hi hp _ => hgr.block i hi (fun e => hp (by injection e with e; subst e; rfl)), fun g2 h2 cs hcs => ?_, fun g2 h2 => RowOk.same fun hl => hgr.block g2 hl (fun e => hne g rfl (by injection e with e; subst e; exact h2))⟩, ⟨ho, g, rfl, hne g rfl⟩, fun ys u hu => ?_⟩
    · simp only [Value.ownBlock, Option.some.injEq] at h2
      subst h2
      rw [hg] at hcs
      injection hcs with hcs
      injection hcs with hcs
      subst hcs
      exact ⟨cur', hg', hsz, hj, fun _ => hK⟩
    · obtain ⟨g2, h2, h3, _⟩ := hlt ys u hu
      rintro rfl
      exact h3 h2
  · refine ⟨Gr.of_ext hE, ⟨ho, w.heap.size, hv, fun e => by have := hqlt _ e; omega⟩, fun ys u hu => ?_⟩
    obtain ⟨g2, h2, _, h4⟩ := hlt ys u hu
    rintro rfl
    rw [hv] at h2
    injection h2 with h2
    omega
end Go.Proofs.Ytecdmgcgplohoaa
