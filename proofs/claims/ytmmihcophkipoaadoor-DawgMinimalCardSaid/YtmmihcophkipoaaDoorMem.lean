/-
  Small facts on memory that all texts of this seat use: a slice that reads as a list of cells, and what keeps it so. They hold in every world.
-/
import Derived.WalkKit
import Derived.ProofKit
import Derived.Handy
import Derived.Lib.Hide
import Derived.Deep.Draws
import Derived.Deep.AppendLies
import Derived.Maps.AppendAt
namespace Go.Proofs.YtmmihcophkipoaaDoor
open Go.RowKit
set_option linter.unusedSimpArgs false
set_option linter.unusedVariables false

theorem ret_int {k : IntKind} {a b : Int} (h : a = b) : Ending.returned (.int k a) = .returned (.int k b) := by rw [h]
theorem ret_val {a b : Value} (h : a = b) : Ending.returned a = .returned b := by rw [h]

theorem addr_block (a : Addr) (n : Nat) : (a.add n).block = a.block := by unfold Addr.add; split <;> rfl
theorem addr_add (a : Addr) (i j : Nat) : (a.add i).add j = a.add (i + j) := by
  unfold Addr.add
  by_cases hi : i = 0 <;> by_cases hj : j = 0 <;> simp [hi, hj, Nat.add_assoc]

/-- old cells and old marks read as before: two rules for the walk -/
theorem bcell {B : Nat} {W w1 : World} (hb : Below B W w1) : (∀ b o, b < B → w1.cell? ⟨b, o, none⟩ = W.cell? ⟨b, o, none⟩) ∧ (∀ b o, b < B → w1.frozen? ⟨b, o, none⟩ = W.frozen? ⟨b, o, none⟩) :=
  ⟨fun b o h => hb.cell (p := ⟨b, o, none⟩) h, fun b o h => hb.frozen (p := ⟨b, o, none⟩) h⟩

theorem below_drewN {B : Nat} {a w : World} (h : Below B a w) (n : Nat) : Below B a (w.drewN n) := ⟨h.os, h.tape, h.output, h.size, h.block⟩
/-- block b holds cells of the element type e (e = 0: nothing is said) -/
def Kind (w : World) (b : Nat) (e : TypeId) : Prop := e = 0 ∨ ∃ cs fr, w.heap[b]? = some (.cells cs e fr)

/-- the slice at the address A with n elements of k cells each reads as the cells xs -/
def Rd (w : World) (e : TypeId) (k : Nat) (A : Option Addr) (n : Nat) (xs : List Value) : Prop :=
  xs.length = n * k ∧ (0 < n → ∃ ad, A = some ad ∧ ad.block < w.heap.size ∧ Kind w ad.block e ∧ ∀ j u, xs[j]? = some u → w.cell? (ad.add j) = some u)

section
variable {w w' : World} {e : TypeId} {k n : Nat} {A : Option Addr} {xs : List Value}
theorem Rd.nil : Rd w e k A 0 [] := ⟨by simp, fun h => absurd h (by omega)⟩
theorem Rd.len (h : Rd w e k A n xs) : xs.length = n * k := h.1
theorem Rd.keep (h : Rd w e k A n xs) (hs : w.heap.size ≤ w'.heap.size) (hk : ∀ b, b < w.heap.size → (∀ ad, A = some ad → ad.block = b → Kind w b e → w'.heap[b]? = w.heap[b]?)) : Rd w' e k A n xs :=
  ⟨h.1, fun hn => by
    obtain ⟨ad, ea, hb, hK, hc⟩ := h.2 hn
    have hq := hk ad.block hb ad ea rfl hK
    refine ⟨ad, ea, by omega, ?_, fun j u hu => ?_⟩
    · rcases hK with h0 | ⟨cs, fr, h1⟩
      · exact .inl h0
      · exact .inr ⟨cs, fr, hq.trans h1⟩
    · exact (World.cell?_of_block (w := w) (by rw [addr_block]; exact hq)).trans (hc j u hu)⟩
theorem Rd.below (h : Rd w e k A n xs) {B : Nat} (hb : Below B w w') (hB : w.heap.size ≤ B) : Rd w' e k A n xs :=
  h.keep hb.size fun b hlt _ _ _ _ => hb.block b (by omega)
theorem Rd.alloc (h : Rd w e k A n xs) (o : Obj) : Rd (w.alloc o) e k A n xs :=
  h.keep (by simp) fun b hlt _ _ _ _ => Below.heap_alloc w o b hlt
theorem Rd.drew (h : Rd w e k A n xs) : Rd w.drew e k A n xs := h
theorem Rd.drewN (h : Rd w e k A n xs) (i : Nat) : Rd (w.drewN i) e k A n xs := h
/-- a store into a block whose elements are of another type -/
theorem Rd.set (h : Rd w e k A n xs) (he : e ≠ 0) {p : Addr} {u : Value} {t : TypeId} {cs : Array Value} {fr : Nat × Nat} (hp : w.heap[p.block]? = some (.cells cs t fr)) (ht : t ≠ e) : Rd (w.setCell p u) e k A n xs :=
  h.keep (by simp) fun b hlt ad _ _ hK => Below.heap_setCell w p u b (by
    rintro rfl
    rcases hK with h0 | ⟨cs', fr', h1⟩
    · exact he h0
    · rw [hp] at h1
      injection h1 with h1
      injection h1 with _ h2
      exact ht h2)
/-- a store into another block -/
theorem Rd.far (h : Rd w e k A n xs) {p : Addr} {u : Value} (hp : ∀ ad, A = some ad → ad.block ≠ p.block) : Rd (w.setCell p u) e k A n xs :=
  h.keep (by simp) fun b _ ad ha hb _ => Below.heap_setCell w p u b (by rw [← hb]; exact hp ad ha)
theorem Rd.grown (h : Rd w e k A n xs) {row : Option Nat} (hg : w.grownBy w' row) (hr : ∀ ad, A = some ad → some ad.block ≠ row) : Rd w' e k A n xs :=
  h.keep hg.size fun b hlt ad ha hb _ => hg.block b hlt (by rw [← hb]; exact hr ad ha)
theorem Rd.at_ {i : Nat} (h : Rd w e 1 A n xs) (hi : i < n) : ∃ ad u, A = some ad ∧ ad.block < w.heap.size ∧ xs[i]? = some u ∧ w.cell? (ad.add i) = some u := by
  obtain ⟨ad, ea, hb, _, hc⟩ := h.2 (by omega)
  have hl : i < xs.length := by have := h.1; omega
  exact ⟨ad, xs[i], ea, hb, List.getElem?_eq_getElem hl, hc i _ (List.getElem?_eq_getElem hl)⟩
theorem addr_one (a : Addr) : (⟨a.block, a.off + 1, none⟩ : Addr) = a.add 1 := rfl
/-- an element of two cells, in the walk's own spelling -/
theorem Rd.two {i : Nat} {u0 u1 : Value} (h : Rd w e 2 A n xs) (hi : i < n) (h0 : xs[i * 2]? = some u0) (h1 : xs[i * 2 + 1]? = some u1) :
    ∃ ad, A = some ad ∧ ad.block < w.heap.size ∧ w.cell? (ad.add (i * 2)) = some u0 ∧ w.cell? ⟨(ad.add (i * 2)).block, (ad.add (i * 2)).off + 1, none⟩ = some u1 := by
  obtain ⟨ad, ea, hb, _, hc⟩ := h.2 (by omega)
  exact ⟨ad, ea, hb, hc _ _ h0, by rw [addr_one, addr_add]; exact hc _ _ h1⟩
/-- the cells, all at once -/
theorem Rd.cells (h : Rd w e k A n xs) (hn : 0 < n) : ∃ ad, A = some ad ∧ ad.block < w.heap.size ∧ ∀ j u, xs[j]? = some u → w.cell? (ad.add j) = some u := by
  obtain ⟨ad, ea, hb, _, hc⟩ := h.2 hn
  exact ⟨ad, ea, hb, hc⟩
theorem Rd.untyped (h : Rd w e k A n xs) : Rd w 0 k A n xs :=
  ⟨h.1, fun hn => by
    obtain ⟨ad, ea, hb, _, hc⟩ := h.2 hn
    exact ⟨ad, ea, hb, .inl rfl, hc⟩⟩
theorem Rd.cut (h : Rd w e k A n xs) {i cap : Nat} (hi : i ≤ n) (hc : n ≤ cap) :
    Rd w e k (if cap = i then A else A.map (·.add (i * k))) (n - i) (xs.drop (i * k)) := by
  refine ⟨by rw [List.length_drop, h.1, Nat.sub_mul], fun hn => ?_⟩
  obtain ⟨ad, rfl, hb, hK, hcell⟩ := h.2 (by omega)
  rw [if_neg (by omega)]
  refine ⟨ad.add (i * k), rfl, by rw [addr_block]; exact hb, by rw [addr_block]; exact hK, fun j u hu => ?_⟩
  rw [addr_add]
  exact hcell _ u (by rw [← hu, List.getElem?_drop])
theorem Rd.take (h : Rd w e k A n xs) {i : Nat} (hi : i ≤ n) : Rd w e k A i (xs.take (i * k)) := by
  have hm : i * k ≤ n * k := Nat.mul_le_mul_right _ hi
  refine ⟨by rw [List.length_take, h.1]; omega, fun hn => ?_⟩
  obtain ⟨ad, rfl, hb, hK, hcell⟩ := h.2 (by omega)
  refine ⟨ad, rfl, hb, hK, fun j u hu => hcell _ u ?_⟩
  rw [List.getElem?_take] at hu
  split at hu
  · exact hu
  · cases hu
theorem Rd.of_own {base c : Nat} (h : w.ownsRow base e k (.slice A n c) n xs) : Rd w e k A n xs := by
  refine ⟨h.1, fun hn => ?_⟩
  rcases h.2 with ⟨h1, h2⟩ | ⟨g, cap, cur, hv, hb, hg, _⟩
  · omega
  · have hA : A = some ⟨g, 0, none⟩ := by injection hv
    subst hA
    have hlt : g < w.heap.size := (Array.getElem?_eq_some_iff.1 hg).1
    exact ⟨_, rfl, hlt, .inr ⟨_, _, hg⟩, h.cells (g := g) rfl⟩
/-- a new block is such a slice -/
theorem Rd.new (w : World) (e : TypeId) (k n : Nat) (cs : Array Value) (fr : Nat × Nat) (h : cs.size = n * k) : Rd (w.alloc (.cells cs e fr)) e k (some ⟨w.heap.size, 0, none⟩) n cs.toList := by
  refine ⟨by simpa using h, fun hn => ⟨_, rfl, by simp, .inr ⟨cs, fr, heap_alloc_new w _⟩, fun j u hu => ?_⟩⟩
  have hadd : (⟨w.heap.size, 0, none⟩ : Addr).add j = ⟨w.heap.size, j, none⟩ := by unfold Addr.add; split <;> simp_all
  rw [hadd, cell_of_row _ _ j cs e fr (heap_alloc_new w _)]
  simpa using hu
end

/-- the same, where the walk has reckoned the block's number -/
theorem Rd.newAt (w : World) (g : Nat) (hg : w.heap.size = g) (e : TypeId) (k n : Nat) (cs : Array Value) (fr : Nat × Nat) (xs : List Value) (hx : cs.toList = xs) (h : cs.size = n * k) : Rd (w.alloc (.cells cs e fr)) e k (some ⟨g, 0, none⟩) n xs := by
  subst hg hx
  exact Rd.new w e k n cs fr h

/-- block g is just the cells cs of the element type t, none frozen -/
def Blk (w : World) (g : Nat) (t : TypeId) (cs : Array Value) : Prop := w.heap[g]? = some (.cells cs t (0, 0))
section
variable {w w' : World} {g : Nat} {t : TypeId} {cs : Array Value}
theorem Blk.lt (h : Blk w g t cs) : g < w.heap.size := (Array.getElem?_eq_some_iff.1 h).1
theorem Blk.cell (h : Blk w g t cs) (i : Nat) : w.cell? ⟨g, i, none⟩ = cs[i]? := cell_of_row w g i cs t (0, 0) h
theorem Blk.frozen (h : Blk w g t cs) (i : Nat) : w.frozen? ⟨g, i, none⟩ = false := by
  unfold Blk at h
  simp [World.frozen?, h]
theorem Blk.new (w : World) (t : TypeId) (cs : Array Value) : Blk (w.alloc (.cells cs t)) w.heap.size t cs := heap_alloc_new w _
theorem Blk.alloc (h : Blk w g t cs) (o : Obj) : Blk (w.alloc o) g t cs := (Below.heap_alloc w o g h.lt).trans h
theorem Blk.drewN (h : Blk w g t cs) (n : Nat) : Blk (w.drewN n) g t cs := h
theorem Blk.drew (h : Blk w g t cs) : Blk w.drew g t cs := h
theorem Blk.set_ (h : Blk w g t cs) (i : Nat) (u : Value) : Blk (w.setCell ⟨g, i, none⟩ u) g t (cs.setIfInBounds i u) := by
  unfold Blk at h ⊢
  simp [World.setCell, Array.getElem?_modify, h]
theorem Blk.far (h : Blk w g t cs) {p : Addr} (hp : g ≠ p.block) (u : Value) : Blk (w.setCell p u) g t cs := (Below.heap_setCell w p u g hp).trans h
theorem Blk.below {B : Nat} (h : Blk w g t cs) (hb : Below B w w') (hB : w.heap.size ≤ B) : Blk w' g t cs := (hb.block g (by have := h.lt; omega)).trans h
theorem Blk.low {B : Nat} (h : Blk w g t cs) (hb : Below B w w') (hB : g < B) : Blk w' g t cs := (hb.block g hB).trans h
theorem Blk.grown {row : Option Nat} (h : Blk w g t cs) (hb : w.grownBy w' row) (hg : row ≠ some g) : Blk w' g t cs := (hb.block g h.lt (fun e => hg e.symm)).trans h
theorem Blk.f1 {u0 : Value} (h : Blk w g t #[u0]) : w.cell? ⟨g, 0, none⟩ = some u0 ∧ w.frozen? ⟨g, 0, none⟩ = false ∧ g < w.heap.size := ⟨h.cell 0, h.frozen 0, h.lt⟩
theorem Blk.f2 {u0 u1 : Value} (h : Blk w g t #[u0, u1]) : w.cell? ⟨g, 0, none⟩ = some u0 ∧ w.cell? ⟨g, 1, none⟩ = some u1 ∧ (∀ o, w.frozen? ⟨g, o, none⟩ = false) ∧ g < w.heap.size := ⟨h.cell 0, h.cell 1, h.frozen, h.lt⟩
theorem Blk.f3 {u0 u1 u2 : Value} (h : Blk w g t #[u0, u1, u2]) : w.cell? ⟨g, 0, none⟩ = some u0 ∧ w.cell? ⟨g, 1, none⟩ = some u1 ∧ w.cell? ⟨g, 2, none⟩ = some u2 ∧ (∀ o, w.frozen? ⟨g, o, none⟩ = false) ∧ g < w.heap.size := ⟨h.cell 0, h.cell 1, h.cell 2, h.frozen, h.lt⟩
theorem Blk.f4 {u0 u1 u2 u3 : Value} (h : Blk w g t #[u0, u1, u2, u3]) : w.cell? ⟨g, 0, none⟩ = some u0 ∧ w.cell? ⟨g, 1, none⟩ = some u1 ∧ w.cell? ⟨g, 2, none⟩ = some u2 ∧ w.cell? ⟨g, 3, none⟩ = some u3 ∧ (∀ o, w.frozen? ⟨g, o, none⟩ = false) ∧ g < w.heap.size := ⟨h.cell 0, h.cell 1, h.cell 2, h.cell 3, h.frozen, h.lt⟩
end
/-- all that was there is as it was -/
def Ext (w w' : World) : Prop := Below w.heap.size w w'
theorem Ext.refl (w : World) : Ext w w := Below.refl _ _
theorem Ext.trans {a b c : World} (h : Ext a b) (k : Ext b c) : Ext a c := Below.trans h (Below.mono k (Below.size h))
theorem Ext.below {w w' : World} (h : Ext w w') : Below w.heap.size w w' := h
theorem Ext.alloc (w : World) (o : Obj) : Ext w (w.alloc o) := (Below.refl _ _).alloc (Nat.le_refl _) _
theorem Ext.le {w w' : World} (h : Ext w w') : w.heap.size ≤ w'.heap.size := Below.size h
theorem Blk.ext {w w' : World} {g : Nat} {t : TypeId} {cs : Array Value} (h : Blk w g t cs) (hb : Ext w w') : Blk w' g t cs := h.below hb (Nat.le_refl _)
theorem Rd.ext {w w' : World} {e : TypeId} {k n : Nat} {A : Option Addr} {xs : List Value} (h : Rd w e k A n xs) (hb : Ext w w') : Rd w' e k A n xs := h.below hb (Nat.le_refl _)
/-- a value that points to a block of the call's own, known whole -/
def Box (B : Nat) (t : TypeId) (cs : Array Value) (v : Value) (w : World) : Prop := ∃ p, v = .pointer (some ⟨p, 0, none⟩) ∧ B ≤ p ∧ Blk w p t cs
theorem Box.ext {B : Nat} {t : TypeId} {cs : Array Value} {v : Value} {w w' : World} (hE : Ext w w') (h : Box B t cs v w) : Box B t cs v w' := by
  obtain ⟨p, h1, h2, h3⟩ := h
  exact ⟨p, h1, h2, h3.ext hE⟩
theorem Box.at_ {B p : Nat} {t : TypeId} {cs : Array Value} {w : World} (h : Box B t cs (.pointer (some ⟨p, 0, none⟩)) w) : B ≤ p ∧ Blk w p t cs := by
  obtain ⟨q, h1, h2, h3⟩ := h
  obtain rfl : q = p := by simpa using h1.symm
  exact ⟨h2, h3⟩
theorem Box.new {B : Nat} {w : World} (hB : B ≤ w.heap.size) (t : TypeId) (cs : Array Value) : Box B t cs (.pointer (some ⟨w.heap.size, 0, none⟩)) (w.alloc (.cells cs t)) := ⟨_, rfl, hB, Blk.new _ _ _⟩
theorem Box.ne {B : Nat} {t : TypeId} {cs : Array Value} {u : Value} {w : World} (h : Box B t cs u w) : Value.pointer (some ⟨w.heap.size, 0, none⟩) ≠ u := by
  obtain ⟨q, rfl, _, h3⟩ := h
  have := h3.lt
  intro e
  first | (simp at e; done) | (simp at e; omega)
/-- a value that is known -/
def Is (c : Value) (v : Value) (_ : World) : Prop := v = c
theorem Is.ext {c v : Value} {w w' : World} (_ : Ext w w') (h : Is c v w) : Is c v w' := h
/-- a slice that reads as a list of cells -/
def Sl (e : TypeId) (k : Nat) (n : Nat) (xs : List Value) (v : Value) (w : World) : Prop := ∃ A c, v = .slice A n c ∧ Rd w e k A n xs ∧ n ≤ c ∧ c ≤ maxLen
theorem Sl.ext {e : TypeId} {k n : Nat} {xs : List Value} {v : Value} {w w' : World} (hE : Ext w w') (h : Sl e k n xs v w) : Sl e k n xs v w' := by
  obtain ⟨A, c, h1, h2, h3⟩ := h
  exact ⟨A, c, h1, h2.ext hE, h3⟩
theorem Sl.at_ {e : TypeId} {k n m c : Nat} {A : Option Addr} {xs : List Value} {w : World} (h : Sl e k n xs (.slice A m c) w) : m = n ∧ Rd w e k A n xs ∧ n ≤ c ∧ c ≤ maxLen := by
  obtain ⟨A', c', h1, h2, h3⟩ := h
  injection h1 with e1 e2 e3
  subst e1 e2 e3
  exact ⟨rfl, h2, h3⟩
/-- the walk halts here -/
def Halted (p : Prop) : Prop := p
theorem halt_here {p : Prop} (h : Halted p) : p := h
theorem go_on {p : Prop} (h : p) : Halted p := h

section
variable {w w' : World} {base : Nat} {e : TypeId} {k n : Nat} {v : Value} {xs : List Value}
theorem own_keep (h : w.ownsRow base e k v n xs) (hk : ∀ g, v.ownBlock = some g → g < w.heap.size → base ≤ g → w'.heap[g]? = w.heap[g]?) : w'.ownsRow base e k v n xs := by
  refine ⟨h.1, ?_⟩
  rcases h.2 with hn | ⟨g, cap, cur, rfl, hb, hgg, rest⟩
  · exact .inl hn
  · refine .inr ⟨g, cap, cur, rfl, hb, ?_, rest⟩
    rw [hk g rfl (Array.getElem?_eq_some_iff.1 hgg).1 hb]
    exact hgg
theorem own_below (h : w.ownsRow base e k v n xs) {B : Nat} (hb : Below B w w') (hB : w.heap.size ≤ B) : w'.ownsRow base e k v n xs :=
  own_keep h fun g _ hl _ => hb.block g (by omega)
theorem own_alloc (h : w.ownsRow base e k v n xs) (o : Obj) : (w.alloc o).ownsRow base e k v n xs := h.alloc o
theorem own_drewN (h : w.ownsRow base e k v n xs) (i : Nat) : (w.drewN i).ownsRow base e k v n xs := h
/-- a store into a block of another element type -/
theorem own_set (h : w.ownsRow base e k v n xs) {p : Addr} {u : Value} {t : TypeId} {cs : Array Value} {fr : Nat × Nat} (hp : w.heap[p.block]? = some (.cells cs t fr)) (ht : t ≠ e) : (w.setCell p u).ownsRow base e k v n xs := by
  refine ⟨h.1, ?_⟩
  rcases h.2 with hn | ⟨g, cap, cur, rfl, hb, hgg, rest⟩
  · exact .inl hn
  · refine .inr ⟨g, cap, cur, rfl, hb, ?_, rest⟩
    rw [Below.heap_setCell w p u g (by
      rintro rfl
      rw [hp] at hgg
      injection hgg with hgg
      injection hgg with _ h2
      exact ht h2)]
    exact hgg
theorem own_far (h : w.ownsRow base e k v n xs) {p : Addr} {u : Value} (hp : v.ownBlock ≠ some p.block) : (w.setCell p u).ownsRow base e k v n xs :=
  own_keep h fun g hg _ _ => Below.heap_setCell w p u g (by rintro rfl; exact hp hg)
theorem own_len (h : w.ownsRow base e k v n xs) : xs.length = n * k := h.1
theorem own_form (h : w.ownsRow base e k v n xs) : ∃ A c, v = .slice A n c ∧ Rd w e k A n xs ∧ n ≤ c ∧ c ≤ maxLen := by
  have h0 := h
  rcases h.2 with ⟨rfl, rfl⟩ | ⟨g, cap, cur, rfl, hb, hgg, h1, h2, _⟩
  · exact ⟨none, 0, rfl, Rd.of_own h0, Nat.le_refl _, by simp [maxLen]⟩
  · exact ⟨_, cap, rfl, Rd.of_own h0, h1, h2⟩
end

/-- append onto a row of the call's own; the source is nil, empty or not -/
theorem run_app {P : Program} (w : World) (base : Nat) (t ty e : TypeId) (i : TypeInfo) (z : Value) (size bytes : Nat) (ht : P.underlying t = some (.slice e)) (hi : P.info? e = some i) (hz : i.zero = some z)
    (hsize : i.size = size) (hby : i.bytes = bytes) (hzs : z.cells.size = size) (hsz : 0 < size)
    (v : Value) (n : Nat) (xs : List Value) (hown : w.ownsRow base e size v n xs)
    (e' : TypeId) (A : Option Addr) (m c : Nat) (news : List Value) (hr : Rd w e' size A m news) (h1 : ∀ u ∈ news, u.oneCell' = true)
    (h63 : n + m ≤ maxLen) (hbytes : (n + m) * bytes ≤ 140737488355328) (hbase : base ≤ w.heap.size) :
    ∃ v' w', (Builtin.append_ #[t, t] ty #[v, .slice A m c]).run P w = .ok v' w' ∧ w'.ownsRow base e size v' (n + m) (xs ++ news) ∧ w.grownBy w' v.ownBlock ∧
      (v'.ownBlock = v.ownBlock ∨ v'.ownBlock = some w.heap.size) := by
  have none_case : m = 0 → news = [] → ∃ v' w', (Builtin.append_ #[t, t] ty #[v, .slice none 0 c]).run P w = .ok v' w' ∧ w'.ownsRow base e size v' (n + 0) (xs ++ []) ∧ w.grownBy w' v.ownBlock ∧
      (v'.ownBlock = v.ownBlock ∨ v'.ownBlock = some w.heap.size) := by
    intro _ _
    refine ⟨v, w, ?_, by simpa using hown, World.grownBy.refl w _, .inl rfl⟩
    rcases hown.2 with ⟨rfl, rfl⟩ | ⟨g, cap, cur, rfl, _, _, hnc, _⟩
    · simp [Builtin.append_, run_underlying ht, sizeOf, typeInfo, hi, Builtin.lenOf, Builtin.firstCells]
    · simp [Builtin.append_, run_underlying ht, sizeOf, typeInfo, hi, Builtin.lenOf, Builtin.firstCells, hnc, storeCells]
  have hnil : m = 0 → news = [] := fun h0 => List.eq_nil_of_length_eq_zero (by have := hr.1; rw [h0] at this; simpa using this)
  rcases A with _ | ad
  · have hm : m = 0 := by
      rcases Nat.eq_zero_or_pos m with h0 | h0
      · exact h0
      · obtain ⟨ad, h, _⟩ := hr.2 h0
        cases h
    have hn := hnil hm
    subst hm hn
    exact none_case rfl rfl
  · have hcells : ∀ j u, news[j]? = some u → w.cell? (ad.add j) = some u := by
      intro j u hu
      rcases Nat.eq_zero_or_pos m with h0 | h0
      · have hn := hnil h0
        subst hn
        simp at hu
      · obtain ⟨ad', h, _, hc⟩ := hr.cells h0
        injection h with h
        subst h
        exact hc j u hu
    obtain ⟨v', w', hrun, h2, h3, _, h5⟩ := run_append_own_at (P := P) w base t ty e i z size bytes ht hi hz hsize hby hzs hsz v n xs hown ad m c news hr.1 hcells h1 h63 hbytes hbase
    exact ⟨v', w', hrun, h2, h3, h5⟩
theorem wpList_app {P : Program} {w : World} {ops : Array Oper} {rest : List Oper} {o : Oper} {a : Act} {Q : Exit → Act → World → Prop} (hgd : o.guard = none) (s x : Operand) (t : TypeId)
    (ho : o.op = .call { callee := .builtin .append, args := #[s, x], argTypes := #[t, t] })
    (base : Nat) (e : TypeId) (i : TypeInfo) (z : Value) (size bytes : Nat) (ht : P.underlying t = some (.slice e)) (hi : P.info? e = some i) (hz : i.zero = some z)
    (hsize : i.size = size) (hby : i.bytes = bytes) (hzs : z.cells.size = size) (hsz : 0 < size)
    (v : Value) (n : Nat) (xs : List Value) (hs : a.eval s = v) (hown : w.ownsRow base e size v n xs)
    (e' : TypeId) (A : Option Addr) (m c : Nat) (news : List Value) (hx : a.eval x = .slice A m c) (hr : Rd w e' size A m news) (h1 : ∀ u ∈ news, u.oneCell' = true)
    (h63 : n + m ≤ maxLen) (hbytes : (n + m) * bytes ≤ 140737488355328) (hbase : base ≤ w.heap.size)
    (h : ∀ v' w', w'.ownsRow base e size v' (n + m) (xs ++ news) → w.grownBy w' v.ownBlock → (v'.ownBlock = v.ownBlock ∨ v'.ownBlock = some w.heap.size) → Below base w w' → wpList P ops Q rest (a.put o.dst v') w') : wpList P ops Q (o :: rest) a w :=
  wpList_plain hgd fun _ hK => by
    obtain ⟨v', w', hrun, h2, h3, h4⟩ := run_app (P := P) w base t o.type e i z size bytes ht hi hz hsize hby hzs hsz v n xs hown e' A m c news hr h1 h63 hbytes hbase
    unfold Oper.wp execOp
    simp only [ho, resolve, invoke, builtin, Sem.run_bind, Sem.run_pure, Result.andThen_ok, List.map_toArray, List.map_cons, List.map_nil, hs, hx, hrun]
    exact hK _ _ (h v' w' h2 h3 h4 ((Below.refl _ _).grown h3 hbase fun g hg => (hown.lt g hg).1))
/-- the source: the new block of one element of one cell -/
theorem rd_one (w : World) (e : TypeId) (x : Value) : Rd (w.alloc (.cells #[x] e)) e 1 (some ⟨w.heap.size, 0, none⟩) 1 [x] := Rd.new w e 1 1 #[x] (0, 0) rfl
theorem rd_two (w : World) (e : TypeId) (x y : Value) : Rd (w.alloc (.cells #[x, y] e)) e 2 (some ⟨w.heap.size, 0, none⟩) 1 [x, y] := Rd.new w e 2 1 #[x, y] (0, 0) rfl
end Go.Proofs.YtmmihcophkipoaaDoor
