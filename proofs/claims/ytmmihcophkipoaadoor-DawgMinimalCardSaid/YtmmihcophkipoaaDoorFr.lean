/-
  The frame of this seat's laws: the arguments opened, the listed variables, the post condition.
-/
import Derived.Test.YtmmihcophkipoaaDoorRows
import Derived.Test.YtmmihcophkipoaaDoorTie
import Derived.Test.YtmmihcophkipoaaDoorCards
import Derived.WalkKit
import Derived.ProofKit
import Derived.OpenShut
import Derived.Carry
import Derived.LaidMore
import Derived.Lay
import Derived.Lib.LaidTab
import Derived.SevenTiedAt
import Derived.Deep.Slices
import Derived.Test.YtmmihcophkipoaaDoorD34
import Derived.Test.YtmmihcophkipoaaDoorP7
import Derived.Test.YtmmihcophkipoaaDoorD22
import Derived.Test.YtmmihcophkipoaaDoorD20
import Derived.Test.YtmmihcophkipoaaDoorD14
namespace Go.Proofs.YtmmihcophkipoaaDoor
open Go.ChangeShapes Go.WideShapes Go.ChangeAt Go.RowKit
set_option linter.unusedVariables false
set_option linter.unusedSimpArgs false
set_option maxRecDepth 100000

theorem own : ownKnob Tryd.prog.godebug = none := by kernel_rfl
theorem laidOut : laidOutB Tryd.prog = true := by kernel_rfl

theorem trodAll_below {H : Type} {enc : TypeId × Value → H} {P : Program} (hl : laidOutB P = true) {W W' : World} (hb : Below W.heap.size W W') :
    ∀ {ts : List TypeId} {vs : List Value} {ds : List (DataW H)} {ps : List MemPlace}, (∀ t ∈ ts, P.readableRec t = true ∧ t < P.types.size) → (∀ x ∈ ps, x.block < W.heap.size) →
      DataW.TrodAll enc P W 0 (fun _ => true) true ts vs ds ps → DataW.TrodAll enc P W' 0 (fun b => decide (b < W.heap.size)) true ts vs ds ps
  | [], [], [], _, _, _, h => h
  | t :: ts, v :: vs, d :: ds, ps, ht, hlt, ⟨p, q, h1, h2, e⟩ => by
    subst e
    exact ⟨p, q, Below.trod hl (ht t (by simp)).1 (ht t (by simp)).2 h1 hb (fun x hx => hlt x (List.mem_append_left _ hx)),
      trodAll_below hl hb (fun t' h' => ht t' (by simp [h'])) (fun x hx => hlt x (List.mem_append_right _ hx)) h2, rfl⟩

/-- an argument that is an array of integers -/
theorem open_intarr {H : Type} {enc : TypeId × Value → H} {P : Program} {w : World} {r : Reach} {b0 base : Nat} {spare : Nat → Bool} {held : Bool} {t e : TypeId} {n : Nat} {k : IntKind} {v : Value} {d : DataW H} {p : List MemPlace}
    (ht : P.underlying t = some (.array n e)) (he : P.underlying e = some (.int k)) (hC : P.cellsOf e = 1) (hCt : P.cellsOf t = n)
    (hv : Value.okWide P w r b0 t v) (h : DataW.Trod enc P w base spare held t v d p) :
    ∃ ns : List Int, v = .agg (ns.map (Value.int k)).toArray ∧ ns.length = n ∧ ∀ x ∈ ns, (Lit.int k x).wf = true := by
  unfold Value.okWide at hv
  rw [ht] at hv
  obtain ⟨cs, rfl, hs, _⟩ := hv
  rw [hCt] at hs
  obtain ⟨fuel, hf⟩ := h
  obtain ⟨xs, m, _, _, _, hxl, hx⟩ := DataW.trod_array ht hf
  have key : ∀ i (hi : i < cs.size), ∃ q : Int, cs[i] = .int k q ∧ (Lit.int k q).wf = true := by
    intro i hi
    have h1 := hx i (by omega)
    rw [hC, Nat.mul_one] at h1
    have h2 : ((Value.agg cs).cells.toList.drop i).take 1 = [cs[i]] := by
      show (cs.toList.drop i).take 1 = [cs[i]]
      rw [List.drop_eq_getElem_cons (by simpa using hi)]
      simp
    rw [h2, List.getElem?_eq_getElem (by omega)] at h1
    obtain ⟨q, hq, _, hw⟩ := DataW.trod_int he h1
    exact ⟨q, by simpa using hq, hw⟩
  refine ⟨cs.toList.map intOf, ?_, by simpa using hs, ?_⟩
  · congr 1
    apply Array.ext
    · simp
    · intro i h1 h2
      obtain ⟨q, hq, _⟩ := key i h1
      simp [hq, intOf]
  · intro x hxm
    rw [List.mem_map] at hxm
    obtain ⟨u, hu, rfl⟩ := hxm
    obtain ⟨i, hi, rfl⟩ := List.getElem_of_mem hu
    obtain ⟨q, hq, hw⟩ := key i (by simpa using hi)
    simp only [Array.getElem_toList, hq, intOf]
    exact hw

theorem list1 {α : Type} {l : List α} (h : l.length = 1) : ∃ a, l = [a] := by
  match l, h with
  | [a], _ => exact ⟨a, rfl⟩
theorem list2 {α : Type} {l : List α} (h : l.length = 2) : ∃ a b, l = [a, b] := by
  match l, h with
  | [a, b], _ => exact ⟨a, b, rfl⟩
theorem list3 {α : Type} {l : List α} (h : l.length = 3) : ∃ a b c, l = [a, b, c] := by
  match l, h with
  | [a, b, c], _ => exact ⟨a, b, c, rfl⟩
theorem list4 {α : Type} {l : List α} (h : l.length = 4) : ∃ a b c d, l = [a, b, c, d] := by
  match l, h with
  | [a, b, c, d], _ => exact ⟨a, b, c, d, rfl⟩

/-- an argument that is a slice, of whatever element type: its elements' cells, each with its own reading -/
theorem open_slice_cs {H : Type} {enc : TypeId × Value → H} {P : Program} {w : World} {base : Nat} {spare : Nat → Bool} {held : Bool} {t e : TypeId} {sz : Nat} {fuel : Nat} {cs : List Value} {x : DataW H × List MemPlace}
    (ht : P.underlying t = some (.slice e)) (hC : P.cellsOf e = sz) (hsz : 0 < sz) (hf : DataW.trod enc P w base spare held fuel t cs = some x) :
    ∃ (A : Option Addr) (n c : Nat) (els : Nat → List Value), cs = [.slice A n c] ∧ n ≤ c ∧ c ≤ maxLen ∧ Rd w 0 sz A n ((List.range n).flatMap els) ∧
      ∀ i, i < n → (els i).length = sz ∧ ∃ fuel x, DataW.trod enc P w base spare held fuel e (els i) = some x := by
  rcases Go.Deep.open_slice ht hf with ⟨hcs, _⟩ | ⟨a, len, cap, m, n, D, Pl, hcs, _, hl, hm, hmm, _, hi⟩
  · exact ⟨none, 0, 0, fun _ => [], hcs, Nat.le_refl _, by simp [maxLen], Rd.nil, fun i h => absurd h (by omega)⟩
  · have hlm : len ≤ m := by rw [hmm]; split <;> omega
    rw [hC] at hi
    have hch : ∃ els : Nat → List Value, ∀ i, i < len → w.cells? base (a.add (i * sz)) sz = some (els i) ∧ DataW.trod enc P w base spare held n e (els i) = some (D i, Pl i) := by
      refine ⟨fun i => (w.cells? base (a.add (i * sz)) sz).getD [], fun i hil => ?_⟩
      obtain ⟨cs', h1, h2⟩ := hi i (by omega)
      simp only [h1, Option.getD_some]
      exact ⟨trivial, h2⟩
    obtain ⟨els, hels⟩ := hch
    have hlen : ∀ i, i < len → (els i).length = sz := fun i hil => (World.cells?_some (hels i hil).1).2.1
    have hcell : ∀ i, i < len → ∀ j, j < sz → w.cell? (a.add (i * sz + j)) = (els i)[j]? := fun i hil j hj => by
      have := (World.cells?_some (hels i hil).1).2.2 j hj
      rwa [addr_add] at this
    have key : ∀ m, m ≤ len → ((List.range m).flatMap els).length = m * sz ∧ ∀ j u, ((List.range m).flatMap els)[j]? = some u → w.cell? (a.add j) = some u := by
      intro m
      induction m with
      | zero => intro _; simp
      | succ m ih =>
        intro hm'
        obtain ⟨k1, k2⟩ := ih (by omega)
        rw [List.range_succ, List.flatMap_append]
        simp only [List.flatMap_cons, List.flatMap_nil, List.append_nil]
        refine ⟨by rw [List.length_append, k1, hlen m (by omega), Nat.add_mul]; omega, fun j u hu => ?_⟩
        by_cases hj : j < m * sz
        · rw [List.getElem?_append_left (by omega)] at hu
          exact k2 j u hu
        · rw [List.getElem?_append_right (by omega), k1] at hu
          have hjs : j - m * sz < sz := by
            have := (List.getElem?_eq_some_iff.1 hu).1
            rw [hlen m (by omega)] at this
            exact this
          have := hcell m (by omega) (j - m * sz) hjs
          rw [show m * sz + (j - m * sz) = j by omega] at this
          rw [this, hu]
    obtain ⟨k1, k2⟩ := key len (Nat.le_refl _)
    refine ⟨some a, len, cap, els, hcs, hl, hm, ⟨k1, fun hn => ⟨a, rfl, ?_, .inl rfl, k2⟩⟩, fun i hil => ⟨hlen i hil, n, _, (hels i hil).2⟩⟩
    have hpos : 0 < ((List.range len).flatMap els).length := by rw [k1]; exact Nat.mul_pos hn hsz
    have h0 := k2 0 _ (List.getElem?_eq_getElem hpos)
    have := World.block_lt_of_cell? w _ h0
    rwa [addr_block] at this
theorem list_of {α β : Type} (els : Nat → List β) (f : α → List β) (Q : α → Prop) (n : Nat) (h : ∀ i, i < n → ∃ x, els i = f x ∧ Q x) :
    ∃ l : List α, l.length = n ∧ (List.range n).flatMap els = l.flatMap f ∧ ∀ x ∈ l, Q x := by
  induction n with
  | zero => exact ⟨[], rfl, rfl, by simp⟩
  | succ n ih =>
    obtain ⟨l, h1, h2, h3⟩ := ih (fun i hi => h i (by omega))
    obtain ⟨x, hx, hq⟩ := h n (by omega)
    refine ⟨l ++ [x], by simp [h1], ?_, ?_⟩
    · rw [List.range_succ, List.flatMap_append, List.flatMap_append, h2]
      simp [hx]
    · intro y hy
      rcases List.mem_append.1 hy with h' | h'
      · exact h3 y h'
      · rw [List.mem_singleton.1 h']; exact hq

theorem flat2_at {α β : Type} (l : List α) (f g : α → β) (i : Nat) (h : i < l.length) :
    (l.flatMap fun x => [f x, g x])[i * 2]? = some (f l[i]) ∧ (l.flatMap fun x => [f x, g x])[i * 2 + 1]? = some (g l[i]) := by
  induction l generalizing i with
  | nil => simp at h
  | cons a l ih =>
    cases i with
    | zero => simp
    | succ i =>
      have := ih i (by simpa using h)
      rw [show (i + 1) * 2 = i * 2 + 1 + 1 by omega]
      simpa using this

/-- a slice, as an argument -/
theorem open_slice_rd {H : Type} {enc : TypeId × Value → H} {P : Program} {w : World} {r : Reach} {b0 base : Nat} {spare : Nat → Bool} {held : Bool} {t e : TypeId} {sz : Nat} {v : Value} {d : DataW H} {p : List MemPlace}
    (ht : P.underlying t = some (.slice e)) (hC : P.cellsOf e = sz) (hsz : 0 < sz) (hv : Value.okWide P w r b0 t v) (h : DataW.Trod enc P w base spare held t v d p) :
    ∃ (A : Option Addr) (n c : Nat) (els : Nat → List Value), v = .slice A n c ∧ n ≤ c ∧ c ≤ maxLen ∧ Rd w 0 sz A n ((List.range n).flatMap els) ∧
      ∀ i, i < n → (els i).length = sz ∧ ∃ fuel x, DataW.trod enc P w base spare held fuel e (els i) = some x := by
  obtain ⟨a0, len, cap, rfl⟩ := okWide_slice ht hv
  obtain ⟨fuel, hf⟩ := h
  obtain ⟨A, n, c, els, hcs, h1, h2, h3, h4⟩ := open_slice_cs ht hC hsz hf
  simp only [Value.cells] at hcs
  injection hcs with hcs
  exact ⟨A, n, c, els, hcs, h1, h2, h3, h4⟩
theorem flat_one {α β : Type} (f : α → β) (l : List α) : l.flatMap (fun x => [f x]) = l.map f := by
  induction l with
  | nil => rfl
  | cons a l ih => simp [ih]
theorem bytes_of {H : Type} {enc : TypeId × Value → H} {w : World} {base : Nat} {spare : Nat → Bool} {held : Bool} {n : Nat} (els : Nat → List Value)
    (h : ∀ i, i < n → (els i).length = 1 ∧ ∃ fuel x, DataW.trod enc Tryd.prog w base spare held fuel 5 (els i) = some x) :
    ∃ l : List UInt8, l.length = n ∧ (List.range n).flatMap els = bv l := by
  obtain ⟨l, h1, h2, _⟩ := list_of (α := UInt8) els (fun c => [.int .u8 c.toNat]) (fun _ => True) n (fun i hi => by
    obtain ⟨_, fuel, x, hx⟩ := h i hi
    obtain ⟨a, ha, _, wa⟩ := DataW.trod_int Tryd.underlying5 hx
    have b : 0 ≤ a ∧ a ≤ 255 := by simpa [Lit.wf, IntKind.min, IntKind.max, IntKind.signed, IntKind.bits] using wa
    refine ⟨UInt8.ofNat a.toNat, ?_, trivial⟩
    rw [ha]
    have : (((UInt8.ofNat a.toNat).toNat : Nat) : Int) = a := by
      simp [UInt8.toNat_ofNat']
      omega
    rw [this])
  exact ⟨l, h1, by rw [h2, flat_one]; rfl⟩
/-- []uint8 -/
theorem open_bytes {H : Type} {enc : TypeId × Value → H} {w : World} {r : Reach} {b0 base : Nat} {spare : Nat → Bool} {held : Bool} {v : Value} {d : DataW H} {p : List MemPlace}
    (hv : Value.okWide Tryd.prog w r b0 23 v) (h : DataW.Trod enc Tryd.prog w base spare held 23 v d p) :
    ∃ (A : Option Addr) (c : Nat) (l : List UInt8), v = .slice A l.length c ∧ Rd w 0 1 A l.length (bv l) ∧ l.length ≤ maxLen := by
  obtain ⟨A, n, c, els, rfl, hnc, hcm, hrd, hel⟩ := open_slice_rd (e := 5) (sz := 1) Tryd.underlying23 (by kernel_rfl) (by omega) hv h
  obtain ⟨l, rfl, h2⟩ := bytes_of els hel
  rw [h2] at hrd
  exact ⟨A, c, l, rfl, hrd, by omega⟩
/-- [][]uint8 -/
theorem open_bytess {H : Type} {enc : TypeId × Value → H} {w : World} {r : Reach} {b0 base : Nat} {spare : Nat → Bool} {held : Bool} {v : Value} {d : DataW H} {p : List MemPlace}
    (hv : Value.okWide Tryd.prog w r b0 22 v) (h : DataW.Trod enc Tryd.prog w base spare held 22 v d p) :
    ∃ (A : Option Addr) (c : Nat) (ll : List (List UInt8)), v = .slice A ll.length c ∧ Bss w A ll ∧ ll.length ≤ maxLen := by
  obtain ⟨A, n, c, els, rfl, hnc, hcm, hrd, hel⟩ := open_slice_rd (e := 23) (sz := 1) Tryd.underlying22 (by kernel_rfl) (by omega) hv h
  obtain ⟨q, h1, h2, h3⟩ := list_of (α := List UInt8 × Option Addr × Nat) els (fun q => [.slice q.2.1 q.1.length q.2.2]) (fun q => Rd w 0 1 q.2.1 q.1.length (bv q.1) ∧ q.1.length ≤ maxLen) n (fun i hi => by
    obtain ⟨_, fuel, x, hx⟩ := hel i hi
    obtain ⟨a, m, c', els', e, hn', hc', hr', hel'⟩ := open_slice_cs (e := 5) (sz := 1) Tryd.underlying23 (by kernel_rfl) (by omega) hx
    obtain ⟨l, rfl, h2⟩ := bytes_of els' hel'
    rw [h2] at hr'
    exact ⟨(l, a, c'), e, hr', by simp only; omega⟩)
  rw [h2, flat_one] at hrd
  subst h1
  refine ⟨A, c, q.map (·.1), by simp, ⟨_, by simpa using hrd, fun i hi => ?_⟩, by simp; omega⟩
  have hi' : i < q.length := by simpa using hi
  have := h3 q[i] (List.getElem_mem hi')
  exact ⟨q[i].2.1, q[i].2.2, by simp [hi'], by simpa using this.1, by simpa using this.2⟩
/-- []string -/
theorem open_strs {H : Type} {enc : TypeId × Value → H} {w : World} {r : Reach} {b0 base : Nat} {spare : Nat → Bool} {held : Bool} {v : Value} {d : DataW H} {p : List MemPlace}
    (hv : Value.okWide Tryd.prog w r b0 25 v) (h : DataW.Trod enc Tryd.prog w base spare held 25 v d p) :
    ∃ (A : Option Addr) (c : Nat) (l : List W), v = .slice A l.length c ∧ Rd w 0 1 A l.length (sv l) ∧ l.length ≤ c ∧ c ≤ maxLen ∧ ∀ x ∈ l, x.length ≤ maxLen := by
  obtain ⟨A, n, c, els, rfl, hnc, hcm, hrd, hel⟩ := open_slice_rd (e := 9) (sz := 1) Tryd.underlying25 (by kernel_rfl) (by omega) hv h
  obtain ⟨l, h1, h2, h3⟩ := list_of (α := W) els (fun s => [.string (bs s)]) (fun s => s.length ≤ maxLen) n (fun i hi => by
    obtain ⟨_, fuel, x, hx⟩ := hel i hi
    obtain ⟨s, hs, _, hm⟩ := DataW.trod_string Tryd.underlying9 hx
    refine ⟨s.data.toList, by rw [hs]; rfl, ?_⟩
    have : s.data.toList.length = s.size := Array.length_toList
    omega)
  rw [h2, flat_one] at hrd
  subst h1
  exact ⟨A, c, l, rfl, hrd, hnc, hcm, h3⟩
/-- api.Dawg -/
theorem open_dawg {H : Type} {enc : TypeId × Value → H} {w : World} {r : Reach} {b0 base : Nat} {spare : Nat → Bool} {held : Bool} {v : Value} {d : DataW H} {p : List MemPlace}
    (hv : Value.okWide Tryd.prog w r b0 28 v) (h : DataW.Trod enc Tryd.prog w base spare held 28 v d p) :
    ∃ (A : Option Addr) (c : Nat) (d : Au), v = .slice A d.length c ∧ Dw w A d ∧ d.length ≤ c ∧ c ≤ maxLen ∧ ∀ x ∈ d, ∀ a ∈ x.2, (Lit.int .i64 a.2).wf = true := by
  obtain ⟨A, n, c, els, rfl, hnc, hcm, hrd, hel⟩ := open_slice_rd (e := 44) (sz := 2) Tryd.underlying28 (by kernel_rfl) (by omega) hv h
  obtain ⟨q, h1, h2, h3⟩ := list_of (α := (Bool × List (UInt8 × Int)) × Option Addr × Nat) els (fun q => [.bool q.1.1, .slice q.2.1 q.1.2.length q.2.2])
      (fun q => Rd w 0 2 q.2.1 q.1.2.length (acells q.1.2) ∧ q.1.2.length ≤ q.2.2 ∧ q.2.2 ≤ maxLen ∧ ∀ a ∈ q.1.2, (Lit.int .i64 a.2).wf = true) n (fun i hi => by
    obtain ⟨_, fuel, x, hx⟩ := hel i hi
    obtain ⟨y0, y1, m, _, hl, k0, k1⟩ := trod_struct2 Tryd.underlying44 hx
    have hc44 : Tryd.prog.cellsOf 44 = 2 := by kernel_rfl
    have hc4 : Tryd.prog.cellsOf 4 = 1 := by kernel_rfl
    have hc42 : Tryd.prog.cellsOf 42 = 1 := by kernel_rfl
    rw [hc44] at hl
    obtain ⟨u, z, huz⟩ : ∃ u z, els i = [u, z] := by
      match he : els i, hl with
      | [a, b], _ => exact ⟨a, b, rfl⟩
    rw [huz] at k0 k1
    simp only [hc4, hc42, List.drop_zero, List.take_succ_cons, List.take_zero, List.drop_succ_cons] at k0 k1
    obtain ⟨b, hb, _⟩ := DataW.trod_bool Tryd.underlying4 k0
    obtain ⟨a, m', c', els', e, hn', hc', hr', hel'⟩ := open_slice_cs (e := 49) (sz := 2) Tryd.underlying42 (by kernel_rfl) (by omega) k1
    obtain ⟨l, g1, g2, g3⟩ := list_of (α := UInt8 × Int) els' (fun a => [.int .u8 a.1.toNat, .int .i64 a.2]) (fun a => (Lit.int .i64 a.2).wf = true) m' (fun j hj => by
      obtain ⟨_, fuel', x', hx'⟩ := hel' j hj
      obtain ⟨z0, z1, m2, _, hl2, j0, j1⟩ := trod_struct2 Tryd.underlying49 hx'
      have hc49 : Tryd.prog.cellsOf 49 = 2 := by kernel_rfl
      have hc5 : Tryd.prog.cellsOf 5 = 1 := by kernel_rfl
      have hc3 : Tryd.prog.cellsOf 3 = 1 := by kernel_rfl
      rw [hc49] at hl2
      obtain ⟨u', z', huz'⟩ : ∃ u z, els' j = [u, z] := by
        match he : els' j, hl2 with
        | [a, b], _ => exact ⟨a, b, rfl⟩
      rw [huz'] at j0 j1
      simp only [hc5, hc3, List.drop_zero, List.take_succ_cons, List.take_zero, List.drop_succ_cons] at j0 j1
      obtain ⟨p0, hp0, _, wp0⟩ := DataW.trod_int Tryd.underlying5 j0
      obtain ⟨p1, hp1, _, wp1⟩ := DataW.trod_int Tryd.underlying3 j1
      have b0 : 0 ≤ p0 ∧ p0 ≤ 255 := by simpa [Lit.wf, IntKind.min, IntKind.max, IntKind.signed, IntKind.bits] using wp0
      simp at hp0 hp1
      refine ⟨(UInt8.ofNat p0.toNat, p1), ?_, wp1⟩
      rw [huz', hp0, hp1]
      have : (((UInt8.ofNat p0.toNat).toNat : Nat) : Int) = p0 := by
        simp [UInt8.toNat_ofNat']
        omega
      simp only [this])
    subst g1
    rw [g2] at hr'
    simp at hb e
    exact ⟨((b, l), a, c'), by rw [huz, hb, e], hr', hn', hc', g3⟩)
  rw [h2] at hrd
  subst h1
  refine ⟨A, c, q.map (·.1), by simp, ⟨_, by simpa using hrd, fun i hi => ?_⟩, by simpa using hnc, hcm, ?_⟩
  · have hi' : i < q.length := by simpa using hi
    obtain ⟨k1, k2, k3, _⟩ := h3 q[i] (List.getElem_mem hi')
    have hg := flat2_at q (fun q => Value.bool q.1.1) (fun q => Value.slice q.2.1 q.1.2.length q.2.2) i hi'
    exact ⟨q[i].2.1, q[i].2.2, by simpa using hg.1, by simpa using hg.2, by simpa using k1, by simpa using k2, k3⟩
  · intro x hx a ha
    obtain ⟨y, hy, rfl⟩ := List.mem_map.1 hx
    exact (h3 y hy).2.2.2 a ha

/-- the listed variables -/
def laidL : List (String × DataW Unit) := Rows.dawgPlacesRow.laid
theorem laid_global : Tryd.prog.globalNamed (Rows.dawgPlacesRow.named.headD "") = some 0 := by kernel_rfl
theorem tb_of {W : World} (h : laidMetH Tryd.prog laidL W) : Tb W := by
  have h1 := h.filter (fun x => x.1 == tabName)
  have e : laidL.filter (fun x => x.1 == tabName) = [(tabName, Lib.tabData .u64 Lib.pow10Tab)] := by kernel_rfl
  rw [e, MakeChecks.laidMetH_plain _ _ _ (by kernel_rfl)] at h1
  exact Lib.tabIs_of_head (t := 179) (e := 170) (n := 20) tab_global (by kernel_rfl) (by kernel_rfl) (by kernel_rfl) (by kernel_rfl) (by kernel_rfl) h1
theorem door_met (os : Os) (args : Array Value) : laidMetH Tryd.prog laidL ((World.laidAll Tryd.prog os laidL).forCall (fun _ _ => 0) ⟨#[], args, []⟩).memory := by
  rw [MakeChecks.laidMetH_plain _ _ _ (by kernel_rfl)]
  exact laidMet_laidAll _ (by kernel_rfl) (by kernel_rfl)
theorem door_shaped (os : Os) (args : Array Value) : ((World.laidAll Tryd.prog os laidL).forCall (fun _ _ => 0) ⟨#[], args, []⟩).Shaped Tryd.prog :=
  World.shaped_of_ZipB (by kernel_rfl) (by kernel_rfl)

/-- a law's post condition -/
theorem law_post {H : Type} {enc : TypeId × Value → H} {P : Program} {f : Func} {s : ChangeSpec} {W W' : World} {args : Array Value} {v : Value} {ds gs : List (DataW H)} {before : List MemPlace}
    (hl : laidOutB P = true) (hr : (f.params.toList.all fun t => P.readableRec t && decide (t < P.types.size)) = true)
    (hv : s.vars = []) (hW : DataW.Whole enc P f.params.toList s.vars false W args.toList ds gs before)
    (hres : ∀ (b : Nat) (sp : Nat → Bool) (hd : Bool), DataW.TrodAll enc P W' b sp hd f.resultTypes.toList (v.resultList f.resultTypes.size) (s.fn H (ds ++ gs)).results [])
    (hargs : gs = [] → (s.fn H (ds ++ gs)).args = ds ∧ (s.fn H (ds ++ gs)).vars = []) (hb : Below W.heap.size W W') :
    s.post enc P f false true false false W args v W' := by
  have hrd : ∀ t ∈ f.params.toList, P.readableRec t = true ∧ t < P.types.size := fun t ht => by
    have := List.all_eq_true.1 hr t ht
    simpa using this
  have hlt : ∀ p ∈ before, p.block < W.heap.size := fun p hp => hW.lt p hp
  have hW0 := hW
  obtain ⟨p, q, hA, hV, rfl, _, _⟩ := hW
  rw [hv] at hV
  obtain ⟨rfl, rfl⟩ := trodVars_none hV
  obtain ⟨ha, hvs⟩ := hargs rfl
  refine ⟨ds, [], p ++ [], [], p, [], hW0, hres _ _ _, ?_, ?_, World.keptBut_mono (fun x hx => ⟨hx, ?_⟩) (hb.frame (· ∈ p ++ [])), fun h => by cases h⟩
  · rw [ha]
    exact trodAll_below hl hb hrd (fun x hx => hlt x (by simpa using hx)) hA
  · rw [hv, hvs]
    rfl
  · exact Or.inr (Or.inl (by simpa using hx))
end Go.Proofs.YtmmihcophkipoaaDoor
