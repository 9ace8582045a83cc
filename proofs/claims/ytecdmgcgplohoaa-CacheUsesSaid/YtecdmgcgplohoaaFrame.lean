/-
  The last step of every law of this seat: where the call returned true and nothing that was there has changed, the row's post condition holds.
-/
import Derived.Test.YtecdmgcgplohoaaRows
import Derived.WalkKit
import Derived.ProofKit
import Derived.OpenShut
import Derived.Carry
import Derived.Deep.Slices
import Derived.Test.YtecdmgcgplohoaaMem
namespace Go.Proofs.Ytecdmgcgplohoaa
open Go.ChangeShapes Go.WideShapes Go.ChangeAt Go.RowKit
set_option linter.unusedVariables false
set_option linter.unusedSimpArgs false

theorem own : ownKnob Try.prog.godebug = none := by kernel_rfl
theorem laidOut : laidOutB Try.prog = true := by kernel_rfl

theorem trodAll_below {H : Type} {enc : TypeId × Value → H} {P : Program} (hl : laidOutB P = true) {W W' : World} (hb : Below W.heap.size W W') :
    ∀ {ts : List TypeId} {vs : List Value} {ds : List (DataW H)} {ps : List MemPlace}, (∀ t ∈ ts, P.readableRec t = true ∧ t < P.types.size) → (∀ x ∈ ps, x.block < W.heap.size) →
      DataW.TrodAll enc P W 0 (fun _ => true) true ts vs ds ps → DataW.TrodAll enc P W' 0 (fun b => decide (b < W.heap.size)) true ts vs ds ps
  | [], [], [], _, _, _, h => h
  | t :: ts, v :: vs, d :: ds, ps, ht, hlt, ⟨p, q, h1, h2, e⟩ => by
    subst e
    exact ⟨p, q, Below.trod hl (ht t (by simp)).1 (ht t (by simp)).2 h1 hb (fun x hx => hlt x (List.mem_append_left _ hx)),
      trodAll_below hl hb (fun t' h' => ht t' (by simp [h'])) (fun x hx => hlt x (List.mem_append_right _ hx)) h2, rfl⟩

/-- an argument that is an array of integers -/
theorem open_intarr {H : Type} {enc : TypeId × Value → H} {P : Program} {w : World} {r : Reach} {b0 base : Nat} {spare : Nat → Bool} {held : Bool} {t e : TypeId} {n : Nat} {k : IntKind} {v : Value} {d : DataW H} {p : List MemPlace}
    (ht : P.underlying t = some (.array n e)) (he : P.underlying e = some (.int k)) (hC : P.cellsOf e = 1) (hCt : P.cellsOf t = n)
    (hv : Value.okWide P w r b0 t v) (h : DataW.Trod enc P w base spare held t v d p) :
    ∃ ns : List Int, v = .agg (ns.map (Value.int k)).toArray ∧ ns.length = n ∧ ∀ x ∈ ns, (Lit.int k x).wf = true := by
  unfold Value.okWide at hv
  rw [ht] at hv
  obtain ⟨cs, rfl, hs, _⟩ := hv
  rw [hCt] at hs
  obtain ⟨fuel, hf⟩ := h
  obtain ⟨xs, m, _, _, _, hxl, hx⟩ := DataW.trod_array ht hf
  have key : ∀ i (hi : i < cs.size), ∃ q : Int, cs[i] = .int k q ∧ (Lit.int k q).wf = true := by
    intro i hi
    have h1 := hx i (by omega)
    rw [hC, Nat.mul_one] at h1
    have h2 : ((Value.agg cs).cells.toList.drop i).take 1 = [cs[i]] := by
      show (cs.toList.drop i).take 1 = [cs[i]]
      rw [List.drop_eq_getElem_cons (by simpa using hi)]
      simp
    rw [h2, List.getElem?_eq_getElem (by omega)] at h1
    obtain ⟨q, hq, _, hw⟩ := DataW.trod_int he h1
    exact ⟨q, by simpa using hq, hw⟩
  refine ⟨cs.toList.map intOf, ?_, by simpa using hs, ?_⟩
  · congr 1
    apply Array.ext
    · simp
    · intro i h1 h2
      obtain ⟨q, hq, _⟩ := key i h1
      simp [hq, intOf]
  · intro x hxm
    rw [List.mem_map] at hxm
    obtain ⟨u, hu, rfl⟩ := hxm
    obtain ⟨i, hi, rfl⟩ := List.getElem_of_mem hu
    obtain ⟨q, hq, hw⟩ := key i (by simpa using hi)
    simp only [Array.getElem_toList, hq, intOf]
    exact hw

theorem list1 {α : Type} {l : List α} (h : l.length = 1) : ∃ a, l = [a] := by
  match l, h with
  | [a], _ => exact ⟨a, rfl⟩
theorem list2 {α : Type} {l : List α} (h : l.length = 2) : ∃ a b, l = [a, b] := by
  match l, h with
  | [a, b], _ => exact ⟨a, b, rfl⟩
theorem list3 {α : Type} {l : List α} (h : l.length = 3) : ∃ a b c, l = [a, b, c] := by
  match l, h with
  | [a, b, c], _ => exact ⟨a, b, c, rfl⟩
theorem list4 {α : Type} {l : List α} (h : l.length = 4) : ∃ a b c d, l = [a, b, c, d] := by
  match l, h with
  | [a, b, c, d], _ => exact ⟨a, b, c, d, rfl⟩

/-- an argument that is a slice, of whatever element type: its elements' cells, each with its own reading -/
theorem open_slice_rd {H : Type} {enc : TypeId × Value → H} {P : Program} {w : World} {r : Reach} {b0 base : Nat} {spare : Nat → Bool} {held : Bool} {t e : TypeId} {sz : Nat} {v : Value} {d : DataW H} {p : List MemPlace}
    (ht : P.underlying t = some (.slice e)) (hC : P.cellsOf e = sz) (hsz : 0 < sz) (hv : Value.okWide P w r b0 t v) (h : DataW.Trod enc P w base spare held t v d p) :
    ∃ (A : Option Addr) (n c : Nat) (els : Nat → List Value), v = .slice A n c ∧ n ≤ c ∧ c ≤ maxLen ∧ Rd w 0 sz A n ((List.range n).flatMap els) ∧
      ∀ i, i < n → (els i).length = sz ∧ ∃ fuel x, DataW.trod enc P w base spare held fuel e (els i) = some x := by
  obtain ⟨a0, len, cap, rfl⟩ := okWide_slice ht hv
  obtain ⟨fuel, hf⟩ := h
  rcases Go.Deep.open_slice ht hf with ⟨hcs, _⟩ | ⟨a, len', cap', m, n, D, Pl, hcs, _, hl, hm, hmm, _, hi⟩
  · simp only [Value.cells] at hcs
    injection hcs with hcs
    injection hcs with e1 e2 e3
    subst e1 e2 e3
    exact ⟨none, 0, 0, fun _ => [], rfl, Nat.le_refl _, by simp [maxLen], Rd.nil, fun i h => absurd h (by omega)⟩
  · simp only [Value.cells] at hcs
    injection hcs with hcs
    injection hcs with e1 e2 e3
    subst e1 e2 e3
    have hlm : len ≤ m := by rw [hmm]; split <;> omega
    rw [hC] at hi
    have hch : ∃ els : Nat → List Value, ∀ i, i < len → w.cells? base (a.add (i * sz)) sz = some (els i) ∧ DataW.trod enc P w base spare held n e (els i) = some (D i, Pl i) := by
      refine ⟨fun i => (w.cells? base (a.add (i * sz)) sz).getD [], fun i hil => ?_⟩
      obtain ⟨cs', h1, h2⟩ := hi i (by omega)
      simp only [h1, Option.getD_some]
      exact ⟨trivial, h2⟩
    obtain ⟨els, hels⟩ := hch
    have hlen : ∀ i, i < len → (els i).length = sz := fun i hil => (World.cells?_some (hels i hil).1).2.1
    have hcell : ∀ i, i < len → ∀ j, j < sz → w.cell? (a.add (i * sz + j)) = (els i)[j]? := fun i hil j hj => by
      have := (World.cells?_some (hels i hil).1).2.2 j hj
      rwa [addr_add] at this
    have key : ∀ m, m ≤ len → ((List.range m).flatMap els).length = m * sz ∧ ∀ j u, ((List.range m).flatMap els)[j]? = some u → w.cell? (a.add j) = some u := by
      intro m
      induction m with
      | zero => intro _; simp
      | succ m ih =>
        intro hm'
        obtain ⟨k1, k2⟩ := ih (by omega)
        rw [List.range_succ, List.flatMap_append]
        simp only [List.flatMap_cons, List.flatMap_nil, List.append_nil]
        refine ⟨by rw [List.length_append, k1, hlen m (by omega), Nat.add_mul]; omega, fun j u hu => ?_⟩
        by_cases hj : j < m * sz
        · rw [List.getElem?_append_left (by omega)] at hu
          exact k2 j u hu
        · rw [List.getElem?_append_right (by omega), k1] at hu
          have hjs : j - m * sz < sz := by
            have := (List.getElem?_eq_some_iff.1 hu).1
            rw [hlen m (by omega)] at this
            exact this
          have := hcell m (by omega) (j - m * sz) hjs
          rw [show m * sz + (j - m * sz) = j by omega] at this
          rw [this, hu]
    obtain ⟨k1, k2⟩ := key len (Nat.le_refl _)
    refine ⟨some a, len, cap, els, rfl, hl, hm, ⟨k1, fun hn => ⟨a, rfl, ?_, .inl rfl, k2⟩⟩, fun i hil => ⟨hlen i hil, n, _, (hels i hil).2⟩⟩
    have hpos : 0 < ((List.range len).flatMap els).length := by rw [k1]; exact Nat.mul_pos hn hsz
    have h0 := k2 0 _ (List.getElem?_eq_getElem hpos)
    have := World.block_lt_of_cell? w _ h0
    rwa [addr_block] at this
theorem list_of {α β : Type} (els : Nat → List β) (f : α → List β) (Q : α → Prop) (n : Nat) (h : ∀ i, i < n → ∃ x, els i = f x ∧ Q x) :
    ∃ l : List α, l.length = n ∧ (List.range n).flatMap els = l.flatMap f ∧ ∀ x ∈ l, Q x := by
  induction n with
  | zero => exact ⟨[], rfl, rfl, by simp⟩
  | succ n ih =>
    obtain ⟨l, h1, h2, h3⟩ := ih (fun i hi => h i (by omega))
    obtain ⟨x, hx, hq⟩ := h n (by omega)
    refine ⟨l ++ [x], by simp [h1], ?_, ?_⟩
    · rw [List.range_succ, List.flatMap_append, List.flatMap_append, h2]
      simp [hx]
    · intro y hy
      rcases List.mem_append.1 hy with h' | h'
      · exact h3 y h'
      · rw [List.mem_singleton.1 h']; exact hq
/-- the cells of an array of two integers -/
theorem trod_arr2 {H : Type} {enc : TypeId × Value → H} {P : Program} {w : World} {base : Nat} {spare : Nat → Bool} {held : Bool} {t e : TypeId} {k : IntKind} {fuel : Nat} {cs : List Value} {x : DataW H × List MemPlace}
    (ht : P.underlying t = some (.array 2 e)) (he : P.underlying e = some (.int k)) (hC : P.cellsOf e = 1) (hCt : P.cellsOf t = 2) (h : DataW.trod enc P w base spare held fuel t cs = some x) :
    ∃ a b : Int, cs = [.int k a, .int k b] ∧ (Lit.int k a).wf = true ∧ (Lit.int k b).wf = true := by
  obtain ⟨xs, m, _, _, hcs, hxl, hx⟩ := DataW.trod_array ht h
  rw [hCt] at hcs
  obtain ⟨u, v, rfl⟩ := list2 hcs
  obtain ⟨y, z, rfl⟩ := list2 hxl
  have h0 := hx 0 (by omega)
  have h1 := hx 1 (by omega)
  rw [hC] at h0 h1
  obtain ⟨a, ha, _, wa⟩ := DataW.trod_int he h0
  obtain ⟨b, hb, _, wb⟩ := DataW.trod_int he h1
  simp at ha hb
  exact ⟨a, b, by rw [ha, hb], wa, wb⟩

/-- a law's post condition -/
theorem law_post {H : Type} {enc : TypeId × Value → H} {P : Program} {f : Func} {s : ChangeSpec} {W W' : World} {args : Array Value} {v : Value} {ds gs : List (DataW H)} {before : List MemPlace}
    (hl : laidOutB P = true) (hr : (f.params.toList.all fun t => P.readableRec t && decide (t < P.types.size)) = true)
    (hv : s.vars = []) (hW : DataW.Whole enc P f.params.toList s.vars false W args.toList ds gs before)
    (hres : ∀ (b : Nat) (sp : Nat → Bool) (hd : Bool), DataW.TrodAll enc P W' b sp hd f.resultTypes.toList (v.resultList f.resultTypes.size) (s.fn H (ds ++ gs)).results [])
    (hargs : gs = [] → (s.fn H (ds ++ gs)).args = ds ∧ (s.fn H (ds ++ gs)).vars = []) (hb : Below W.heap.size W W') :
    s.post enc P f false true false false W args v W' := by
  have hrd : ∀ t ∈ f.params.toList, P.readableRec t = true ∧ t < P.types.size := fun t ht => by
    have := List.all_eq_true.1 hr t ht
    simpa using this
  have hlt : ∀ p ∈ before, p.block < W.heap.size := fun p hp => hW.lt p hp
  have hW0 := hW
  obtain ⟨p, q, hA, hV, rfl, _, _⟩ := hW
  rw [hv] at hV
  obtain ⟨rfl, rfl⟩ := trodVars_none hV
  obtain ⟨ha, hvs⟩ := hargs rfl
  refine ⟨ds, [], p ++ [], [], p, [], hW0, hres _ _ _, ?_, ?_, World.keptBut_mono (fun x hx => ⟨hx, ?_⟩) (hb.frame (· ∈ p ++ [])), fun h => by cases h⟩
  · rw [ha]
    exact trodAll_below hl hb hrd (fun x hx => hlt x (by simpa using hx)) hA
  · rw [hv, hvs]
    rfl
  · exact Or.inr (Or.inl (by simpa using hx))
end Go.Proofs.Ytecdmgcgplohoaa
