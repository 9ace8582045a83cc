/-
  The steps of the shape that is being made: one byte more, one pointer more, a piece of the name more.
-/
import Derived.Test.YtmmihcophkipoaaDoorD26
namespace Go.Proofs.YtmmihcophkipoaaDoor
open Go.ChangeShapes Go.WideShapes Go.ChangeAt Go.RowKit
set_option linter.unusedVariables false
set_option linter.unusedSimpArgs false
section
variable {Z : Nat → Prop} {mb bl s nb : Nat} {l : List W} {w0 w w' : World} {ga gt gn : List (UInt8 × List W)} {vs us : List (List W)} {ps qs : List Nat} {av tv pt nv : Value}
theorem typ_ne {w : World} {a b : Nat} {t u : TypeId} {cs ds : Array Value} {f g : Nat × Nat} (h : w.heap[a]? = some (.cells cs t f)) (k : w.heap[b]? = some (.cells ds u g)) (n : t ≠ u) : a ≠ b := fun e => by
  subst e
  rw [h] at k
  injection k with k
  injection k with _ k2
  exact n k2
theorem own_cells {w : World} {base : Nat} {e : TypeId} {k n b : Nat} {v : Value} {xs : List Value} (h : w.ownsRow base e k v n xs) (hb : some b = v.ownBlock) : ∃ cs, w.heap[b]? = some (.cells cs e (0, 0)) := (own_typ h hb.symm).1
/-- the finished ones, over a step that moves one of the rows -/
theorem Shp.step {Z1 Z2 S : Nat → Prop} (h : Shp Z1 w vs ps) (k : Kp S w w') (hS : ∀ b, S b → Z1 b) (v : Value) (hz : ∀ b, Z2 b → Z1 b ∨ some b = v.ownBlock) (hv : ∀ b, some b = v.ownBlock → Z1 b ∨ w.heap.size ≤ b) : Shp Z2 w' vs ps := by
  have h1 : Shp (fun b => Z1 b ∨ some b = v.ownBlock) w vs ps := h.mono fun b hb e => by
    rcases e with e | e
    · exact e
    · rcases hv b e with h2 | h2
      · exact h2
      · omega
  exact (h1.kp k fun b _ _ _ _ e => .inl (hS b e)).mono fun b _ e => hz b e
theorem Ost.arc (h : Ost Z mb bl s nb l w0 ga gt gn vs ps av tv pt nv w) {av' : Value} (x : UInt8 × List W) (hB : Blk w' s 133 #[.bool (fin l), av', tv, .string (bs [])]) (hA : w'.ownsRow w0.heap.size 5 1 av' (ga ++ [x]).length (bv ((ga ++ [x]).map (·.1))))
    (k : Kp (fun k => k = s ∨ some k = av.ownBlock) w w') (g : Gr w av av') : Ost Z mb bl s nb l w0 (ga ++ [x]) gt gn vs ps av' tv pt nv w' := by
  have hlt := h.ZB
  have hvn : ∀ b, some b = nv.ownBlock → b < w.heap.size := fun b hb => hlt b (.inr (.inr (.inr (.inr (.inr (.inr hb))))))
  refine ⟨hB, hA, own_kp h.T k ?_, h.TV, h.N.kp k ?_, h.P, own_kp h.O k ?_, h.OV, ?_, h.M.kp k ?_, ?_, ?_, h.K.trans k (fun _ _ e => e) ?_, h.s0, h.n0, h.b0⟩
  · intro b hb
    obtain ⟨cs, hc⟩ := own_cells h.T hb.symm
    rintro (e | e)
    · exact typ_ne hc h.S (by decide) e
    · obtain ⟨ds, hd⟩ := own_cells h.A e
      exact typ_ne hc hd (by decide) rfl
  · rintro (e | e)
    · exact typ_ne h.N h.S (by decide) e
    · obtain ⟨ds, hd⟩ := own_cells h.A e
      exact typ_ne h.N hd (by decide) rfl
  · intro b hb
    obtain ⟨cs, hc⟩ := own_cells h.O hb.symm
    rintro (e | e)
    · exact typ_ne hc h.S (by decide) e
    · exact h.AN b e.symm hb
  · refine h.H.step k ?_ av' ?_ ?_
    · rintro b (e | e)
      · exact .inr (.inr (.inl e))
      · exact .inr (.inr (.inr (.inr (.inl e))))
    · rintro b (e | e | e | e | e | e | e)
      · exact .inl (.inl e)
      · exact .inl (.inr (.inl e))
      · exact .inl (.inr (.inr (.inl e)))
      · exact .inl (.inr (.inr (.inr (.inl e))))
      · exact .inr e
      · exact .inl (.inr (.inr (.inr (.inr (.inr (.inl e))))))
      · exact .inl (.inr (.inr (.inr (.inr (.inr (.inr e))))))
    · intro b e
      rcases g b e.symm with h1 | h1
      · exact .inl (.inr (.inr (.inr (.inr (.inl h1.symm)))))
      · exact .inr h1
  · rintro (e | e)
    · exact h.M.not_cells (e ▸ h.S)
    · obtain ⟨ds, hd⟩ := own_cells h.A e
      exact h.M.not_cells hd
  · intro b hb hn
    rcases g b hb with h1 | h1
    · exact h.AN b h1 hn
    · have := hvn b hn.symm; omega
  · rintro b (e | e | e | e | e | e | e)
    · exact Nat.lt_of_lt_of_le (hlt b (.inl e)) k.size
    · exact Nat.lt_of_lt_of_le (hlt b (.inr (.inl e))) k.size
    · exact Nat.lt_of_lt_of_le (hlt b (.inr (.inr (.inl e)))) k.size
    · exact Nat.lt_of_lt_of_le (hlt b (.inr (.inr (.inr (.inl e))))) k.size
    · exact (own_typ hA e.symm).2.2
    · exact Nat.lt_of_lt_of_le (hlt b (.inr (.inr (.inr (.inr (.inr (.inl e))))))) k.size
    · exact Nat.lt_of_lt_of_le (hlt b (.inr (.inr (.inr (.inr (.inr (.inr e))))))) k.size
  · rintro i hi (e | e)
    · have := h.s0; omega
    · have := (own_typ h.A e.symm).2.1; omega
theorem Ost.to_ (h : Ost Z mb bl s nb l w0 ga gt gn vs ps av tv pt nv w) {tv' : Value} (x : UInt8 × List W) (hx : x.2 ∈ vs) (hB : Blk w' s 133 #[.bool (fin l), av, tv', .string (bs [])]) (hT : w'.ownsRow w0.heap.size 88 1 tv' (gt ++ [x]).length (ptrs ps vs (gt ++ [x])))
    (k : Kp (fun k => k = s ∨ some k = tv.ownBlock) w w') (g : Gr w tv tv') : Ost Z mb bl s nb l w0 ga (gt ++ [x]) gn vs ps av tv' pt nv w' := by
  have hlt := h.ZB
  refine ⟨hB, own_kp h.A k ?_, hT, ?_, h.N.kp k ?_, h.P, own_kp h.O k ?_, h.OV, ?_, h.M.kp k ?_, h.AN, ?_, h.K.trans k (fun _ _ e => e) ?_, h.s0, h.n0, h.b0⟩
  · intro b hb
    obtain ⟨cs, hc⟩ := own_cells h.A hb.symm
    rintro (e | e)
    · exact typ_ne hc h.S (by decide) e
    · obtain ⟨ds, hd⟩ := own_cells h.T e
      exact typ_ne hc hd (by decide) rfl
  · intro a ha
    rcases List.mem_append.1 ha with ha | ha
    · exact h.TV a ha
    · rw [List.mem_singleton.1 ha]; exact hx
  · rintro (e | e)
    · exact typ_ne h.N h.S (by decide) e
    · obtain ⟨ds, hd⟩ := own_cells h.T e
      exact typ_ne h.N hd (by decide) rfl
  · intro b hb
    obtain ⟨cs, hc⟩ := own_cells h.O hb.symm
    rintro (e | e)
    · exact typ_ne hc h.S (by decide) e
    · obtain ⟨ds, hd⟩ := own_cells h.T e
      exact typ_ne hc hd (by decide) rfl
  · refine h.H.step k ?_ tv' ?_ ?_
    · rintro b (e | e)
      · exact .inr (.inr (.inl e))
      · exact .inr (.inr (.inr (.inr (.inr (.inl e)))))
    · rintro b (e | e | e | e | e | e | e)
      · exact .inl (.inl e)
      · exact .inl (.inr (.inl e))
      · exact .inl (.inr (.inr (.inl e)))
      · exact .inl (.inr (.inr (.inr (.inl e))))
      · exact .inl (.inr (.inr (.inr (.inr (.inl e)))))
      · exact .inr e
      · exact .inl (.inr (.inr (.inr (.inr (.inr (.inr e))))))
    · intro b e
      rcases g b e.symm with h1 | h1
      · exact .inl (.inr (.inr (.inr (.inr (.inr (.inl h1.symm))))))
      · exact .inr h1
  · rintro (e | e)
    · exact h.M.not_cells (e ▸ h.S)
    · obtain ⟨ds, hd⟩ := own_cells h.T e
      exact h.M.not_cells hd
  · rintro b (e | e | e | e | e | e | e)
    · exact Nat.lt_of_lt_of_le (hlt b (.inl e)) k.size
    · exact Nat.lt_of_lt_of_le (hlt b (.inr (.inl e))) k.size
    · exact Nat.lt_of_lt_of_le (hlt b (.inr (.inr (.inl e)))) k.size
    · exact Nat.lt_of_lt_of_le (hlt b (.inr (.inr (.inr (.inl e))))) k.size
    · exact Nat.lt_of_lt_of_le (hlt b (.inr (.inr (.inr (.inr (.inl e)))))) k.size
    · exact (own_typ hT e.symm).2.2
    · exact Nat.lt_of_lt_of_le (hlt b (.inr (.inr (.inr (.inr (.inr (.inr e))))))) k.size
  · rintro i hi (e | e)
    · have := h.s0; omega
    · have := (own_typ h.T e.symm).2.1; omega
theorem Ost.piece (h : Ost Z mb bl s nb l w0 ga gt gn vs ps av tv pt nv w) {pt' nv' : Value} (gn' : List (UInt8 × List W)) (hx : ∀ a ∈ gn', a.2 ∈ vs) (hP : Pt nb pt') (hN : Blk w' nb 137 #[pt', nv']) (hO : Ob w0.heap.size (truth (fin l) ++ nmG vs gn') nv' w')
    (k : Kp (fun k => k = nb ∨ some k = nv.ownBlock) w w') (g : Gr w nv nv') : Ost Z mb bl s nb l w0 ga gt gn' vs ps av tv pt' nv' w' := by
  have hlt := h.ZB
  have hva : ∀ b, some b = av.ownBlock → b < w.heap.size := fun b hb => hlt b (.inr (.inr (.inr (.inr (.inl hb)))))
  refine ⟨h.S.kp k ?_, own_kp h.A k ?_, own_kp h.T k ?_, h.TV, hN, hP, hO, hx, ?_, h.M.kp k ?_, ?_, ?_, h.K.trans k (fun _ _ e => e) ?_, h.s0, h.n0, h.b0⟩
  · rintro (e | e)
    · exact typ_ne h.S h.N (by decide) e
    · obtain ⟨ds, hd⟩ := own_cells h.O e
      exact typ_ne h.S hd (by decide) rfl
  · intro b hb
    obtain ⟨cs, hc⟩ := own_cells h.A hb.symm
    rintro (e | e)
    · exact typ_ne hc h.N (by decide) e
    · exact h.AN b hb e.symm
  · intro b hb
    obtain ⟨cs, hc⟩ := own_cells h.T hb.symm
    rintro (e | e)
    · exact typ_ne hc h.N (by decide) e
    · obtain ⟨ds, hd⟩ := own_cells h.O e
      exact typ_ne hc hd (by decide) rfl
  · refine h.H.step k ?_ nv' ?_ ?_
    · rintro b (e | e)
      · exact .inr (.inr (.inr (.inl e)))
      · exact .inr (.inr (.inr (.inr (.inr (.inr e)))))
    · rintro b (e | e | e | e | e | e | e)
      · exact .inl (.inl e)
      · exact .inl (.inr (.inl e))
      · exact .inl (.inr (.inr (.inl e)))
      · exact .inl (.inr (.inr (.inr (.inl e))))
      · exact .inl (.inr (.inr (.inr (.inr (.inl e)))))
      · exact .inl (.inr (.inr (.inr (.inr (.inr (.inl e))))))
      · exact .inr e
    · intro b e
      rcases g b e.symm with h1 | h1
      · exact .inl (.inr (.inr (.inr (.inr (.inr (.inr h1.symm))))))
      · exact .inr h1
  · rintro (e | e)
    · exact h.M.not_cells (e ▸ h.N)
    · obtain ⟨ds, hd⟩ := own_cells h.O e
      exact h.M.not_cells hd
  · intro b hb hn
    rcases g b hn with h1 | h1
    · exact h.AN b hb h1
    · have := hva b hb.symm; omega
  · rintro b (e | e | e | e | e | e | e)
    · exact Nat.lt_of_lt_of_le (hlt b (.inl e)) k.size
    · exact Nat.lt_of_lt_of_le (hlt b (.inr (.inl e))) k.size
    · exact Nat.lt_of_lt_of_le (hlt b (.inr (.inr (.inl e)))) k.size
    · exact Nat.lt_of_lt_of_le (hlt b (.inr (.inr (.inr (.inl e))))) k.size
    · exact Nat.lt_of_lt_of_le (hlt b (.inr (.inr (.inr (.inr (.inl e)))))) k.size
    · exact Nat.lt_of_lt_of_le (hlt b (.inr (.inr (.inr (.inr (.inr (.inl e))))))) k.size
    · exact (own_typ hO e.symm).2.2
  · rintro i hi (e | e)
    · have := h.n0; omega
    · have := (own_typ h.O e.symm).2.1; omega
/-- a store into the box of the list -/
theorem Ost.box (h : Ost Z mb bl s nb l w0 ga gt gn vs ps av tv pt nv w) {cs : Array Value} (hb : Blk w bl 25 cs) (u : Value) : Ost Z mb bl s nb l w0 ga gt gn vs ps av tv pt nv (w.setCell ⟨bl, 0, none⟩ u) := by
  have k : Kp (· = bl) w (w.setCell ⟨bl, 0, none⟩ u) := Kp.of_set w ⟨bl, 0, none⟩ u rfl
  refine ⟨h.S.kp k (typ_ne h.S hb (by decide)), own_kp h.A k ?_, own_kp h.T k ?_, h.TV, h.N.kp k (typ_ne h.N hb (by decide)), h.P, own_kp h.O k ?_, h.OV, h.H.kp k (fun b _ _ _ _ e => .inr (.inl e)), h.M.kp k (fun e => h.M.not_cells (e ▸ hb)), h.AN, fun b e => Nat.lt_of_lt_of_le (h.ZB b e) k.size, h.K.trans k (fun _ _ e => e) (fun i hi e => by have := h.b0; omega), h.s0, h.n0, h.b0⟩
  · intro b hb'
    obtain ⟨cs, hc⟩ := own_cells h.A hb'.symm
    exact typ_ne hc hb (by decide)
  · intro b hb'
    obtain ⟨cs, hc⟩ := own_cells h.T hb'.symm
    exact typ_ne hc hb (by decide)
  · intro b hb'
    obtain ⟨cs, hc⟩ := own_cells h.O hb'.symm
    exact typ_ne hc hb (by decide)
end
end Go.Proofs.YtmmihcophkipoaaDoor
