import Derived.Test.YtecdmgcgplohoaaCa14
namespace Go.Proofs.Ytecdmgcgplohoaa
open Go.ChangeShapes Go.WideShapes Go.ChangeAt Go.RowKit
set_option linter.unusedVariables false
set_option linter.unusedSimpArgs false
/-- a right cache of the laws -/
structure Good (room : Int) (l : List En) : Prop where
  nd : (keys l).Nodup
  fits : tw l ≤ room
  sz : ∀ e ∈ l, e.1.size = 1 ∧ e.2.size ≤ 131
theorem wt_pos (e : En) : 1 ≤ wt e := by unfold wt; omega
theorem tw_cons (e : En) (l : List En) : tw (e :: l) = wt e + tw l := by simp [tw]
theorem tw_nonneg (l : List En) : 0 ≤ tw l := by
  induction l with
  | nil => simp [tw]
  | cons e l ih => have := wt_pos e; rw [tw_cons]; omega
theorem len_tw (l : List En) : (l.length : Int) ≤ tw l := by
  induction l with
  | nil => simp [tw]
  | cons e l ih => have := wt_pos e; rw [tw_cons, List.length_cons]; omega
theorem fit_sub (room : Int) (l : List En) : ∀ s, (fit room s l).Sublist l := by
  induction l with
  | nil => intro s; simp [fit]
  | cons e l ih =>
    intro s
    unfold fit
    split
    · exact List.nil_sublist _
    · exact (ih _).cons_cons e
theorem fit_tw (room : Int) (l : List En) : ∀ s, s ≤ room → s + tw (fit room s l) ≤ room := by
  induction l with
  | nil => intro s h; simp [fit, tw]; exact h
  | cons e l ih =>
    intro s h
    unfold fit
    split
    · simp [tw]; exact h
    · rename_i hh
      have := ih (s + wt e) (by omega)
      rw [tw_cons]; omega
theorem fit_id (room : Int) (l : List En) : ∀ s, s + tw l ≤ room → fit room s l = l := by
  induction l with
  | nil => intro s h; rfl
  | cons e l ih =>
    intro s h
    rw [tw_cons] at h
    have h2 := tw_nonneg l
    unfold fit
    rw [if_neg (by omega), ih (s + wt e) (by omega)]
theorem wo_sub (l : List En) (key : BA) : (wo l key).Sublist l := List.filter_sublist
theorem tw_sub {l m : List En} (h : l.Sublist m) : tw l ≤ tw m := by
  induction h with
  | slnil => simp
  | cons e _ ih => have := wt_pos e; rw [tw_cons]; omega
  | cons_cons e _ ih => rw [tw_cons, tw_cons]; omega
theorem Good.sub {room : Int} {l m : List En} (g : Good room m) (h : l.Sublist m) : Good room l :=
  ⟨List.Nodup.sublist (h.map _) g.nd, Int.le_trans (tw_sub h) g.fits, fun e he => g.sz e (h.subset he)⟩
theorem Good.sm {room : Int} {l : List En} (g : Good room l) (hr : room ≤ 60) : Sm l ∧ l.length ≤ 60 := by
  have h := len_tw l
  have := g.fits
  exact ⟨⟨by omega, fun e he => by have := g.sz e he; omega⟩, by omega⟩
theorem wo_not (l : List En) (key : BA) : key ∉ keys (wo l key) := by
  intro h
  simp only [keys, wo, List.mem_map, List.mem_filter, decide_eq_true_eq] at h
  obtain ⟨e, ⟨_, h1⟩, h2⟩ := h
  exact h1 h2
theorem Good.put {room : Int} {l : List En} (g : Good room l) (hr : 0 ≤ room) (e : En) (he : e.1.size = 1 ∧ e.2.size ≤ 131) : Good room (fit room 0 (e :: wo l e.1)) := by
  have hs := fit_sub room (e :: wo l e.1) 0
  refine ⟨List.Nodup.sublist (hs.map _) ?_, by have := fit_tw room (e :: wo l e.1) 0 hr; omega, fun x hx => ?_⟩
  · have := (g.sub (wo_sub l e.1)).nd
    simp only [keys] at this
    rw [List.map_cons, List.nodup_cons]
    exact ⟨wo_not l e.1, this⟩
  · rcases List.mem_cons.1 (hs.subset hx) with rfl | h
    · exact he
    · exact g.sz x ((wo_sub l e.1).subset h)
theorem Good.get {room : Int} {l : List En} (g : Good room l) (hr : 0 ≤ room) (key : BA) : Good room (gl room l key) := by
  unfold gl
  cases h : gf l key with
  | none => exact g
  | some e =>
    have h1 : e ∈ l := List.mem_of_find?_eq_some h
    have h2 : e.1 = key := by have := List.find?_some h; simpa using this
    have := g.put hr e (g.sz e h1)
    rw [h2] at this
    exact this
theorem Good.step {room : Int} {l : List En} (g : Good room l) (hr : 0 ≤ room) (s : St) : Good room (rstep room l s) := by
  unfold rstep
  split
  · exact g.get hr _
  · split
    · exact g.sub ((fit_sub room _ 0).trans (wo_sub l _))
    · exact g.put hr s.en (en_size s)
theorem drop_same {room : Int} {l : List En} (g : Good room l) (key : BA) : fit room 0 (wo l key) = wo l key :=
  fit_id room _ 0 (by have := tw_sub (wo_sub l key); have := g.fits; omega)
theorem Good.nil {room : Int} (hr : 0 ≤ room) : Good room [] := ⟨by simp [keys], by simpa [tw] using hr, by simp⟩
end Go.Proofs.Ytecdmgcgplohoaa
