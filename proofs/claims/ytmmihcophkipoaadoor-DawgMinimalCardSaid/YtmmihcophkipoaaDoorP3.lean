/-
  Plain: the groups of a list of words one by one, the list of sets of endings in the order in which they are finished, and the name of a set.
-/
import Derived.Test.YtmmihcophkipoaaDoorP2
import Derived.Lib.ItoaNum
namespace Go.Proofs.YtmmihcophkipoaaDoor
set_option linter.unusedVariables false
set_option linter.unusedSimpArgs false
def hd (u : W) : UInt8 := u.headD 0
def same1 (c : UInt8) (u : W) : Bool := decide (hd u = c)
/-- how many words ahead begin as the first does -/
def run1 (r : List W) : Nat := (r.takeWhile (same1 (hd (r.headD [])))).length
theorem run1_take (r : List W) : r.take (run1 r) = r.takeWhile (same1 (hd (r.headD []))) := by
  unfold run1
  conv => lhs; arg 2; rw [← List.takeWhile_append_dropWhile (p := same1 (hd (r.headD []))) (l := r)]
  rw [List.take_left']
  rfl
theorem run1_drop (r : List W) : r.drop (run1 r) = r.dropWhile (same1 (hd (r.headD []))) := by
  unfold run1
  conv => lhs; arg 2; rw [← List.takeWhile_append_dropWhile (p := same1 (hd (r.headD []))) (l := r)]
  rw [List.drop_left']
  rfl
theorem run1_le (r : List W) : run1 r ≤ r.length := (List.takeWhile_sublist _).length_le
theorem run1_pos {u : W} {r : List W} : 1 ≤ run1 (u :: r) := by
  unfold run1
  rw [List.takeWhile_cons, if_pos (by simp [same1])]
  simp
theorem grp_nil : grp [] = [] := rfl
theorem grp_head {u : W} {r : List W} (hu : u ≠ []) : ∃ m g, grp (u :: r) = (hd u, m) :: g := by
  cases u with
  | nil => exact absurd rfl hu
  | cons c t =>
    rw [grp_cons]
    unfold cons1
    dsimp only
    split
    · split
      · exact ⟨_, _, rfl⟩
      · exact ⟨_, _, rfl⟩
    · exact ⟨_, _, rfl⟩
theorem grp_while (c : UInt8) : ∀ (r : List W) (t : W), (∀ u ∈ r, u ≠ []) → grp ((c :: t) :: r) = (c, t :: (r.takeWhile (same1 c)).map List.tail) :: grp (r.dropWhile (same1 c)) := by
  intro r
  induction r with
  | nil => intro t _; rfl
  | cons u r ih =>
    intro t hne
    have hu := hne u (List.mem_cons_self ..)
    cases u with
    | nil => exact absurd rfl hu
    | cons d s =>
      by_cases e : d = c
      · subst e
        rw [grp_cons, ih s (fun v hv => hne v (List.mem_cons_of_mem _ hv))]
        have h1 : same1 d (d :: s) = true := by simp [same1, hd]
        simp only [cons1, if_pos, List.takeWhile_cons, List.dropWhile_cons, h1, List.map_cons, List.tail_cons]
      · obtain ⟨m, g, hg⟩ := grp_head (r := r) hu
        have h1 : same1 c (d :: s) = false := by simp [same1, hd, e]
        rw [grp_cons, hg]
        have e2 : hd (d :: s) = d := rfl
        simp only [cons1, e2, List.takeWhile_cons, List.dropWhile_cons, h1, List.map_nil]
        rw [if_neg (Ne.symm e)]
        simp [hg, e2]
/-- the first group, and the others -/
theorem grp_run {u : W} {r : List W} (hne : ∀ v ∈ u :: r, v ≠ []) : grp (u :: r) = (hd u, ((u :: r).take (run1 (u :: r))).map List.tail) :: grp ((u :: r).drop (run1 (u :: r))) := by
  have hu := hne u (List.mem_cons_self ..)
  rw [run1_take, run1_drop]
  cases u with
  | nil => exact absurd rfl hu
  | cons c t =>
    rw [grp_while c r t (fun v hv => hne v (List.mem_cons_of_mem _ hv))]
    have h1 : same1 c (c :: t) = true := by simp [same1, hd]
    have e2 : hd (c :: t) = c := rfl
    simp only [List.headD_cons, e2, List.takeWhile_cons, List.dropWhile_cons, h1, if_true, List.map_cons, List.tail_cons]
/-- where the search for the end of the first group stops -/
theorem run1_at {r : List W} {k : Nat} (hk : k < r.length) (hall : ∀ j (h : j < r.length), j < k → same1 (hd (r.headD [])) r[j] = true) (hs : same1 (hd (r.headD [])) r[k] = false) : run1 r = k := by
  unfold run1
  generalize hd (r.headD []) = c at *
  induction r generalizing k with
  | nil => simp at hk
  | cons u r ih =>
    rw [List.takeWhile_cons]
    cases k with
    | zero =>
      rw [if_neg (by simpa using hs)]; rfl
    | succ k =>
      have h0 : same1 c u = true := hall 0 (by simp) (by omega)
      rw [if_pos h0, List.length_cons]
      rw [ih (k := k) (by simpa using hk) (fun j h hj => hall (j + 1) (by simpa using h) (by omega)) (by simpa using hs)]
theorem run1_all {r : List W} (hall : ∀ j (h : j < r.length), same1 (hd (r.headD [])) r[j] = true) : run1 r = r.length := by
  unfold run1
  have key : ∀ (p : W → Bool) (l : List W), (∀ u ∈ l, p u = true) → l.takeWhile p = l := by
    intro p l
    induction l with
    | nil => intro _; rfl
    | cons a l ih =>
      intro h
      rw [List.takeWhile_cons, if_pos (h a (List.mem_cons_self ..)), ih fun u hu => h u (List.mem_cons_of_mem _ hu)]
  rw [key]
  intro u hu
  obtain ⟨j, h, rfl⟩ := List.getElem_of_mem hu
  exact hall j h
/-- a list of words without the empty one ahead -/
def rest0 (l : List W) : List W := if fin l = true then l.tail else l
theorem grp_rest0 (l : List W) : grp (rest0 l) = grp l := by
  unfold rest0
  split
  · rename_i h
    cases l with
    | nil => rfl
    | cons a l =>
      cases a with
      | nil => rfl
      | cons c t => simp [fin] at h
  · rfl
theorem rest0_ne {l : List W} (h : Up l) : ∀ u ∈ rest0 l, u ≠ [] := by
  unfold rest0
  intro u hu e
  subst e
  split at hu
  · rename_i hf
    cases l with
    | nil => simp at hu
    | cons a l =>
      have := h.head [] hu
      rw [bl_nil] at this; cases this
  · rename_i hf
    exact hf ((fin_iff h).2 hu)
end Go.Proofs.YtmmihcophkipoaaDoor
