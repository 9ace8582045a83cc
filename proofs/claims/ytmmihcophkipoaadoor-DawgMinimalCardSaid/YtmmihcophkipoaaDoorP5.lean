/-
  Plain: the automaton of a dictionary: where a text leads, how many words lead on, and the words that it lists.
-/
import Derived.Test.YtmmihcophkipoaaDoorD34
namespace Go.Proofs.YtmmihcophkipoaaDoor
set_option linter.unusedVariables false
set_option linter.unusedSimpArgs false
/-- what follows a text -/
def aftS : W → List W → List W
  | [], m => m
  | c :: s, m => aftS s (aft c m)
theorem aft_nil (c : UInt8) : aft c [] = [] := rfl
theorem aftS_nil : ∀ s : W, aftS s [] = []
  | [] => rfl
  | c :: s => aftS_nil s
theorem mem_aftS {s : W} : ∀ {m : List W} {t : W}, t ∈ aftS s m ↔ s ++ t ∈ m := by
  induction s with
  | nil => intro m t; rfl
  | cons c s ih => intro m t; rw [aftS, ih, mem_aft]; rfl
theorem aftS_app (s t : W) : ∀ m : List W, aftS (s ++ t) m = aftS t (aftS s m) := by
  induction s with
  | nil => intro m; rfl
  | cons c s ih => intro m; exact ih _
theorem up_aftS (s : W) : ∀ {m : List W}, Up m → Up (aftS s m) := by
  induction s with
  | nil => intro m h; exact h
  | cons c s ih => intro m h; exact ih (up_aft h)
theorem aftS_len (s : W) : ∀ (m : List W), (aftS s m).length ≤ m.length := by
  induction s with
  | nil => intro m; exact Nat.le_refl _
  | cons c s ih => intro m; exact Nat.le_trans (ih _) (List.length_filterMap_le _ _)
def strip (s w : W) : Option W := if w.take s.length = s then some (w.drop s.length) else none
theorem aftS_strip (s : W) : ∀ m : List W, aftS s m = m.filterMap (strip s) := by
  induction s with
  | nil =>
    intro m
    have : (strip [] : W → Option W) = some := by funext w; simp [strip]
    rw [this, List.filterMap_some]; rfl
  | cons c s ih =>
    intro m
    rw [aftS, ih, aft, List.filterMap_filterMap]
    congr 1
    funext w
    cases w with
    | nil => simp [cut1, strip]
    | cons x w =>
      by_cases h : x = c
      · subst h; simp [cut1, strip]
      · simp [cut1, strip, h]
theorem aftS_cnt (s : W) (m : List W) : (aftS s m).length = cnt m s := by
  rw [aftS_strip]
  unfold cnt
  induction m with
  | nil => rfl
  | cons w m ih =>
    have hb : beg w s = (strip s w).isSome := by
      unfold beg strip
      by_cases h : w.take s.length = s
      · have h2 : s.length ≤ w.length := by
          have := congrArg List.length h
          rw [List.length_take] at this
          omega
        simp [h, h2]
      · simp [h]
    rw [List.filterMap_cons, List.filter_cons, hb]
    cases strip s w with
    | none => simpa using ih
    | some t => simp [ih]
/-- what holds of the sets of endings of a dictionary -/
structure Ends (l : List W) (V : List (List W)) : Prop where
  nodup : V.Nodup
  up : ∀ m ∈ V, Up m
  ne : ∀ m ∈ V, m ≠ []
  sh : ∀ m ∈ V, Sh 22 m
  len : ∀ m ∈ V, m.length ≤ l.length
  kids : ∀ m ∈ V, ∀ a ∈ grp m, a.2 ∈ V
  pos : 0 < V.length
  root : V[0]? = some l
  all : ∀ P : List W → Prop, P l → (∀ m ∈ V, P m → ∀ a ∈ grp m, P a.2) → ∀ m ∈ V, P m
theorem ends_root (l : List W) : (ends l)[0]? = some l := by
  unfold ends
  rw [dfs_new (by simp)]
  obtain ⟨t, ht⟩ := dfsAll_pre 21 (grp l) ([] ++ [l])
  rw [← ht]; rfl
theorem ends_of {l : List W} (hs : Sh 22 l) (hu : Up l) (hne : l ≠ []) : Ends l (ends l) := by
  have hgl : ∀ {m : List W}, Up m → ∀ a ∈ grp m, a.2.length ≤ m.length := fun {m} h a ha => by rw [(grp_up h).2.1 a ha]; exact List.length_filterMap_le _ _
  have hall := dfs_all (fun m => Up m ∧ m ≠ [] ∧ Sh 22 m ∧ m.length ≤ l.length) (fun m h a ha => ⟨up_grp h.1 a ha, grp_ne a ha, fun w hw => by
    rw [(grp_up h.1).2.1 a ha, mem_aft] at hw
    have := h.2.2.1 _ hw
    simp at this; omega, Nat.le_trans (hgl h.1 a ha) h.2.2.2⟩) 22 [] l ⟨hu, hne, hs, Nat.le_refl _⟩ (fun m h => by cases h)
  have hcl : ∀ m ∈ ends l, ∀ a ∈ grp m, a.2 ∈ ends l := fun m hm => by
    rcases dfs_closed 22 [] l hs hu hne m hm with h | h
    · cases h
    · exact h
  refine ⟨dfs_nodup 22 [] l List.nodup_nil, fun m hm => (hall m hm).1, fun m hm => (hall m hm).2.1, fun m hm => (hall m hm).2.2.1, fun m hm => (hall m hm).2.2.2, hcl, ?_, ends_root l, fun P h0 hP => ?_⟩
  · have := ends_root l
    rcases Nat.eq_zero_or_pos (ends l).length with h | h
    · rw [List.getElem?_eq_none (by omega)] at this; cases this
    · exact h
  · have h2 := dfs_all (fun m => m ∈ ends l ∧ P m) (fun m h a ha => ⟨hcl m h.1 a ha, hP m h.1 h.2 a ha⟩) 22 [] l ⟨dfs_mem 21 [] l, h0⟩ (fun m h => by cases h)
    exact fun m hm => (h2 m hm).2
section
variable {l : List W} {V : List (List W)}
theorem auto_len (l : List W) : (auto l).length = (ends l).length := by unfold auto; rw [List.length_map]
theorem auto_at (l : List W) (n : Nat) (h : n < (ends l).length) : (auto l)[n]'(by rw [auto_len]; exact h) = node (ends l) (ends l)[n] := by simp [auto]
theorem auto_getD (l : List W) (n : Nat) (h : n < (ends l).length) : (auto l).getD n (false, []) = node (ends l) (ends l)[n] := by
  rw [List.getD_eq_getElem?_getD, List.getElem?_eq_getElem (by rw [auto_len]; exact h), auto_at l n h]; rfl
theorem auto_arcs (l : List W) (n : Nat) (h : n < (ends l).length) : arcsOf (auto l) n = (grp (ends l)[n]).map fun a => (a.1, ((ends l).idxOf a.2 : Int)) := by
  unfold arcsOf; rw [auto_getD l n h]; rfl
theorem at_idx {V : List (List W)} {m : List W} (hm : m ∈ V) : V[V.idxOf m]'(List.idxOf_lt_length_iff.2 hm) = m := List.getElem_idxOf _
theorem nodup_at {V : List (List W)} (hn : V.Nodup) {i j : Nat} (hi : i < V.length) (hj : j < V.length) (e : V[i] = V[j]) : i = j := by
  have hp := List.pairwise_iff_getElem.1 hn
  rcases Nat.lt_trichotomy i j with h | h | h
  · exact absurd e (hp i j hi hj h)
  · exact h
  · exact absurd e.symm (hp j i hj hi h)
theorem idx_at {V : List (List W)} (hn : V.Nodup) (n : Nat) (h : n < V.length) : V.idxOf V[n] = n := by
  have h1 := List.idxOf_lt_length_iff.2 (List.getElem_mem h)
  exact nodup_at hn h1 h (List.getElem_idxOf h1)
theorem arcs_idx {m : List W} (hm : m ∈ ends l) : arcsOf (auto l) ((ends l).idxOf m) = (grp m).map fun a => (a.1, ((ends l).idxOf a.2 : Int)) := by
  have h := List.idxOf_lt_length_iff.2 hm
  rw [auto_arcs l _ h, at_idx hm]
theorem fin_idx {m : List W} (hm : m ∈ ends l) : ((auto l).getD ((ends l).idxOf m) (false, [])).1 = fin m := by
  have h := List.idxOf_lt_length_iff.2 hm
  rw [auto_getD l _ h, at_idx hm]; rfl
/-- where the arc of a byte stands -/
theorem aix_grp {V : List (List W)} {m : List W} (hu : Up m) (c : UInt8) : aix ((grp m).map fun a => (a.1, (V.idxOf a.2 : Int))) c = -1 ∧ aft c m = [] ∨
    ∃ k, ∃ h : k < (grp m).length, aix ((grp m).map fun a => (a.1, (V.idxOf a.2 : Int))) c = (k : Nat) ∧ (grp m)[k] = (c, aft c m) := by
  obtain ⟨g1, g2, g3, g4⟩ := grp_up hu
  by_cases h : aft c m = []
  · left
    refine ⟨aix_none _ _ fun j hj => ?_, h⟩
    simp only [List.length_map] at hj
    simp only [List.getElem_map]
    intro e
    have h1 := g2 _ (List.getElem_mem hj)
    rw [e, h] at h1
    exact grp_ne _ (List.getElem_mem hj) h1
  · right
    obtain ⟨a, ha, e⟩ := g3 c h
    obtain ⟨k, hk, rfl⟩ := List.getElem_of_mem ha
    refine ⟨k, hk, aix_at _ _ k (by simpa using hk) (by simpa using e) (fun j hj hjk => ?_), ?_⟩
    · simp only [List.getElem_map]
      intro e2
      have h1 := (List.pairwise_iff_getElem.1 g1) j k (by simpa using hj) hk hjk
      rw [e, e2] at h1
      exact UInt8.lt_irrefl _ h1
    · have h1 := g2 _ (List.getElem_mem hk)
      rw [e] at h1
      exact Prod.ext e h1
theorem step_idx (hE : Ends l (ends l)) {m : List W} (hm : m ∈ ends l) (c : UInt8) : step (auto l) ((ends l).idxOf m) c = if aft c m = [] then none else some ((ends l).idxOf (aft c m)) := by
  unfold step
  rw [arcs_idx hm]
  rcases aix_grp (V := ends l) (hE.up m hm) c with ⟨h1, h2⟩ | ⟨k, hk, h1, h2⟩
  · rw [h1, if_pos (by omega), if_pos h2]
  · have hne : aft c m ≠ [] := by
      have h3 := grp_ne _ (List.getElem_mem hk)
      rw [h2] at h3; exact h3
    rw [h1, if_neg (by omega), if_neg hne]
    congr 1
    have e : ((k : Nat) : Int).toNat = k := rfl
    rw [e, List.getD_eq_getElem?_getD, List.getElem?_map, List.getElem?_eq_getElem hk, h2]
    rfl
theorem aft_in (hE : Ends l (ends l)) {m : List W} (hm : m ∈ ends l) {c : UInt8} (h : aft c m ≠ []) : aft c m ∈ ends l := by
  obtain ⟨a, ha, e⟩ := (grp_up (hE.up m hm)).2.2.1 c h
  have h1 := (grp_up (hE.up m hm)).2.1 a ha
  rw [e] at h1
  rw [← h1]
  exact hE.kids m hm a ha
theorem lead_idx (hE : Ends l (ends l)) : ∀ (s : W) (m : List W), m ∈ ends l → lead (auto l) ((ends l).idxOf m) s = if aftS s m = [] then none else some ((ends l).idxOf (aftS s m)) := by
  intro s
  induction s with
  | nil => intro m hm; rw [lead, aftS, if_neg (hE.ne m hm)]
  | cons c s ih =>
    intro m hm
    rw [lead, step_idx hE hm, aftS]
    by_cases h : aft c m = []
    · rw [if_pos h, h, aftS_nil, if_pos rfl]
    · rw [if_neg h]
      exact ih _ (aft_in hE hm h)
theorem aftS_in (hE : Ends l (ends l)) : ∀ (s : W) (m : List W), m ∈ ends l → aftS s m ≠ [] → aftS s m ∈ ends l := by
  intro s
  induction s with
  | nil => intro m hm _; exact hm
  | cons c s ih =>
    intro m hm h
    rw [aftS] at h ⊢
    by_cases h2 : aft c m = []
    · rw [h2, aftS_nil] at h; exact absurd rfl h
    · exact ih _ (aft_in hE hm h2) h
theorem root_in (hE : Ends l (ends l)) : l ∈ ends l := List.mem_of_getElem? hE.root
theorem root_idx (hE : Ends l (ends l)) : (ends l).idxOf l = 0 := by
  have h := hE.root
  rw [List.getElem?_eq_getElem hE.pos] at h
  injection h with h
  have h2 := idx_at hE.nodup 0 hE.pos
  rw [h] at h2
  exact h2
theorem lead_auto (hE : Ends l (ends l)) (s : W) : lead (auto l) 0 s = if aftS s l = [] then none else some ((ends l).idxOf (aftS s l)) := by
  have := lead_idx hE s l (root_in hE)
  rwa [root_idx hE] at this
theorem has_auto (hE : Ends l (ends l)) (s : W) : finO (auto l) (lead (auto l) 0 s) = decide (s ∈ l) := by
  rw [lead_auto hE]
  by_cases h : aftS s l = []
  · rw [if_pos h]
    have : s ∉ l := fun hm => by
      have : [] ∈ aftS s l := mem_aftS.2 (by simpa using hm)
      rw [h] at this; cases this
    rw [decide_eq_false this]; rfl
  · rw [if_neg h]
    unfold finO
    simp only
    rw [fin_idx (aftS_in hE s l (root_in hE) h)]
    have hup := hE.up _ (aftS_in hE s l (root_in hE) h)
    have h2 := fin_iff hup
    rw [mem_aftS, List.append_nil] at h2
    by_cases h3 : s ∈ l
    · rw [decide_eq_true h3, h2.2 h3]
    · rw [decide_eq_false h3]
      cases hf : fin (aftS s l) with
      | false => rfl
      | true => exact absurd (h2.1 hf) h3
end
end Go.Proofs.YtmmihcophkipoaaDoor
