/-
  Plain: the numbering of the sets of endings of an increasing list of words, and the automaton that it gives.
-/
import Derived.Test.YtmmihcophkipoaaDoorP1
namespace Go.Proofs.YtmmihcophkipoaaDoor
set_option linter.unusedVariables false
set_option linter.unusedSimpArgs false
/-- the sets of endings that are met from l on, in the order in which they are met first -/
def dfs : Nat → List (List W) → List W → List (List W)
  | 0, vs, _ => vs
  | f + 1, vs, l => if l ∈ vs then vs else (grp l).foldl (fun vs a => dfs f vs a.2) (vs ++ [l])
def dfsAll (f : Nat) (vs : List (List W)) (g : List (UInt8 × List W)) : List (List W) := g.foldl (fun vs a => dfs f vs a.2) vs
theorem dfsAll_nil (f : Nat) (vs : List (List W)) : dfsAll f vs [] = vs := rfl
theorem dfsAll_cons (f : Nat) (vs : List (List W)) (a : UInt8 × List W) (g : List (UInt8 × List W)) : dfsAll f vs (a :: g) = dfsAll f (dfs f vs a.2) g := rfl
theorem dfsAll_snoc (f : Nat) (vs : List (List W)) (a : UInt8 × List W) (g : List (UInt8 × List W)) : dfsAll f vs (g ++ [a]) = dfs f (dfsAll f vs g) a.2 := by unfold dfsAll; rw [List.foldl_append]; rfl
theorem dfs_known {f : Nat} {vs : List (List W)} {l : List W} (h : l ∈ vs) : dfs f vs l = vs := by
  cases f with
  | zero => rfl
  | succ f => unfold dfs; rw [if_pos h]
theorem dfs_new {f : Nat} {vs : List (List W)} {l : List W} (h : l ∉ vs) : dfs (f + 1) vs l = dfsAll f (vs ++ [l]) (grp l) := by
  unfold dfs; rw [if_neg h]; rfl
theorem dfs_pre (f : Nat) : ∀ (vs : List (List W)) (l : List W), vs <+: dfs f vs l := by
  induction f with
  | zero => intro vs l; exact List.prefix_refl _
  | succ f ih =>
    intro vs l
    by_cases h : l ∈ vs
    · rw [dfs_known h]; exact List.prefix_refl _
    · rw [dfs_new h]
      have : ∀ (g : List (UInt8 × List W)) (vs : List (List W)), vs <+: dfsAll f vs g := by
        intro g
        induction g with
        | nil => intro vs; exact List.prefix_refl _
        | cons a g ihg => intro vs; rw [dfsAll_cons]; exact (ih vs a.2).trans (ihg _)
      exact (List.prefix_append vs [l]).trans (this _ _)
theorem dfsAll_pre (f : Nat) (g : List (UInt8 × List W)) : ∀ (vs : List (List W)), vs <+: dfsAll f vs g := by
  induction g with
  | nil => intro vs; exact List.prefix_refl _
  | cons a g ihg => intro vs; rw [dfsAll_cons]; exact (dfs_pre f vs a.2).trans (ihg _)
theorem dfs_mem (f : Nat) (vs : List (List W)) (l : List W) : l ∈ dfs (f + 1) vs l := by
  by_cases h : l ∈ vs
  · rw [dfs_known h]; exact h
  · rw [dfs_new h]
    exact (dfsAll_pre f (grp l) (vs ++ [l])).subset (by simp)
theorem dfs_nodup (f : Nat) : ∀ (vs : List (List W)) (l : List W), vs.Nodup → (dfs f vs l).Nodup := by
  induction f with
  | zero => intro vs l h; exact h
  | succ f ih =>
    intro vs l hn
    by_cases h : l ∈ vs
    · rw [dfs_known h]; exact hn
    · rw [dfs_new h]
      have : ∀ (g : List (UInt8 × List W)) (vs : List (List W)), vs.Nodup → (dfsAll f vs g).Nodup := by
        intro g
        induction g with
        | nil => intro vs h; exact h
        | cons a g ihg => intro vs h; rw [dfsAll_cons]; exact ihg _ (ih _ _ h)
      refine this _ _ (List.nodup_append.2 ⟨hn, by simp, fun a ha b hb => ?_⟩)
      rw [List.mem_singleton.1 hb]
      rintro rfl; exact h ha
/-- what holds of l and passes on to its groups holds of all that is met -/
theorem dfs_all (P : List W → Prop) (hP : ∀ l, P l → ∀ a ∈ grp l, P a.2) (f : Nat) : ∀ (vs : List (List W)) (l : List W), P l → (∀ m ∈ vs, P m) → ∀ m ∈ dfs f vs l, P m := by
  induction f with
  | zero => intro vs l _ h; exact h
  | succ f ih =>
    intro vs l hl hv
    by_cases h : l ∈ vs
    · rw [dfs_known h]; exact hv
    · rw [dfs_new h]
      have : ∀ (g : List (UInt8 × List W)) (vs : List (List W)), (∀ a ∈ g, P a.2) → (∀ m ∈ vs, P m) → ∀ m ∈ dfsAll f vs g, P m := by
        intro g
        induction g with
        | nil => intro vs _ h; exact h
        | cons a g ihg =>
          intro vs hg hv
          rw [dfsAll_cons]
          exact ihg _ (fun b hb => hg b (List.mem_cons_of_mem _ hb)) (ih _ _ (hg a (List.mem_cons_self ..)) hv)
      refine this _ _ (hP l hl) (fun m hm => ?_)
      rcases List.mem_append.1 hm with hm | hm
      · exact hv m hm
      · rw [List.mem_singleton.1 hm]; exact hl
/-- the words of l are shorter than f -/
def Sh (f : Nat) (l : List W) : Prop := ∀ w ∈ l, w.length < f
theorem Sh.grp {f : Nat} {l : List W} (h : Sh (f + 1) l) (hu : Up l) : ∀ a ∈ grp l, Sh f a.2 := by
  intro a ha w hw
  rw [(grp_up hu).2.1 a ha, mem_aft] at hw
  have := h _ hw
  simpa using this
theorem up_grp {l : List W} (hu : Up l) : ∀ a ∈ grp l, Up a.2 := fun a ha => by rw [(grp_up hu).2.1 a ha]; exact up_aft hu
/-- the groups of what is met newly are met too -/
theorem dfs_closed (f : Nat) : ∀ (vs : List (List W)) (l : List W), Sh f l → Up l → l ≠ [] → ∀ m ∈ dfs f vs l, m ∈ vs ∨ ∀ a ∈ grp m, a.2 ∈ dfs f vs l := by
  induction f with
  | zero =>
    intro vs l hs _ hne m hm
    exact .inl hm
  | succ f ih =>
    intro vs l hs hu hne
    by_cases h : l ∈ vs
    · rw [dfs_known h]; intro m hm; exact .inl hm
    · rw [dfs_new h]
      have key : ∀ (g : List (UInt8 × List W)) (vs : List (List W)), (∀ a ∈ g, Sh f a.2 ∧ Up a.2 ∧ a.2 ≠ []) → (∀ m ∈ dfsAll f vs g, m ∈ vs ∨ ∀ a ∈ grp m, a.2 ∈ dfsAll f vs g) ∧ ∀ a ∈ g, a.2 ∈ dfsAll f vs g := by
        intro g
        induction g with
        | nil => intro vs _; exact ⟨fun m hm => .inl hm, fun a ha => by cases ha⟩
        | cons a g ihg =>
          intro vs hg
          obtain ⟨ha1, ha2, ha3⟩ := hg a (List.mem_cons_self ..)
          rw [dfsAll_cons]
          obtain ⟨k1, k2⟩ := ihg (dfs f vs a.2) (fun b hb => hg b (List.mem_cons_of_mem _ hb))
          have hp := dfsAll_pre f g (dfs f vs a.2)
          refine ⟨fun m hm => ?_, fun b hb => ?_⟩
          · rcases k1 m hm with h1 | h1
            · rcases ih vs a.2 ha1 ha2 ha3 m h1 with h2 | h2
              · exact .inl h2
              · exact .inr fun b hb => hp.subset (h2 b hb)
            · exact .inr h1
          · rcases List.mem_cons.1 hb with rfl | hb
            · refine hp.subset ?_
              cases f with
              | zero =>
                obtain ⟨w, hw⟩ := List.exists_mem_of_ne_nil _ ha3
                have := ha1 w hw
                omega
              | succ f => exact dfs_mem f vs b.2
            · exact k2 b hb
      obtain ⟨k1, k2⟩ := key (grp l) (vs ++ [l]) (fun a ha => ⟨hs.grp hu a ha, up_grp hu a ha, grp_ne a ha⟩)
      intro m hm
      rcases k1 m hm with h1 | h1
      · rcases List.mem_append.1 h1 with h1 | h1
        · exact .inl h1
        · rw [List.mem_singleton.1 h1]; exact .inr k2
      · exact .inr h1
/-- an automaton: of each node whether it is final, and its arcs -/
abbrev Au := List (Bool × List (UInt8 × Int))
def node (V : List (List W)) (l : List W) : Bool × List (UInt8 × Int) := (fin l, (grp l).map fun a => (a.1, (V.idxOf a.2 : Int)))
def ends (words : List W) : List (List W) := dfs 22 [] words
/-- the automaton of a dictionary -/
def auto (words : List W) : Au := (ends words).map (node (ends words))
/-- a dictionary: increasing words of 1 to 20 letters and digits -/
def plain1 (c : UInt8) : Bool := (97 ≤ c && c ≤ 122) || (65 ≤ c && c ≤ 90) || (48 ≤ c && c ≤ 57)
def word (w : W) : Bool := decide (1 ≤ w.length) && decide (w.length ≤ 20) && w.all plain1
def upB : List W → Bool
  | a :: b :: l => bl a b && upB (b :: l)
  | _ => true
def dict (l : List W) : Bool := l.all word && upB l && decide (1 ≤ l.length) && decide (l.length ≤ 200)
theorem upB_iff (l : List W) : upB l = true ↔ Up l := by
  induction l with
  | nil => simp [upB, Up]
  | cons a l ih =>
    cases l with
    | nil => simp [upB, Up]
    | cons b l =>
      unfold upB
      rw [Bool.and_eq_true, ih]
      constructor
      · rintro ⟨h1, h2⟩
        refine List.pairwise_cons.2 ⟨fun c hc => ?_, h2⟩
        rcases List.mem_cons.1 hc with rfl | hc
        · exact h1
        · exact bl_trans h1 (h2.head c hc)
      · intro h
        exact ⟨h.head b (List.mem_cons_self ..), h.tail⟩
end Go.Proofs.YtmmihcophkipoaaDoor
