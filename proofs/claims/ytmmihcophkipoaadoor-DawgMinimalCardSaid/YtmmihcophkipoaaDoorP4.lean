/-
  Plain: the sets of endings in the order in which they are finished; the name of a set, and that it tells the set.
-/
import Derived.Test.YtmmihcophkipoaaDoorP3
namespace Go.Proofs.YtmmihcophkipoaaDoor
set_option linter.unusedVariables false
set_option linter.unusedSimpArgs false
/-- the sets of endings in the order in which they are finished -/
def pst : Nat → List (List W) → List W → List (List W)
  | 0, vs, _ => vs
  | f + 1, vs, l => if l ∈ (grp l).foldl (fun vs a => pst f vs a.2) vs then (grp l).foldl (fun vs a => pst f vs a.2) vs else (grp l).foldl (fun vs a => pst f vs a.2) vs ++ [l]
def pstAll (f : Nat) (vs : List (List W)) (g : List (UInt8 × List W)) : List (List W) := g.foldl (fun vs a => pst f vs a.2) vs
theorem pst_succ (f : Nat) (vs : List (List W)) (l : List W) : pst (f + 1) vs l = if l ∈ pstAll f vs (grp l) then pstAll f vs (grp l) else pstAll f vs (grp l) ++ [l] := rfl
theorem pstAll_nil (f : Nat) (vs : List (List W)) : pstAll f vs [] = vs := rfl
theorem pstAll_cons (f : Nat) (vs : List (List W)) (a : UInt8 × List W) (g : List (UInt8 × List W)) : pstAll f vs (a :: g) = pstAll f (pst f vs a.2) g := rfl
theorem pstAll_snoc (f : Nat) (vs : List (List W)) (a : UInt8 × List W) (g : List (UInt8 × List W)) : pstAll f vs (g ++ [a]) = pst f (pstAll f vs g) a.2 := by unfold pstAll; rw [List.foldl_append]; rfl
theorem pst_pre (f : Nat) : ∀ (vs : List (List W)) (l : List W), vs <+: pst f vs l := by
  induction f with
  | zero => intro vs l; exact List.prefix_refl _
  | succ f ih =>
    intro vs l
    have key : ∀ (g : List (UInt8 × List W)) (vs : List (List W)), vs <+: pstAll f vs g := by
      intro g
      induction g with
      | nil => intro vs; exact List.prefix_refl _
      | cons a g ihg => intro vs; rw [pstAll_cons]; exact (ih vs a.2).trans (ihg _)
    rw [pst_succ]
    split
    · exact key _ _
    · exact (key _ _).trans (List.prefix_append _ _)
theorem pstAll_pre (f : Nat) (g : List (UInt8 × List W)) : ∀ (vs : List (List W)), vs <+: pstAll f vs g := by
  induction g with
  | nil => intro vs; exact List.prefix_refl _
  | cons a g ihg => intro vs; rw [pstAll_cons]; exact (pst_pre f vs a.2).trans (ihg _)
theorem pst_mem {f : Nat} (vs : List (List W)) {l : List W} (hs : Sh f l) (hne : l ≠ []) : l ∈ pst f vs l := by
  cases f with
  | zero =>
    obtain ⟨u, hu⟩ := List.exists_mem_of_ne_nil _ hne
    exact absurd (hs u hu) (by omega)
  | succ f =>
    rw [pst_succ]
    split
    · assumption
    · simp
theorem pst_len (f : Nat) : ∀ (vs : List (List W)) (l : List W), (pst f vs l).length ≤ vs.length + 1 + (l.map List.length).sum := by
  have grp_tot : ∀ l : List W, ((grp l).map fun a => 1 + (a.2.map List.length).sum).sum ≤ (l.map List.length).sum := by
    intro l
    induction l with
    | nil => exact Nat.le_refl _
    | cons w l ih =>
      rw [grp_cons]
      unfold cons1
      simp only [List.map_cons, List.sum_cons]
      split
      · simp; exact ih
      · rename_i c t
        split
        · rename_i c' m g' eg
          rw [eg] at ih
          split
          · simp at ih ⊢; omega
          · simp at ih ⊢; omega
        · rename_i eg
          simp; omega
  induction f with
  | zero => intro vs l; unfold pst; omega
  | succ f ih =>
    intro vs l
    have key : ∀ (g : List (UInt8 × List W)) (vs : List (List W)), (pstAll f vs g).length ≤ vs.length + (g.map fun a => 1 + (a.2.map List.length).sum).sum := by
      intro g
      induction g with
      | nil => intro vs; exact Nat.le_refl _
      | cons a g ihg =>
        intro vs
        rw [pstAll_cons]
        have h1 := ihg (pst f vs a.2)
        have h2 := ih vs a.2
        simp only [List.map_cons, List.sum_cons]
        omega
    have h1 := key (grp l) vs
    have h2 := grp_tot l
    rw [pst_succ]
    split
    · omega
    · rw [List.length_append, List.length_singleton]; omega
/-- the texts of a name -/
def truth (b : Bool) : W := if b = true then [116, 114, 117, 101] else [102, 97, 108, 115, 101]
def nmG (vs : List (List W)) (g : List (UInt8 × List W)) : W := g.flatMap fun a => [32, a.1] ++ Lib.decDigits (vs.idxOf a.2)
def nm (vs : List (List W)) (l : List W) : W := truth (fin l) ++ nmG vs (grp l)
theorem nmG_snoc (vs : List (List W)) (g : List (UInt8 × List W)) (a : UInt8 × List W) : nmG vs (g ++ [a]) = nmG vs g ++ ([32, a.1] ++ Lib.decDigits (vs.idxOf a.2)) := by simp [nmG]
theorem nmG_app {vs us : List (List W)} {g : List (UInt8 × List W)} (h : ∀ a ∈ g, a.2 ∈ vs) : nmG (vs ++ us) g = nmG vs g := by
  unfold nmG
  induction g with
  | nil => rfl
  | cons a g ih => rw [List.flatMap_cons, List.flatMap_cons, ih fun b hb => h b (List.mem_cons_of_mem _ hb), List.idxOf_append, if_pos (h a (List.mem_cons_self ..))]
theorem nm_app {vs us : List (List W)} {l : List W} (h : ∀ a ∈ grp l, a.2 ∈ vs) : nm (vs ++ us) l = nm vs l := by unfold nm; rw [nmG_app h]
/-- a numeral has digits alone -/
theorem dec_digit (n : Nat) : ∀ c ∈ Lib.decDigits n, 48 ≤ c.toNat := by
  induction n using Nat.strongRecOn with
  | _ n ih =>
    intro c hc
    rw [Lib.decDigits] at hc
    split at hc
    · rw [List.mem_singleton.1 hc]; simp; omega
    · rcases List.mem_append.1 hc with h | h
      · exact ih (n / 10) (by omega) c h
      · rw [List.mem_singleton.1 h]; simp; omega
def val10 (l : W) : Nat := l.foldl (fun a c => 10 * a + (c.toNat - 48)) 0
theorem val_dec (n : Nat) : val10 (Lib.decDigits n) = n := by
  induction n using Nat.strongRecOn with
  | _ n ih =>
    rw [Lib.decDigits]
    split
    · simp [val10]; omega
    · unfold val10
      rw [List.foldl_append]
      have h := ih (n / 10) (by omega)
      unfold val10 at h
      rw [h]
      simp; omega
theorem dec_inj {a b : Nat} (h : Lib.decDigits a = Lib.decDigits b) : a = b := by rw [← val_dec a, h, val_dec]
/-- up to the next blank -/
theorem blank_split {x y u v : W} (hx : ∀ c ∈ x, c ≠ 32) (hy : ∀ c ∈ y, c ≠ 32) (hu : u = [] ∨ ∃ t, u = 32 :: t) (hv : v = [] ∨ ∃ t, v = 32 :: t) (h : x ++ u = y ++ v) : x = y ∧ u = v := by
  induction x generalizing y with
  | nil =>
    cases y with
    | nil => exact ⟨rfl, h⟩
    | cons c y =>
      rcases hu with rfl | ⟨t, rfl⟩
      · simp at h
      · simp at h; exact absurd h.1.symm (hy c (List.mem_cons_self ..))
  | cons c x ih =>
    cases y with
    | nil =>
      rcases hv with rfl | ⟨t, rfl⟩
      · simp at h
      · simp at h; exact absurd h.1 (hx c (List.mem_cons_self ..))
    | cons d y =>
      simp only [List.cons_append, List.cons.injEq] at h
      obtain ⟨rfl, h⟩ := h
      obtain ⟨rfl, h2⟩ := ih (fun b hb => hx b (List.mem_cons_of_mem _ hb)) (fun b hb => hy b (List.mem_cons_of_mem _ hb)) h
      exact ⟨rfl, h2⟩
theorem nmG_blank (vs : List (List W)) (g : List (UInt8 × List W)) : nmG vs g = [] ∨ ∃ t, nmG vs g = 32 :: t := by
  cases g with
  | nil => exact .inl rfl
  | cons a g => exact .inr ⟨a.1 :: (Lib.decDigits (vs.idxOf a.2) ++ nmG vs g), by simp [nmG]⟩
theorem nmG_inj {vs : List (List W)} : ∀ {g g' : List (UInt8 × List W)}, (∀ a ∈ g, a.2 ∈ vs) → (∀ a ∈ g', a.2 ∈ vs) → nmG vs g = nmG vs g' → g = g' := by
  intro g
  induction g with
  | nil =>
    intro g' _ _ h
    cases g' with
    | nil => rfl
    | cons b g' => simp [nmG] at h
  | cons a g ih =>
    intro g' h1 h2 h
    cases g' with
    | nil => simp [nmG] at h
    | cons b g' =>
      have e1 : ∀ (a : UInt8 × List W) (g : List (UInt8 × List W)), nmG vs (a :: g) = 32 :: a.1 :: (Lib.decDigits (vs.idxOf a.2) ++ nmG vs g) := fun a g => by simp [nmG]
      rw [e1, e1] at h
      simp only [List.cons.injEq, true_and] at h
      obtain ⟨ha, h⟩ := h
      have hd : ∀ (n : Nat), ∀ c ∈ Lib.decDigits n, c ≠ 32 := fun n c hc e => by
        have := dec_digit n c hc
        rw [e] at this
        simp at this
      obtain ⟨h3, h4⟩ := blank_split (hd _) (hd _) (nmG_blank _ _) (nmG_blank _ _) h
      have h5 := dec_inj h3
      have m1 := h1 a (List.mem_cons_self ..)
      have m2 := h2 b (List.mem_cons_self ..)
      have h6 : a.2 = b.2 := by
        have k1 := List.getElem_idxOf (List.idxOf_lt_length_iff.2 m1)
        have k2 := List.getElem_idxOf (List.idxOf_lt_length_iff.2 m2)
        rw [← k1, ← k2]
        congr 1
      rw [ih (fun c hc => h1 c (List.mem_cons_of_mem _ hc)) (fun c hc => h2 c (List.mem_cons_of_mem _ hc)) h4]
      rw [show a = b from Prod.ext ha h6]
theorem set_of_grp {l m : List W} (hl : Up l) (hm : Up m) (hf : fin l = fin m) (hg : grp l = grp m) : l = m := by
  refine hl.ext hm fun w => ?_
  cases w with
  | nil => rw [← fin_iff hl, ← fin_iff hm, hf]
  | cons c t =>
    have haft : ∀ {l : List W}, Up l → (c :: t ∈ l ↔ ∃ a ∈ grp l, a.1 = c ∧ t ∈ a.2) := fun {l} h => by
      obtain ⟨g1, g2, g3, g4⟩ := grp_up h
      constructor
      · intro hm
        have h1 : t ∈ aft c l := mem_aft.2 hm
        obtain ⟨a, ha, e⟩ := g3 c (fun e => by rw [e] at h1; cases h1)
        exact ⟨a, ha, e, by rw [g2 a ha, e]; exact h1⟩
      · rintro ⟨a, ha, rfl, ht⟩
        rw [g2 a ha] at ht
        exact mem_aft.1 ht
    rw [haft hl, haft hm, hg]
theorem truth_inj {a b : Bool} {u v : W} (h : truth a ++ u = truth b ++ v) : a = b ∧ u = v := by
  cases a <;> cases b <;> simp [truth] at h ⊢ <;> exact h
theorem nm_inj {vs : List (List W)} {l m : List W} (hl : Up l) (hm : Up m) (cl : ∀ a ∈ grp l, a.2 ∈ vs) (cm : ∀ a ∈ grp m, a.2 ∈ vs) (h : nm vs l = nm vs m) : l = m := by
  obtain ⟨h1, h2⟩ := truth_inj h
  exact set_of_grp hl hm h1 (nmG_inj cl cm h2)
end Go.Proofs.YtmmihcophkipoaaDoor
