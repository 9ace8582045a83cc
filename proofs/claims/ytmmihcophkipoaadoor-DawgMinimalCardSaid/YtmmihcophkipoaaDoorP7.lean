/-
  Plain: the automaton of a dictionary lists its words, and is valid; the program's answer to 'valid' is the reference's.
-/
import Derived.Test.YtmmihcophkipoaaDoorP6
namespace Go.Proofs.YtmmihcophkipoaaDoor
set_option linter.unusedVariables false
set_option linter.unusedSimpArgs false
/-- the nodes of the tree of all words -/
def tn : Nat → List W → Nat
  | 0, _ => 0
  | f + 1, m => 1 + ((grp m).map fun a => tn f a.2).sum
theorem tn_le (f : Nat) : ∀ m : List W, tn f m ≤ 1 + tot m := by
  induction f with
  | zero => intro m; unfold tn; omega
  | succ f ih =>
    intro m
    unfold tn
    have h1 := grp_tot m
    have h2 : ((grp m).map fun a => tn f a.2).sum ≤ ((grp m).map fun a => 1 + tot a.2).sum := by
      generalize grp m = g
      induction g with
      | nil => exact Nat.le_refl _
      | cons a g ihg => simp only [List.map_cons, List.sum_cons]; have := ih a.2; omega
    omega
section
variable {l : List W}
theorem wk_idx (hE : Ends l (ends l)) : ∀ (f left : Nat) (out : List W) (w : W) (m : List W), m ∈ ends l → mx m < f → w.length + mx m ≤ 20 → tn f m ≤ left → wk (auto l) f (left, out) ((ends l).idxOf m : Nat) w = some (left - tn f m, out ++ m.map (w ++ ·)) := by
  intro f
  induction f with
  | zero => intro left out w m _ h; omega
  | succ f ih =>
    intro left out w m hm hf hw ht
    have hup := hE.up m hm
    have hn := List.idxOf_lt_length_iff.2 hm
    have ht1 : 1 ≤ tn (f + 1) m := by unfold tn; omega
    have hns : ¬ ((left, out).1 = 0 ∨ (((ends l).idxOf m : Nat) : Int) < 0 ∨ ((auto l).length : Int) ≤ ((ends l).idxOf m : Nat) ∨ 20 < w.length) := by
      rw [auto_len]
      simp only
      omega
    rw [wk_succ _ _ _ _ _ hns]
    simp only [Int.toNat_natCast]
    rw [fin_idx hm, arcs_idx hm]
    have key : ∀ (g : List (UInt8 × List W)) (lf : Nat) (o : List W), (∀ a ∈ g, a ∈ grp m) → (g.map fun a => tn f a.2).sum ≤ lf →
        wkAll (auto l) f w (g.map fun a => (a.1, ((ends l).idxOf a.2 : Int))) (some (lf, o)) = some (lf - (g.map fun a => tn f a.2).sum, o ++ (unG g).map (w ++ ·)) := by
      intro g
      induction g with
      | nil => intro lf o _ _; simp [wkAll, unG]
      | cons a g ihg =>
        intro lf o hg hs
        simp only [List.map_cons, List.sum_cons] at hs ⊢
        have ha := hg a (List.mem_cons_self ..)
        have hk := hE.kids m hm a ha
        have hmx : mx a.2 < f ∧ mx a.2 + 1 ≤ mx m := by
          have e2 := (grp_up hup).2.1 a ha
          have h5 : ∀ v ∈ a.2, v.length < mx m := fun v hv => by
            rw [e2, mem_aft] at hv
            have := mx_le hv
            simp at this
            omega
          obtain ⟨u, hu⟩ := List.exists_mem_of_ne_nil _ (hE.ne _ hk)
          have h6 := h5 u hu
          have := mx_lt (by omega) h5
          omega
        have h1 := ih lf o (w ++ [a.1]) a.2 hk hmx.1 (by simp; omega) (by omega)
        change wkAll (auto l) f w (g.map fun a => (a.1, ((ends l).idxOf a.2 : Int))) (wk (auto l) f (lf, o) ((ends l).idxOf a.2 : Nat) (w ++ [a.1])) = _
        rw [h1, ihg _ _ (fun b hb => hg b (List.mem_cons_of_mem _ hb)) (by omega), unG_cons]
        congr 2
        · omega
        · simp [List.map_append, List.map_map, Function.comp_def]
    have hts : tn (f + 1) m = 1 + ((grp m).map fun a => tn f a.2).sum := rfl
    rw [key (grp m) _ _ (fun a ha => ha) (by omega)]
    have hsp := split_fin hup
    congr 2
    · omega
    · conv => rhs; rw [hsp]
      by_cases h : fin m = true
      · rw [if_pos h, if_pos h]; simp
      · rw [if_neg h, if_neg h]; simp
theorem dict_ends (h : dict l = true) : Ends l (ends l) := by
  obtain ⟨h1, h2, h3, _, _⟩ := dict_parts h
  exact ends_of h1 h2 h3
theorem wk_auto (h : dict l = true) : ∃ k, 0 < k ∧ wk (auto l) 22 (5000, []) 0 [] = some (k, l) := by
  have hE := dict_ends h
  have hl := dict_word_len h
  have hmx : mx l < 21 := mx_lt (by omega) fun u hu => by have := hl u hu; omega
  have ht : tn 22 l ≤ 4001 := by
    have h1 := tn_le 22 l
    have h2 := tot_le (l := l) (k := 20) hl
    have h3 := (dict_parts h).2.2.2.2
    have h4 : l.length * 20 ≤ 200 * 20 := Nat.mul_le_mul_right _ h3
    omega
  have h5 := wk_idx hE 22 5000 [] [] l (root_in hE) (by omega) (by simp; omega) (by omega)
  rw [root_idx hE] at h5
  refine ⟨5000 - tn 22 l, by omega, ?_⟩
  simpa using h5
theorem listed_auto (h : dict l = true) : ∃ k, 0 < k ∧ listed (auto l) = (k, l) := by
  obtain ⟨k, h1, h2⟩ := wk_auto h
  exact ⟨k, h1, (wk_ls (auto l) 22 (5000, []) 0 []).1 _ h2⟩
theorem valid_auto (h : dict l = true) : validB (auto l) = true := by
  obtain ⟨k, h1, h2⟩ := listed_auto h
  unfold validB
  rw [h2]
  simp [h, h1]
theorem progV_eq (d : Au) : progV d = validB d := by
  have h1 := wk_ls d 22 (5000, []) 0 []
  cases hr : wk d 22 (5000, []) 0 [] with
  | none =>
    have h2 := h1.2 hr
    rw [progV_none hr]
    unfold validB listed
    rw [h2]; rfl
  | some s =>
    have h2 := h1.1 s hr
    obtain ⟨k, o⟩ := s
    rw [progV_some hr]
    unfold validB listed
    rw [h2]
    by_cases hk : 0 < k
    · simp [hk]
    · have hk0 : k = 0 := by omega
      subst hk0
      simp only [Nat.lt_irrefl, decide_false, Bool.false_and]
      cases hd : dict o with
      | false => rfl
      | true =>
        by_cases he : d = auto o
        · obtain ⟨k2, h3, h4⟩ := wk_auto hd
          rw [← he, hr] at h4
          injection h4 with h4
          injection h4 with h4 _
          omega
        · simp [he]
theorem auto_inj {a b : List W} (ha : dict a = true) (hb : dict b = true) : auto a = auto b ↔ a = b := by
  constructor
  · intro h
    obtain ⟨_, _, h1⟩ := listed_auto ha
    obtain ⟨_, _, h2⟩ := listed_auto hb
    rw [h, h2] at h1
    injection h1 with _ h1
    exact h1.symm
  · rintro rfl; rfl
end
end Go.Proofs.YtmmihcophkipoaaDoor
