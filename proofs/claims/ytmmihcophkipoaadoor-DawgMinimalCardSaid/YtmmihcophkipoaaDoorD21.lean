import Derived.Test.YtmmihcophkipoaaDoorD20
namespace Go.Proofs.YtmmihcophkipoaaDoor
open Go.ChangeShapes Go.WideShapes Go.ChangeAt Go.RowKit
set_option linter.unusedVariables false
set_option linter.unusedSimpArgs false
def validB (d : Au) : Bool := decide (0 < (listed d).1) && dict (listed d).2 && decide (d = auto (listed d).2)
theorem dict_parts {l : List W} (h : dict l = true) : Sh 22 l ∧ Up l ∧ l ≠ [] ∧ (∀ u ∈ l, ∀ b ∈ u, 33 ≤ b.toNat ∧ b.toNat < 127) ∧ l.length ≤ 200 := by
  unfold dict at h
  simp only [Bool.and_eq_true, decide_eq_true_eq] at h
  obtain ⟨⟨⟨h1, h2⟩, h3⟩, h4⟩ := h
  have hw := List.all_eq_true.1 h1
  refine ⟨fun u hu => by have := word_short (hw u hu); omega, (upB_iff l).1 h2, fun e => by rw [e] at h3; simp at h3, fun u hu b hb => ?_, h4⟩
  have := hw u hu
  unfold word at this
  simp only [Bool.and_eq_true, decide_eq_true_eq] at this
  have := List.all_eq_true.1 this.2 b hb
  unfold plain1 at this
  simp only [Bool.or_eq_true, Bool.and_eq_true, decide_eq_true_eq, UInt8.le_iff_toNat_le] at this
  have e1 : (97 : UInt8).toNat = 97 := rfl
  have e2 : (122 : UInt8).toNat = 122 := rfl
  have e3 : (65 : UInt8).toNat = 65 := rfl
  have e4 : (90 : UInt8).toNat = 90 := rfl
  have e5 : (48 : UInt8).toNat = 48 := rfl
  have e6 : (57 : UInt8).toNat = 57 := rfl
  omega
def tot (l : List W) : Nat := (l.map List.length).sum
theorem grp_tot (l : List W) : ((grp l).map fun a => 1 + tot a.2).sum ≤ tot l := by
  induction l with
  | nil => exact Nat.le_refl _
  | cons w l ih =>
    rw [grp_cons]
    unfold cons1
    have e : tot (w :: l) = w.length + tot l := by simp [tot]
    rw [e]
    split
    · simp; exact ih
    · rename_i c t
      split
      · rename_i c' m g' eg
        rw [eg] at ih
        split
        · simp [tot] at ih ⊢; omega
        · simp [tot] at ih ⊢; omega
      · rename_i eg
        simp [tot]; omega
theorem dfs_len (f : Nat) : ∀ (vs : List (List W)) (l : List W), (dfs f vs l).length ≤ vs.length + 1 + tot l := by
  induction f with
  | zero => intro vs l; unfold dfs; omega
  | succ f ih =>
    intro vs l
    by_cases h : l ∈ vs
    · rw [dfs_known h]; omega
    · rw [dfs_new h]
      have key : ∀ (g : List (UInt8 × List W)) (vs : List (List W)), (dfsAll f vs g).length ≤ vs.length + (g.map fun a => 1 + tot a.2).sum := by
        intro g
        induction g with
        | nil => intro vs; exact Nat.le_refl _
        | cons a g ihg =>
          intro vs
          rw [dfsAll_cons]
          have h1 := ihg (dfs f vs a.2)
          have h2 := ih vs a.2
          simp only [List.map_cons, List.sum_cons]
          omega
      have h1 := key (grp l) (vs ++ [l])
      have h2 := grp_tot l
      simp at h1
      omega
theorem tot_le {l : List W} {k : Nat} (h : ∀ u ∈ l, u.length ≤ k) : tot l ≤ l.length * k := by
  induction l with
  | nil => simp [tot]
  | cons w l ih =>
    have h1 := h w (List.mem_cons_self ..)
    have h2 := ih fun u hu => h u (List.mem_cons_of_mem _ hu)
    have e : tot (w :: l) = w.length + tot l := by simp [tot]
    rw [e, List.length_cons, Nat.add_mul]
    omega
theorem ends_len {l : List W} (h : dict l = true) : (ends l).length ≤ 4001 := by
  obtain ⟨h1, _, _, _, h5⟩ := dict_parts h
  have h2 := dfs_len 22 [] l
  have h3 := tot_le (l := l) (k := 20) (fun u hu => by
    unfold dict at h
    simp only [Bool.and_eq_true] at h
    exact word_short (List.all_eq_true.1 h.1.1.1 u hu))
  unfold ends
  have h4 : l.length * 20 ≤ 200 * 20 := Nat.mul_le_mul_right _ h5
  simp at h2
  omega
end Go.Proofs.YtmmihcophkipoaaDoor
