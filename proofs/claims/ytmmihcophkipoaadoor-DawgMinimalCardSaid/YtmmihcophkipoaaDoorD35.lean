/-
  The functions of the program on the automaton of a dictionary: what they answer, said by the list of its words.
-/
import Derived.Test.YtmmihcophkipoaaDoorFr
namespace Go.Proofs.YtmmihcophkipoaaDoor
open Go.ChangeShapes Go.WideShapes Go.ChangeAt Go.RowKit
set_option linter.unusedVariables false
set_option linter.unusedSimpArgs false
variable {l : List W}
theorem dict_szs (h : dict l = true) : Szs (auto l) (HtE l) (SzE l) := by
  obtain ⟨_, _, _, _, h5⟩ := dict_parts h
  have := ends_len h
  exact szs_auto (dict_ends h) (by omega) (by omega)
theorem dict_met (h : dict l = true) : Met (auto l) := met_auto (dict_ends h)
theorem dict_alen (h : dict l = true) : (auto l).length ≤ 4001 := by rw [auto_len]; exact ends_len h
theorem dict_apos (h : dict l = true) : 0 < (auto l).length := by rw [auto_len]; exact (dict_ends h).pos
theorem dict_arcs (h : dict l = true) : ∀ x ∈ auto l, x.2.length ≤ 1000000 := (dict_szs h).fine.arcs
theorem dict_ht (h : dict l = true) : HtE l 0 ≤ 1000 := by
  have hE := dict_ends h
  have e : HtE l 0 = mx l := by
    unfold HtE
    have := getD_idx (root_in hE)
    rw [root_idx hE] at this
    rw [this]
  have hl := dict_word_len h
  have := mx_lt (m := l) (k := 21) (by omega) fun u hu => by have := hl u hu; omega
  omega
theorem dict_idx (h : dict l = true) (s : W) : idxO (auto l) (SzE l) s (lead (auto l) 0 s) = wix l s := by
  have hE := dict_ends h
  have hf := has_auto hE s
  have hi := index_auto hE s l (root_in hE)
  rw [root_idx hE] at hi
  unfold wix
  cases hL : lead (auto l) 0 s with
  | none =>
    rw [hL] at hf
    have : s ∉ l := by simpa [finO] using hf.symm
    rw [if_neg this]; rfl
  | some n =>
    rw [hL] at hf
    simp only [finO] at hf
    simp only [idxO, hf, decide_eq_true_eq]
    by_cases hs : s ∈ l
    · rw [if_pos hs, if_pos hs, hi hs]
    · rw [if_neg hs, if_neg hs]
def atL (l : List W) (i : Int) : W × Int := if 0 ≤ i ∧ i < l.length then (l.getD i.toNat [], 0) else ([], 90)
theorem dict_at (h : dict l = true) (i : Int) : atR (auto l) (HtE l) (SzE l) i = atL l i := by
  have hE := dict_ends h
  have h0 := sz_root hE
  unfold atR atL
  rw [h0]
  by_cases hi : 0 ≤ i ∧ i < l.length
  · rw [if_pos hi, if_pos hi]
    have hl : i.toNat < l.length := by omega
    have e : HtE l 0 = mx l := by
      unfold HtE
      have := getD_idx (root_in hE)
      rw [root_idx hE] at this
      rw [this]
    have := at_auto hE (HtE l 0 + 1) l i.toNat (root_in hE) (by omega) hl
    rw [root_idx hE] at this
    rw [this, List.getD_eq_getElem?_getD, List.getElem?_eq_getElem hl]; rfl
  · rw [if_neg hi, if_neg hi]

theorem has_d (h : dict l = true) (A : Option Addr) (c : Nat) (s : W) (hs : s.length ≤ maxLen) (w : World) (hd : Dw w A (auto l)) :
    Calls Tryd.prog 25 #[.slice A (auto l).length c, .string (bs s)] w fun e w' => e = .returned (.bool (decide (s ∈ l))) ∧ Ext w w' := by
  have := has_any A c (auto l) (dict_szs h).fine s hs w hd
  rwa [has_auto (dict_ends h)] at this
theorem count_d (h : dict l = true) (A : Option Addr) (c : Nat) (s : W) (hs : s.length ≤ maxLen) (w : World) (hd : Dw w A (auto l)) :
    Calls Tryd.prog 28 #[.slice A (auto l).length c, .string (bs s)] w fun e w' => e = .returned (.int .i64 (cnt l s)) ∧ Ext w w' := by
  have := count_any A c (auto l) _ _ (dict_szs h) (dict_met h) s hs w hd
  rwa [count_auto (dict_ends h)] at this
theorem index_d (h : dict l = true) (A : Option Addr) (c : Nat) (s : W) (hs : s.length ≤ 1000) (ha : ∀ x ∈ s, x.toNat < 128) (w : World) (hd : Dw w A (auto l)) :
    Calls Tryd.prog 27 #[.slice A (auto l).length c, .string (bs s)] w fun e w' => e = .returned (.int .i64 (wix l s)) ∧ Ext w w' := by
  have := index9_any A c (auto l) _ _ (dict_szs h) (dict_met h) s hs ha w hd
  rwa [dict_idx h] at this
theorem at_d (h : dict l = true) (A : Option Addr) (c : Nat) (i : Int) (w : World) (hd : Dw w A (auto l)) :
    Calls Tryd.prog 32 #[.slice A (auto l).length c, .int .i64 i] w fun e w' => e = .returned (.tuple #[.string (bs (atL l i).1), .int .i64 (atL l i).2]) ∧ Ext w w' := by
  have := at9_any A c (auto l) _ _ (dict_szs h) (dict_met h) (dict_ht h) i w hd
  rwa [dict_at h] at this
theorem valid_d (h : dict l = true) (A : Option Addr) (c : Nat) (w : World) (hd : Dw w A (auto l)) (hT : Tb w) :
    Calls Tryd.prog 23 #[.slice A (auto l).length c] w fun e w' => e = .returned (.bool true) ∧ Ext w w' := by
  have := pvalid_any (auto l) (by have := dict_alen h; omega) (dict_arcs h) w A c hd hT
  rwa [progV_eq, valid_auto h] at this
theorem words_d (h : dict l = true) (A : Option Addr) (c : Nat) (w : World) (hd : Dw w A (auto l)) :
    Calls Tryd.prog 35 #[.slice A (auto l).length c] w fun e w' => ∃ v, e = .returned v ∧ Ow w.heap.size l v w' ∧ Ext w w' := by
  obtain ⟨k, _, hk⟩ := wk_auto h
  exact pwords_any (auto l) (by have := dict_alen h; omega) (dict_arcs h) w A c hd k l hk
theorem ref_d (h : dict l = true) (A : Option Addr) (c : Nat) (w : World) (hr : Rd w 9 1 A l.length (sv l)) (hc1 : l.length ≤ c) (hc2 : c ≤ maxLen) :
    Calls Tryd.prog 22 #[.slice A l.length c] w fun e w' => ∃ A' c', e = .returned (.slice A' (auto l).length c') ∧ (auto l).length ≤ c' ∧ c' ≤ maxLen ∧ Dw w' A' (auto l) ∧ Ext w w' := by
  obtain ⟨h1, h2, h3, h4, h5⟩ := dict_parts h
  exact of_any l h1 h2 h3 h4 (by omega) (by have := ends_len h; omega) w A c hr hc1 hc2
end Go.Proofs.YtmmihcophkipoaaDoor
