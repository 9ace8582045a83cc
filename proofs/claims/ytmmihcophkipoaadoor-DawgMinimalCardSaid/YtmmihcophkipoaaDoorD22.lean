import Derived.Test.YtmmihcophkipoaaDoorD21
namespace Go.Proofs.YtmmihcophkipoaaDoor
open Go.ChangeShapes Go.WideShapes Go.ChangeAt Go.RowKit
set_option linter.unusedVariables false
set_option linter.unusedSimpArgs false
theorem ls_short (d : Au) : ∀ (f : Nat) (s : Nat × List W) (n : Int) (w : W), (∀ u ∈ s.2, u.length ≤ 20) → ∀ u ∈ (ls d f s n w).2, u.length ≤ 20 := by
  intro f
  induction f with
  | zero => intro s n w h; unfold ls; exact h
  | succ f ih =>
    intro s n w h
    unfold ls
    split
    · exact h
    · rename_i hne
      have hw : w.length ≤ 20 := by
        rcases Nat.lt_or_ge 20 w.length with h1 | h1
        · exact absurd (.inr (.inr (.inr h1))) hne
        · exact h1
      have key : ∀ (l : List (UInt8 × Int)) (s : Nat × List W), (∀ u ∈ s.2, u.length ≤ 20) → ∀ u ∈ (l.foldl (fun s a => ls d f s a.2 (w ++ [a.1])) s).2, u.length ≤ 20 := by
        intro l
        induction l with
        | nil => intro s h; exact h
        | cons a l ihl => intro s h; rw [List.foldl_cons]; exact ihl _ (ih _ _ _ h)
      refine key _ _ (fun u hu => ?_)
      simp only at hu
      split at hu
      · rcases List.mem_append.1 hu with h1 | h1
        · exact h u h1
        · rw [List.mem_singleton.1 h1]; exact hw
      · exact h u hu
theorem listed_short (d : Au) : ∀ u ∈ (listed d).2, u.length ≤ 20 := ls_short d 22 _ _ _ (fun u h => by cases h)
theorem listed_len (d : Au) : (listed d).2.length ≤ 5000 := by
  have := ls_le d 22 (5000, []) 0 []
  unfold listed
  simp at this
  omega
set_option maxHeartbeats 2000000 in
set_option maxRecDepth 100000 in
theorem rvalid_any (d : Au) (hdl : d.length ≤ 1000000) (hal : ∀ x ∈ d, x.2.length ≤ 1000000) (w : World) (A : Option Addr) (c : Nat) (hd : Dw w A d) :
    Calls Tryd.prog 34 #[.slice A d.length c] w fun e w' => e = .returned (.bool (validB d)) ∧ Ext w w' := by
  have hsh := listed_short d
  have hln := listed_len d
  obtain ⟨r, hr⟩ : ∃ r, validB d = r := ⟨_, rfl⟩
  rw [hr]
  unfold validB at hr
  obtain ⟨L, hL⟩ : ∃ L, listed d = L := ⟨_, rfl⟩
  have HLL := Lib.hid hL
  rw [hL] at hr hsh hln
  obtain ⟨n, l⟩ := L
  simp only at hr hsh hln
  have HR := Lib.hid hr
  clear hr hL
  go_enter Tryd.func34, Tryd.ntmps34
  go_wp2_with fail
  refine (listed_any d hdl hal _ A c hd).mono ?_
  rw [HLL.out]
  rintro e w1 ⟨v, rfl, O, hX⟩
  obtain ⟨A1, c1, rfl, r1, h1, h2⟩ := own_form O
  by_cases hn : 0 < n
  · have hnd : decide (0 < n) = true := decide_eq_true hn
    simp only at r1 h1
    rw [hnd]
    rw [hnd] at HR
    go_wp2_with fail
    refine (rdict_any A1 c1 l _ r1.untyped (by omega) (fun x hx => by have := hsh x hx; simp only [maxLen]; omega)).mono ?_
    rintro e w2 ⟨rfl, hX2⟩
    cases hdi : dict l with
    | false =>
      rw [hdi] at HR
      have hrf : r = false := by rw [← HR.out]; simp
      subst hrf
      go_wp2
      go_ret
      exact ⟨rfl, hX.trans hX2⟩
    | true =>
      rw [hdi] at HR
      obtain ⟨p1, p2, p3, p4, p5⟩ := dict_parts hdi
      have hen := ends_len hdi
      go_wp2_with fail
      refine (of_any l p1 p2 p3 p4 (by omega) (by omega) _ A1 c1 (r1.ext hX2) h1 h2).mono ?_
      rintro e w3 ⟨A3, c3, rfl, _, _, D3, hX3⟩
      go_wp2_with fail
      refine (same_any A A3 c c3 d (auto l) _ (((hd.ext hX).ext hX2).ext hX3) D3 hdl hal).mono ?_
      rintro e w4 ⟨rfl, hX4⟩
      have hrf : decide (d = auto l) = r := by rw [← HR.out]; simp
      rw [hrf]
      go_wp2
      go_ret
      exact ⟨rfl, ((hX.trans hX2).trans hX3).trans hX4⟩
  · have hnd : decide (0 < n) = false := decide_eq_false hn
    have hrf : r = false := by rw [← HR.out, hnd]; simp
    subst hrf
    simp only at r1 h1
    rw [hnd]
    go_wp2
    go_ret
    exact ⟨rfl, hX⟩
end Go.Proofs.YtmmihcophkipoaaDoor
