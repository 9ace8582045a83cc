import Derived.Test.YtmmihcophkipoaaDoorD5
namespace Go.Proofs.YtmmihcophkipoaaDoor
open Go.ChangeShapes Go.WideShapes Go.ChangeAt Go.RowKit
set_option linter.unusedVariables false
set_option linter.unusedSimpArgs false
attribute [local go_sem] bs_beq bs_bne bs_less bs_size bs_extract
def beg (s p : W) : Bool := decide (p.length ≤ s.length) && decide (s.take p.length = p)
def cnt (l : List W) (p : W) : Nat := (l.filter (beg · p)).length
theorem cnt_snoc (l : List W) (p : W) (k : Nat) (h : k < l.length) : cnt (l.take (k + 1)) p = cnt (l.take k) p + if beg l[k] p = true then 1 else 0 := by
  unfold cnt
  rw [take_snoc l k h, List.filter_append, List.length_append]
  by_cases hb : beg l[k] p = true
  · simp [hb]
  · simp [hb]
theorem cnt_le (l : List W) (p : W) (k : Nat) : cnt (l.take k) p ≤ k := by
  unfold cnt
  exact Nat.le_trans (List.length_filter_le _ _) (by rw [List.length_take]; omega)
theorem begins_any (s p : W) (hs : s.length ≤ maxLen) (hp : p.length ≤ maxLen) (w : World) :
    Calls Tryd.prog 56 #[.string (bs s), .string (bs p)] w fun e w' => e = .returned (.bool (beg s p)) ∧ w = w' := by
  unfold maxLen at hs hp
  unfold beg
  by_cases h1 : p.length ≤ s.length
  · rw [decide_eq_true h1, Bool.true_and]
    have h1' : (p.length : Int) ≤ s.length := by omega
    by_cases h2 : s.take p.length = p
    · rw [decide_eq_true h2]
      have hd : decide (s.take p.length = p) = true := decide_eq_true h2
      have H2 := Lib.hid h2; clear h2
      go_enter Tryd.func56, Tryd.ntmps56
      go_wp2
      go_ret
      exact ⟨rfl, rfl⟩
    · rw [decide_eq_false h2]
      have hd : decide (s.take p.length = p) = false := decide_eq_false h2
      go_enter Tryd.func56, Tryd.ntmps56
      go_wp2
      go_ret
      exact ⟨rfl, rfl⟩
  · rw [decide_eq_false h1, Bool.false_and]
    have h1' : ¬ (p.length : Int) ≤ s.length := by omega
    go_enter Tryd.func56, Tryd.ntmps56
    go_wp2
    go_ret
    exact ⟨rfl, rfl⟩
set_option maxHeartbeats 1000000 in
theorem rcount_any (A : Option Addr) (c : Nat) (l : List W) (p : W) (w : World) (hr : Rd w 0 1 A l.length (sv l)) (hn : l.length ≤ 1000000) (hs : ∀ x ∈ l, x.length ≤ maxLen) (hp : p.length ≤ maxLen) :
    Calls Tryd.prog 29 #[.slice A l.length c, .string (bs p)] w fun e w' => e = .returned (.int .i64 (cnt l p)) ∧ Ext w w' := by
  obtain ⟨r, hr0⟩ : ∃ r, cnt l p = r := ⟨_, rfl⟩
  rw [hr0]
  have HR := Lib.hid hr0; clear hr0
  go_enter Tryd.func29, Tryd.ntmps29
  go_wp2_with fail
  go_loopw [5, 6] (fun v i wr => ∃ k m : Nat, k ≤ l.length ∧ i = .int .i64 k ∧ v = .int .i64 m ∧ m = cnt (l.take k) p ∧ Ext w wr) (fun _ i _ => 1000001 - (intOf i).toNat)
  case atStart => exact ⟨0, 0, by omega, rfl, rfl, rfl, Ext.refl _⟩
  case round =>
    obtain ⟨k, m, hk, rfl, rfl, hm, hX⟩ := hrel
    have hml := cnt_le l p k
    rw [← hm] at hml
    by_cases hlt : k < l.length
    · have hlt' : (k : Int) < l.length := by omega
      obtain ⟨ad, e1, hab, hc⟩ := (hr.ext hX).one hlt (sv_at l k hlt)
      subst e1
      have HX := Lib.hid (cnt_snoc l p k hlt)
      have hx20 := hs _ (List.getElem_mem hlt)
      rw [← hm] at HX
      clear hm
      generalize l[k] = x at *
      go_wp2_with fail
      refine (begins_any x p hx20 hp _).mono ?_
      rintro e w' ⟨rfl, rfl⟩
      by_cases hb : beg x p = true
      · have HE := Lib.hid (show cnt (l.take (k + 1)) p = m + 1 from HX.out.trans (by rw [if_pos hb]))
        rw [hb]
        clear hb
        go_wp2
        exact ⟨⟨k + 1, m + 1, by omega, by go_num, by go_num, HE.out.symm, hX⟩, by simp only [intOf]; omega⟩
      · have hbf : beg x p = false := by simpa using hb
        have HE := Lib.hid (show cnt (l.take (k + 1)) p = m from HX.out.trans (by rw [if_neg hb]; rfl))
        rw [hbf]
        clear hb hbf
        go_wp2
        exact ⟨⟨k + 1, m, by omega, by go_num, rfl, HE.out.symm, hX⟩, by simp only [intOf]; omega⟩
    · have hfin : m = r := by rw [hm, ← HR.out, List.take_of_length_le (by omega)]
      subst hfin
      clear hm
      have hlt' : ¬ (k : Int) < l.length := by omega
      go_wp2
      go_ret
      exact ⟨rfl, hX⟩
end Go.Proofs.YtmmihcophkipoaaDoor
