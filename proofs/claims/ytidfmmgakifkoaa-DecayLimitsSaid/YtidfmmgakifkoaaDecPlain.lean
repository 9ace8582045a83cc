/-
  Plain facts on halving and on sums that stop at 2^30 (package decay and its reference). No program in sight.
-/
import Derived.WalkKit
import Derived.Lib.Hide
namespace Go.Proofs.Ytidfmmgakifkoaa
open Go.RowKit

/-- the value after k halvings -/
def hv (c : Int) (k : Nat) : Int := c / 2 ^ k

theorem hv_zero (c : Int) : hv c 0 = c := by simp [hv]
theorem hv_succ (c : Int) (k : Nat) : hv c (k + 1) = hv c k / 2 := by
  unfold hv
  rw [Int.pow_succ, Int.ediv_ediv_of_nonneg (Int.le_of_lt (Int.pow_pos (by omega)))]
theorem hv_add (c : Int) (a b : Nat) : hv (hv c a) b = hv c (a + b) := by
  induction b with
  | zero => simp [hv_zero]
  | succ b ih => rw [hv_succ, ih, ← Nat.add_assoc, hv_succ]
theorem hv_nonneg (c : Int) (k : Nat) (h : 0 ≤ c) : 0 ≤ hv c k := by
  induction k with
  | zero => rw [hv_zero]; exact h
  | succ k ih => rw [hv_succ]; omega
theorem hv_le (c : Int) (k : Nat) (h : 0 ≤ c) : hv c k ≤ c := by
  induction k with
  | zero => rw [hv_zero]; omega
  | succ k ih => have := hv_nonneg c k h; rw [hv_succ]; omega
theorem hv_anti (c : Int) (a b : Nat) (h : 0 ≤ c) (hab : a ≤ b) : hv c b ≤ hv c a := by
  obtain ⟨d, rfl⟩ := Nat.exists_eq_add_of_le hab
  rw [← hv_add]
  exact hv_le _ _ (hv_nonneg _ _ h)
theorem hv_mono (a b : Int) (k : Nat) (h : a ≤ b) : hv a k ≤ hv b k := by
  induction k with
  | zero => simp only [hv_zero]; exact h
  | succ k ih => simp only [hv_succ]; omega
theorem hv_bound (c : Int) (k : Nat) (h : 0 ≤ c) (j : Nat) (hc : c ≤ 2 ^ j * 1) (hk : j < k) : hv c k = 0 := by
  unfold hv
  apply Int.ediv_eq_zero_of_lt h
  have h1 : (2 : Int) ^ j < 2 ^ k := by
    have := Nat.pow_lt_pow_right (a := 2) (by omega) hk
    exact_mod_cast this
  omega
theorem hv_big (c : Int) (k : Nat) (h : 0 ≤ c) (hc : c ≤ 1073741824) (hk : 31 ≤ k) : hv c k = 0 :=
  hv_bound c k h 30 (by simpa using hc) (by omega)

/-- the sum that stops at 2^30 -/
def tot (l : List Int) : Int := l.foldl (fun s n => min (s + n) 1073741824) 0
theorem ite_min (a b : Int) : (if b < a then b else a) = min a b := by split <;> omega
theorem tot_nil : tot [] = 0 := rfl
theorem tot_snoc (l : List Int) (x : Int) : tot (l ++ [x]) = min (tot l + x) 1073741824 := by simp [tot]
theorem tot_range (l : List Int) : 0 ≤ tot l → tot l ≤ 1073741824 := by
  intro _
  rcases List.eq_nil_or_concat l with rfl | ⟨m, x, rfl⟩
  · simp [tot]
  · rw [List.concat_eq_append, tot_snoc]; omega
theorem tot_nonneg (l : List Int) (h : ∀ x ∈ l, 0 ≤ x) : 0 ≤ tot l := by
  suffices H : ∀ (n : Nat) (m : List Int), m.length = n → (∀ x ∈ m, 0 ≤ x) → 0 ≤ tot m from H _ l rfl h
  intro n
  induction n with
  | zero => intro m hm _; rw [List.eq_nil_of_length_eq_zero hm]; simp [tot]
  | succ n ih =>
    intro m hm hx
    rcases List.eq_nil_or_concat m with rfl | ⟨m', x, rfl⟩
    · simp at hm
    · rw [List.concat_eq_append] at *
      have h1 := ih m' (by simpa using hm) (fun y hy => hx y (by simp [hy]))
      have h2 := hx x (by simp)
      rw [tot_snoc]; omega
theorem take_snoc {α : Type} (l : List α) (k : Nat) (h : k < l.length) : l.take (k + 1) = l.take k ++ [l[k]] := by
  rw [List.take_succ_eq_append_getElem h]
/-- of numbers that are not negative: the sum, but at most 2^30 -/
theorem tot_eq (l : List Int) (h : ∀ x ∈ l, 0 ≤ x) : tot l = min l.sum 1073741824 := by
  suffices H : ∀ (n : Nat) (m : List Int), m.length = n → (∀ x ∈ m, 0 ≤ x) → tot m = min m.sum 1073741824 ∧ 0 ≤ m.sum from (H _ l rfl h).1
  intro n
  induction n with
  | zero => intro m hm _; rw [List.eq_nil_of_length_eq_zero hm]; simp [tot]; omega
  | succ n ih =>
    intro m hm hx
    rcases List.eq_nil_or_concat m with rfl | ⟨m', x, rfl⟩
    · simp at hm
    · rw [List.concat_eq_append] at *
      have h1 := ih m' (by simpa using hm) (fun y hy => hx y (by simp [hy]))
      have h2 := hx x (by simp)
      rw [tot_snoc, h1.1, List.sum_append]
      simp only [List.sum_cons, List.sum_nil]
      omega

/-- k is the number of halvings after which nothing is left -/
def GoneOf (v : Int) (k : Nat) : Prop := k ≤ 31 ∧ hv v k = 0 ∧ ∀ j, j < k → 0 < hv v j
theorem GoneOf.unique {v : Int} {a b : Nat} (ha : GoneOf v a) (hb : GoneOf v b) : a = b := by
  rcases Nat.lt_trichotomy a b with h | h | h
  · have := hb.2.2 a h; have := ha.2.1; omega
  · exact h
  · have := ha.2.2 b h; have := hb.2.1; omega
end Go.Proofs.Ytidfmmgakifkoaa
