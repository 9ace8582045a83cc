/-
  Contracts of the reference's functions (package syllabaryref12), in every world.
-/
import Derived.Test.YtidfmmgakifkoaaDecB
namespace Go.Proofs.Ytidfmmgakifkoaa
open Go.ChangeShapes Go.WideShapes Go.ChangeAt Go.RowKit
set_option linter.unusedVariables false
set_option linter.unusedSimpArgs false

theorem halved_any (c n : Int) (w : World) (h0 : 0 ≤ c) (h1 : c ≤ 1073741824) (h2 : 0 ≤ n) (h3 : n ≤ 20000) :
    Calls Try.prog 21 #[.int .i64 c, .int .i64 n] w fun e w' => e = .returned (.int .i64 (hv c n.toNat)) ∧ w = w' := by
  go_enter Try.func21, Try.ntmps21
  go_wp2
  go_loop [0, 5] (fun x i => ∃ k : Nat, (k : Int) ≤ n ∧ k ≤ 40 ∧ i = .int .i64 k ∧ x = .int .i64 (hv c k)) (fun _ i => 40 - (intOf i).toNat)
  case atStart => exact ⟨0, by omega, by omega, rfl, by rw [hv_zero]⟩
  case round =>
    obtain ⟨k, hk, hk2, rfl, rfl⟩ := hrel
    have hb := hv_nonneg c k h0
    have hl := hv_le c k h0
    by_cases hlt : (k : Int) < n ∧ k < 40
    · obtain ⟨hlt, hlt2⟩ := hlt
      go_wp2
      go_round
      case rel => exact ⟨k + 1, by omega, by omega, by go_num, by rw [hv_succ]⟩
      case measure => simp [intOf]; omega
    · have he : hv c n.toNat = hv c k := by
        by_cases hkn : (k : Int) = n
        · rw [← hkn]; rfl
        · rw [hv_big c n.toNat h0 h1 (by omega), hv_big c k h0 h1 (by omega)]
      have HE := Lib.hid he; clear he
      by_cases hlt1 : (k : Int) < n
      · have hlt2 : ¬ k < 40 := by omega
        clear hlt
        go_wp2
        go_ret
        exact ⟨ret_int (by rw [HE.out]), rfl⟩
      · clear hlt
        go_wp2
        go_ret
        exact ⟨ret_int (by rw [HE.out]), rfl⟩

theorem rat_yes (t v x : Int) (w : World) (ht0 : 0 ≤ t) (ht : t ≤ 10000) (h0 : 0 ≤ v) (h1 : v ≤ 1073741824) (h2 : t ≤ x) (h3 : x ≤ 10000) :
    Calls Try.prog 13 #[.agg #[.int .i64 t, .int .i64 v], .int .i64 x] w fun e w' => e = .returned (.tuple #[.int .i64 (hv v (x - t).toNat), .int .i64 0]) ∧ Below w.heap.size w w' := by
  have h2' : ¬ x < t := by omega
  have h3' : ¬ 10000 < x := by omega
  go_enter Try.func13, Try.ntmps13
  go_wp2_with (go_at_call 21; refine (halved_any v (x - t) _ h0 h1 (by omega) (by omega)).mono ?_; rintro e w' ⟨rfl, rfl⟩)
  go_returns
  exact ⟨rfl, by go_grown⟩
theorem rat_no (t v x : Int) (w : World) (h2 : x < t ∨ 10000 < x) :
    Calls Try.prog 13 #[.agg #[.int .i64 t, .int .i64 v], .int .i64 x] w fun e w' => e = .returned (.tuple #[.int .i64 0, .int .i64 120]) ∧ Below w.heap.size w w' := by
  by_cases h : x < t
  · clear h2
    go_enter Try.func13, Try.ntmps13
    go_wp2
    go_returns
    exact ⟨rfl, by go_grown⟩
  · have h3 : 10000 < x := by omega
    clear h2
    go_enter Try.func13, Try.ntmps13
    go_wp2
    go_returns
    exact ⟨rfl, by go_grown⟩
theorem radd_yes (t v x n : Int) (w : World) (ht0 : 0 ≤ t) (ht : t ≤ 10000) (h0 : 0 ≤ v) (h1 : v ≤ 1073741824) (h2 : t ≤ x) (h3 : x ≤ 10000) (h4 : 0 ≤ n) (h5 : n ≤ 1073741824) :
    Calls Try.prog 15 #[.agg #[.int .i64 t, .int .i64 v], .int .i64 x, .int .i64 n] w fun e w' => e = .returned (.tuple #[.agg #[.int .i64 x, .int .i64 (tot [hv v (x - t).toNat, n])], .int .i64 0]) ∧ Below w.heap.size w w' := by
  have h4' : ¬ n < 0 := by omega
  have h5' : ¬ 1073741824 < n := by omega
  have hv1 := hv_nonneg v (x - t).toNat h0
  have hv2 := hv_le v (x - t).toNat h0
  have htot : tot [hv v (x - t).toNat, n] = if 1073741824 < hv v (x - t).toNat + n then 1073741824 else hv v (x - t).toNat + n := by
    rw [tot_eq _ (by simp; omega)]; simp only [List.sum_cons, List.sum_nil]; split <;> omega
  have HT := Lib.hid htot; clear htot
  rw [HT.out]
  by_cases hs : 1073741824 < hv v (x - t).toNat + n
  · rw [if_pos hs]
    go_enter Try.func15, Try.ntmps15
    go_wp2_with (go_at_call 13; refine (rat_yes t v x _ ht0 ht h0 h1 h2 h3).mono ?_; rintro e w1 ⟨rfl, hb⟩; obtain ⟨hc, hf⟩ := bcell hb; have hz : w.heap.size + 1 < w1.heap.size := by (have := hb.size; simp at this; omega))
    have hb1 : Below w.heap.size w w1 := Below.trans (by go_grown) (hb.mono (by simp; omega))
    refine bodyPost_ret (v := .tuple #[.agg #[.int .i64 _, .int .i64 _], .int .i64 _]) (by first | (simp [results, Try.results15, go_sem, hc]; done) | (simp [results, Try.results15, go_sem, hc, hz]; done)) rfl ⟨rfl, ?_⟩
    go_grown
  · rw [if_neg hs]
    go_enter Try.func15, Try.ntmps15
    go_wp2_with (go_at_call 13; refine (rat_yes t v x _ ht0 ht h0 h1 h2 h3).mono ?_; rintro e w1 ⟨rfl, hb⟩; obtain ⟨hc, hf⟩ := bcell hb; have hz : w.heap.size + 1 < w1.heap.size := by (have := hb.size; simp at this; omega))
    have hb1 : Below w.heap.size w w1 := Below.trans (by go_grown) (hb.mono (by simp; omega))
    refine bodyPost_ret (v := .tuple #[.agg #[.int .i64 _, .int .i64 _], .int .i64 _]) (by first | (simp [results, Try.results15, go_sem, hc]; done) | (simp [results, Try.results15, go_sem, hc, hz]; done)) rfl ⟨rfl, ?_⟩
    go_grown
theorem radd_arg (t v x n : Int) (w : World) (h4 : n < 0 ∨ 1073741824 < n) :
    Calls Try.prog 15 #[.agg #[.int .i64 t, .int .i64 v], .int .i64 x, .int .i64 n] w fun e w' => e = .returned (.tuple #[.agg #[.int .i64 0, .int .i64 0], .int .i64 1]) ∧ Below w.heap.size w w' := by
  by_cases h : n < 0
  · clear h4
    go_enter Try.func15, Try.ntmps15
    go_wp2
    go_returns
    exact ⟨rfl, by go_grown⟩
  · have h5 : 1073741824 < n := by omega
    clear h4
    go_enter Try.func15, Try.ntmps15
    go_wp2
    go_returns
    exact ⟨rfl, by go_grown⟩
theorem radd_epoch (t v x n : Int) (w : World) (h2 : x < t ∨ 10000 < x) (h4 : 0 ≤ n) (h5 : n ≤ 1073741824) :
    Calls Try.prog 15 #[.agg #[.int .i64 t, .int .i64 v], .int .i64 x, .int .i64 n] w fun e w' => e = .returned (.tuple #[.agg #[.int .i64 0, .int .i64 0], .int .i64 120]) ∧ Below w.heap.size w w' := by
  have h4' : ¬ n < 0 := by omega
  have h5' : ¬ 1073741824 < n := by omega
  go_enter Try.func15, Try.ntmps15
  go_wp2_with (first
    | (go_at_call 13; refine (rat_no t v x _ h2).mono ?_; rintro e w1 ⟨rfl, hb⟩; obtain ⟨hc, hf⟩ := bcell hb; have hz : w.heap.size + 1 < w1.heap.size := by (have := hb.size; simp at this; omega)))
  have hb1 : Below w.heap.size w w1 := Below.trans (by go_grown) (hb.mono (by simp; omega))
  refine bodyPost_ret (v := .tuple #[.agg #[.int .i64 _, .int .i64 _], .int .i64 _]) (by first | (simp [results, Try.results15, go_sem, hc]; done) | (simp [results, Try.results15, go_sem, hc, hz]; done)) rfl ⟨rfl, ?_⟩
  go_grown
set_option maxHeartbeats 400000 in
theorem rgone_any (t v : Int) (w : World) (h0 : 0 ≤ v) (h1 : v ≤ 1073741824) :
    Calls Try.prog 17 #[.agg #[.int .i64 t, .int .i64 v]] w (GonePost v w) := by
  go_enter Try.func17, Try.ntmps17
  go_wp2_with fail
  go_loop [3] (fun i => ∃ k : Nat, k ≤ 31 ∧ i = .int .i64 k ∧ ∀ j, j < k → 0 < hv v j) (fun i => 40 - (intOf i).toNat)
  case atStart => exact ⟨0, by omega, rfl, by omega⟩
  case round =>
    obtain ⟨k, hk, rfl, hp⟩ := hrel
    have HP := Lib.hid hp; clear hp
    by_cases hz : 0 < hv v k
    · have hk2 : k < 31 := by
        rcases Nat.lt_or_ge k 31 with h | h
        · exact h
        · rw [hv_big v k h0 h1 h] at hz; omega
      go_wp2_with (go_at_call 21; refine (halved_any v k _ h0 h1 (by omega) (by omega)).mono ?_; rintro e w' ⟨rfl, rfl⟩; simp only [Int.toNat_natCast])
      go_round
      case rel =>
        refine ⟨k + 1, by omega, by go_num, fun j hj => ?_⟩
        rcases Nat.lt_or_ge j k with h | h
        · exact HP.out j h
        · obtain rfl : j = k := by omega
          exact hz
      case measure => simp [intOf]; omega
    · have hz0 : hv v k = 0 := by have := hv_nonneg v k h0; omega
      have HZ := Lib.hid hz0; clear hz0
      go_wp2_with (go_at_call 21; refine (halved_any v k _ h0 h1 (by omega) (by omega)).mono ?_; rintro e w' ⟨rfl, rfl⟩; simp only [Int.toNat_natCast])
      go_returns
      exact ⟨k, ⟨hk, HZ.out, HP.out⟩, rfl, by go_grown⟩
theorem made_any (m n : Int) (w : World) (h0 : 0 ≤ m) (h1 : m ≤ 255) (h2 : 0 ≤ n) (h3 : n ≤ 4294967295) :
    Calls Try.prog 11 #[.int .u8 m, .int .u32 n] w fun e w' => e = .returned (.agg #[.int .i64 (m % 41), .int .i64 (n % 1073741825)]) ∧ Below w.heap.size w w' := by
  go_enter Try.func11, Try.ntmps11
  go_wp2
  go_returns
  exact ⟨rfl, by go_grown⟩
end Go.Proofs.Ytidfmmgakifkoaa
