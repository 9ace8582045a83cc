/-
  Contracts of package decay's functions: what each call hands back, for every valid argument, in every world.
-/
import Derived.Test.YtidfmmgakifkoaaChecked
import Derived.Test.YtidfmmgakifkoaaDecPlain
import Derived.Test.YtidfmmgakifkoaaMem
namespace Go.Proofs.Ytidfmmgakifkoaa
open Go.ChangeShapes Go.WideShapes Go.ChangeAt Go.RowKit
set_option linter.unusedVariables false
set_option linter.unusedSimpArgs false

theorem after_any (c n : Int) (w : World) (h0 : 0 ≤ c) (h1 : c ≤ 1073741824) (h2 : 0 ≤ n) (h3 : n ≤ 20000) :
    Calls Try.prog 20 #[.int .i64 c, .int .i64 n] w fun e w' => e = .returned (.int .i64 (hv c n.toNat)) ∧ w = w' := by
  by_cases hn : 31 < n
  · have hb := hv_big c n.toNat h0 h1 (by omega)
    have HB := Lib.hid hb; clear hb
    go_enter Try.func20, Try.ntmps20
    go_wp2
    go_ret
    exact ⟨ret_int (by rw [HB.out]), rfl⟩
  · go_enter Try.func20, Try.ntmps20
    go_wp2
    go_ret
    exact ⟨rfl, rfl⟩

theorem at_yes (t v x : Int) (w : World) (ht0 : 0 ≤ t) (ht : t ≤ 10000) (h0 : 0 ≤ v) (h1 : v ≤ 1073741824) (h2 : t ≤ x) (h3 : x ≤ 10000) :
    Calls Try.prog 12 #[.agg #[.int .i64 t, .int .i64 v], .int .i64 x] w fun e w' => e = .returned (.tuple #[.int .i64 (hv v (x - t).toNat), .int .i64 0]) ∧ Below w.heap.size w w' := by
  have h2' : ¬ x < t := by omega
  have h3' : ¬ 10000 < x := by omega
  go_enter Try.func12, Try.ntmps12
  go_wp2_with (go_at_call 20; refine (after_any v (x - t) _ h0 h1 (by omega) (by omega)).mono ?_; rintro e w' ⟨rfl, rfl⟩)
  go_returns
  exact ⟨rfl, by go_grown⟩
theorem at_no (t v x : Int) (w : World) (h2 : x < t ∨ 10000 < x) :
    Calls Try.prog 12 #[.agg #[.int .i64 t, .int .i64 v], .int .i64 x] w fun e w' => e = .returned (.tuple #[.int .i64 0, .int .i64 120]) ∧ Below w.heap.size w w' := by
  by_cases h : x < t
  · clear h2
    go_enter Try.func12, Try.ntmps12
    go_wp2
    go_returns
    exact ⟨rfl, by go_grown⟩
  · have h3 : 10000 < x := by omega
    clear h2
    go_enter Try.func12, Try.ntmps12
    go_wp2
    go_returns
    exact ⟨rfl, by go_grown⟩

def GonePost (v : Int) (w : World) (e : Ending) (w' : World) : Prop := ∃ k : Nat, GoneOf v k ∧ e = .returned (.int .i64 k) ∧ Below w.heap.size w w'
set_option maxHeartbeats 400000 in
theorem gone_any (t v : Int) (w : World) (h0 : 0 ≤ v) (h1 : v ≤ 1073741824) :
    Calls Try.prog 16 #[.agg #[.int .i64 t, .int .i64 v]] w (GonePost v w) := by
  go_enter Try.func16, Try.ntmps16
  go_wp2_with fail
  go_loop [4] (fun i => ∃ k : Nat, k ≤ 31 ∧ i = .int .i64 k ∧ ∀ j, j < k → 0 < hv v j) (fun i => 40 - (intOf i).toNat)
  case atStart => exact ⟨0, by omega, rfl, by omega⟩
  case round =>
    obtain ⟨k, hk, rfl, hp⟩ := hrel
    have HP := Lib.hid hp; clear hp
    by_cases hz : 0 < hv v k
    · have hk2 : k < 31 := by
        rcases Nat.lt_or_ge k 31 with h | h
        · exact h
        · rw [hv_big v k h0 h1 h] at hz; omega
      go_wp2_with (go_at_call 20; refine (after_any v k _ h0 h1 (by omega) (by omega)).mono ?_; rintro e w' ⟨rfl, rfl⟩; simp only [Int.toNat_natCast])
      go_round
      case rel =>
        refine ⟨k + 1, by omega, by go_num, fun j hj => ?_⟩
        rcases Nat.lt_or_ge j k with h | h
        · exact HP.out j h
        · obtain rfl : j = k := by omega
          exact hz
      case measure => simp [intOf]; omega
    · have hz0 : hv v k = 0 := by have := hv_nonneg v k h0; omega
      have HZ := Lib.hid hz0; clear hz0
      go_wp2_with (go_at_call 20; refine (after_any v k _ h0 h1 (by omega) (by omega)).mono ?_; rintro e w' ⟨rfl, rfl⟩; simp only [Int.toNat_natCast])
      go_returns
      exact ⟨k, ⟨hk, HZ.out, HP.out⟩, rfl, by go_grown⟩

theorem total_any (A : Option Addr) (n c : Nat) (e : TypeId) (xs : List Int) (w : World) (hr : Rd w e 1 A n (xs.map (.int .i64))) (hb : ∀ x ∈ xs, 0 ≤ x ∧ x ≤ 1073741824) (hn : n ≤ 2000) :
    Calls Try.prog 22 #[.slice A n c] w fun e w' => e = .returned (.int .i64 (tot xs)) ∧ w = w' := by
  have hl : xs.length = n := by have := hr.len; simpa using this
  have HB := Lib.hid hb; clear hb
  have HL := Lib.hid hl; clear hl
  go_enter Try.func22, Try.ntmps22
  go_wp2_with fail
  go_loop [3, 8] (fun s i => ∃ k : Nat, k ≤ n ∧ i = .int .i64 k ∧ s = .int .i64 (tot (xs.take k))) (fun _ i => n - (intOf i).toNat)
  case atStart => exact ⟨0, by omega, rfl, by rw [List.take_zero, tot_nil]⟩
  case round =>
    obtain ⟨k, hk, rfl, rfl⟩ := hrel
    have h1 := tot_nonneg (xs.take k) (fun x hx => (HB.out x (List.mem_of_mem_take hx)).1)
    have h2 := tot_range (xs.take k) h1
    by_cases hlt : k < n
    · obtain ⟨ad, u, rfl, hlt2, hu, hc⟩ := hr.at_ hlt
      have hkl : k < xs.length := by rw [HL.out]; exact hlt
      have hx := HB.out xs[k] (List.getElem_mem hkl)
      obtain rfl : u = .int .i64 xs[k] := by rw [List.getElem?_map, List.getElem?_eq_getElem hkl] at hu; simpa using hu.symm
      have hsn : tot (xs.take (k + 1)) = min (tot (xs.take k) + xs[k]) 1073741824 := by rw [take_snoc xs k hkl, tot_snoc]
      have HS := Lib.hid hsn; clear hsn hu
      generalize xs[k] = x at *
      generalize tot (xs.take k) = s at *
      go_wp2
      all_goals
        go_round
        case rel => exact ⟨k + 1, by omega, by go_num, by rw [HS.out, ite_min]⟩
        case measure => simp [intOf]; omega
    · have hfin : tot (xs.take k) = tot xs := by rw [List.take_of_length_le (by rw [HL.out]; omega)]
      have HF := Lib.hid hfin; clear hfin
      go_wp2
      go_ret
      exact ⟨ret_int HF.out, rfl⟩
end Go.Proofs.Ytidfmmgakifkoaa
