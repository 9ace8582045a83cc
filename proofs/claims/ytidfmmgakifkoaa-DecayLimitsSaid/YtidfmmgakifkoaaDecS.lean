/-
  The fixed examples of the law package hold: 'sanity' returns true in every world.
-/
import Derived.Test.YtidfmmgakifkoaaDecR
namespace Go.Proofs.Ytidfmmgakifkoaa
open Go.ChangeShapes Go.WideShapes Go.ChangeAt Go.RowKit
set_option linter.unusedVariables false
set_option linter.unusedSimpArgs false

theorem g13 : GoneOf 13 4 := ⟨by omega, by decide, by decide⟩
theorem g0 : GoneOf 0 0 := ⟨by omega, by decide, by omega⟩
theorem at_lit (t v x r : Int) (w : World) (hr : hv v (x - t).toNat = r) (h : 0 ≤ t ∧ t ≤ 10000 ∧ 0 ≤ v ∧ v ≤ 1073741824 ∧ t ≤ x ∧ x ≤ 10000) :
    Calls Try.prog 12 #[.agg #[.int .i64 t, .int .i64 v], .int .i64 x] w fun e w' => e = .returned (.tuple #[.int .i64 r, .int .i64 0]) ∧ Below w.heap.size w w' := by
  rw [← hr]; exact at_yes t v x w h.1 h.2.1 h.2.2.1 h.2.2.2.1 h.2.2.2.2.1 h.2.2.2.2.2
theorem add_lit (t v x n r : Int) (w : World) (hr : tot [hv v (x - t).toNat, n] = r) (h : 0 ≤ t ∧ t ≤ 10000 ∧ 0 ≤ v ∧ v ≤ 1073741824 ∧ t ≤ x ∧ x ≤ 10000 ∧ 0 ≤ n ∧ n ≤ 1073741824) :
    Calls Try.prog 14 #[.agg #[.int .i64 t, .int .i64 v], .int .i64 x, .int .i64 n] w fun e w' => e = .returned (.tuple #[.agg #[.int .i64 x, .int .i64 r], .int .i64 0]) ∧ Below w.heap.size w w' := by
  rw [← hr]; exact add_yes t v x n w h.1 h.2.1 h.2.2.1 h.2.2.2.1 h.2.2.2.2.1 h.2.2.2.2.2.1 h.2.2.2.2.2.2.1 h.2.2.2.2.2.2.2
theorem sum_lit (A : Option Addr) (c n : Nat) (ty : TypeId) (l : List (Int × Int)) (x r : Int) (w : World) (hr : Rd w ty 2 A n (tcells l)) (ht : tot (l.map fun p => hv p.2 (x - p.1).toNat) = r) (hn : n ≤ 1000 ∧ x ≤ 10000)
    (hl : ∀ p ∈ l, 0 ≤ p.1 ∧ p.1 ≤ x ∧ 0 ≤ p.2 ∧ p.2 ≤ 1073741824) :
    Calls Try.prog 19 #[.slice A n c, .int .i64 x] w fun e w' => e = .returned (.tuple #[.int .i64 r, .int .i64 0]) ∧ Below w.heap.size w w' := by
  rw [← ht]; exact sum_yes A n c ty l x w hr hn.1 hn.2 hl
set_option maxHeartbeats 1000000 in
theorem sanity_any (w : World) : Calls Try.prog 10 #[] w fun e w' => e = .returned (.bool true) ∧ Below w.heap.size w w' := by
  go_enter Try.func10, Try.ntmps10
  go_wp2_with fail
  refine (at_lit 3 13 3 13 _ (by decide) (by omega)).mono ?_
  rintro e w1 ⟨rfl, hb⟩
  have B1 := (Blk.new w 26 #[.int .i64 3, .int .i64 13]).below hb (Nat.le_refl _)
  have L1 : Below w.heap.size w w1 := Below.trans (by go_grown) (hb.mono (by simp))
  clear hb
  obtain ⟨c0, c1, c2, c3⟩ := B1.f2
  go_wp2_with fail
  refine (at_lit 3 13 4 6 _ (by decide) (by omega)).mono ?_
  rintro e w2 ⟨rfl, hb⟩
  have B2 : Blk w2 w.heap.size 26 #[.int .i64 3, .int .i64 13] := by
    refine Blk.low ?_ hb (by (try simp); omega)
    first | exact B1 | exact B1.alloc _ | exact (B1.alloc _).alloc _
  have L2 : Below w.heap.size w w2 := Below.trans (by go_grown) (hb.mono (by (try simp); omega))
  clear B1 L1 c0 c1 c2 c3
  clear hb
  obtain ⟨c0, c1, c2, c3⟩ := B2.f2
  go_wp2_with fail
  refine (at_lit 3 13 5 3 _ (by decide) (by omega)).mono ?_
  rintro e w3 ⟨rfl, hb⟩
  have B3 : Blk w3 w.heap.size 26 #[.int .i64 3, .int .i64 13] := by
    refine Blk.low ?_ hb (by (try simp); omega)
    first | exact B2 | exact B2.alloc _ | exact (B2.alloc _).alloc _
  have L3 : Below w.heap.size w w3 := Below.trans (by go_grown) (hb.mono (by (try simp); omega))
  clear B2 L2 c0 c1 c2 c3
  clear hb
  obtain ⟨c0, c1, c2, c3⟩ := B3.f2
  go_wp2_with fail
  refine (at_lit 3 13 7 0 _ (by decide) (by omega)).mono ?_
  rintro e w4 ⟨rfl, hb⟩
  have B4 : Blk w4 w.heap.size 26 #[.int .i64 3, .int .i64 13] := by
    refine Blk.low ?_ hb (by (try simp); omega)
    first | exact B3 | exact B3.alloc _ | exact (B3.alloc _).alloc _
  have L4 : Below w.heap.size w w4 := Below.trans (by go_grown) (hb.mono (by (try simp); omega))
  clear B3 L3 c0 c1 c2 c3
  clear hb
  obtain ⟨c0, c1, c2, c3⟩ := B4.f2
  go_wp2_with fail
  refine (at_no 3 13 2 _ (by omega)).mono ?_
  rintro e w5 ⟨rfl, hb⟩
  have B5 : Blk w5 w.heap.size 26 #[.int .i64 3, .int .i64 13] := by
    refine Blk.low ?_ hb (by (try simp); omega)
    first | exact B4 | exact B4.alloc _ | exact (B4.alloc _).alloc _
  have L5 : Below w.heap.size w w5 := Below.trans (by go_grown) (hb.mono (by (try simp); omega))
  clear B4 L4 c0 c1 c2 c3
  clear hb
  obtain ⟨c0, c1, c2, c3⟩ := B5.f2
  go_wp2_with fail
  refine (add_lit 3 13 5 4 7 _ (by decide) (by omega)).mono ?_
  rintro e w6 ⟨rfl, hb⟩
  have B6 : Blk w6 w.heap.size 26 #[.int .i64 3, .int .i64 13] := by
    refine Blk.low ?_ hb (by (try simp); omega)
    first | exact B5 | exact B5.alloc _ | exact (B5.alloc _).alloc _
  have L6 : Below w.heap.size w w6 := Below.trans (by go_grown) (hb.mono (by (try simp); omega))
  clear B5 L5 c0 c1 c2 c3
  clear hb
  obtain ⟨c0, c1, c2, c3⟩ := B6.f2
  go_wp2_with fail
  refine (add_arg 3 13 5 (-1) _ (by omega)).mono ?_
  rintro e w7 ⟨rfl, hb⟩
  have B7 : Blk w7 w.heap.size 26 #[.int .i64 3, .int .i64 13] := by
    refine Blk.low ?_ hb (by (try simp); omega)
    first | exact B6 | exact B6.alloc _ | exact (B6.alloc _).alloc _
  have L7 : Below w.heap.size w w7 := Below.trans (by go_grown) (hb.mono (by (try simp); omega))
  have X7 : Blk w7 w6.heap.size 26 #[.int .i64 5, .int .i64 7] := Blk.low (by first | exact Blk.new _ _ _ | exact (Blk.new _ _ _).alloc _) hb (by simp)
  clear B6 L6 c0 c1 c2 c3
  clear hb
  obtain ⟨c0, c1, c2, c3⟩ := B7.f2
  obtain ⟨x0, x1, x2, x3⟩ := X7.f2
  go_wp2_with fail
  refine (sum_lit _ _ 2 _ [(3, 13), (5, 2)] 5 5 _ (Rd.newAt _ _ (by simp) 26 2 2 #[.int .i64 3, .int .i64 13, .int .i64 5, .int .i64 2] (0, 0) _ rfl rfl) (by decide) (by omega) (by decide)).mono ?_
  rintro e w8 ⟨rfl, hb⟩
  have B8 : Blk w8 w.heap.size 26 #[.int .i64 3, .int .i64 13] := by
    refine Blk.low ?_ hb (by (try simp); omega)
    first | exact B7 | exact B7.alloc _ | exact (B7.alloc _).alloc _
  have L8 : Below w.heap.size w w8 := Below.trans (by go_grown) (hb.mono (by (try simp); omega))
  have X8 : Blk w8 w6.heap.size 26 #[.int .i64 5, .int .i64 7] := by
    refine Blk.low ?_ hb (by (try simp); omega)
    first | exact X7 | exact X7.alloc _ | exact (X7.alloc _).alloc _
  clear B7 L7 c0 c1 c2 c3
  clear X7 x0 x1 x2 x3
  clear hb
  obtain ⟨c0, c1, c2, c3⟩ := B8.f2
  obtain ⟨x0, x1, x2, x3⟩ := X8.f2
  go_wp2_with fail
  refine (sum_no _ _ 2 _ [(3, 13), (5, 2)] 4 _ (Rd.newAt _ _ (by simp) 26 2 2 #[.int .i64 3, .int .i64 13, .int .i64 5, .int .i64 2] (0, 0) _ rfl rfl) (by omega) (by omega) (by simp) (by simp)).mono ?_
  rintro e w9 ⟨rfl, hb⟩
  have B9 : Blk w9 w.heap.size 26 #[.int .i64 3, .int .i64 13] := by
    refine Blk.low ?_ hb (by (try simp); omega)
    first | exact B8 | exact B8.alloc _ | exact (B8.alloc _).alloc _
  have L9 : Below w.heap.size w w9 := Below.trans (by go_grown) (hb.mono (by (try simp); omega))
  have X9 : Blk w9 w6.heap.size 26 #[.int .i64 5, .int .i64 7] := by
    refine Blk.low ?_ hb (by (try simp); omega)
    first | exact X8 | exact X8.alloc _ | exact (X8.alloc _).alloc _
  clear B8 L8 c0 c1 c2 c3
  clear X8 x0 x1 x2 x3
  clear hb
  obtain ⟨c0, c1, c2, c3⟩ := B9.f2
  obtain ⟨x0, x1, x2, x3⟩ := X9.f2
  go_wp2_with fail
  refine (gone_any 3 13 _ (by omega) (by omega)).mono ?_
  rintro e w10 ⟨k, hk, rfl, hb⟩
  obtain rfl : k = 4 := hk.unique g13
  have L10 : Below w.heap.size w w10 := L9.trans (hb.mono L9.size)
  clear hb hk
  go_wp2_with fail
  refine (gone_any 3 0 _ (by omega) (by omega)).mono ?_
  rintro e w11 ⟨k, hk, rfl, hb⟩
  obtain rfl : k = 0 := hk.unique g0
  have L11 : Below w.heap.size w w11 := L10.trans (hb.mono L10.size)
  clear hb hk
  go_wp2_with fail
  go_returns
  exact ⟨rfl, L11⟩
end Go.Proofs.Ytidfmmgakifkoaa
