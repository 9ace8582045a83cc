/-
  DecayEnds: for every epoch byte and every 32-bit number the law returns true and its arguments read as before. No condition.
-/
import Derived.Test.YtidfmmgakifkoaaDecS
import Derived.Test.YtidfmmgakifkoaaFrame
namespace Go.Proofs.Ytidfmmgakifkoaa
open Go.ChangeShapes Go.WideShapes Go.ChangeAt Go.RowKit
set_option linter.unusedVariables false
set_option linter.unusedSimpArgs false

theorem hv_half (v : Int) (j : Nat) : hv (v / 2) j = hv v (j + 1) := by
  have : v / 2 = hv v 1 := by rw [hv_succ, hv_zero]
  rw [this, hv_add, Nat.add_comm]
theorem goneOf_last {v : Int} {k : Nat} (h : GoneOf v (k + 1)) : hv v k = 1 := by
  have h1 := h.2.2 k (by omega)
  have h2 := h.2.1
  rw [hv_succ] at h2
  omega
theorem goneOf_half {v : Int} {k : Nat} (h : GoneOf v (k + 1)) : GoneOf (v / 2) k := by
  refine ⟨by have := h.1; omega, by rw [hv_half]; exact h.2.1, fun j hj => ?_⟩
  rw [hv_half]; exact h.2.2 (j + 1) (by omega)
theorem goneOf_zero {v : Int} (h : GoneOf v 0) : v = 0 := by have := h.2.1; rwa [hv_zero] at this
theorem goneOf_pos {v : Int} {k : Nat} (h : GoneOf v (k + 1)) : v ≠ 0 := by
  rintro rfl
  have := h.2.2 0 (by omega)
  rw [hv_zero] at this; omega

theorem ends_walk (a0 a1 : Int) (w : World) (h0 : 0 ≤ a0) (h1 : a0 ≤ 255) (h2 : 0 ≤ a1) (h3 : a1 ≤ 4294967295) :
    Calls Try.prog 8 #[.int .u8 a0, .int .u32 a1] w fun e w' => e = .returned (.bool true) ∧ Below w.heap.size w w' := by
  go_enter Try.func8, Try.ntmps8
  go_wp2_with fail
  refine (sanity_any _).mono ?_
  rintro e w1 ⟨rfl, hb1⟩
  go_wp2_with fail
  refine (made_any a0 a1 _ h0 h1 h2 h3).mono ?_
  rintro e w2 ⟨rfl, hb⟩
  have L2 : Below w.heap.size w w2 := hb1.trans (hb.mono hb1.size)
  clear hb hb1
  obtain ⟨e0, e1⟩ : 0 ≤ a0 % 41 ∧ a0 % 41 ≤ 40 := by omega
  obtain ⟨v0, v1⟩ : 0 ≤ a1 % 1073741825 ∧ a1 % 1073741825 ≤ 1073741824 := by omega
  generalize a0 % 41 = t at *
  generalize a1 % 1073741825 = v at *
  clear h0 h1 h2 h3
  go_wp2_with fail
  refine (gone_any t v _ v0 v1).mono ?_
  rintro e w3 ⟨k, hk, rfl, hb⟩
  have B3 := (Blk.new w2 26 #[.int .i64 t, .int .i64 v]).below hb (Nat.le_refl _)
  have hz2 := L2.size
  have L3 : Below w.heap.size w w3 := Below.trans (by go_grown) (hb.mono (by simp; omega))
  clear hb L2
  obtain ⟨c0, c1, c2, c3⟩ := B3.f2
  have HK := Lib.hid hk
  have hk31 := hk.1
  clear hk
  cases k with
  | zero =>
    obtain rfl := goneOf_zero HK.out
    go_wp2_with fail
    refine (at_lit t 0 t 0 _ (by rw [Int.sub_self]; decide) (by omega)).mono ?_
    rintro e w4 ⟨rfl, hb⟩
    have B4 := B3.below hb (Nat.le_refl _)
    have L4 : Below w.heap.size w w4 := L3.trans (hb.mono L3.size)
    clear hb B3 c0 c1 c2 c3 L3
    obtain ⟨c0, c1, c2, c3⟩ := B4.f2
    go_wp2
    go_returns
    exact ⟨rfl, L4⟩
  | succ k =>
    have hv0 := goneOf_pos HK.out
    have hgd := HK.out
    have hx : hv v (t + ((k : Int) + 1) - t).toNat = 0 := by rw [show (t + ((k : Int) + 1) - t).toNat = k + 1 by omega]; exact hgd.2.1
    have hy : hv v (t + ((k : Int) + 1) - 1 - t).toNat = 1 := by rw [show (t + ((k : Int) + 1) - 1 - t).toNat = k by omega]; exact goneOf_last hgd
    have hh := goneOf_half hgd
    have HX := Lib.hid hx; have HY := Lib.hid hy; have HH := Lib.hid hh
    clear hx hy hh hgd
    have vpos : 0 < v := by omega
    have vb : (v == 0) = false := by rw [beq_eq_false_iff_ne]; exact hv0
    have kb : ((k : Int) + 1 == 0) = false := by rw [beq_eq_false_iff_ne]; omega
    clear hv0
    go_wp2_with fail
    refine (at_lit t v _ 0 _ HX.out (by omega)).mono ?_
    rintro e w4 ⟨rfl, hb⟩
    have B4 := B3.below hb (Nat.le_refl _)
    have L4 : Below w.heap.size w w4 := L3.trans (hb.mono L3.size)
    clear hb B3 c0 c1 c2 c3 L3
    obtain ⟨c0, c1, c2, c3⟩ := B4.f2
    go_wp2_with fail
    refine (at_lit t v _ 1 _ HY.out (by omega)).mono ?_
    rintro e w5 ⟨rfl, hb⟩
    have B5 := B4.below hb (Nat.le_refl _)
    have L5 : Below w.heap.size w w5 := L4.trans (hb.mono L4.size)
    clear hb B4 c0 c1 c2 c3 L4
    obtain ⟨c0, c1, c2, c3⟩ := B5.f2
    go_wp2_with fail
    refine (gone_any t (v / 2) _ (by omega) (by omega)).mono ?_
    rintro e w6 ⟨j, hj, rfl, hb⟩
    obtain rfl : j = k := hj.unique HH.out
    have L6 : Below w.heap.size w w6 := L5.trans (hb.mono L5.size)
    clear hb hj
    go_wp2
    go_returns
    exact ⟨rfl, L6⟩

set_option maxRecDepth 100000 in
theorem ends_lifted (os : Os) (started : os.Started) (H : Type) (enc : TypeId × Value → H) :
    ReturnsInHanded {} Try.checked os 8 .any (Rows.decayEndsSpec.pre6 enc Try.prog Try.f8 Rows.decayEndsRow.domain false) (Rows.decayEndsSpec.post enc Try.prog Try.f8 false true false false) := by
  refine returnsInHanded_of_change (C := Try.checked) own started (by kernel_rfl) Try.func8
    (ChangeSpec.witness6 (enc := enc) (C := Try.checked) false ⟨#[], #[.int .u8 0, .int .u32 0], []⟩ 8 (by kernel_rfl) (by kernel_rfl) (by kernel_rfl) (by kernel_rfl)) ?_
  intro W base args ds gs before hval0 hW hcnd _
  have hval : ∀ (j : Nat) t v, Try.f8.params[j]? = some t → args[j]? = some v → Value.okWide Try.prog W .any base t v := hval0
  have hW' := hW
  obtain ⟨p, q, hA0, hV, rfl, hfz, hnd⟩ := hW
  have hA : DataW.TrodAll enc Try.prog W 0 (fun _ => true) true Try.f8.params.toList args.toList ds p := hA0
  rw [Try.params8] at hA hval
  obtain ⟨v0, vs0, d0, ds0, p0, q0, hargs, rfl, rfl, h0, r0⟩ := trodAll_cons hA
  obtain ⟨v1, vs1, d1, ds1, p1, q1, rfl, rfl, rfl, h1, r1⟩ := trodAll_cons r0
  obtain ⟨rfl, rfl, rfl⟩ := trodAll_nil r1
  obtain rfl : args = #[v0, v1] := by cases args; simp_all
  obtain ⟨rfl, rfl⟩ := trodVars_none hV
  obtain ⟨a0, rfl, rfl, rfl, w0⟩ := open_int Try.underlying5 (hval 0 5 v0 rfl rfl) h0
  obtain ⟨a1, rfl, rfl, rfl, w1⟩ := open_int Try.underlying22 (hval 1 22 v1 rfl rfl) h1
  clear hA0 hval0
  have b0 : 0 ≤ a0 ∧ a0 ≤ 255 := by simpa [Lit.wf, IntKind.min, IntKind.max, IntKind.signed, IntKind.bits] using w0
  have b1 : 0 ≤ a1 ∧ a1 ≤ 4294967295 := by simpa [Lit.wf, IntKind.min, IntKind.max, IntKind.signed, IntKind.bits] using w1
  refine (ends_walk a0 a1 W b0.1 b0.2 b1.1 b1.2).mono fun e W' ⟨he, hg⟩ => ?_
  subst he
  exact ⟨_, rfl, law_post laidOut (by kernel_rfl) rfl hW' (fun _ _ _ => (trodAll_cons_mk (shut_bool Try.underlying4 _) trodAll_mk0)) (fun _ => ⟨rfl, rfl⟩) hg⟩

theorem ends_over : Rows.decayEndsRow.holds Try.pinned (OpenSpec.ofChange Rows.decayEndsSpec) :=
  OpenClaim.holds_of_wide 8 Try.f8 rfl rfl rfl rfl rfl rfl rfl ⟨rfl, rfl, rfl, rfl, rfl⟩ rfl rfl rfl rfl rfl (by kernel_rfl) Try.func8 (by kernel_rfl)
    (of_decide_eq_true (by kernel_rfl)) (by unfold Func.isWrapper; first | (rw [if_pos (by decide +kernel)]; kernel_rfl) | (rw [if_neg (by decide +kernel)]; exact ⟨rfl, rfl⟩))
    (fun os started H enc _ => ends_lifted os started H enc)
theorem ends_proved : Rows.DecayEndsSaid := ends_over
end Go.Proofs.Ytidfmmgakifkoaa
