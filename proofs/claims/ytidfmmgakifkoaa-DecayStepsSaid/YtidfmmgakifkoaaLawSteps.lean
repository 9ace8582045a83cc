/-
  DecaySteps: for every epoch byte, number and pair of bytes the law returns true and its arguments read as before. No condition.
-/
import Derived.Test.YtidfmmgakifkoaaDecS
import Derived.Test.YtidfmmgakifkoaaFrame
namespace Go.Proofs.Ytidfmmgakifkoaa
open Go.ChangeShapes Go.WideShapes Go.ChangeAt Go.RowKit
set_option linter.unusedVariables false
set_option linter.unusedSimpArgs false

theorem steps_walk (a0 a1 x y : Int) (w : World) (h0 : 0 ≤ a0) (h1 : a0 ≤ 255) (h2 : 0 ≤ a1) (h3 : a1 ≤ 4294967295) (hx0 : 0 ≤ x) (hx1 : x ≤ 255) (hy0 : 0 ≤ y) (hy1 : y ≤ 255) :
    Calls Try.prog 4 #[.int .u8 a0, .int .u32 a1, .agg #[.int .u8 x, .int .u8 y]] w fun e w' => e = .returned (.bool true) ∧ Below w.heap.size w w' := by
  go_enter Try.func4, Try.ntmps4
  go_wp2_with fail
  refine (sanity_any _).mono ?_
  rintro e w1 ⟨rfl, hb⟩
  have A1 := (Blk.new w 36 #[.int .u8 x, .int .u8 y]).below hb (Nat.le_refl _)
  have L1 : Below w.heap.size w w1 := Below.trans (by go_grown) (hb.mono (by (try simp); (try omega)))
  have hz1 := L1.size
  clear hb 
  obtain ⟨ac0, ac1, ac2, ac3⟩ := A1.f2
  go_wp2_with fail
  refine (made_any a0 a1 _ h0 h1 h2 h3).mono ?_
  rintro e w2 ⟨rfl, hb⟩
  have A2 := (A1).below hb (Nat.le_refl _)
  have L2 : Below w.heap.size w w2 := Below.trans (by go_grown) (hb.mono (by (try simp); (try omega)))
  have hz2 := L2.size
  clear hb A1 ac0 ac1 ac2 ac3 L1 hz1
  obtain ⟨ac0, ac1, ac2, ac3⟩ := A2.f2
  obtain ⟨e0, e1⟩ : 0 ≤ a0 % 41 ∧ a0 % 41 ≤ 40 := by omega
  obtain ⟨v0, v1⟩ : 0 ≤ a1 % 1073741825 ∧ a1 % 1073741825 ≤ 1073741824 := by omega
  generalize a0 % 41 = t at *
  generalize a1 % 1073741825 = v at *
  clear h0 h1 h2 h3
  obtain ⟨m0, m1⟩ : 0 ≤ x % 40 ∧ x % 40 < 40 := by omega
  obtain ⟨n0, n1⟩ : 0 ≤ y % 40 ∧ y % 40 < 40 := by omega
  generalize hm : x % 40 = m at *
  generalize hn : y % 40 = n at *
  have HM := Lib.hid hm; have HN := Lib.hid hn; clear hm hn
  have r1 : hv v (t + m - t).toNat = hv v m.toNat := by rw [show t + m - t = m by omega]
  have r2 : hv v (t + m + n - t).toNat = hv v (m.toNat + n.toNat) := by rw [show (t + m + n - t).toNat = m.toNat + n.toNat by omega]
  have r3 : hv (hv v m.toNat) (t + m + n - (t + m)).toNat = hv v (m.toNat + n.toNat) := by rw [show t + m + n - (t + m) = n by omega, hv_add]
  have q0 := hv_nonneg v m.toNat v0
  have q1 := hv_le v m.toNat v0
  have q2 := hv_anti v m.toNat (m.toNat + n.toNat) v0 (by omega)
  have R1 := Lib.hid r1; have R2 := Lib.hid r2; have R3 := Lib.hid r3; clear r1 r2 r3
  generalize hv v m.toNat = a at *
  generalize hv v (m.toNat + n.toNat) = b at *
  go_wp2_with fail
  rw [HM.out]
  refine (at_lit t v (t + m) a _ R1.out (by omega)).mono ?_
  rintro e w3 ⟨rfl, hb⟩
  have A3 := (A2.alloc _).below hb (Nat.le_refl _)
  have T3 := (Blk.new w2 26 #[.int .i64 t, .int .i64 v]).below hb (Nat.le_refl _)
  have L3 : Below w.heap.size w w3 := Below.trans (by go_grown) (hb.mono (by (try simp); (try omega)))
  have hz3 := L3.size
  clear hb A2 ac0 ac1 ac2 ac3 L2 hz2
  obtain ⟨ac0, ac1, ac2, ac3⟩ := A3.f2
  obtain ⟨tc0, tc1, tc2, tc3⟩ := T3.f2
  go_wp2_with fail
  rw [HN.out]
  refine (at_lit t v (t + m + n) b _ R2.out (by omega)).mono ?_
  rintro e w4 ⟨rfl, hb⟩
  have A4 := (A3).below hb (Nat.le_refl _)
  have T4 := (T3).below hb (Nat.le_refl _)
  have L4 : Below w.heap.size w w4 := Below.trans (by go_grown) (hb.mono (by (try simp); (try omega)))
  have hz4 := L4.size
  clear hb A3 ac0 ac1 ac2 ac3 T3 tc0 tc1 tc2 tc3 L3 hz3
  obtain ⟨ac0, ac1, ac2, ac3⟩ := A4.f2
  obtain ⟨tc0, tc1, tc2, tc3⟩ := T4.f2
  go_wp2_with fail
  refine (at_lit (t + m) a (t + m + n) b _ R3.out (by omega)).mono ?_
  rintro e w5 ⟨rfl, hb⟩
  have A5 := (A4).below hb (Nat.le_refl _)
  have T5 := (T4).below hb (Nat.le_refl _)
  have L5 : Below w.heap.size w w5 := Below.trans (by go_grown) (hb.mono (by (try simp); (try omega)))
  have hz5 := L5.size
  clear hb A4 ac0 ac1 ac2 ac3 T4 tc0 tc1 tc2 tc3 L4 hz4
  obtain ⟨ac0, ac1, ac2, ac3⟩ := A5.f2
  obtain ⟨tc0, tc1, tc2, tc3⟩ := T5.f2
  go_wp2
  go_returns
  exact ⟨rfl, L5⟩

set_option maxRecDepth 100000 in
theorem decaySteps_lifted (os : Os) (started : os.Started) (H : Type) (enc : TypeId × Value → H) :
    ReturnsInHanded {} Try.checked os 4 .any (Rows.decayStepsSpec.pre6 enc Try.prog Try.f4 Rows.decayStepsRow.domain false) (Rows.decayStepsSpec.post enc Try.prog Try.f4 false true false false) := by
  refine returnsInHanded_of_change (C := Try.checked) own started (by kernel_rfl) Try.func4
    (ChangeSpec.witness6 (enc := enc) (C := Try.checked) false ⟨#[], #[.int .u8 0, .int .u32 0, .agg #[.int .u8 0, .int .u8 0]], []⟩ 8 (by kernel_rfl) (by kernel_rfl) (by kernel_rfl) (by kernel_rfl)) ?_
  intro W base args ds gs before hval0 hW hcnd _
  have hval : ∀ (j : Nat) t v, Try.f4.params[j]? = some t → args[j]? = some v → Value.okWide Try.prog W .any base t v := hval0
  have hW' := hW
  obtain ⟨p, q, hA0, hV, rfl, hfz, hnd⟩ := hW
  have hA : DataW.TrodAll enc Try.prog W 0 (fun _ => true) true Try.f4.params.toList args.toList ds p := hA0
  rw [Try.params4] at hA hval
  obtain ⟨v0, vs0, d0, ds0, p0, q0, hargs, rfl, rfl, h0, r0⟩ := trodAll_cons hA
  obtain ⟨v1, vs1, d1, ds1, p1, q1, rfl, rfl, rfl, h1, r1⟩ := trodAll_cons r0
  obtain ⟨v2, vs2, d2, ds2, p2, q2, rfl, rfl, rfl, h2, r2⟩ := trodAll_cons r1
  obtain ⟨rfl, rfl, rfl⟩ := trodAll_nil r2
  obtain rfl : args = #[v0, v1, v2] := by cases args; simp_all
  obtain ⟨rfl, rfl⟩ := trodVars_none hV
  obtain ⟨a0, rfl, rfl, rfl, w0⟩ := open_int Try.underlying5 (hval 0 5 v0 rfl rfl) h0
  have b0 : 0 ≤ a0 ∧ a0 ≤ 255 := by simpa [Lit.wf, IntKind.min, IntKind.max, IntKind.signed, IntKind.bits] using w0
  obtain ⟨a1, rfl, rfl, rfl, w1⟩ := open_int Try.underlying22 (hval 1 22 v1 rfl rfl) h1
  have b1 : 0 ≤ a1 ∧ a1 ≤ 4294967295 := by simpa [Lit.wf, IntKind.min, IntKind.max, IntKind.signed, IntKind.bits] using w1
  obtain ⟨ns2, rfl, ln2, hw2⟩ := open_intarr (k := .u8) Try.underlying36 Try.underlying5 (by kernel_rfl) (by kernel_rfl) (hval 2 36 v2 rfl rfl) h2
  obtain ⟨a2x, a2y, rfl⟩ := list2 ln2
  have ba2x : 0 ≤ a2x ∧ a2x ≤ 255 := by simpa [Lit.wf, IntKind.min, IntKind.max, IntKind.signed, IntKind.bits] using hw2 a2x (by simp)
  have ba2y : 0 ≤ a2y ∧ a2y ≤ 255 := by simpa [Lit.wf, IntKind.min, IntKind.max, IntKind.signed, IntKind.bits] using hw2 a2y (by simp)
  clear hA0 hval0
  refine (steps_walk a0 a1 a2x a2y W b0.1 b0.2 b1.1 b1.2 ba2x.1 ba2x.2 ba2y.1 ba2y.2).mono fun e W' ⟨he, hg⟩ => ?_
  subst he
  exact ⟨_, rfl, law_post laidOut (by kernel_rfl) rfl hW' (fun _ _ _ => (trodAll_cons_mk (shut_bool Try.underlying4 _) trodAll_mk0)) (fun _ => ⟨rfl, rfl⟩) hg⟩

theorem decaySteps_over : Rows.decayStepsRow.holds Try.pinned (OpenSpec.ofChange Rows.decayStepsSpec) :=
  OpenClaim.holds_of_wide 4 Try.f4 rfl rfl rfl rfl rfl rfl rfl ⟨rfl, rfl, rfl, rfl, rfl⟩ rfl rfl rfl rfl rfl (by kernel_rfl) Try.func4 (by kernel_rfl)
    (of_decide_eq_true (by kernel_rfl)) (by unfold Func.isWrapper; first | (rw [if_pos (by decide +kernel)]; kernel_rfl) | (rw [if_neg (by decide +kernel)]; exact ⟨rfl, rfl⟩))
    (fun os started H enc _ => decaySteps_lifted os started H enc)
theorem decaySteps_proved : Rows.DecayStepsSaid := decaySteps_over
end Go.Proofs.Ytidfmmgakifkoaa
