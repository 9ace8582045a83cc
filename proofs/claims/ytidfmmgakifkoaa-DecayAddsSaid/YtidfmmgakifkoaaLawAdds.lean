/-
  DecayAdds: for every epoch byte, number and four further numbers the law returns true and its arguments read as before. No condition.
-/
import Derived.Test.YtidfmmgakifkoaaDecS
import Derived.Test.YtidfmmgakifkoaaFrame
import Derived.Deep.QuietTactic
import Derived.BigQuiet
namespace Go.Proofs.Ytidfmmgakifkoaa
open Go.ChangeShapes Go.WideShapes Go.ChangeAt Go.RowKit
set_option linter.unusedVariables false
set_option linter.unusedSimpArgs false

theorem tot_small (a b : Int) (ha : 0 ≤ a) (hb : 0 ≤ b) (h : a + b ≤ 1073741824) : tot [a, b] = a + b := by
  rw [tot_eq _ (by simp; omega)]; simp only [List.sum_cons, List.sum_nil]; omega
theorem adds_walk (a0 a1 x y z u : Int) (w : World) (h0 : 0 ≤ a0) (h1 : a0 ≤ 255) (h2 : 0 ≤ a1) (h3 : a1 ≤ 4294967295) (hx0 : 0 ≤ x) (hx1 : x ≤ 4294967295) (hy0 : 0 ≤ y) (hy1 : y ≤ 4294967295) (hq0 : 0 ≤ z) (hq1 : z ≤ 4294967295) (hu0 : 0 ≤ u) (hu1 : u ≤ 4294967295) :
    Calls Try.prog 5 #[.int .u8 a0, .int .u32 a1, .agg #[.int .u32 x, .int .u32 y, .int .u32 z, .int .u32 u]] w fun e w' => e = .returned (.bool true) ∧ Below w.heap.size w w' := by
  go_enter Try.func5, Try.ntmps5
  go_wp2_with fail
  refine (sanity_any _).mono ?_
  rintro e w1 ⟨rfl, hb⟩
  have W1 := (Blk.new w 38 #[.int .u32 x, .int .u32 y, .int .u32 z, .int .u32 u]).below hb (Nat.le_refl _)
  have L1 : Below w.heap.size w w1 := Below.trans (by go_grown) (hb.mono (by (try simp); (try omega)))
  have hz1 := L1.size
  clear hb 
  obtain ⟨wc0, wc1, wc2, wc3, wc4, wc5⟩ := W1.f4
  go_wp2_with fail
  refine (made_any a0 (a1 / 16) _ h0 h1 (by omega) (by omega)).mono ?_
  rintro e w2 ⟨rfl, hb⟩
  have W2 := (W1).below hb (Nat.le_refl _)
  have L2 : Below w.heap.size w w2 := Below.trans (by go_grown) (hb.mono (by (try simp); (try omega)))
  have hz2 := L2.size
  clear hb W1 wc0 wc1 wc2 wc3 wc4 wc5 L1 hz1
  obtain ⟨wc0, wc1, wc2, wc3, wc4, wc5⟩ := W2.f4
  obtain ⟨e0, e1⟩ : 0 ≤ a0 % 41 ∧ a0 % 41 ≤ 40 := by omega
  obtain ⟨v0, v1⟩ : 0 ≤ a1 / 16 % 1073741825 ∧ a1 / 16 % 1073741825 ≤ 268435456 := by omega
  obtain ⟨m0, m1⟩ : 0 ≤ x % 40 ∧ x % 40 < 40 := by omega
  obtain ⟨i0, i1⟩ : 0 ≤ y % 1048576 ∧ y % 1048576 < 1048576 := by omega
  obtain ⟨j0, j1⟩ : 0 ≤ z % 1048576 ∧ z % 1048576 < 1048576 := by omega
  obtain ⟨n0, n1⟩ : 0 ≤ u % 40 ∧ u % 40 < 40 := by omega
  generalize a0 % 41 = t at *
  generalize a1 / 16 % 1073741825 = v at *
  clear h0 h1 h2 h3
  have q0 := hv_nonneg v (x % 40).toNat v0
  have q1 := hv_le v (x % 40).toNat v0
  have ra : hv v (t + x % 40 - t).toNat = hv v (x % 40).toNat := by rw [show t + x % 40 - t = x % 40 by omega]
  have rp : hv v (t + x % 40 + u % 40 - t).toNat = hv (hv v (x % 40).toNat) (u % 40).toNat := by rw [hv_add, show (t + x % 40 + u % 40 - t).toNat = (x % 40).toNat + (u % 40).toNat by omega]
  have rA : tot [hv v (t + x % 40 - t).toNat, y % 1048576] = hv v (x % 40).toNat + y % 1048576 := by rw [ra]; exact tot_small _ _ q0 (by omega) (by omega)
  have rB : tot [hv (hv v (x % 40).toNat + y % 1048576) (t + x % 40 - (t + x % 40)).toNat, z % 1048576] = hv v (x % 40).toNat + y % 1048576 + z % 1048576 := by
    rw [Int.sub_self, Int.toNat_zero, hv_zero]; exact tot_small _ _ (by omega) (by omega) (by omega)
  have rC : tot [hv v (t + x % 40 - t).toNat, y % 1048576 + z % 1048576] = hv v (x % 40).toNat + y % 1048576 + z % 1048576 := by rw [ra, tot_small _ _ q0 (by omega) (by omega)]; omega
  have rD : tot [hv v (t + x % 40 - t).toNat, 0] = hv v (x % 40).toNat := by rw [ra, tot_small _ _ q0 (by omega) (by omega)]; omega
  have rq : hv (hv v (x % 40).toNat) (t + x % 40 + u % 40 - (t + x % 40)).toNat = hv (hv v (x % 40).toNat) (u % 40).toNat := by rw [show t + x % 40 + u % 40 - (t + x % 40) = u % 40 by omega]
  have RA := Lib.hid ra; have RP := Lib.hid rp; have RAA := Lib.hid rA; have RB := Lib.hid rB; have RC := Lib.hid rC; have RD := Lib.hid rD; have RQ := Lib.hid rq
  clear ra rp rA rB rC rD rq
  generalize hv (hv v (x % 40).toNat) (u % 40).toNat = g at *
  generalize hv v (x % 40).toNat = h at *
  go_wp2_with fail
  go_quiet (fail)
  go_wp2_with fail
  refine (at_lit t v (t + x % 40) h _ RA.out (by omega)).mono ?_
  rintro e w3 ⟨rfl, hb⟩
  have T3 := ((Blk.new w2 26 #[.int .i64 t, .int .i64 v]).drewN nq).below hb (Nat.le_refl _)
  have L3 : Below w.heap.size w w3 := Below.trans (below_drewN (by go_grown) _) (hb.mono (by (try simp); (try omega)))
  have hz3 := L3.size
  clear hb W2 wc0 wc1 wc2 wc3 wc4 wc5 L2 hz2
  obtain ⟨tc0, tc1, tc2, tc3⟩ := T3.f2
  go_wp2_with fail
  refine (add_lit t v (t + x % 40) (y % 1048576) (h + y % 1048576) _ RAA.out (by omega)).mono ?_
  rintro e w4 ⟨rfl, hb⟩
  have T4 := (T3).below hb (Nat.le_refl _)
  have L4 : Below w.heap.size w w4 := Below.trans (by go_grown) (hb.mono (by (try simp); (try omega)))
  have hz4 := L4.size
  clear hb T3 tc0 tc1 tc2 tc3 L3 hz3
  obtain ⟨tc0, tc1, tc2, tc3⟩ := T4.f2
  go_wp2_with fail
  refine (add_lit (t + x % 40) (h + y % 1048576) (t + x % 40) (z % 1048576) (h + y % 1048576 + z % 1048576) _ RB.out (by omega)).mono ?_
  rintro e w5 ⟨rfl, hb⟩
  have T5 := (T4.alloc _).below hb (Nat.le_refl _)
  have A5 := (Blk.new w4 26 #[.int .i64 (t + x % 40), .int .i64 (h + y % 1048576)]).below hb (Nat.le_refl _)
  have L5 : Below w.heap.size w w5 := Below.trans (by go_grown) (hb.mono (by (try simp); (try omega)))
  have hz5 := L5.size
  clear hb T4 tc0 tc1 tc2 tc3 L4 hz4
  obtain ⟨tc0, tc1, tc2, tc3⟩ := T5.f2
  obtain ⟨ac0, ac1, ac2, ac3⟩ := A5.f2
  go_wp2_with fail
  refine (add_lit t v (t + x % 40) (y % 1048576 + z % 1048576) (h + y % 1048576 + z % 1048576) _ RC.out (by omega)).mono ?_
  rintro e w6 ⟨rfl, hb⟩
  have T6 := (T5.alloc _).below hb (Nat.le_refl _)
  have A6 := (A5.alloc _).below hb (Nat.le_refl _)
  have B6 := (Blk.new w5 26 #[.int .i64 (t + x % 40), .int .i64 (h + y % 1048576 + z % 1048576)]).below hb (Nat.le_refl _)
  have L6 : Below w.heap.size w w6 := Below.trans (by go_grown) (hb.mono (by (try simp); (try omega)))
  have hz6 := L6.size
  clear hb T5 tc0 tc1 tc2 tc3 A5 ac0 ac1 ac2 ac3 L5 hz5
  obtain ⟨tc0, tc1, tc2, tc3⟩ := T6.f2
  obtain ⟨ac0, ac1, ac2, ac3⟩ := A6.f2
  obtain ⟨bc0, bc1, bc2, bc3⟩ := B6.f2
  go_wp2_with fail
  refine (add_lit t v (t + x % 40) 0 h _ RD.out (by omega)).mono ?_
  rintro e w7 ⟨rfl, hb⟩
  have T7 := (T6.alloc _).below hb (Nat.le_refl _)
  have A7 := (A6.alloc _).below hb (Nat.le_refl _)
  have B7 := (B6.alloc _).below hb (Nat.le_refl _)
  have C7 := (Blk.new w6 26 #[.int .i64 (t + x % 40), .int .i64 (h + y % 1048576 + z % 1048576)]).below hb (Nat.le_refl _)
  have L7 : Below w.heap.size w w7 := Below.trans (by go_grown) (hb.mono (by (try simp); (try omega)))
  have hz7 := L7.size
  clear hb T6 tc0 tc1 tc2 tc3 A6 ac0 ac1 ac2 ac3 B6 bc0 bc1 bc2 bc3 L6 hz6
  obtain ⟨tc0, tc1, tc2, tc3⟩ := T7.f2
  obtain ⟨ac0, ac1, ac2, ac3⟩ := A7.f2
  obtain ⟨bc0, bc1, bc2, bc3⟩ := B7.f2
  obtain ⟨cc0, cc1, cc2, cc3⟩ := C7.f2
  go_wp2_with fail
  refine (at_lit t v (t + x % 40 + u % 40) g _ RP.out (by omega)).mono ?_
  rintro e w8 ⟨rfl, hb⟩
  have T8 := (T7.alloc _).below hb (Nat.le_refl _)
  have A8 := (A7.alloc _).below hb (Nat.le_refl _)
  have B8 := (B7.alloc _).below hb (Nat.le_refl _)
  have C8 := (C7.alloc _).below hb (Nat.le_refl _)
  have D8 := (Blk.new w7 26 #[.int .i64 (t + x % 40), .int .i64 h]).below hb (Nat.le_refl _)
  have L8 : Below w.heap.size w w8 := Below.trans (by go_grown) (hb.mono (by (try simp); (try omega)))
  have hz8 := L8.size
  clear hb T7 tc0 tc1 tc2 tc3 A7 ac0 ac1 ac2 ac3 B7 bc0 bc1 bc2 bc3 C7 cc0 cc1 cc2 cc3 L7 hz7
  obtain ⟨tc0, tc1, tc2, tc3⟩ := T8.f2
  obtain ⟨ac0, ac1, ac2, ac3⟩ := A8.f2
  obtain ⟨bc0, bc1, bc2, bc3⟩ := B8.f2
  obtain ⟨cc0, cc1, cc2, cc3⟩ := C8.f2
  obtain ⟨dc0, dc1, dc2, dc3⟩ := D8.f2
  go_wp2_with fail
  refine (at_lit (t + x % 40) h (t + x % 40 + u % 40) g _ RQ.out (by omega)).mono ?_
  rintro e w9 ⟨rfl, hb⟩
  have T9 := (T8).below hb (Nat.le_refl _)
  have A9 := (A8).below hb (Nat.le_refl _)
  have B9 := (B8).below hb (Nat.le_refl _)
  have C9 := (C8).below hb (Nat.le_refl _)
  have D9 := (D8).below hb (Nat.le_refl _)
  have L9 : Below w.heap.size w w9 := Below.trans (by go_grown) (hb.mono (by (try simp); (try omega)))
  have hz9 := L9.size
  clear hb T8 tc0 tc1 tc2 tc3 A8 ac0 ac1 ac2 ac3 B8 bc0 bc1 bc2 bc3 C8 cc0 cc1 cc2 cc3 D8 dc0 dc1 dc2 dc3 L8 hz8
  obtain ⟨tc0, tc1, tc2, tc3⟩ := T9.f2
  obtain ⟨ac0, ac1, ac2, ac3⟩ := A9.f2
  obtain ⟨bc0, bc1, bc2, bc3⟩ := B9.f2
  obtain ⟨cc0, cc1, cc2, cc3⟩ := C9.f2
  obtain ⟨dc0, dc1, dc2, dc3⟩ := D9.f2
  go_wp2
  go_returns
  exact ⟨rfl, L9⟩

set_option maxRecDepth 100000 in
theorem decayAdds_lifted (os : Os) (started : os.Started) (H : Type) (enc : TypeId × Value → H) :
    ReturnsInHanded {} Try.checked os 5 .any (Rows.decayAddsSpec.pre6 enc Try.prog Try.f5 Rows.decayAddsRow.domain false) (Rows.decayAddsSpec.post enc Try.prog Try.f5 false true false false) := by
  refine returnsInHanded_of_change (C := Try.checked) own started (by kernel_rfl) Try.func5
    (ChangeSpec.witness6 (enc := enc) (C := Try.checked) false ⟨#[], #[.int .u8 0, .int .u32 0, .agg #[.int .u32 0, .int .u32 0, .int .u32 0, .int .u32 0]], []⟩ 8 (by kernel_rfl) (by kernel_rfl) (by kernel_rfl) (by kernel_rfl)) ?_
  intro W base args ds gs before hval0 hW hcnd _
  have hval : ∀ (j : Nat) t v, Try.f5.params[j]? = some t → args[j]? = some v → Value.okWide Try.prog W .any base t v := hval0
  have hW' := hW
  obtain ⟨p, q, hA0, hV, rfl, hfz, hnd⟩ := hW
  have hA : DataW.TrodAll enc Try.prog W 0 (fun _ => true) true Try.f5.params.toList args.toList ds p := hA0
  rw [Try.params5] at hA hval
  obtain ⟨v0, vs0, d0, ds0, p0, q0, hargs, rfl, rfl, h0, r0⟩ := trodAll_cons hA
  obtain ⟨v1, vs1, d1, ds1, p1, q1, rfl, rfl, rfl, h1, r1⟩ := trodAll_cons r0
  obtain ⟨v2, vs2, d2, ds2, p2, q2, rfl, rfl, rfl, h2, r2⟩ := trodAll_cons r1
  obtain ⟨rfl, rfl, rfl⟩ := trodAll_nil r2
  obtain rfl : args = #[v0, v1, v2] := by cases args; simp_all
  obtain ⟨rfl, rfl⟩ := trodVars_none hV
  obtain ⟨a0, rfl, rfl, rfl, w0⟩ := open_int Try.underlying5 (hval 0 5 v0 rfl rfl) h0
  have b0 : 0 ≤ a0 ∧ a0 ≤ 255 := by simpa [Lit.wf, IntKind.min, IntKind.max, IntKind.signed, IntKind.bits] using w0
  obtain ⟨a1, rfl, rfl, rfl, w1⟩ := open_int Try.underlying22 (hval 1 22 v1 rfl rfl) h1
  have b1 : 0 ≤ a1 ∧ a1 ≤ 4294967295 := by simpa [Lit.wf, IntKind.min, IntKind.max, IntKind.signed, IntKind.bits] using w1
  obtain ⟨ns2, rfl, ln2, hw2⟩ := open_intarr (k := .u32) Try.underlying38 Try.underlying22 (by kernel_rfl) (by kernel_rfl) (hval 2 38 v2 rfl rfl) h2
  obtain ⟨a2x, a2y, a2z, a2u, rfl⟩ := list4 ln2
  have ba2x : 0 ≤ a2x ∧ a2x ≤ 4294967295 := by simpa [Lit.wf, IntKind.min, IntKind.max, IntKind.signed, IntKind.bits] using hw2 a2x (by simp)
  have ba2y : 0 ≤ a2y ∧ a2y ≤ 4294967295 := by simpa [Lit.wf, IntKind.min, IntKind.max, IntKind.signed, IntKind.bits] using hw2 a2y (by simp)
  have ba2z : 0 ≤ a2z ∧ a2z ≤ 4294967295 := by simpa [Lit.wf, IntKind.min, IntKind.max, IntKind.signed, IntKind.bits] using hw2 a2z (by simp)
  have ba2u : 0 ≤ a2u ∧ a2u ≤ 4294967295 := by simpa [Lit.wf, IntKind.min, IntKind.max, IntKind.signed, IntKind.bits] using hw2 a2u (by simp)
  clear hA0 hval0
  refine (adds_walk a0 a1 a2x a2y a2z a2u W b0.1 b0.2 b1.1 b1.2 ba2x.1 ba2x.2 ba2y.1 ba2y.2 ba2z.1 ba2z.2 ba2u.1 ba2u.2).mono fun e W' ⟨he, hg⟩ => ?_
  subst he
  exact ⟨_, rfl, law_post laidOut (by kernel_rfl) rfl hW' (fun _ _ _ => (trodAll_cons_mk (shut_bool Try.underlying4 _) trodAll_mk0)) (fun _ => ⟨rfl, rfl⟩) hg⟩

theorem decayAdds_over : Rows.decayAddsRow.holds Try.pinned (OpenSpec.ofChange Rows.decayAddsSpec) :=
  OpenClaim.holds_of_wide 5 Try.f5 rfl rfl rfl rfl rfl rfl rfl ⟨rfl, rfl, rfl, rfl, rfl⟩ rfl rfl rfl rfl rfl (by kernel_rfl) Try.func5 (by kernel_rfl)
    (of_decide_eq_true (by kernel_rfl)) (by unfold Func.isWrapper; first | (rw [if_pos (by decide +kernel)]; kernel_rfl) | (rw [if_neg (by decide +kernel)]; exact ⟨rfl, rfl⟩))
    (fun os started H enc _ => decayAdds_lifted os started H enc)
theorem decayAdds_proved : Rows.DecayAddsSaid := decayAdds_over
end Go.Proofs.Ytidfmmgakifkoaa
