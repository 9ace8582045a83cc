/-
  DecayOrder: for every epoch byte, pair of numbers and byte the law returns true and its arguments read as before. No condition.
-/
import Derived.Test.YtidfmmgakifkoaaDecS
import Derived.Test.YtidfmmgakifkoaaFrame
import Derived.Test.YtidfmmgakifkoaaPhase
namespace Go.Proofs.Ytidfmmgakifkoaa
open Go.ChangeShapes Go.WideShapes Go.ChangeAt Go.RowKit
set_option linter.unusedVariables false
set_option linter.unusedSimpArgs false

theorem order_walk (a0 x y a1 : Int) (w : World) (h0 : 0 ≤ a0) (h1 : a0 ≤ 255) (hx0 : 0 ≤ x) (hx1 : x ≤ 4294967295) (hy0 : 0 ≤ y) (hy1 : y ≤ 4294967295) (h2 : 0 ≤ a1) (h3 : a1 ≤ 255) :
    Calls Try.prog 6 #[.int .u8 a0, .agg #[.int .u32 x, .int .u32 y], .int .u8 a1] w fun e w' => e = .returned (.bool true) ∧ Below w.heap.size w w' := by
  go_enter Try.func6, Try.ntmps6
  go_wp2_with fail
  refine (sanity_any _).mono ?_
  rintro e w1 ⟨rfl, hb⟩
  have A1 := (Blk.new w 41 #[.int .u32 x, .int .u32 y]).below hb (Nat.le_refl _)
  have L1 : Below w.heap.size w w1 := Below.trans (by go_grown) (hb.mono (by simp))
  clear hb
  obtain ⟨ac0, ac1, ac2, ac3⟩ := A1.f2
  go_wp2_with fail
  have HB : ∀ w2, Ext w1.drew w2 → w2.cell? ⟨w.heap.size, 0, none⟩ = some (.int .u32 x) ∧ w2.cell? ⟨w.heap.size, 1, none⟩ = some (.int .u32 y) := fun w2 hE => by
    have B := A1.drew.ext hE
    exact ⟨B.f2.1, B.f2.2.1⟩
  have HH := Lib.hid HB; clear HB
  refine wp_region_list2D (by kernel_rfl) 10 Ext
    [(3, Is (.agg #[.int .i64 (a0 % 41), .int .i64 (x % 1073741825)])), (7, Is (.agg #[.int .i64 (a0 % 41), .int .i64 (y % 1073741825)])),
     (8, Box w1.heap.size 26 #[.int .i64 0, .int .i64 0]), (9, Box w1.heap.size 26 #[.int .i64 0, .int .i64 0])] [8, 9] (by kernel_rfl) Ext.refl (fun _ _ _ => Ext.trans)
    ⟨fun _ _ _ => Is.ext, fun _ _ _ => Is.ext, fun _ _ _ => Box.ext, fun _ _ _ => Box.ext, trivial⟩ ?_
  simp only [List.take_succ_cons, List.take_zero, List.drop_succ_cons, List.drop_zero]
  iterate 3
    refine ph_pure (a' := ?_) rfl rfl ?_ (fun w2 hE hG => pureAt_plain rfl ?_) ?_ ?_
    rotate_left 2
    · clear hG; obtain ⟨f0, f1⟩ := HH.out w2 hE; go_simp; rfl
    · go_simp; rfl
  refine ph_opD rfl rfl (fun w2 hE hG => opAt_plain rfl ?_) (fun v hv hd => ?_)
  · clear hG
    go_simp
    refine (made_any a0 x _ h0 h1 hx0 hx1).mono ?_
    rintro e w' ⟨rfl, hb⟩
    exact ⟨_, rfl, hb, rfl, fun j hj => by simp [distinct] at hj⟩
  obtain ⟨_, _, rfl⟩ := hv
  clear hd
  go_simp
  iterate 3
    refine ph_pure (a' := ?_) rfl rfl ?_ (fun w2 hE hG => pureAt_plain rfl ?_) ?_ ?_
    rotate_left 2
    · clear hG; obtain ⟨f0, f1⟩ := HH.out w2 hE; go_simp; rfl
    · go_simp; rfl
  refine ph_opD rfl rfl (fun w2 hE hG => opAt_plain rfl ?_) (fun v hv hd => ?_)
  · clear hG
    go_simp
    refine (made_any a0 y _ h0 h1 hy0 hy1).mono ?_
    rintro e w' ⟨rfl, hb⟩
    exact ⟨_, rfl, hb, rfl, fun j hj => by simp [distinct] at hj⟩
  obtain ⟨_, _, rfl⟩ := hv
  clear hd
  go_simp
  refine ph_opD rfl rfl (fun w2 hE hG => opAt_plain rfl ?_) (fun v hv hd => ?_)
  · clear hG
    go_simp
    refine ⟨Ext.alloc _ _, Box.new hE.le _ _, fun j hj Fj hFj u hu => ?_⟩
    obtain rfl : j = 9 := by simp [distinct] at hj; omega
    simp only [factsOf, List.lookup] at hFj
    obtain rfl := Option.some.inj hFj
    exact Box.ne hu
  obtain ⟨_, _, p, rfl, hp, _⟩ := hv
  simp only [List.forall_mem_cons] at hd
  clear hd
  go_simp
  refine ph_opD rfl rfl (fun w2 hE hG => opAt_plain rfl ?_) (fun v hv hd => ?_)
  · clear hG
    go_simp
    refine ⟨Ext.alloc _ _, Box.new hE.le _ _, fun j hj Fj hFj u hu => ?_⟩
    obtain rfl : j = 8 := by simp [distinct] at hj; omega
    simp only [factsOf, List.lookup] at hFj
    obtain rfl := Option.some.inj hFj
    exact Box.ne hu
  obtain ⟨_, _, q, rfl, hq, _⟩ := hv
  simp only [List.forall_mem_cons] at hd
  have hpq : p ≠ q := by
    have := hd.1 (by decide)
    intro e; apply this; rw [e]
  clear hd
  go_simp
  refine ph_end (fun w2 hE hG => ?_)
  simp only [List.forall_mem_cons] at hG
  obtain ⟨hBq, hBp, _⟩ := hG
  replace hBq := hBq.at_.2
  replace hBp := hBp.at_.2
  have hz := hE.le
  have L2 : Below w.heap.size w w2 := L1.drew.trans (hE.below.mono L1.size)
  clear hE HH
  obtain ⟨pc0, pc1, pc2, pc3⟩ := hBp.f2
  obtain ⟨qc0, qc1, qc2, qc3⟩ := hBq.f2
  have hp2 : w.heap.size ≤ p := by have := L1.size; omega
  have hq2 : w.heap.size ≤ q := by have := L1.size; omega
  obtain ⟨e0, e1⟩ : 0 ≤ a0 % 41 ∧ a0 % 41 ≤ 40 := by omega
  obtain ⟨u0, u1⟩ : 0 ≤ x % 1073741825 ∧ x % 1073741825 ≤ 1073741824 := by omega
  obtain ⟨v0, v1⟩ : 0 ≤ y % 1073741825 ∧ y % 1073741825 ≤ 1073741824 := by omega
  obtain ⟨m0, m1⟩ : 0 ≤ a1 % 40 ∧ a1 % 40 < 40 := by omega
  clear A1 ac0 ac1 ac2 ac3 hz hx0 hx1 hy0 hy1 h0 h1 hp hq L1
  generalize a0 % 41 = t at *
  generalize x % 1073741825 = u at *
  generalize y % 1073741825 = v at *
  generalize hm : a1 % 40 = m at *
  have HM := Lib.hid hm; clear hm
  have r1 : ∀ c, hv c (t + m - t).toNat = hv c m.toNat := fun c => by rw [show t + m - t = m by omega]
  have mono1 := hv_mono u v m.toNat
  have mono2 := hv_mono v u m.toNat
  have R1 := Lib.hid r1; clear r1
  go_wp2_with fail
  rw [HM.out]
  have hBp' := (((hBp.set_ 0 (.int .i64 t)).set_ 1 (.int .i64 u)).far (p := ⟨q, 0, none⟩) hpq (.int .i64 t)).far (p := ⟨q, 1, none⟩) hpq (.int .i64 v)
  have hBq' := (((hBq.far (p := ⟨p, 0, none⟩) (Ne.symm hpq) (.int .i64 t)).far (p := ⟨p, 1, none⟩) (Ne.symm hpq) (.int .i64 u)).set_ 0 (.int .i64 t)).set_ 1 (.int .i64 v)
  refine (at_lit t u (t + m) _ _ (R1.out u) (by omega)).mono ?_
  rintro e w3 ⟨rfl, hb⟩
  have P3 : Blk w3 p 26 #[.int .i64 t, .int .i64 u] := hBp'.below hb (Nat.le_refl _)
  have Q3 : Blk w3 q 26 #[.int .i64 t, .int .i64 v] := hBq'.below hb (Nat.le_refl _)
  have L3 : Below w.heap.size w w3 := Below.trans (by go_grown) (hb.mono (by have := L2.size; simp; omega))
  clear hb hBp' hBq' hBp hBq pc0 pc1 pc2 pc3 qc0 qc1 qc2 qc3 L2
  obtain ⟨pc0, pc1, pc2, pc3⟩ := P3.f2
  obtain ⟨qc0, qc1, qc2, qc3⟩ := Q3.f2
  go_wp2_with fail
  refine (at_lit t v (t + m) _ _ (R1.out v) (by omega)).mono ?_
  rintro e w4 ⟨rfl, hb⟩
  have P4 := P3.below hb (Nat.le_refl _)
  have Q4 := Q3.below hb (Nat.le_refl _)
  have L4 : Below w.heap.size w w4 := L3.trans (hb.mono L3.size)
  clear hb P3 Q3 pc0 pc1 pc2 pc3 qc0 qc1 qc2 qc3 L3
  obtain ⟨pc0, pc1, pc2, pc3⟩ := P4.f2
  obtain ⟨qc0, qc1, qc2, qc3⟩ := Q4.f2
  generalize hv u m.toNat = a at *
  generalize hv v m.toNat = b at *
  rcases Int.lt_trichotomy u v with h | h | h
  · have hab := mono1 (by omega)
    clear mono1 mono2
    go_wp2
    all_goals go_returns
    all_goals exact ⟨rfl, L4⟩
  · have hab := mono1 (by omega)
    have hba := mono2 (by omega)
    clear mono1 mono2
    subst h
    go_wp2
    all_goals go_returns
    all_goals exact ⟨rfl, L4⟩
  · have hba := mono2 (by omega)
    clear mono1 mono2
    go_wp2
    all_goals go_returns
    all_goals exact ⟨rfl, L4⟩

set_option maxRecDepth 100000 in
theorem decayOrder_lifted (os : Os) (started : os.Started) (H : Type) (enc : TypeId × Value → H) :
    ReturnsInHanded {} Try.checked os 6 .any (Rows.decayOrderSpec.pre6 enc Try.prog Try.f6 Rows.decayOrderRow.domain false) (Rows.decayOrderSpec.post enc Try.prog Try.f6 false true false false) := by
  refine returnsInHanded_of_change (C := Try.checked) own started (by kernel_rfl) Try.func6
    (ChangeSpec.witness6 (enc := enc) (C := Try.checked) false ⟨#[], #[.int .u8 0, .agg #[.int .u32 0, .int .u32 0], .int .u8 0], []⟩ 8 (by kernel_rfl) (by kernel_rfl) (by kernel_rfl) (by kernel_rfl)) ?_
  intro W base args ds gs before hval0 hW hcnd _
  have hval : ∀ (j : Nat) t v, Try.f6.params[j]? = some t → args[j]? = some v → Value.okWide Try.prog W .any base t v := hval0
  have hW' := hW
  obtain ⟨p, q, hA0, hV, rfl, hfz, hnd⟩ := hW
  have hA : DataW.TrodAll enc Try.prog W 0 (fun _ => true) true Try.f6.params.toList args.toList ds p := hA0
  rw [Try.params6] at hA hval
  obtain ⟨v0, vs0, d0, ds0, p0, q0, hargs, rfl, rfl, h0, r0⟩ := trodAll_cons hA
  obtain ⟨v1, vs1, d1, ds1, p1, q1, rfl, rfl, rfl, h1, r1⟩ := trodAll_cons r0
  obtain ⟨v2, vs2, d2, ds2, p2, q2, rfl, rfl, rfl, h2, r2⟩ := trodAll_cons r1
  obtain ⟨rfl, rfl, rfl⟩ := trodAll_nil r2
  obtain rfl : args = #[v0, v1, v2] := by cases args; simp_all
  obtain ⟨rfl, rfl⟩ := trodVars_none hV
  obtain ⟨a0, rfl, rfl, rfl, w0⟩ := open_int Try.underlying5 (hval 0 5 v0 rfl rfl) h0
  have b0 : 0 ≤ a0 ∧ a0 ≤ 255 := by simpa [Lit.wf, IntKind.min, IntKind.max, IntKind.signed, IntKind.bits] using w0
  obtain ⟨ns1, rfl, ln1, hw1⟩ := open_intarr (k := .u32) Try.underlying41 Try.underlying22 (by kernel_rfl) (by kernel_rfl) (hval 1 41 v1 rfl rfl) h1
  obtain ⟨a1x, a1y, rfl⟩ := list2 ln1
  have ba1x : 0 ≤ a1x ∧ a1x ≤ 4294967295 := by simpa [Lit.wf, IntKind.min, IntKind.max, IntKind.signed, IntKind.bits] using hw1 a1x (by simp)
  have ba1y : 0 ≤ a1y ∧ a1y ≤ 4294967295 := by simpa [Lit.wf, IntKind.min, IntKind.max, IntKind.signed, IntKind.bits] using hw1 a1y (by simp)
  obtain ⟨a2, rfl, rfl, rfl, w2⟩ := open_int Try.underlying5 (hval 2 5 v2 rfl rfl) h2
  have b2 : 0 ≤ a2 ∧ a2 ≤ 255 := by simpa [Lit.wf, IntKind.min, IntKind.max, IntKind.signed, IntKind.bits] using w2
  clear hA0 hval0
  refine (order_walk a0 a1x a1y a2 W b0.1 b0.2 ba1x.1 ba1x.2 ba1y.1 ba1y.2 b2.1 b2.2).mono fun e W' ⟨he, hg⟩ => ?_
  subst he
  exact ⟨_, rfl, law_post laidOut (by kernel_rfl) rfl hW' (fun _ _ _ => (trodAll_cons_mk (shut_bool Try.underlying4 _) trodAll_mk0)) (fun _ => ⟨rfl, rfl⟩) hg⟩

theorem decayOrder_over : Rows.decayOrderRow.holds Try.pinned (OpenSpec.ofChange Rows.decayOrderSpec) :=
  OpenClaim.holds_of_wide 6 Try.f6 rfl rfl rfl rfl rfl rfl rfl ⟨rfl, rfl, rfl, rfl, rfl⟩ rfl rfl rfl rfl rfl (by kernel_rfl) Try.func6 (by kernel_rfl)
    (of_decide_eq_true (by kernel_rfl)) (by unfold Func.isWrapper; first | (rw [if_pos (by decide +kernel)]; kernel_rfl) | (rw [if_neg (by decide +kernel)]; exact ⟨rfl, rfl⟩))
    (fun os started H enc _ => decayOrder_lifted os started H enc)
theorem decayOrder_proved : Rows.DecayOrderSaid := decayOrder_over
end Go.Proofs.Ytidfmmgakifkoaa
