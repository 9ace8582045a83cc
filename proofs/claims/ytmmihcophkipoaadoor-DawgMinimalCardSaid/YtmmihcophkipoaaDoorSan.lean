/-
  The fixed examples of package syllabarylaw09.
-/
import Derived.Test.YtmmihcophkipoaaDoorD35
import Derived.Deep.DeepCutAuto
namespace Go.Proofs.YtmmihcophkipoaaDoor
open Go.ChangeShapes Go.WideShapes Go.ChangeAt Go.RowKit
set_option linter.unusedVariables false
set_option linter.unusedSimpArgs false
def lA : List W := [[97]]
def lB : List W := [[97, 98], [98]]
def lC : List W := [[97], [97, 98], [98]]
def lD : List W := [[98], [97]]
def aA : Au := [(false, [(97, 1)]), (true, [])]
def aB : Au := [(false, [(97, 1), (98, 2)]), (false, [(98, 2)]), (true, [])]
def aC : Au := [(false, [(97, 1), (98, 2)]), (true, [(98, 2)]), (true, [])]
theorem dA : dict lA = true := by decide +kernel
theorem dB : dict lB = true := by decide +kernel
theorem dC : dict lC = true := by decide +kernel
theorem dD : dict lD = false := by decide +kernel
theorem dN : dict [] = false := by decide +kernel
theorem auA : auto lA = aA := by decide +kernel
theorem auB : auto lB = aB := by decide +kernel
theorem auC : auto lC = aC := by decide +kernel
def oA : Obj := .cells #[.int .u8 97, .int .i64 1] 49
def oAd (g : Nat) : Obj := .cells #[.bool false, .slice (some ⟨g, 0, none⟩) 1 1, .bool true, .slice none 0 0] 44
def oB1 : Obj := .cells #[.int .u8 97, .int .i64 1, .int .u8 98, .int .i64 2] 49
def oB2 : Obj := .cells #[.int .u8 98, .int .i64 2] 49
def oBd (g : Nat) : Obj := .cells #[.bool false, .slice (some ⟨g + 1 + 1, 0, none⟩) 2 2, .bool false, .slice (some ⟨g + 1 + 1 + 1, 0, none⟩) 1 1, .bool true, .slice none 0 0] 44
def oCd (g : Nat) : Obj := .cells #[.bool false, .slice (some ⟨g + 1 + 1, 0, none⟩) 2 2, .bool true, .slice (some ⟨g + 1 + 1 + 1 + 1 + 1, 0, none⟩) 1 1, .bool true, .slice none 0 0] 44
def litW (w : World) : World := ((((((w.alloc oA).alloc (oAd w.heap.size)).alloc oB1).alloc oB2).alloc (oBd w.heap.size)).alloc oB2).alloc (oCd w.heap.size)
theorem lits_all (w : World) : Dw (litW w) (some ⟨w.heap.size + 1, 0, none⟩) aA ∧ Dw (litW w) (some ⟨w.heap.size + 1 + 1 + 1 + 1, 0, none⟩) aB ∧ Dw (litW w) (some ⟨w.heap.size + 1 + 1 + 1 + 1 + 1 + 1, 0, none⟩) aC ∧ Ext w (litW w) := by
  obtain ⟨g, hg⟩ : ∃ g, w.heap.size = g := ⟨_, rfl⟩
  have e1 : (w.alloc oA).heap.size = g + 1 := by simp [hg]
  have e2 : ((w.alloc oA).alloc (oAd g)).heap.size = g + 1 + 1 := by simp [hg]
  have e3 : (((w.alloc oA).alloc (oAd g)).alloc oB1).heap.size = g + 1 + 1 + 1 := by simp [hg]
  have e4 : ((((w.alloc oA).alloc (oAd g)).alloc oB1).alloc oB2).heap.size = g + 1 + 1 + 1 + 1 := by simp [hg]
  have e5 : (((((w.alloc oA).alloc (oAd g)).alloc oB1).alloc oB2).alloc (oBd g)).heap.size = g + 1 + 1 + 1 + 1 + 1 := by simp [hg]
  have e6 : ((((((w.alloc oA).alloc (oAd g)).alloc oB1).alloc oB2).alloc (oBd g)).alloc oB2).heap.size = g + 1 + 1 + 1 + 1 + 1 + 1 := by simp [hg]
  unfold litW
  rw [hg]
  have r1 := ((((((Rd.newAt w g hg 49 2 1 #[.int .u8 97, .int .i64 1] (0, 0) _ rfl rfl).alloc (oAd g)).alloc oB1).alloc oB2).alloc (oBd g)).alloc oB2).alloc (oCd g)
  have r2 := (((((Rd.newAt (w.alloc oA) (g + 1) e1 44 2 2 #[.bool false, .slice (some ⟨g, 0, none⟩) 1 1, .bool true, .slice none 0 0] (0, 0) _ rfl rfl).alloc oB1).alloc oB2).alloc (oBd g)).alloc oB2).alloc (oCd g)
  have r3 := ((((Rd.newAt _ (g + 1 + 1) e2 49 2 2 #[.int .u8 97, .int .i64 1, .int .u8 98, .int .i64 2] (0, 0) _ rfl rfl).alloc oB2).alloc (oBd g)).alloc oB2).alloc (oCd g)
  have r4 := (((Rd.newAt _ (g + 1 + 1 + 1) e3 49 2 1 #[.int .u8 98, .int .i64 2] (0, 0) _ rfl rfl).alloc (oBd g)).alloc oB2).alloc (oCd g)
  have r5 := ((Rd.newAt _ (g + 1 + 1 + 1 + 1) e4 44 2 3 #[.bool false, .slice (some ⟨g + 1 + 1, 0, none⟩) 2 2, .bool false, .slice (some ⟨g + 1 + 1 + 1, 0, none⟩) 1 1, .bool true, .slice none 0 0] (0, 0) _ rfl rfl).alloc oB2).alloc (oCd g)
  have r6 := (Rd.newAt _ (g + 1 + 1 + 1 + 1 + 1) e5 49 2 1 #[.int .u8 98, .int .i64 2] (0, 0) _ rfl rfl).alloc (oCd g)
  have r7 := Rd.newAt _ (g + 1 + 1 + 1 + 1 + 1 + 1) e6 44 2 3 #[.bool false, .slice (some ⟨g + 1 + 1, 0, none⟩) 2 2, .bool true, .slice (some ⟨g + 1 + 1 + 1 + 1 + 1, 0, none⟩) 1 1, .bool true, .slice none 0 0] (0, 0) _ rfl rfl
  refine ⟨⟨_, r2.untyped, fun i hi => ?_⟩, ⟨_, r5.untyped, fun i hi => ?_⟩, ⟨_, r7.untyped, fun i hi => ?_⟩, ?_⟩
  · match i, hi with
    | 0, _ => exact ⟨_, _, rfl, rfl, r1.untyped, Nat.le_refl _, by simp [maxLen]⟩
    | 1, _ => exact ⟨_, _, rfl, rfl, Rd.nil, Nat.le_refl _, by simp [maxLen]⟩
  · match i, hi with
    | 0, _ => exact ⟨_, _, rfl, rfl, r3.untyped, Nat.le_refl _, by simp [maxLen]⟩
    | 1, _ => exact ⟨_, _, rfl, rfl, r4.untyped, Nat.le_refl _, by simp [maxLen]⟩
    | 2, _ => exact ⟨_, _, rfl, rfl, Rd.nil, Nat.le_refl _, by simp [maxLen]⟩
  · match i, hi with
    | 0, _ => exact ⟨_, _, rfl, rfl, r3.untyped, Nat.le_refl _, by simp [maxLen]⟩
    | 1, _ => exact ⟨_, _, rfl, rfl, r6.untyped, Nat.le_refl _, by simp [maxLen]⟩
    | 2, _ => exact ⟨_, _, rfl, rfl, Rd.nil, Nat.le_refl _, by simp [maxLen]⟩
  · exact ((((((Ext.alloc _ _).trans (Ext.alloc _ _)).trans (Ext.alloc _ _)).trans (Ext.alloc _ _)).trans (Ext.alloc _ _)).trans (Ext.alloc _ _)).trans (Ext.alloc _ _)
set_option maxHeartbeats 4000000 in
set_option maxRecDepth 100000 in
theorem sanity_any (w : World) (hT : Tb w) : Calls Tryd.prog 18 #[] w fun e w' => e = .returned (.bool true) ∧ Ext w w' := by
  go_enter Tryd.func18, Tryd.ntmps18
  go_wp2_with fail
  have X0 : Ext w (w.alloc (.cells #[.string { data := #[97] }] 9)) := Ext.alloc _ _
  refine (build_yes _ 1 lA _ dA ((Rd.new w 9 1 1 #[.string { data := #[97] }] (0, 0) rfl).untyped) (by decide) (by simp [maxLen]) (hT.ext X0)).mono ?_
  rintro e w1 ⟨A1, c1, rfl, hc1, hm1, hd1, X1'⟩
  have X1 := X0.trans X1'
  clear X0 X1'
  go_wp2_with fail
  have X0 : Ext w1 (w1.alloc (.cells #[.string { data := #[97, 98] }, .string { data := #[98] }] 9)) := Ext.alloc _ _
  refine (build_yes _ 2 lB _ dB ((Rd.new w1 9 1 2 #[.string { data := #[97, 98] }, .string { data := #[98] }] (0, 0) rfl).untyped) (by decide) (by simp [maxLen]) (hT.ext (X1.trans X0))).mono ?_
  rintro e w2 ⟨A2, c2, rfl, hc2, hm2, hd2, X2'⟩
  have X12 := X0.trans X2'
  have X2 := X1.trans X12
  have hd1 := hd1.ext X12
  clear X0 X2' X12 X1
  go_wp2_with fail
  have X0 : Ext w2 (w2.alloc (.cells #[.string { data := #[97] }, .string { data := #[97, 98] }, .string { data := #[98] }] 9)) := Ext.alloc _ _
  refine (build_yes _ 3 lC _ dC ((Rd.new w2 9 1 3 #[.string { data := #[97] }, .string { data := #[97, 98] }, .string { data := #[98] }] (0, 0) rfl).untyped) (by decide) (by simp [maxLen]) (hT.ext (X2.trans X0))).mono ?_
  rintro e w3 ⟨A3, c3, rfl, hc3, hm3, hd3, X3'⟩
  have X12 := X0.trans X3'
  have X3 := X2.trans X12
  have hd1 := hd1.ext X12
  have hd2 := hd2.ext X12
  clear X0 X3' X12 X2
  go_wp2_with fail
  have X0 : Ext w3 (w3.alloc (.cells #[.string { data := #[98] }, .string { data := #[97] }] 9)) := Ext.alloc _ _
  refine (build_no _ 2 lD _ dD ((Rd.new w3 9 1 2 #[.string { data := #[98] }, .string { data := #[97] }] (0, 0) rfl).untyped) (by decide) (by decide)).mono ?_
  rintro e w4 ⟨rfl, X4'⟩
  have X12 := X0.trans X4'
  have X4 := X3.trans X12
  have hd1 := hd1.ext X12
  have hd2 := hd2.ext X12
  have hd3 := hd3.ext X12
  clear X0 X4' X12 X3
  go_wp2_with fail
  refine (build_no none 0 [] _ dN Rd.nil (by decide) (by decide)).mono ?_
  rintro e w5 ⟨rfl, X12⟩
  have X5 := X4.trans X12
  have hd1 := hd1.ext X12
  have hd2 := hd2.ext X12
  have hd3 := hd3.ext X12
  clear X12 X4
  go_wp2_with fail
  have LW := lits_all w5
  obtain ⟨hl1, hl2, hl3, XL⟩ := LW
  have X6 := X5.trans XL
  have hd1 := hd1.ext XL
  have hd2 := hd2.ext XL
  have hd3 := hd3.ext XL
  clear XL X5
  change Calls Tryd.prog 21 _ (litW w5) _
  generalize litW w5 = w6 at *
  refine (same_any A1 _ _ 2 (auto lA) aA w6 hd1 hl1 (by rw [auA]; decide) (by rw [auA]; decide)).mono ?_
  rintro e w7 ⟨rfl, X12⟩
  have X7 := X6.trans X12
  have hd1 := hd1.ext X12
  have hd2 := hd2.ext X12
  have hd3 := hd3.ext X12
  have hl2 := hl2.ext X12
  have hl3 := hl3.ext X12
  clear X12 X6
  rw [decide_eq_true auA]
  go_wp2_with fail
  refine (same_any A2 _ _ 3 (auto lB) aB w7 hd2 hl2 (by rw [auB]; decide) (by rw [auB]; decide)).mono ?_
  rintro e w8 ⟨rfl, XS⟩
  have X8 := X7.trans XS
  have hd3 := hd3.ext XS
  have hl3 := hl3.ext XS
  clear XS X7
  rw [decide_eq_true auB]
  go_wp2_with fail
  refine (same_any A3 _ _ 3 (auto lC) aC w8 hd3 hl3 (by rw [auC]; decide) (by rw [auC]; decide)).mono ?_
  rintro e w9 ⟨rfl, XS⟩
  have X9 := X8.trans XS
  have hd3 := hd3.ext XS
  clear XS X8
  rw [decide_eq_true auC]
  go_wp2_with fail
  refine (at_d dC A3 _ 1 w9 hd3).mono ?_
  rintro e w10 ⟨rfl, XS⟩
  have X10 := X9.trans XS
  have hd3 := hd3.ext XS
  clear XS X9
  rw [show bs (atL lC 1).1 = ({ data := #[97, 98] } : ByteArray) by decide, show (atL lC 1).2 = 0 by decide]
  go_wp2_with fail
  refine (at_d dC A3 _ 3 w10 hd3).mono ?_
  rintro e w11 ⟨rfl, XS⟩
  have X11 := X10.trans XS
  have hd3 := hd3.ext XS
  clear XS X10
  rw [show atL lC 3 = ([], 90) by decide]
  go_wp2_with fail
  refine (index_d dC A3 _ [97, 98] (by decide) (by decide) w11 hd3).mono ?_
  rintro e w12 ⟨rfl, XS⟩
  have X12 := X11.trans XS
  have hd3 := hd3.ext XS
  clear XS X11
  rw [show wix lC [97, 98] = 1 by decide]
  go_wp2_with fail
  refine (index_d dC A3 _ [98, 98] (by decide) (by decide) w12 hd3).mono ?_
  rintro e w13 ⟨rfl, XS⟩
  have X13 := X12.trans XS
  have hd3 := hd3.ext XS
  clear XS X12
  rw [show wix lC [98, 98] = -1 by decide]
  go_wp2_with fail
  refine (count_d dC A3 _ [97] (by decide) w13 hd3).mono ?_
  rintro e w14 ⟨rfl, XS⟩
  have X14 := X13.trans XS
  have hd3 := hd3.ext XS
  clear XS X13
  rw [show cnt lC [97] = 2 by decide]
  go_wp2_with fail
  refine (count_d dC A3 _ [] (by decide) w14 hd3).mono ?_
  rintro e w15 ⟨rfl, XS⟩
  have X15 := X14.trans XS
  have hd3 := hd3.ext XS
  clear XS X14
  rw [show cnt lC [] = 3 by decide]
  go_wp2_with fail
  refine (count_d dC A3 _ [99] (by decide) w15 hd3).mono ?_
  rintro e w16 ⟨rfl, XS⟩
  have X16 := X15.trans XS
  have hd3 := hd3.ext XS
  clear XS X15
  rw [show cnt lC [99] = 0 by decide]
  go_wp2_with fail
  refine (has_d dC A3 _ [98] (by decide) w16 hd3).mono ?_
  rintro e w17 ⟨rfl, XS⟩
  have X17 := X16.trans XS
  have hd3 := hd3.ext XS
  clear XS X16
  rw [show decide ([98] ∈ lC) = true by decide]
  go_wp2_with fail
  refine (has_d dC A3 _ [] (by decide) w17 hd3).mono ?_
  rintro e w18 ⟨rfl, XS⟩
  have X18 := X17.trans XS
  have hd3 := hd3.ext XS
  clear XS X17
  rw [show decide ([] ∈ lC) = false by decide]
  go_wp2_with fail
  refine (valid_d dC A3 _ w18 hd3 (hT.ext X18)).mono ?_
  rintro e w19 ⟨rfl, XS⟩
  have X19 := X18.trans XS
  clear XS X18
  go_wp2_with fail
  refine (pvalid_any [] (by decide) (by decide) w19 none 0 (Dw.nil _) (hT.ext X19)).mono ?_
  rintro e w20 ⟨rfl, XS⟩
  have X20 := X19.trans XS
  clear XS X19
  rw [show progV [] = false by rw [progV_eq]; decide +kernel]
  go_wp2_with fail
  have hdv : Dw (w20.alloc (Obj.cells #[.bool true, .slice none 0 0] 44)) (some ⟨w20.heap.size, 0, none⟩) [(true, [])] :=
    ⟨_, (Rd.new w20 44 2 1 #[.bool true, .slice none 0 0] (0, 0) rfl).untyped, fun i hi => by
      match i, hi with
      | 0, _ => exact ⟨_, _, rfl, rfl, Rd.nil, Nat.le_refl _, by simp [maxLen]⟩⟩
  have XS : Ext w20 (w20.alloc (Obj.cells #[.bool true, .slice none 0 0] 44)) := Ext.alloc _ _
  refine (pvalid_any [(true, [])] (by decide) (by decide) _ _ 1 hdv (hT.ext (X20.trans XS))).mono ?_
  rintro e w21 ⟨rfl, XR⟩
  rw [show progV [(true, [])] = false by rw [progV_eq]; decide +kernel]
  go_wp2
  all_goals go_ret
  exact ⟨rfl, (X20.trans XS).trans XR⟩
end Go.Proofs.YtmmihcophkipoaaDoor
