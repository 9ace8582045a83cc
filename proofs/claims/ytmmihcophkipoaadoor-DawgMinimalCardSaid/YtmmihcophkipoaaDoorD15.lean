import Derived.Test.YtmmihcophkipoaaDoorD14
namespace Go.Proofs.YtmmihcophkipoaaDoor
open Go.ChangeShapes Go.WideShapes Go.ChangeAt Go.RowKit
set_option linter.unusedVariables false
set_option linter.unusedSimpArgs false
set_option maxHeartbeats 1000000 in
set_option maxRecDepth 100000 in
theorem eqarcs_any (A B : Option Addr) (c c' : Nat) (l m : List (UInt8 × Int)) (w : World) (hr : Rd w 0 2 A l.length (acells l)) (hs : Rd w 0 2 B m.length (acells m)) (hn : l.length ≤ 1000000) :
    Calls Tryd.prog 85 #[.slice A l.length c, .slice B m.length c'] w fun e w' => e = .returned (.bool (decide (l = m))) ∧ Ext w w' := by
  obtain ⟨r, hr0⟩ : ∃ r, decide (l = m) = r := ⟨_, rfl⟩
  rw [hr0]
  have HR := Lib.hid hr0; clear hr0
  by_cases hl : l.length = m.length
  · have HL := Lib.hid hl
    rw [← hl] at hs ⊢
    clear hl
    go_enter Tryd.func85, Tryd.ntmps85
    go_wp2_with fail
    go_loopw [13] (fun i wr => ∃ j : Nat, j ≤ l.length ∧ i = .int .i64 j ∧ l.take j = m.take j ∧ Ext w wr) (fun i _ => 1000001 - (intOf i).toNat)
    case atStart => exact ⟨0, by omega, rfl, by simp, Ext.refl _⟩
    case round =>
      obtain ⟨j, hj, rfl, hall, hX⟩ := hrel
      by_cases hjl : j < l.length
      · have hjl' : (j : Int) < l.length := by omega
        have hj2 : j < m.length := by have := HL.out; omega
        obtain ⟨s0, s1⟩ := acells_at l j hjl
        obtain ⟨t0, t1⟩ := acells_at m j hj2
        obtain ⟨p1, e1, pb1, u0, u1⟩ := (hr.ext hX).twob hjl s0 s1
        obtain ⟨p2, e2, pb2, v0, v1⟩ := (hs.ext hX).twob hjl t0 t1
        subst e1 e2
        have HU1 := Lib.hid (take_snoc l j hjl)
        have HU2 := Lib.hid (take_snoc m j hj2)
        have HE : Hid (l[j] ≠ m[j] → r = false) := Lib.hid (fun h => by rw [← HR.out]; simp only [decide_eq_false_iff_not]; rintro rfl; exact h rfl)
        have HA2 := Lib.hid hall
        clear hall s0 s1 t0 t1
        generalize l[j] = x at *
        generalize m[j] = y at *
        have heq := eq49
        by_cases hxy : x = y
        · subst hxy
          have hdd : (decide (x.1.toNat = x.1.toNat) && decide (x.2 = x.2)) = true := by simp
          go_wp2_with fail
          have hc0 : ∀ W : World, Ext wr.drew W → W.cell? (p1.add (j * 2)) = some (.int .u8 x.1.toNat) ∧ W.cell? ⟨(p1.add (j * 2)).block, (p1.add (j * 2)).off + 1, none⟩ = some (.int .i64 x.2) ∧ W.cell? (p2.add (j * 2)) = some (.int .u8 x.1.toNat) ∧ W.cell? ⟨(p2.add (j * 2)).block, (p2.add (j * 2)).off + 1, none⟩ = some (.int .i64 x.2) ∧ True := fun W hE => by
            exact ⟨cell_drew hE pb1 u0, cell_drew hE pb1 u1, cell_drew hE pb2 v0, cell_drew hE pb2 v1, trivial⟩
          have HC := Lib.hid hc0; clear hc0
          refine wp_region_list2 (by kernel_rfl) 9 Ext [] (by kernel_rfl) (fun _ _ d _ _ h => by cases d <;> exact h) rfl Ext.refl (fun _ _ _ => Ext.trans) trivial ?_
          simp only [List.take_succ_cons, List.take_zero, List.take_nil, List.drop_succ_cons, List.drop_zero, List.drop_nil]
          iterate 9
            refine ph_pure (a' := ?_) rfl rfl ?_ (fun w8 hE hG => pureAt_plain rfl ?_) ?_ ?_
            rotate_left 2
            · clear hG; obtain ⟨z0, z1, z2, z3, _⟩ := HC.out w8 hE; (go_simp; try go_bits); rfl
            · go_simp; rfl
          refine ph_end (fun w8 hE hG => ?_)
          have hXr : Ext wr w8 := Ext.drew.trans hE
          clear hE hG HC
          go_wp2
          refine ⟨⟨j + 1, by omega, by go_num, by rw [HU1.out, HU2.out, HA2.out], hX.trans hXr⟩, by simp only [intOf]; omega⟩
        · have hdd := pair_ne hxy
          have hrf : r = false := HE.out hxy
          subst hrf
          go_wp2_with fail
          have hc0 : ∀ W : World, Ext wr.drew W → W.cell? (p1.add (j * 2)) = some (.int .u8 x.1.toNat) ∧ W.cell? ⟨(p1.add (j * 2)).block, (p1.add (j * 2)).off + 1, none⟩ = some (.int .i64 x.2) ∧ W.cell? (p2.add (j * 2)) = some (.int .u8 y.1.toNat) ∧ W.cell? ⟨(p2.add (j * 2)).block, (p2.add (j * 2)).off + 1, none⟩ = some (.int .i64 y.2) ∧ True := fun W hE => by
            exact ⟨cell_drew hE pb1 u0, cell_drew hE pb1 u1, cell_drew hE pb2 v0, cell_drew hE pb2 v1, trivial⟩
          have HC := Lib.hid hc0; clear hc0
          refine wp_region_list2 (by kernel_rfl) 9 Ext [] (by kernel_rfl) (fun _ _ d _ _ h => by cases d <;> exact h) rfl Ext.refl (fun _ _ _ => Ext.trans) trivial ?_
          simp only [List.take_succ_cons, List.take_zero, List.take_nil, List.drop_succ_cons, List.drop_zero, List.drop_nil]
          iterate 9
            refine ph_pure (a' := ?_) rfl rfl ?_ (fun w8 hE hG => pureAt_plain rfl ?_) ?_ ?_
            rotate_left 2
            · clear hG; obtain ⟨z0, z1, z2, z3, _⟩ := HC.out w8 hE; (go_simp; try go_bits); rfl
            · go_simp; rfl
          refine ph_end (fun w8 hE hG => ?_)
          have hXr : Ext wr w8 := Ext.drew.trans hE
          clear hE hG HC
          go_wp2
          go_ret
          exact ⟨rfl, hX.trans hXr⟩
      · have hjl' : ¬ (j : Int) < l.length := by omega
        have hrt : r = true := by
          rw [← HR.out]
          simp only [decide_eq_true_eq]
          rw [List.take_of_length_le (by omega), List.take_of_length_le (by have := HL.out; omega)] at hall
          exact hall
        subst hrt
        clear hall
        go_wp2
        go_ret
        exact ⟨rfl, hX⟩
  · have hrf : r = false := by rw [← HR.out]; simp only [decide_eq_false_iff_not]; rintro rfl; exact hl rfl
    subst hrf
    have h1 : ¬ ((l.length : Int) = (m.length : Int)) := by omega
    go_enter Tryd.func85, Tryd.ntmps85
    go_wp2
    go_ret
    exact ⟨rfl, Ext.refl _⟩
set_option maxHeartbeats 1000000 in
theorem eqnode_any (A B : Option Addr) (c c' : Nat) (x y : Bool × List (UInt8 × Int)) (w : World) (hr : Rd w 0 2 A x.2.length (acells x.2)) (hs : Rd w 0 2 B y.2.length (acells y.2)) (hn : x.2.length ≤ 1000000) :
    Calls Tryd.prog 84 #[.agg #[.bool x.1, .slice A x.2.length c], .agg #[.bool y.1, .slice B y.2.length c']] w fun e w' => e = .returned (.bool (decide (x = y))) ∧ Ext w w' := by
  obtain ⟨f1, l⟩ := x
  obtain ⟨f2, m⟩ := y
  simp only at hr hs hn ⊢
  have hE : Ext w ((w.alloc (Obj.cells #[.bool f1, .slice A l.length c] 44)).alloc (Obj.cells #[.bool f2, .slice B m.length c'] 44)) := (Ext.alloc _ _).trans (Ext.alloc _ _)
  by_cases hf : f1 = f2
  · subst hf
    have hd : decide ((f1, l) = (f1, m)) = decide (l = m) := by simp
    rw [hd]
    clear hd
    obtain ⟨r, hr0⟩ : ∃ r, decide (l = m) = r := ⟨_, rfl⟩
    rw [hr0]
    have HR := Lib.hid hr0; clear hr0
    have hbb : (f1 == f1) = true := by simp
    have X := hE
    go_enter Tryd.func84, Tryd.ntmps84
    go_wp2_with fail
    refine (eqarcs_any A B c c' l m _ (hr.ext X) (hs.ext X) hn).mono ?_
    rintro e w1 ⟨rfl, hX⟩
    rw [HR.out]
    go_wp2
    go_ret
    exact ⟨rfl, X.trans hX⟩
  · have hd : decide ((f1, l) = (f2, m)) = false := by simp [hf]
    rw [hd]
    clear hd
    have hcs : (f1 = true ∧ f2 = false) ∨ (f1 = false ∧ f2 = true) := by cases f1 <;> cases f2 <;> simp_all
    clear hf
    have X := hE
    rcases hcs with ⟨rfl, rfl⟩ | ⟨rfl, rfl⟩
    · go_enter Tryd.func84, Tryd.ntmps84
      go_wp2
      go_ret
      exact ⟨rfl, X⟩
    · go_enter Tryd.func84, Tryd.ntmps84
      go_wp2
      go_ret
      exact ⟨rfl, X⟩
set_option maxHeartbeats 2000000 in
set_option maxRecDepth 100000 in
theorem eqfunc_any (A B : Option Addr) (c c' : Nat) (d e : Au) (w : World) (hd : Dw w A d) (he : Dw w B e) (hn : d.length ≤ 1000000) (hm : ∀ x ∈ d, x.2.length ≤ 1000000) :
    Calls Tryd.prog 83 #[.slice A d.length c, .slice B e.length c', .func (.func 84) #[] #[]] w fun r w' => r = .returned (.bool (decide (d = e))) ∧ Ext w w' := by
  obtain ⟨r, hr0⟩ : ∃ r, decide (d = e) = r := ⟨_, rfl⟩
  rw [hr0]
  have HR := Lib.hid hr0; clear hr0
  by_cases hl : d.length = e.length
  · have HL := Lib.hid hl
    rw [← hl]
    generalize hN : d.length = n at *
    have HNd := Lib.hid hN
    have HNe := Lib.hid hl.symm
    clear hN hl
    go_enter Tryd.func83, Tryd.ntmps83
    go_wp2_with fail
    go_loopw [17] (fun i wr => ∃ k : Nat, k ≤ n ∧ i = .int .i64 k ∧ d.take k = e.take k ∧ Ext w wr) (fun i _ => 1000001 - (intOf i).toNat)
    case atStart => exact ⟨0, by omega, rfl, by simp, Ext.refl _⟩
    case round =>
      obtain ⟨k, hk, rfl, hall, hX⟩ := hrel
      by_cases hlt : k < n
      · have hlt' : (k : Int) < n := by omega
        have k1 : k < d.length := by have := HNd.out; omega
        have k2 : k < e.length := by have := HNe.out; omega
        obtain ⟨a1, b1, c1, e1, hb1, g10, g11, r1, hc1, hc1'⟩ := (hd.ext hX).at_ k1
        obtain ⟨a2, b2, c2, e2, hb2, g20, g21, r2, hc2, hc2'⟩ := (he.ext hX).at_ k2
        subst e1 e2
        have HT1 := Lib.hid (take_snoc d k k1)
        have HT2 := Lib.hid (take_snoc e k k2)
        have HD : Hid (d[k] ≠ e[k] → r = false) := Lib.hid (fun h => by rw [← HR.out]; simp only [decide_eq_false_iff_not]; rintro rfl; exact h rfl)
        have hmk := hm _ (List.getElem_mem k1)
        have HH := Lib.hid hall
        clear hall
        generalize d[k] = x at *
        generalize e[k] = y at *
        go_wp2_with fail
        have hE2 : Ext wr ((wr.alloc (Obj.cells #[.bool x.1, .slice b1 x.2.length c1] 44)).alloc (Obj.cells #[.bool y.1, .slice b2 y.2.length c2] 44)) := (Ext.alloc _ _).trans (Ext.alloc _ _)
        refine (eqnode_any b1 b2 c1 c2 x y _ (r1.ext hE2) (r2.ext hE2) hmk).mono ?_
        rintro e w1 ⟨rfl, hX1⟩
        have hX2 := hX.trans (hE2.trans hX1)
        by_cases hxy : x = y
        · rw [decide_eq_true hxy]
          have HXY := Lib.hid hxy
          clear hxy
          go_wp2
          exact ⟨⟨k + 1, by omega, by go_num, by rw [HT1.out, HT2.out, HH.out, HXY.out], hX2⟩, by simp only [intOf]; omega⟩
        · rw [decide_eq_false hxy]
          have hrf := HD.out hxy
          subst hrf
          clear hxy
          go_wp2
          go_ret
          exact ⟨rfl, hX2⟩
      · have hlt' : ¬ (k : Int) < n := by omega
        have hrt : r = true := by
          rw [← HR.out]
          simp only [decide_eq_true_eq]
          rw [List.take_of_length_le (by have := HNd.out; omega), List.take_of_length_le (by have := HNe.out; omega)] at hall
          exact hall
        subst hrt
        clear hall
        go_wp2
        go_ret
        exact ⟨rfl, hX⟩
  · have hrf : r = false := by rw [← HR.out]; simp only [decide_eq_false_iff_not]; rintro rfl; exact hl rfl
    subst hrf
    have h1 : ¬ ((d.length : Int) = (e.length : Int)) := by omega
    go_enter Tryd.func83, Tryd.ntmps83
    go_wp2
    go_ret
    exact ⟨rfl, Ext.refl _⟩
theorem equal_any (A B : Option Addr) (c c' : Nat) (d e : Au) (w : World) (hd : Dw w A d) (he : Dw w B e) (hn : d.length ≤ 1000000) (hm : ∀ x ∈ d, x.2.length ≤ 1000000) :
    Calls Tryd.prog 53 #[.slice A d.length c, .slice B e.length c'] w fun r w' => r = .returned (.bool (decide (d = e))) ∧ Ext w w' := by
  go_enter Tryd.func53, Tryd.ntmps53
  go_wp2_with fail
  refine (eqfunc_any A B c c' d e _ hd he hn hm).mono ?_
  rintro e w1 ⟨rfl, hX⟩
  go_wp2
  go_ret
  exact ⟨rfl, hX⟩
end Go.Proofs.YtmmihcophkipoaaDoor
