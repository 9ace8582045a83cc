import Derived.Test.YtecdmgcgplohoaaCa6
import Derived.Deep.QuietTactic
import Derived.BigQuiet
namespace Go.Proofs.Ytecdmgcgplohoaa
open Go.ChangeShapes Go.WideShapes Go.ChangeAt Go.RowKit
set_option linter.unusedVariables false
set_option linter.unusedSimpArgs false
attribute [local go_sem] ba_beq ba_bne

theorem ent_ext {l m : List En} (h1 : keys l = keys m) (h2 : vals l = vals m) : l = m := by
  induction l generalizing m with
  | nil => cases m with
    | nil => rfl
    | cons => simp [keys] at h1
  | cons a l ih => cases m with
    | nil => simp [keys] at h1
    | cons b m =>
      simp only [keys, vals, List.map_cons, List.cons.injEq] at *
      have e1 := ih h1.2 h2.2
      have e2 : a = b := Prod.ext h1.1 h2.1
      exact ⟨e2, e1⟩
theorem take_ne {l m : List BA} {k : Nat} (_ : l.take k = m.take k) (h1 : k < l.length) (h2 : k < m.length) : l[k] ≠ m[k] → l ≠ m := by
  rintro h rfl
  exact h rfl
theorem Ext.drewN {w : World} (n : Nat) : Ext w (w.drewN n) := below_drewN (Ext.refl w) n
set_option maxHeartbeats 2000000 in
set_option maxRecDepth 100000 in
theorem same_any (r1 r2 : Int) (l1 l2 : List En) (V1 V2 : Value) (w : World) (h1 : Ca w r1 l1 V1) (h2 : Ca w r2 l2 V2) (hn : l1.length ≤ 64) (s : Bool) (hs : decide (r1 = r2 ∧ l1 = l2) = s) :
    Calls Try.prog 13 #[V1, V2] w fun e w' => e = .returned (.bool s) ∧ Below w.heap.size w w' := by
  obtain ⟨A, c, B, d, rfl, hA, hB, hc1, hc2, hd1, hd2⟩ := h1.ex
  obtain ⟨E, c', F, d', rfl, hE, hF, hc1', hc2', hd1', hd2'⟩ := h2.ex
  have HS := Lib.hid hs
  clear h1 h2 hs
  generalize hN1 : l1.length = n at *
  generalize hN2 : l2.length = m at *
  have HN1 := Lib.hid hN1
  have HN2 := Lib.hid hN2
  clear hN1 hN2
  have L : Below w.heap.size w ((w.alloc (Obj.cells #[.int .i64 r1, .slice A n c, .slice B n d] 26)).alloc (Obj.cells #[.int .i64 r2, .slice E m c', .slice F m d'] 26)) := by go_grown
  have X := (Blk.new w 26 #[.int .i64 r1, .slice A n c, .slice B n d]).alloc (Obj.cells #[.int .i64 r2, .slice E m c', .slice F m d'] 26)
  have Y := Blk.newAt (w.alloc (Obj.cells #[.int .i64 r1, .slice A n c, .slice B n d] 26)) (w.heap.size + 1) (by simp) 26 #[.int .i64 r2, .slice E m c', .slice F m d']
  by_cases hr : r1 = r2
  · subst hr
    by_cases hl : n = m
    · subst hl
      go_enter Try.func13, Try.ntmps13
      go_wp2_with fail
      have hA1 := hA.below L (Nat.le_refl _)
      have hB1 := hB.below L (Nat.le_refl _)
      have hE1 := hE.below L (Nat.le_refl _)
      have hF1 := hF.below L (Nat.le_refl _)
      generalize (w.alloc (Obj.cells #[.int .i64 r1, .slice A n c, .slice B n d] 26)).alloc (Obj.cells #[.int .i64 r1, .slice E n c', .slice F n d'] 26) = w1 at *
      go_loopw [5] (fun i wr => ∃ k : Nat, k ≤ n ∧ i = .int .i64 k ∧ (keys l1).take k = (keys l2).take k ∧ Ext w1 wr) (fun i _ => 100 - (intOf i).toNat)
      case atStart => exact ⟨0, by omega, rfl, by simp, Ext.refl _⟩
      case round =>
        obtain ⟨k, hk, rfl, hall, hX⟩ := hrel
        have X' := X.ext hX
        have Y' := Y.ext hX
        have L' := L.trans (hX.below.mono L.size)
        obtain ⟨x0, x1, x2, x3, x4⟩ := X'.f3
        obtain ⟨z0, z1, z2, z3, z4⟩ := Y'.f3
        by_cases hlt : k < n
        · have hlt' : (k : Int) < (n : Int) := by omega
          have k1 : k < (keys l1).length := by simp [keys]; have := HN1.out; omega
          have k2 : k < (keys l2).length := by simp [keys]; have := HN2.out; omega
          obtain ⟨a1, e1, _, g1⟩ := (hA1.ext hX).one hlt (show (strs (keys l1))[k]? = some (.string (keys l1)[k]) by simp [strs, k1])
          obtain ⟨a2, e2, _, g2⟩ := (hE1.ext hX).one hlt (show (strs (keys l2))[k]? = some (.string (keys l2)[k]) by simp [strs, k2])
          subst e1 e2
          have HT1 := Lib.hid (take_snoc _ _ k1)
          have HT2 := Lib.hid (take_snoc _ _ k2)
          have HD := Lib.hid (take_ne hall k1 k2)
          have HH := Lib.hid hall
          clear hall
          generalize (keys l1)[k] = s1 at *
          generalize (keys l2)[k] = s2 at *
          by_cases he : s1 = s2
          · have hd : decide (s1 = s2) = true := by simp [he]
            have HE := Lib.hid he
            clear he
            go_wp2_with fail
            go_quiet (fail)
            go_wp2
            refine ⟨⟨k + 1, by omega, by go_num, ?_, hX.trans (Ext.drewN nq)⟩, by simp only [intOf]; omega⟩
            rw [HT1.out, HT2.out, HH.out, HE.out]
          · have hd : decide (s1 = s2) = false := by simp [he]
            have hS : s = false := by
              rw [← HS.out]; simp only [decide_eq_false_iff_not]; rintro ⟨_, rfl⟩; exact HD.out he rfl
            subst hS
            have HE := Lib.hid he
            clear he
            go_wp2_with fail
            go_quiet (fail)
            go_wp2
            go_ret
            exact ⟨rfl, below_drewN L' _⟩
        · have hkn : n = k := by omega
          subst hkn
          have hks : keys l1 = keys l2 := by
            rw [List.take_of_length_le (by simp [keys]; have := HN1.out; omega), List.take_of_length_le (by simp [keys]; have := HN2.out; omega)] at hall
            exact hall
          have HK1 := Lib.hid hks
          clear hks hall
          go_wp2_with fail
          rename World => w2
          have X2 := X'
          have Y2 := Y'
          have L2 := L'
          have hB2 := hB1.ext hX
          have hF2 := hF1.ext hX
          clear X Y L hA1 hB1 hE1 hF1 x0 x1 x2 x3 x4 z0 z1 z2 z3 z4 hX X' Y' L' hlt hk hA hB hE hF
          go_loopw [6] (fun i wr => ∃ k : Nat, k ≤ n ∧ i = .int .i64 k ∧ (vals l1).take k = (vals l2).take k ∧ Ext w2 wr) (fun i _ => 100 - (intOf i).toNat)
          case atStart => exact ⟨0, by omega, rfl, by simp, Ext.refl _⟩
          case round =>
            obtain ⟨k, hk, rfl, hall, hX⟩ := hrel
            have X' := X2.ext hX
            have Y' := Y2.ext hX
            have L' := L2.trans (hX.below.mono L2.size)
            obtain ⟨x0, x1, x2, x3, x4⟩ := X'.f3
            obtain ⟨z0, z1, z2, z3, z4⟩ := Y'.f3
            by_cases hlt : k < n
            · have hlt' : (k : Int) < (n : Int) := by omega
              have k1 : k < (vals l1).length := by simp [vals]; have := HN1.out; omega
              have k2 : k < (vals l2).length := by simp [vals]; have := HN2.out; omega
              obtain ⟨a1, e1, _, g1⟩ := (hB2.ext hX).one hlt (show (strs (vals l1))[k]? = some (.string (vals l1)[k]) by simp [strs, k1])
              obtain ⟨a2, e2, _, g2⟩ := (hF2.ext hX).one hlt (show (strs (vals l2))[k]? = some (.string (vals l2)[k]) by simp [strs, k2])
              subst e1 e2
              have HT1 := Lib.hid (take_snoc _ _ k1)
              have HT2 := Lib.hid (take_snoc _ _ k2)
              have HD := Lib.hid (take_ne hall k1 k2)
              have HH := Lib.hid hall
              clear hall
              generalize (vals l1)[k] = s1 at *
              generalize (vals l2)[k] = s2 at *
              by_cases he : s1 = s2
              · have hd : decide (s1 = s2) = true := by simp [he]
                have HE := Lib.hid he
                clear he
                go_wp2_with fail
                go_quiet (fail)
                go_wp2
                refine ⟨⟨k + 1, by omega, by go_num, ?_, hX.trans (Ext.drewN nq)⟩, by simp only [intOf]; omega⟩
                rw [HT1.out, HT2.out, HH.out, HE.out]
              · have hd : decide (s1 = s2) = false := by simp [he]
                have hS : s = false := by
                  rw [← HS.out]; simp only [decide_eq_false_iff_not]; rintro ⟨_, rfl⟩; exact HD.out he rfl
                subst hS
                have HE := Lib.hid he
                clear he
                go_wp2_with fail
                go_quiet (fail)
                go_wp2
                go_ret
                exact ⟨rfl, below_drewN L' _⟩
            · have hkn : n = k := by omega
              subst hkn
              have hks : vals l1 = vals l2 := by
                rw [List.take_of_length_le (by simp [vals]; have := HN1.out; omega), List.take_of_length_le (by simp [vals]; have := HN2.out; omega)] at hall
                exact hall
              have HK2 := Lib.hid hks
              clear hks hall
              have hS : s = true := by rw [← HS.out]; simp [ent_ext HK1.out HK2.out]
              subst hS
              go_wp2
              go_ret
              exact ⟨rfl, L'⟩
    · go_enter Try.func13, Try.ntmps13
      have hne : s = false := by rw [← HS.out]; simp; rintro rfl; exact hl (HN1.out.symm.trans HN2.out)
      subst hne
      go_wp2
      go_ret
      exact ⟨rfl, L⟩
  · go_enter Try.func13, Try.ntmps13
    have hne : s = false := by rw [← HS.out]; simp [hr]
    subst hne
    go_wp2
    go_ret
    exact ⟨rfl, L⟩
end Go.Proofs.Ytecdmgcgplohoaa
