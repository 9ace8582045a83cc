import Derived.Test.YtecdmgcgplohoaaCa7
import Derived.Deep.QuietTactic
import Derived.BigQuiet
namespace Go.Proofs.Ytecdmgcgplohoaa
open Go.ChangeShapes Go.WideShapes Go.ChangeAt Go.RowKit
set_option linter.unusedVariables false
set_option linter.unusedSimpArgs false
attribute [local go_sem] ba_beq ba_bne

set_option maxHeartbeats 2000000 in
set_option maxRecDepth 100000 in
theorem right_yes (room : Int) (l : List En) (V : Value) (w : World) (hV : Ca w room l V) (hs : Sm l) (hnd : (keys l).Nodup) (hr0 : 0 ≤ room) (hr1 : room ≤ 40) (htw : tw l ≤ room) :
    Calls Try.prog 21 #[V] w fun e w' => e = .returned (.bool true) ∧ Below w.heap.size w w' := by
  obtain ⟨A, c, B, d, rfl, hA, hB, hc1, hc2, hd1, hd2⟩ := hV.ex
  clear hV
  have hn := hs.1
  have hr := tw_range l hs l.length
  rw [List.take_length] at hr
  generalize hN : l.length = n at *
  have HN := Lib.hid hN
  clear hN
  have L : Below w.heap.size w (w.alloc (Obj.cells #[.int .i64 room, .slice A n c, .slice B n d] 26)) := by go_grown
  have X := Blk.new w 26 #[.int .i64 room, .slice A n c, .slice B n d]
  go_enter Try.func21, Try.ntmps21
  go_wp2_with fail
  have hA1 := hA.below L (Nat.le_refl _)
  have hB1 := hB.below L (Nat.le_refl _)
  generalize w.alloc (Obj.cells #[.int .i64 room, .slice A n c, .slice B n d] 26) = w1 at *
  go_loopw [3, 4] (fun i _ wr => ∃ k : Nat, k ≤ n ∧ i = .int .i64 k ∧ Ext w1 wr) (fun i _ _ => 100 - (intOf i).toNat)
  case atStart => exact ⟨0, by omega, rfl, Ext.refl _⟩
  case round =>
    obtain ⟨k, hk, rfl, hX⟩ := hrel
    rename World => w2
    have X2 := X.ext hX
    have L2 := L.trans (hX.below.mono L.size)
    have hA2 := hA1.ext hX
    have hB2 := hB1.ext hX
    clear X L hA1 hB1
    obtain ⟨x0, x1, x2, x3, x4⟩ := X2.f3
    by_cases hlt : k < n
    · have hlt' : (k : Int) < (n : Int) := by omega
      have k1 : k < (keys l).length := by simp [keys]; have := HN.out; omega
      go_wp2_with fail
      go_loopw [4] (fun i wr => ∃ j : Nat, j ≤ k ∧ i = .int .i64 j ∧ Ext w2 wr) (fun i _ => 100 - (intOf i).toNat)
      case atStart => exact ⟨0, by omega, rfl, Ext.refl _⟩
      case round =>
        obtain ⟨j, hj, rfl, hY⟩ := hrel
        have X3 := X2.ext hY
        clear x0 x1 x2 x3 x4
        obtain ⟨x0, x1, x2, x3, x4⟩ := X3.f3
        by_cases hjk : j < k
        · have hjk' : (j : Int) < (k : Int) := by omega
          have j1 : j < (keys l).length := by omega
          obtain ⟨a1, e1, _, g1⟩ := (hA2.ext hY).one hlt (show (strs (keys l))[k]? = some (.string (keys l)[k]) by simp [strs, k1])
          obtain ⟨a2, e2, _, g2⟩ := (hA2.ext hY).one (show j < n by omega) (show (strs (keys l))[j]? = some (.string (keys l)[j]) by simp [strs, j1])
          subst e1
          injection e2 with e2
          subst e2
          have hne : (keys l)[k] ≠ (keys l)[j] := fun e => List.pairwise_iff_getElem.1 hnd j k j1 k1 hjk e.symm
          generalize (keys l)[k] = s1 at *
          generalize (keys l)[j] = s2 at *
          have hd : decide (s1 = s2) = false := by simp [hne]
          have HE := Lib.hid hne
          clear hne
          go_wp2_with fail
          go_quiet (fail)
          go_wp2
          exact ⟨⟨j + 1, by omega, by go_num, hY.trans (Ext.drewN nq)⟩, by simp only [intOf]; omega⟩
        · have hjk' : ¬ (j : Int) < (k : Int) := by omega
          go_wp2
          exact ⟨⟨k + 1, by omega, by go_num, hX.trans hY⟩, by simp only [intOf]; omega⟩
    · have hkn : k = n := by omega
      have hc : ∀ W, Ext w2.drew W → W.cell? ⟨w.heap.size, 0, none⟩ = some (.int .i64 room) ∧ W.cell? ⟨w.heap.size, 1, none⟩ = some (.slice A n c) ∧ W.cell? ⟨w.heap.size, 2, none⟩ = some (.slice B n d) ∧ Ca W room l (.agg #[.int .i64 room, .slice A n c, .slice B n d]) := fun W hE => by
        obtain ⟨x0, x1, x2, _, _⟩ := (X2.drew.ext hE).f3
        refine ⟨x0, x1, x2, ?_⟩
        have := HN.out
        subst this
        exact ⟨⟨A, c, B, d, rfl, hA2.drew.ext hE, hB2.drew.ext hE, hc1, hc2, hd1, hd2⟩⟩
      have HC := Lib.hid hc; clear hc
      have HND := Lib.hid hnd; clear hnd
      go_wp2_with fail
      refine wp_region_list2 (by kernel_rfl) 25 Ext [(19, Is (.int .i64 (tw l)))] (by kernel_rfl) (fun _ _ d _ _ h => by cases d <;> exact h) rfl Ext.refl (fun _ _ _ => Ext.trans) ⟨fun _ _ _ => Is.ext, trivial⟩ ?_
      simp only [List.take_succ_cons, List.take_zero, List.take_nil, List.drop_succ_cons, List.drop_zero, List.drop_nil]
      iterate 4
        refine ph_pure (a' := ?_) rfl rfl ?_ (fun w9 hE hG => pureAt_plain rfl ?_) ?_ ?_
        rotate_left 2
        · clear hG; obtain ⟨x0, x1, x2, hCa⟩ := HC.out w9 hE; (go_simp; try go_bits); rfl
        · go_simp; rfl
      iterate 3
        refine ph_pure (a' := ?_) rfl rfl ?_ (fun w9 hE hG => pureAt_on (by rfl) ?_) ?_ ?_
        rotate_left 2
        · clear hG; obtain ⟨x0, x1, x2, hCa⟩ := HC.out w9 hE; (go_simp; try go_bits); rfl
        · go_simp; rfl
      iterate 2
        refine ph_pure (a' := ?_) rfl rfl ?_ (fun w9 hE hG => pureAt_plain rfl ?_) ?_ ?_
        rotate_left 2
        · clear hG; obtain ⟨x0, x1, x2, hCa⟩ := HC.out w9 hE; (go_simp; try go_bits); rfl
        · go_simp; rfl
      iterate 7
        refine ph_pure (a' := ?_) rfl rfl ?_ (fun w9 hE hG => pureAt_on (by rfl) ?_) ?_ ?_
        rotate_left 2
        · clear hG; obtain ⟨x0, x1, x2, hCa⟩ := HC.out w9 hE; (go_simp; try go_bits); rfl
        · go_simp; rfl
      iterate 2
        refine ph_pure (a' := ?_) rfl rfl ?_ (fun w9 hE hG => pureAt_plain rfl ?_) ?_ ?_
        rotate_left 2
        · clear hG; obtain ⟨x0, x1, x2, hCa⟩ := HC.out w9 hE; (go_simp; try go_bits); rfl
        · go_simp; rfl
      iterate 1
        refine ph_pure (a' := ?_) rfl rfl ?_ (fun w9 hE hG => pureAt_on (by rfl) ?_) ?_ ?_
        rotate_left 2
        · clear hG; obtain ⟨x0, x1, x2, hCa⟩ := HC.out w9 hE; (go_simp; try go_bits); rfl
        · go_simp; rfl
      refine ph_op rfl rfl (fun w9 hE hG => opAt_on (by rfl) ?_) (fun v hv => ?_)
      · clear hG
        try clear hG
        obtain ⟨x0, x1, x2, hCa⟩ := HC.out w9 hE; (go_simp; try go_bits)
        refine (size_any room l _ _ hCa hs).mono ?_
        rintro e w' ⟨rfl, hb⟩
        exact ⟨_, rfl, hb, rfl⟩
      obtain ⟨_, _, rfl⟩ := hv
      go_simp
      iterate 3
        refine ph_pure (a' := ?_) rfl rfl ?_ (fun w9 hE hG => pureAt_on (by rfl) ?_) ?_ ?_
        rotate_left 2
        · clear hG; obtain ⟨x0, x1, x2, hCa⟩ := HC.out w9 hE; (go_simp; try go_bits); rfl
        · go_simp; rfl
      iterate 2
        refine ph_pure (a' := ?_) rfl rfl ?_ (fun w9 hE hG => pureAt_plain rfl ?_) ?_ ?_
        rotate_left 2
        · clear hG; obtain ⟨x0, x1, x2, hCa⟩ := HC.out w9 hE; (go_simp; try go_bits); rfl
        · go_simp; rfl
      refine ph_end (fun w9 hE hG => ?_)
      simp only [List.forall_mem_cons] at hG
      have L3 := L2.drew.trans (hE.below.mono L2.size)
      clear hE hG HC X2 L2 hA2 hB2
      go_wp2
      go_ret
      exact ⟨rfl, L3⟩
end Go.Proofs.Ytecdmgcgplohoaa
