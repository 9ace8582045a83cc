import Derived.Test.YtecdmgcgplohoaaCa13
namespace Go.Proofs.Ytecdmgcgplohoaa
open Go.ChangeShapes Go.WideShapes Go.ChangeAt Go.RowKit
set_option linter.unusedVariables false
set_option linter.unusedSimpArgs false
attribute [local go_sem] ba_beq ba_bne

set_option maxHeartbeats 2000000 in
set_option maxRecDepth 100000 in
theorem put_any (room : Int) (l : List En) (V : Value) (key val : BA) (w : World) (hV : Ca w room l V) (hs : Sm l) (hl : l.length ≤ 62) (hnd : (keys l).Nodup) (h1 : key.size ≤ 1000) (h2 : val.size ≤ 1000) :
    Calls Try.prog 14 #[V, .string key, .string val] w fun e w' => ∃ V', e = .returned V' ∧ Ca w' room (fit room 0 ((key, val) :: wo l key)) V' ∧ Below w.heap.size w w' := by
  obtain ⟨A, c, B, d, rfl, hA, hB, hc1, hc2, hd1, hd2⟩ := hV.ex
  clear hV
  have HS := Lib.hid (cons_sm (N := 0) key val (wo_sm key hs) (Nat.le_trans (wo_le l key) (by omega)) h1 h2)
  have hwl := wo_le l key
  have X := (Blk.new w 26 #[.int .i64 room, .slice A l.length c, .slice B l.length d]).alloc (Obj.cells #[.int .i64 0, .slice none 0 0, .slice none 0 0] 26)
  have Y := Blk.newAt (w.alloc (Obj.cells #[.int .i64 room, .slice A l.length c, .slice B l.length d] 26)) (w.heap.size + 1) (by simp) 26 #[.int .i64 0, .slice none 0 0, .slice none 0 0]
  have L : Below w.heap.size w ((w.alloc (Obj.cells #[.int .i64 room, .slice A l.length c, .slice B l.length d] 26)).alloc (Obj.cells #[.int .i64 0, .slice none 0 0, .slice none 0 0] 26)) := by go_grown
  go_enter Try.func14, Try.ntmps14
  go_wp2_with fail
  generalize (w.alloc (Obj.cells #[.int .i64 room, .slice A l.length c, .slice B l.length d] 26)).alloc (Obj.cells #[.int .i64 0, .slice none 0 0, .slice none 0 0] 26) = w1 at *
  refine (drop_any room l _ key _ ⟨A, c, B, d, rfl, hA.below L (Nat.le_refl _), hB.below L (Nat.le_refl _), hc1, hc2, hd1, hd2⟩ hs hnd).mono ?_
  rintro e w2 ⟨V1, rfl, hCa, hb⟩
  obtain ⟨E, e1, F, f1, rfl, hRE, hRF, hec, hem, hfc, hfm⟩ := hCa.ex
  have X2 := X.below hb (Nat.le_refl _)
  have Y2 := Y.below hb (Nat.le_refl _)
  have L2 := L.trans (hb.mono L.size)
  clear hb X Y L hCa hA hB hs hnd
  obtain ⟨x0, x1, x2, x3, x4⟩ := X2.f3
  obtain ⟨y0, y1, y2, y3, y4⟩ := Y2.f3
  generalize hr : wo l key = r at *
  have HR := Lib.hid hr
  clear hr
  go_wp2_with fail
  have Z3 : Below w2.heap.size w2 (((w2.alloc (Obj.cells #[.int .i64 room, .slice E r.length e1, .slice F r.length f1] 26)).alloc (Obj.cells #[.int .i64 room, .slice none 0 0, .slice none 0 0] 26)).alloc (Obj.cells #[.int .i64 0] 3)) := by go_grown
  have R3 := ((Blk.new w2 26 #[.int .i64 room, .slice E r.length e1, .slice F r.length f1]).alloc (Obj.cells #[.int .i64 room, .slice none 0 0, .slice none 0 0] 26)).alloc (Obj.cells #[.int .i64 0] 3)
  have O3 := (Blk.newAt (w2.alloc (Obj.cells #[.int .i64 room, .slice E r.length e1, .slice F r.length f1] 26)) (w2.heap.size + 1) (by simp) 26 #[.int .i64 room, .slice none 0 0, .slice none 0 0]).alloc (Obj.cells #[.int .i64 0] 3)
  have S3 := Blk.newAt ((w2.alloc (Obj.cells #[.int .i64 room, .slice E r.length e1, .slice F r.length f1] 26)).alloc (Obj.cells #[.int .i64 room, .slice none 0 0, .slice none 0 0] 26)) (w2.heap.size + 1 + 1) (by simp) 3 #[.int .i64 0]
  have hz3 : (((w2.alloc (Obj.cells #[.int .i64 room, .slice E r.length e1, .slice F r.length f1] 26)).alloc (Obj.cells #[.int .i64 room, .slice none 0 0, .slice none 0 0] 26)).alloc (Obj.cells #[.int .i64 0] 3)).heap.size = w2.heap.size + 1 + 2 := by simp
  generalize ((w2.alloc (Obj.cells #[.int .i64 room, .slice E r.length e1, .slice F r.length f1] 26)).alloc (Obj.cells #[.int .i64 room, .slice none 0 0, .slice none 0 0] 26)).alloc (Obj.cells #[.int .i64 0] 3) = w3 at *
  have X3 := X2.below Z3 (Nat.le_refl _)
  have Y3 := Y2.below Z3 (Nat.le_refl _)
  clear X2 Y2 x0 x1 x2 x3 x4 y0 y1 y2 y3
  generalize hgo : w2.heap.size + 1 = go at *
  obtain ⟨es, hes⟩ : ∃ es, es = (key, val) :: r := ⟨_, rfl⟩
  have hel : es.length = r.length + 1 := by rw [hes]; rfl
  obtain ⟨Tgt, hT⟩ : ∃ T, T = fit room 0 es := ⟨_, rfl⟩
  have HTG := Lib.hid hT
  have hsm : Sm es := by rw [hes]; exact HS.out
  have HES := Lib.hid hes
  clear hes hT
  go_loopw [11, 12] (fun i ok wr => ∃ (m j : Nat) (okb : Bool) (p q : Value) (sz : Int), m ≤ es.length ∧ i = .int .i64 ((m : Int) - 1) ∧ ok = .bool okb ∧ j ≤ m ∧ j ≤ es.length ∧
      Two wr (go + 2) p j (strs (keys (es.take j))) q j (strs (vals (es.take j))) ∧ Blk wr go 26 #[.int .i64 room, p, q] ∧ Blk wr (go + 1) 3 #[.int .i64 sz] ∧
      (okb = true → j = m ∧ sz = tw (es.take m) ∧ fit room 0 es = es.take m ++ fit room (tw (es.take m)) (es.drop m)) ∧ (okb = false → fit room 0 es = es.take j) ∧ Below go w3 wr) (fun i ok _ => 200 - (intOf i + 1).toNat)
  case atStart =>
    exact ⟨0, 0, true, _, _, 0, by omega, rfl, rfl, by omega, by omega, Two.nil _ _, O3, S3, fun _ => ⟨rfl, by simp [tw], by simp [tw]⟩, by simp, Below.refl _ _⟩
  case round =>
    obtain ⟨m, j, okb, p, q, sz, hm, rfl, rfl, hjm, hje, T4, O4, S4, hok, hno, hB4⟩ := hrel
    have X4 := X3.low hB4 (by omega)
    have Y4 := Y3.low hB4 (by omega)
    have R4 := R3.low hB4 (by omega)
    have Z4 := Z3.trans (hB4.mono (by omega))
    have hRE4 := hRE.below Z4 (Nat.le_refl _)
    have hRF4 := hRF.below Z4 (Nat.le_refl _)
    have L4 := L2.trans (Z4.mono L2.size)
    have hz4 : go + 2 ≤ wr.heap.size := by have := hB4.size; omega
    obtain ⟨x0, x1, x2, x3, x4⟩ := X4.f3
    obtain ⟨r0, r1, r2, r3, r4⟩ := R4.f3
    by_cases hgoon : okb = true ∧ m ≤ r.length
    · obtain ⟨rfl, hmr⟩ := hgoon
      obtain ⟨rfl, rfl, hfit⟩ := hok rfl
      clear hok hno
      have hml : j < es.length := by omega
      have hr1 := tw_range es hsm j
      have hr2 := wt_range es[j] (hsm.2 _ (List.getElem_mem hml))
      have hr3 := hsm.2 _ (List.getElem_mem hml)
      have HTW := Lib.hid (tw_snoc es j hml)
      have HK := Lib.hid (keys_snoc es j hml)
      have HV := Lib.hid (vals_snoc es j hml)
      have HTK := Lib.hid (take_snoc es j hml)
      have HSTOP := Lib.hid (fit_stop room es j hml)
      have HGO := Lib.hid (fit_go room es j hml)
      have HFIT := Lib.hid hfit
      clear hfit
      generalize tw (es.take j) = sz at *
      cases j with
      | zero =>
        have he0 : es[0] = (key, val) := by have := HES.out; subst this; rfl
        rw [he0] at HTW HK HV HTK HSTOP HGO hr3
        obtain ⟨hks, hvs⟩ := hr3
        go_wp2_with fail
        refine (add_any key val w.heap.size go sz room room 0 p q _ _ _ _ _ S4 X4 O4 T4 (by omega) (by omega) (by omega) (by omega) hks hvs _ rfl hz4).mono ?_
        rintro e w5 ⟨S5, L5, hstop | hgo5⟩
        · obtain ⟨hst, rfl, O5, T5⟩ := hstop
          have hB5 := hB4.trans L5
          have hfin : fit room 0 es = es.take 0 := by rw [HFIT.out, HSTOP.out _ hst, List.append_nil]
          have HFIN := Lib.hid hfin
          have HT := Lib.hid T5
          have HSS := Lib.hid (And.intro O5 S5)
          clear hfin T5 O5 S5
          go_wp2
          refine ⟨⟨1, 0, false, p, q, _, by omega, by go_num, rfl, by omega, by omega, HT.out, HSS.out.1, HSS.out.2, by simp, fun _ => HFIN.out, hB5⟩, by simp only [intOf]; omega⟩
        · obtain ⟨hst, p', q', rfl, O5, T5⟩ := hgo5
          have hB5 := hB4.trans L5
          rw [← HK.out, ← HV.out] at T5
          have hgo6 := HGO.out sz (by omega)
          have hfin : fit room 0 es = es.take 1 ++ fit room (tw (es.take 1)) (es.drop 1) := by
            rw [HFIT.out, hgo6, HTW.out, HTK.out, List.append_assoc]; rfl
          have HFIN := Lib.hid hfin
          have HT := Lib.hid T5
          have HSS := Lib.hid (And.intro O5 S5)
          clear hfin T5 O5 S5 hgo6
          go_wp2
          refine ⟨⟨1, 1, true, p', q', _, by omega, by go_num, rfl, by omega, by omega, HT.out, HSS.out.1, HSS.out.2, fun _ => ⟨rfl, HTW.out.symm, HFIN.out⟩, by simp, hB5⟩, by simp only [intOf]; omega⟩
      | succ m =>
        have hmr' : m < r.length := by omega
        have he0 : es[m + 1] = r[m] := by have := HES.out; subst this; rfl
        rw [he0] at HTW HK HV HTK HSTOP HGO hr3
        have ha : (strs (keys r))[m]? = some (.string r[m].1) := by simp [strs, keys, hmr']
        have hb' : (strs (vals r))[m]? = some (.string r[m].2) := by simp [strs, vals, hmr']
        obtain ⟨a1, h1', _, _⟩ := hRE4.drew.one hmr' ha
        obtain ⟨b1, h2', _, _⟩ := hRF4.drew.one hmr' hb'
        subst h1' h2'
        have hc : ∀ W, Ext wr.drew W → W.cell? ⟨w2.heap.size, 1, none⟩ = some (.slice (some a1) r.length e1) ∧ W.cell? ⟨w2.heap.size, 2, none⟩ = some (.slice (some b1) r.length f1) ∧ W.cell? (a1.add m) = some (.string r[m].1) ∧ W.cell? (b1.add m) = some (.string r[m].2) := fun W hE => by
          obtain ⟨_, y1, y2, _, _⟩ := (R4.drew.ext hE).f3
          obtain ⟨_, e, _, g1⟩ := (hRE4.drew.ext hE).one hmr' ha
          injection e with e; subst e
          obtain ⟨_, e, _, g2⟩ := (hRF4.drew.ext hE).one hmr' hb'
          injection e with e; subst e
          exact ⟨y1, y2, g1, g2⟩
        have HC := Lib.hid hc; clear hc ha hb' he0
        generalize r[m] = pq at *
        obtain ⟨kk, vv⟩ := pq
        obtain ⟨hks, hvs⟩ := hr3
        simp only at hks hvs
        have hii : ¬ ((m + 1 : Nat) : Int) - 1 < 0 := by omega
        have hii2 : ((m + 1 : Nat) : Int) - 1 = m := by omega
        rw [hii2]
        go_wp2_with fail
        refine wp_region_list2 (by kernel_rfl) 11 Ext [] (by kernel_rfl) (fun _ _ d _ _ h => by cases d <;> exact h) rfl Ext.refl (fun _ _ _ => Ext.trans) trivial ?_
        simp only [List.take_succ_cons, List.take_zero, List.take_nil, List.drop_succ_cons, List.drop_zero, List.drop_nil]
        iterate 11
          refine ph_pure (a' := ?_) rfl rfl ?_ (fun w9 hE hG => pureAt_plain rfl ?_) ?_ ?_
          rotate_left 2
          · clear hG; obtain ⟨u1, u2, u3, u4⟩ := HC.out w9 hE; (go_simp; try go_bits); rfl
          · go_simp; rfl
        refine ph_end (fun w9 hE hG => ?_)
        replace X4 := X4.drew.ext hE
        replace O4 := O4.drew.ext hE
        replace S4 := S4.drew.ext hE
        replace T4 := T4.drew.below hE.below (Nat.le_refl _)
        replace hB4 := hB4.drew.trans (hE.below.mono (by have : wr.drew.heap.size = wr.heap.size := rfl; omega))
        replace hz4 : go + 2 ≤ w9.heap.size := Nat.le_trans hz4 hE.size
        clear hE hG HC Y4 R4 Z4 hRE4 hRF4 L4 x0 x1 x2 x3 x4 r0 r1 r2 r3 r4
        go_wp2_with fail
        refine (add_any kk vv w.heap.size go sz room room (m + 1) p q _ _ _ _ _ S4 X4 O4 T4 (by omega) (by omega) (by omega) (by omega) hks hvs _ rfl hz4).mono ?_
        rintro e w5 ⟨S5, L5, hstop | hgo5⟩
        · obtain ⟨hst, rfl, O5, T5⟩ := hstop
          have hB5 := hB4.trans L5
          have hfin : fit room 0 es = es.take (m + 1) := by rw [HFIT.out, HSTOP.out _ hst, List.append_nil]
          have HFIN := Lib.hid hfin
          have HT := Lib.hid T5
          have HSS := Lib.hid (And.intro O5 S5)
          clear hfin T5 O5 S5
          go_wp2
          refine ⟨⟨(m + 1 + 1), (m + 1), false, p, q, _, by omega, by go_num, rfl, by omega, by omega, HT.out, HSS.out.1, HSS.out.2, by simp, fun _ => HFIN.out, hB5⟩, by simp only [intOf]; omega⟩
        · obtain ⟨hst, p', q', rfl, O5, T5⟩ := hgo5
          have hB5 := hB4.trans L5
          rw [← HK.out, ← HV.out] at T5
          have hgo6 := HGO.out sz (by omega)
          have hfin : fit room 0 es = es.take (m + 1 + 1) ++ fit room (tw (es.take (m + 1 + 1))) (es.drop (m + 1 + 1)) := by
            rw [HFIT.out, hgo6, HTW.out, HTK.out, List.append_assoc]; rfl
          have HFIN := Lib.hid hfin
          have HT := Lib.hid T5
          have HSS := Lib.hid (And.intro O5 S5)
          clear hfin T5 O5 S5 hgo6
          go_wp2
          refine ⟨⟨(m + 1 + 1), (m + 1 + 1), true, p', q', _, by omega, by go_num, rfl, by omega, by omega, HT.out, HSS.out.1, HSS.out.2, fun _ => ⟨rfl, HTW.out.symm, HFIN.out⟩, by simp, hB5⟩, by simp only [intOf]; omega⟩
    · have hfin : fit room 0 es = es.take j := by
        cases okb with
        | false => exact hno rfl
        | true =>
          obtain ⟨rfl, _, hf⟩ := hok rfl
          have : ¬ j ≤ r.length := fun h => hgoon ⟨rfl, h⟩
          rw [hf, List.drop_eq_nil_of_le (by omega)]; simp [fit]
      have hlj : (es.take j).length = j := by rw [List.length_take]; omega
      have hcond : okb = true → ¬ (m : Int) - 1 < r.length := fun h => by
        have : ¬ m ≤ r.length := fun h2 => hgoon ⟨h, h2⟩
        omega
      have hCa := (T4.put3 Y4 (.int .i64 room) p q).ca hlj room
      rw [← hfin, HES.out, ← HR.out] at hCa
      have HF := Lib.hid hCa
      clear hCa hfin hok hno hgoon
      obtain ⟨P, cp, rfl, _, _, _⟩ := own_form T4.a
      obtain ⟨Q, cq, rfl, _, _, _⟩ := own_form T4.b
      obtain ⟨o0, o1, o2, o3, o4⟩ := O4.f3
      obtain ⟨y0, y1, y2, y3, y5⟩ := Y4.f3
      have hfinal := And.intro Y4 (And.intro HF L4)
      cases okb with
      | false =>
        go_wp2
        exact bodyPost_ret (res_cell26 rfl _ (w.heap.size + 1) rfl _ (Y4.put3 _ _ _)) rfl ⟨_, rfl, HF.out, below_put3 L4 (by omega) _ _ _⟩
      | true =>
        have hcond' := hcond rfl
        go_wp2
        exact bodyPost_ret (res_cell26 rfl _ (w.heap.size + 1) rfl _ (Y4.put3 _ _ _)) rfl ⟨_, rfl, HF.out, below_put3 L4 (by omega) _ _ _⟩
end Go.Proofs.Ytecdmgcgplohoaa
