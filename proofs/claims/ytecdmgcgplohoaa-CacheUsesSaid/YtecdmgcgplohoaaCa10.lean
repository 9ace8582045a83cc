import Derived.Test.YtecdmgcgplohoaaCa9
namespace Go.Proofs.Ytecdmgcgplohoaa
open Go.ChangeShapes Go.WideShapes Go.ChangeAt Go.RowKit
set_option linter.unusedVariables false
set_option linter.unusedSimpArgs false
attribute [local go_sem] ba_beq ba_bne

theorem wo_at (l : List En) (key : BA) (hnd : (keys l).Nodup) (i : Nat) (h : i < l.length) (hk : l[i].1 = key) : wo l key = l.take i ++ l.drop (i + 1) := by
  induction l generalizing i with
  | nil => simp at h
  | cons a l ih =>
    simp only [keys, List.map_cons, List.nodup_cons] at hnd
    cases i with
    | zero =>
      simp only [List.getElem_cons_zero] at hk
      simp only [List.take_zero, List.nil_append, Nat.zero_add, List.drop_succ_cons, List.drop_zero]
      unfold wo
      rw [List.filter_cons_of_neg (by simp [hk])]
      rw [List.filter_eq_self]
      intro e he
      simp only [decide_eq_true_eq]
      intro hh
      exact hnd.1 (List.mem_map.2 ⟨e, he, by rw [hh, hk]⟩)
    | succ i =>
      have hi : i < l.length := by simpa using h
      simp only [List.getElem_cons_succ] at hk
      have hne : a.1 ≠ key := fun hh => hnd.1 (List.mem_map.2 ⟨l[i], List.getElem_mem hi, by rw [hk, hh]⟩)
      have := ih hnd.2 i hi hk
      unfold wo at this ⊢
      rw [List.filter_cons_of_pos (by simp [hne]), this]
      simp
theorem wo_none (l : List En) (key : BA) (h : ∀ j (h : j < l.length), l[j].1 ≠ key) : wo l key = l := by
  unfold wo
  rw [List.filter_eq_self]
  intro e he
  obtain ⟨j, hj, rfl⟩ := List.mem_iff_getElem.1 he
  simpa using h j hj
/-- a key stands somewhere first, or nowhere -/
theorem ix_cases (l : List En) (key : BA) : (∃ i, ∃ h : i < l.length, l[i].1 = key ∧ ix (keys l) key = i) ∨ ((∀ j (h : j < l.length), l[j].1 ≠ key) ∧ ix (keys l) key = -1) := by
  by_cases hh : ∃ i, ∃ h : i < l.length, l[i].1 = key
  · refine .inl ?_
    have hp : ∃ i, (∃ h : i < (keys l).length, (keys l)[i] = key) := by
      obtain ⟨i, h, e⟩ := hh
      exact ⟨i, by simpa [keys] using h, by simpa [keys] using e⟩
    have hlt : (keys l).findIdx (fun k => decide (k = key)) < (keys l).length := by
      obtain ⟨i, h, e⟩ := hp
      exact List.findIdx_lt_length_of_exists ⟨_, List.getElem_mem h, by simp [e]⟩
    have hg := List.findIdx_getElem (w := hlt)
    simp only [decide_eq_true_eq] at hg
    have hll : (keys l).length = l.length := by simp [keys]
    refine ⟨(keys l).findIdx fun k => decide (k = key), by rw [← hll]; exact hlt, ?_, ?_⟩
    · have hm : ∀ (j : Nat) (h : j < (keys l).length), (keys l)[j] = (l[j]'(by rw [← hll]; exact h)).1 := fun j h => by simp [keys]
      exact (hm _ hlt).symm.trans hg
    · unfold ix
      rw [if_pos hlt]
  · refine .inr ⟨fun j h e => hh ⟨j, h, e⟩, ix_none _ _ fun j h e => hh ⟨j, by simpa [keys] using h, by simpa [keys] using e⟩⟩
theorem strs_take (l : List BA) (i : Nat) : (strs l).take i = strs (l.take i) := by simp [strs]
theorem strs_drop (l : List BA) (i : Nat) : (strs l).drop i = strs (l.drop i) := by simp [strs]
theorem Rd.cut1 {w : World} {e : TypeId} {A : Option Addr} {n c i : Nat} {xs : List Value} (h : Rd w e 1 A n xs) (hi : i + 1 ≤ n) (hc : n ≤ c) :
    Rd w e 1 (if c = i + 1 then A else Option.map (fun x => (⟨x.block, x.off + (i + 1), none⟩ : Addr)) A) (n - (i + 1)) (xs.drop (i + 1)) := by
  have h1 := h.cut hi hc
  have e1 : (fun x : Addr => x.add ((i + 1) * 1)) = fun x => (⟨x.block, x.off + (i + 1), none⟩ : Addr) := by funext x; simp [Addr.add]
  rw [e1, Nat.mul_one] at h1
  exact h1
set_option maxHeartbeats 2000000 in
set_option maxRecDepth 100000 in
theorem drop_any (room : Int) (l : List En) (V : Value) (key : BA) (w : World) (hV : Ca w room l V) (hs : Sm l) (hnd : (keys l).Nodup) :
    Calls Try.prog 16 #[V, .string key] w fun e w' => ∃ V', e = .returned V' ∧ Ca w' room (wo l key) V' ∧ Below w.heap.size w w' := by
  obtain ⟨A, c, B, d, rfl, hA, hB, hc1, hc2, hd1, hd2⟩ := hV.ex
  clear hV
  have hn := hs.1
  unfold maxLen at hc2 hd2
  obtain ⟨i0, hi0, hz0, hz1, hz2⟩ := info_parts str_info
  generalize hN : l.length = n at *
  have HN := Lib.hid hN
  clear hN
  have X := (Blk.new w 26 #[.int .i64 room, .slice A n c, .slice B n d]).alloc (Obj.cells #[.int .i64 0, .slice none 0 0, .slice none 0 0] 26)
  have Y := Blk.newAt (w.alloc (Obj.cells #[.int .i64 room, .slice A n c, .slice B n d] 26)) (w.heap.size + 1) (by simp) 26 #[.int .i64 0, .slice none 0 0, .slice none 0 0]
  have L : Below w.heap.size w ((w.alloc (Obj.cells #[.int .i64 room, .slice A n c, .slice B n d] 26)).alloc (Obj.cells #[.int .i64 0, .slice none 0 0, .slice none 0 0] 26)) := by go_grown
  have hnoneA : A = none → n = 0 := fun h => by
    rcases Nat.eq_zero_or_pos n with h0 | h0
    · exact h0
    · obtain ⟨ad, e, _⟩ := hA.cells h0; rw [h] at e; cases e
  have hnoneB : B = none → n = 0 := fun h => by
    rcases Nat.eq_zero_or_pos n with h0 | h0
    · exact h0
    · obtain ⟨ad, e, _⟩ := hB.cells h0; rw [h] at e; cases e
  have HNA := Lib.hid hnoneA
  have HNB := Lib.hid hnoneB
  clear hnoneA hnoneB
  go_enter Try.func16, Try.ntmps16
  go_wp2_with fail
  generalize (w.alloc (Obj.cells #[.int .i64 room, .slice A n c, .slice B n d] 26)).alloc (Obj.cells #[.int .i64 0, .slice none 0 0, .slice none 0 0] 26) = w1 at *
  refine (find_any room A n c (.slice B n d) (keys l) key _ (hA.below L (Nat.le_refl _)) (by omega)).mono ?_
  rintro e w2 ⟨rfl, hb⟩
  have X2 := X.below hb (Nat.le_refl _)
  have Y2 := Y.below hb (Nat.le_refl _)
  have L2 := L.trans (hb.mono L.size)
  have hA2 := hA.below L2 (Nat.le_refl _)
  have hB2 := hB.below L2 (Nat.le_refl _)
  clear hb X Y L
  obtain ⟨x0, x1, x2, x3, x4⟩ := X2.f3
  obtain ⟨y0, y1, y2, y3, y4⟩ := Y2.f3
  rcases ix_cases l key with ⟨i, hil, hik, hix⟩ | ⟨hall, hix⟩
  · rw [hix]
    have hi : i < n := by rw [← HN.out]; exact hil
    have hw := wo_at l key hnd i hil hik
    have hlen : (wo l key).length = i + (n - (i + 1)) := by rw [hw, List.length_append, List.length_take, List.length_drop]; have := HN.out; omega
    have hke : strs (keys (wo l key)) = (strs (keys l)).take (i * 1) ++ (strs (keys l)).drop (i + 1) := by rw [hw]; simp [strs, keys]
    have hve : strs (vals (wo l key)) = (strs (vals l)).take (i * 1) ++ (strs (vals l)).drop (i + 1) := by rw [hw]; simp [strs, vals]
    have HL := Lib.hid hlen; have HKE := Lib.hid hke; have HVE := Lib.hid hve
    have HK1 := Lib.hid (fun W (hE : Ext w2.drew W) => ((hA2.drew.ext hE).take (Nat.le_of_lt hi)))
    have HK2 := Lib.hid (fun W (hE : Ext w2.drew W) => ((hA2.drew.ext hE).cut1 (i := i) (by omega) hc1))
    have HV1 := Lib.hid (fun W (hE : Ext w2.drew W) => ((hB2.drew.ext hE).take (Nat.le_of_lt hi)))
    have HV2 := Lib.hid (fun W (hE : Ext w2.drew W) => ((hB2.drew.ext hE).cut1 (i := i) (by omega) hd1))
    clear hw hlen hke hve hix hik hA2 hB2 hnd
    have hc : ∀ W, Ext w2.drew W → W.cell? ⟨w.heap.size, 0, none⟩ = some (.int .i64 room) ∧ W.cell? ⟨w.heap.size, 1, none⟩ = some (.slice A n c) ∧ W.cell? ⟨w.heap.size, 2, none⟩ = some (.slice B n d) := fun W hE => by
      obtain ⟨x0, x1, x2, _, _⟩ := (X2.drew.ext hE).f3
      exact ⟨x0, x1, x2⟩
    have HC := Lib.hid hc; clear hc
    have hii : ¬ (i : Int) < 0 := by omega
    go_wp2_with fail
    refine wp_region_list2 (by kernel_rfl) 25 Ext [(12, Sl 9 1 (i + (n - (i + 1))) (strs (keys (wo l key)))), (23, Sl 9 1 (i + (n - (i + 1))) (strs (vals (wo l key))))] (by kernel_rfl) (fun _ _ d _ _ h => by cases d <;> exact h) rfl Ext.refl (fun _ _ _ => Ext.trans) ⟨fun _ _ _ => Sl.ext, fun _ _ _ => Sl.ext, trivial⟩ ?_
    simp only [List.take_succ_cons, List.take_zero, List.take_nil, List.drop_succ_cons, List.drop_zero, List.drop_nil]
    iterate 12
      refine ph_pure (a' := ?_) rfl rfl ?_ (fun w9 hE hG => pureAt_plain rfl ?_) ?_ ?_
      rotate_left 2
      · clear hG; obtain ⟨x0, x1, x2⟩ := HC.out w9 hE; (go_simp; try go_bits); (first | rfl | (rw [if_pos (by omega)]; done) | (rw [if_pos (by omega)]; rfl))
      · go_simp; rfl
    refine ph_op rfl rfl (fun w9 hE hG => opAt_plain rfl ?_) (fun v hv => ?_)
    · skip; have hr1 := HK1.out w9 hE; have hr2 := HK2.out w9 hE
      try clear hG
      obtain ⟨A', c', w', hrun, hE', hrd, hq1, hq2⟩ := run_app_full (P := Try.prog) w9 24 24 9 i0 _ 1 16 Try.underlying24 hi0 hz0 hz1 hz2 (by decide) (by decide) hr1 (fun h => by have := HNA.out h; omega) hr2 (by simp only [maxLen]; omega) (by omega) (d := _)
      exact opVal_append rfl _ _ 24 rfl _ _ rfl rfl hrun ⟨hE', _, _, rfl, by rw [HKE.out]; exact hrd, hq1, hq2⟩
    obtain ⟨_, _, A3, c3', rfl, _, _, _⟩ := hv
    go_simp
    iterate 10
      refine ph_pure (a' := ?_) rfl rfl ?_ (fun w9 hE hG => pureAt_plain rfl ?_) ?_ ?_
      rotate_left 2
      · clear hG; obtain ⟨x0, x1, x2⟩ := HC.out w9 hE; (go_simp; try go_bits); (first | rfl | (rw [if_pos (by omega)]; done) | (rw [if_pos (by omega)]; rfl))
      · go_simp; rfl
    refine ph_op rfl rfl (fun w9 hE hG => opAt_plain rfl ?_) (fun v hv => ?_)
    · skip; have hr1 := HV1.out w9 hE; have hr2 := HV2.out w9 hE
      try clear hG
      obtain ⟨A', c', w', hrun, hE', hrd, hq1, hq2⟩ := run_app_full (P := Try.prog) w9 24 24 9 i0 _ 1 16 Try.underlying24 hi0 hz0 hz1 hz2 (by decide) (by decide) hr1 (fun h => by have := HNB.out h; omega) hr2 (by simp only [maxLen]; omega) (by omega) (d := _)
      exact opVal_append rfl _ _ 24 rfl _ _ rfl rfl hrun ⟨hE', _, _, rfl, by rw [HVE.out]; exact hrd, hq1, hq2⟩
    obtain ⟨_, _, A4, c4', rfl, _, _, _⟩ := hv
    go_simp
    iterate 1
      refine ph_pure (a' := ?_) rfl rfl ?_ (fun w9 hE hG => pureAt_plain rfl ?_) ?_ ?_
      rotate_left 2
      · clear hG; obtain ⟨x0, x1, x2⟩ := HC.out w9 hE; (go_simp; try go_bits); (first | rfl | (rw [if_pos (by omega)]; done) | (rw [if_pos (by omega)]; rfl))
      · go_simp; rfl
    refine ph_end (fun w9 hE hG => ?_)
    simp only [List.forall_mem_cons] at hG
    have S1 := hG.2.1.at_
    have S2 := hG.1.at_
    have Y7 := Y2.drew.ext hE
    have L7 := L2.drew.trans (hE.below.mono L2.size)
    obtain ⟨y0, y1, y2, y3, y4⟩ := Y7.f3
    clear hE hG HC X2 Y2 L2 x0 x1 x2 x3 x4
    have hCa : Ca w9 room (wo l key) (.agg #[.int .i64 room, .slice A3 (i + (n - (i + 1))) c3', .slice A4 (i + (n - (i + 1))) c4']) := by
      refine ⟨⟨A3, c3', A4, c4', by rw [HL.out], ?_, ?_, ?_, S1.2.2.2, ?_, S2.2.2.2⟩⟩ <;> rw [HL.out]
      · exact S1.2.1
      · exact S2.2.1
      · exact S1.2.2.1
      · exact S2.2.2.1
    go_wp2
    all_goals exact bodyPost_ret (res_cell26 rfl _ (w.heap.size + 1) rfl _ (Y7.put3 _ _ _)) rfl ⟨_, rfl, hCa.put3 Y7 _ _ _, below_put3 L7 (by omega) _ _ _⟩
  · rw [hix]
    have HW := Lib.hid (wo_none l key hall)
    clear hall hix
    go_wp2
    rw [HW.out]
    have hCa : Ca w2 room l (.agg #[.int .i64 room, .slice A n c, .slice B n d]) := by
      have := HN.out
      subst this
      exact ⟨⟨A, c, B, d, rfl, hA2, hB2, hc1, by simpa [maxLen] using hc2, hd1, by simpa [maxLen] using hd2⟩⟩
    exact bodyPost_ret (res_cell26 rfl _ (w.heap.size + 1) rfl _ (Y2.put3 _ _ _)) rfl ⟨_, rfl, hCa.put3 Y2 _ _ _, below_put3 L2 (by omega) _ _ _⟩
end Go.Proofs.Ytecdmgcgplohoaa
