import Derived.Test.YtmmihcophkipoaaDoorD4
import Derived.Laws.Cover1
namespace Go.Proofs.YtmmihcophkipoaaDoor
open Go.ChangeShapes Go.WideShapes Go.ChangeAt Go.RowKit
set_option linter.unusedVariables false
set_option linter.unusedSimpArgs false
attribute [local go_sem] bs_beq bs_bne bs_less bs_size
/-- at round k: what holds of the words ahead -/
def DOk (l : List W) (k : Nat) : Prop := (l.take k).all word = true ∧ Up (l.take k)
theorem DOk.zero (l : List W) : DOk l 0 := ⟨by simp, by simp [Up]⟩
theorem DOk.fin {l : List W} (h : DOk l l.length) : dict l = (decide (1 ≤ l.length) && decide (l.length ≤ 200)) := by
  obtain ⟨h1, h2⟩ := h
  rw [List.take_of_length_le (Nat.le_refl _)] at h1 h2
  unfold dict
  rw [h1, (upB_iff l).2 h2]; simp
theorem dict_word {l : List W} {k : Nat} (h : k < l.length) (hw : word l[k] = false) : dict l = false := by
  unfold dict
  have : l.all word = false := by rw [List.all_eq_false]; exact ⟨_, List.getElem_mem h, by rw [hw]; simp⟩
  rw [this]; simp
theorem dict_up {l : List W} {k : Nat} (h : k < l.length) (h0 : 0 < k) (hb : bl (l[k - 1]'(by omega)) l[k] = false) : dict l = false := by
  have : upB l = false := by
    cases hu : upB l with
    | false => rfl
    | true =>
      have := List.pairwise_iff_getElem.1 ((upB_iff l).1 hu) (k - 1) k (by omega) h (by omega)
      rw [hb] at this; cases this
  unfold dict
  rw [this]; simp
theorem DOk.next {l : List W} {k : Nat} (h : DOk l k) (hk : k < l.length) (hw : word l[k] = true) (hb : ∀ h0 : 0 < k, bl (l[k - 1]'(by omega)) l[k] = true) : DOk l (k + 1) := by
  refine ⟨by rw [take_snoc l k hk, List.all_append, h.1]; simp [hw], ?_⟩
  rw [take_snoc l k hk]
  refine List.pairwise_append.2 ⟨h.2, List.pairwise_singleton _ _, fun a ha b hb' => ?_⟩
  rw [List.mem_singleton.1 hb']
  obtain ⟨j, hj, rfl⟩ := List.getElem_of_mem ha
  rw [List.length_take] at hj
  rw [List.getElem_take]
  have hlast := hb (by omega)
  by_cases e : j = k - 1
  · subst e; exact hlast
  · have := List.pairwise_iff_getElem.1 h.2 j (k - 1) (by rw [List.length_take]; omega) (by rw [List.length_take]; omega) (by omega)
    rw [List.getElem_take, List.getElem_take] at this
    exact bl_trans this hlast
theorem word_short {s : W} (h : word s = true) : s.length ≤ 20 := by
  unfold word at h
  simp at h
  omega
set_option maxHeartbeats 2000000 in
set_option maxRecDepth 100000 in
theorem rdict_any (A : Option Addr) (c : Nat) (l : List W) (w : World) (hr : Rd w 0 1 A l.length (sv l)) (hn : l.length ≤ 1000000) (hs : ∀ x ∈ l, x.length ≤ maxLen) :
    Calls Tryd.prog 33 #[.slice A l.length c] w fun e w' => e = .returned (.bool (dict l)) ∧ Ext w w' := by
  obtain ⟨r, hr0⟩ : ∃ r, dict l = r := ⟨_, rfl⟩
  rw [hr0]
  have HR := Lib.hid hr0; clear hr0
  go_enter Tryd.func33, Tryd.ntmps33
  go_wp2_with fail
  go_loopw [3] (fun i wr => ∃ k : Nat, k ≤ l.length ∧ i = .int .i64 k ∧ DOk l k ∧ Ext w wr) (fun i _ => 1000001 - (intOf i).toNat)
  case atStart => exact ⟨0, by omega, rfl, DOk.zero l, Ext.refl _⟩
  case round =>
    obtain ⟨k, hk, rfl, hok, hX⟩ := hrel
    by_cases hlt : k < l.length
    · have hlt' : (k : Int) < l.length := by omega
      obtain ⟨ad, e1, hab, hc⟩ := (hr.ext hX).one hlt (sv_at l k hlt)
      subst e1
      have hx20 := hs _ (List.getElem_mem hlt)
      by_cases hw : word l[k] = true
      · by_cases h0 : 0 < k
        · obtain ⟨_, e1, hab1, hc1⟩ := (hr.ext hX).one (i := k - 1) (by omega) (sv_at l (k - 1) (by omega))
          injection e1 with e1; subst e1
          have h0' : (0 : Int) < k := by omega
          have h1' : (1 : Int) ≤ k := by omega
          have h2' : ((k : Int) - 1).toNat = k - 1 := by omega
          have h3' : (k : Int) - 1 < l.length := by omega
          have h4' : (0 : Int) ≤ (k : Int) - 1 := by omega
          have h5' : k - 1 < l.length := by omega
          by_cases hb : bl (l[k - 1]'(by omega)) l[k] = true
          · have HN := Lib.hid (hok.next hlt hw (fun _ => hb))
            have HB := Lib.hid hb
            have HWV := Lib.hid hw
            have hb1 := bl_asymm hb
            have hb2 : ¬ (l[k] = l[k - 1]'(by omega)) := fun e => by rw [e, bl_irrefl] at hb; cases hb
            clear hok hw hb
            generalize l[k - 1]'(by omega) = y at *
            generalize l[k] = x at *
            go_wp2_with fail
            have hc0 : ∀ W : World, Ext wr.drew W → W.cell? (ad.add (k)) = some (.string (bs x)) ∧ W.cell? (ad.add (k - 1)) = some (.string (bs y)) ∧ True := fun W hE => by
              exact ⟨(World.cell?_of_block (hE.block _ hab)).trans hc, (World.cell?_of_block (hE.block _ hab1)).trans hc1, trivial⟩
            have HC := Lib.hid hc0; clear hc0
            refine wp_region_list2 (by kernel_rfl) 22 Ext [(4, Is (.bool true))] (by kernel_rfl) (fun _ _ d _ _ h => by cases d <;> exact h) rfl Ext.refl (fun _ _ _ => Ext.trans) ⟨fun _ _ _ => Is.ext, trivial⟩ ?_
            simp only [List.take_succ_cons, List.take_zero, List.take_nil, List.drop_succ_cons, List.drop_zero, List.drop_nil]
            iterate 4
              refine ph_pure (a' := ?_) rfl rfl ?_ (fun w9 hE hG => pureAt_plain rfl ?_) ?_ ?_
              rotate_left 2
              · clear hG; obtain ⟨c0, c1, _⟩ := HC.out w9 hE; (go_simp; try go_bits); rfl
              · go_simp; rfl
            refine ph_op rfl rfl (fun w9 hE hG => opAt_plain rfl ?_) (fun v hv => ?_)
            · clear hG
              try clear hG
              obtain ⟨c0, c1, _⟩ := HC.out w9 hE; (go_simp; try go_bits)
              refine (rword_any x hx20 _).mono ?_
              rintro e w' ⟨rfl, rfl⟩
              exact ⟨_, rfl, Ext.refl _, by rw [HWV.out]; rfl⟩
            obtain ⟨_, _, rfl⟩ := hv
            go_simp
            iterate 2
              refine ph_pure (a' := ?_) rfl rfl ?_ (fun w9 hE hG => pureAt_plain rfl ?_) ?_ ?_
              rotate_left 2
              · clear hG; obtain ⟨c0, c1, _⟩ := HC.out w9 hE; (go_simp; try go_bits); rfl
              · go_simp; rfl
            iterate 14
              refine ph_pure (a' := ?_) rfl rfl ?_ (fun w9 hE hG => pureAt_on (by rfl) ?_) ?_ ?_
              rotate_left 2
              · clear hG; obtain ⟨c0, c1, _⟩ := HC.out w9 hE; (go_simp; try go_bits); rfl
              · go_simp; rfl
            iterate 1
              refine ph_pure (a' := ?_) rfl rfl ?_ (fun w9 hE hG => pureAt_plain rfl ?_) ?_ ?_
              rotate_left 2
              · clear hG; obtain ⟨c0, c1, _⟩ := HC.out w9 hE; (go_simp; try go_bits); rfl
              · go_simp; rfl
            refine ph_end (fun w9 hE hG => ?_)
            have hXr : Ext wr w9 := Ext.drew.trans hE
            clear hE hG HC
            go_wp2
            refine ⟨⟨k + 1, by omega, by go_num, HN.out, hX.trans hXr⟩, by simp only [intOf]; omega⟩
          · have hb' : bl (l[k - 1]'(by omega)) l[k] = false := by simpa using hb
            have hrf : r = false := HR.out.symm.trans (dict_up hlt h0 hb')
            subst hrf
            have HWV := Lib.hid hw
            have hor : bl l[k] (l[k - 1]'(by omega)) = true ∨ (bl l[k] (l[k - 1]'(by omega)) = false ∧ l[k] = l[k - 1]'(by omega)) := by
              rcases bl_tri (l[k - 1]'(by omega)) l[k] with h | h | h
              · rw [hb'] at h; cases h
              · exact .inr ⟨by rw [← h, bl_irrefl], h.symm⟩
              · exact .inl h
            clear hok hw hb hb'
            generalize l[k - 1]'(by omega) = y at *
            generalize l[k] = x at *
            rcases hor with hb1 | ⟨hb1, hb2⟩
            · skip
              go_wp2_with fail
              have hc0 : ∀ W : World, Ext wr.drew W → W.cell? (ad.add (k)) = some (.string (bs x)) ∧ W.cell? (ad.add (k - 1)) = some (.string (bs y)) ∧ True := fun W hE => by
                exact ⟨(World.cell?_of_block (hE.block _ hab)).trans hc, (World.cell?_of_block (hE.block _ hab1)).trans hc1, trivial⟩
              have HC := Lib.hid hc0; clear hc0
              refine wp_region_list2 (by kernel_rfl) 22 Ext [(4, Is (.bool true))] (by kernel_rfl) (fun _ _ d _ _ h => by cases d <;> exact h) rfl Ext.refl (fun _ _ _ => Ext.trans) ⟨fun _ _ _ => Is.ext, trivial⟩ ?_
              simp only [List.take_succ_cons, List.take_zero, List.take_nil, List.drop_succ_cons, List.drop_zero, List.drop_nil]
              iterate 4
                refine ph_pure (a' := ?_) rfl rfl ?_ (fun w9 hE hG => pureAt_plain rfl ?_) ?_ ?_
                rotate_left 2
                · clear hG; obtain ⟨c0, c1, _⟩ := HC.out w9 hE; (go_simp; try go_bits); rfl
                · go_simp; rfl
              refine ph_op rfl rfl (fun w9 hE hG => opAt_plain rfl ?_) (fun v hv => ?_)
              · clear hG
                try clear hG
                obtain ⟨c0, c1, _⟩ := HC.out w9 hE; (go_simp; try go_bits)
                refine (rword_any x hx20 _).mono ?_
                rintro e w' ⟨rfl, rfl⟩
                exact ⟨_, rfl, Ext.refl _, by rw [HWV.out]; rfl⟩
              obtain ⟨_, _, rfl⟩ := hv
              go_simp
              iterate 2
                refine ph_pure (a' := ?_) rfl rfl ?_ (fun w9 hE hG => pureAt_plain rfl ?_) ?_ ?_
                rotate_left 2
                · clear hG; obtain ⟨c0, c1, _⟩ := HC.out w9 hE; (go_simp; try go_bits); rfl
                · go_simp; rfl
              iterate 14
                refine ph_pure (a' := ?_) rfl rfl ?_ (fun w9 hE hG => pureAt_on (by rfl) ?_) ?_ ?_
                rotate_left 2
                · clear hG; obtain ⟨c0, c1, _⟩ := HC.out w9 hE; (go_simp; try go_bits); rfl
                · go_simp; rfl
              iterate 1
                refine ph_pure (a' := ?_) rfl rfl ?_ (fun w9 hE hG => pureAt_plain rfl ?_) ?_ ?_
                rotate_left 2
                · clear hG; obtain ⟨c0, c1, _⟩ := HC.out w9 hE; (go_simp; try go_bits); rfl
                · go_simp; rfl
              refine ph_end (fun w9 hE hG => ?_)
              have hXr : Ext wr w9 := Ext.drew.trans hE
              clear hE hG HC
              go_wp2
              go_ret
              exact ⟨rfl, hX.trans hXr⟩
            · subst hb2
              go_wp2_with fail
              have hc0 : ∀ W : World, Ext wr.drew W → W.cell? (ad.add (k)) = some (.string (bs x)) ∧ W.cell? (ad.add (k - 1)) = some (.string (bs x)) ∧ True := fun W hE => by
                exact ⟨(World.cell?_of_block (hE.block _ hab)).trans hc, (World.cell?_of_block (hE.block _ hab1)).trans hc1, trivial⟩
              have HC := Lib.hid hc0; clear hc0
              refine wp_region_list2 (by kernel_rfl) 22 Ext [(4, Is (.bool true))] (by kernel_rfl) (fun _ _ d _ _ h => by cases d <;> exact h) rfl Ext.refl (fun _ _ _ => Ext.trans) ⟨fun _ _ _ => Is.ext, trivial⟩ ?_
              simp only [List.take_succ_cons, List.take_zero, List.take_nil, List.drop_succ_cons, List.drop_zero, List.drop_nil]
              iterate 4
                refine ph_pure (a' := ?_) rfl rfl ?_ (fun w9 hE hG => pureAt_plain rfl ?_) ?_ ?_
                rotate_left 2
                · clear hG; obtain ⟨c0, c1, _⟩ := HC.out w9 hE; (go_simp; try go_bits); rfl
                · go_simp; rfl
              refine ph_op rfl rfl (fun w9 hE hG => opAt_plain rfl ?_) (fun v hv => ?_)
              · clear hG
                try clear hG
                obtain ⟨c0, c1, _⟩ := HC.out w9 hE; (go_simp; try go_bits)
                refine (rword_any x hx20 _).mono ?_
                rintro e w' ⟨rfl, rfl⟩
                exact ⟨_, rfl, Ext.refl _, by rw [HWV.out]; rfl⟩
              obtain ⟨_, _, rfl⟩ := hv
              go_simp
              iterate 2
                refine ph_pure (a' := ?_) rfl rfl ?_ (fun w9 hE hG => pureAt_plain rfl ?_) ?_ ?_
                rotate_left 2
                · clear hG; obtain ⟨c0, c1, _⟩ := HC.out w9 hE; (go_simp; try go_bits); rfl
                · go_simp; rfl
              iterate 14
                refine ph_pure (a' := ?_) rfl rfl ?_ (fun w9 hE hG => pureAt_on (by rfl) ?_) ?_ ?_
                rotate_left 2
                · clear hG; obtain ⟨c0, c1, _⟩ := HC.out w9 hE; (go_simp; try go_bits); rfl
                · go_simp; rfl
              iterate 1
                refine ph_pure (a' := ?_) rfl rfl ?_ (fun w9 hE hG => pureAt_plain rfl ?_) ?_ ?_
                rotate_left 2
                · clear hG; obtain ⟨c0, c1, _⟩ := HC.out w9 hE; (go_simp; try go_bits); rfl
                · go_simp; rfl
              refine ph_end (fun w9 hE hG => ?_)
              have hXr : Ext wr w9 := Ext.drew.trans hE
              clear hE hG HC
              go_wp2
              go_ret
              exact ⟨rfl, hX.trans hXr⟩
        · have h0' : ¬ (0 : Int) < k := by omega
          have h0'' : ¬ (0 < k) := h0
          have HN := Lib.hid (hok.next hlt hw (fun h => absurd h h0))
          have HWV := Lib.hid hw
          clear hok hw h0
          generalize l[k] = x at *
          go_wp2_with fail
          have hc0 : ∀ W : World, Ext wr.drew W → W.cell? (ad.add (k)) = some (.string (bs x)) ∧ True := fun W hE => by
            exact ⟨(World.cell?_of_block (hE.block _ hab)).trans hc, trivial⟩
          have HC := Lib.hid hc0; clear hc0
          refine wp_region_list2 (by kernel_rfl) 22 Ext [(4, Is (.bool true))] (by kernel_rfl) (fun _ _ d _ _ h => by cases d <;> exact h) rfl Ext.refl (fun _ _ _ => Ext.trans) ⟨fun _ _ _ => Is.ext, trivial⟩ ?_
          simp only [List.take_succ_cons, List.take_zero, List.take_nil, List.drop_succ_cons, List.drop_zero, List.drop_nil]
          iterate 4
            refine ph_pure (a' := ?_) rfl rfl ?_ (fun w9 hE hG => pureAt_plain rfl ?_) ?_ ?_
            rotate_left 2
            · clear hG; obtain ⟨c0, _⟩ := HC.out w9 hE; (go_simp; try go_bits); rfl
            · go_simp; rfl
          refine ph_op rfl rfl (fun w9 hE hG => opAt_plain rfl ?_) (fun v hv => ?_)
          · clear hG
            try clear hG
            obtain ⟨c0, _⟩ := HC.out w9 hE; (go_simp; try go_bits)
            refine (rword_any x hx20 _).mono ?_
            rintro e w' ⟨rfl, rfl⟩
            exact ⟨_, rfl, Ext.refl _, by rw [HWV.out]; rfl⟩
          obtain ⟨_, _, rfl⟩ := hv
          go_simp
          iterate 2
            refine ph_pure (a' := ?_) rfl rfl ?_ (fun w9 hE hG => pureAt_plain rfl ?_) ?_ ?_
            rotate_left 2
            · clear hG; obtain ⟨c0, _⟩ := HC.out w9 hE; (go_simp; try go_bits); rfl
            · go_simp; rfl
          iterate 3
            refine ph_pure (a' := ?_) rfl rfl ?_ (fun w9 hE hG => pureAt_on (by rfl) ?_) ?_ ?_
            rotate_left 2
            · clear hG; obtain ⟨c0, _⟩ := HC.out w9 hE; (go_simp; try go_bits); rfl
            · go_simp; rfl
          refine ph_pure (a' := ?_) rfl rfl undef (fun w9 hE hG => pureAt_off (by rfl)) ?_ ?_
          rotate_left 1
          · go_simp; rfl
          refine ph_pure (a' := ?_) rfl rfl undef (fun w9 hE hG => pureAt_off (by rfl)) ?_ ?_
          rotate_left 1
          · go_simp; rfl
          refine ph_pure (a' := ?_) rfl rfl undef (fun w9 hE hG => pureAt_off (by rfl)) ?_ ?_
          rotate_left 1
          · go_simp; rfl
          refine ph_pure (a' := ?_) rfl rfl undef (fun w9 hE hG => pureAt_off (by rfl)) ?_ ?_
          rotate_left 1
          · go_simp; rfl
          refine ph_pure (a' := ?_) rfl rfl undef (fun w9 hE hG => pureAt_off (by rfl)) ?_ ?_
          rotate_left 1
          · go_simp; rfl
          refine ph_pure (a' := ?_) rfl rfl undef (fun w9 hE hG => pureAt_off (by rfl)) ?_ ?_
          rotate_left 1
          · go_simp; rfl
          refine ph_pure (a' := ?_) rfl rfl undef (fun w9 hE hG => pureAt_off (by rfl)) ?_ ?_
          rotate_left 1
          · go_simp; rfl
          refine ph_pure (a' := ?_) rfl rfl undef (fun w9 hE hG => pureAt_off (by rfl)) ?_ ?_
          rotate_left 1
          · go_simp; rfl
          refine ph_pure (a' := ?_) rfl rfl undef (fun w9 hE hG => pureAt_off (by rfl)) ?_ ?_
          rotate_left 1
          · go_simp; rfl
          refine ph_pure (a' := ?_) rfl rfl undef (fun w9 hE hG => pureAt_off (by rfl)) ?_ ?_
          rotate_left 1
          · go_simp; rfl
          iterate 1
            refine ph_pure (a' := ?_) rfl rfl ?_ (fun w9 hE hG => pureAt_on (by rfl) ?_) ?_ ?_
            rotate_left 2
            · clear hG; obtain ⟨c0, _⟩ := HC.out w9 hE; (go_simp; try go_bits); rfl
            · go_simp; rfl
          iterate 1
            refine ph_pure (a' := ?_) rfl rfl ?_ (fun w9 hE hG => pureAt_plain rfl ?_) ?_ ?_
            rotate_left 2
            · clear hG; obtain ⟨c0, _⟩ := HC.out w9 hE; (go_simp; try go_bits); rfl
            · go_simp; rfl
          refine ph_end (fun w9 hE hG => ?_)
          have hXr : Ext wr w9 := Ext.drew.trans hE
          clear hE hG HC
          go_wp2
          refine ⟨⟨k + 1, by omega, by go_num, HN.out, hX.trans hXr⟩, by simp only [intOf]; omega⟩
      · have hwf : word l[k] = false := by simpa using hw
        have hrf : r = false := HR.out.symm.trans (dict_word hlt hwf)
        subst hrf
        have HWV := Lib.hid hwf
        clear hok hw hwf
        generalize l[k] = x at *
        go_wp2_with fail
        have hc0 : ∀ W : World, Ext wr.drew W → W.cell? (ad.add (k)) = some (.string (bs x)) ∧ True := fun W hE => by
          exact ⟨(World.cell?_of_block (hE.block _ hab)).trans hc, trivial⟩
        have HC := Lib.hid hc0; clear hc0
        refine wp_region_list2 (by kernel_rfl) 22 Ext [(4, Is (.bool false))] (by kernel_rfl) (fun _ _ d _ _ h => by cases d <;> exact h) rfl Ext.refl (fun _ _ _ => Ext.trans) ⟨fun _ _ _ => Is.ext, trivial⟩ ?_
        simp only [List.take_succ_cons, List.take_zero, List.take_nil, List.drop_succ_cons, List.drop_zero, List.drop_nil]
        iterate 4
          refine ph_pure (a' := ?_) rfl rfl ?_ (fun w9 hE hG => pureAt_plain rfl ?_) ?_ ?_
          rotate_left 2
          · clear hG; obtain ⟨c0, _⟩ := HC.out w9 hE; (go_simp; try go_bits); rfl
          · go_simp; rfl
        refine ph_op rfl rfl (fun w9 hE hG => opAt_plain rfl ?_) (fun v hv => ?_)
        · clear hG
          try clear hG
          obtain ⟨c0, _⟩ := HC.out w9 hE; (go_simp; try go_bits)
          refine (rword_any x hx20 _).mono ?_
          rintro e w' ⟨rfl, rfl⟩
          exact ⟨_, rfl, Ext.refl _, by rw [HWV.out]; rfl⟩
        obtain ⟨_, _, rfl⟩ := hv
        go_simp
        iterate 2
          refine ph_pure (a' := ?_) rfl rfl ?_ (fun w9 hE hG => pureAt_plain rfl ?_) ?_ ?_
          rotate_left 2
          · clear hG; obtain ⟨c0, _⟩ := HC.out w9 hE; (go_simp; try go_bits); rfl
          · go_simp; rfl
        refine ph_pure (a' := ?_) rfl rfl undef (fun w9 hE hG => pureAt_off (by rfl)) ?_ ?_
        rotate_left 1
        · go_simp; rfl
        refine ph_pure (a' := ?_) rfl rfl undef (fun w9 hE hG => pureAt_off (by rfl)) ?_ ?_
        rotate_left 1
        · go_simp; rfl
        refine ph_pure (a' := ?_) rfl rfl undef (fun w9 hE hG => pureAt_off (by rfl)) ?_ ?_
        rotate_left 1
        · go_simp; rfl
        refine ph_pure (a' := ?_) rfl rfl undef (fun w9 hE hG => pureAt_off (by rfl)) ?_ ?_
        rotate_left 1
        · go_simp; rfl
        refine ph_pure (a' := ?_) rfl rfl undef (fun w9 hE hG => pureAt_off (by rfl)) ?_ ?_
        rotate_left 1
        · go_simp; rfl
        refine ph_pure (a' := ?_) rfl rfl undef (fun w9 hE hG => pureAt_off (by rfl)) ?_ ?_
        rotate_left 1
        · go_simp; rfl
        refine ph_pure (a' := ?_) rfl rfl undef (fun w9 hE hG => pureAt_off (by rfl)) ?_ ?_
        rotate_left 1
        · go_simp; rfl
        refine ph_pure (a' := ?_) rfl rfl undef (fun w9 hE hG => pureAt_off (by rfl)) ?_ ?_
        rotate_left 1
        · go_simp; rfl
        refine ph_pure (a' := ?_) rfl rfl undef (fun w9 hE hG => pureAt_off (by rfl)) ?_ ?_
        rotate_left 1
        · go_simp; rfl
        refine ph_pure (a' := ?_) rfl rfl undef (fun w9 hE hG => pureAt_off (by rfl)) ?_ ?_
        rotate_left 1
        · go_simp; rfl
        refine ph_pure (a' := ?_) rfl rfl undef (fun w9 hE hG => pureAt_off (by rfl)) ?_ ?_
        rotate_left 1
        · go_simp; rfl
        refine ph_pure (a' := ?_) rfl rfl undef (fun w9 hE hG => pureAt_off (by rfl)) ?_ ?_
        rotate_left 1
        · go_simp; rfl
        refine ph_pure (a' := ?_) rfl rfl undef (fun w9 hE hG => pureAt_off (by rfl)) ?_ ?_
        rotate_left 1
        · go_simp; rfl
        refine ph_pure (a' := ?_) rfl rfl undef (fun w9 hE hG => pureAt_off (by rfl)) ?_ ?_
        rotate_left 1
        · go_simp; rfl
        iterate 1
          refine ph_pure (a' := ?_) rfl rfl ?_ (fun w9 hE hG => pureAt_plain rfl ?_) ?_ ?_
          rotate_left 2
          · clear hG; obtain ⟨c0, _⟩ := HC.out w9 hE; (go_simp; try go_bits); rfl
          · go_simp; rfl
        refine ph_end (fun w9 hE hG => ?_)
        have hXr : Ext wr w9 := Ext.drew.trans hE
        clear hE hG HC
        go_wp2
        go_ret
        exact ⟨rfl, hX.trans hXr⟩
    · obtain rfl : k = l.length := by omega
      have hrf := HR.out.symm.trans hok.fin
      clear hok hlt
      by_cases h1 : 1 ≤ l.length
      · by_cases h2 : l.length ≤ 200
        · rw [decide_eq_true h1, decide_eq_true h2] at hrf
          subst hrf
          have h1' : (1 : Int) ≤ l.length := by omega
          have h2' : (l.length : Int) ≤ 200 := by omega
          go_wp2
          go_ret
          exact ⟨rfl, hX⟩
        · rw [decide_eq_false h2, Bool.and_false] at hrf
          subst hrf
          have h1' : (1 : Int) ≤ l.length := by omega
          have h2' : ¬ (l.length : Int) ≤ 200 := by omega
          go_wp2
          go_ret
          exact ⟨rfl, hX⟩
      · rw [decide_eq_false h1, Bool.false_and] at hrf
        subst hrf
        have h1' : ¬ (1 : Int) ≤ l.length := by omega
        go_wp2
        go_ret
        exact ⟨rfl, hX⟩
set_option maxHeartbeats 2000000 in
set_option maxRecDepth 100000 in
theorem pdict_any (A : Option Addr) (c : Nat) (l : List W) (w : World) (hr : Rd w 0 1 A l.length (sv l)) (hn : l.length ≤ 1000000) (hs : ∀ x ∈ l, x.length ≤ maxLen) :
    Calls Tryd.prog 48 #[.slice A l.length c] w fun e w' => e = .returned (.bool (dict l)) ∧ Ext w w' := by
  obtain ⟨r, hr0⟩ : ∃ r, dict l = r := ⟨_, rfl⟩
  rw [hr0]
  have HR := Lib.hid hr0; clear hr0
  go_enter Tryd.func48, Tryd.ntmps48
  go_wp2_with fail
  go_loopw [7] (fun i wr => ∃ k : Nat, k ≤ l.length ∧ i = .int .i64 k ∧ DOk l k ∧ Ext w wr) (fun i _ => 1000001 - (intOf i).toNat)
  case atStart => exact ⟨0, by omega, rfl, DOk.zero l, Ext.refl _⟩
  case round =>
    obtain ⟨k, hk, rfl, hok, hX⟩ := hrel
    by_cases hlt : k < l.length
    · have hlt' : (k : Int) < l.length := by omega
      obtain ⟨ad, e1, hab, hc⟩ := (hr.ext hX).one hlt (sv_at l k hlt)
      subst e1
      have hx20 := hs _ (List.getElem_mem hlt)
      by_cases hw : word l[k] = true
      · by_cases h0 : 0 < k
        · obtain ⟨_, e1, hab1, hc1⟩ := (hr.ext hX).one (i := k - 1) (by omega) (sv_at l (k - 1) (by omega))
          injection e1 with e1; subst e1
          have h0' : (0 : Int) < k := by omega
          have h1' : (1 : Int) ≤ k := by omega
          have h2' : ((k : Int) - 1).toNat = k - 1 := by omega
          have h3' : (k : Int) - 1 < l.length := by omega
          have h4' : (0 : Int) ≤ (k : Int) - 1 := by omega
          have h5' : k - 1 < l.length := by omega
          by_cases hb : bl (l[k - 1]'(by omega)) l[k] = true
          · have HN := Lib.hid (hok.next hlt hw (fun _ => hb))
            have HB := Lib.hid hb
            have HWV := Lib.hid hw
            have hb1 := bl_asymm hb
            have hb2 : ¬ (l[k] = l[k - 1]'(by omega)) := fun e => by rw [e, bl_irrefl] at hb; cases hb
            clear hok hw hb
            generalize l[k - 1]'(by omega) = y at *
            generalize l[k] = x at *
            go_wp2_with fail
            refine (pword_any x hx20 _).mono ?_
            rintro e w' ⟨rfl, rfl⟩
            rw [HWV.out]
            have hXr := Ext.refl wr
            go_wp2
            refine ⟨⟨k + 1, by omega, by go_num, HN.out, hX.trans hXr⟩, by simp only [intOf]; omega⟩
          · have hb' : bl (l[k - 1]'(by omega)) l[k] = false := by simpa using hb
            have hrf : r = false := HR.out.symm.trans (dict_up hlt h0 hb')
            subst hrf
            have HWV := Lib.hid hw
            have hor : bl l[k] (l[k - 1]'(by omega)) = true ∨ (bl l[k] (l[k - 1]'(by omega)) = false ∧ l[k] = l[k - 1]'(by omega)) := by
              rcases bl_tri (l[k - 1]'(by omega)) l[k] with h | h | h
              · rw [hb'] at h; cases h
              · exact .inr ⟨by rw [← h, bl_irrefl], h.symm⟩
              · exact .inl h
            clear hok hw hb hb'
            generalize l[k - 1]'(by omega) = y at *
            generalize l[k] = x at *
            rcases hor with hb1 | ⟨hb1, hb2⟩
            · skip
              go_wp2_with fail
              refine (pword_any x hx20 _).mono ?_
              rintro e w' ⟨rfl, rfl⟩
              rw [HWV.out]
              have hXr := Ext.refl wr
              go_wp2
              go_ret
              exact ⟨rfl, hX.trans hXr⟩
            · subst hb2
              go_wp2_with fail
              refine (pword_any x hx20 _).mono ?_
              rintro e w' ⟨rfl, rfl⟩
              rw [HWV.out]
              have hXr := Ext.refl wr
              go_wp2
              go_ret
              exact ⟨rfl, hX.trans hXr⟩
        · have h0' : ¬ (0 : Int) < k := by omega
          have h0'' : ¬ (0 < k) := h0
          have HN := Lib.hid (hok.next hlt hw (fun h => absurd h h0))
          have HWV := Lib.hid hw
          clear hok hw h0
          generalize l[k] = x at *
          go_wp2_with fail
          refine (pword_any x hx20 _).mono ?_
          rintro e w' ⟨rfl, rfl⟩
          rw [HWV.out]
          have hXr := Ext.refl wr
          go_wp2
          refine ⟨⟨k + 1, by omega, by go_num, HN.out, hX.trans hXr⟩, by simp only [intOf]; omega⟩
      · have hwf : word l[k] = false := by simpa using hw
        have hrf : r = false := HR.out.symm.trans (dict_word hlt hwf)
        subst hrf
        have HWV := Lib.hid hwf
        clear hok hw hwf
        generalize l[k] = x at *
        go_wp2_with fail
        refine (pword_any x hx20 _).mono ?_
        rintro e w' ⟨rfl, rfl⟩
        rw [HWV.out]
        have hXr := Ext.refl wr
        go_wp2
        go_ret
        exact ⟨rfl, hX.trans hXr⟩
    · obtain rfl : k = l.length := by omega
      have hrf := HR.out.symm.trans hok.fin
      clear hok hlt
      by_cases h1 : 1 ≤ l.length
      · by_cases h2 : l.length ≤ 200
        · rw [decide_eq_true h1, decide_eq_true h2] at hrf
          subst hrf
          have h1' : (1 : Int) ≤ l.length := by omega
          have h2' : (l.length : Int) ≤ 200 := by omega
          go_wp2
          go_ret
          exact ⟨rfl, hX⟩
        · rw [decide_eq_false h2, Bool.and_false] at hrf
          subst hrf
          have h1' : (1 : Int) ≤ l.length := by omega
          have h2' : ¬ (l.length : Int) ≤ 200 := by omega
          go_wp2
          go_ret
          exact ⟨rfl, hX⟩
      · rw [decide_eq_false h1, Bool.false_and] at hrf
        subst hrf
        have h1' : ¬ (1 : Int) ≤ l.length := by omega
        go_wp2
        go_ret
        exact ⟨rfl, hX⟩
end Go.Proofs.YtmmihcophkipoaaDoor
