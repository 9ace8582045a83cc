/-
  DawgWords.
-/
import Derived.Test.YtmmihcophkipoaaDoorSan
import Derived.Test.YtmmihcophkipoaaDoorD36
import Derived.BigQuiet
import Derived.Deep.QuietTactic
namespace Go.Proofs.YtmmihcophkipoaaDoor
open Go.ChangeShapes Go.WideShapes Go.ChangeAt Go.RowKit
set_option linter.unusedVariables false
set_option linter.unusedSimpArgs false
attribute [local go_sem] bs_beq bs_bne bs_less bs_size
theorem dec_auto {a b : List W} (ha : dict a = true) (hb : dict b = true) : decide (auto a = auto b) = decide (a = b) := by
  by_cases h : a = b
  · rw [decide_eq_true h, decide_eq_true ((auto_inj ha hb).2 h)]
  · rw [decide_eq_false h, decide_eq_false fun e => h ((auto_inj ha hb).1 e)]
theorem wix_ge (l : List W) (p : W) : decide (0 ≤ wix l p) = decide (p ∈ l) := by
  unfold wix
  by_cases h : p ∈ l
  · rw [if_pos h, decide_eq_true h]; simp
  · rw [if_neg h, decide_eq_false h]; rfl
set_option maxHeartbeats 40000000 in
set_option maxRecDepth 100000 in
theorem words_walk (A A2 A3 : Option Addr) (c c2 c3 : Nat) (ll lm : List (List UInt8)) (x : List UInt8) (w : World) (hT : Tb w) (hr : Bss w A ll) (hl : ll.length ≤ maxLen) (hr2 : Bss w A2 lm) (hl2 : lm.length ≤ maxLen) (hx : Rd w 0 1 A3 x.length (bv x)) (hxl : x.length ≤ maxLen) :
    Calls Tryd.prog 9 #[.slice A ll.length c, .slice A2 lm.length c2, .slice A3 x.length c3] w fun e w' => e = .returned (.bool true) ∧ Ext w w' := by
  go_enter Tryd.func9, Tryd.ntmps9
  go_wp2_with fail
  refine (sanity_any w hT).mono ?_
  rintro e w1 ⟨rfl, X1⟩
  go_wp2_with fail
  refine (made_t A c 14 ll _ (hr.ext X1) hl (by omega)).mono ?_
  rintro e w2 ⟨v, rfl, hV, X2⟩
  have hd := made_dict ll 14 (by omega) (by omega)
  have hs := sw_made ll 14
  have hlen := made_len ll 14 (by omega)
  generalize made ll 14 = l at *
  obtain ⟨B, d, rfl, hB, hd1, hd2⟩ := hV
  have X12 := X1.trans X2
  clear X1 X2
  go_wp2_with fail
  refine (made_t A2 c2 14 lm _ (hr2.ext X12) hl2 (by omega)).mono ?_
  rintro e w3 ⟨v, rfl, hV, X3⟩
  have hdm := made_dict lm 14 (by omega) (by omega)
  have hsm := sw_made lm 14
  have hlenm := made_len lm 14 (by omega)
  generalize made lm 14 = m at *
  obtain ⟨B2, d2, rfl, hB2, hd21, hd22⟩ := hV
  have X13 := X12.trans X3
  have hB3 := hB.ext X3
  clear X12 X3 hB
  go_wp2_with fail
  refine (build_yes B d l _ hd hB3.untyped hd1 hd2 (hT.ext X13)).mono ?_
  rintro e w4 ⟨D, dc, rfl, hdc, hdcm, hD, X4⟩
  have hB4 := hB3.ext X4
  have hB24 := hB2.ext X4
  have X14 := X13.trans X4
  clear X13 X4 hB3 hB2
  go_wp2_with fail
  refine (build_yes B2 d2 m _ hdm hB24.untyped hd21 hd22 (hT.ext X14)).mono ?_
  rintro e w5 ⟨E, ec, rfl, hec, hem, hE, X5⟩
  have hB5 := hB4.ext X5
  have hB25 := hB24.ext X5
  have hD5 := hD.ext X5
  have X15 := X14.trans X5
  clear X14 X5 hB4 hB24 hD
  go_wp2_with fail
  refine (words_d hd D _ _ hD5).mono ?_
  rintro e w6 ⟨v, rfl, hO, X6⟩
  obtain ⟨B6, d6, rfl, hB6, _, _⟩ := hO.rd
  have hB6' := hB5.ext X6
  go_wp2_with fail
  refine (same_words_any B6 B _ _ l l _ hB6 hB6'.untyped (by omega)).mono ?_
  rintro e w7 ⟨rfl, X7⟩
  rw [decide_eq_true rfl]
  have X67 := X6.trans X7
  have hB7 := hB5.ext X67
  have hB27 := hB25.ext X67
  have hD7 := hD5.ext X67
  have hE7 := hE.ext X67
  have X17 := X15.trans X67
  clear hO hB6 hB6' X6 X7 X67 hB5 hB25 hD5 hE X15
  go_wp2_with fail
  refine (same_any D E _ _ (auto l) (auto m) _ hD7 hE7 (by have := dict_alen hd; omega) (dict_arcs hd)).mono ?_
  rintro e w8 ⟨rfl, X8⟩
  have hB8 := hB7.ext X8
  have hB28 := hB27.ext X8
  have hD8 := hD7.ext X8
  have X18 := X17.trans X8
  clear X8 hB7 hB27 hD7 hE7 X17
  rw [dec_auto hd hdm]
  go_wp2_with fail
  refine (same_words_any B B2 _ _ l m _ hB8.untyped hB28.untyped (by omega)).mono ?_
  rintro e w9 ⟨rfl, X9⟩
  have hB9 := hB8.ext X9
  have hB29 := hB28.ext X9
  have hD9 := hD8.ext X9
  have X19 := X18.trans X9
  clear X9 hB8 hB28 hD8 X18
  have hgx := wix_ge l
  go_wp2_with fail
  go_loopw [14] (fun i wr => ∃ k : Nat, k ≤ m.length ∧ i = .int .i64 k ∧ Ext w9 wr) (fun i _ => 1000 - (intOf i).toNat)
  case atStart => exact ⟨0, by omega, by go_num, Ext.refl _⟩
  case round =>
    obtain ⟨k, hk, rfl, hX⟩ := hrel
    by_cases hlt : k < m.length
    · have hlt' : (k : Int) < m.length := by omega
      have hBr := hB9.ext hX
      have hB2r := hB29.ext hX
      have hDr := hD9.ext hX
      have hsu := sv_at m k hlt
      obtain ⟨ad, e1, hab, hc⟩ := hB2r.one hlt hsu
      subst e1
      have hul := hsm.small m[k] (List.getElem_mem hlt)
      generalize m[k] = u at *
      have hix := hgx u
      clear hgx
      go_wp2_with fail
      have hc0 : ∀ W : World, Ext wr.drew W → W.cell? (ad.add k) = some (.string (bs u)) ∧ Rd W 9 1 B l.length (sv l) ∧ Dw W D (auto l) ∧ True := fun W hE => by
        obtain ⟨ad2, e1, _, hc1⟩ := (hB2r.drew.ext hE).one hlt hsu
        injection e1 with e1
        subst e1
        exact ⟨hc1, hBr.drew.ext hE, (hDr.ext Ext.drew).ext hE, trivial⟩
      have HC := Lib.hid hc0; clear hc0
      refine wp_region_list2 (by kernel_rfl) 14 Ext [(5, Is (.bool (decide (u ∈ l)))), (11, Is (.int .i64 (wix l u)))] (by kernel_rfl) (fun _ _ d _ _ h => by cases d <;> exact h) rfl Ext.refl (fun _ _ _ => Ext.trans) ⟨fun _ _ _ => Is.ext, fun _ _ _ => Is.ext, trivial⟩ ?_
      simp only [List.take_succ_cons, List.take_zero, List.take_nil, List.drop_succ_cons, List.drop_zero, List.drop_nil]
      iterate 5
        refine ph_pure (a' := ?_) rfl rfl ?_ (fun w10 hE hG => pureAt_plain rfl ?_) ?_ ?_
        rotate_left 2
        · clear hG; obtain ⟨hc1, hBx, hDx, _⟩ := HC.out w10 hE; (go_simp; try go_bits); rfl
        · go_simp; rfl
      refine ph_op rfl rfl (fun w10 hE hG => opAt_plain rfl ?_) (fun v hv => ?_)
      · clear hG
        try clear hG
        obtain ⟨hc1, hBx, hDx, _⟩ := HC.out w10 hE; (go_simp; try go_bits)
        refine (has_d hd D _ u (by simp only [maxLen]; omega) _ hDx).mono ?_
        rintro e w' ⟨rfl, hb⟩
        exact ⟨_, rfl, hb, rfl⟩
      obtain ⟨_, _, rfl⟩ := hv
      go_simp
      iterate 5
        refine ph_pure (a' := ?_) rfl rfl ?_ (fun w10 hE hG => pureAt_plain rfl ?_) ?_ ?_
        rotate_left 2
        · clear hG; obtain ⟨hc1, hBx, hDx, _⟩ := HC.out w10 hE; (go_simp; try go_bits); rfl
        · go_simp; rfl
      refine ph_op rfl rfl (fun w10 hE hG => opAt_plain rfl ?_) (fun v hv => ?_)
      · clear hG
        try clear hG
        obtain ⟨hc1, hBx, hDx, _⟩ := HC.out w10 hE; (go_simp; try go_bits)
        refine (index_any B d l u _ hBx.untyped (by omega)).mono ?_
        rintro e w' ⟨rfl, hb⟩
        exact ⟨_, rfl, hb, rfl⟩
      obtain ⟨_, _, rfl⟩ := hv
      go_simp
      iterate 2
        refine ph_pure (a' := ?_) rfl rfl ?_ (fun w10 hE hG => pureAt_plain rfl ?_) ?_ ?_
        rotate_left 2
        · clear hG; obtain ⟨hc1, hBx, hDx, _⟩ := HC.out w10 hE; (go_simp; try go_bits); rfl
        · go_simp; rfl
      refine ph_end (fun w10 hE hG => ?_)
      have hXr : Ext wr w10 := Ext.drew.trans hE
      clear hE hG HC
      go_wp2
      exact ⟨⟨k + 1, by omega, by go_num, hX.trans hXr⟩, by simp only [intOf]; omega⟩
    · obtain rfl : k = m.length := by omega
      have hn : ¬ ((m.length : Int) < m.length) := by omega
      have X1r := X19.trans hX
      have hw4 := w4_mk x
      have happ : bs (mkword x) ++ ({ data := #[65] } : ByteArray) = bs (mkword x ++ [65]) := bs_append (mkword x) [65]
      have hix := hgx (mkword x ++ [65])
      go_wp2_with fail
      refine (word_any A3 c3 x _ (hx.ext X1r) hxl).mono ?_
      rintro e w10 ⟨rfl, X10⟩
      have hsl : (mkword x ++ [65]).length ≤ 5 := by have := hw4.2; simp; omega
      have hs4 := hw4.2
      have hsz : ({ data := #[65] } : ByteArray).size = 1 := rfl
      generalize mkword x = s at *
      go_wp2_with fail
      generalize s ++ [65] = u at *
      have X10' := hX.trans X10
      refine (has_d hd D _ u (by simp only [maxLen]; omega) _ (hD9.ext X10')).mono ?_
      rintro e w11 ⟨rfl, X11⟩
      have X11' := X10'.trans X11
      go_wp2_with fail
      refine (index_any B d l u _ (hB9.ext X11').untyped (by omega)).mono ?_
      rintro e w12 ⟨rfl, X12⟩
      go_wp2
      go_ret
      exact ⟨rfl, X19.trans (X11'.trans X12)⟩
set_option maxRecDepth 100000 in
theorem dawgWords_lifted (os : Os) (started : os.Started) (H : Type) (enc : TypeId × Value → H) :
    ReturnsInHanded {} Tryd.checked os 9 .any (fun w args => (Rows.dawgWordsSpec.pre enc Tryd.prog Tryd.f9 Rows.dawgWordsRow.domain false w args ∧ laidMetH Tryd.prog laidL w) ∧ sizedMet enc Tryd.prog Tryd.f9 (OpenSpec.ofChange Rows.dawgWordsSpec) false w args)
      (Rows.dawgWordsSpec.post enc Tryd.prog Tryd.f9 false true false false) := by
  refine returnsInHanded_of_change_and (C := Tryd.checked) (X := fun w _ => laidMetH Tryd.prog laidL w) (fun _ _ _ hh h => h.of_heap hh) own started (by kernel_rfl) Tryd.func9
    (ChangeSpec.witness_shaped (enc := enc) (C := Tryd.checked) (os := os) (X := fun w _ => laidMetH Tryd.prog laidL w) false (World.laidAll Tryd.prog os laidL) #[.slice none 0 0, .slice none 0 0, .slice none 0 0] 8 (World.laidAll_os _ _ _)
      (door_shaped os _) (by kernel_rfl) (by kernel_rfl) (by kernel_rfl) (door_met os _)) ?_
  intro W base args ds gs before hval0 hW hcnd _ hL _
  have hval : ∀ (j : Nat) t v, Tryd.f9.params[j]? = some t → args[j]? = some v → Value.okWide Tryd.prog W .any base t v := hval0
  have hW' := hW
  obtain ⟨p, q, hA0, hV, rfl, hfz, hnd⟩ := hW
  have hA : DataW.TrodAll enc Tryd.prog W 0 (fun _ => true) true Tryd.f9.params.toList args.toList ds p := hA0
  rw [Tryd.params9] at hA hval
  obtain ⟨v0, vs0, d0, ds0, p0, q0, hargs, rfl, rfl, h0, r0⟩ := trodAll_cons hA
  obtain ⟨v1, vs1, d1, ds1, p1, q1, rfl, rfl, rfl, h1, r1⟩ := trodAll_cons r0
  obtain ⟨v2, vs2, d2, ds2, p2, q2, rfl, rfl, rfl, h2, r2⟩ := trodAll_cons r1
  obtain ⟨rfl, rfl, rfl⟩ := trodAll_nil r2
  obtain rfl : args = #[v0, v1, v2] := by cases args; simp_all
  obtain ⟨rfl, rfl⟩ := trodVars_none hV
  obtain ⟨A0, c0, ll0, rfl, hr0, hl0⟩ := open_bytess (hval 0 22 v0 rfl rfl) h0
  obtain ⟨A1, c1, ll1, rfl, hr1, hl1⟩ := open_bytess (hval 1 22 v1 rfl rfl) h1
  obtain ⟨A2, c2, ll2, rfl, hr2, hl2⟩ := open_bytes (hval 2 23 v2 rfl rfl) h2
  have hT : Tb W := tb_of hL
  clear hA0 hval0
  refine (words_walk A0 A1 A2 c0 c1 c2 ll0 ll1 ll2 W hT hr0 hl0 hr1 hl1 hr2 hl2).mono fun e W' ⟨he, hg⟩ => ?_
  subst he
  exact ⟨_, rfl, law_post laidOut (by kernel_rfl) rfl hW' (fun _ _ _ => (trodAll_cons_mk (shut_bool Tryd.underlying4 _) trodAll_mk0)) (fun _ => ⟨rfl, rfl⟩) hg⟩
theorem dawgWords_holds : Rows.DawgWordsSaid :=
  OpenClaim.holds_of_wide 9 Tryd.f9 rfl rfl rfl rfl rfl rfl rfl ⟨rfl, rfl, rfl, rfl, rfl⟩ rfl rfl rfl rfl rfl (by kernel_rfl) Tryd.func9 (by kernel_rfl)
    (of_decide_eq_true (by kernel_rfl)) (by unfold Func.isWrapper; first | (rw [if_pos (by decide +kernel)]; kernel_rfl) | (rw [if_neg (by decide +kernel)]; exact ⟨rfl, rfl⟩))
    (fun os started H enc _ => dawgWords_lifted os started H enc)
theorem dawgWords_proved : Rows.DawgWordsCardSaid :=
  Claim7.holds_tied_plain_at .later [] [.data, .data, .data] true (true, "2cfab7a405446e86f36320e8931b4db3dd0b65117ddc1662eb493445956b60ea") true
    dawgWords_holds (fun _ h => by cases h) (by kernel_rfl) (fun _ h => by cases h) dawgWords_row_tie rfl ⟨rfl, rfl⟩ (by kernel_rfl) rfl
    (fun f fn hf hfn => by
      obtain rfl : f = 9 := Option.some.inj ((show Tryd.prog.funcNamed Rows.dawgWordsRow.func = some 9 by kernel_rfl).symm.trans hf) |>.symm
      obtain rfl : fn = Tryd.f9 := (Option.some.inj (Tryd.func9.symm.trans hfn)).symm
      exact ⟨by kernel_rfl, fun j t ht => by
        rw [Tryd.params9] at ht
        have hm : t ∈ [22, 22, 23] := by simpa using Array.mem_of_getElem? ht
        have hall : ([22, 22, 23].all fun u => !Tryd.prog.wantsStandIn u) = true := by kernel_rfl
        exact (show Tryd.prog.wantsStandIn t = false by simpa using List.all_eq_true.1 hall t hm)⟩)
    (by kernel_rfl)
end Go.Proofs.YtmmihcophkipoaaDoor
