/-
  DawgChanges.
-/
import Derived.Test.YtmmihcophkipoaaDoorSan
import Derived.Test.YtmmihcophkipoaaDoorD36
namespace Go.Proofs.YtmmihcophkipoaaDoor
open Go.ChangeShapes Go.WideShapes Go.ChangeAt Go.RowKit
set_option linter.unusedVariables false
set_option linter.unusedSimpArgs false
attribute [local go_sem] bs_beq bs_bne bs_less bs_size
theorem cnt_root (l : List W) : cnt l [] = l.length := by
  unfold cnt
  rw [List.filter_eq_self.2 (fun u hu => by simp [beg])]
theorem mem_del {l : List W} {x y : W} : y ∈ del l x ↔ y ∈ l ∧ y ≠ x := by unfold del; simp
theorem ins_new_len {l : List W} {x : W} (h : x ∉ l) : (ins l x).length = l.length + 1 := by
  unfold ins
  rw [if_neg h]
  have := congrArg List.length (List.takeWhile_append_dropWhile (p := (bl · x)) (l := l))
  simp only [List.length_append, List.length_cons] at *
  omega
theorem back_new {l : List W} (hu : Up l) {x : W} (h : x ∉ l) : del (ins l x) x = l :=
  Up.ext ((up_ins hu x).sub List.filter_sublist) hu fun y => by
    rw [mem_del, mem_ins]
    exact ⟨fun ⟨h1, h2⟩ => h1.elim (fun e => absurd e h2) id, fun h1 => ⟨.inr h1, fun e => h (e ▸ h1)⟩⟩
theorem back_old {l : List W} (hu : Up l) {x : W} (h : x ∈ l) : ins (del l x) x = l :=
  Up.ext (up_ins (hu.sub List.filter_sublist) x) hu fun y => by
    rw [mem_ins, mem_del]
    by_cases e : y = x
    · subst e; simp [h]
    · simp [e]
set_option maxHeartbeats 40000000 in
set_option maxRecDepth 100000 in
theorem changes_walk (A A2 : Option Addr) (c c2 : Nat) (ll : List (List UInt8)) (x : List UInt8) (w : World) (hT : Tb w) (hr : Bss w A ll) (hl : ll.length ≤ maxLen) (hx : Rd w 0 1 A2 x.length (bv x)) (hxl : x.length ≤ maxLen) :
    Calls Tryd.prog 10 #[.slice A ll.length c, .slice A2 x.length c2] w fun e w' => e = .returned (.bool true) ∧ Ext w w' := by
  go_enter Tryd.func10, Tryd.ntmps10
  go_wp2_with fail
  refine (sanity_any w hT).mono ?_
  rintro e w1 ⟨rfl, X1⟩
  go_wp2_with fail
  refine (made_t A c 13 ll _ (hr.ext X1) hl (by omega)).mono ?_
  rintro e w2 ⟨v, rfl, hV, X2⟩
  have hd := made_dict ll 13 (by omega) (by omega)
  have hs := sw_made ll 13
  have hlen := made_len ll 13 (by omega)
  have hpos := made_pos ll 13
  generalize made ll 13 = l at *
  obtain ⟨B, d, rfl, hB, hd1, hd2⟩ := hV
  have X12 := X1.trans X2
  clear X1 X2
  go_wp2_with fail
  refine (word_any A2 c2 x _ (hx.ext X12) hxl).mono ?_
  rintro e w3 ⟨rfl, X3⟩
  have hw4 := w4_mk x
  have hwa := hw4.ascii
  generalize mkword x = s at *
  have hsl := hw4.2
  have X13 := X12.trans X3
  have hB3 := hB.ext X3
  clear X12 X3 hB
  go_wp2_with fail
  refine (build_yes B d l _ hd hB3.untyped hd1 hd2 (hT.ext X13)).mono ?_
  rintro e w4 ⟨D, dc, rfl, hdc, hdm, hD, X4⟩
  have hB4 := hB3.ext X4
  have X14 := X13.trans X4
  clear X13 X4 hB3
  go_wp2_with fail
  refine (insert_t B d l s _ hB4 (by omega) ⟨hd1, hd2⟩).mono ?_
  rintro e w5 ⟨v, rfl, hV, X5⟩
  have hB5 := hB4.ext X5
  have hD5 := hD.ext X5
  have X15 := X14.trans X5
  clear X14 X5 hB4 hD
  have hsi : Sw (ins l s) := hs.ins hw4
  have hil := ins_len l s
  have hsm : s ∈ ins l s := mem_ins.2 (.inl rfl)
  have hip : 1 ≤ (ins l s).length := List.length_pos_of_mem hsm
  have hdi : dict (ins l s) = true := hsi.dict hip (by omega)
  have hcl : cnt l [] = l.length := cnt_root l
  have hci : cnt (ins l s) [] = (ins l s).length := cnt_root _
  have hin := @ins_new_len l s
  have hbn := @back_new l hs.up s
  have hbo := @back_old l hs.up s
  have hiold : s ∈ l → ins l s = l := fun h => if_pos h
  generalize ins l s = m at *
  obtain ⟨B6, d6, rfl, hB6, hd61, hd62⟩ := hV
  go_wp2_with fail
  refine (build_yes B6 d6 m _ hdi hB6.untyped hd61 hd62 (hT.ext X15)).mono ?_
  rintro e w6 ⟨E, ec, rfl, hec, hem, hE, X6⟩
  have hB7 := hB5.ext X6
  have hD7 := hD5.ext X6
  have X16 := X15.trans X6
  clear X15 X6 hB5 hD5 hB6
  go_wp2_with fail
  refine (has_d hdi E _ s (by simp only [maxLen]; omega) _ hE).mono ?_
  rintro e w7 ⟨rfl, X7⟩
  rw [decide_eq_true hsm]
  have hB8 := hB7.ext X7
  have hD8 := hD7.ext X7
  have hE8 := hE.ext X7
  have X17 := X16.trans X7
  clear X16 X7 hB7 hD7 hE
  go_wp2_with fail
  refine (index_any B d l s _ hB8.untyped (by omega)).mono ?_
  rintro e w8 ⟨rfl, X8⟩
  have hD9 := hD8.ext X8
  have hE9 := hE8.ext X8
  have X18 := X17.trans X8
  clear X17 X8 hB8 hD8 hE8
  by_cases hm : s ∈ l
  · have hix : ¬ wix l s < 0 := fun h => wix_neg.1 h hm
    have hix2 : (0 : Int) ≤ wix l s := by omega
    obtain rfl : m = l := hiold hm
    have hb := hbo hm
    clear hbo hbn hin hiold
    generalize wix m s = ix at *
    go_wp2_with fail
    refine (words_d hdi E _ _ hE9).mono ?_
    rintro e w9 ⟨v, rfl, hO, X9⟩
    obtain ⟨B9, d9, rfl, hB9, _, _⟩ := hO.rd
    go_wp2_with fail
    refine (without_any B9 d9 m s _ hB9 (by omega)).mono ?_
    rintro e w10 ⟨v, rfl, hO2, X10⟩
    obtain ⟨B10, d10, rfl, hB10, hd10, hd11⟩ := hO2.wt
    have hdl := del_len m s
    go_wp2_with fail
    refine (insert_t B10 d10 (del m s) s _ hB10 (by omega) ⟨hd10, hd11⟩).mono ?_
    rintro e w11 ⟨v, rfl, hV, X11⟩
    rw [hb] at hV
    obtain ⟨B11, d11', rfl, hB11, hd12, hd13⟩ := hV
    have X9' := (X9.trans X10).trans X11
    have X19 := X18.trans X9'
    go_wp2_with fail
    refine (build_yes B11 d11' m _ hdi hB11.untyped hd12 hd13 (hT.ext X19)).mono ?_
    rintro e w12 ⟨F, fc, rfl, hfc, hfm, hF, X12⟩
    have X9'' := X9'.trans X12
    go_wp2_with fail
    refine (count_d hdi E _ [] (by decide) _ (hE9.ext X9'')).mono ?_
    rintro e w13 ⟨rfl, X13⟩
    have X13' := X9''.trans X13
    go_wp2_with fail
    refine (count_d hdi D _ [] (by decide) _ (hD9.ext X13')).mono ?_
    rintro e w14 ⟨rfl, X14⟩
    have X14' := X13'.trans X14
    rw [hcl]
    go_wp2_with fail
    refine (same_any D F _ _ (auto m) (auto m) _ (hD9.ext X14') (hF.ext (X13.trans X14)) (by have := dict_alen hdi; omega) (dict_arcs hdi)).mono ?_
    rintro e w15 ⟨rfl, X15⟩
    rw [decide_eq_true rfl]
    go_wp2
    go_ret
    exact ⟨rfl, X18.trans (X14'.trans X15)⟩
  · have hix : wix l s < 0 := wix_neg.2 hm
    have hix2 : ¬ (0 : Int) ≤ wix l s := by omega
    have hb := hbn hm
    have HML := Lib.hid (hin hm)
    clear hbo hbn hin hiold
    generalize wix l s = ix at *
    go_wp2_with fail
    refine (words_d hdi E _ _ hE9).mono ?_
    rintro e w9 ⟨v, rfl, hO, X9⟩
    obtain ⟨B9, d9, rfl, hB9, _, _⟩ := hO.rd
    go_wp2_with fail
    refine (without_any B9 d9 m s _ hB9 (by omega)).mono ?_
    rintro e w10 ⟨v, rfl, hO2, X10⟩
    rw [hb] at hO2
    obtain ⟨B10, d10, rfl, hB10, hd10, hd11⟩ := hO2.wt
    have X9' := X9.trans X10
    have X19 := X18.trans X9'
    go_wp2_with fail
    refine (build_yes B10 d10 l _ hd hB10.untyped hd10 hd11 (hT.ext X19)).mono ?_
    rintro e w12 ⟨F, fc, rfl, hfc, hfm, hF, X12⟩
    have X9'' := X9'.trans X12
    go_wp2_with fail
    refine (count_d hdi E _ [] (by decide) _ (hE9.ext X9'')).mono ?_
    rintro e w13 ⟨rfl, X13⟩
    have X13' := X9''.trans X13
    go_wp2_with fail
    refine (count_d hd D _ [] (by decide) _ (hD9.ext X13')).mono ?_
    rintro e w14 ⟨rfl, X14⟩
    have X14' := X13'.trans X14
    rw [hcl, HML.out]
    go_wp2_with fail
    refine (same_any D F _ _ (auto l) (auto l) _ (hD9.ext X14') (hF.ext (X13.trans X14)) (by have := dict_alen hd; omega) (dict_arcs hd)).mono ?_
    rintro e w15 ⟨rfl, X15⟩
    rw [decide_eq_true rfl]
    go_wp2
    go_ret
    exact ⟨rfl, X18.trans (X14'.trans X15)⟩
set_option maxRecDepth 100000 in
theorem dawgChanges_lifted (os : Os) (started : os.Started) (H : Type) (enc : TypeId × Value → H) :
    ReturnsInHanded {} Tryd.checked os 10 .any (fun w args => (Rows.dawgChangesSpec.pre enc Tryd.prog Tryd.f10 Rows.dawgChangesRow.domain false w args ∧ laidMetH Tryd.prog laidL w) ∧ sizedMet enc Tryd.prog Tryd.f10 (OpenSpec.ofChange Rows.dawgChangesSpec) false w args)
      (Rows.dawgChangesSpec.post enc Tryd.prog Tryd.f10 false true false false) := by
  refine returnsInHanded_of_change_and (C := Tryd.checked) (X := fun w _ => laidMetH Tryd.prog laidL w) (fun _ _ _ hh h => h.of_heap hh) own started (by kernel_rfl) Tryd.func10
    (ChangeSpec.witness_shaped (enc := enc) (C := Tryd.checked) (os := os) (X := fun w _ => laidMetH Tryd.prog laidL w) false (World.laidAll Tryd.prog os laidL) #[.slice none 0 0, .slice none 0 0] 8 (World.laidAll_os _ _ _)
      (door_shaped os _) (by kernel_rfl) (by kernel_rfl) (by kernel_rfl) (door_met os _)) ?_
  intro W base args ds gs before hval0 hW hcnd _ hL _
  have hval : ∀ (j : Nat) t v, Tryd.f10.params[j]? = some t → args[j]? = some v → Value.okWide Tryd.prog W .any base t v := hval0
  have hW' := hW
  obtain ⟨p, q, hA0, hV, rfl, hfz, hnd⟩ := hW
  have hA : DataW.TrodAll enc Tryd.prog W 0 (fun _ => true) true Tryd.f10.params.toList args.toList ds p := hA0
  rw [Tryd.params10] at hA hval
  obtain ⟨v0, vs0, d0, ds0, p0, q0, hargs, rfl, rfl, h0, r0⟩ := trodAll_cons hA
  obtain ⟨v1, vs1, d1, ds1, p1, q1, rfl, rfl, rfl, h1, r1⟩ := trodAll_cons r0
  obtain ⟨rfl, rfl, rfl⟩ := trodAll_nil r1
  obtain rfl : args = #[v0, v1] := by cases args; simp_all
  obtain ⟨rfl, rfl⟩ := trodVars_none hV
  obtain ⟨A0, c0, ll0, rfl, hr0, hl0⟩ := open_bytess (hval 0 22 v0 rfl rfl) h0
  obtain ⟨A1, c1, ll1, rfl, hr1, hl1⟩ := open_bytes (hval 1 23 v1 rfl rfl) h1
  have hT : Tb W := tb_of hL
  clear hA0 hval0
  refine (changes_walk A0 A1 c0 c1 ll0 ll1 W hT hr0 hl0 hr1 hl1).mono fun e W' ⟨he, hg⟩ => ?_
  subst he
  exact ⟨_, rfl, law_post laidOut (by kernel_rfl) rfl hW' (fun _ _ _ => (trodAll_cons_mk (shut_bool Tryd.underlying4 _) trodAll_mk0)) (fun _ => ⟨rfl, rfl⟩) hg⟩
theorem dawgChanges_holds : Rows.DawgChangesSaid :=
  OpenClaim.holds_of_wide 10 Tryd.f10 rfl rfl rfl rfl rfl rfl rfl ⟨rfl, rfl, rfl, rfl, rfl⟩ rfl rfl rfl rfl rfl (by kernel_rfl) Tryd.func10 (by kernel_rfl)
    (of_decide_eq_true (by kernel_rfl)) (by unfold Func.isWrapper; first | (rw [if_pos (by decide +kernel)]; kernel_rfl) | (rw [if_neg (by decide +kernel)]; exact ⟨rfl, rfl⟩))
    (fun os started H enc _ => dawgChanges_lifted os started H enc)
theorem dawgChanges_proved : Rows.DawgChangesCardSaid :=
  Claim7.holds_tied_plain_at .later [] [.data, .data, .data] true (true, "2cfab7a405446e86f36320e8931b4db3dd0b65117ddc1662eb493445956b60ea") true
    dawgChanges_holds (fun _ h => by cases h) (by kernel_rfl) (fun _ h => by cases h) dawgChanges_row_tie rfl ⟨rfl, rfl⟩ (by kernel_rfl) rfl
    (fun f fn hf hfn => by
      obtain rfl : f = 10 := Option.some.inj ((show Tryd.prog.funcNamed Rows.dawgChangesRow.func = some 10 by kernel_rfl).symm.trans hf) |>.symm
      obtain rfl : fn = Tryd.f10 := (Option.some.inj (Tryd.func10.symm.trans hfn)).symm
      exact ⟨by kernel_rfl, fun j t ht => by
        rw [Tryd.params10] at ht
        have hm : t ∈ [22, 23] := by simpa using Array.mem_of_getElem? ht
        have hall : ([22, 23].all fun u => !Tryd.prog.wantsStandIn u) = true := by kernel_rfl
        exact (show Tryd.prog.wantsStandIn t = false by simpa using List.all_eq_true.1 hall t hm)⟩)
    (by kernel_rfl)
end Go.Proofs.YtmmihcophkipoaaDoor
