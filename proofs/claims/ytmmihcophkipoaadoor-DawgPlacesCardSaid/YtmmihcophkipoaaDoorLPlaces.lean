/-
  DawgPlaces.
-/
import Derived.Test.YtmmihcophkipoaaDoorSan
import Derived.Test.YtmmihcophkipoaaDoorD36
namespace Go.Proofs.YtmmihcophkipoaaDoor
open Go.ChangeShapes Go.WideShapes Go.ChangeAt Go.RowKit
set_option linter.unusedVariables false
set_option linter.unusedSimpArgs false
attribute [local go_sem] bs_beq bs_bne bs_less bs_size
set_option maxHeartbeats 4000000 in
set_option maxRecDepth 100000 in
theorem places_walk (A : Option Addr) (c : Nat) (ll : List (List UInt8)) (i : Int) (w : World) (hT : Tb w) (hr : Bss w A ll) (hl : ll.length ≤ maxLen) (hi : -128 ≤ i ∧ i ≤ 127) :
    Calls Tryd.prog 5 #[.slice A ll.length c, .int .i8 i] w fun e w' => e = .returned (.bool true) ∧ Ext w w' := by
  go_enter Tryd.func5, Tryd.ntmps5
  go_wp2_with fail
  refine (sanity_any w hT).mono ?_
  rintro e w1 ⟨rfl, X1⟩
  go_wp2_with fail
  refine (made_t A c 14 ll _ (hr.ext X1) hl (by omega)).mono ?_
  rintro e w2 ⟨v, rfl, hV, X2⟩
  have hd := made_dict ll 14 (by omega) (by omega)
  have hs := sw_made ll 14
  have hlen := made_len ll 14 (by omega)
  generalize made ll 14 = l at *
  obtain ⟨B, d, rfl, hB, hd1, hd2⟩ := hV
  have X12 := X1.trans X2
  clear X1 X2
  go_wp2_with fail
  refine (ref_d hd B d _ hB hd1 hd2).mono ?_
  rintro e w3 ⟨D, dc, rfl, hdc, hdm, hD, X3⟩
  have hB3 := hB.ext X3
  have X13 := X12.trans X3
  clear X12 X3
  go_wp2_with fail
  go_loopw [8] (fun i wr => ∃ k : Nat, k ≤ l.length ∧ i = .int .i64 k ∧ Ext w3 wr) (fun i _ => 1000 - (intOf i).toNat)
  case atStart => exact ⟨0, by omega, by go_num, Ext.refl _⟩
  case round =>
    obtain ⟨k, hk, rfl, hX⟩ := hrel
    by_cases hlt : k < l.length
    · have hlt' : (k : Int) < l.length := by omega
      go_wp2_with fail
      refine (at_d hd D dc k _ (hD.ext hX)).mono ?_
      rintro e w4 ⟨rfl, X4⟩
      have ha : atL l k = (l[k], 0) := by
        unfold atL
        rw [if_pos ⟨by omega, hlt'⟩, Int.toNat_natCast, List.getD_eq_getElem?_getD, List.getElem?_eq_getElem hlt]; rfl
      have hix : wix l l[k] = k := wix_get hs.up hlt
      obtain ⟨ad, e1, hab, hc⟩ := ((hB3.ext hX).ext X4).one hlt (sv_at l k hlt)
      have h4 := hs.small l[k] (List.getElem_mem hlt)
      have h5 := (hs.w l[k] (List.getElem_mem hlt)).ascii
      rw [ha]
      clear ha
      subst e1
      generalize l[k] = s at *
      go_wp2_with fail
      refine (index_d hd D dc s (by omega) h5 _ ((hD.ext hX).ext X4)).mono ?_
      rintro e w5 ⟨rfl, X5⟩
      rw [hix]
      clear hix hc
      go_wp2
      exact ⟨⟨k + 1, by omega, by go_num, (hX.trans X4).trans X5⟩, by simp only [intOf]; omega⟩
    · obtain rfl : k = l.length := by omega
      have hn : ¬ ((l.length : Int) < l.length) := by omega
      go_wp2_with fail
      refine (at_d hd D dc i _ (hD.ext hX)).mono ?_
      rintro e w4 ⟨rfl, X4⟩
      have XX := X13.trans (hX.trans X4)
      by_cases h0 : 0 ≤ i
      · by_cases h1 : i < l.length
        · have ha : atL l i = (l.getD i.toNat [], 0) := if_pos ⟨h0, h1⟩
          rw [ha]
          go_wp2
          go_ret
          exact ⟨rfl, XX⟩
        · have ha : atL l i = ([], 90) := if_neg (by omega)
          rw [show bs (atL l i).1 = ({ data := #[] } : ByteArray) by rw [ha]; rfl, show (atL l i).2 = 90 by rw [ha]]
          go_wp2
          go_ret
          exact ⟨by change Ending.returned (.bool (!decide (i < (l.length : Int)))) = _; rw [decide_eq_false (by omega)]; rfl, XX⟩
      · have ha : atL l i = ([], 90) := if_neg (by omega)
        rw [show bs (atL l i).1 = ({ data := #[] } : ByteArray) by rw [ha]; rfl, show (atL l i).2 = 90 by rw [ha]]
        go_wp2
        go_ret
        exact ⟨rfl, XX⟩
set_option maxRecDepth 100000 in
theorem dawgPlaces_lifted (os : Os) (started : os.Started) (H : Type) (enc : TypeId × Value → H) :
    ReturnsInHanded {} Tryd.checked os 5 .any (fun w args => (Rows.dawgPlacesSpec.pre enc Tryd.prog Tryd.f5 Rows.dawgPlacesRow.domain false w args ∧ laidMetH Tryd.prog laidL w) ∧ sizedMet enc Tryd.prog Tryd.f5 (OpenSpec.ofChange Rows.dawgPlacesSpec) false w args)
      (Rows.dawgPlacesSpec.post enc Tryd.prog Tryd.f5 false true false false) := by
  refine returnsInHanded_of_change_and (C := Tryd.checked) (X := fun w _ => laidMetH Tryd.prog laidL w) (fun _ _ _ hh h => h.of_heap hh) own started (by kernel_rfl) Tryd.func5
    (ChangeSpec.witness_shaped (enc := enc) (C := Tryd.checked) (os := os) (X := fun w _ => laidMetH Tryd.prog laidL w) false (World.laidAll Tryd.prog os laidL) #[.slice none 0 0, .int .i8 0] 8 (World.laidAll_os _ _ _)
      (door_shaped os _) (by kernel_rfl) (by kernel_rfl) (by kernel_rfl) (door_met os _)) ?_
  intro W base args ds gs before hval0 hW hcnd _ hL _
  have hval : ∀ (j : Nat) t v, Tryd.f5.params[j]? = some t → args[j]? = some v → Value.okWide Tryd.prog W .any base t v := hval0
  have hW' := hW
  obtain ⟨p, q, hA0, hV, rfl, hfz, hnd⟩ := hW
  have hA : DataW.TrodAll enc Tryd.prog W 0 (fun _ => true) true Tryd.f5.params.toList args.toList ds p := hA0
  rw [Tryd.params5] at hA hval
  obtain ⟨v0, vs0, d0, ds0, p0, q0, hargs, rfl, rfl, h0, r0⟩ := trodAll_cons hA
  obtain ⟨v1, vs1, d1, ds1, p1, q1, rfl, rfl, rfl, h1, r1⟩ := trodAll_cons r0
  obtain ⟨rfl, rfl, rfl⟩ := trodAll_nil r1
  obtain rfl : args = #[v0, v1] := by cases args; simp_all
  obtain ⟨rfl, rfl⟩ := trodVars_none hV
  obtain ⟨A0, c0, ll0, rfl, hr0, hl0⟩ := open_bytess (hval 0 22 v0 rfl rfl) h0
  obtain ⟨a1, rfl, rfl, rfl, w1⟩ := open_int Tryd.underlying51 (hval 1 51 v1 rfl rfl) h1
  have b1 : -128 ≤ a1 ∧ a1 ≤ 127 := by simpa [Lit.wf, IntKind.min, IntKind.max, IntKind.signed, IntKind.bits] using w1
  have hT : Tb W := tb_of hL
  clear hA0 hval0
  refine (places_walk A0 c0 ll0 a1 W hT hr0 hl0 b1).mono fun e W' ⟨he, hg⟩ => ?_
  subst he
  exact ⟨_, rfl, law_post laidOut (by kernel_rfl) rfl hW' (fun _ _ _ => (trodAll_cons_mk (shut_bool Tryd.underlying4 _) trodAll_mk0)) (fun _ => ⟨rfl, rfl⟩) hg⟩
theorem dawgPlaces_holds : Rows.DawgPlacesSaid :=
  OpenClaim.holds_of_wide 5 Tryd.f5 rfl rfl rfl rfl rfl rfl rfl ⟨rfl, rfl, rfl, rfl, rfl⟩ rfl rfl rfl rfl rfl (by kernel_rfl) Tryd.func5 (by kernel_rfl)
    (of_decide_eq_true (by kernel_rfl)) (by unfold Func.isWrapper; first | (rw [if_pos (by decide +kernel)]; kernel_rfl) | (rw [if_neg (by decide +kernel)]; exact ⟨rfl, rfl⟩))
    (fun os started H enc _ => dawgPlaces_lifted os started H enc)
theorem dawgPlaces_proved : Rows.DawgPlacesCardSaid :=
  Claim7.holds_tied_plain_at .later [] [.data, .data, .data] true (true, "2cfab7a405446e86f36320e8931b4db3dd0b65117ddc1662eb493445956b60ea") true
    dawgPlaces_holds (fun _ h => by cases h) (by kernel_rfl) (fun _ h => by cases h) dawgPlaces_row_tie rfl ⟨rfl, rfl⟩ (by kernel_rfl) rfl
    (fun f fn hf hfn => by
      obtain rfl : f = 5 := Option.some.inj ((show Tryd.prog.funcNamed Rows.dawgPlacesRow.func = some 5 by kernel_rfl).symm.trans hf) |>.symm
      obtain rfl : fn = Tryd.f5 := (Option.some.inj (Tryd.func5.symm.trans hfn)).symm
      exact ⟨by kernel_rfl, fun j t ht => by
        rw [Tryd.params5] at ht
        have hm : t ∈ [22, 51] := by simpa using Array.mem_of_getElem? ht
        have hall : ([22, 51].all fun u => !Tryd.prog.wantsStandIn u) = true := by kernel_rfl
        exact (show Tryd.prog.wantsStandIn t = false by simpa using List.all_eq_true.1 hall t hm)⟩)
    (by kernel_rfl)
end Go.Proofs.YtmmihcophkipoaaDoor
