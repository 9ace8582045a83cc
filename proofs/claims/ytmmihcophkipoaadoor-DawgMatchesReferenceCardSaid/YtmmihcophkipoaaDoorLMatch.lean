/-
  DawgMatchesReference.
-/
import Derived.Test.YtmmihcophkipoaaDoorSan
import Derived.Test.YtmmihcophkipoaaDoorD36
namespace Go.Proofs.YtmmihcophkipoaaDoor
open Go.ChangeShapes Go.WideShapes Go.ChangeAt Go.RowKit
set_option linter.unusedVariables false
set_option linter.unusedSimpArgs false
attribute [local go_sem] bs_beq bs_bne bs_less bs_size
theorem bs_len (s : W) : (bs s).size = s.length := by simp [bs, ByteArray.size]
theorem slice_pre (s : W) (k : Nat) (h : k ≤ s.length) (hm : s.length ≤ maxLen) (w : World) : (Instr.slice 9 (.string (bs s)) none (some (.int .i64 k)) none).run Tryd.prog w = .ok (.string (bs (s.take k))) w := by
  rw [run_slice_string_h w 9 (bs s) Tryd.underlying9 .i64 k (by omega) (by rw [bs_len]; omega)]
  have e : (bs s).extract 0 ((k : Int).toNat) = bs (s.take k) := by
    apply ByteArray.ext
    apply Array.toList_inj.1
    simp [bs]
  rw [e]
set_option maxHeartbeats 4000000 in
set_option maxRecDepth 100000 in
theorem matches_walk (A A2 : Option Addr) (c c2 : Nat) (ll : List (List UInt8)) (x : List UInt8) (w : World) (hT : Tb w) (hr : Bss w A ll) (hl : ll.length ≤ maxLen) (hx : Rd w 0 1 A2 x.length (bv x)) (hxl : x.length ≤ maxLen) :
    Calls Tryd.prog 3 #[.slice A ll.length c, .slice A2 x.length c2] w fun e w' => e = .returned (.bool true) ∧ Ext w w' := by
  go_enter Tryd.func3, Tryd.ntmps3
  go_wp2_with fail
  refine (sanity_any w hT).mono ?_
  rintro e w1 ⟨rfl, X1⟩
  go_wp2_with fail
  refine (made_t A c 14 ll _ (hr.ext X1) hl (by omega)).mono ?_
  rintro e w2 ⟨v, rfl, hV, X2⟩
  have hd := made_dict ll 14 (by omega) (by omega)
  have hs := sw_made ll 14
  have hlen := made_len ll 14 (by omega)
  generalize made ll 14 = l at *
  obtain ⟨B, d, rfl, hB, hd1, hd2⟩ := hV
  have X12 := X1.trans X2
  clear X1 X2
  go_wp2_with fail
  refine (build_yes B d l _ hd hB.untyped hd1 hd2 (hT.ext X12)).mono ?_
  rintro e w3 ⟨D, dc, rfl, hdc, hdm, hD, X3⟩
  have hB3 := hB.ext X3
  have X13 := X12.trans X3
  clear X12 X3
  go_wp2_with fail
  refine (ref_d hd B d _ hB3 hd1 hd2).mono ?_
  rintro e w4 ⟨D2, dc2, rfl, hdc2, hdm2, hD2, X4⟩
  go_wp2_with fail
  refine (same_any D D2 _ _ (auto l) (auto l) _ (hD.ext X4) hD2 (by have := dict_alen hd; omega) (dict_arcs hd)).mono ?_
  rintro e w5 ⟨rfl, X5⟩
  rw [decide_eq_true rfl]
  have X35 := X4.trans X5
  have hD5 := hD.ext X35
  have hB5 := hB3.ext X35
  have X15 := X13.trans X35
  clear X4 X5 X35 X13 hB3 hD hD2
  go_wp2_with fail
  refine (valid_d hd D _ _ hD5 (hT.ext X15)).mono ?_
  rintro e w6 ⟨rfl, X6⟩
  have hD6 := hD5.ext X6
  have hB6 := hB5.ext X6
  have X16 := X15.trans X6
  clear X15 X6 hD5 hB5
  go_wp2_with fail
  refine (word_any A2 c2 x _ (hx.ext X16) hxl).mono ?_
  rintro e w7 ⟨rfl, X7⟩
  have hD7 := hD6.ext X7
  have hB7 := hB6.ext X7
  have X17 := X16.trans X7
  clear X16 X7 hD6 hB6
  have hw4 := w4_mk x
  have hwa := hw4.ascii
  generalize mkword x = s at *
  have hsl := hw4.2
  go_wp2_with fail
  go_loopw [10] (fun i wr => ∃ k : Nat, k ≤ s.length + 1 ∧ i = .int .i64 k ∧ Ext w7 wr) (fun i _ => 1000 - (intOf i).toNat)
  case atStart => exact ⟨0, by omega, by go_num, Ext.refl _⟩
  case round =>
    obtain ⟨k, hk, rfl, hX⟩ := hrel
    by_cases hlt : k ≤ s.length
    · have hlt' : (k : Int) ≤ s.length := by omega
      have hsp := fun w => slice_pre s k hlt (by simp only [maxLen]; omega) w
      have hp1 : (s.take k).length ≤ 4 := by rw [List.length_take]; omega
      have hp2 : ∀ c ∈ s.take k, c.toNat < 128 := fun c hc => hwa c (List.mem_of_mem_take hc)
      generalize s.take k = p at *
      go_wp2_with fail
      refine (has_d hd D _ p (by simp only [maxLen]; omega) _ (hD7.ext hX)).mono ?_
      rintro e w8 ⟨rfl, X8⟩
      have X8' := hX.trans X8
      go_wp2_with fail
      refine (index_any B d l p _ (hB7.ext X8').untyped (by omega)).mono ?_
      rintro e w9 ⟨rfl, X9⟩
      have X9' := X8'.trans X9
      have hix : decide (0 ≤ wix l p) = decide (p ∈ l) := by
        unfold wix
        by_cases h : p ∈ l
        · rw [if_pos h, decide_eq_true h]; simp
        · rw [if_neg h, decide_eq_false h]; rfl
      go_wp2_with fail
      refine (index_d hd D _ p (by omega) hp2 _ (hD7.ext X9')).mono ?_
      rintro e w10 ⟨rfl, X10⟩
      have X10' := X9'.trans X10
      go_wp2_with fail
      refine (index_any B d l p _ (hB7.ext X10').untyped (by omega)).mono ?_
      rintro e w11 ⟨rfl, X11⟩
      have X11' := X10'.trans X11
      go_wp2_with fail
      refine (count_d hd D _ p (by simp only [maxLen]; omega) _ (hD7.ext X11')).mono ?_
      rintro e w12 ⟨rfl, X12⟩
      have X12' := X11'.trans X12
      go_wp2_with fail
      refine (rcount_any B d l p _ (hB7.ext X12').untyped (by omega) (fun u hu => by have := hs.small u hu; simp only [maxLen]; omega) (by simp only [maxLen]; omega)).mono ?_
      rintro e w13 ⟨rfl, X13⟩
      have X13' := X12'.trans X13
      clear X8 X8' X9 X9' X10 X10' X11 X11' X12 X12' X13
      go_wp2
      exact ⟨⟨k + 1, by omega, by go_num, X13'⟩, by simp only [intOf]; omega⟩
    · obtain rfl : k = s.length + 1 := by omega
      have hn : ¬ (((s.length + 1 : Nat) : Int) ≤ s.length) := by omega
      go_wp2
      go_ret
      exact ⟨rfl, X17.trans hX⟩
set_option maxRecDepth 100000 in
theorem dawgMatchesReference_lifted (os : Os) (started : os.Started) (H : Type) (enc : TypeId × Value → H) :
    ReturnsInHanded {} Tryd.checked os 3 .any (fun w args => (Rows.dawgMatchesReferenceSpec.pre enc Tryd.prog Tryd.f3 Rows.dawgMatchesReferenceRow.domain false w args ∧ laidMetH Tryd.prog laidL w) ∧ sizedMet enc Tryd.prog Tryd.f3 (OpenSpec.ofChange Rows.dawgMatchesReferenceSpec) false w args)
      (Rows.dawgMatchesReferenceSpec.post enc Tryd.prog Tryd.f3 false true false false) := by
  refine returnsInHanded_of_change_and (C := Tryd.checked) (X := fun w _ => laidMetH Tryd.prog laidL w) (fun _ _ _ hh h => h.of_heap hh) own started (by kernel_rfl) Tryd.func3
    (ChangeSpec.witness_shaped (enc := enc) (C := Tryd.checked) (os := os) (X := fun w _ => laidMetH Tryd.prog laidL w) false (World.laidAll Tryd.prog os laidL) #[.slice none 0 0, .slice none 0 0] 8 (World.laidAll_os _ _ _)
      (door_shaped os _) (by kernel_rfl) (by kernel_rfl) (by kernel_rfl) (door_met os _)) ?_
  intro W base args ds gs before hval0 hW hcnd _ hL _
  have hval : ∀ (j : Nat) t v, Tryd.f3.params[j]? = some t → args[j]? = some v → Value.okWide Tryd.prog W .any base t v := hval0
  have hW' := hW
  obtain ⟨p, q, hA0, hV, rfl, hfz, hnd⟩ := hW
  have hA : DataW.TrodAll enc Tryd.prog W 0 (fun _ => true) true Tryd.f3.params.toList args.toList ds p := hA0
  rw [Tryd.params3] at hA hval
  obtain ⟨v0, vs0, d0, ds0, p0, q0, hargs, rfl, rfl, h0, r0⟩ := trodAll_cons hA
  obtain ⟨v1, vs1, d1, ds1, p1, q1, rfl, rfl, rfl, h1, r1⟩ := trodAll_cons r0
  obtain ⟨rfl, rfl, rfl⟩ := trodAll_nil r1
  obtain rfl : args = #[v0, v1] := by cases args; simp_all
  obtain ⟨rfl, rfl⟩ := trodVars_none hV
  obtain ⟨A0, c0, ll0, rfl, hr0, hl0⟩ := open_bytess (hval 0 22 v0 rfl rfl) h0
  obtain ⟨A1, c1, ll1, rfl, hr1, hl1⟩ := open_bytes (hval 1 23 v1 rfl rfl) h1
  have hT : Tb W := tb_of hL
  clear hA0 hval0
  refine (matches_walk A0 A1 c0 c1 ll0 ll1 W hT hr0 hl0 hr1 hl1).mono fun e W' ⟨he, hg⟩ => ?_
  subst he
  exact ⟨_, rfl, law_post laidOut (by kernel_rfl) rfl hW' (fun _ _ _ => (trodAll_cons_mk (shut_bool Tryd.underlying4 _) trodAll_mk0)) (fun _ => ⟨rfl, rfl⟩) hg⟩
theorem dawgMatchesReference_holds : Rows.DawgMatchesReferenceSaid :=
  OpenClaim.holds_of_wide 3 Tryd.f3 rfl rfl rfl rfl rfl rfl rfl ⟨rfl, rfl, rfl, rfl, rfl⟩ rfl rfl rfl rfl rfl (by kernel_rfl) Tryd.func3 (by kernel_rfl)
    (of_decide_eq_true (by kernel_rfl)) (by unfold Func.isWrapper; first | (rw [if_pos (by decide +kernel)]; kernel_rfl) | (rw [if_neg (by decide +kernel)]; exact ⟨rfl, rfl⟩))
    (fun os started H enc _ => dawgMatchesReference_lifted os started H enc)
theorem dawgMatchesReference_proved : Rows.DawgMatchesReferenceCardSaid :=
  Claim7.holds_tied_plain_at .later [] [.data, .data, .data] true (true, "2cfab7a405446e86f36320e8931b4db3dd0b65117ddc1662eb493445956b60ea") true
    dawgMatchesReference_holds (fun _ h => by cases h) (by kernel_rfl) (fun _ h => by cases h) dawgMatchesReference_row_tie rfl ⟨rfl, rfl⟩ (by kernel_rfl) rfl
    (fun f fn hf hfn => by
      obtain rfl : f = 3 := Option.some.inj ((show Tryd.prog.funcNamed Rows.dawgMatchesReferenceRow.func = some 3 by kernel_rfl).symm.trans hf) |>.symm
      obtain rfl : fn = Tryd.f3 := (Option.some.inj (Tryd.func3.symm.trans hfn)).symm
      exact ⟨by kernel_rfl, fun j t ht => by
        rw [Tryd.params3] at ht
        have hm : t ∈ [22, 23] := by simpa using Array.mem_of_getElem? ht
        have hall : ([22, 23].all fun u => !Tryd.prog.wantsStandIn u) = true := by kernel_rfl
        exact (show Tryd.prog.wantsStandIn t = false by simpa using List.all_eq_true.1 hall t hm)⟩)
    (by kernel_rfl)
end Go.Proofs.YtmmihcophkipoaaDoor
