/-
  DawgBeginnings.
-/
import Derived.Test.YtmmihcophkipoaaDoorSan
import Derived.Test.YtmmihcophkipoaaDoorD36
import Derived.Laws.IdiomStrings
namespace Go.Proofs.YtmmihcophkipoaaDoor
open Go.ChangeShapes Go.WideShapes Go.ChangeAt Go.RowKit
set_option linter.unusedVariables false
set_option linter.unusedSimpArgs false
theorem cnt_root (l : List W) : cnt l [] = l.length := by
  unfold cnt
  rw [List.filter_eq_self.2 (fun u hu => by simp [beg])]
def ind (b : Bool) : Nat := if b = true then 1 else 0
theorem cnt_cons (u : W) (l : List W) (q : W) : cnt (u :: l) q = ind (beg u q) + cnt l q := by
  unfold cnt ind
  rw [List.filter_cons]
  split <;> simp <;> omega
theorem beg_iff (u p : W) : beg u p = true ↔ ∃ t, u = p ++ t := by
  unfold beg
  simp only [Bool.and_eq_true, decide_eq_true_eq]
  constructor
  · rintro ⟨h1, h2⟩
    exact ⟨u.drop p.length, by conv => lhs; rw [← List.take_append_drop p.length u, h2]⟩
  · rintro ⟨t, rfl⟩
    simp
/-- how many of l begin with p and one of the first k bytes -/
def begS (l : List W) (p : W) : Nat → Nat
  | 0 => 0
  | k + 1 => begS l p k + cnt l (p ++ [UInt8.ofNat k])
theorem begS_nil (p : W) (k : Nat) : begS [] p k = 0 := by
  induction k with
  | zero => rfl
  | succ k ih => unfold begS; rw [ih]; rfl
theorem begS_cons (u : W) (l : List W) (p : W) (k : Nat) : begS (u :: l) p k = begS [u] p k + begS l p k := by
  induction k with
  | zero => rfl
  | succ k ih => unfold begS; rw [ih, cnt_cons, cnt_cons u [] _]; simp only [cnt, List.filter_nil, List.length_nil]; omega
theorem begS_no {u p : W} (h : ∀ c, beg u (p ++ [c]) = false) (k : Nat) : begS [u] p k = 0 := by
  induction k with
  | zero => rfl
  | succ k ih => unfold begS; rw [ih, cnt_cons, h]; rfl
theorem beg_snoc (p r : W) (b c : UInt8) : beg (p ++ b :: r) (p ++ [c]) = decide (b = c) := by
  by_cases e : b = c
  · rw [decide_eq_true e, beg_iff]
    exact ⟨r, by subst e; simp⟩
  · rw [decide_eq_false e]
    rw [Bool.eq_false_iff]
    intro h
    obtain ⟨t, ht⟩ := (beg_iff _ _).1 h
    rw [List.append_assoc] at ht
    have := List.append_cancel_left ht
    simp at this
    exact e this.1
theorem begS_one (p r : W) (b : UInt8) (k : Nat) (hk : k ≤ 256) : begS [p ++ b :: r] p k = if b.toNat < k then 1 else 0 := by
  induction k with
  | zero => rfl
  | succ k ih =>
    unfold begS
    rw [ih (by omega), cnt_cons, beg_snoc]
    have hk' : (UInt8.ofNat k).toNat = k := by simp [UInt8.toNat_ofNat']; omega
    have he : decide (b = UInt8.ofNat k) = decide (b.toNat = k) := by
      by_cases h : b = UInt8.ofNat k
      · rw [decide_eq_true h, decide_eq_true (by rw [h, hk'])]
      · rw [decide_eq_false h, decide_eq_false (fun e => h (UInt8.toNat_inj.1 (by rw [e, hk'])))]
    rw [he]
    simp only [cnt, List.filter_nil, List.length_nil, ind, decide_eq_true_eq]
    split <;> split <;> split <;> omega
theorem cnt_parts (l : List W) (p : W) : cnt l p = l.count p + begS l p 256 := by
  induction l with
  | nil => rw [begS_nil]; rfl
  | cons u l ih =>
    rw [cnt_cons, begS_cons, ih, List.count_cons]
    have key : ind (beg u p) = (if u == p then 1 else 0) + begS [u] p 256 := by
      by_cases h : beg u p = true
      · obtain ⟨t, rfl⟩ := (beg_iff _ _).1 h
        rw [h]
        cases t with
        | nil =>
          rw [begS_no (fun c => by
            rw [Bool.eq_false_iff]
            intro h
            obtain ⟨t, ht⟩ := (beg_iff _ _).1 h
            have := congrArg List.length ht
            simp at this)]
          simp [ind]
        | cons b r =>
          rw [begS_one p r b 256 (by omega), if_pos b.toNat_lt]
          simp [ind]
      · rw [Bool.eq_false_iff.2 h, begS_no (fun c => by
            rw [Bool.eq_false_iff]
            intro h'
            obtain ⟨t, ht⟩ := (beg_iff _ _).1 h'
            exact h ((beg_iff _ _).2 ⟨[c] ++ t, by rw [ht, List.append_assoc]⟩))]
        have : ¬ u = p := fun e => h ((beg_iff _ _).2 ⟨[], by simp [e]⟩)
        simp [ind, this]
    rw [key]
    omega
theorem cnt_beg {l : List W} (hu : Up l) (p : W) : cnt l p = (if p ∈ l then 1 else 0) + begS l p 256 := by
  rw [cnt_parts, hu.nodup.count]
theorem begS_le (l : List W) (p : W) (k : Nat) : begS l p k ≤ k * l.length := by
  induction k with
  | zero => exact Nat.zero_le _
  | succ k ih =>
    unfold begS
    have := List.length_filter_le (beg · (p ++ [UInt8.ofNat k])) l
    unfold cnt
    rw [Nat.succ_mul]
    omega
theorem bs_len (s : W) : (bs s).size = s.length := by simp [bs, ByteArray.size]
theorem slice_pre (s : W) (k : Nat) (h : k ≤ s.length) (hm : s.length ≤ maxLen) (w : World) : (Instr.slice 9 (.string (bs s)) none (some (.int .i64 k)) none).run Tryd.prog w = .ok (.string (bs (s.take k))) w := by
  rw [run_slice_string_h w 9 (bs s) Tryd.underlying9 .i64 k (by omega) (by rw [bs_len]; omega)]
  have e : (bs s).extract 0 ((k : Int).toNat) = bs (s.take k) := by
    apply ByteArray.ext
    apply Array.toList_inj.1
    simp [bs]
  rw [e]
theorem one_byte (k : Nat) (h : k < 256) (w : World) : (convert 23 9 (.slice (some ⟨w.heap.size, 0, none⟩) 1 1)).run Tryd.prog (w.alloc (Obj.cells #[.int .u8 k] 5)) = .ok (.string (bs [UInt8.ofNat k])) (w.alloc (Obj.cells #[.int .u8 k] 5)) := by
  have hk' : (UInt8.ofNat k).toNat = k := by simp [UInt8.toNat_ofNat']; omega
  refine run_convert_bytes_back _ 23 9 5 ⟨w.heap.size, 0, none⟩ 1 [UInt8.ofNat k] Tryd.underlying23 Tryd.underlying5 Tryd.underlying9 fun j hj => ?_
  obtain rfl : j = 0 := by simpa using hj
  have hb := (Blk.new w 5 #[.int .u8 k]).cell 0
  have : (⟨w.heap.size, 0, none⟩ : Addr).add 0 = ⟨w.heap.size, 0, none⟩ := rfl
  rw [this, hb]
  simp [hk']
attribute [local go_sem] bs_beq bs_bne bs_less bs_size
set_option maxHeartbeats 40000000 in
set_option maxRecDepth 100000 in
theorem begins_walk (A A2 : Option Addr) (c c2 : Nat) (ll : List (List UInt8)) (x : List UInt8) (n : Int) (w : World) (hT : Tb w) (hr : Bss w A ll) (hl : ll.length ≤ maxLen) (hx : Rd w 0 1 A2 x.length (bv x)) (hxl : x.length ≤ maxLen) (hn : 0 ≤ n ∧ n ≤ 255) :
    Calls Tryd.prog 6 #[.slice A ll.length c, .slice A2 x.length c2, .int .u8 n] w fun e w' => e = .returned (.bool true) ∧ Ext w w' := by
  go_enter Tryd.func6, Tryd.ntmps6
  go_wp2_with fail
  refine (sanity_any w hT).mono ?_
  rintro e w1 ⟨rfl, X1⟩
  go_wp2_with fail
  refine (made_t A c 14 ll _ (hr.ext X1) hl (by omega)).mono ?_
  rintro e w2 ⟨v, rfl, hV, X2⟩
  have hd := made_dict ll 14 (by omega) (by omega)
  have hs := sw_made ll 14
  have hlen := made_len ll 14 (by omega)
  generalize made ll 14 = l at *
  obtain ⟨B, d, rfl, hB, hd1, hd2⟩ := hV
  have X12 := X1.trans X2
  clear X1 X2
  go_wp2_with fail
  refine (ref_d hd B d _ hB hd1 hd2).mono ?_
  rintro e w3 ⟨D, dc, rfl, hdc, hdm, hD, X3⟩
  have X13 := X12.trans X3
  clear X12 X3 hB
  go_wp2_with fail
  refine (word_any A2 c2 x _ (hx.ext X13) hxl).mono ?_
  rintro e w4 ⟨rfl, X4⟩
  have hw4 := w4_mk x
  generalize mkword x = s at *
  have hsl := hw4.2
  have X14 := X13.trans X4
  have hD4 := hD.ext X4
  clear X13 X4 hD
  obtain ⟨q, hq⟩ : ∃ q : Nat, n.tmod ((s.length : Int) + 1) = q ∧ q ≤ s.length := by
    obtain ⟨m, rfl⟩ := Int.eq_ofNat_of_zero_le hn.1
    refine ⟨m % (s.length + 1), ?_, ?_⟩
    · rw [Int.tmod_eq_emod_of_nonneg (by omega)]; push_cast; rfl
    · have := Nat.mod_lt m (show 0 < s.length + 1 by omega); omega
  obtain ⟨hq1, hq2⟩ := hq
  have hsp := fun w => slice_pre s q hq2 (by simp only [maxLen]; omega) w
  have hpl : (s.take q).length ≤ 4 := by rw [List.length_take]; omega
  generalize s.take q = p at *
  go_wp2_with fail
  refine (has_d hd D _ p (by simp only [maxLen]; omega) _ hD4).mono ?_
  rintro e w5 ⟨rfl, X5⟩
  have hD5 := hD4.ext X5
  have X15 := X14.trans X5
  clear X14 X5 hD4
  have hcb := cnt_beg hs.up p
  have hcr := cnt_root l
  by_cases hm : p ∈ l
  · rw [decide_eq_true hm]
    rw [if_pos hm] at hcb
    go_wp2_with fail
    go_loopw [12, 13] (fun a i wr => ∃ k : Nat, k ≤ 256 ∧ i = .int .i64 k ∧ a = .int .i64 ((1 + begS l p k : Nat) : Int) ∧ Ext w5 wr) (fun _ i _ => 1000 - (intOf i).toNat)
    case atStart => exact ⟨0, by omega, by go_num, by go_num, Ext.refl _⟩
    case round =>
      obtain ⟨k, hk, rfl, rfl, hX⟩ := hrel
      by_cases hlt : k < 256
      · have hlt' : (k : Int) < 256 := by omega
        have hcv := one_byte k hlt wr
        have X0 : Ext w5 (wr.alloc (Obj.cells #[.int .u8 k] 5)) := hX.trans (Ext.alloc _ _)
        have hbk : 1 + begS l p (k + 1) = 1 + begS l p k + cnt l (p ++ [UInt8.ofNat k]) := by show _ + (_ + _) = _; omega
        have hlk := begS_le l p k
        have hlc : cnt l (p ++ [UInt8.ofNat k]) ≤ l.length := List.length_filter_le _ _
        have happ := bs_append p [UInt8.ofNat k]
        go_wp2_with fail
        refine (count_d hd D _ (p ++ [UInt8.ofNat k]) (by simp [maxLen]; omega) _ (hD5.ext X0)).mono ?_
        rintro e w6 ⟨rfl, X6⟩
        have HB := Lib.hid hbk
        clear hbk
        have hlk2 : begS l p k ≤ 256 * 14 := Nat.le_trans hlk (Nat.mul_le_mul (by omega) hlen)
        clear hlk
        go_wp2
        exact ⟨⟨k + 1, by omega, by go_num, by rw [HB.out]; go_num, X0.trans X6⟩, by simp only [intOf]; omega⟩
      · obtain rfl : k = 256 := by omega
        clear hlt
        go_wp2_with fail
        refine (count_d hd D _ p (by simp only [maxLen]; omega) _ (hD5.ext hX)).mono ?_
        rintro e w6 ⟨rfl, X6⟩
        have X6' := hX.trans X6
        rw [hcb]
        go_wp2_with fail
        refine (count_d hd D _ [] (by decide) _ (hD5.ext X6')).mono ?_
        rintro e w7 ⟨rfl, X7⟩
        rw [hcr]
        go_wp2
        go_ret
        exact ⟨rfl, X15.trans (X6'.trans X7)⟩
  · rw [decide_eq_false hm]
    rw [if_neg hm] at hcb
    go_wp2_with fail
    go_loopw [12, 13] (fun a i wr => ∃ k : Nat, k ≤ 256 ∧ i = .int .i64 k ∧ a = .int .i64 ((0 + begS l p k : Nat) : Int) ∧ Ext w5 wr) (fun _ i _ => 1000 - (intOf i).toNat)
    case atStart => exact ⟨0, by omega, by go_num, by go_num, Ext.refl _⟩
    case round =>
      obtain ⟨k, hk, rfl, rfl, hX⟩ := hrel
      by_cases hlt : k < 256
      · have hlt' : (k : Int) < 256 := by omega
        have hcv := one_byte k hlt wr
        have X0 : Ext w5 (wr.alloc (Obj.cells #[.int .u8 k] 5)) := hX.trans (Ext.alloc _ _)
        have hbk : 0 + begS l p (k + 1) = 0 + begS l p k + cnt l (p ++ [UInt8.ofNat k]) := by show _ + (_ + _) = _; omega
        have hlk := begS_le l p k
        have hlc : cnt l (p ++ [UInt8.ofNat k]) ≤ l.length := List.length_filter_le _ _
        have happ := bs_append p [UInt8.ofNat k]
        go_wp2_with fail
        refine (count_d hd D _ (p ++ [UInt8.ofNat k]) (by simp [maxLen]; omega) _ (hD5.ext X0)).mono ?_
        rintro e w6 ⟨rfl, X6⟩
        have HB := Lib.hid hbk
        clear hbk
        have hlk2 : begS l p k ≤ 256 * 14 := Nat.le_trans hlk (Nat.mul_le_mul (by omega) hlen)
        clear hlk
        go_wp2
        exact ⟨⟨k + 1, by omega, by go_num, by rw [HB.out]; go_num, X0.trans X6⟩, by simp only [intOf]; omega⟩
      · obtain rfl : k = 256 := by omega
        clear hlt
        go_wp2_with fail
        refine (count_d hd D _ p (by simp only [maxLen]; omega) _ (hD5.ext hX)).mono ?_
        rintro e w6 ⟨rfl, X6⟩
        have X6' := hX.trans X6
        rw [hcb]
        go_wp2_with fail
        refine (count_d hd D _ [] (by decide) _ (hD5.ext X6')).mono ?_
        rintro e w7 ⟨rfl, X7⟩
        rw [hcr]
        go_wp2
        go_ret
        exact ⟨rfl, X15.trans (X6'.trans X7)⟩
set_option maxRecDepth 100000 in
theorem dawgBeginnings_lifted (os : Os) (started : os.Started) (H : Type) (enc : TypeId × Value → H) :
    ReturnsInHanded {} Tryd.checked os 6 .any (fun w args => (Rows.dawgBeginningsSpec.pre enc Tryd.prog Tryd.f6 Rows.dawgBeginningsRow.domain false w args ∧ laidMetH Tryd.prog laidL w) ∧ sizedMet enc Tryd.prog Tryd.f6 (OpenSpec.ofChange Rows.dawgBeginningsSpec) false w args)
      (Rows.dawgBeginningsSpec.post enc Tryd.prog Tryd.f6 false true false false) := by
  refine returnsInHanded_of_change_and (C := Tryd.checked) (X := fun w _ => laidMetH Tryd.prog laidL w) (fun _ _ _ hh h => h.of_heap hh) own started (by kernel_rfl) Tryd.func6
    (ChangeSpec.witness_shaped (enc := enc) (C := Tryd.checked) (os := os) (X := fun w _ => laidMetH Tryd.prog laidL w) false (World.laidAll Tryd.prog os laidL) #[.slice none 0 0, .slice none 0 0, .int .u8 0] 8 (World.laidAll_os _ _ _)
      (door_shaped os _) (by kernel_rfl) (by kernel_rfl) (by kernel_rfl) (door_met os _)) ?_
  intro W base args ds gs before hval0 hW hcnd _ hL _
  have hval : ∀ (j : Nat) t v, Tryd.f6.params[j]? = some t → args[j]? = some v → Value.okWide Tryd.prog W .any base t v := hval0
  have hW' := hW
  obtain ⟨p, q, hA0, hV, rfl, hfz, hnd⟩ := hW
  have hA : DataW.TrodAll enc Tryd.prog W 0 (fun _ => true) true Tryd.f6.params.toList args.toList ds p := hA0
  rw [Tryd.params6] at hA hval
  obtain ⟨v0, vs0, d0, ds0, p0, q0, hargs, rfl, rfl, h0, r0⟩ := trodAll_cons hA
  obtain ⟨v1, vs1, d1, ds1, p1, q1, rfl, rfl, rfl, h1, r1⟩ := trodAll_cons r0
  obtain ⟨v2, vs2, d2, ds2, p2, q2, rfl, rfl, rfl, h2, r2⟩ := trodAll_cons r1
  obtain ⟨rfl, rfl, rfl⟩ := trodAll_nil r2
  obtain rfl : args = #[v0, v1, v2] := by cases args; simp_all
  obtain ⟨rfl, rfl⟩ := trodVars_none hV
  obtain ⟨A0, c0, ll0, rfl, hr0, hl0⟩ := open_bytess (hval 0 22 v0 rfl rfl) h0
  obtain ⟨A1, c1, ll1, rfl, hr1, hl1⟩ := open_bytes (hval 1 23 v1 rfl rfl) h1
  obtain ⟨a2, rfl, rfl, rfl, w2⟩ := open_int Tryd.underlying5 (hval 2 5 v2 rfl rfl) h2
  have b2 : 0 ≤ a2 ∧ a2 ≤ 255 := by simpa [Lit.wf, IntKind.min, IntKind.max, IntKind.signed, IntKind.bits] using w2
  have hT : Tb W := tb_of hL
  clear hA0 hval0
  refine (begins_walk A0 A1 c0 c1 ll0 ll1 a2 W hT hr0 hl0 hr1 hl1 b2).mono fun e W' ⟨he, hg⟩ => ?_
  subst he
  exact ⟨_, rfl, law_post laidOut (by kernel_rfl) rfl hW' (fun _ _ _ => (trodAll_cons_mk (shut_bool Tryd.underlying4 _) trodAll_mk0)) (fun _ => ⟨rfl, rfl⟩) hg⟩
theorem dawgBeginnings_holds : Rows.DawgBeginningsSaid :=
  OpenClaim.holds_of_wide 6 Tryd.f6 rfl rfl rfl rfl rfl rfl rfl ⟨rfl, rfl, rfl, rfl, rfl⟩ rfl rfl rfl rfl rfl (by kernel_rfl) Tryd.func6 (by kernel_rfl)
    (of_decide_eq_true (by kernel_rfl)) (by unfold Func.isWrapper; first | (rw [if_pos (by decide +kernel)]; kernel_rfl) | (rw [if_neg (by decide +kernel)]; exact ⟨rfl, rfl⟩))
    (fun os started H enc _ => dawgBeginnings_lifted os started H enc)
theorem dawgBeginnings_proved : Rows.DawgBeginningsCardSaid :=
  Claim7.holds_tied_plain_at .later [] [.data, .data, .data] true (true, "2cfab7a405446e86f36320e8931b4db3dd0b65117ddc1662eb493445956b60ea") true
    dawgBeginnings_holds (fun _ h => by cases h) (by kernel_rfl) (fun _ h => by cases h) dawgBeginnings_row_tie rfl ⟨rfl, rfl⟩ (by kernel_rfl) rfl
    (fun f fn hf hfn => by
      obtain rfl : f = 6 := Option.some.inj ((show Tryd.prog.funcNamed Rows.dawgBeginningsRow.func = some 6 by kernel_rfl).symm.trans hf) |>.symm
      obtain rfl : fn = Tryd.f6 := (Option.some.inj (Tryd.func6.symm.trans hfn)).symm
      exact ⟨by kernel_rfl, fun j t ht => by
        rw [Tryd.params6] at ht
        have hm : t ∈ [22, 23, 5] := by simpa using Array.mem_of_getElem? ht
        have hall : ([22, 23, 5].all fun u => !Tryd.prog.wantsStandIn u) = true := by kernel_rfl
        exact (show Tryd.prog.wantsStandIn t = false by simpa using List.all_eq_true.1 hall t hm)⟩)
    (by kernel_rfl)
end Go.Proofs.YtmmihcophkipoaaDoor
