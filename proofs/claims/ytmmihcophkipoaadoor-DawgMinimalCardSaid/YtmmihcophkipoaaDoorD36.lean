/-
  Insert and Made once more: what they return is a row of strings, where what they are given is.
-/
import Derived.Test.YtmmihcophkipoaaDoorP8
namespace Go.Proofs.YtmmihcophkipoaaDoor
open Go.ChangeShapes Go.WideShapes Go.ChangeAt Go.RowKit
set_option linter.unusedVariables false
set_option linter.unusedSimpArgs false
attribute [local go_sem] bs_beq bs_bne bs_less bs_size
/-- a row of words -/
abbrev Wt (l : List W) (v : Value) (w : World) : Prop := Sl 9 1 l.length (sv l) v w
theorem Ow.wt {base : Nat} {l : List W} {v : Value} {w : World} (h : Ow base l v w) : Wt l v w := own_form h
set_option maxHeartbeats 1000000 in
theorem insert_t (A : Option Addr) (c : Nat) (l : List W) (x : W) (w : World) (hr : Rd w 9 1 A l.length (sv l)) (hn : l.length ≤ 100000) (hc : l.length ≤ c ∧ c ≤ maxLen) :
    Calls Tryd.prog 36 #[.slice A l.length c, .string (bs x)] w fun e w' => ∃ v, e = .returned v ∧ Wt (ins l x) v w' ∧ Ext w w' := by
  unfold maxLen at hc
  by_cases hx : x ∈ l
  · have hp : ¬ wix l x < 0 := fun h => wix_neg.1 h hx
    have hi : ins l x = l := if_pos hx
    rw [hi]
    clear hi
    have h0 : (0 : Int) ≤ wix l x := by omega
    go_enter Tryd.func36, Tryd.ntmps36
    go_wp2_with fail
    refine (index_any A c l x _ hr.untyped (by omega)).mono ?_
    rintro e w1 ⟨rfl, hX⟩
    go_wp2
    go_ret
    exact ⟨_, rfl, ⟨A, c, rfl, hr.ext hX, hc.1, by unfold maxLen; omega⟩, hX⟩
  · have hp : wix l x < 0 := wix_neg.2 hx
    have h0 : ¬ (0 : Int) ≤ wix l x := by omega
    go_enter Tryd.func36, Tryd.ntmps36
    go_wp2_with fail
    refine (index_any A c l x _ hr.untyped (by omega)).mono ?_
    rintro e w1 ⟨rfl, hX1⟩
    generalize wix l x = ii at *
    go_wp2_with fail
    go_loopw [5] (fun i wr => ∃ k : Nat, k ≤ l.length ∧ i = .int .i64 k ∧ (∀ j (h : j < l.length), j < k → bl l[j] x = true) ∧ Ext w wr) (fun i _ => 1000001 - (intOf i).toNat)
    case atStart => exact ⟨0, by omega, rfl, fun j _ h => absurd h (by omega), hX1⟩
    case round =>
      clear hX1
      obtain ⟨k, hk, rfl, hall, hX⟩ := hrel
      have fin : (∀ h : k < l.length, bl l[k] x = false) → ins l x = l.take k ++ [x] ++ l.drop k := fun h => ins_at l x k hk hall h hx
      by_cases hlt : k < l.length
      · have hlt' : (k : Int) < l.length := by omega
        obtain ⟨ad, e1, hab, hcl⟩ := (hr.ext hX).one hlt (sv_at l k hlt)
        subst e1
        by_cases hb : bl l[k] x = true
        · have HA := Lib.hid (show ∀ j (h : j < l.length), j < k + 1 → bl l[j] x = true from fun j hj hjk => by
            by_cases e : j = k
            · subst e; exact hb
            · exact hall j hj (by omega))
          clear hall fin
          generalize l[k] = y at *
          go_wp2
          exact ⟨⟨k + 1, by omega, by go_num, HA.out, hX⟩, by simp only [intOf]; omega⟩
        · have hbf : bl l[k] x = false := by simpa using hb
          have HF := Lib.hid (fin fun _ => hbf)
          clear hall fin hb
          generalize l[k] = y at *
          go_wp2_with (at_builtin; apply halt_here)
          apply go_on
          have hE0 : Ext w wr := hX
          have O0 := own_nil wr wr.heap.size (Nat.le_refl _)
          have hrt := ((hr.ext hX).take hk).alloc (Obj.cells #[] 9)
          rw [Nat.mul_one, sv_take] at hrt
          refine wp_app_str rfl _ _ rfl wr.heap.size [] _ rfl O0 _ _ c (l.take k) 9 (by rw [List.length_take, Nat.min_eq_left hk]) rfl hrt (by simp) (by simp; omega) ?_
          intro v1 w2 O1 _ _ hb1
          rw [List.nil_append] at O1
          have hX2 : Ext w w2 := ((show Below w.heap.size w wr from hX).alloc hX.le _).trans (hb1.mono hX.le)
          have hle2 : wr.heap.size ≤ w2.heap.size := by have := hb1.size; simp at this; omega
          go_wp2_with (at_builtin; apply halt_here)
          apply go_on
          refine wp_app_str rfl _ _ rfl wr.heap.size (l.take k) _ rfl (own_alloc_w O1 _) _ _ _ [x] 9 rfl rfl (Rd.newAt w2 _ rfl 9 1 1 #[.string (bs x)] (0, 0) _ rfl rfl) (by simp; omega) (by simp; omega) ?_
          intro v2 w3 O2 _ _ hb2
          have hX3 : Ext w w3 := ((show Below w.heap.size w w2 from hX2).alloc hX2.le _).trans (hb2.mono hX.le)
          have hle3 : wr.heap.size ≤ w3.heap.size := by have := hb2.size; simp at this; omega
          have hrc := (hr.ext hX3).cut hk hc.1
          rw [Nat.mul_one, sv_drop] at hrc
          go_wp2_with (at_builtin; apply halt_here)
          all_goals apply go_on
          all_goals
            refine wp_app_str rfl _ _ rfl wr.heap.size (l.take k ++ [x]) _ rfl O2 _ _ _ (l.drop k) 9 (by simp) rfl (by first | (rw [if_pos rfl] at hrc; exact hrc) | (rw [if_pos (by assumption)] at hrc; exact hrc) | (rw [if_neg (by assumption)] at hrc; exact hrc) | (rw [if_neg (by omega)] at hrc; exact hrc)) (by omega) (by simp; omega) ?_
            intro v3 w4 O3 _ _ hb3
            have hX4 : Ext w w4 := (show Below w.heap.size w w3 from hX3).trans (hb3.mono hX.le)
            have hfin := HF.out
            have HP : Wt (ins l x) v3 w4 := by rw [hfin]; exact O3.wt
            have HP2 := Lib.hid HP
            clear HP hfin hb1 hb2 hb3 O0 O1 O2 O3 hrt hrc hX hX2 hX3 hE0
            go_wp2
            go_ret
            exact ⟨_, rfl, HP2.out, hX4⟩
      · have HF := Lib.hid (fin fun h => absurd h hlt)
        have hlt' : ¬ (k : Int) < l.length := by omega
        clear hall fin
        go_wp2_with (at_builtin; apply halt_here)
        apply go_on
        have hE0 : Ext w wr := hX
        have O0 := own_nil wr wr.heap.size (Nat.le_refl _)
        have hrt := ((hr.ext hX).take hk).alloc (Obj.cells #[] 9)
        rw [Nat.mul_one, sv_take] at hrt
        refine wp_app_str rfl _ _ rfl wr.heap.size [] _ rfl O0 _ _ c (l.take k) 9 (by rw [List.length_take, Nat.min_eq_left hk]) rfl hrt (by simp) (by simp; omega) ?_
        intro v1 w2 O1 _ _ hb1
        rw [List.nil_append] at O1
        have hX2 : Ext w w2 := ((show Below w.heap.size w wr from hX).alloc hX.le _).trans (hb1.mono hX.le)
        have hle2 : wr.heap.size ≤ w2.heap.size := by have := hb1.size; simp at this; omega
        go_wp2_with (at_builtin; apply halt_here)
        apply go_on
        refine wp_app_str rfl _ _ rfl wr.heap.size (l.take k) _ rfl (own_alloc_w O1 _) _ _ _ [x] 9 rfl rfl (Rd.newAt w2 _ rfl 9 1 1 #[.string (bs x)] (0, 0) _ rfl rfl) (by simp; omega) (by simp; omega) ?_
        intro v2 w3 O2 _ _ hb2
        have hX3 : Ext w w3 := ((show Below w.heap.size w w2 from hX2).alloc hX2.le _).trans (hb2.mono hX.le)
        have hle3 : wr.heap.size ≤ w3.heap.size := by have := hb2.size; simp at this; omega
        have hrc := (hr.ext hX3).cut hk hc.1
        rw [Nat.mul_one, sv_drop] at hrc
        go_wp2_with (at_builtin; apply halt_here)
        all_goals apply go_on
        all_goals
          refine wp_app_str rfl _ _ rfl wr.heap.size (l.take k ++ [x]) _ rfl O2 _ _ _ (l.drop k) 9 (by simp) rfl (by first | (rw [if_pos rfl] at hrc; exact hrc) | (rw [if_pos (by assumption)] at hrc; exact hrc) | (rw [if_neg (by assumption)] at hrc; exact hrc) | (rw [if_neg (by omega)] at hrc; exact hrc)) (by omega) (by simp; omega) ?_
          intro v3 w4 O3 _ _ hb3
          have hX4 : Ext w w4 := (show Below w.heap.size w w3 from hX3).trans (hb3.mono hX.le)
          have hfin := HF.out
          have HP : Wt (ins l x) v3 w4 := by rw [hfin]; exact O3.wt
          have HP2 := Lib.hid HP
          clear HP hfin hb1 hb2 hb3 O0 O1 O2 O3 hrt hrc hX hX2 hX3 hE0
          go_wp2
          go_ret
          exact ⟨_, rfl, HP2.out, hX4⟩
set_option maxHeartbeats 1000000 in
theorem made_t (A : Option Addr) (c n : Nat) (ll : List (List UInt8)) (w : World) (hr : Bss w A ll) (hl : ll.length ≤ maxLen) (hn : n ≤ 20) :
    Calls Tryd.prog 19 #[.slice A ll.length c, .int .i64 n] w fun e w' => ∃ v, e = .returned v ∧ Wt (made ll n) v w' ∧ Ext w w' := by
  unfold maxLen at hl
  go_enter Tryd.func19, Tryd.ntmps19
  go_wp2_with fail
  go_loopw [5, 6] (fun v i wr => ∃ k : Nat, k ≤ ll.length ∧ k ≤ n ∧ i = .int .i64 k ∧ Wt (grow (ll.take k)) v wr ∧ Ext w wr) (fun _ i _ => 100 - (intOf i).toNat)
  case atStart => exact ⟨0, by omega, by omega, rfl, (own_nil w w.heap.size (Nat.le_refl _)).wt, Ext.alloc _ _⟩
  case round =>
    obtain ⟨k, hk, hkn, rfl, hV, hX⟩ := hrel
    obtain ⟨B, d, rfl, hB, hd1, hd2⟩ := hV
    have hgl := grow_len ll k
    by_cases hlt : k < ll.length ∧ k < n
    · obtain ⟨hlt, hlt2⟩ := hlt
      have hlt' : (k : Int) < ll.length := by omega
      have hlt5 : (k : Int) < n := by omega
      obtain ⟨ad, a, c2, e1, hab, hc, hb, hbl⟩ := (hr.ext hX).at_ hlt
      subst e1
      have HX := Lib.hid (grow_snoc ll k hlt)
      generalize grow (ll.take k) = cur at *
      generalize ll[k] = b at *
      go_wp2_with fail
      refine (word_any a c2 b _ hb hbl).mono ?_
      rintro e w1 ⟨rfl, hX1⟩
      go_wp2_with fail
      refine (insert_t B d cur (mkword b) _ (hB.ext hX1) (by omega) ⟨hd1, hd2⟩).mono ?_
      rintro e w2 ⟨v2, rfl, hV2, hX2⟩
      go_wp2
      refine ⟨⟨k + 1, by omega, by omega, by go_num, by rw [HX.out]; exact hV2, hX.trans (hX1.trans hX2)⟩, by simp only [intOf]; omega⟩
    · have hm : grow (ll.take k) = grow (ll.take n) := by
        by_cases h : k = n
        · rw [h]
        · rw [List.take_of_length_le (by omega), List.take_of_length_le (by omega)]
      have hW : made ll n = if grow (ll.take n) = [] then [[65]] else grow (ll.take n) := rfl
      obtain ⟨m, hm2⟩ : ∃ m, grow (ll.take n) = m := ⟨_, rfl⟩
      rw [hm, hm2] at hgl hB hd1 ⊢
      rw [hm2] at hW
      have HW := Lib.hid hW
      clear hm hm2 hW
      have h2 : (k : Int) < ll.length → ¬ (k : Int) < n := by omega
      cases m with
      | nil =>
        have HM := Lib.hid (show made ll n = [[65]] from HW.out.trans (if_pos rfl))
        have hnew : ∀ W : World, Wt [[65]] (.slice (some ⟨W.heap.size, 0, none⟩) 1 1) (W.alloc (Obj.cells #[.string { data := #[65] }] 9)) := fun W => ⟨_, _, rfl, (Rd.newAt W _ rfl 9 1 1 #[.string { data := #[65] }] (0, 0) _ rfl rfl), Nat.le_refl _, by simp [maxLen]⟩
        have HNW := Lib.hid hnew
        clear hnew
        by_cases h1 : (k : Int) < ll.length
        · have h3 := h2 h1
          clear hlt h2
          go_wp2
          go_ret
          exact ⟨_, rfl, by rw [HM.out]; exact HNW.out wr, hX.trans (Ext.alloc _ _)⟩
        · clear hlt h2
          go_wp2
          go_ret
          exact ⟨_, rfl, by rw [HM.out]; exact HNW.out wr, hX.trans (Ext.alloc _ _)⟩
      | cons x t =>
        have HM := Lib.hid (show made ll n = x :: t from HW.out.trans (if_neg (by simp)))
        by_cases h1 : (k : Int) < ll.length
        · have h3 := h2 h1
          clear hlt h2
          go_wp2
          go_ret
          exact ⟨_, rfl, by rw [HM.out]; exact ⟨B, d, rfl, hB, hd1, hd2⟩, hX⟩
        · clear hlt h2
          go_wp2
          go_ret
          exact ⟨_, rfl, by rw [HM.out]; exact ⟨B, d, rfl, hB, hd1, hd2⟩, hX⟩
end Go.Proofs.YtmmihcophkipoaaDoor
