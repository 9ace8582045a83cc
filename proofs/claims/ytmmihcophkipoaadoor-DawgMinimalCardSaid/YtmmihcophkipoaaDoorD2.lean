import Derived.Test.YtmmihcophkipoaaDoorD1
namespace Go.Proofs.YtmmihcophkipoaaDoor
open Go.ChangeShapes Go.WideShapes Go.ChangeAt Go.RowKit
set_option linter.unusedVariables false
set_option linter.unusedSimpArgs false
attribute [local go_sem] bs_beq bs_bne bs_less bs_size
/-- a slice of words -/
abbrev Ws (l : List W) (v : Value) (w : World) : Prop := Sl 0 1 l.length (sv l) v w
theorem Ow.ws {base : Nat} {l : List W} {v : Value} {w : World} (h : Ow base l v w) : Ws l v w := h.rd
/-- an increasing list with one more word -/
def ins (l : List W) (x : W) : List W := if x ∈ l then l else l.takeWhile (bl · x) ++ x :: l.dropWhile (bl · x)
theorem wix_neg {l : List W} {x : W} : wix l x < 0 ↔ x ∉ l := by
  unfold wix
  by_cases h : x ∈ l
  · rw [if_pos h]; simp [h]
  · rw [if_neg h]; simp [h]
theorem ins_at (l : List W) (x : W) (k : Nat) (hk : k ≤ l.length) (hall : ∀ j (h : j < l.length), j < k → bl l[j] x = true) (hstop : ∀ h : k < l.length, bl l[k] x = false) (hx : x ∉ l) : ins l x = l.take k ++ [x] ++ l.drop k := by
  unfold ins
  rw [if_neg hx]
  have h1 : ∀ y ∈ l.take k, bl y x = true := by
    intro y hy
    obtain ⟨j, hj, rfl⟩ := List.getElem_of_mem hy
    rw [List.length_take] at hj
    rw [List.getElem_take]
    exact hall j (by omega) (by omega)
  have h2 : (l.drop k).takeWhile (bl · x) = [] ∧ (l.drop k).dropWhile (bl · x) = l.drop k := by
    cases hd : l.drop k with
    | nil => simp
    | cons y r =>
      have hlt : k < l.length := by
        rcases Nat.lt_or_ge k l.length with h | h
        · exact h
        · rw [List.drop_of_length_le h] at hd; cases hd
      rw [List.drop_eq_getElem_cons hlt] at hd
      injection hd with e1 e2
      have := hstop hlt
      rw [e1] at this
      simp [this]
  have e : l = l.take k ++ l.drop k := (List.take_append_drop k l).symm
  have e1 : l.takeWhile (bl · x) = l.take k := by
    conv => lhs; rw [e]
    rw [List.takeWhile_append_of_pos h1, h2.1, List.append_nil]
  have e2 : l.dropWhile (bl · x) = l.drop k := by
    conv => lhs; rw [e]
    rw [List.dropWhile_append_of_pos h1, h2.2]
  rw [e1, e2]; simp
set_option maxHeartbeats 1000000 in
theorem insert_any (A : Option Addr) (c : Nat) (l : List W) (x : W) (w : World) (hr : Rd w 0 1 A l.length (sv l)) (hn : l.length ≤ 100000) (hc : l.length ≤ c ∧ c ≤ maxLen) :
    Calls Tryd.prog 36 #[.slice A l.length c, .string (bs x)] w fun e w' => ∃ v, e = .returned v ∧ Ws (ins l x) v w' ∧ Ext w w' := by
  unfold maxLen at hc
  by_cases hx : x ∈ l
  · have hp : ¬ wix l x < 0 := fun h => wix_neg.1 h hx
    have hi : ins l x = l := if_pos hx
    rw [hi]
    clear hi
    have h0 : (0 : Int) ≤ wix l x := by omega
    go_enter Tryd.func36, Tryd.ntmps36
    go_wp2_with fail
    refine (index_any A c l x _ hr (by omega)).mono ?_
    rintro e w1 ⟨rfl, hX⟩
    go_wp2
    go_ret
    exact ⟨_, rfl, ⟨A, c, rfl, hr.ext hX, hc.1, by unfold maxLen; omega⟩, hX⟩
  · have hp : wix l x < 0 := wix_neg.2 hx
    have h0 : ¬ (0 : Int) ≤ wix l x := by omega
    go_enter Tryd.func36, Tryd.ntmps36
    go_wp2_with fail
    refine (index_any A c l x _ hr (by omega)).mono ?_
    rintro e w1 ⟨rfl, hX1⟩
    generalize wix l x = ii at *
    go_wp2_with fail
    go_loopw [5] (fun i wr => ∃ k : Nat, k ≤ l.length ∧ i = .int .i64 k ∧ (∀ j (h : j < l.length), j < k → bl l[j] x = true) ∧ Ext w wr) (fun i _ => 1000001 - (intOf i).toNat)
    case atStart => exact ⟨0, by omega, rfl, fun j _ h => absurd h (by omega), hX1⟩
    case round =>
      clear hX1
      obtain ⟨k, hk, rfl, hall, hX⟩ := hrel
      have fin : (∀ h : k < l.length, bl l[k] x = false) → ins l x = l.take k ++ [x] ++ l.drop k := fun h => ins_at l x k hk hall h hx
      by_cases hlt : k < l.length
      · have hlt' : (k : Int) < l.length := by omega
        obtain ⟨ad, e1, hab, hcl⟩ := (hr.ext hX).one hlt (sv_at l k hlt)
        subst e1
        by_cases hb : bl l[k] x = true
        · have HA := Lib.hid (show ∀ j (h : j < l.length), j < k + 1 → bl l[j] x = true from fun j hj hjk => by
            by_cases e : j = k
            · subst e; exact hb
            · exact hall j hj (by omega))
          clear hall fin
          generalize l[k] = y at *
          go_wp2
          exact ⟨⟨k + 1, by omega, by go_num, HA.out, hX⟩, by simp only [intOf]; omega⟩
        · have hbf : bl l[k] x = false := by simpa using hb
          have HF := Lib.hid (fin fun _ => hbf)
          clear hall fin hb
          generalize l[k] = y at *
          go_wp2_with (at_builtin; apply halt_here)
          apply go_on
          have hE0 : Ext w wr := hX
          have O0 := own_nil wr wr.heap.size (Nat.le_refl _)
          have hrt := ((hr.ext hX).take hk).alloc (Obj.cells #[] 9)
          rw [Nat.mul_one, sv_take] at hrt
          refine wp_app_str rfl _ _ rfl wr.heap.size [] _ rfl O0 _ _ c (l.take k) 0 (by rw [List.length_take, Nat.min_eq_left hk]) rfl hrt (by simp) (by simp; omega) ?_
          intro v1 w2 O1 _ _ hb1
          rw [List.nil_append] at O1
          have hX2 : Ext w w2 := ((show Below w.heap.size w wr from hX).alloc hX.le _).trans (hb1.mono hX.le)
          have hle2 : wr.heap.size ≤ w2.heap.size := by have := hb1.size; simp at this; omega
          go_wp2_with (at_builtin; apply halt_here)
          apply go_on
          refine wp_app_str rfl _ _ rfl wr.heap.size (l.take k) _ rfl (own_alloc_w O1 _) _ _ _ [x] 9 rfl rfl (Rd.newAt w2 _ rfl 9 1 1 #[.string (bs x)] (0, 0) _ rfl rfl) (by simp; omega) (by simp; omega) ?_
          intro v2 w3 O2 _ _ hb2
          have hX3 : Ext w w3 := ((show Below w.heap.size w w2 from hX2).alloc hX2.le _).trans (hb2.mono hX.le)
          have hle3 : wr.heap.size ≤ w3.heap.size := by have := hb2.size; simp at this; omega
          have hrc := (hr.ext hX3).cut hk hc.1
          rw [Nat.mul_one, sv_drop] at hrc
          go_wp2_with (at_builtin; apply halt_here)
          all_goals apply go_on
          all_goals
            refine wp_app_str rfl _ _ rfl wr.heap.size (l.take k ++ [x]) _ rfl O2 _ _ _ (l.drop k) 0 (by simp) rfl (by first | (rw [if_pos rfl] at hrc; exact hrc) | (rw [if_pos (by assumption)] at hrc; exact hrc) | (rw [if_neg (by assumption)] at hrc; exact hrc) | (rw [if_neg (by omega)] at hrc; exact hrc)) (by omega) (by simp; omega) ?_
            intro v3 w4 O3 _ _ hb3
            have hX4 : Ext w w4 := (show Below w.heap.size w w3 from hX3).trans (hb3.mono hX.le)
            have hfin := HF.out
            have HP : Ws (ins l x) v3 w4 := by rw [hfin]; exact O3.ws
            have HP2 := Lib.hid HP
            clear HP hfin hb1 hb2 hb3 O0 O1 O2 O3 hrt hrc hX hX2 hX3 hE0
            go_wp2
            go_ret
            exact ⟨_, rfl, HP2.out, hX4⟩
      · have HF := Lib.hid (fin fun h => absurd h hlt)
        have hlt' : ¬ (k : Int) < l.length := by omega
        clear hall fin
        go_wp2_with (at_builtin; apply halt_here)
        apply go_on
        have hE0 : Ext w wr := hX
        have O0 := own_nil wr wr.heap.size (Nat.le_refl _)
        have hrt := ((hr.ext hX).take hk).alloc (Obj.cells #[] 9)
        rw [Nat.mul_one, sv_take] at hrt
        refine wp_app_str rfl _ _ rfl wr.heap.size [] _ rfl O0 _ _ c (l.take k) 0 (by rw [List.length_take, Nat.min_eq_left hk]) rfl hrt (by simp) (by simp; omega) ?_
        intro v1 w2 O1 _ _ hb1
        rw [List.nil_append] at O1
        have hX2 : Ext w w2 := ((show Below w.heap.size w wr from hX).alloc hX.le _).trans (hb1.mono hX.le)
        have hle2 : wr.heap.size ≤ w2.heap.size := by have := hb1.size; simp at this; omega
        go_wp2_with (at_builtin; apply halt_here)
        apply go_on
        refine wp_app_str rfl _ _ rfl wr.heap.size (l.take k) _ rfl (own_alloc_w O1 _) _ _ _ [x] 9 rfl rfl (Rd.newAt w2 _ rfl 9 1 1 #[.string (bs x)] (0, 0) _ rfl rfl) (by simp; omega) (by simp; omega) ?_
        intro v2 w3 O2 _ _ hb2
        have hX3 : Ext w w3 := ((show Below w.heap.size w w2 from hX2).alloc hX2.le _).trans (hb2.mono hX.le)
        have hle3 : wr.heap.size ≤ w3.heap.size := by have := hb2.size; simp at this; omega
        have hrc := (hr.ext hX3).cut hk hc.1
        rw [Nat.mul_one, sv_drop] at hrc
        go_wp2_with (at_builtin; apply halt_here)
        all_goals apply go_on
        all_goals
          refine wp_app_str rfl _ _ rfl wr.heap.size (l.take k ++ [x]) _ rfl O2 _ _ _ (l.drop k) 0 (by simp) rfl (by first | (rw [if_pos rfl] at hrc; exact hrc) | (rw [if_pos (by assumption)] at hrc; exact hrc) | (rw [if_neg (by assumption)] at hrc; exact hrc) | (rw [if_neg (by omega)] at hrc; exact hrc)) (by omega) (by simp; omega) ?_
          intro v3 w4 O3 _ _ hb3
          have hX4 : Ext w w4 := (show Below w.heap.size w w3 from hX3).trans (hb3.mono hX.le)
          have hfin := HF.out
          have HP : Ws (ins l x) v3 w4 := by rw [hfin]; exact O3.ws
          have HP2 := Lib.hid HP
          clear HP hfin hb1 hb2 hb3 O0 O1 O2 O3 hrt hrc hX hX2 hX3 hE0
          go_wp2
          go_ret
          exact ⟨_, rfl, HP2.out, hX4⟩
end Go.Proofs.YtmmihcophkipoaaDoor
