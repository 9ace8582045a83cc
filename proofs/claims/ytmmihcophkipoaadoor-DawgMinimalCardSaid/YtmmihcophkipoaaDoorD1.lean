import Derived.Test.YtmmihcophkipoaaDoorD0
namespace Go.Proofs.YtmmihcophkipoaaDoor
open Go.ChangeShapes Go.WideShapes Go.ChangeAt Go.RowKit
set_option linter.unusedVariables false
set_option linter.unusedSimpArgs false
attribute [local go_sem] bs_beq bs_bne bs_less bs_size
theorem take_ne {α : Type} {l m : List α} {k : Nat} (h1 : k < l.length) (h2 : k < m.length) : l[k] ≠ m[k] → l ≠ m := by
  rintro h rfl; exact h rfl
theorem same_words_any (A B : Option Addr) (c d : Nat) (l m : List W) (w : World) (hr : Rd w 0 1 A l.length (sv l)) (hs : Rd w 0 1 B m.length (sv m)) (hn : l.length ≤ 1000000) :
    Calls Tryd.prog 31 #[.slice A l.length c, .slice B m.length d] w fun e w' => e = .returned (.bool (decide (l = m))) ∧ Ext w w' := by
  by_cases hl : l.length = m.length
  · obtain ⟨s, hs0⟩ : ∃ s, decide (l = m) = s := ⟨_, rfl⟩
    rw [hs0]
    have HS := Lib.hid hs0
    clear hs0
    have HL := Lib.hid hl
    rw [← hl]
    generalize hN : l.length = n at *
    have HNl := Lib.hid hN
    have HNm := Lib.hid hl.symm
    clear hN hl
    go_enter Tryd.func31, Tryd.ntmps31
    go_wp2_with fail
    go_loopw [5] (fun i wr => ∃ k : Nat, k ≤ n ∧ i = .int .i64 k ∧ l.take k = m.take k ∧ Ext w wr) (fun i _ => 1000001 - (intOf i).toNat)
    case atStart => exact ⟨0, by omega, rfl, by simp, Ext.refl _⟩
    case round =>
      obtain ⟨k, hk, rfl, hall, hX⟩ := hrel
      by_cases hlt : k < n
      · have hlt' : (k : Int) < n := by omega
        have k1 : k < l.length := by have := HNl.out; omega
        have k2 : k < m.length := by have := HNm.out; omega
        obtain ⟨a1, e1, hb1, g1⟩ := (hr.ext hX).one hlt (sv_at l k k1)
        rw [HNm.out] at hs
        obtain ⟨a2, e2, hb2, g2⟩ := (hs.ext hX).one hlt (sv_at m k k2)
        subst e1 e2
        have HT1 := Lib.hid (take_snoc l k k1)
        have HT2 := Lib.hid (take_snoc m k k2)
        have HD := Lib.hid (take_ne k1 k2)
        have HH := Lib.hid hall
        clear hall
        generalize l[k] = s1 at *
        generalize m[k] = s2 at *
        by_cases he : s1 = s2
        · have hd : decide (s1 = s2) = true := by simp [he]
          have HE := Lib.hid he
          clear he
          go_wp2_with fail
          go_quiet (fail)
          go_wp2
          refine ⟨⟨k + 1, by omega, by go_num, ?_, hX.trans (Ext.drewN nq)⟩, by simp only [intOf]; omega⟩
          rw [HT1.out, HT2.out, HH.out, HE.out]
        · have hd : decide (s1 = s2) = false := by simp [he]
          have hS : s = false := by
            rw [← HS.out]; simp only [decide_eq_false_iff_not]; exact HD.out he
          subst hS
          have HE := Lib.hid he
          clear he
          go_wp2_with fail
          go_quiet (fail)
          go_wp2
          go_ret
          exact ⟨rfl, hX.trans (Ext.drewN nq)⟩
      · have hkn : k = n := by omega
        subst hkn
        have hS : s = true := by
          rw [← HS.out]
          simp only [decide_eq_true_eq]
          rw [List.take_of_length_le (by have := HNl.out; omega), List.take_of_length_le (by have := HNm.out; omega)] at hall
          exact hall
        subst hS
        clear hall
        go_wp2
        go_ret
        exact ⟨rfl, hX⟩
  · have hd : decide (l = m) = false := by simp only [decide_eq_false_iff_not]; rintro rfl; exact hl rfl
    rw [hd]
    clear hd
    go_enter Tryd.func31, Tryd.ntmps31
    go_wp2
    go_ret
    exact ⟨rfl, Ext.refl _⟩
/-- a new row of words -/
def Ow (base : Nat) (l : List W) (v : Value) (w : World) : Prop := w.ownsRow base 9 1 v l.length (sv l)
theorem Ow.rd {base : Nat} {l : List W} {v : Value} {w : World} (h : Ow base l v w) : ∃ A c, v = .slice A l.length c ∧ Rd w 0 1 A l.length (sv l) ∧ l.length ≤ c ∧ c ≤ maxLen := by
  obtain ⟨A, c, e, h1, h2, h3⟩ := own_form h
  exact ⟨A, c, e, h1.untyped, h2, h3⟩
theorem own_nil (w : World) (base : Nat) (h : base ≤ w.heap.size) : Ow base [] (.slice (some ⟨w.heap.size, 0, none⟩) 0 0) (w.alloc (.cells #[] 9)) := by
  have := World.ownsRow_made (base := base) (e := 9) (size := 1) w #[] 0 h (by simp [maxLen]) (by simp)
  simpa [Ow, sv] using this
theorem own_ext {base : Nat} {l : List W} {v : Value} {w w' : World} (h : Ow base l v w) (hE : Ext w w') : Ow base l v w' := own_below h hE (Nat.le_refl _)
theorem own_alloc_w {base : Nat} {l : List W} {v : Value} {w : World} (h : Ow base l v w) (o : Obj) : Ow base l v (w.alloc o) := own_alloc h o
/-- append onto a row of words of the call's own -/
theorem wp_app_str {w : World} {ops : Array Oper} {rest : List Oper} {o : Oper} {a : Act} {Q : Exit → Act → World → Prop} (hgd : o.guard = none) (s x : Operand)
    (ho : o.op = .call { callee := .builtin .append, args := #[s, x], argTypes := #[25, 25] }) (base : Nat) (l : List W) (v : Value) (hs : a.eval s = v) (hO : Ow base l v w)
    (B : Option Addr) (m d : Nat) (news : List W) (e' : TypeId) (hm : m = news.length) (hx : a.eval x = .slice B m d) (hr : Rd w e' 1 B m (sv news)) (hb : base ≤ w.heap.size) (hlen : l.length + news.length ≤ 1000000)
    (K : ∀ v' w', Ow base (l ++ news) v' w' → w.grownBy w' v.ownBlock → (v'.ownBlock = v.ownBlock ∨ v'.ownBlock = some w.heap.size) → Below base w w' → wpList Tryd.prog ops Q rest (a.put o.dst v') w') : wpList Tryd.prog ops Q (o :: rest) a w := by
  subst hm
  obtain ⟨i0, hi0, hz0, hz1, hz2⟩ := info_parts str_info
  refine wpList_app hgd s x 25 ho base 9 i0 _ 1 16 Tryd.underlying25 hi0 hz0 hz1 hz2 rfl (by decide) v l.length (sv l) hs hO e' B news.length d (sv news) hx hr (sv_one _) (by simp only [maxLen]; omega) (by omega) hb ?_
  intro v' w' h1 h2 h3 h4
  refine K v' w' ?_ h2 h3 h4
  unfold Ow
  rw [List.length_append, sv_append]
  exact h1
def del (l : List W) (x : W) : List W := l.filter fun y => decide (y ≠ x)
theorem del_take (l : List W) (x : W) (k : Nat) (h : k < l.length) : del (l.take (k + 1)) x = del (l.take k) x ++ (if l[k] ≠ x then [l[k]] else []) := by
  unfold del
  rw [take_snoc l k h, List.filter_append]
  congr 1
  by_cases he : l[k] = x <;> simp [he]
theorem del_len (l : List W) (x : W) : (del l x).length ≤ l.length := List.length_filter_le _ _
theorem without_any (A : Option Addr) (c : Nat) (l : List W) (x : W) (w : World) (hr : Rd w 0 1 A l.length (sv l)) (hn : l.length ≤ 100000) :
    Calls Tryd.prog 37 #[.slice A l.length c, .string (bs x)] w fun e w' => ∃ v, e = .returned v ∧ Ow w.heap.size (del l x) v w' ∧ Ext w w' := by
  go_enter Tryd.func37, Tryd.ntmps37
  go_wp2_with fail
  go_loopw [5, 6] (fun v i wr => ∃ (k : Nat) (m : List W), k ≤ l.length ∧ i = .int .i64 k ∧ m = del (l.take k) x ∧ Ow w.heap.size m v wr ∧ Ext w wr) (fun _ i _ => 1000001 - (intOf i).toNat)
  case atStart => exact ⟨0, [], by omega, rfl, rfl, own_nil _ _ (Nat.le_refl _), by unfold Ext; go_grown⟩
  case round =>
    obtain ⟨k, m, hk, rfl, hm, hO, hX⟩ := hrel
    have hml : m.length ≤ k := by rw [hm]; exact Nat.le_trans (del_len _ _) (by rw [List.length_take]; omega)
    by_cases hlt : k < l.length
    · have hlt' : (k : Int) < l.length := by omega
      obtain ⟨ad, e1, hab, hc⟩ := (hr.ext hX).one hlt (sv_at l k hlt)
      subst e1
      have HX := Lib.hid (del_take l x k hlt)
      rw [← hm] at HX
      clear hm
      generalize l[k] = y at *
      by_cases he : y = x
      · have hd : decide (y = x) = true := by simp [he]
        have HE := Lib.hid (show _ = m from HX.out.trans (by simp [he]))
        clear he
        go_wp2
        exact ⟨⟨k + 1, m, by omega, by go_num, HE.out.symm, hO, hX⟩, by simp only [intOf]; omega⟩
      · have hd : decide (y = x) = false := by simp [he]
        have HE := Lib.hid (show _ = m ++ [y] from HX.out.trans (by simp [he]))
        clear he
        go_wp2_with (at_builtin; apply halt_here)
        apply go_on
        refine wp_app_str rfl _ _ rfl _ _ _ rfl (own_alloc_w hO _) _ _ _ [y] 9 rfl rfl (Rd.newAt wr _ rfl 9 1 1 #[.string (bs y)] (0, 0) _ rfl rfl) (by have := hX.le; simp; omega) (by simp; omega) ?_
        intro v' w8 hO2 _ _ hbb
        have hX2 : Ext w w8 := ((show Below w.heap.size w wr from hX).alloc hX.le _).trans hbb
        clear hbb hO hX
        go_wp2
        exact ⟨⟨k + 1, m ++ [y], by omega, by go_num, HE.out.symm, hO2, hX2⟩, by simp only [intOf]; omega⟩
    · have hfin : m = del l x := by rw [hm, List.take_of_length_le (by omega)]
      subst hfin
      have HP := Lib.hid hO
      clear hm hml hO
      go_wp2
      go_ret
      exact ⟨_, rfl, HP.out, hX⟩
theorem cut1_cons {c x : UInt8} {t : W} : cut1 c (x :: t) = if x = c then some t else none := rfl
theorem aft_take (l : List W) (c : UInt8) (k : Nat) (h : k < l.length) : aft c (l.take (k + 1)) = aft c (l.take k) ++ (match cut1 c l[k] with | some t => [t] | none => []) := by
  unfold aft
  rw [take_snoc l k h, List.filterMap_append]
  congr 1
  simp only [List.filterMap_cons, List.filterMap_nil]
  cases cut1 c l[k] <;> rfl
theorem aft_len (l : List W) (c : UInt8) : (aft c l).length ≤ l.length := List.length_filterMap_le _ _
theorem after_any (A : Option Addr) (d : Nat) (l : List W) (c : UInt8) (w : World) (hr : Rd w 0 1 A l.length (sv l)) (hn : l.length ≤ 100000) :
    Calls Tryd.prog 80 #[.slice A l.length d, .int .u8 c.toNat] w fun e w' => ∃ v, e = .returned v ∧ Ow w.heap.size (aft c l) v w' ∧ Ext w w' := by
  go_enter Tryd.func80, Tryd.ntmps80
  go_wp2_with fail
  go_loopw [5, 6] (fun v i wr => ∃ (k : Nat) (m : List W), k ≤ l.length ∧ i = .int .i64 k ∧ m = aft c (l.take k) ∧ Ow w.heap.size m v wr ∧ Ext w wr) (fun _ i _ => 1000001 - (intOf i).toNat)
  case atStart => exact ⟨0, [], by omega, rfl, rfl, own_nil _ _ (Nat.le_refl _), by unfold Ext; go_grown⟩
  case round =>
    obtain ⟨k, m, hk, rfl, hm, hO, hX⟩ := hrel
    have hml : m.length ≤ k := by rw [hm]; exact Nat.le_trans (aft_len _ _) (by rw [List.length_take]; omega)
    by_cases hlt : k < l.length
    · have hlt' : (k : Int) < l.length := by omega
      obtain ⟨ad, e1, hab, hc⟩ := (hr.ext hX).one hlt (sv_at l k hlt)
      subst e1
      have HX := Lib.hid (aft_take l c k hlt)
      rw [← hm] at HX
      clear hm
      generalize l[k] = y at *
      cases y with
      | nil =>
        have HE := Lib.hid (show _ = m from HX.out.trans (by simp [cut1]))
        go_wp2
        exact ⟨⟨k + 1, m, by omega, by go_num, HE.out.symm, hO, hX⟩, by simp only [intOf]; omega⟩
      | cons x t =>
        have h0 : (bs (x :: t))[0]'(by rw [bs_size]; simp) = x := rfl
        by_cases he : x = c
        · subst he
          have HE := Lib.hid (show _ = m ++ [t] from HX.out.trans (by simp [cut1]))
          go_wp2_with (at_builtin; apply halt_here)
          apply go_on
          refine wp_app_str rfl _ _ rfl _ _ _ rfl (own_alloc_w hO _) _ _ _ [t] 9 rfl rfl (Rd.newAt wr _ rfl 9 1 1 _ (0, 0) _ (by simp [sv, bs_extract]) rfl) (by have := hX.le; simp; omega) (by simp; omega) ?_
          intro v' w8 hO2 _ _ hbb
          have hX2 : Ext w w8 := ((show Below w.heap.size w wr from hX).alloc hX.le _).trans hbb
          clear hbb hO hX
          go_wp2
          exact ⟨⟨k + 1, m ++ [t], by omega, by go_num, HE.out.symm, hO2, hX2⟩, by simp only [intOf]; omega⟩
        · have HE := Lib.hid (show _ = m from HX.out.trans (by simp [cut1, he]))
          have hne : ¬ ((x.toNat : Int) = c.toNat) := fun e => he (UInt8.toNat_inj.1 (by omega))
          have hnb : (((x.toNat : Int)) == (c.toNat : Int)) = false := beq_eq_false_iff_ne.2 hne
          have hnd : decide ((x.toNat : Int) = c.toNat) = false := decide_eq_false hne
          have hnn : ¬ (x.toNat = c.toNat) := fun e => he (UInt8.toNat_inj.1 e)
          clear he
          go_wp2
          exact ⟨⟨k + 1, m, by omega, by go_num, HE.out.symm, hO, hX⟩, by simp only [intOf]; omega⟩
    · have hfin : m = aft c l := by rw [hm, List.take_of_length_le (by omega)]
      subst hfin
      have HP := Lib.hid hO
      clear hm hml hO
      go_wp2
      go_ret
      exact ⟨_, rfl, HP.out, hX⟩
end Go.Proofs.YtmmihcophkipoaaDoor
