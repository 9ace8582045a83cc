import Derived.Test.YtmmihcophkipoaaDoorD7
namespace Go.Proofs.YtmmihcophkipoaaDoor
open Go.ChangeShapes Go.WideShapes Go.ChangeAt Go.RowKit
set_option linter.unusedVariables false
set_option linter.unusedSimpArgs false
attribute [local go_sem] bs_beq bs_bne bs_less bs_size bs_extract
/-- the place of the arc of a byte, or -1 -/
def aix (l : List (UInt8 × Int)) (c : UInt8) : Int := if l.findIdx (fun a => decide (a.1 = c)) < l.length then (l.findIdx (fun a => decide (a.1 = c)) : Nat) else -1
theorem aix_at (l : List (UInt8 × Int)) (c : UInt8) (k : Nat) (h : k < l.length) (hk : l[k].1 = c) (hall : ∀ j (h : j < l.length), j < k → l[j].1 ≠ c) : aix l c = k := by
  have : l.findIdx (fun a => decide (a.1 = c)) = k := by
    rw [List.findIdx_eq h]
    exact ⟨by simp [hk], fun j hj => by simpa using hall j (by omega) hj⟩
  unfold aix
  rw [this, if_pos h]
theorem aix_none (l : List (UInt8 × Int)) (c : UInt8) (hall : ∀ j (h : j < l.length), l[j].1 ≠ c) : aix l c = -1 := by
  unfold aix
  rw [if_neg]
  intro h
  have := List.findIdx_getElem (w := h)
  simp only [decide_eq_true_eq] at this
  exact hall _ h this
set_option maxRecDepth 100000 in
theorem lead1_any (x c : UInt8) (t : Int) (b1 b2 : Nat) (s : W) (i : Nat) (hi : i < s.length) (hc : s[i] = c) (hn : s.length ≤ maxLen) (w : World) (h1 : Blk w b1 9 #[.string (bs s)]) (h2 : Blk w b2 3 #[.int .i64 i]) :
    Calls Tryd.prog 87 #[.agg #[.int .u8 x.toNat, .int .i64 t], .pointer (some ⟨b1, 0, none⟩), .pointer (some ⟨b2, 0, none⟩)] w fun e w' => e = .returned (.bool (decide (x = c))) ∧ Ext w w' := by
  unfold maxLen at hn
  have hi' : (i : Int) < s.length := by omega
  have hg : (bs s)[i]'(by rw [bs_size]; omega) = c := (bs_get s i hi (by rw [bs_size]; omega)).trans hc
  have X := Blk.new w 49 #[.int .u8 x.toNat, .int .i64 t]
  have h1' := h1.alloc (Obj.cells #[.int .u8 x.toNat, .int .i64 t] 49)
  have h2' := h2.alloc (Obj.cells #[.int .u8 x.toNat, .int .i64 t] 49)
  have HC := Lib.hid hc; clear hc
  by_cases hx : x = c
  · subst hx
    rw [decide_eq_true rfl]
    go_enter Tryd.func87, Tryd.ntmps87
    go_wp2_with fail
    have hc0 : ∀ W : World, Ext (w.alloc (Obj.cells #[.int .u8 x.toNat, .int .i64 t] 49)).drew W → W.cell? ⟨w.heap.size, 0, none⟩ = some (.int .u8 x.toNat) ∧ W.cell? ⟨b1, 0, none⟩ = some (.string (bs s)) ∧ W.cell? ⟨b2, 0, none⟩ = some (.int .i64 i) ∧ True := fun W hE => by
      exact ⟨((X.drew.ext hE).f2).1, ((h1'.drew.ext hE).f1).1, ((h2'.drew.ext hE).f1).1, trivial⟩
    have HC := Lib.hid hc0; clear hc0
    refine wp_region_list2 (by kernel_rfl) 6 Ext [] (by kernel_rfl) (fun _ _ d _ _ h => by cases d <;> exact h) rfl Ext.refl (fun _ _ _ => Ext.trans) trivial ?_
    simp only [List.take_succ_cons, List.take_zero, List.take_nil, List.drop_succ_cons, List.drop_zero, List.drop_nil]
    iterate 6
      refine ph_pure (a' := ?_) rfl rfl ?_ (fun w9 hE hG => pureAt_plain rfl ?_) ?_ ?_
      rotate_left 2
      · clear hG; obtain ⟨z0, z1, z2, _⟩ := HC.out w9 hE; (go_simp; try go_bits); rfl
      · go_simp; rfl
    refine ph_end (fun w9 hE hG => ?_)
    have hXr : Ext (w.alloc (Obj.cells #[.int .u8 x.toNat, .int .i64 t] 49)) w9 := Ext.drew.trans hE
    clear hE hG HC
    go_wp2
    go_ret
    exact ⟨rfl, (Ext.alloc _ _).trans hXr⟩
  · rw [decide_eq_false hx]
    have hne : ¬ ((x.toNat : Int) = c.toNat) := fun e => hx (UInt8.toNat_inj.1 (by omega))
    have hnb : (((x.toNat : Int)) == (c.toNat : Int)) = false := beq_eq_false_iff_ne.2 hne
    have hnn : ¬ (x.toNat = c.toNat) := fun e => hx (UInt8.toNat_inj.1 e)
    clear hx
    go_enter Tryd.func87, Tryd.ntmps87
    go_wp2_with fail
    have hc0 : ∀ W : World, Ext (w.alloc (Obj.cells #[.int .u8 x.toNat, .int .i64 t] 49)).drew W → W.cell? ⟨w.heap.size, 0, none⟩ = some (.int .u8 x.toNat) ∧ W.cell? ⟨b1, 0, none⟩ = some (.string (bs s)) ∧ W.cell? ⟨b2, 0, none⟩ = some (.int .i64 i) ∧ True := fun W hE => by
      exact ⟨((X.drew.ext hE).f2).1, ((h1'.drew.ext hE).f1).1, ((h2'.drew.ext hE).f1).1, trivial⟩
    have HC := Lib.hid hc0; clear hc0
    refine wp_region_list2 (by kernel_rfl) 6 Ext [] (by kernel_rfl) (fun _ _ d _ _ h => by cases d <;> exact h) rfl Ext.refl (fun _ _ _ => Ext.trans) trivial ?_
    simp only [List.take_succ_cons, List.take_zero, List.take_nil, List.drop_succ_cons, List.drop_zero, List.drop_nil]
    iterate 6
      refine ph_pure (a' := ?_) rfl rfl ?_ (fun w9 hE hG => pureAt_plain rfl ?_) ?_ ?_
      rotate_left 2
      · clear hG; obtain ⟨z0, z1, z2, _⟩ := HC.out w9 hE; (go_simp; try go_bits); rfl
      · go_simp; rfl
    refine ph_end (fun w9 hE hG => ?_)
    have hXr : Ext (w.alloc (Obj.cells #[.int .u8 x.toNat, .int .i64 t] 49)) w9 := Ext.drew.trans hE
    clear hE hG HC
    go_wp2
    go_ret
    exact ⟨rfl, (Ext.alloc _ _).trans hXr⟩
set_option maxRecDepth 100000 in
theorem find_any (A : Option Addr) (n d : Nat) (l : List (UInt8 × Int)) (c : UInt8) (b1 b2 : Nat) (s : W) (i : Nat) (hi : i < s.length) (hc : s[i] = c) (hs : s.length ≤ maxLen) (w : World) (h1 : Blk w b1 9 #[.string (bs s)]) (h2 : Blk w b2 3 #[.int .i64 i])
    (hl : n = l.length) (hr : Rd w 0 2 A n (acells l)) (hn : n ≤ 1000000) :
    Calls Tryd.prog 86 #[.slice A n d, .func (.func 87) #[] #[.pointer (some ⟨b1, 0, none⟩), .pointer (some ⟨b2, 0, none⟩)]] w fun e w' => e = .returned (.int .i64 (aix l c)) ∧ Ext w w' := by
  have HL := Lib.hid hl; clear hl
  go_enter Tryd.func86, Tryd.ntmps86
  go_wp2_with fail
  go_loopw [8] (fun i wr => ∃ k : Nat, k ≤ n ∧ i = .int .i64 k ∧ (∀ j (h : j < l.length), j < k → l[j].1 ≠ c) ∧ Ext w wr) (fun i _ => 1000001 - (intOf i).toNat)
  case atStart => exact ⟨0, by omega, rfl, fun j _ h => absurd h (by omega), Ext.refl _⟩
  case round =>
    obtain ⟨k, hk, rfl, hall, hX⟩ := hrel
    by_cases hlt : k < n
    · have hlt' : (k : Int) < n := by omega
      have hkl : k < l.length := by have := HL.out; omega
      obtain ⟨q0, q1⟩ := acells_at l k hkl
      obtain ⟨ad, e1, hb, g0, g1⟩ := (hr.ext hX).twob hlt q0 q1
      subst e1
      clear q0 q1
      have HH := Lib.hid hall
      clear hall
      have HK := Lib.hid (fun e => aix_at l c k hkl e HH.out)
      have HKN := Lib.hid (show l[k].1 ≠ c → ∀ j (h : j < l.length), j < k + 1 → l[j].1 ≠ c from fun hne j hj hjk => by
        by_cases e : j = k
        · subst e; exact hne
        · exact HH.out j hj (by omega))
      generalize l[k] = x at *
      obtain ⟨x, t⟩ := x
      simp only at g0 g1 HK HKN
      go_wp2_with fail
      refine (lead1_any x c t b1 b2 s i hi hc hs _ (h1.ext hX) (h2.ext hX)).mono ?_
      rintro e w1 ⟨rfl, hX1⟩
      by_cases he : x = c
      · have HE := Lib.hid (HK.out he)
        rw [decide_eq_true he]
        clear he HK
        go_wp2
        go_ret
        exact ⟨by rw [HE.out]; rfl, hX.trans hX1⟩
      · have HE := Lib.hid (HKN.out he)
        rw [decide_eq_false he]
        clear he HK
        go_wp2
        exact ⟨⟨k + 1, by omega, by go_num, HE.out, hX.trans hX1⟩, by simp only [intOf]; omega⟩
    · have hnone := aix_none l c (fun j h => hall j h (by have := HL.out; omega))
      have HN := Lib.hid hnone
      have hlt' : ¬ (k : Int) < n := by omega
      clear hnone hall
      go_wp2
      go_ret
      exact ⟨by rw [HN.out]; rfl, hX⟩
end Go.Proofs.YtmmihcophkipoaaDoor
