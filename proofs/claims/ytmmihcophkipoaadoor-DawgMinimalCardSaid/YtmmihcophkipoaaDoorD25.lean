/-
  The search for the end of the first group of words (slices.IndexFunc with the closure of shapes.of).
-/
import Derived.Test.YtmmihcophkipoaaDoorD24
namespace Go.Proofs.YtmmihcophkipoaaDoor
open Go.ChangeShapes Go.WideShapes Go.ChangeAt Go.RowKit
set_option linter.unusedVariables false
set_option linter.unusedSimpArgs false
attribute [local go_sem] bs_beq bs_bne bs_less bs_size bs_extract
set_option maxRecDepth 100000 in
theorem grp1_any (bl n d : Nat) (A : Option Addr) (x c : UInt8) (u t : W) (r : List W) (w : World) (hB : Blk w bl 25 #[.slice A n d]) (hn : n = r.length + 1) (hr : Rd w 0 1 A n (sv ((c :: t) :: r))) :
    Calls Tryd.prog 77 #[.string (bs (x :: u)), .pointer (some ⟨bl, 0, none⟩)] w fun e w' => e = .returned (.bool (decide (x ≠ c))) ∧ Ext w w' := by
  have hn' : (0 : Int) < n := by omega
  obtain ⟨ad, e1, hab, hc⟩ := hr.one (i := 0) (by omega) (u0 := .string (bs (c :: t))) rfl
  have e2 : ad.add 0 = ad := by unfold Addr.add; simp
  rw [e2] at hc hab
  subst e1
  have g1 : (bs (x :: u))[0]'(by rw [bs_size]; simp) = x := rfl
  have g2 : (bs (c :: t))[0]'(by rw [bs_size]; simp) = c := rfl
  have s1 : 0 < (bs (x :: u)).size := by rw [bs_size]; simp
  have s2 : 0 < (bs (c :: t)).size := by rw [bs_size]; simp
  by_cases hx : x = c
  · subst hx
    have hd : decide (x ≠ x) = false := by simp
    rw [hd]
    clear hd
    go_enter Tryd.func77, Tryd.ntmps77
    go_wp2_with fail
    have hc0 : ∀ W : World, Ext w.drew W → W.cell? ⟨bl, 0, none⟩ = some (.slice (some ad) n d) ∧ W.cell? ad = some (.string (bs (x :: t))) ∧ True := fun W hE => by
      exact ⟨((hB.drew.ext hE).f1).1, cell_drew hE hab hc, trivial⟩
    have HC := Lib.hid hc0; clear hc0
    refine wp_region_list2 (by kernel_rfl) 7 Ext [] (by kernel_rfl) (fun _ _ d _ _ h => by cases d <;> exact h) rfl Ext.refl (fun _ _ _ => Ext.trans) trivial ?_
    simp only [List.take_succ_cons, List.take_zero, List.take_nil, List.drop_succ_cons, List.drop_zero, List.drop_nil]
    iterate 7
      refine ph_pure (a' := ?_) rfl rfl ?_ (fun w9 hE hG => pureAt_plain rfl ?_) ?_ ?_
      rotate_left 2
      · clear hG; obtain ⟨z0, z1, _⟩ := HC.out w9 hE; (go_simp; try go_bits); rfl
      · go_simp; rfl
    refine ph_end (fun w9 hE hG => ?_)
    have hXr : Ext w w9 := Ext.drew.trans hE
    clear hE hG HC
    go_wp2
    go_ret
    exact ⟨rfl, hXr⟩
  · have hd : decide (x ≠ c) = true := by simp [hx]
    rw [hd]
    clear hd
    have hne : ¬ ((x.toNat : Int) = c.toNat) := fun e => hx (UInt8.toNat_inj.1 (by omega))
    have hnb : (((x.toNat : Int)) == (c.toNat : Int)) = false := beq_eq_false_iff_ne.2 hne
    have hnq : (((x.toNat : Int)) != (c.toNat : Int)) = true := by simpa using hne
    have hnn : ¬ (x.toNat = c.toNat) := fun e => hx (UInt8.toNat_inj.1 e)
    clear hx
    go_enter Tryd.func77, Tryd.ntmps77
    go_wp2_with fail
    have hc0 : ∀ W : World, Ext w.drew W → W.cell? ⟨bl, 0, none⟩ = some (.slice (some ad) n d) ∧ W.cell? ad = some (.string (bs (c :: t))) ∧ True := fun W hE => by
      exact ⟨((hB.drew.ext hE).f1).1, cell_drew hE hab hc, trivial⟩
    have HC := Lib.hid hc0; clear hc0
    refine wp_region_list2 (by kernel_rfl) 7 Ext [] (by kernel_rfl) (fun _ _ d _ _ h => by cases d <;> exact h) rfl Ext.refl (fun _ _ _ => Ext.trans) trivial ?_
    simp only [List.take_succ_cons, List.take_zero, List.take_nil, List.drop_succ_cons, List.drop_zero, List.drop_nil]
    iterate 7
      refine ph_pure (a' := ?_) rfl rfl ?_ (fun w9 hE hG => pureAt_plain rfl ?_) ?_ ?_
      rotate_left 2
      · clear hG; obtain ⟨z0, z1, _⟩ := HC.out w9 hE; (go_simp; try go_bits); rfl
      · go_simp; rfl
    refine ph_end (fun w9 hE hG => ?_)
    have hXr : Ext w w9 := Ext.drew.trans hE
    clear hE hG HC
    go_wp2
    go_ret
    exact ⟨rfl, hXr⟩
set_option maxRecDepth 100000 in
theorem grpend_any (bl n d : Nat) (A : Option Addr) (c : UInt8) (t : W) (r : List W) (w : World) (hne : ∀ u ∈ (c :: t) :: r, u ≠ []) (hB : Blk w bl 25 #[.slice A n d]) (hn : n = r.length + 1) (hnm : n ≤ 1000000) (hr : Rd w 0 1 A n (sv ((c :: t) :: r))) :
    Calls Tryd.prog 76 #[.slice A n d, .func (.func 77) #[] #[.pointer (some ⟨bl, 0, none⟩)]] w fun e w' => e = .returned (.int .i64 (if run1 ((c :: t) :: r) < n then (run1 ((c :: t) :: r) : Nat) else -1)) ∧ Ext w w' := by
  obtain ⟨R, hR⟩ : ∃ R, R = (c :: t) :: r := ⟨_, rfl⟩
  have HR := Lib.hid hR
  have hlen : R.length = n := by rw [hR, hn]; rfl
  have hhd : hd (R.headD []) = c := by rw [hR]; rfl
  rw [← hR] at hne ⊢
  clear hR
  have HL := Lib.hid hlen
  have HH := Lib.hid hhd
  have HN := Lib.hid hn
  clear hlen hhd hn
  obtain ⟨ans, hans⟩ : ∃ ans : Int, (if run1 R < n then ((run1 R : Nat) : Int) else -1) = ans := ⟨_, rfl⟩
  rw [hans]
  have HA := Lib.hid hans
  clear hans
  go_enter Tryd.func76, Tryd.ntmps76
  go_wp2_with fail
  go_loopw [8] (fun i wr => ∃ k : Nat, k ≤ n ∧ i = .int .i64 k ∧ (∀ j (h : j < R.length), j < k → same1 c R[j] = true) ∧ Ext w wr) (fun i _ => 1000001 - (intOf i).toNat)
  case atStart => exact ⟨0, by omega, rfl, fun j _ h => absurd h (by omega), Ext.refl _⟩
  case round =>
    obtain ⟨k, hk, rfl, hall, hX⟩ := hrel
    have HALL := Lib.hid hall
    clear hall
    by_cases hlt : k < n
    · have hlt' : (k : Int) < n := by omega
      have hkl : k < R.length := by have := HL.out; omega
      have hr2 := hr
      rw [← HR.out] at hr2
      obtain ⟨ad, e1, hab, hc⟩ := (hr2.ext hX).one hlt (sv_at R k hkl)
      subst e1
      clear hr2
      have hu := hne _ (List.getElem_mem hkl)
      have HK : Hid (same1 c R[k] = false → ans = k) := Lib.hid fun e => by
        rw [← HA.out, run1_at hkl (fun j h hj => by rw [HH.out]; exact HALL.out j h hj) (by rw [HH.out]; exact e), if_pos hlt]
      have HKN : Hid (same1 c R[k] = true → ∀ j (h : j < R.length), j < k + 1 → same1 c R[j] = true) := Lib.hid fun e j hj hjk => by
        by_cases e2 : j = k
        · subst e2; exact e
        · exact HALL.out j hj (by omega)
      generalize R[k] = y at *
      cases y with
      | nil => exact absurd rfl hu
      | cons x u =>
        clear hu
        go_wp2_with fail
        refine (grp1_any bl n d (some ad) x c u t r _ (hB.ext hX) HN.out (hr.ext hX)).mono ?_
        rintro e w1 ⟨rfl, hX1⟩
        by_cases he : x = c
        · have hsm : same1 c (x :: u) = true := by simp [same1, hd, he]
          have HE := Lib.hid (HKN.out hsm)
          rw [decide_eq_false (not_not_intro he)]
          clear he hsm HK HKN
          go_wp2
          exact ⟨⟨k + 1, by omega, by go_num, HE.out, hX.trans hX1⟩, by simp only [intOf]; omega⟩
        · have hsm : same1 c (x :: u) = false := by simp [same1, hd, he]
          have HE := Lib.hid (HK.out hsm)
          rw [decide_eq_true he]
          clear he hsm HK HKN
          go_wp2
          go_ret
          exact ⟨by rw [HE.out]; rfl, hX.trans hX1⟩
    · have hlt' : ¬ (k : Int) < n := by omega
      have hans : ans = -1 := by
        have h1 : run1 R = R.length := run1_all fun j h => by rw [HH.out]; exact HALL.out j h (by have := HL.out; omega)
        rw [← HA.out, h1, HL.out, if_neg (by omega)]
      have HE := Lib.hid hans
      clear hans
      go_wp2
      go_ret
      exact ⟨by rw [HE.out]; rfl, hX⟩
end Go.Proofs.YtmmihcophkipoaaDoor
