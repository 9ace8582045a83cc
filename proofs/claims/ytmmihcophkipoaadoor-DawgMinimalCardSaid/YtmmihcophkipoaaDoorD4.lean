import Derived.Test.YtmmihcophkipoaaDoorD3
namespace Go.Proofs.YtmmihcophkipoaaDoor
open Go.ChangeShapes Go.WideShapes Go.ChangeAt Go.RowKit
set_option linter.unusedVariables false
set_option linter.unusedSimpArgs false
attribute [local go_sem] bs_beq bs_bne bs_less bs_size
theorem in_any (n lo hi : Int) (w : World) :
    Calls Tryd.prog 90 #[.int .i64 n, .int .i64 lo, .int .i64 hi] w fun e w' => e = .returned (.bool (decide (lo ≤ n ∧ n ≤ hi))) ∧ w = w' := by
  by_cases h1 : lo ≤ n
  · by_cases h2 : n ≤ hi
    · rw [decide_eq_true (And.intro h1 h2)]
      go_enter Tryd.func90, Tryd.ntmps90
      go_wp2
      go_ret
      exact ⟨rfl, rfl⟩
    · rw [decide_eq_false (fun h => h2 h.2)]
      go_enter Tryd.func90, Tryd.ntmps90
      go_wp2
      go_ret
      exact ⟨rfl, rfl⟩
  · rw [decide_eq_false (fun h => h1 h.1)]
    go_enter Tryd.func90, Tryd.ntmps90
    go_wp2
    go_ret
    exact ⟨rfl, rfl⟩
def plainN (c : Nat) : Bool := (decide (97 ≤ c) && decide (c ≤ 122)) || (decide (65 ≤ c) && decide (c ≤ 90)) || (decide (48 ≤ c) && decide (c ≤ 57))
theorem plain1_nat (c : UInt8) : plain1 c = plainN c.toNat := by
  unfold plain1 plainN
  simp only [UInt8.le_iff_toNat_le]
  rfl
def cls (c : Nat) : Int := if 97 ≤ c ∧ c ≤ 122 then 1 else if 65 ≤ c ∧ c ≤ 90 then 2 else if 48 ≤ c ∧ c ≤ 57 then 3 else 0
theorem cls_plain (c : Nat) : (cls c = 0 ∨ 3 < cls c) ↔ plainN c = false := by
  unfold cls plainN
  by_cases h1 : 97 ≤ c ∧ c ≤ 122
  · simp [h1]
  · by_cases h2 : 65 ≤ c ∧ c ≤ 90
    · rw [if_neg h1, if_pos h2]; simp [h2]
    · by_cases h3 : 48 ≤ c ∧ c ≤ 57
      · rw [if_neg h1, if_neg h2, if_pos h3]; simp [h3]
      · rw [if_neg h1, if_neg h2, if_neg h3]; simp; omega
theorem class_any (c : Nat) (hc : c < 256) (w : World) :
    Calls Tryd.prog 100 #[.int .u8 c] w fun e w' => e = .returned (.int .i64 (cls c)) ∧ w = w' := by
  have hiv : c ≤ 47 ∨ (48 ≤ c ∧ c ≤ 57) ∨ (58 ≤ c ∧ c ≤ 64) ∨ (65 ≤ c ∧ c ≤ 90) ∨ (91 ≤ c ∧ c ≤ 96) ∨ (97 ≤ c ∧ c ≤ 122) ∨ 123 ≤ c := by omega
  rcases hiv with hiv | hiv | hiv | hiv | hiv | hiv | hiv
  · have f0 : ¬ (48 : Int) ≤ c := by omega
    have f1 : ¬ (65 : Int) ≤ c := by omega
    have f2 : ¬ (97 : Int) ≤ c := by omega
    have f3 : (c : Int) ≤ 57 := by omega
    have f4 : (c : Int) ≤ 90 := by omega
    have f5 : (c : Int) ≤ 122 := by omega
    have f6 : (c : Int) < 48 := by omega
    have f7 : (c : Int) < 65 := by omega
    have f8 : (c : Int) < 97 := by omega
    have f9 : ¬ (57 : Int) < c := by omega
    have f10 : ¬ (90 : Int) < c := by omega
    have f11 : ¬ (122 : Int) < c := by omega
    have hcl : cls c = 0 := by unfold cls; rw [if_neg (by omega), if_neg (by omega), if_neg (by omega)]
    rw [hcl]
    clear hcl
    go_enter Tryd.func100, Tryd.ntmps100
    go_wp2
    go_ret
    exact ⟨rfl, rfl⟩
  · have f0 : (48 : Int) ≤ c := by omega
    have f1 : ¬ (65 : Int) ≤ c := by omega
    have f2 : ¬ (97 : Int) ≤ c := by omega
    have f3 : (c : Int) ≤ 57 := by omega
    have f4 : (c : Int) ≤ 90 := by omega
    have f5 : (c : Int) ≤ 122 := by omega
    have f6 : ¬ (c : Int) < 48 := by omega
    have f7 : (c : Int) < 65 := by omega
    have f8 : (c : Int) < 97 := by omega
    have f9 : ¬ (57 : Int) < c := by omega
    have f10 : ¬ (90 : Int) < c := by omega
    have f11 : ¬ (122 : Int) < c := by omega
    have hcl : cls c = 3 := by unfold cls; rw [if_neg (by omega), if_neg (by omega), if_pos (by omega)]
    rw [hcl]
    clear hcl
    go_enter Tryd.func100, Tryd.ntmps100
    go_wp2
    go_ret
    exact ⟨rfl, rfl⟩
  · have f0 : (48 : Int) ≤ c := by omega
    have f1 : ¬ (65 : Int) ≤ c := by omega
    have f2 : ¬ (97 : Int) ≤ c := by omega
    have f3 : ¬ (c : Int) ≤ 57 := by omega
    have f4 : (c : Int) ≤ 90 := by omega
    have f5 : (c : Int) ≤ 122 := by omega
    have f6 : ¬ (c : Int) < 48 := by omega
    have f7 : (c : Int) < 65 := by omega
    have f8 : (c : Int) < 97 := by omega
    have f9 : (57 : Int) < c := by omega
    have f10 : ¬ (90 : Int) < c := by omega
    have f11 : ¬ (122 : Int) < c := by omega
    have hcl : cls c = 0 := by unfold cls; rw [if_neg (by omega), if_neg (by omega), if_neg (by omega)]
    rw [hcl]
    clear hcl
    go_enter Tryd.func100, Tryd.ntmps100
    go_wp2
    go_ret
    exact ⟨rfl, rfl⟩
  · have f0 : (48 : Int) ≤ c := by omega
    have f1 : (65 : Int) ≤ c := by omega
    have f2 : ¬ (97 : Int) ≤ c := by omega
    have f3 : ¬ (c : Int) ≤ 57 := by omega
    have f4 : (c : Int) ≤ 90 := by omega
    have f5 : (c : Int) ≤ 122 := by omega
    have f6 : ¬ (c : Int) < 48 := by omega
    have f7 : ¬ (c : Int) < 65 := by omega
    have f8 : (c : Int) < 97 := by omega
    have f9 : (57 : Int) < c := by omega
    have f10 : ¬ (90 : Int) < c := by omega
    have f11 : ¬ (122 : Int) < c := by omega
    have hcl : cls c = 2 := by unfold cls; rw [if_neg (by omega), if_pos (by omega)]
    rw [hcl]
    clear hcl
    go_enter Tryd.func100, Tryd.ntmps100
    go_wp2
    go_ret
    exact ⟨rfl, rfl⟩
  · have f0 : (48 : Int) ≤ c := by omega
    have f1 : (65 : Int) ≤ c := by omega
    have f2 : ¬ (97 : Int) ≤ c := by omega
    have f3 : ¬ (c : Int) ≤ 57 := by omega
    have f4 : ¬ (c : Int) ≤ 90 := by omega
    have f5 : (c : Int) ≤ 122 := by omega
    have f6 : ¬ (c : Int) < 48 := by omega
    have f7 : ¬ (c : Int) < 65 := by omega
    have f8 : (c : Int) < 97 := by omega
    have f9 : (57 : Int) < c := by omega
    have f10 : (90 : Int) < c := by omega
    have f11 : ¬ (122 : Int) < c := by omega
    have hcl : cls c = 0 := by unfold cls; rw [if_neg (by omega), if_neg (by omega), if_neg (by omega)]
    rw [hcl]
    clear hcl
    go_enter Tryd.func100, Tryd.ntmps100
    go_wp2
    go_ret
    exact ⟨rfl, rfl⟩
  · have f0 : (48 : Int) ≤ c := by omega
    have f1 : (65 : Int) ≤ c := by omega
    have f2 : (97 : Int) ≤ c := by omega
    have f3 : ¬ (c : Int) ≤ 57 := by omega
    have f4 : ¬ (c : Int) ≤ 90 := by omega
    have f5 : (c : Int) ≤ 122 := by omega
    have f6 : ¬ (c : Int) < 48 := by omega
    have f7 : ¬ (c : Int) < 65 := by omega
    have f8 : ¬ (c : Int) < 97 := by omega
    have f9 : (57 : Int) < c := by omega
    have f10 : (90 : Int) < c := by omega
    have f11 : ¬ (122 : Int) < c := by omega
    have hcl : cls c = 1 := by unfold cls; rw [if_pos (by omega)]
    rw [hcl]
    clear hcl
    go_enter Tryd.func100, Tryd.ntmps100
    go_wp2
    go_ret
    exact ⟨rfl, rfl⟩
  · have f0 : (48 : Int) ≤ c := by omega
    have f1 : (65 : Int) ≤ c := by omega
    have f2 : (97 : Int) ≤ c := by omega
    have f3 : ¬ (c : Int) ≤ 57 := by omega
    have f4 : ¬ (c : Int) ≤ 90 := by omega
    have f5 : ¬ (c : Int) ≤ 122 := by omega
    have f6 : ¬ (c : Int) < 48 := by omega
    have f7 : ¬ (c : Int) < 65 := by omega
    have f8 : ¬ (c : Int) < 97 := by omega
    have f9 : (57 : Int) < c := by omega
    have f10 : (90 : Int) < c := by omega
    have f11 : (122 : Int) < c := by omega
    have hcl : cls c = 0 := by unfold cls; rw [if_neg (by omega), if_neg (by omega), if_neg (by omega)]
    rw [hcl]
    clear hcl
    go_enter Tryd.func100, Tryd.ntmps100
    go_wp2
    go_ret
    exact ⟨rfl, rfl⟩

theorem all_snoc (s : W) (k : Nat) (h : k < s.length) : (s.take (k + 1)).all plain1 = ((s.take k).all plain1 && plainN s[k].toNat) := by
  rw [take_snoc s k h, List.all_append]; simp [plain1_nat]
theorem all_stop (s : W) (k : Nat) (h : k < s.length) (hp : plainN s[k].toNat = false) : s.all plain1 = false := by
  rw [List.all_eq_false]
  exact ⟨s[k], List.getElem_mem h, by rw [plain1_nat, hp]; simp⟩
theorem plain_any (s : W) (hn : s.length ≤ maxLen) (w : World) :
    Calls Tryd.prog 91 #[.string (bs s)] w fun e w' => e = .returned (.bool (s.all plain1)) ∧ w = w' := by
  unfold maxLen at hn
  obtain ⟨r, hr⟩ : ∃ r, s.all plain1 = r := ⟨_, rfl⟩
  rw [hr]
  have HR := Lib.hid hr; clear hr
  go_enter Tryd.func91, Tryd.ntmps91
  go_wp2_with fail
  go_loop [3, 4] (fun i _ => ∃ k : Nat, k ≤ s.length ∧ i = .int .i64 k ∧ (s.take k).all plain1 = true) (fun i _ => s.length + 1 - (intOf i).toNat)
  case atStart => exact ⟨0, by omega, rfl, by simp⟩
  case round =>
    obtain ⟨k, hk, rfl, hall⟩ := hrel
    by_cases hlt : k < s.length
    · have hlt' : (k : Int) < s.length := by omega
      have HS := Lib.hid (all_snoc s k hlt)
      have HP := Lib.hid (all_stop s k hlt)
      have hz := bs_size s
      have hg : (bs s)[k]'(by omega) = s[k] := bs_get s k hlt (by omega)
      have hc := s[k].toNat_lt
      have HA := Lib.hid hall
      clear hall
      generalize s[k] = x at *
      obtain ⟨c, hcc⟩ : ∃ c, x.toNat = c := ⟨_, rfl⟩
      rw [hcc] at HS HP hc
      go_wp2
      all_goals first
        | (refine ⟨⟨k + 1, by omega, by go_num, ?_⟩, by simp only [intOf]; omega⟩
           rw [HS.out, HA.out]
           unfold plainN
           simp only [Bool.true_and, Bool.or_eq_true, Bool.and_eq_true, decide_eq_true_eq]
           omega)
        | (go_ret
           refine ⟨?_, rfl⟩
           have hp := HP.out (by
             unfold plainN
             simp only [Bool.or_eq_false_iff, Bool.and_eq_false_iff, decide_eq_false_iff_not]
             omega)
           rw [← HR.out, hp]; rfl)
    · have hfin : r = true := by rw [← HR.out]; rwa [List.take_of_length_le (by omega)] at hall
      subst hfin
      clear hall
      have hlt' : ¬ (k : Int) < s.length := by omega
      go_wp2
      go_ret
      exact ⟨rfl, rfl⟩
theorem rword_any (s : W) (hn : s.length ≤ maxLen) (w : World) :
    Calls Tryd.prog 58 #[.string (bs s)] w fun e w' => e = .returned (.bool (word s)) ∧ w = w' := by
  have hw : word s = (decide (1 ≤ s.length ∧ s.length ≤ 20) && s.all plain1) := by
    unfold word
    by_cases h1 : 1 ≤ s.length <;> by_cases h2 : s.length ≤ 20 <;> simp [h1, h2]
  rw [hw]
  clear hw
  have hn2 := hn
  unfold maxLen at hn2
  by_cases h : 1 ≤ s.length ∧ s.length ≤ 20
  · have hd : decide ((1 : Int) ≤ s.length ∧ (s.length : Int) ≤ 20) = true := decide_eq_true (by omega)
    rw [decide_eq_true h, Bool.true_and]
    obtain ⟨r, hr⟩ : ∃ r, s.all plain1 = r := ⟨_, rfl⟩
    rw [hr]
    have HR := Lib.hid hr; clear hr
    have HH := Lib.hid h; clear h
    go_enter Tryd.func58, Tryd.ntmps58
    go_wp2_with fail
    refine (in_any s.length 1 20 _).mono ?_
    rintro e w' ⟨rfl, rfl⟩
    rw [hd]
    go_wp2_with fail
    refine (plain_any s hn _).mono ?_
    rintro e w' ⟨rfl, rfl⟩
    rw [HR.out]
    go_wp2
    go_ret
    exact ⟨rfl, rfl⟩
  · have hd : decide ((1 : Int) ≤ s.length ∧ (s.length : Int) ≤ 20) = false := decide_eq_false (by omega)
    rw [decide_eq_false h, Bool.false_and]
    have HH := Lib.hid h; clear h
    go_enter Tryd.func58, Tryd.ntmps58
    go_wp2_with fail
    refine (in_any s.length 1 20 _).mono ?_
    rintro e w' ⟨rfl, rfl⟩
    rw [hd]
    go_wp2
    go_ret
    exact ⟨rfl, rfl⟩
theorem all_any (s : W) (hn : s.length ≤ maxLen) (w : World) :
    Calls Tryd.prog 95 #[.string (bs s), .int .i64 3] w fun e w' => e = .returned (.bool (s.all plain1)) ∧ w = w' := by
  unfold maxLen at hn
  obtain ⟨r, hr⟩ : ∃ r, s.all plain1 = r := ⟨_, rfl⟩
  rw [hr]
  have HR := Lib.hid hr; clear hr
  go_enter Tryd.func95, Tryd.ntmps95
  go_wp2_with fail
  go_loop [9] (fun i => ∃ k : Nat, k ≤ s.length ∧ i = .int .i64 k ∧ (s.take k).all plain1 = true) (fun i => s.length + 1 - (intOf i).toNat)
  case atStart => exact ⟨0, by omega, rfl, by simp⟩
  case round =>
    obtain ⟨k, hk, rfl, hall⟩ := hrel
    by_cases hlt : k < s.length
    · have hlt' : (k : Int) < s.length := by omega
      have HS := Lib.hid (all_snoc s k hlt)
      have HP := Lib.hid (all_stop s k hlt)
      have hg : (bs s)[k]'(by rw [bs_size]; omega) = s[k] := bs_get s k hlt (by rw [bs_size]; omega)
      have hc := s[k].toNat_lt
      have HA := Lib.hid hall
      clear hall
      generalize s[k] = x at *
      go_wp2_with fail
      refine (class_any x.toNat hc _).mono ?_
      rintro e w' ⟨rfl, rfl⟩
      have HC := Lib.hid (cls_plain x.toNat)
      have hcr : 0 ≤ cls x.toNat ∧ cls x.toNat ≤ 3 := by unfold cls; repeat (first | split | omega)
      by_cases hp : plainN x.toNat = true
      · have h0 : cls x.toNat ≠ 0 := fun h => by have := HC.out.1 (.inl h); rw [hp] at this; cases this
        have HPL := Lib.hid hp
        clear hp
        generalize cls x.toNat = k0 at *
        have h3 : ¬ (3 : Int) < k0 := by omega
        have h00 : ¬ k0 = 0 := h0
        have h01 : (k0 == (0 : Int)) = false := beq_eq_false_iff_ne.2 h0
        go_wp2
        refine ⟨⟨k + 1, by omega, by go_num, ?_⟩, by simp only [intOf]; omega⟩
        rw [HS.out, HA.out, HPL.out]; rfl
      · have hpf : plainN x.toNat = false := by simpa using hp
        have h0 : cls x.toNat = 0 := by have := HC.out.2 hpf; omega
        have hrf : r = false := by rw [← HR.out]; exact HP.out hpf
        subst hrf
        rw [h0]
        clear hp hpf h0 hcr
        go_wp2
        go_ret
        exact ⟨rfl, rfl⟩
    · have hfin : r = true := by rw [← HR.out]; rwa [List.take_of_length_le (by omega)] at hall
      subst hfin
      clear hall
      have hlt' : ¬ (k : Int) < s.length := by omega
      go_wp2
      go_ret
      exact ⟨rfl, rfl⟩
theorem pword_any (s : W) (hn : s.length ≤ maxLen) (w : World) :
    Calls Tryd.prog 73 #[.string (bs s)] w fun e w' => e = .returned (.bool (word s)) ∧ w = w' := by
  have hn2 := hn
  unfold maxLen at hn2
  cases s with
  | nil =>
    have ht : (bs []).toList = [] := bs_toList []
    have hw : word [] = false := rfl
    rw [hw]
    clear hw
    go_enter Tryd.func73, Tryd.ntmps73
    go_wp2
    go_ret
    exact ⟨rfl, rfl⟩
  | cons x t =>
    have ht : (bs (x :: t)).toList = x :: t := bs_toList _
    have hw : word (x :: t) = (decide ((x :: t).length ≤ 20) && (x :: t).all plain1) := by unfold word; simp
    rw [hw]
    clear hw
    by_cases h : (x :: t).length ≤ 20
    · rw [decide_eq_true h, Bool.true_and]
      obtain ⟨r, hr⟩ : ∃ r, (x :: t).all plain1 = r := ⟨_, rfl⟩
      rw [hr]
      have HR := Lib.hid hr; clear hr
      have hi : ((t.length : Int) + 1) ≤ 20 := by simp at h; omega
      have hi2 : t.length + 1 ≤ 20 := by simp at h; omega
      clear h
      go_enter Tryd.func73, Tryd.ntmps73
      go_wp2_with fail
      refine (all_any (x :: t) hn _).mono ?_
      rintro e w' ⟨rfl, rfl⟩
      rw [HR.out]
      go_wp2
      go_ret
      exact ⟨rfl, rfl⟩
    · rw [decide_eq_false h, Bool.false_and]
      have hi : ¬ ((t.length : Int) + 1) ≤ 20 := by simp at h; omega
      have hi2 : ¬ t.length + 1 ≤ 20 := by simp at h; omega
      clear h
      go_enter Tryd.func73, Tryd.ntmps73
      go_wp2
      go_ret
      exact ⟨rfl, rfl⟩
end Go.Proofs.YtmmihcophkipoaaDoor
