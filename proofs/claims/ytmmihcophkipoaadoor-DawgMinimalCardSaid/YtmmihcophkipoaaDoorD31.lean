/-
  Build: the automaton of a dictionary, and the refusal of what is none.
-/
import Derived.Test.YtmmihcophkipoaaDoorD30
import Derived.Carry
namespace Go.Proofs.YtmmihcophkipoaaDoor
open Go.ChangeShapes Go.WideShapes Go.ChangeAt Go.RowKit
set_option linter.unusedVariables false
set_option linter.unusedSimpArgs false
theorem dict_word_len {l : List W} (h : dict l = true) : ∀ u ∈ l, u.length ≤ 20 := fun u hu => by
  unfold dict at h
  simp only [Bool.and_eq_true] at h
  exact word_short (List.all_eq_true.1 h.1.1.1 u hu)
theorem pst_ends_len {l : List W} (h : dict l = true) : (pst 22 [] l).length ≤ 4001 := by
  obtain ⟨h1, _, _, _, h5⟩ := dict_parts h
  have h2 := pst_len 22 [] l
  have h3 := tot_le (l := l) (k := 20) (dict_word_len h)
  unfold tot at h3
  have h4 : l.length * 20 ≤ 200 * 20 := Nat.mul_le_mul_right _ h5
  simp at h2
  omega
theorem build_no (A : Option Addr) (c : Nat) (l : List W) (w : World) (hd : dict l = false) (hr : Rd w 0 1 A l.length (sv l)) (hn : l.length ≤ 1000000) (hs : ∀ x ∈ l, x.length ≤ maxLen) :
    Calls Tryd.prog 20 #[.slice A l.length c] w fun e w' => e = .returned (.tuple #[.slice none 0 0, .int .i64 90]) ∧ Ext w w' := by
  go_enter Tryd.func20, Tryd.ntmps20
  go_wp2_with fail
  refine (pdict_any A c l _ hr hn hs).mono ?_
  rintro e w1 ⟨rfl, hX⟩
  rw [hd]
  go_wp2
  go_ret2
  exact ⟨rfl, hX⟩
set_option maxHeartbeats 1000000 in
set_option maxRecDepth 100000 in
theorem build_yes (A : Option Addr) (c : Nat) (l : List W) (w : World) (hd : dict l = true) (hr : Rd w 0 1 A l.length (sv l)) (hc1 : l.length ≤ c) (hc2 : c ≤ maxLen) (hT : Tb w) :
    Calls Tryd.prog 20 #[.slice A l.length c] w fun e w' => ∃ A' c', e = .returned (.tuple #[.slice A' (auto l).length c', .int .i64 0]) ∧ (auto l).length ≤ c' ∧ c' ≤ maxLen ∧ Dw w' A' (auto l) ∧ Ext w w' := by
  obtain ⟨p1, p2, p3, p4, p5⟩ := dict_parts hd
  have hwl := dict_word_len hd
  have hmm := @run_makeMap Tryd.prog
  go_enter Tryd.func20, Tryd.ntmps20
  go_wp2_with fail
  refine (pdict_any A c l _ hr (by omega) (fun x hx => by have := hwl x hx; simp only [maxLen]; omega)).mono ?_
  rintro e w1 ⟨rfl, hX⟩
  rw [hd]
  have hT1 : Tb (w1.alloc (Obj.map #[] 0)) := (hT.ext hX).ext (Ext.alloc _ _)
  have hN := pst_ends_len hd
  have hlt0 := hT.lt
  have hle := hX.le
  go_wp2_with fail
  refine (of50_any w1.heap.size 22 (fun _ => False) l [] [] A c _ p1 p2 p3 (by omega) (fun u hu => by have := hwl u hu; omega) (by omega) ((hr.ext hX).alloc _) hc1 hc2 hT1 (by omega) (Mp.nil w1) (Shp.nil _ _) (fun _ h => h.elim)).mono ?_
  rintro e w2 ⟨vs, ps, he, hvs, hH, hM, hK⟩
  simp only [List.nil_append] at he hvs hH hM
  have hlv : l ∈ vs := by rw [hvs]; exact pst_mem [] p1 p3
  have hX2 : Ext w1 w2 := Below.trans (Ext.alloc w1 (Obj.map #[] 0)) ((hK.below (B := w1.heap.size) (by simp) (fun i h => by omega)))
  have hvl : vs.length ≤ 100000 := by rw [hvs]; omega
  have HVL := Lib.hid hvs
  clear hvs
  change e = .returned (.pointer (some ⟨pp vs ps l, 0, none⟩)) at he
  subst he
  have hU : Nu (fun _ => False) w2.heap.size w2.heap.size vs ps [] (fun _ => False) (.slice none 0 0) [] (w2.alloc (Obj.map #[] 0)) :=
    ⟨World.ownsRow_nil _ _ _ _, fun i h => absurd h (by simp), Mp.nil w2, hH.ext (Ext.alloc _ _), fun m h => by cases h⟩
  have HC := Lib.hid (number_any w2.heap.size w2.heap.size vs ps hvl 22 (fun _ => False) l [] (fun _ => False) (.slice none 0 0) [] _ hlv p1 (by simp) List.nodup_nil (by omega) hU (by simp) (fun _ h => h.elim))
  have hl2 := hX2.le
  clear hU hH hM hK hlv hT1
  go_wp2_with fail
  refine HC.out.mono ?_
  rintro e w3 ⟨dv, dcs, rfl, hU3, hK3, _, _⟩
  have hX3 : Ext w2 w3 := Below.trans (Ext.alloc w2 (Obj.map #[] 0)) ((hK3.below (B := w2.heap.size) (by simp) (fun i h => by rcases h with h | h; omega; cases h)))
  obtain ⟨Ad, cd, rfl, rd, h1, h2⟩ := own_form hU3.D
  have hdw := hU3.N.dw rd
  have hlen : (auto l).length = (ends l).length := by unfold auto; rw [List.length_map]
  have HD : Hid (Dw w3 Ad (auto l)) := Lib.hid hdw
  have HL := Lib.hid (show (dfs 22 [] l).length = (auto l).length from hlen.symm)
  have HX := Lib.hid ((hX.trans hX2).trans hX3)
  clear hdw hlen rd hU3 hK3 hX hX2 hX3
  rw [HL.out] at h1 ⊢
  go_wp2
  go_ret2
  exact ⟨Ad, cd, rfl, h1, h2, HD.out, HX.out⟩
end Go.Proofs.YtmmihcophkipoaaDoor
