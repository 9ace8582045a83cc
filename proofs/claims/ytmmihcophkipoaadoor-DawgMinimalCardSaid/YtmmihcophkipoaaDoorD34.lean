/-
  Words: the loop over the program's walk.
-/
import Derived.Test.YtmmihcophkipoaaDoorD33
namespace Go.Proofs.YtmmihcophkipoaaDoor
open Go.ChangeShapes Go.WideShapes Go.ChangeAt Go.RowKit Go.Shelf
set_option linter.unusedVariables false
set_option linter.unusedSimpArgs false
attribute [local go_sem] Oper.semAt_some
attribute [local go_sem] bs_beq bs_bne bs_less bs_size bs_extract
set_option maxHeartbeats 1000000 in
set_option maxRecDepth 100000 in
theorem pwords_any (d : Au) (hdl : d.length ≤ 1000000) (hal : ∀ x ∈ d, x.2.length ≤ 1000000) (w : World) (A : Option Addr) (c : Nat) (hd : Dw w A d) (l' : Nat) (l : List W) (hr : wk d 22 (5000, []) 0 [] = some (l', l)) :
    Calls Tryd.prog 35 #[.slice A d.length c] w fun e w' => ∃ v, e = .returned v ∧ Ow w.heap.size l v w' ∧ Ext w w' := by
  rw [← callsIn_wide (n := 9)]
  refine callsIn_of_wp_marks Tryd.func35 rfl trivial ?_ rfl
  simp only [Tryd.ntmps35, List.size_toArray, List.length_cons, List.length_nil, Nat.reduceAdd, Nat.reduceSub, Array.replicate_succ, Array.replicate_zero, List.push_toArray, List.append_toArray, List.nil_append, List.cons_append]
  refine wpIn_wide.2 ?_
  go_wp2_with fail
  refine (walkall_any _ _).mono ?_
  rintro e w1 ⟨rfl, rfl⟩
  go_wp2_with fail
  refine (wpIn_wide (n := 9)).1 ?_
  have hE1 : Ext w (((w.alloc (Obj.cells #[.slice A d.length c, .int .i64 5000, .bool false] 99)).alloc (Obj.cells #[.slice none 0 0] 25)).alloc (Obj.cells #[.pointer (some ⟨w.heap.size, 0, none⟩)] 97)) := ((Ext.alloc _ _).trans (Ext.alloc _ _)).trans (Ext.alloc _ _)
  refine walk_loop (w0 := w) d hdl hal A c w.heap.size (w.heap.size + 1) (w.heap.size + 1 + 1) hd rfl (Nat.le_refl _) (by omega) hE1 (((Blk.new w 99 _).alloc _).alloc _) ((Blk.newAt _ _ (by simp) 25 _).alloc _) (Blk.newAt _ _ (by simp) 97 _) ?a1 ?assign ?body ?done
  case assign =>
    intro l u W K m hK
    gi_wp2
    exact hK
  case body =>
    intro l u out ov W m hB hO hle hol
    obtain ⟨b0, b1, b2⟩ := hB.f1
    obtain ⟨i0, hi0, hz0, hz1, hz2⟩ := info_parts str_info
    have hbl : w.heap.size + 1 < W.heap.size := b2
    gi_wp2_with (gi_at_builtin; apply halt_here)
    apply go_on
    refine wpListIn_append_own_at _ rfl _ _ 25 rfl w.heap.size 9 i0 _ 1 16 Tryd.underlying25 hi0 hz0 hz1 hz2 rfl (by decide) ov out.length (sv out) rfl (own_alloc hO _) ⟨W.heap.size, 0, none⟩ 1 1 [.string (bs u)] rfl rfl (fun j u' hu => by
      obtain ⟨ad', e1, _, hc⟩ := (Rd.newAt W _ rfl 9 1 1 #[.string (bs u)] (0, 0) _ rfl rfl).cells (by omega)
      injection e1 with e1
      subst e1
      exact hc j u' hu) (by simp [Value.oneCell']) (by simp only [maxLen]; omega) (by omega) (by simp; omega) ?_
    intro v' W2 hO2 hg2 _ hq2
    have hB2 := (hB.alloc (Obj.cells #[.string (bs u)] 9)).grown hg2 (own_ne (own_alloc hO (Obj.cells #[.string (bs u)] 9)) (hB.alloc (Obj.cells #[.string (bs u)] 9)) (by decide))
    obtain ⟨A2, c2, hv2, _, _, _⟩ := own_form hO2
    subst hv2
    obtain ⟨d0, d1, d2⟩ := hB2.f1
    have HFIN : Hid (∃ ov', Blk (W2.setCell ⟨w.heap.size + 1, 0, none⟩ (.slice A2 (out.length + 1) c2)) (w.heap.size + 1) 25 #[ov'] ∧ Ow w.heap.size (out ++ [u]) ov' (W2.setCell ⟨w.heap.size + 1, 0, none⟩ (.slice A2 (out.length + 1) c2)) ∧ Kp (fun k => k = w.heap.size + 1 ∨ some k = ov.ownBlock) W (W2.setCell ⟨w.heap.size + 1, 0, none⟩ (.slice A2 (out.length + 1) c2))) := Lib.hid (by
      refine ⟨_, hB2.set_ 0 _, ?_, ?_⟩
      · unfold Ow
        rw [List.length_append, sv_append]
        exact own_far hO2 (own_ne hO2 hB2 (by decide))
      · exact ((Kp.of_ext (S := fun _ => False) (Ext.alloc W (Obj.cells #[.string (bs u)] 9))).trans (S := fun k => k = w.heap.size + 1 ∨ some k = ov.ownBlock) (Kp.of_grown (S := fun k => some k = ov.ownBlock) hg2 fun i e => e) (fun _ _ e => e.elim) (fun _ _ e => .inr e)).trans (Kp.of_set (S := (· = w.heap.size + 1)) W2 ⟨w.heap.size + 1, 0, none⟩ _ rfl) (fun _ _ e => e) (fun _ _ e => .inl e))
    clear hO2 hg2 hq2 hB2 hO hB b0 b1
    gi_wp2
    exact HFIN.out
  case done =>
    intro D W hD hEnd
    obtain ⟨hDD, hEE, hM⟩ := hEnd
    have hD2 : w.heap.size ≤ D := by simp at hD; omega
    rw [hr] at hM
    obtain ⟨hX, ov, hB, hO⟩ := hM
    obtain ⟨b0, b1, b2⟩ := hB.f1
    have HO := Lib.hid hO
    have HF : Hid (Ow w.heap.size l ov (W.putObj D (.deferred none)) ∧ Ext w (W.putObj D (.deferred none))) := Lib.hid ⟨own_kp hO (kp_putObj (w := W) D _) (fun g hg e => by
      obtain ⟨cs, hc⟩ := own_cells hO hg.symm
      rw [e, hDD] at hc
      cases hc), ext_putObj hEE hD2 _⟩
    clear hr hO hB hX
    go_wp2_with fail
    refine ⟨by simp, .inl ⟨_, _, rfl, run_takeDeferred hDD, ?_⟩⟩
    exact ⟨_, results_tmp rfl _ _ _, ov, rfl, HF.out.1, HF.out.2⟩
end Go.Proofs.YtmmihcophkipoaaDoor
