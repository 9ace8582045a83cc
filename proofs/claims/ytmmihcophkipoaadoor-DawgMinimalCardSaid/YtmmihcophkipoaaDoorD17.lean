import Derived.Test.YtmmihcophkipoaaDoorD16
namespace Go.Proofs.YtmmihcophkipoaaDoor
open Go.ChangeShapes Go.WideShapes Go.ChangeAt Go.RowKit
set_option linter.unusedVariables false
set_option linter.unusedSimpArgs false
def listed (d : Au) : Nat × List W := ls d 22 (5000, []) 0 []
set_option maxHeartbeats 2000000 in
set_option maxRecDepth 100000 in
theorem listed_any (d : Au) (hdl : d.length ≤ 1000000) (hal : ∀ x ∈ d, x.2.length ≤ 1000000) (w : World) (A : Option Addr) (c : Nat) (hd : Dw w A d) :
    Calls Tryd.prog 30 #[.slice A d.length c] w fun e w' => ∃ v, e = .returned (.tuple #[v, .bool (decide (0 < (listed d).1))]) ∧ Ow w.heap.size (listed d).2 v w' ∧ Ext w w' := by
  obtain ⟨r, hr⟩ : ∃ r, listed d = r := ⟨_, rfl⟩
  rw [hr]
  go_enter Tryd.func30, Tryd.ntmps30
  go_wp2_with fail
  refine (list_any d hdl hal w A c hd w.heap.size w.heap.size (Nat.le_refl _) (Nat.le_refl _) 22 0 [] 5000 [] (.slice none 0 0) _ (by simp) (by simp) (by simp) (Ext.alloc _ _) (by simp) (Blk.new w 107 _) (World.ownsRow_nil _ _ _ _)).mono ?_
  change ∀ e w', LsPost d w A c w.heap.size w.heap.size (listed d) e w' → _
  rw [hr]
  rintro e w2 ⟨rfl, cs, ov, X, rfl, O, hX, hb⟩
  obtain ⟨n, l⟩ := r
  simp only at X O
  obtain ⟨A2, c3, hv2, _, _, _⟩ := own_form O
  generalize l.length = m2 at hv2
  have HO := Lib.hid O
  clear O
  subst hv2
  obtain ⟨x0, x1, x2, x3, x4⟩ := X.f3
  go_wp2_with fail
  go_quiet (fail)
  go_wp2
  go_ret2
  exact ⟨_, rfl, HO.out, below_drewN hX _⟩
end Go.Proofs.YtmmihcophkipoaaDoor
