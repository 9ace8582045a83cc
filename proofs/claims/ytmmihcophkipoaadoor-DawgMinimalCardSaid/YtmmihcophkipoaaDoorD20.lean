import Derived.Test.YtmmihcophkipoaaDoorD19
namespace Go.Proofs.YtmmihcophkipoaaDoor
open Go.ChangeShapes Go.WideShapes Go.ChangeAt Go.RowKit
set_option linter.unusedVariables false
set_option linter.unusedSimpArgs false
/-- the nodes that are all closed make up the automaton in memory -/
theorem Nds.dw {Z : Nat → Prop} {w : World} {V : List (List W)} {dcs : List Value} {A : Option Addr} (h : Nds Z w V (fun _ => False) dcs) (hr : Rd w 44 2 A V.length dcs) : Dw w A (V.map (node V)) := by
  refine ⟨dcs, by rw [List.length_map]; exact hr.untyped, fun i hi => ?_⟩
  rw [List.length_map] at hi
  obtain ⟨f, v, h1, h2, a, c, rfl, rfl, h3, h4, h5, _⟩ := h i hi (fun e => e)
  have e : (V.map (node V))[i]'(by rw [List.length_map]; exact hi) = node V V[i] := by simp
  rw [e]
  have e2 : (node V V[i]).2.length = (grp V[i]).length := by simp [node]
  exact ⟨a, c, h1, by rw [e2]; exact h2, by rw [e2]; exact h3.untyped, by rw [e2]; exact h4, h5⟩
set_option maxHeartbeats 2000000 in
set_option maxRecDepth 100000 in
theorem of_any (l : List W) (hs : Sh 22 l) (hu : Up l) (hne : l ≠ []) (hby : ∀ u ∈ l, ∀ b ∈ u, 33 ≤ b.toNat ∧ b.toNat < 127) (hl : l.length ≤ 1000) (hN : (ends l).length ≤ 100000) (w : World) (A : Option Addr) (c : Nat) (hr : Rd w 9 1 A l.length (sv l)) (hc1 : l.length ≤ c) (hc2 : c ≤ maxLen) :
    Calls Tryd.prog 22 #[.slice A l.length c] w fun e w' => ∃ A' c', e = .returned (.slice A' (auto l).length c') ∧ (auto l).length ≤ c' ∧ c' ≤ maxLen ∧ Dw w' A' (auto l) ∧ Ext w w' := by
  go_enter Tryd.func22, Tryd.ntmps22
  go_wp2_with fail
  have hSt : St (fun _ => False) w.heap.size w.heap.size [] (fun _ => False) (.slice none 0 0) (.slice none 0 0) (w.alloc (Obj.cells #[.slice none 0 0, .slice none 0 0] 95)) :=
    ⟨Blk.new w 95 _, ⟨[], World.ownsRow_nil _ _ _ _, fun i h => absurd h (by simp)⟩, ⟨[], World.ownsRow_nil _ _ _ _, fun i h => absurd h (by simp)⟩⟩
  refine (node_any w.heap.size w.heap.size (Nat.le_refl _) 22 (fun _ => False) l [] (fun _ => False) _ _ A c _ hs hu hne hby hl hN (hr.alloc _) hc1 hc2 hSt (by simp) (fun _ h => h.elim)).mono ?_
  rintro e w1 ⟨rfl, dv, rv, hS, hK, _, _⟩
  have hE : Ext w w1 := Below.trans (Ext.alloc w _) ((hK.below (B := w.heap.size) (by simp) (fun i h => by rcases h with h | h | h; exact Nat.le_of_eq h.symm; cases h; cases h)))
  change St _ _ _ (ends l) _ _ _ _ at hS
  obtain ⟨x0, x1, x2, x3⟩ := hS.X.f2
  obtain ⟨dcs, D, N⟩ := hS.D
  obtain ⟨Ad, cd, rfl, rd, h1, h2⟩ := own_form D
  have hd := N.dw rd
  have hlen : (auto l).length = (ends l).length := by unfold auto; rw [List.length_map]
  have HD : Hid (Dw w1 Ad (auto l)) := Lib.hid hd
  have HL := Lib.hid hlen
  clear hlen
  go_wp2
  go_ret
  exact ⟨Ad, cd, by rw [HL.out]; rfl, by rw [HL.out]; exact h1, h2, HD.out, hE⟩
end Go.Proofs.YtmmihcophkipoaaDoor
