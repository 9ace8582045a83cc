import Derived.Test.YtecdmgcgplohoaaMem
import Derived.Test.YtecdmgcgplohoaaFrame
import Derived.Test.YtecdmgcgplohoaaPhase
import Derived.WideShapes
import Derived.Lib.Strings
namespace Go.Proofs.Ytecdmgcgplohoaa
open Go.ChangeShapes Go.WideShapes Go.ChangeAt Go.RowKit
set_option linter.unusedVariables false
set_option linter.unusedSimpArgs false
abbrev BA := ByteArray
def strs (l : List BA) : List Value := l.map .string
@[local go_sem] theorem ba_beq (a b : BA) : (a.toList == b.toList) = decide (a = b) := by
  rw [Lib.toList_data, Lib.toList_data]
  by_cases h : a = b
  · subst h; simp
  · rw [decide_eq_false h]
    apply beq_false_of_ne
    intro e
    exact h (bytes_inj e)
theorem find1_any (k key : BA) (b : Nat) (w : World) (hc : w.cell? ⟨b, 0, none⟩ = some (.string key)) :
    Calls Try.prog 33 #[.string k, .pointer (some ⟨b, 0, none⟩)] w fun e w' => e = .returned (.bool (decide (k = key))) ∧ w = w' := by
  go_enter Try.func33, Try.ntmps33
  go_wp2
  go_returns
  exact ⟨rfl, rfl⟩
theorem wt_any (A : Option Addr) (c : Nat) (k v : BA) (w : World) (hr : Rd w 9 1 A 2 (strs [k, v])) (h1 : k.size ≤ 4611686018427387904) (h2 : v.size ≤ 4611686018427387903):
    Calls Try.prog 30 #[.slice A 2 c] w fun e w' => e = .returned (.int .i64 (1 + ((k.size : Int) + v.size) / 64)) ∧ w = w' := by
  obtain ⟨ad, rfl, hb, hcell⟩ := hr.cells (by omega)
  have c0 : w.cell? ad = some (.string k) := hcell 0 (.string k) rfl
  have c1 : w.cell? ⟨ad.block, ad.off + 1, none⟩ = some (.string v) := hcell 1 (.string v) rfl
  clear hcell hr
  go_enter Try.func30, Try.ntmps30
  go_wp2_with fail
  go_loop [3, 5, 8] (fun s x i => (s = .int .i64 0 ∧ i = .int .i64 0) ∨ (s = .int .i64 k.size ∧ i = .int .i64 1) ∨ (s = .int .i64 ((k.size : Int) + v.size) ∧ i = .int .i64 2)) (fun _ _ i => 3 - (intOf i).toNat)
  case atStart => exact .inl ⟨rfl, rfl⟩
  case round =>
    rcases hrel with ⟨rfl, rfl⟩ | ⟨rfl, rfl⟩ | ⟨rfl, rfl⟩
    · go_wp2
      exact ⟨.inr (.inl ⟨rfl, rfl⟩), by decide⟩
    · go_wp2
      exact ⟨.inr (.inr ⟨rfl, rfl⟩), by decide⟩
    · go_wp2
      go_returns
      exact ⟨rfl, rfl⟩
/-- where a key stands first, or -1 -/
def ix (ks : List BA) (key : BA) : Int := if ks.findIdx (fun k => decide (k = key)) < ks.length then (ks.findIdx (fun k => decide (k = key)) : Nat) else -1
theorem ix_at (ks : List BA) (key : BA) (k : Nat) (h : k < ks.length) (hk : ks[k] = key) (hall : ∀ j (h : j < ks.length), j < k → ks[j] ≠ key) : ix ks key = k := by
  have : ks.findIdx (fun k => decide (k = key)) = k := by
    rw [List.findIdx_eq h]
    refine ⟨by simp [hk], fun j hj => by simpa using hall j (by omega) hj⟩
  unfold ix
  rw [this, if_pos h]
theorem ix_none (ks : List BA) (key : BA) (hall : ∀ j (h : j < ks.length), ks[j] ≠ key) : ix ks key = -1 := by
  unfold ix
  rw [if_neg]
  intro h
  have := List.findIdx_getElem (w := h)
  simp only [decide_eq_true_eq] at this
  exact hall _ h this
theorem index_any (A : Option Addr) (n c : Nat) (ks : List BA) (key : BA) (b : Nat) (w : World) (hr : Rd w 9 1 A n (strs ks)) (hn : n ≤ 1000) (hc : w.cell? ⟨b, 0, none⟩ = some (.string key)) :
    Calls Try.prog 32 #[.slice A n c, .func (.func 33) #[] #[.pointer (some ⟨b, 0, none⟩)]] w fun e w' => e = .returned (.int .i64 (ix ks key)) ∧ w = w' := by
  go_enter Try.func32, Try.ntmps32
  go_wp2_with fail
  go_loop [5, 8] (fun x i => ∃ k : Nat, k ≤ n ∧ i = .int .i64 k ∧ ∀ j (h : j < ks.length), j < k → ks[j] ≠ key) (fun _ i => 2000 - (intOf i).toNat)
  case atStart => exact ⟨0, by omega, rfl, by omega⟩
  case round =>
    obtain ⟨k, hk, rfl, hall⟩ := hrel
    by_cases hlt : k < n
    · have hlt' : (k : Int) < n := by omega
      have hkl : k < ks.length := by have := hr.len; simp [strs] at this; omega
      obtain ⟨ad, u, hA, hb, hu, hcell⟩ := hr.at_ hlt
      have hu2 : u = .string ks[k] := by
        simp only [strs, List.getElem?_map, List.getElem?_eq_getElem hkl] at hu
        injection hu with hu; exact hu.symm
      subst hu2
      subst hA
      have HH := Lib.hid hall
      clear hall hu
      by_cases he : ks[k] = key
      · have HE := Lib.hid he
        clear he
        go_wp2_with fail
        refine (find1_any ks[k] key b _ hc).mono ?_
        rintro e w1 ⟨rfl, rfl⟩
        have hd : decide (ks[k] = key) = true := by simp [HE.out]
        rw [hd]
        go_wp2
        go_ret
        exact ⟨by rw [ix_at ks key k hkl HE.out HH.out]; rfl, rfl⟩
      · go_wp2_with fail
        refine (find1_any ks[k] key b _ hc).mono ?_
        rintro e w1 ⟨rfl, rfl⟩
        have hd : decide (ks[k] = key) = false := by simp [he]
        rw [hd]
        have HE := Lib.hid he
        clear he
        go_wp2
        refine ⟨⟨k + 1, by omega, by go_num, fun j hj hjk => ?_⟩, by simp only [intOf]; omega⟩
        by_cases e : j = k
        · subst e; exact HE.out
        · exact HH.out j hj (by omega)
    · have hlen : ks.length = n := by have := hr.len; simpa [strs] using this
      have hnone := ix_none ks key (fun j h => hall j h (by omega))
      have HN := Lib.hid hnone
      clear hnone hall
      go_wp2
      go_ret
      exact ⟨by rw [HN.out]; rfl, rfl⟩
theorem find_any (room : Int) (A : Option Addr) (n c : Nat) (V : Value) (ks : List BA) (key : BA) (w : World) (hr : Rd w 9 1 A n (strs ks)) (hn : n ≤ 1000) :
    Calls Try.prog 31 #[.agg #[.int .i64 room, .slice A n c, V], .string key] w fun e w' => e = .returned (.int .i64 (ix ks key)) ∧ Below w.heap.size w w' := by
  go_enter Try.func31, Try.ntmps31
  go_wp2_with fail
  have hB := Blk.new (w.alloc (Obj.cells #[.int .i64 room, .slice A n c, V] 26)) 9 #[.string key]
  have hs : (w.alloc (Obj.cells #[.int .i64 room, .slice A n c, V] 26)).heap.size = w.heap.size + 1 := by simp
  rw [hs] at hB
  refine (index_any A n c ks key (w.heap.size + 1) _ ((hr.alloc _).alloc _) hn hB.f1.1).mono ?_
  rintro e w' ⟨rfl, rfl⟩
  go_wp2
  go_returns
  exact ⟨rfl, by go_grown⟩
end Go.Proofs.Ytecdmgcgplohoaa
