/-
  Words as strings, and lists of them in memory.
-/
import Derived.Test.YtmmihcophkipoaaDoorP2
import Derived.Test.YtmmihcophkipoaaDoorMem
import Derived.Test.YtmmihcophkipoaaDoorPhase
import Derived.WideShapes
import Derived.Lib.Strings
import Derived.Laws.Strings2
import Derived.Deep.QuietTactic
import Derived.BigQuiet
import Derived.Test.YtmmihcophkipoaaDoorProg
namespace Go.Proofs.YtmmihcophkipoaaDoor
open Go.ChangeShapes Go.WideShapes Go.ChangeAt Go.RowKit
set_option linter.unusedVariables false
set_option linter.unusedSimpArgs false
abbrev BA := ByteArray
def bs (w : W) : BA := ⟨w.toArray⟩
theorem bs_toList (w : W) : (bs w).toList = w := by rw [Lib.toList_data]; rfl
theorem bs_size (w : W) : (bs w).size = w.length := by simp [bs, ByteArray.size]
theorem bs_inj {a b : W} (h : bs a = bs b) : a = b := by rw [← bs_toList a, h, bs_toList]
theorem bs_of (b : BA) : b = bs b.toList := by rw [Lib.toList_data]; rfl
theorem bs_append (a b : W) : bs a ++ bs b = bs (a ++ b) := by
  apply bytes_inj
  simp [bs]
theorem bs_get (w : W) (i : Nat) (h : i < w.length) (h' : i < (bs w).size) : (bs w)[i] = w[i] := rfl
theorem bs_extract (w : W) (i j : Nat) : (bs w).extract i j = bs ((w.take j).drop i) := by
  apply bytes_inj
  simp [bs, List.drop_take]
theorem bs_beq (a b : W) : ((bs a).toList == (bs b).toList) = decide (a = b) := by
  rw [bs_toList, bs_toList]
  by_cases h : a = b
  · subst h; simp
  · simp [h]
theorem bs_bne (a b : W) : ((bs a).toList != (bs b).toList) = decide (a ≠ b) := by
  unfold bne
  rw [bs_beq]
  by_cases h : a = b <;> simp [h]
theorem bs_less (a b : W) : Op.bytesLess (bs a).toList (bs b).toList = bl a b := by rw [bs_toList, bs_toList]
theorem bs_nil : bs [] = { data := #[] } := rfl
def sv (l : List W) : List Value := l.map fun w => .string (bs w)
theorem sv_len (l : List W) : (sv l).length = l.length := by simp [sv]
theorem sv_at (l : List W) (k : Nat) (h : k < l.length) : (sv l)[k]? = some (.string (bs l[k])) := by simp [sv, h]
theorem sv_one (l : List W) : ∀ u ∈ sv l, u.oneCell' = true := by
  intro u hu
  simp only [sv, List.mem_map] at hu
  obtain ⟨w, _, rfl⟩ := hu
  rfl
theorem sv_append (l m : List W) : sv (l ++ m) = sv l ++ sv m := by simp [sv]
theorem sv_take (l : List W) (k : Nat) : (sv l).take k = sv (l.take k) := by simp [sv]
theorem sv_drop (l : List W) (k : Nat) : (sv l).drop k = sv (l.drop k) := by simp [sv]
theorem Rd.one {w : World} {e : TypeId} {A : Option Addr} {n i : Nat} {xs : List Value} {u0 : Value} (h : Rd w e 1 A n xs) (hi : i < n) (h0 : xs[i]? = some u0) :
    ∃ ad, A = some ad ∧ (ad.add i).block < w.heap.size ∧ w.cell? (ad.add i) = some u0 := by
  obtain ⟨ad, ea, hb, _, hc⟩ := h.2 (by omega)
  exact ⟨ad, ea, by rw [addr_block]; exact hb, hc _ _ h0⟩
theorem take_snoc {α : Type} (l : List α) (k : Nat) (h : k < l.length) : l.take (k + 1) = l.take k ++ [l[k]] := by
  rw [List.take_succ_eq_append_getElem h]
theorem Ext.drewN {w : World} (n : Nat) : Ext w (w.drewN n) := below_drewN (Ext.refl w) n
theorem Ext.drew {w : World} : Ext w w.drew := Ext.drewN 1
theorem str_info : (Tryd.prog.info? 9).map (fun i => (i.zero, i.size, i.bytes)) = some (some (.string ByteArray.empty), 1, 16) := by kernel_rfl
attribute [local go_sem] bs_beq bs_bne bs_less bs_size
/-- the place of a word in a list, or -1 -/
def wix (l : List W) (w : W) : Int := if w ∈ l then (l.idxOf w : Nat) else -1
theorem index_any (A : Option Addr) (c : Nat) (l : List W) (x : W) (w : World) (hr : Rd w 0 1 A l.length (sv l)) (hn : l.length ≤ 1000000) :
    Calls Tryd.prog 26 #[.slice A l.length c, .string (bs x)] w fun e w' => e = .returned (.int .i64 (wix l x)) ∧ Ext w w' := by
  go_enter Tryd.func26, Tryd.ntmps26
  go_wp2_with fail
  go_loopw [5] (fun i wr => ∃ k : Nat, k ≤ l.length ∧ i = .int .i64 k ∧ x ∉ l.take k ∧ Ext w wr) (fun i _ => 1000001 - (intOf i).toNat)
  case atStart => exact ⟨0, by omega, rfl, by simp, Ext.refl _⟩
  case round =>
    obtain ⟨k, hk, rfl, hno, hX⟩ := hrel
    by_cases hlt : k < l.length
    · have hlt' : (k : Int) < l.length := by omega
      obtain ⟨ad, e1, hab, hc⟩ := (hr.ext hX).one hlt (sv_at l k hlt)
      subst e1
      have HT := Lib.hid (take_snoc l k hlt)
      have HN := Lib.hid hno
      clear hno
      have HK := Lib.hid (show l[k] = x → wix l x = k from fun e => by
        have hm : x ∈ l := by rw [← e]; exact List.getElem_mem hlt
        unfold wix
        rw [if_pos hm]
        congr 1
        have h1 : l.idxOf x = (l.take k ++ l.drop k).idxOf x := by rw [List.take_append_drop]
        rw [h1, List.idxOf_append, if_neg HN.out, List.drop_eq_getElem_cons hlt, e, List.idxOf_cons_self, List.length_take]
        omega)
      generalize l[k] = y at *
      by_cases he : y = x
      · have HE := Lib.hid (HK.out he)
        have hd : decide (y = x) = true := by simp [he]
        clear he HK
        go_wp2_with fail
        try (go_quiet (fail); go_wp2)
        go_ret
        exact ⟨by rw [HE.out]; rfl, by first | exact hX | exact hX.trans (Ext.drewN _)⟩
      · have hd : decide (y = x) = false := by simp [he]
        have HE := Lib.hid he
        clear he HK
        go_wp2_with fail
        try (go_quiet (fail); go_wp2)
        refine ⟨⟨k + 1, by omega, by go_num, ?_, by first | exact hX | exact hX.trans (Ext.drewN _)⟩, by simp only [intOf]; omega⟩
        rw [HT.out]; simp only [List.mem_append, List.mem_singleton]; rintro (h | h)
        · exact HN.out h
        · exact HE.out h.symm
    · have hw : wix l x = -1 := by
        unfold wix; rw [if_neg]
        rwa [List.take_of_length_le (by omega)] at hno
      have HW := Lib.hid hw
      clear hw hno
      go_wp2
      go_ret
      exact ⟨by rw [HW.out]; rfl, hX⟩
end Go.Proofs.YtmmihcophkipoaaDoor
