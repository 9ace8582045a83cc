import Derived.Test.YtmmihcophkipoaaDoorD8
namespace Go.Proofs.YtmmihcophkipoaaDoor
open Go.ChangeShapes Go.WideShapes Go.ChangeAt Go.RowKit
set_option linter.unusedVariables false
set_option linter.unusedSimpArgs false
attribute [local go_sem] bs_beq bs_bne bs_less bs_size bs_extract
/-- each arc leads to a node -/
structure Fine (d : Au) : Prop where
  ne : 0 < d.length
  le : d.length ≤ 1000000
  arcs : ∀ x ∈ d, x.2.length ≤ 1000000
  to : ∀ x ∈ d, ∀ a ∈ x.2, 0 ≤ a.2 ∧ a.2 < d.length
def arcsOf (d : Au) (n : Nat) : List (UInt8 × Int) := (d.getD n (false, [])).2
def step (d : Au) (n : Nat) (c : UInt8) : Option Nat := if aix (arcsOf d n) c < 0 then none else some ((arcsOf d n).getD (aix (arcsOf d n) c).toNat (0, 0)).2.toNat
def lead (d : Au) : Nat → W → Option Nat
  | n, [] => some n
  | n, c :: s => match step d n c with
    | none => none
    | some m => lead d m s
def optI : Option Nat → Int
  | none => -1
  | some n => n
theorem aix_cases (l : List (UInt8 × Int)) (c : UInt8) : aix l c = -1 ∨ ∃ k, k < l.length ∧ aix l c = (k : Nat) := by
  unfold aix
  split
  · exact .inr ⟨_, by assumption, rfl⟩
  · exact .inl rfl
theorem arcsOf_at {d : Au} {n : Nat} (h : n < d.length) : arcsOf d n = d[n].2 := by unfold arcsOf; simp [h]
theorem step_lt {d : Au} (f : Fine d) {n m : Nat} {c : UInt8} (hn : n < d.length) (h : step d n c = some m) : m < d.length := by
  unfold step at h
  split at h
  · cases h
  · rename_i hh
    injection h with h
    rcases aix_cases (arcsOf d n) c with h1 | ⟨k, hk, h1⟩
    · omega
    · rw [h1] at h
      simp only [Int.toNat_natCast] at h
      have hm : (arcsOf d n)[k] ∈ d[n].2 := by rw [← arcsOf_at hn]; exact List.getElem_mem hk
      have := f.to _ (List.getElem_mem hn) _ hm
      simp [hk] at h
      omega
theorem lead_lt {d : Au} (f : Fine d) : ∀ (s : W) (n m : Nat), n < d.length → lead d n s = some m → m < d.length := by
  intro s
  induction s with
  | nil => intro n m hn h; injection h with h; omega
  | cons c s ih =>
    intro n m hn h
    unfold lead at h
    cases hs : step d n c with
    | none => rw [hs] at h; cases h
    | some k => rw [hs] at h; exact ih k m (step_lt f hn hs) h
set_option maxHeartbeats 1000000 in
set_option maxRecDepth 100000 in
theorem lead_any (A : Option Addr) (c : Nat) (d : Au) (s : W) (w : World) (hd : Dw w A d) (f : Fine d) (hs : s.length ≤ maxLen) :
    Calls Tryd.prog 54 #[.slice A d.length c, .string (bs s)] w fun e w' => e = .returned (.int .i64 (optI (lead d 0 s))) ∧ Ext w w' := by
  have hs0 := hs
  unfold maxLen at hs
  obtain ⟨r, hr0⟩ : ∃ r, lead d 0 s = r := ⟨_, rfl⟩
  rw [hr0]
  have hdl := f.le
  have hdn := f.ne
  have hnl : ∀ n (h : n < d.length), d[n].2.length ≤ 1000000 := fun n h => f.arcs _ (List.getElem_mem h)
  have HNL := Lib.hid hnl; clear hnl
  have X := Blk.new w 9 #[.string (bs s)]
  have hd1 := hd.ext (Ext.alloc w (Obj.cells #[.string (bs s)] 9))
  have HR := Lib.hid hr0
  go_enter Tryd.func54, Tryd.ntmps54
  go_wp2_with fail
  go_loopw [5, 10] (fun a i wr => ∃ k n : Nat, k ≤ s.length ∧ i = .int .i64 k ∧ a = .int .i64 n ∧ n < d.length ∧ lead d n (s.drop k) = r ∧ Ext (w.alloc (Obj.cells #[.string (bs s)] 9)) wr) (fun _ i _ => s.length + 1 - (intOf i).toNat)
  case atStart => exact ⟨0, 0, by omega, rfl, rfl, hdn, HR.out, Ext.refl _⟩
  case round =>
    clear hr0
    obtain ⟨k, n, hk, rfl, rfl, hnd, hle, hX⟩ := hrel
    have X2 := X.ext hX
    obtain ⟨x0, x1, x2⟩ := X2.f1
    by_cases hlt : k < s.length
    · have hlt' : (k : Int) < s.length := by omega
      have hnd' : (n : Int) < d.length := by omega
      obtain ⟨ad, ab, c2, e1, hab, g0, g1, ra, hc1, hc2⟩ := (hd1.ext hX).at_ hnd
      subst e1
      have hal := HNL.out n hnd
      unfold maxLen at hc2
      have HS := Lib.hid (show lead d n (s.drop k) = (match step d n s[k] with | none => none | some m => lead d m (s.drop (k + 1))) by rw [List.drop_eq_getElem_cons hlt]; rfl)
      rw [HS.out] at hle
      have HLE := Lib.hid hle
      clear hle HS
      have HST := Lib.hid (fun m => step_lt f hnd (c := s[k]) (m := m))
      have HSD := Lib.hid (show step d n s[k] = if aix d[n].2 s[k] < 0 then none else some (d[n].2.getD (aix d[n].2 s[k]).toNat (0, 0)).2.toNat by unfold step; rw [arcsOf_at hnd])
      have HTO := Lib.hid (f.to _ (List.getElem_mem hnd))
      have Y := Blk.new wr 3 #[.int .i64 k]
      go_wp2_with fail
      refine (find_any ab d[n].2.length c2 d[n].2 s[k] w.heap.size wr.heap.size s k hlt rfl hs0 _ (X2.alloc _) Y rfl (ra.alloc _) hal).mono ?_
      rintro e w1 ⟨rfl, hX1⟩
      have hE1 := Ext.trans (Ext.alloc wr (Obj.cells #[.int .i64 k] 3)) hX1
      have q0 := cell_ext hE1 hab g0
      have q1 := cell_ext hE1 (p := ⟨(ad.add (n * 2)).block, (ad.add (n * 2)).off + 1, none⟩) hab g1
      have hab2 := Nat.lt_of_lt_of_le hab hE1.le
      have ra2 := ra.ext hE1
      clear g0 g1 x0 x1 x2 hX1 Y ra
      generalize d[n].2 = l at *
      rcases aix_cases l s[k] with hx | ⟨j, hj, hx⟩
      · have hst : step d n s[k] = none := by rw [HSD.out, hx]; rfl
        have hrn : r = none := by rw [← HLE.out, hst]
        subst hrn
        rw [hx]
        clear hst hx
        go_wp2
        go_ret
        exact ⟨rfl, (Ext.alloc _ _).trans (hX.trans hE1)⟩
      · have hst : step d n s[k] = some l[j].2.toNat := by rw [HSD.out, hx]; simp [hj]
        have hto := HTO.out _ (List.getElem_mem hj)
        have hlt2 := HST.out _ hst
        have HF := Lib.hid (show lead d l[j].2.toNat (s.drop (k + 1)) = r by rw [← HLE.out, hst])
        obtain ⟨t0, t1⟩ := acells_at l j hj
        obtain ⟨p1, e1, pb1, u0, u1⟩ := ra2.twob hj t0 t1
        subst e1
        rw [hx]
        clear hst hx t0 t1
        have hj' : (j : Int) < l.length := by omega
        generalize l[j] = y at *
        obtain ⟨yc, yt⟩ := y
        simp only at hto u0 u1 HF hlt2
        have hyt : ((yt.toNat : Nat) : Int) = yt := Int.toNat_of_nonneg hto.1
        have HYT := Lib.hid hyt
        clear hyt
        go_wp2
        refine ⟨⟨k + 1, yt.toNat, by omega, by go_num, by rw [HYT.out], hlt2, HF.out, hX.trans hE1⟩, by simp only [intOf]; omega⟩
    · have hlt' : ¬ (k : Int) < s.length := by omega
      have hrn : r = some n := by rw [← hle, List.drop_of_length_le (by omega)]; rfl
      subst hrn
      clear hle
      go_wp2
      go_ret
      exact ⟨rfl, (Ext.alloc _ _).trans hX⟩
end Go.Proofs.YtmmihcophkipoaaDoor
