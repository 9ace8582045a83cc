import Derived.Test.YtmmihcophkipoaaDoorD11
import Derived.Laws.EntriesVeiled
namespace Go.Proofs.YtmmihcophkipoaaDoor
open Go.ChangeShapes Go.WideShapes Go.ChangeAt Go.RowKit
set_option linter.unusedVariables false
set_option linter.unusedSimpArgs false
attribute [local go_sem] bs_beq bs_bne bs_less bs_size bs_extract
theorem Blk.newAt (w : World) (g : Nat) (hg : w.heap.size = g) (t : TypeId) (cs : Array Value) : Blk (w.alloc (.cells cs t)) g t cs := hg ▸ Blk.new w t cs
/-- from the first node all nodes are met -/
def Met (d : Au) : Prop := ∀ P : Nat → Prop, P 0 → (∀ n, n < d.length → P n → ∀ a ∈ arcsOf d n, P a.2.toNat) → ∀ n, n < d.length → P n
theorem Memo.start (d : Au) (S : Nat → Nat) : Memo d S (Array.replicate d.length (.int .i64 (-1))) := ⟨by simp, fun i hi => .inl (by simp [hi])⟩
theorem Memo.all {d : Au} {S : Nat → Nat} {cs : Array Value} (h : Memo d S cs) (hM : Met d) (h0 : cs[0]? = some (.int .i64 (S 0))) : ∀ n, n < d.length → cs[n]? = some (.int .i64 (S n)) :=
  hM (fun n => cs[n]? = some (.int .i64 (S n))) h0 (fun n hn hp a ha => by
    rcases h.2 n hn with h1 | ⟨_, h2⟩
    · rw [hp] at h1; injection h1 with h1; injection h1 with _ h1; omega
    · exact h2 a ha)
set_option maxHeartbeats 1000000 in
set_option maxRecDepth 100000 in
theorem sizes_any (A : Option Addr) (c : Nat) (d : Au) (h S : Nat → Nat) (hS : Szs d h S) (hM : Met d) (w : World) (hd : Dw w A d) :
    Calls Tryd.prog 55 #[.slice A d.length c] w fun e w' => ∃ p cs, e = .returned (.slice (some ⟨p, 0, none⟩) d.length d.length) ∧ Blk w' p 3 cs ∧ (∀ n, n < d.length → cs[n]? = some (.int .i64 (S n))) ∧ Ext w w' := by
  have hdl := hS.fine.le
  have hdn := hS.fine.ne
  have B1 := Blk.new w 28 #[.slice A d.length c]
  have G0 := Blk.newAt (w.alloc (Obj.cells #[.slice A d.length c] 28)) (w.heap.size + 1) (by simp) 3 #[.int .i64 (-1)]
  have L : Ext w ((w.alloc (Obj.cells #[.slice A d.length c] 28)).alloc (Obj.cells #[.int .i64 (-1)] 3)) := (Ext.alloc _ _).trans (Ext.alloc _ _)
  have B1a := B1.alloc (Obj.cells #[.int .i64 (-1)] 3)
  have HST := Lib.hid (Memo.start d S)
  go_enter Tryd.func55, Tryd.ntmps55
  go_wp2_with fail
  refine (repeat_any (w.heap.size + 1) d.length (by omega) hdl _ G0).mono ?_
  rintro e w1 ⟨p, rfl, hp, P1, hX1⟩
  have B1b := B1a.ext hX1
  have L1 := L.trans hX1
  have hp2 : w.heap.size ≤ p := by simp at hp; omega
  clear B1 G0 B1a L
  have hp3 := P1.lt
  have hw1 := L1.le
  go_wp2_with fail
  generalize hFV : Value.func (.func 89) #[] #[.pointer (some ⟨w1.heap.size, 0, none⟩), .pointer (some ⟨w.heap.size, 0, none⟩), .pointer (some ⟨w1.heap.size + 1, 0, none⟩)] = FV
  have T3 := (Blk.new w1 65 #[.slice (some ⟨p, 0, none⟩) d.length d.length]).alloc (Obj.cells #[FV] 130)
  have T4 := Blk.newAt (w1.alloc (Obj.cells #[.slice (some ⟨p, 0, none⟩) d.length d.length] 65)) (w1.heap.size + 1) (by simp) 130 #[FV]
  have P2 := (P1.alloc (Obj.cells #[.slice (some ⟨p, 0, none⟩) d.length d.length] 65)).alloc (Obj.cells #[FV] 130)
  have B1c := (B1b.alloc (Obj.cells #[.slice (some ⟨p, 0, none⟩) d.length d.length] 65)).alloc (Obj.cells #[FV] 130)
  have L2 : Ext w ((w1.alloc (Obj.cells #[.slice (some ⟨p, 0, none⟩) d.length d.length] 65)).alloc (Obj.cells #[FV] 130)) := L1.trans ((Ext.alloc _ _).trans (Ext.alloc _ _))
  subst hFV
  have hz : ((0 : Nat) : Int) = 0 := rfl
  refine (size_any d h S hS w A c hd p w.heap.size w1.heap.size (w1.heap.size + 1) hp2 (Nat.le_refl _) hw1 (by omega) (h 0 + 1) 0 _ _ (by omega) hdn L2 B1c T3 T4 P2 HST.out).mono ?_
  rintro e w2 ⟨rfl, cs, P3, hm, h0, _, hgr⟩
  have T5 := T3.grown hgr (by simp; omega)
  have L3 : Ext w w2 := Below.grown L2 hgr L2.le (fun k e => by injection e with e; omega)
  obtain ⟨t0, t1, t2⟩ := T5.f1
  have HP := Lib.hid (hm.all hM h0)
  clear h0 hm
  go_wp2
  go_ret
  exact ⟨_, _, rfl, P3, HP.out, L3⟩
def finO (d : Au) : Option Nat → Bool
  | none => false
  | some n => (d.getD n (false, [])).1
def cntO (S : Nat → Nat) : Option Nat → Nat
  | none => 0
  | some n => S n
theorem idx_lead {d : Au} {n : Nat} (hn : n < d.length) : (n : Int) < d.length := by omega
set_option maxHeartbeats 1000000 in
theorem count_any (A : Option Addr) (c : Nat) (d : Au) (h S : Nat → Nat) (hS : Szs d h S) (hM : Met d) (s : W) (hs : s.length ≤ maxLen) (w : World) (hd : Dw w A d) :
    Calls Tryd.prog 28 #[.slice A d.length c, .string (bs s)] w fun e w' => e = .returned (.int .i64 (cntO S (lead d 0 s))) ∧ Ext w w' := by
  have hdl := hS.fine.le
  obtain ⟨r, hr⟩ : ∃ r, lead d 0 s = r := ⟨_, rfl⟩
  have HLT := Lib.hid (fun m => lead_lt hS.fine s 0 m hS.fine.ne)
  rw [hr] at HLT ⊢
  have HR := Lib.hid (show optI (lead d 0 s) = optI r by rw [hr])
  clear hr
  go_enter Tryd.func28, Tryd.ntmps28
  go_wp2_with fail
  refine (lead_any A c d s _ hd hS.fine hs).mono ?_
  rintro e w1 ⟨rfl, hX⟩
  rw [HR.out]
  cases r with
  | none =>
    have h1 : optI none = -1 := rfl
    rw [h1]
    clear h1
    go_wp2
    go_ret
    exact ⟨rfl, hX⟩
  | some n =>
    have hn := HLT.out n rfl
    have h1 : optI (some n) = n := rfl
    rw [h1]
    clear h1
    have hle := hS.le n hn
    have hn' : (n : Int) < d.length := by omega
    go_wp2_with fail
    refine (sizes_any A c d h S hS hM _ (hd.ext hX)).mono ?_
    rintro e w2 ⟨p, cs, rfl, P, hall, hX2⟩
    have hc := (P.cell n).trans (hall n hn)
    have HA := Lib.hid hall
    clear hall
    go_wp2
    go_ret
    exact ⟨rfl, hX.trans hX2⟩
theorem has_any (A : Option Addr) (c : Nat) (d : Au) (f : Fine d) (s : W) (hs : s.length ≤ maxLen) (w : World) (hd : Dw w A d) :
    Calls Tryd.prog 25 #[.slice A d.length c, .string (bs s)] w fun e w' => e = .returned (.bool (finO d (lead d 0 s))) ∧ Ext w w' := by
  have hdl := f.le
  obtain ⟨r, hr⟩ : ∃ r, lead d 0 s = r := ⟨_, rfl⟩
  have HLT := Lib.hid (fun m => lead_lt f s 0 m f.ne)
  rw [hr] at HLT ⊢
  obtain ⟨ans, hans⟩ : ∃ ans, finO d r = ans := ⟨_, rfl⟩
  rw [hans]
  have HANS := Lib.hid hans
  clear hans
  have HR := Lib.hid (show optI (lead d 0 s) = optI r by rw [hr])
  clear hr
  go_enter Tryd.func25, Tryd.ntmps25
  go_wp2_with fail
  refine (lead_any A c d s _ hd f hs).mono ?_
  rintro e w1 ⟨rfl, hX⟩
  rw [HR.out]
  cases r with
  | none =>
    have h1 : optI none = -1 := rfl
    rw [h1]
    clear h1
    have ha : ans = false := HANS.out.symm
    subst ha
    go_wp2
    go_ret
    exact ⟨rfl, hX⟩
  | some n =>
    have hn := HLT.out n rfl
    have h1 : optI (some n) = n := rfl
    rw [h1]
    clear h1
    have hn' : (n : Int) < d.length := by omega
    obtain ⟨ad, ab, c2, e1, hab, g0, g1, ra, hc1, hc2⟩ := (hd.ext hX).at_ hn
    subst e1
    obtain ⟨f1, hf1⟩ : ∃ f1, d[n].1 = f1 := ⟨_, rfl⟩
    have ha : ans = f1 := by rw [← HANS.out, ← hf1]; simp [finO, hn]
    subst ha
    rw [hf1] at g0
    clear hf1 g1 ra hc1
    have hn0 : (0 : Int) ≤ n := by omega
    go_wp2
    go_ret
    exact ⟨rfl, hX⟩
end Go.Proofs.YtmmihcophkipoaaDoor
