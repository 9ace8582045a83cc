import Derived.Test.YtmmihcophkipoaaDoorD10
namespace Go.Proofs.YtmmihcophkipoaaDoor
open Go.ChangeShapes Go.WideShapes Go.ChangeAt Go.RowKit
set_option linter.unusedVariables false
set_option linter.unusedSimpArgs false
/-- the numbers of words that lead on from the nodes -/
structure Szs (d : Au) (h S : Nat → Nat) : Prop where
  fine : Fine d
  rank : ∀ n, n < d.length → ∀ a ∈ arcsOf d n, h a.2.toNat < h n
  sum : ∀ n (hn : n < d.length), S n = (if d[n].1 = true then 1 else 0) + ((arcsOf d n).map fun a => S a.2.toNat).sum
  le : ∀ n, n < d.length → S n ≤ 1000000
def Memo (d : Au) (S : Nat → Nat) (cs : Array Value) : Prop := cs.size = d.length ∧ ∀ i, i < d.length → cs[i]? = some (.int .i64 (-1)) ∨ (cs[i]? = some (.int .i64 (S i)) ∧ ∀ a ∈ arcsOf d i, cs[a.2.toNat]? = some (.int .i64 (S a.2.toNat)))
def SzPost (d : Au) (S : Nat → Nat) (n g : Nat) (cs : Array Value) (w : World) (e : Ending) (w' : World) : Prop :=
  e = .returned (.int .i64 (S n)) ∧ ∃ cs', Blk w' g 3 cs' ∧ Memo d S cs' ∧ cs'[n]? = some (.int .i64 (S n)) ∧ (∀ i : Nat, cs[i]? = some (Value.int .i64 (S i)) → cs'[i]? = some (.int .i64 (S i))) ∧ w.grownBy w' (some g)
theorem Memo.set_ {d : Au} {S : Nat → Nat} {cs : Array Value} (h : Memo d S cs) {n : Nat} (hn : n < d.length) (hall : ∀ a ∈ arcsOf d n, cs[a.2.toNat]? = some (.int .i64 (S a.2.toNat))) :
    Memo d S (cs.setIfInBounds n (.int .i64 (S n))) ∧ (cs.setIfInBounds n (.int .i64 (S n)))[n]? = some (.int .i64 (S n)) ∧ (∀ i : Nat, cs[i]? = some (Value.int .i64 (S i)) → (cs.setIfInBounds n (.int .i64 (S n)))[i]? = some (.int .i64 (S i))) := by
  have hsz : n < cs.size := by rw [h.1]; exact hn
  have hat : (cs.setIfInBounds n (.int .i64 (S n)))[n]? = some (.int .i64 (S n)) := by simp [hsz]
  have hmono : ∀ i : Nat, cs[i]? = some (Value.int .i64 (S i)) → (cs.setIfInBounds n (.int .i64 (S n)))[i]? = some (.int .i64 (S i)) := by
    intro i hi
    by_cases e : i = n
    · subst e; exact hat
    · rw [Array.getElem?_setIfInBounds_ne (Ne.symm e)]; exact hi
  refine ⟨⟨by simp [h.1], fun i hi => ?_⟩, hat, hmono⟩
  by_cases e : i = n
  · subst e
    exact .inr ⟨hat, fun a ha => hmono _ (hall a ha)⟩
  · rw [Array.getElem?_setIfInBounds_ne (Ne.symm e)]
    rcases h.2 i hi with h1 | ⟨h1, h2⟩
    · exact .inl h1
    · exact .inr ⟨h1, fun a ha => hmono _ (h2 a ha)⟩
theorem sum_take_snoc (l : List (UInt8 × Int)) (S : Nat → Nat) (k : Nat) (h : k < l.length) : ((l.take (k + 1)).map fun a => S a.2.toNat).sum = ((l.take k).map fun a => S a.2.toNat).sum + S l[k].2.toNat := by
  rw [take_snoc l k h, List.map_append, List.sum_append]; simp
theorem sum_take_le (l : List (UInt8 × Int)) (S : Nat → Nat) (k : Nat) : ((l.take k).map fun a => S a.2.toNat).sum ≤ (l.map fun a => S a.2.toNat).sum := by
  conv => rhs; rw [← List.take_append_drop k l]
  rw [List.map_append, List.sum_append]; omega
set_option maxHeartbeats 2000000 in
set_option maxRecDepth 100000 in
theorem size_any (d : Au) (h S : Nat → Nat) (hS : Szs d h S) (w0 : World) (A : Option Addr) (c : Nat) (hd : Dw w0 A d) (g b1 b3 b4 : Nat) (hg0 : w0.heap.size ≤ g) (h41 : w0.heap.size ≤ b1) (h43 : w0.heap.size ≤ b3) (h44 : w0.heap.size ≤ b4) :
    ∀ (N n : Nat) (cs : Array Value) (w : World), h n < N → n < d.length → Ext w0 w → Blk w b1 28 #[.slice A d.length c] → Blk w b3 65 #[.slice (some ⟨g, 0, none⟩) d.length d.length] →
      Blk w b4 130 #[.func (.func 89) #[] #[.pointer (some ⟨b3, 0, none⟩), .pointer (some ⟨b1, 0, none⟩), .pointer (some ⟨b4, 0, none⟩)]] → Blk w g 3 cs → Memo d S cs →
      Calls Tryd.prog 89 #[.int .i64 n, .pointer (some ⟨b3, 0, none⟩), .pointer (some ⟨b1, 0, none⟩), .pointer (some ⟨b4, 0, none⟩)] w (SzPost d S n g cs w) := by
  intro N
  induction N with
  | zero => intro n cs w hN; omega
  | succ N ih =>
    intro n cs w hN hn hE B1 B3 B4 G hm
    have hdl := hS.fine.le
    have hn' : (n : Int) < d.length := by omega
    obtain ⟨ad, ab, c2, e1, hab', g0', g1', ra0, hc1, hc2⟩ := hd.at_ hn
    subst e1
    have g0 := cell_ext hE hab' g0'
    have g1 := cell_ext hE (p := ⟨(ad.add (n * 2)).block, (ad.add (n * 2)).off + 1, none⟩) hab' g1'
    have hab := Nat.lt_of_lt_of_le hab' hE.le
    clear hab' g0' g1'
    have hcn := G.cell n
    obtain ⟨x0, x1, x2⟩ := B1.f1
    obtain ⟨y0, y1, y2⟩ := B3.f1
    obtain ⟨z0, z1, z2⟩ := B4.f1
    rcases hm.2 n hn with h1 | ⟨h1, h2⟩
    · rw [h1] at hcn
      have HM := Lib.hid hm
      have HSN := Lib.hid (hS.sum n hn)
      have hle := hS.le n hn
      have HRK := Lib.hid (hS.rank n hn)
      have HTO := Lib.hid (hS.fine.to _ (List.getElem_mem hn))
      have hal := hS.fine.arcs _ (List.getElem_mem hn)
      have HAO := Lib.hid (arcsOf_at hn)
      have HC1 := Lib.hid h1
      clear hm h1
      have hgr : w.grownBy w (some g) := World.grownBy.refl w _
      obtain ⟨f, hf⟩ : ∃ f, d[n].1 = f := ⟨_, rfl⟩
      obtain ⟨l, hl⟩ : ∃ l, d[n].2 = l := ⟨_, rfl⟩
      rw [hl] at HAO HTO hal g1 ra0 hc1
      rw [hf] at HSN g0
      rw [HAO.out] at HSN HRK
      clear hf hl
      cases f
      · rw [if_neg (by decide)] at HSN
        go_enter Tryd.func89, Tryd.ntmps89
        go_wp2_with fail
        go_loopw [6, 31] (fun s i wr => ∃ (k m : Nat) (cs1 : Array Value), k ≤ l.length ∧ i = .int .i64 k ∧ s = .int .i64 m ∧ m = 0 + ((l.take k).map fun a => S a.2.toNat).sum ∧ Blk wr g 3 cs1 ∧ Memo d S cs1 ∧ (∀ j, j < k → ∀ hj : j < l.length, cs1[l[j].2.toNat]? = some (.int .i64 (S l[j].2.toNat))) ∧ (∀ i : Nat, cs[i]? = some (Value.int .i64 (S i)) → cs1[i]? = some (.int .i64 (S i))) ∧ w.grownBy wr (some g)) (fun _ i _ => 1000001 - (intOf i).toNat)
        case atStart => exact ⟨0, 0, cs, by omega, rfl, rfl, by simp, G, HM.out, fun j hj => absurd hj (by omega), fun i hi => hi, hgr⟩
        case round =>
          clear hgr x0 x1 x2 y0 y1 y2 z0 z1 z2 g0 g1 hcn
          obtain ⟨k, m, cs1, hk, rfl, rfl, hmm, G1, hm1, hch, hmon, hgr⟩ := hrel
          have hsl : ((l.take k).map fun a => S a.2.toNat).sum ≤ (l.map fun a => S a.2.toNat).sum := sum_take_le l S k
          have hmle : m ≤ 1000000 := by have := HSN.out; omega
          have ne1 : b1 ≠ g := by rintro rfl; have h5 := B1; have h6 := G; unfold Blk at h5 h6; rw [h6] at h5; injection h5 with h5; injection h5 with _ h5; cases h5
          have ne3 : b3 ≠ g := by rintro rfl; have h5 := B3; have h6 := G; unfold Blk at h5 h6; rw [h6] at h5; injection h5 with h5; injection h5 with _ h5; cases h5
          have ne4 : b4 ≠ g := by rintro rfl; have h5 := B4; have h6 := G; unfold Blk at h5 h6; rw [h6] at h5; injection h5 with h5; injection h5 with _ h5; cases h5
          have B1r := B1.grown hgr (by simp; exact fun e => ne1 e.symm)
          have B3r := B3.grown hgr (by simp; exact fun e => ne3 e.symm)
          have B4r := B4.grown hgr (by simp; exact fun e => ne4 e.symm)
          have hEr : Ext w0 wr := Below.grown hE hgr hE.le (fun k e => by injection e with e; omega)
          obtain ⟨x0, x1, x2⟩ := B1r.f1
          obtain ⟨y0, y1, y2⟩ := B3r.f1
          obtain ⟨z0, z1, z2⟩ := B4r.f1
          by_cases hlt : k < l.length
          · have hlt' : (k : Int) < l.length := by omega
            obtain ⟨q0, q1⟩ := acells_at l k hlt
            have rar : Rd wr 0 2 ab l.length (acells l) := (ra0.ext hEr)
            obtain ⟨pd, e1, pb, c0, c1⟩ := rar.twob hlt q0 q1
            subst e1
            clear q0 q1
            have HXS := Lib.hid (sum_take_snoc l S k hlt)
            have hrk := HRK.out _ (List.getElem_mem hlt)
            have hto := HTO.out _ (List.getElem_mem hlt)
            have hmm2 := Lib.hid hmm
            have HCH := Lib.hid hch
            have HSN2 := Lib.hid (sum_take_le l S (k + 1))
            clear hmm hch hsl
            have hlk : l[k].2.toNat < d.length := by omega
            have HNX := Lib.hid (show ∀ cs2 : Array Value, (∀ i : Nat, cs1[i]? = some (Value.int .i64 (S i)) → cs2[i]? = some (.int .i64 (S i))) → cs2[l[k].2.toNat]? = some (.int .i64 (S l[k].2.toNat)) → ∀ j, j < k + 1 → ∀ hj : j < l.length, cs2[l[j].2.toNat]? = some (.int .i64 (S l[j].2.toNat)) from fun cs2 h5 h6 j hj hjl => by
              by_cases e : j = k
              · subst e; exact h6
              · exact h5 _ (HCH.out j (by omega) hjl))
            generalize l[k] = y at *
            obtain ⟨yc, yt⟩ := y
            simp only at c0 c1 hrk hto hlk HXS HNX
            have hyt : ((yt.toNat : Nat) : Int) = yt := Int.toNat_of_nonneg hto.1
            obtain ⟨yn, hyn⟩ : ∃ yn, yt.toNat = yn := ⟨_, rfl⟩
            rw [hyn] at hrk hlk HXS HNX hyt
            subst hyt
            clear hyn
            go_wp2_with fail
            have G1a := G1.alloc (Obj.cells #[.int .u8 yc.toNat, .int .i64 yn] 49)
            refine (ih yn cs1 _ (by omega) hlk (hEr.trans (Ext.alloc _ _)) (B1r.alloc _) (B3r.alloc _) (B4r.alloc _) G1a hm1).mono ?_
            rintro e w2 ⟨rfl, cs2, G2, hm2, hs2, hmon2, hgr2⟩
            have hgr3 := hgr.trans ((World.grownBy_alloc wr (Obj.cells #[.int .u8 yc.toNat, .int .i64 yn] 49) (some g)).trans hgr2)
            have hSle := hS.le yn hlk
            have HS2 := Lib.hid hs2
            have HMN := Lib.hid hmon2
            clear hs2 hmon2 x0 x1 x2 y0 y1 y2 z0 z1 z2 c0 c1
            obtain ⟨sv0, hsv⟩ : ∃ sv0, S yn = sv0 := ⟨_, rfl⟩
            have HSV := Lib.hid hsv
            rw [hsv] at hSle ⊢
            clear hsv
            go_wp2
            refine ⟨⟨k + 1, m + sv0, cs2, by omega, by go_num, by go_num, ?_, G2, hm2, HNX.out cs2 HMN.out HS2.out, fun i hi => HMN.out i (hmon i hi), hgr3⟩, by simp only [intOf]; omega⟩
            rw [HXS.out, HSV.out, hmm2.out]; omega
          · have hkl : k = l.length := by omega
            subst hkl
            rw [List.take_of_length_le (Nat.le_refl _)] at hmm
            have hSm : S n = m := by rw [HSN.out, hmm]
            have hset := hm1.set_ hn (by
              rw [HAO.out]
              intro a ha
              obtain ⟨j, hj, rfl⟩ := List.getElem_of_mem ha
              exact hch j hj hj)
            have hcg := G1.cell n
            obtain ⟨u, hu⟩ : ∃ u, cs1[n]? = some u := ⟨_, Array.getElem?_eq_getElem (by rw [hm1.1]; exact hn)⟩
            rw [hu] at hcg
            have hfg := G1.frozen n
            have hglt := G1.lt
            have HP : ∀ e, e = .returned (.int .i64 m) → SzPost d S n g cs w e (wr.setCell ⟨g, n, none⟩ (.int .i64 m)) := by
              rintro e rfl
              rw [← hSm]
              refine ⟨rfl, _, G1.set_ n _, hset.1, hset.2.1, fun i hi => hset.2.2 i (hmon i hi), hgr.trans ⟨rfl, rfl, rfl, by simp, fun b hb hne => Below.heap_setCell _ _ _ _ (by intro e; apply hne; rw [e])⟩⟩
            have HP2 := Lib.hid HP
            clear HP hset hmm hch hsl hSm hu
            go_wp2
            go_ret
            exact HP2.out _ rfl
      · rw [if_pos rfl] at HSN
        go_enter Tryd.func89, Tryd.ntmps89
        go_wp2_with fail
        go_loopw [6, 31] (fun s i wr => ∃ (k m : Nat) (cs1 : Array Value), k ≤ l.length ∧ i = .int .i64 k ∧ s = .int .i64 m ∧ m = 1 + ((l.take k).map fun a => S a.2.toNat).sum ∧ Blk wr g 3 cs1 ∧ Memo d S cs1 ∧ (∀ j, j < k → ∀ hj : j < l.length, cs1[l[j].2.toNat]? = some (.int .i64 (S l[j].2.toNat))) ∧ (∀ i : Nat, cs[i]? = some (Value.int .i64 (S i)) → cs1[i]? = some (.int .i64 (S i))) ∧ w.grownBy wr (some g)) (fun _ i _ => 1000001 - (intOf i).toNat)
        case atStart => exact ⟨0, 1, cs, by omega, rfl, rfl, by simp, G, HM.out, fun j hj => absurd hj (by omega), fun i hi => hi, hgr⟩
        case round =>
          clear hgr x0 x1 x2 y0 y1 y2 z0 z1 z2 g0 g1 hcn
          obtain ⟨k, m, cs1, hk, rfl, rfl, hmm, G1, hm1, hch, hmon, hgr⟩ := hrel
          have hsl : ((l.take k).map fun a => S a.2.toNat).sum ≤ (l.map fun a => S a.2.toNat).sum := sum_take_le l S k
          have hmle : m ≤ 1000000 := by have := HSN.out; omega
          have ne1 : b1 ≠ g := by rintro rfl; have h5 := B1; have h6 := G; unfold Blk at h5 h6; rw [h6] at h5; injection h5 with h5; injection h5 with _ h5; cases h5
          have ne3 : b3 ≠ g := by rintro rfl; have h5 := B3; have h6 := G; unfold Blk at h5 h6; rw [h6] at h5; injection h5 with h5; injection h5 with _ h5; cases h5
          have ne4 : b4 ≠ g := by rintro rfl; have h5 := B4; have h6 := G; unfold Blk at h5 h6; rw [h6] at h5; injection h5 with h5; injection h5 with _ h5; cases h5
          have B1r := B1.grown hgr (by simp; exact fun e => ne1 e.symm)
          have B3r := B3.grown hgr (by simp; exact fun e => ne3 e.symm)
          have B4r := B4.grown hgr (by simp; exact fun e => ne4 e.symm)
          have hEr : Ext w0 wr := Below.grown hE hgr hE.le (fun k e => by injection e with e; omega)
          obtain ⟨x0, x1, x2⟩ := B1r.f1
          obtain ⟨y0, y1, y2⟩ := B3r.f1
          obtain ⟨z0, z1, z2⟩ := B4r.f1
          by_cases hlt : k < l.length
          · have hlt' : (k : Int) < l.length := by omega
            obtain ⟨q0, q1⟩ := acells_at l k hlt
            have rar : Rd wr 0 2 ab l.length (acells l) := (ra0.ext hEr)
            obtain ⟨pd, e1, pb, c0, c1⟩ := rar.twob hlt q0 q1
            subst e1
            clear q0 q1
            have HXS := Lib.hid (sum_take_snoc l S k hlt)
            have hrk := HRK.out _ (List.getElem_mem hlt)
            have hto := HTO.out _ (List.getElem_mem hlt)
            have hmm2 := Lib.hid hmm
            have HCH := Lib.hid hch
            have HSN2 := Lib.hid (sum_take_le l S (k + 1))
            clear hmm hch hsl
            have hlk : l[k].2.toNat < d.length := by omega
            have HNX := Lib.hid (show ∀ cs2 : Array Value, (∀ i : Nat, cs1[i]? = some (Value.int .i64 (S i)) → cs2[i]? = some (.int .i64 (S i))) → cs2[l[k].2.toNat]? = some (.int .i64 (S l[k].2.toNat)) → ∀ j, j < k + 1 → ∀ hj : j < l.length, cs2[l[j].2.toNat]? = some (.int .i64 (S l[j].2.toNat)) from fun cs2 h5 h6 j hj hjl => by
              by_cases e : j = k
              · subst e; exact h6
              · exact h5 _ (HCH.out j (by omega) hjl))
            generalize l[k] = y at *
            obtain ⟨yc, yt⟩ := y
            simp only at c0 c1 hrk hto hlk HXS HNX
            have hyt : ((yt.toNat : Nat) : Int) = yt := Int.toNat_of_nonneg hto.1
            obtain ⟨yn, hyn⟩ : ∃ yn, yt.toNat = yn := ⟨_, rfl⟩
            rw [hyn] at hrk hlk HXS HNX hyt
            subst hyt
            clear hyn
            go_wp2_with fail
            have G1a := G1.alloc (Obj.cells #[.int .u8 yc.toNat, .int .i64 yn] 49)
            refine (ih yn cs1 _ (by omega) hlk (hEr.trans (Ext.alloc _ _)) (B1r.alloc _) (B3r.alloc _) (B4r.alloc _) G1a hm1).mono ?_
            rintro e w2 ⟨rfl, cs2, G2, hm2, hs2, hmon2, hgr2⟩
            have hgr3 := hgr.trans ((World.grownBy_alloc wr (Obj.cells #[.int .u8 yc.toNat, .int .i64 yn] 49) (some g)).trans hgr2)
            have hSle := hS.le yn hlk
            have HS2 := Lib.hid hs2
            have HMN := Lib.hid hmon2
            clear hs2 hmon2 x0 x1 x2 y0 y1 y2 z0 z1 z2 c0 c1
            obtain ⟨sv0, hsv⟩ : ∃ sv0, S yn = sv0 := ⟨_, rfl⟩
            have HSV := Lib.hid hsv
            rw [hsv] at hSle ⊢
            clear hsv
            go_wp2
            refine ⟨⟨k + 1, m + sv0, cs2, by omega, by go_num, by go_num, ?_, G2, hm2, HNX.out cs2 HMN.out HS2.out, fun i hi => HMN.out i (hmon i hi), hgr3⟩, by simp only [intOf]; omega⟩
            rw [HXS.out, HSV.out, hmm2.out]; omega
          · have hkl : k = l.length := by omega
            subst hkl
            rw [List.take_of_length_le (Nat.le_refl _)] at hmm
            have hSm : S n = m := by rw [HSN.out, hmm]
            have hset := hm1.set_ hn (by
              rw [HAO.out]
              intro a ha
              obtain ⟨j, hj, rfl⟩ := List.getElem_of_mem ha
              exact hch j hj hj)
            have hcg := G1.cell n
            obtain ⟨u, hu⟩ : ∃ u, cs1[n]? = some u := ⟨_, Array.getElem?_eq_getElem (by rw [hm1.1]; exact hn)⟩
            rw [hu] at hcg
            have hfg := G1.frozen n
            have hglt := G1.lt
            have HP : ∀ e, e = .returned (.int .i64 m) → SzPost d S n g cs w e (wr.setCell ⟨g, n, none⟩ (.int .i64 m)) := by
              rintro e rfl
              rw [← hSm]
              refine ⟨rfl, _, G1.set_ n _, hset.1, hset.2.1, fun i hi => hset.2.2 i (hmon i hi), hgr.trans ⟨rfl, rfl, rfl, by simp, fun b hb hne => Below.heap_setCell _ _ _ _ (by intro e; apply hne; rw [e])⟩⟩
            have HP2 := Lib.hid HP
            clear HP hset hmm hch hsl hSm hu
            go_wp2
            go_ret
            exact HP2.out _ rfl
    · have hle := hS.le n hn
      rw [h1] at hcn
      have HP := Lib.hid (show SzPost d S n g cs w (.returned (.int .i64 (S n))) w from ⟨rfl, cs, G, hm, h1, fun i hi => hi, World.grownBy.refl w _⟩)
      have HM := Lib.hid hm
      clear hm h1 h2
      generalize S n = s at *
      have hs0 : (0 : Int) ≤ s := by omega
      go_enter Tryd.func89, Tryd.ntmps89
      go_wp2
      go_ret
      exact HP.out
end Go.Proofs.YtmmihcophkipoaaDoor
