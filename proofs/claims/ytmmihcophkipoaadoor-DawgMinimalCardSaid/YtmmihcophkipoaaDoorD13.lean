import Derived.Test.YtmmihcophkipoaaDoorD12
import Derived.Laws.RangeString
import Derived.WalkSmall
namespace Go.Proofs.YtmmihcophkipoaaDoor
open Go.ChangeShapes Go.WideShapes Go.ChangeAt Go.RowKit
set_option linter.unusedVariables false
set_option linter.unusedSimpArgs false
attribute [local go_sem] bs_beq bs_bne bs_less bs_size bs_extract
theorem wrap32_u8 (c : UInt8) : wrap32 (c.toNat : Int) = c.toNat := by have := c.toNat_lt; unfold wrap32; omega
attribute [local go_sem] wrap32_u8
/-- block g goes through the string s, at pos -/
def It (w : World) (g : Nat) (s : W) (pos : Nat) : Prop := w.heap[g]? = some (.stringIter (bs s) pos)
theorem It.lt {w : World} {g : Nat} {s : W} {pos : Nat} (h : It w g s pos) : g < w.heap.size := (Array.getElem?_eq_some_iff.1 h).1
theorem It.alloc {w : World} {g : Nat} {s : W} {pos : Nat} (h : It w g s pos) (o : Obj) : It (w.alloc o) g s pos := (Below.heap_alloc w o g h.lt).trans h
theorem It.ext {w w' : World} {g : Nat} {s : W} {pos : Nat} (h : It w g s pos) (hE : Ext w w') : It w' g s pos := (hE.block g h.lt).trans h
theorem It.next {w : World} {g : Nat} {s : W} {pos : Nat} (h : It w g s pos) (hlt : pos < s.length) (ha : s[pos].toNat < 128) :
    ∃ w2, (∀ ty, (Instr.next (.pointer (some ⟨g, 0, none⟩)) true ty).run Tryd.prog w = .ok (.tuple #[.bool true, .int .i64 pos, .int .i32 s[pos].toNat]) w2) ∧ It w2 g s (pos + 1) ∧ w.grownBy w2 (some g) := by
  have hz : pos < (bs s).size := by rw [bs_size]; exact hlt
  have ha2 : ((bs s)[pos]'hz).toNat < 128 := ha
  refine ⟨{ w with heap := w.heap.setIfInBounds g (.stringIter (bs s) (pos + 1)) }, fun ty => ?_, ?_, ⟨rfl, rfl, rfl, by simp, fun b hb hne => ?_⟩⟩
  · unfold It at h
    simp only [Instr.next, getObj, setObj, Sem.run_bind, Sem.run, h, Result.andThen, hz, if_true, decode_ascii _ pos hz ha2]
    simp [goInt, Sem.run, h]
    rfl
  · unfold It
    have := h.lt
    simp [this]
  · simp only
    rw [Array.getElem?_setIfInBounds_ne (by rintro rfl; exact hne rfl)]
theorem It.done {w : World} {g : Nat} {s : W} {pos : Nat} (h : It w g s pos) (hlt : ¬ pos < s.length) : ∀ ty, (Instr.next (.pointer (some ⟨g, 0, none⟩)) true ty).run Tryd.prog w = .ok (.tuple #[.bool false]) w := by
  intro ty
  unfold It at h
  simp [Instr.next, getObj, Sem.run, h, bs_size, hlt]
def befo (S : Nat → Nat) (l : List (UInt8 × Int)) (c : UInt8) : Nat := ((l.take (aix l c).toNat).map fun a => S a.2.toNat).sum
def idxS (d : Au) (S : Nat → Nat) : Nat → W → Nat
  | _, [] => 0
  | n, c :: s => (if (d.getD n (false, [])).1 = true then 1 else 0) + befo S (arcsOf d n) c + idxS d S ((step d n c).getD 0) s
theorem befo_le {d : Au} {h S : Nat → Nat} (hS : Szs d h S) {n : Nat} (hn : n < d.length) (c : UInt8) (k : Nat) : (((arcsOf d n).take k).map fun a => S a.2.toNat).sum ≤ 1000000 := by
  have h1 := sum_take_le (arcsOf d n) S k
  have h2 := hS.sum n hn
  have h3 := hS.le n hn
  omega
theorem idxS_cons (d : Au) (S : Nat → Nat) (n : Nat) (c : UInt8) (s : W) : idxS d S n (c :: s) = (if (d.getD n (false, [])).1 = true then 1 else 0) + befo S (arcsOf d n) c + idxS d S ((step d n c).getD 0) s := rfl
theorem aix_before {l : List (UInt8 × Int)} {c : UInt8} {j : Nat} (hj : aix l c = (j : Nat)) {i : Nat} (hi : i < l.length) (hij : i < j) : l[i].1 ≠ c := by
  unfold aix at hj
  split at hj
  · have : l.findIdx (fun a => decide (a.1 = c)) = j := by omega
    have h2 := List.not_of_lt_findIdx (p := fun a : UInt8 × Int => decide (a.1 = c)) (xs := l) (i := i) (by omega)
    simpa using h2
  · omega
theorem aix_is {l : List (UInt8 × Int)} {c : UInt8} {j : Nat} (hj : aix l c = (j : Nat)) : ∃ h : j < l.length, l[j].1 = c := by
  unfold aix at hj
  split at hj
  · rename_i h
    have e : l.findIdx (fun a => decide (a.1 = c)) = j := by omega
    subst e
    exact ⟨h, by have := List.findIdx_getElem (w := h); simpa using this⟩
  · omega
theorem Dw.fin {d : Au} {n : Nat} (h : n < d.length) : (d.getD n (false, [])).1 = d[n].1 := by simp [h]
def IdxRel (w1 : World) (d : Au) (S : Nat → Nat) (s : W) (gi m : Nat) (at_ n : Value) (wr : World) : Prop :=
  ∃ k a N : Nat, k ≤ s.length ∧ at_ = .int .i64 a ∧ n = .int .i64 N ∧ a < d.length ∧ lead d a (s.drop k) = some m ∧ N + idxS d S a (s.drop k) = idxS d S 0 s ∧ N ≤ k * 1000001 ∧ It wr gi s k ∧ Below w1.heap.size w1 wr
def idxO (d : Au) (S : Nat → Nat) (s : W) : Option Nat → Int
  | none => -1
  | some n => if (d.getD n (false, [])).1 = true then (idxS d S 0 s : Nat) else -1
set_option maxHeartbeats 4000000 in
set_option maxRecDepth 100000 in
theorem index9_any (A : Option Addr) (c : Nat) (d : Au) (h S : Nat → Nat) (hS : Szs d h S) (hM : Met d) (s : W) (hs : s.length ≤ 1000) (ha : ∀ x ∈ s, x.toNat < 128) (w : World) (hd : Dw w A d) :
    Calls Tryd.prog 27 #[.slice A d.length c, .string (bs s)] w fun e w' => e = .returned (.int .i64 (idxO d S s (lead d 0 s))) ∧ Ext w w' := by
  have hdl := hS.fine.le
  have hdn := hS.fine.ne
  obtain ⟨r, hr⟩ : ∃ r, lead d 0 s = r := ⟨_, rfl⟩
  obtain ⟨ans, hans⟩ : ∃ ans : Int, idxO d S s r = ans := ⟨_, rfl⟩
  obtain ⟨b, hb⟩ : ∃ b, finO d r = b := ⟨_, rfl⟩
  rw [hr, hans]
  have HR := Lib.hid hr
  have HANS := Lib.hid hans
  have HB := Lib.hid hb
  clear hr hans hb
  go_enter Tryd.func27, Tryd.ntmps27
  go_wp2_with fail
  refine (has_any A c d hS.fine s (by unfold maxLen; omega) _ hd).mono ?_
  rintro e w1 ⟨rfl, hX⟩
  rw [HR.out, HB.out]
  cases b with
  | false =>
    have ha : ans = -1 := by
      rw [← HANS.out]
      have := HB.out
      cases r with
      | none => rfl
      | some n =>
        have h2 : (d.getD n (false, [])).1 = false := this
        unfold idxO; simp only; rw [h2]; rfl
    subst ha
    go_wp2
    go_ret
    exact ⟨rfl, hX⟩
  | true =>
    obtain ⟨m, hm⟩ : ∃ m, r = some m := by
      have := HB.out
      cases r with
      | none => cases this
      | some n => exact ⟨n, rfl⟩
    subst hm
    have hfm : (d.getD m (false, [])).1 = true := HB.out
    have hansI : ans = (idxS d S 0 s : Nat) := by rw [← HANS.out]; unfold idxO; simp only; rw [if_pos hfm]
    subst hansI
    have HTOT := Lib.hid HR.out
    clear hfm
    go_wp2_with fail
    refine (sizes_any A c d h S hS hM _ (hd.ext hX)).mono ?_
    rintro e w2 ⟨p, cs, rfl, P, hall, hX2⟩
    have hd2 := hd.ext (hX.trans hX2)
    have HA := Lib.hid hall
    have L2 := hX.trans hX2
    clear hall hX hX2 hd
    have I0 : It (w2.iter (bs s) 0) w2.heap.size s 0 := World.iter_heap _ _ _
    have hb0 : Below w2.heap.size w2 (w2.iter (bs s) 0) := (Below.refl _ _).alloc (Nat.le_refl _) _
    go_wp2_with fail
    go_loopw [6, 7] (fun a n wr => IdxRel w2 d S s w2.heap.size m a n wr) (fun _ _ wr => s.length + 1 - wr.iterPos w2.heap.size)
    case atStart => exact ⟨0, 0, 0, by omega, rfl, rfl, hdn, HTOT.out, by simp, by omega, I0, hb0⟩
    case round =>
      clear I0 hb0
      obtain ⟨k, a, N, hk, rfl, rfl, had, hld, hN, hNk, I, hbw⟩ := hrel
      by_cases hlt : k < s.length
      · obtain ⟨w3, hnx, I3, hgr⟩ := I.next hlt (ha _ (List.getElem_mem hlt))
        have hb3 : Below w2.heap.size w2 w3 := Below.grown hbw hgr hbw.size (fun k e => by injection e with e; omega)
        have hk1 : k ≤ 1000 := by omega
        have hN0 : N ≤ 1001000000 := by omega
        obtain ⟨ad, ab, c2, e1, hab, g0, g1, ra0, hc1, hc2⟩ := hd2.at_ had
        subst e1
        have ra : Rd w2 0 2 ab d[a].2.length (acells d[a].2) := ra0
        replace g0 := cell_ext hb3 hab g0
        replace g1 := cell_ext hb3 (p := ⟨(ad.add (a * 2)).block, (ad.add (a * 2)).off + 1, none⟩) hab g1
        replace hab := Nat.lt_of_lt_of_le hab hb3.size
        have hal := hS.fine.arcs _ (List.getElem_mem had)
        have hao := arcsOf_at had
        have hTO := hS.fine.to _ (List.getElem_mem had)
        have hBF := befo_le hS had (0 : UInt8)
        have hfin := Dw.fin had
        have hdr : s.drop k = s[k] :: s.drop (k + 1) := List.drop_eq_getElem_cons hlt
        rw [hdr] at hld hN
        rw [idxS_cons, hfin, hao] at hN
        have hasc := ha _ (List.getElem_mem hlt)
        have hstep : ∃ a', step d a s[k] = some a' := by
          unfold lead at hld
          cases hs2 : step d a s[k] with
          | none => rw [hs2] at hld; cases hld
          | some a' => exact ⟨a', rfl⟩
        obtain ⟨a', hstep⟩ := hstep
        have hld2 : lead d a' (s.drop (k + 1)) = some m := by unfold lead at hld; rw [hstep] at hld; exact hld
        have hx9 : ∃ j : Nat, aix d[a].2 s[k] = (j : Nat) := by
          rcases aix_cases d[a].2 s[k] with h1 | ⟨j, _, h1⟩
          · unfold step at hstep; rw [hao, h1] at hstep; simp at hstep
          · exact ⟨j, h1⟩
        obtain ⟨j, hj⟩ := hx9
        obtain ⟨hjl, hjc⟩ := aix_is hj
        have ha' : a' = (d[a].2[j]'hjl).2.toNat := by
          unfold step at hstep
          rw [hao, hj] at hstep
          simp [hjl] at hstep
          exact hstep.symm
        have HST : Hid (∀ hx : j < d[a].2.length, (step d a s[k]).getD 0 = (d[a].2[j]'hx).2.toNat) := Lib.hid (fun _ => by rw [hstep, ha']; rfl)
        have HLD : Hid (∀ hx : j < d[a].2.length, lead d (d[a].2[j]'hx).2.toNat (s.drop (k + 1)) = some m) := Lib.hid (fun _ => by rw [← ha']; exact hld2)
        have HNE : Hid (∀ x (hx : x < d[a].2.length), x < j → (d[a].2[x]'hx).1 ≠ s[k]) := Lib.hid (fun x hx hxj => aix_before hj hx hxj)
        have HYC := Lib.hid hjc
        have HBJ : Hid (befo S d[a].2 s[k] = ((d[a].2.take j).map fun a => S a.2.toNat).sum) := Lib.hid (by unfold befo; rw [hj]; rfl)
        rw [hao] at hBF
        have HBF := Lib.hid hBF
        have HTO := Lib.hid hTO
        clear hBF hTO hdr hld hstep hld2 hj hjc ha' hao hfin a' ra0
        obtain ⟨sk, hsk⟩ : ∃ sk, s[k] = sk := ⟨_, rfl⟩
        obtain ⟨f, hf⟩ : ∃ f, d[a].1 = f := ⟨_, rfl⟩
        obtain ⟨l, hl⟩ : ∃ l, d[a].2 = l := ⟨_, rfl⟩
        have hjl2 : j < l.length := by rw [← hl]; exact hjl
        simp only [hsk, hl, hf] at *
        clear hsk hf
        have HN0 := Lib.hid hN
        clear hN
        cases f
        · have hfl := HN0.out
          simp only [Bool.false_eq_true, if_false] at hfl
          have HN1 := Lib.hid hfl
          clear hfl HN0
          go_wp2_with fail
          go_loopw [6, 7, 36] (fun at_ n i wr => ∃ x M : Nat, x ≤ j ∧ at_ = .int .i64 a ∧ n = .int .i64 M ∧ i = .int .i64 x ∧ M = N + 0 + ((l.take x).map fun a => S a.2.toNat).sum ∧ It wr w2.heap.size s (k + 1) ∧ Below w2.heap.size w2 wr) (fun _ _ i _ => 1000001 - (intOf i).toNat)
          case atStart => exact ⟨0, _, by omega, rfl, rfl, rfl, by simp, I3, hb3⟩
          case round =>
            clear g0 g1 hab
            obtain ⟨x, M, hx, rfl, rfl, rfl, hM2, I4, hb4⟩ := hrel
            have hxl : x < l.length := by omega
            have hxl' : (x : Int) < l.length := by omega
            have hMle : M ≤ N + 1 + 1000000 := by have := HBF.out x; omega
            obtain ⟨q0, q1⟩ := acells_at l x hxl
            obtain ⟨pd, e1, pb, c0, c1⟩ := (ra.below hb4 (Nat.le_refl _)).twob hxl q0 q1
            subst e1
            clear q0 q1
            have HSN := Lib.hid (sum_take_snoc l S x hxl)
            have hto := HTO.out _ (List.getElem_mem hxl)
            have hP4 := P.below hb4 (Nat.le_refl _)
            by_cases hxj : x = j
            · subst hxj
              have hyc := HYC.out
              have HST2 := Lib.hid (show (step d a sk).getD 0 = l[x].2.toNat from HST.out hxl)
              have HSL := Lib.hid (show lead d l[x].2.toNat (s.drop (k + 1)) = some m from HLD.out hxl)
              have hMM := Lib.hid hM2
              clear hM2
              generalize l[x] = y at *
              obtain ⟨yc, yt⟩ := y
              simp only at c0 c1 hto hyc HST2 HSL
              subst hyc
              have hyt : ((yt.toNat : Nat) : Int) = yt := Int.toNat_of_nonneg hto.1
              obtain ⟨yn, hyn⟩ : ∃ yn, yt.toNat = yn := ⟨_, rfl⟩
              rw [hyn] at HST2 HSL hyt
              subst hyt
              clear hyn
              have hbq : (((yc.toNat : Nat) : Int) == (yc.toNat : Int)) = true := by simp
              go_wp2
              refine ⟨⟨k + 1, yn, M, by omega, rfl, rfl, by omega, HSL.out, ?_, by omega, I4.alloc _, hb4.alloc hb4.size _⟩, ?_⟩
              · have h1 := HN1.out
                have h2 := HBJ.out
                have h3 := hMM.out
                rw [HST2.out] at h1
                omega
              · have h1 := iterPos_of I
                have h2 := iterPos_of (I4.alloc (Obj.cells #[.int .u8 yc.toNat, .int .i64 yn] 49))
                rw [h1, h2]; omega
            · have hne := HNE.out x hxl (by omega)
              have hMM := Lib.hid hM2
              clear hM2
              generalize l[x] = y at *
              obtain ⟨yc, yt⟩ := y
              simp only at c0 c1 hto hne HSN
              have hyt : ((yt.toNat : Nat) : Int) = yt := Int.toNat_of_nonneg hto.1
              obtain ⟨yn, hyn⟩ : ∃ yn, yt.toNat = yn := ⟨_, rfl⟩
              rw [hyn] at HSN hyt
              subst hyt
              clear hyn
              have hyn' : yn < d.length := by omega
              have hcc := (hP4.cell yn).trans (HA.out yn hyn')
              have hsle := hS.le yn hyn'
              have hn1 : ¬ ((yc.toNat : Int) = sk.toNat) := fun e => hne (UInt8.toNat_inj.1 (by omega))
              have hn2 : (((yc.toNat : Nat) : Int) == (sk.toNat : Int)) = false := beq_eq_false_iff_ne.2 hn1
              have hn3 : ¬ (yc.toNat = sk.toNat) := fun e => hne (UInt8.toNat_inj.1 e)
              have hn0 : (0 : Int) ≤ yn := by omega
              have hplt := hP4.lt
              go_wp2
              refine ⟨⟨x + 1, M + S yn, by omega, rfl, by go_num, by go_num, ?_, I4.alloc _, hb4.alloc hb4.size _⟩, by simp only [intOf]; omega⟩
              rw [HSN.out, hMM.out]; omega
        · have hfl := HN0.out
          simp only [eq_self, if_true, ite_true] at hfl
          have HN1 := Lib.hid hfl
          clear hfl HN0
          go_wp2_with fail
          go_loopw [6, 7, 36] (fun at_ n i wr => ∃ x M : Nat, x ≤ j ∧ at_ = .int .i64 a ∧ n = .int .i64 M ∧ i = .int .i64 x ∧ M = N + 1 + ((l.take x).map fun a => S a.2.toNat).sum ∧ It wr w2.heap.size s (k + 1) ∧ Below w2.heap.size w2 wr) (fun _ _ i _ => 1000001 - (intOf i).toNat)
          case atStart => exact ⟨0, _, by omega, rfl, rfl, rfl, by simp, I3, hb3⟩
          case round =>
            clear g0 g1 hab
            obtain ⟨x, M, hx, rfl, rfl, rfl, hM2, I4, hb4⟩ := hrel
            have hxl : x < l.length := by omega
            have hxl' : (x : Int) < l.length := by omega
            have hMle : M ≤ N + 1 + 1000000 := by have := HBF.out x; omega
            obtain ⟨q0, q1⟩ := acells_at l x hxl
            obtain ⟨pd, e1, pb, c0, c1⟩ := (ra.below hb4 (Nat.le_refl _)).twob hxl q0 q1
            subst e1
            clear q0 q1
            have HSN := Lib.hid (sum_take_snoc l S x hxl)
            have hto := HTO.out _ (List.getElem_mem hxl)
            have hP4 := P.below hb4 (Nat.le_refl _)
            by_cases hxj : x = j
            · subst hxj
              have hyc := HYC.out
              have HST2 := Lib.hid (show (step d a sk).getD 0 = l[x].2.toNat from HST.out hxl)
              have HSL := Lib.hid (show lead d l[x].2.toNat (s.drop (k + 1)) = some m from HLD.out hxl)
              have hMM := Lib.hid hM2
              clear hM2
              generalize l[x] = y at *
              obtain ⟨yc, yt⟩ := y
              simp only at c0 c1 hto hyc HST2 HSL
              subst hyc
              have hyt : ((yt.toNat : Nat) : Int) = yt := Int.toNat_of_nonneg hto.1
              obtain ⟨yn, hyn⟩ : ∃ yn, yt.toNat = yn := ⟨_, rfl⟩
              rw [hyn] at HST2 HSL hyt
              subst hyt
              clear hyn
              have hbq : (((yc.toNat : Nat) : Int) == (yc.toNat : Int)) = true := by simp
              go_wp2
              refine ⟨⟨k + 1, yn, M, by omega, rfl, rfl, by omega, HSL.out, ?_, by omega, I4.alloc _, hb4.alloc hb4.size _⟩, ?_⟩
              · have h1 := HN1.out
                have h2 := HBJ.out
                have h3 := hMM.out
                rw [HST2.out] at h1
                omega
              · have h1 := iterPos_of I
                have h2 := iterPos_of (I4.alloc (Obj.cells #[.int .u8 yc.toNat, .int .i64 yn] 49))
                rw [h1, h2]; omega
            · have hne := HNE.out x hxl (by omega)
              have hMM := Lib.hid hM2
              clear hM2
              generalize l[x] = y at *
              obtain ⟨yc, yt⟩ := y
              simp only at c0 c1 hto hne HSN
              have hyt : ((yt.toNat : Nat) : Int) = yt := Int.toNat_of_nonneg hto.1
              obtain ⟨yn, hyn⟩ : ∃ yn, yt.toNat = yn := ⟨_, rfl⟩
              rw [hyn] at HSN hyt
              subst hyt
              clear hyn
              have hyn' : yn < d.length := by omega
              have hcc := (hP4.cell yn).trans (HA.out yn hyn')
              have hsle := hS.le yn hyn'
              have hn1 : ¬ ((yc.toNat : Int) = sk.toNat) := fun e => hne (UInt8.toNat_inj.1 (by omega))
              have hn2 : (((yc.toNat : Nat) : Int) == (sk.toNat : Int)) = false := beq_eq_false_iff_ne.2 hn1
              have hn3 : ¬ (yc.toNat = sk.toNat) := fun e => hne (UInt8.toNat_inj.1 e)
              have hn0 : (0 : Int) ≤ yn := by omega
              have hplt := hP4.lt
              go_wp2
              refine ⟨⟨x + 1, M + S yn, by omega, rfl, by go_num, by go_num, ?_, I4.alloc _, hb4.alloc hb4.size _⟩, by simp only [intOf]; omega⟩
              rw [HSN.out, hMM.out]; omega
      · have hkk : k = s.length := by omega
        have hdn := I.done (by omega)
        have hfin : N = idxS d S 0 s := by rw [← hN, List.drop_of_length_le (by omega)]; simp [idxS]
        have HFIN := Lib.hid hfin
        clear hN hfin
        go_wp2
        go_ret
        exact ⟨by rw [← HFIN.out]; rfl, Below.trans L2 (hbw.mono L2.size)⟩
end Go.Proofs.YtmmihcophkipoaaDoor
