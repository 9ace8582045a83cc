import Derived.Test.YtmmihcophkipoaaDoorD18
namespace Go.Proofs.YtmmihcophkipoaaDoor
open Go.ChangeShapes Go.WideShapes Go.ChangeAt Go.RowKit
set_option linter.unusedVariables false
set_option linter.unusedSimpArgs false
attribute [local go_sem] bs_beq bs_bne bs_less bs_size bs_extract
def NdPost (Z : Nat → Prop) (base x f : Nat) (vs : List (List W)) (l : List W) (opn : Nat → Prop) (dv rv : Value) (w : World) (e : Ending) (w' : World) : Prop :=
  e = .returned (.int .i64 ((dfs f vs l).idxOf l)) ∧ ∃ dv' rv', St Z base x (dfs f vs l) opn dv' rv' w' ∧ Kp (Sn x dv rv) w w' ∧ Gr w dv dv' ∧ Gr w rv rv'
/-- the second loop of node, at byte cc -/
def Lp (Z : Nat → Prop) (base x f g : Nat) (vs : List (List W)) (l : List W) (opn : Nat → Prop) (dv rv : Value) (w : World) (cc : Nat) (wr : World) : Prop :=
  ∃ dv2 rv2 av, St (fun b => Z b ∨ some b = av.ownBlock) base x (dfsAll f (vs ++ [l]) (gl l cc)) (fun i => opn i ∨ i = vs.length) dv2 rv2 wr ∧ Gr w dv dv2 ∧ Gr w rv rv2 ∧ Kp (Sn x dv rv) w wr ∧ Blk wr g 44 #[.bool (fin l), av] ∧
    wr.ownsRow w.heap.size 49 2 av (gl l cc).length (acells ((gl l cc).map fun a => (a.1, ((dfsAll f (vs ++ [l]) (gl l cc)).idxOf a.2 : Int)))) ∧ (∀ a ∈ gl l cc, a.2 ∈ dfsAll f (vs ++ [l]) (gl l cc)) ∧ dv2.ownBlock ≠ some g
theorem Lp.ext {Z : Nat → Prop} {base x f g cc : Nat} {vs : List (List W)} {l : List W} {opn : Nat → Prop} {dv rv : Value} {w wr w2 : World} (h : Lp Z base x f g vs l opn dv rv w cc wr) (hE : Ext wr w2) : Lp Z base x f g vs l opn dv rv w cc w2 := by
  obtain ⟨dv2, rv2, av, h1, h2, h3, h4, h5, h6, h7, h8⟩ := h
  exact ⟨dv2, rv2, av, h1.ext hE, h2, h3, Kp.trans h4 (Kp.of_ext (S := fun _ => False) hE) (fun _ _ e => e) (fun _ _ e => e.elim), h5.ext hE, own_below h6 hE (Nat.le_refl _), h7, h8⟩
theorem Lp.row {Z : Nat → Prop} {base x f g cc n : Nat} {vs : List (List W)} {l : List W} {opn : Nat → Prop} {dv rv : Value} {w wr : World} {A : Option Addr} {xs : List Value} (h : Lp Z base x f g vs l opn dv rv w cc wr) (hS : St Z base x vs opn dv rv w) (hr : Rd w 9 1 A n xs) : Rd wr 9 1 A n xs := by
  obtain ⟨dv2, rv2, av, h1, h2, h3, h4, h5, h6, h7, h8⟩ := h
  exact hr.kp (by decide) h4 (hS.far (by decide) (by decide) (by decide))
theorem dfs_in {f : Nat} {vs : List (List W)} {l : List W} (hs : Sh f l) (hne : l ≠ []) : l ∈ dfs f vs l := by
  cases f with
  | zero =>
    obtain ⟨u, hu⟩ := List.exists_mem_of_ne_nil _ hne
    exact absurd (hs u hu) (by omega)
  | succ f => exact dfs_mem f vs l
theorem acells_app (a b : List (UInt8 × Int)) : acells (a ++ b) = acells a ++ acells b := by simp [acells]
theorem idx_pre {V2 V3 : List (List W)} (h : V2 <+: V3) {m : List W} (hm : m ∈ V2) : V3.idxOf m = V2.idxOf m := by
  obtain ⟨t, rfl⟩ := h
  exact idx_app hm
theorem idx_of_first {vs : List (List W)} {l : List W} {i : Nat} (h : i < vs.length) (e : vs[i] = l) (hn : ∀ j (hj : j < i), vs[j]'(by omega) ≠ l) : vs.idxOf l = i := by
  have hm : l ∈ vs := by rw [← e]; exact List.getElem_mem h
  have h1 := List.idxOf_lt_length_iff.2 hm
  have h2 : vs[vs.idxOf l]'h1 = l := List.getElem_idxOf h1
  rcases Nat.lt_trichotomy (vs.idxOf l) i with h3 | h3 | h3
  · exact absurd h2 (hn _ h3)
  · exact h3
  · exact absurd e (by
      have := List.not_of_lt_findIdx (p := fun y => y == l) (xs := vs) (i := i) h3
      simpa using this)
theorem node_info : (Tryd.prog.info? 44).map (fun i => (i.zero, i.size, i.bytes)) = some (some (.agg #[.bool false, .slice none 0 0]), 2, 32) := by kernel_rfl
theorem rest_info : (Tryd.prog.info? 25).map (fun i => (i.zero, i.size, i.bytes)) = some (some (.slice none 0 0), 1, 24) := by kernel_rfl
theorem arc_info : (Tryd.prog.info? 49).map (fun i => (i.zero, i.size, i.bytes)) = some (some (.agg #[.int .u8 0, .int .i64 0]), 2, 16) := by kernel_rfl
set_option maxHeartbeats 4000000 in
set_option maxRecDepth 100000 in
theorem node_any (base x : Nat) (hbx : base ≤ x) : ∀ (f : Nat) (Z : Nat → Prop) (l : List W) (vs : List (List W)) (opn : Nat → Prop) (dv rv : Value) (A : Option Addr) (c : Nat) (w : World),
    Sh f l → Up l → l ≠ [] → (∀ u ∈ l, ∀ b ∈ u, 33 ≤ b.toNat ∧ b.toNat < 127) → l.length ≤ 1000 → (dfs f vs l).length ≤ 100000 → Rd w 9 1 A l.length (sv l) → l.length ≤ c → c ≤ maxLen → St Z base x vs opn dv rv w → base ≤ w.heap.size → (∀ b, Z b → b < w.heap.size) →
      Calls Tryd.prog 51 #[.pointer (some ⟨x, 0, none⟩), .slice A l.length c] w (NdPost Z base x f vs l opn dv rv w) := by
  intro f
  induction f with
  | zero =>
    intro Z l vs opn dv rv A c w hs _ hne
    obtain ⟨u, hu⟩ := List.exists_mem_of_ne_nil _ hne
    exact absurd (hs u hu) (by omega)
  | succ f ih =>
    intro Z l vs opn dv rv A c w hs hu hne hby hl hN hr hc1 hc2 hS hbw hZ
    have HZ := Lib.hid hZ
    have hvl : vs.length ≤ 100000 := Nat.le_trans (dfs_pre (f + 1) vs l).length_le hN
    obtain ⟨Q, hQ⟩ : ∃ Q, NdPost Z base x (f + 1) vs l opn dv rv w = Q := ⟨_, rfl⟩
    rw [hQ]
    have HQ := Lib.hid hQ
    have HS := Lib.hid hS
    obtain ⟨dcs, hD, hNd⟩ := hS.D
    obtain ⟨rcs, hR, hRs⟩ := hS.R
    obtain ⟨Ad, cd, rfl, rd, hd1, hd2⟩ := own_form hD
    obtain ⟨Ar, cr, rfl, rr, hr1, hr2⟩ := own_form hR
    have HR := Lib.hid hRs
    clear hD hNd hR hRs hQ hS rd
    go_enter Tryd.func51, Tryd.ntmps51
    go_wp2_with fail
    go_loopw [5] (fun iv wr => ∃ i : Nat, i ≤ vs.length ∧ iv = .int .i64 i ∧ (∀ j (hj : j < vs.length), j < i → vs[j] ≠ l) ∧ Ext w wr) (fun iv _ => 1000001 - (intOf iv).toNat)
    case atStart => exact ⟨0, by omega, rfl, fun j _ h => by omega, Ext.refl _⟩
    case round =>
      obtain ⟨i, hi, rfl, hno, hX⟩ := hrel
      have HNO := Lib.hid hno
      clear hno
      obtain ⟨x0, x1, x2, x3⟩ := (HS.out.ext hX).X.f2
      by_cases hlt : i < vs.length
      · have hlt' : (i : Int) < vs.length := by omega
        obtain ⟨A', c', k1, k2, k3, k4, k6⟩ := HR.out i hlt
        obtain ⟨ar, e1, har, k5⟩ := (rr.ext hX).one hlt k1
        subst e1
        go_wp2_with fail
        refine (same_words_any A' A c' c vs[i] l _ (k2.ext hX).untyped (hr.ext hX).untyped (by omega)).mono ?_
        rintro e w2 ⟨rfl, hX2⟩
        by_cases he : vs[i] = l
        · have hd : decide (vs[i] = l) = true := decide_eq_true he
          have hix := idx_of_first hlt he (fun j hj => HNO.out j (by omega) hj)
          have hdf := dfs_known (f := f + 1) (show l ∈ vs by rw [← he]; exact List.getElem_mem hlt)
          have hS2 := HS.out.ext (hX.trans hX2)
          have hK := Kp.of_ext (S := Sn x (.slice Ad vs.length cd) (.slice (some ar) vs.length cr)) (hX.trans hX2)
          rw [← hdf] at hix
          have HP : Hid (Q (.returned (.int .i64 i)) w2) := Lib.hid (by rw [← HQ.out]; exact ⟨by rw [hix], _, _, by rw [hdf]; exact hS2, hK, Gr.refl _ _, Gr.refl _ _⟩)
          rw [hd]
          clear hS2 hK hix hdf he hd
          go_wp2
          exact HP.out
        · have hd : decide (vs[i] = l) = false := decide_eq_false he
          rw [hd]
          go_wp2
          exact ⟨⟨i + 1, by omega, by go_num, fun j hj hji => by
            by_cases e : j = i
            · subst e; exact he
            · exact HNO.out j hj (by omega), hX.trans hX2⟩, by simp only [intOf]; omega⟩
      · have hlt' : ¬ (i : Int) < vs.length := by omega
        obtain rfl : i = vs.length := by omega
        have hnm : l ∉ vs := fun hm => by
          obtain ⟨j, hj, e⟩ := List.getElem_of_mem hm
          exact HNO.out j hj hj e
        have hdn := dfs_new (f := f) hnm
        have HDN := Lib.hid hdn
        clear hdn HNO hlt hlt'
        have hXl := hX.le
        go_wp2_with (at_builtin; apply halt_here)
        apply go_on
        obtain ⟨dcs, rcs, p1⟩ := (HS.out.ext hX).pc
        have p2 := p1.ext (Ext.alloc wr (Obj.cells #[.bool false, .slice none 0 0] 44))
        obtain ⟨i0, hi0, hz0, hz1, hz2⟩ := info_parts node_info
        refine wpList_app rfl _ _ 28 rfl base 44 i0 _ 2 32 Tryd.underlying28 hi0 hz0 hz1 hz2 rfl (by decide) _ vs.length dcs rfl p2.D 44 _ 1 1 [.bool false, .slice none 0 0] rfl (Rd.newAt wr _ rfl 44 2 1 #[.bool false, .slice none 0 0] (0, 0) _ rfl rfl) (by simp [Value.oneCell']) (by simp only [maxLen]; omega) (by omega) (by simp; omega) ?_
        intro dv1 w3 D3 hg3 hq3 _
        have p3 := p2.appD (l := l) hg3 D3
        have K3 : Kp (Sn x (.slice Ad vs.length cd) (.slice Ar vs.length cr)) w w3 := Kp.trans (Kp.of_ext (S := fun _ => False) (hX.trans (Ext.alloc _ _))) (Kp.of_grown (S := fun k => some k = (Value.slice Ad vs.length cd).ownBlock) hg3 fun i e => e) (fun _ _ e => e.elim) (fun _ _ e => .inr (.inl e))
        have G3 : Gr w (.slice Ad vs.length cd) dv1 := fun g hg => by
          rcases hq3 with h | h
          · exact .inl ((show dv1.ownBlock = (Value.slice Ad vs.length cd).ownBlock from h).symm.trans hg)
          · rw [h] at hg; injection hg with hg; right; rw [← hg]; simp; omega
        clear hi0 hz0 hz1 hz2 D3 hg3 hq3 p1 p2 x0 x1 x2 x3
        obtain ⟨A1, c1, e1, _, _⟩ := own_form p3.D
        obtain ⟨n1, hn1⟩ : ∃ n1, (vs ++ [l]).length = n1 := ⟨_, rfl⟩
        rw [hn1] at e1
        subst e1
        obtain ⟨x0, x1, x2, x3⟩ := p3.X.f2
        have hw3 := K3.size
        have HP3 := Lib.hid p3
        have HK3 := Lib.hid K3
        have HG3 := Lib.hid G3
        clear p3 K3 G3
        go_wp2_with (at_builtin; apply halt_here)
        apply go_on
        have p4 := (HP3.out.set_ 0 (.slice A1 n1 c1) (u' := .slice A1 n1 c1) (v' := .slice Ar vs.length cr) rfl)
        have K4 := Kp.trans HK3.out (Kp.of_set (S := fun k => k = x) w3 ⟨x, 0, none⟩ (.slice A1 n1 c1) rfl) (fun _ _ e => e) (fun _ _ e => .inl e)
        have hz4 : (w3.setCell ⟨x, 0, none⟩ (.slice A1 n1 c1)).heap.size = w3.heap.size := by simp
        clear HP3 HK3 x0 x1 x2 x3
        generalize w3.setCell ⟨x, 0, none⟩ (.slice A1 n1 c1) = w4 at *
        have p5 := p4.ext (Ext.alloc w4 (Obj.cells #[.slice A l.length c] 25))
        have K5 := Kp.trans K4 (Kp.of_ext (S := fun _ => False) (Ext.alloc w4 (Obj.cells #[.slice A l.length c] 25))) (fun _ _ e => e) (fun _ _ e => e.elim)
        obtain ⟨i0, hi0, hz0, hz1, hz2⟩ := info_parts rest_info
        refine wpList_app rfl _ _ 40 rfl base 25 i0 _ 1 24 Tryd.underlying40 hi0 hz0 hz1 hz2 rfl (by decide) _ vs.length rcs rfl p5.R 25 _ 1 1 [.slice A l.length c] rfl (Rd.newAt w4 _ hz4 25 1 1 #[.slice A l.length c] (0, 0) _ rfl rfl) (by simp [Value.oneCell']) (by simp only [maxLen]; omega) (by omega) (by simp; omega) ?_
        intro rv1 w6 R6 hg6 hq6 _
        have hr5 : Rd (w4.alloc (Obj.cells #[.slice A l.length c] 25)) 9 1 A l.length (sv l) := hr.kp (by decide) K5 (HS.out.far (by decide) (by decide) (by decide))
        have p6 := p5.appR (l := l) hg6 R6 hr5 hc1 hc2 hl
        have K6 : Kp (Sn x (.slice Ad vs.length cd) (.slice Ar vs.length cr)) w w6 := Kp.trans K5 (Kp.of_grown (S := fun k => some k = (Value.slice Ar vs.length cr).ownBlock) hg6 fun i e => e) (fun _ _ e => e) (fun _ _ e => .inr (.inr e))
        have G6 : Gr w (.slice Ar vs.length cr) rv1 := fun g hg => by
          rcases hq6 with h | h
          · exact .inl ((show rv1.ownBlock = (Value.slice Ar vs.length cr).ownBlock from h).symm.trans hg)
          · rw [h] at hg; injection hg with hg; right; rw [← hg]; simp; omega
        clear hi0 hz0 hz1 hz2 R6 hg6 hq6 p4 p5 K4 K5 hr5
        obtain ⟨A2, c2, e1, _, _⟩ := own_form p6.R
        rw [hn1] at e1
        subst e1
        obtain ⟨x0, x1, x2, x3⟩ := p6.X.f2
        have hw6 := K6.size
        have hp7 := p6.set_ 1 (.slice A2 n1 c2) (u' := .slice A1 n1 c1) (v' := .slice A2 n1 c2) rfl
        have hK7 := Kp.trans K6 (Kp.of_set (S := fun k => k = x) w6 ⟨x, 1, none⟩ (.slice A2 n1 c2) rfl) (fun _ _ e => e) (fun _ _ e => .inl e)
        have hr7 : Rd (w6.setCell ⟨x, 1, none⟩ (.slice A2 n1 c2)) 9 1 A l.length (sv l) := hr.kp (by decide) hK7 (HS.out.far (by decide) (by decide) (by decide))
        obtain ⟨l0, lt, rfl⟩ := List.exists_cons_of_ne_nil hne
        obtain ⟨al, e1, hal, hl0⟩ := hr7.one (i := 0) (by simp) (u0 := .string (bs l0)) (by simp [sv])
        subst e1
        have hl0' : (w6.setCell ⟨x, 1, none⟩ (.slice A2 n1 c2)).cell? al = some (.string (bs l0)) := by simpa [Addr.add] using hl0
        have hlt1 : (0 : Int) < (lt.length : Int) + 1 := by omega
        have HP7 := Lib.hid hp7
        have HK7 := Lib.hid hK7
        have HG6 := Lib.hid G6
        clear p6 K6 G6 hp7 hK7 hal hl0 hr7
        obtain ⟨fn, hfn⟩ : ∃ fn, decide (l0 = []) = fn := ⟨_, rfl⟩
        have HF : Hid (fin (l0 :: lt) = fn) := Lib.hid (by rw [← hfn]; cases l0 <;> simp [fin])
        have hlf : (bs l0).toList.isEmpty = fn := by rw [bs_toList, ← hfn]; cases l0 <;> rfl
        go_wp2_with fail
        rw [← HF.out]
        have L0 : Lp Z base x f w6.heap.size vs (l0 :: lt) opn (.slice Ad vs.length cd) (.slice Ar vs.length cr) w 33 ((w6.setCell ⟨x, 1, none⟩ (.slice A2 n1 c2)).alloc (Obj.cells #[.bool (fin (l0 :: lt)), .slice none 0 0] 44)) := by
          have hE := Ext.alloc (w6.setCell ⟨x, 1, none⟩ (.slice A2 n1 c2)) (Obj.cells #[.bool (fin (l0 :: lt)), .slice none 0 0] 44)
          have e0 : dfsAll f (vs ++ [l0 :: lt]) (gl (l0 :: lt) 33) = vs ++ [l0 :: lt] := by rw [gl_none hu hby]; rfl
          unfold Lp
          rw [e0, gl_none hu hby]
          refine ⟨_, _, .slice none 0 0, (HP7.out.ext hE).st.mono (fun b _ h => h.resolve_right (fun e => by cases e)), HG3.out, HG6.out, Kp.trans HK7.out (Kp.of_ext (S := fun _ => False) hE) (fun _ _ e => e) (fun _ _ e => e.elim), Blk.newAt _ _ (by simp) _ _, World.ownsRow_nil _ _ _ _, (fun a ha => by cases ha), fun e => ?_⟩
          obtain ⟨_, _, h⟩ := own_typ HP7.out.D e
          simp at h
        have hgl : w.heap.size ≤ w6.heap.size := hw6
        clear HP7 HK7 HG6 HG3 hl0' x0 x1 x2 x3
        generalize (w6.setCell ⟨x, 1, none⟩ (.slice A2 n1 c2)).alloc (Obj.cells #[.bool (fin (l0 :: lt)), .slice none 0 0] 44) = w8 at *
        generalize w6.heap.size = g at *
        go_loopw [8, 9] (fun cv _ wr => ∃ cc : Nat, 33 ≤ cc ∧ cc ≤ 127 ∧ cv = .int .i64 cc ∧ Lp Z base x f g vs (l0 :: lt) opn (.slice Ad vs.length cd) (.slice Ar vs.length cr) w cc wr) (fun cv _ _ => 1000001 - (intOf cv).toNat)
        case atStart => exact ⟨33, by omega, by omega, rfl, L0⟩
        case round =>
          clear L0
          obtain ⟨cc, hc33, hc127, rfl, hL⟩ := hrel
          have HL := Lib.hid hL
          clear hL
          by_cases hlt2 : cc < 127
          · have hlt2' : (cc : Int) < 127 := by omega
            obtain ⟨cb, hcb⟩ : ∃ cb : UInt8, cb.toNat = cc := ⟨UInt8.ofNat cc, by simp; omega⟩
            subst hcb
            have hrr := HL.out.row HS.out hr
            go_wp2_with fail
            refine (after_any (some al) c (l0 :: lt) cb _ hrr.untyped (by omega)).mono ?_
            rintro e w2 ⟨v, rfl, Oa, hX2⟩
            obtain ⟨Av, cv, e1, rv0, hv1, hv2⟩ := own_form Oa
            subst e1
            by_cases haf : aft cb (l0 :: lt) = []
            · have hgl2 := gl_skip hu haf
              have L2 := HL.out.ext hX2
              have L3 : Hid (Lp Z base x f g vs (l0 :: lt) opn (.slice Ad vs.length cd) (.slice Ar vs.length cr) w (cb.toNat + 1) w2) := Lib.hid (by unfold Lp at L2 ⊢; rw [hgl2]; exact L2)
              clear L2 hgl2
              rw [haf]
              go_wp2
              exact ⟨⟨cb.toNat + 1, by omega, by omega, by go_num, L3.out⟩, by simp only [intOf]; omega⟩
            · obtain ⟨na, hna⟩ : ∃ na, (aft cb (l0 :: lt)).length = na + 1 := ⟨(aft cb (l0 :: lt)).length - 1, by have := List.length_pos_iff.2 haf; omega⟩
              have hna' : (0 : Int) < ((na + 1 : Nat) : Int) := by omega
              rw [hna]
              go_wp2_with fail
              obtain ⟨dv2, rv2, av, hS2, hGd, hGr, hK, hG, hA, hin, hdg⟩ := HL.out.ext hX2
              have hgl2 := gl_next hu haf
              have hN2 : (dfsAll f (vs ++ [l0 :: lt]) (gl (l0 :: lt) (cb.toNat + 1))).length ≤ 100000 := by
                have := (gl_pre hu f (vs ++ [l0 :: lt]) (cb.toNat + 1)).length_le
                rw [← HDN.out] at this
                omega
              rw [hgl2, dfsAll_snoc] at hN2
              have hb2 : base ≤ w2.drew.heap.size := by have h1 := hK.size; show base ≤ w2.heap.size; omega
              obtain ⟨y0, y1, y2, y3⟩ := hG.f2
              obtain ⟨Aa, ca, e1, ra, ha1, ha2⟩ := own_form hA
              obtain ⟨ng, hng⟩ : ∃ ng, (gl (l0 :: lt) cb.toNat).length = ng := ⟨_, rfl⟩
              rw [hng] at e1
              subst e1
              have HC : Hid (∀ W : World, W.heap[g]? = w2.drew.heap[g]? → W.cell? ⟨g, 1, none⟩ = some (.slice Aa ng ca)) := Lib.hid (fun W hW => (World.cell?_of_block (a := ⟨g, 1, none⟩) hW).trans y1)
              have hsn : ¬ Sn x dv2 rv2 g := by
                rintro (e | e | e)
                · have h1 := hG; have h2 := hS2.X; unfold Blk at h1 h2; rw [e, h2] at h1; injection h1 with h1; injection h1 with _ h3; exact absurd h3 (by decide)
                · exact hdg e.symm
                · obtain ⟨rcs', R', _⟩ := hS2.R; exact own_ne R' hG (by decide) e.symm
              have hD2 := hS2.ext Ext.drew
              have hZ2 : ∀ b, Z b ∨ some b = (Value.slice Aa ng ca).ownBlock → b < w2.drew.heap.size := fun b h => by
                rcases h with h | h
                · have h1 := HZ.out b h; have h2 := hK.size; show b < w2.heap.size; omega
                · exact (own_typ hA h.symm).2.2
              have HIH := Lib.hid (ih _ (aft cb (l0 :: lt)) _ _ dv2 rv2 Av cv w2.drew (fun u hu' => by have := hs _ (mem_aft.1 hu'); simp at this; omega) (up_aft hu) haf (fun u hu' b hb => hby _ (mem_aft.1 hu') b (List.mem_cons_of_mem _ hb)) (Nat.le_trans (aft_len _ _) hl) hN2 rv0 hv1 hv2 hD2 hb2 hZ2)
              refine wp_region_chain2 (by kernel_rfl) 11 (fun a b => b.heap[g]? = a.heap[g]?) [6, 8, 9] (by kernel_rfl) (by kernel_rfl) (fun _ _ d _ _ h => by cases d <;> exact h) (fun _ => rfl) (fun _ _ _ h k => k.trans h) ?_
              simp only [List.take_succ_cons, List.take_zero, List.take_nil, List.drop_succ_cons, List.drop_zero, List.drop_nil]
              iterate 6
                refine ch_pure (a' := ?_) rfl rfl ?_ (fun w9 hE hH => pureAt_plain rfl ?_) ?_ ?_
                rotate_left 2
                · clear hH; have z1 := HC.out w9 hE; (go_simp; try go_bits); rfl
                · go_simp; rfl
              refine ch_op rfl rfl (opAt_plain rfl ?_)
              go_simp
              rw [← hna]
              refine HIH.out.mono ?_
              rintro e w3' ⟨rfl, dv3, rv3, hS3, hK3, hGd3, hGr3⟩
              have hEg : w3'.heap[g]? = w2.drew.heap[g]? := hK3.block g y3 hsn
              refine ⟨_, rfl, hEg, ?_⟩
              rw [hna]
              have A3 : w3'.ownsRow w.heap.size 49 2 (.slice Aa ng ca) (gl (l0 :: lt) cb.toNat).length (acells ((gl (l0 :: lt) cb.toNat).map fun a => (a.1, ((dfsAll f (vs ++ [l0 :: lt]) (gl (l0 :: lt) cb.toNat)).idxOf a.2 : Int)))) :=
                own_kp (w := w2.drew) hA hK3 fun g' hg' => by
                  obtain ⟨⟨cs', hc'⟩, _⟩ := own_typ hA hg'
                  exact hS2.far (by decide) (by decide) (by decide) g' cs' _ hc'
              have G3' : Blk w3' g 44 #[.bool (fin (l0 :: lt)), .slice Aa ng ca] := hEg.trans hG
              generalize hix : (dfs f (dfsAll f (vs ++ [l0 :: lt]) (gl (l0 :: lt) cb.toNat)) (aft cb (l0 :: lt))).idxOf (aft cb (l0 :: lt)) = ix
              go_simp
              refine ch_pure (a' := ?_) rfl rfl ?_ (fun w9 hE hH => pureAt_plain rfl ?_) ?_ ?_
              rotate_left 2
              · clear hH; (go_simp; try go_bits); rfl
              · go_simp; rfl
              refine ch_op rfl rfl (opAt_plain rfl ?_)
              go_simp
              refine ⟨(Below.heap_alloc w3' _ g G3'.lt).trans hEg, ?_⟩
              have G4' := G3'.alloc (Obj.cells #[Value.int IntKind.u8 ↑cb.toNat, Value.int IntKind.i64 ↑ix] 49)
              have A4 := own_alloc A3 (Obj.cells #[Value.int IntKind.u8 ↑cb.toNat, Value.int IntKind.i64 ↑ix] 49)
              have hb3 : w.heap.size ≤ w3'.heap.size := by have h1 := hK.size; have h2 := hK3.size; have h3 : w2.drew.heap.size = w2.heap.size := rfl; omega
              have hglc : (gl (l0 :: lt) cb.toNat).length ≤ 1000 := Nat.le_trans (List.length_filter_le _ _) (Nat.le_trans (grp_len _) hl)
              rw [hng] at A4 hglc
              obtain ⟨i0, hi0, hz0, hz1, hz2⟩ := info_parts arc_info
              refine ch_op rfl rfl (opAt_plain rfl ?_)
              obtain ⟨v', w5, hrun, hA5, hg5, hq5⟩ := run_app (P := Tryd.prog) (w3'.alloc (Obj.cells #[Value.int IntKind.u8 ↑cb.toNat, Value.int IntKind.i64 ↑ix] 49)) w.heap.size 42 42 49 i0 _ 2 16 Tryd.underlying42 hi0 hz0 hz1 hz2 rfl (by decide) _ ng _ A4 49 (some ⟨w3'.heap.size, 0, none⟩) 1 1 [.int .u8 cb.toNat, .int .i64 ix] (Rd.newAt w3' _ rfl 49 2 1 #[.int .u8 cb.toNat, .int .i64 ix] (0, 0) _ rfl rfl) (by simp [Value.oneCell']) (by simp only [maxLen]; omega) (by omega) (by simp; omega)
              have G5 := G4'.grown hg5 (own_ne A4 G4' (by decide))
              refine opVal_append rfl _ _ 42 rfl _ _ rfl rfl hrun ⟨(G5.trans G4'.symm), ?_⟩
              obtain ⟨A6, c6, hv6, _, _, _⟩ := own_form hA5
              subst hv6
              go_simp
              refine ch_pure (a' := ?_) rfl rfl ?_ (fun w9 hE hH => pureAt_plain rfl ?_) ?_ ?_
              rotate_left 2
              · clear hH; (go_simp; try go_bits); rfl
              · go_simp; rfl
              refine ch_end ?_
              obtain ⟨u0, u1, u2, u3⟩ := G5.f2
              have HLP : Hid (Lp Z base x f g vs (l0 :: lt) opn (.slice Ad vs.length cd) (.slice Ar vs.length cr) w (cb.toNat + 1) (w5.setCell ⟨g, 1, none⟩ (.slice A6 (ng + 1) c6))) := Lib.hid (by
                unfold Lp
                rw [hgl2, dfsAll_snoc]
                clear HC HIH hgl2 hN2
                generalize dfsAll f (vs ++ [l0 :: lt]) (gl (l0 :: lt) cb.toNat) = V2 at *
                have hpre := dfs_pre f V2 (aft cb (l0 :: lt))
                have hmem : aft cb (l0 :: lt) ∈ dfs f V2 (aft cb (l0 :: lt)) := dfs_in (fun u hu' => by have := hs _ (mem_aft.1 hu'); simp at this; omega) haf
                have hsz : w2.heap.size ≤ w3'.heap.size := hK3.size
                have hws : w.heap.size ≤ w2.heap.size := hK.size
                have hgs : g < w2.heap.size := hG.lt
                have hdg3 : dv3.ownBlock ≠ some g := fun e => by
                  rcases hGd3 g e with h | h
                  · exact hdg h
                  · have h1 : w2.heap.size ≤ g := h; omega
                have S4 := ((hS3.ext (Ext.alloc w3' (Obj.cells #[Value.int IntKind.u8 ↑cb.toNat, Value.int IntKind.i64 ↑ix] 49))).mono (Z' := fun b => (Z b ∨ some b = (Value.slice Aa ng ca).ownBlock) ∨ some b = (Value.slice A6 (ng + 1) c6).ownBlock) (fun b hb h => by
                  rcases h with h | h
                  · exact h
                  · rcases hq5 with h1 | h1
                    · exact .inr (h.trans h1)
                    · rw [h1] at h; injection h with h; omega))
                have K46 : Kp (fun k => some k = (Value.slice Aa ng ca).ownBlock ∨ k = g) (w3'.alloc (Obj.cells #[Value.int IntKind.u8 ↑cb.toNat, Value.int IntKind.i64 ↑ix] 49)) (w5.setCell ⟨g, 1, none⟩ (.slice A6 (ng + 1) c6)) :=
                  Kp.trans (Kp.of_grown (S := fun k => some k = (Value.slice Aa ng ca).ownBlock) hg5 fun i e => e) (Kp.of_set (S := fun k => k = g) w5 ⟨g, 1, none⟩ _ rfl) (fun _ _ e => .inl e) (fun _ _ e => .inr e)
                have own49 : ∀ {t : TypeId} (b : Nat) cs fr, (w3'.alloc (Obj.cells #[Value.int IntKind.u8 ↑cb.toNat, Value.int IntKind.i64 ↑ix] 49)).heap[b]? = some (.cells cs t fr) → t ≠ 49 → t ≠ 44 → ¬ (some b = (Value.slice Aa ng ca).ownBlock ∨ b = g) := fun b cs fr hb h1 h2 e => by
                  rcases e with e | e
                  · exact own_ne A4 hb h1 e.symm
                  · subst e
                    have h3 := G4'
                    unfold Blk at h3
                    rw [hb] at h3; injection h3 with h3; injection h3 with _ h4; exact h2 h4
                refine ⟨dv3, rv3, .slice A6 (ng + 1) c6, (S4.kp K46 (own49 x _ _ S4.X (by decide) (by decide)) (fun g' hg' e => ?_) (fun g' hg' => ?_) (fun b cs fr hb => own49 b cs fr hb (by decide) (by decide)) (fun b cs fr hb e => ?_)).mono (fun b _ h => ?_), ?_, ?_, ?_, G5.set_ 1 _, ?_, ?_, hdg3⟩
                · obtain ⟨dq, hq, _⟩ := S4.D
                  obtain ⟨⟨cs', hc'⟩, _⟩ := own_typ hq hg'
                  rcases e with e | e
                  · exact own_ne A4 hc' (by decide) e.symm
                  · subst e; exact hdg3 hg'
                · obtain ⟨dq, hq, _⟩ := S4.R
                  obtain ⟨⟨cs', hc'⟩, _⟩ := own_typ hq hg'
                  exact own49 g' cs' _ hc' (by decide) (by decide)
                · rcases e with e | e
                  · exact .inl (.inr e)
                  · subst e
                    have h3 := G4'
                    unfold Blk at h3
                    rw [hb] at h3; injection h3 with h3; injection h3 with _ h4; exact absurd h4 (by decide)
                · rcases h with h | h
                  · exact .inl (.inl h)
                  · exact .inr h
                · exact hGd.trans hGd3 hws
                · exact hGr.trans hGr3 hws
                · refine Kp.trans hK (Kp.trans (S := fun i => Sn x dv2 rv2 i ∨ some i = (Value.slice Aa ng ca).ownBlock ∨ i = g) (Kp.of_ext (S := fun _ => False) (Ext.drew (w := w2))) (Kp.trans (S := fun i => Sn x dv2 rv2 i ∨ some i = (Value.slice Aa ng ca).ownBlock ∨ i = g) hK3 (Kp.trans (S := fun k => some k = (Value.slice Aa ng ca).ownBlock ∨ k = g) (Kp.of_ext (S := fun _ => False) (Ext.alloc w3' _)) K46 (fun _ _ e => e.elim) (fun _ _ e => e)) (fun _ _ e => .inl e) (fun _ _ e => .inr e)) (fun _ _ e => e.elim) (fun _ _ e => e)) (fun _ _ e => e) (fun i hi e => ?_)
                  rcases e with (rfl | e | e) | e | e
                  · exact .inl rfl
                  · rcases hGd i e.symm with h | h
                    · exact .inr (.inl h.symm)
                    · omega
                  · rcases hGr i e.symm with h | h
                    · exact .inr (.inr h.symm)
                    · omega
                  · have h := (own_typ hA e.symm).2.1; omega
                  · omega
                · have h := own_set hA5 (p := ⟨g, 1, none⟩) (u := .slice A6 (ng + 1) c6) G5 (by decide)
                  have e1 : ((gl (l0 :: lt) cb.toNat ++ [(cb, aft cb (l0 :: lt))]).map fun a => (a.1, ((dfs f V2 (aft cb (l0 :: lt))).idxOf a.2 : Int))) = ((gl (l0 :: lt) cb.toNat).map fun a => (a.1, (V2.idxOf a.2 : Int))) ++ [(cb, (ix : Int))] := by
                    rw [List.map_append]
                    congr 1
                    · exact List.map_congr_left fun a ha => by rw [idx_pre hpre (hin a ha)]
                    · simp [hix]
                  rw [e1, acells_app, List.length_append, hng]
                  exact h
                · intro a ha
                  rcases List.mem_append.1 ha with h | h
                  · exact hpre.subset (hin a h)
                  · rw [List.mem_singleton.1 h]; exact hmem)
              clear HC HIH
              go_wp2
              exact ⟨⟨cb.toNat + 1, by omega, by omega, by go_num, HLP.out⟩, by simp only [intOf]; omega⟩
          · have hlt2' : ¬ (cc : Int) < 127 := by omega
            obtain rfl : cc = 127 := by omega
            obtain ⟨dv2, rv2, av, hS2, hGd, hGr, hK, hG, hA, hin, hdg⟩ := HL.out
            rw [gl_all hu hby] at hS2 hA hin
            rw [← HDN.out] at hS2 hA hin
            obtain ⟨V, hV⟩ : ∃ V, dfs (f + 1) vs (l0 :: lt) = V := ⟨_, rfl⟩
            have hlm : (vs ++ [l0 :: lt]) <+: V := by rw [← hV, HDN.out]; exact dfsAll_pre _ _ _
            rw [hV] at hS2 hA hin hN
            have hnV : vs.length < V.length := by have := hlm.length_le; simp at this; omega
            have hVl : V.take (vs.length + 1) = vs ++ [l0 :: lt] := by
              have := List.prefix_iff_eq_take.1 hlm
              rw [this]; simp
            obtain ⟨dcs2, D2, N2⟩ := hS2.D
            obtain ⟨gd, cap, cur, hdv, _, hcur, h1, h2, h3, h4⟩ := D2.2.resolve_left (fun h => by omega)
            subst hdv
            have hBd : Blk wr gd 44 cur := hcur
            obtain ⟨x0, x1, x2, x3⟩ := hS2.X.f2
            obtain ⟨y0, y1, y2, y3⟩ := hG.f2
            obtain ⟨Aa, ca, e1, ra, ha1, ha2⟩ := own_form hA
            subst e1
            have hnV' : (vs.length : Int) < V.length := by omega
            have hZa : ∀ ad, Aa = some ad → ad.block < wr.heap.size ∧ ¬ Z ad.block := fun ad e => by
              subst e
              obtain ⟨_, k1, k2⟩ := own_typ hA rfl
              exact ⟨k2, fun hz => by have := HZ.out _ hz; omega⟩
            replace hS2 := hS2.mono (Z' := Z) (fun b _ h => .inl h)
            have HND : Hid (∀ w9, Ext wr w9 → Nd Z w9 V (l0 :: lt) (.bool (fin (l0 :: lt))) (.slice Aa (grp (l0 :: lt)).length ca)) := Lib.hid (fun w9 hE => ⟨_, _, rfl, rfl, ra.ext hE, ha1, ha2, hin, fun ad e => ⟨Nat.lt_of_lt_of_le (hZa ad e).1 hE.le, (hZa ad e).2⟩⟩)
            have HGD := Lib.hid (hGd gd rfl)
            have HGd := Lib.hid hGd
            have HGr := Lib.hid hGr
            clear ra ha1 ha2 hGd hGr hZa
            have HA := Lib.hid hA
            have HN2 := Lib.hid N2
            have HIN := Lib.hid hin
            have HS2 := Lib.hid hS2
            have HK := Lib.hid hK
            clear hA N2 hin hS2 hK
            generalize (grp (l0 :: lt)).length = ng at *
            go_wp2_with fail
            have hc0 : ∀ W : World, Ext wr.drew W → W.cell? ⟨x, 0, none⟩ = some (.slice (some ⟨gd, 0, none⟩) V.length cap) ∧ W.cell? ⟨g, 0, none⟩ = some (.bool (fin (l0 :: lt))) ∧ W.cell? ⟨g, 1, none⟩ = some (.slice Aa ng ca) ∧ True := fun W hE => by
              exact ⟨(World.cell?_of_block (hE.block _ x3)).trans x0, (World.cell?_of_block (hE.block _ y3)).trans y0, (World.cell?_of_block (hE.block _ y3)).trans y1, trivial⟩
            have HC := Lib.hid hc0; clear hc0
            refine wp_region_list2 (by kernel_rfl) 7 Ext [] (by kernel_rfl) (fun _ _ d _ _ h => by cases d <;> exact h) rfl Ext.refl (fun _ _ _ => Ext.trans) trivial ?_
            simp only [List.take_succ_cons, List.take_zero, List.take_nil, List.drop_succ_cons, List.drop_zero, List.drop_nil]
            iterate 7
              refine ph_pure (a' := ?_) rfl rfl ?_ (fun w9 hE hG => pureAt_plain rfl ?_) ?_ ?_
              rotate_left 2
              · clear hG; obtain ⟨z0, z1, z2, _⟩ := HC.out w9 hE; (go_simp; try go_bits); rfl
              · go_simp; rfl
            refine ph_end (fun w9 hE hG => ?_)
            have hXr : Ext wr w9 := Ext.drew.trans hE
            clear hE hG HC
            have B9 := hBd.ext hXr
            have k0 : w9.cell? ⟨gd, vs.length * 2, none⟩ = some (cur[vs.length * 2]'(by omega)) := (B9.cell _).trans (Array.getElem?_eq_getElem (by omega))
            have k1 : w9.cell? ⟨gd, vs.length * 2 + 1, none⟩ = some (cur[vs.length * 2 + 1]'(by omega)) := (B9.cell _).trans (Array.getElem?_eq_getElem (by omega))
            have k2 : ∀ o, w9.frozen? ⟨gd, o, none⟩ = false := B9.frozen
            have k3 := B9.lt
            go_wp2_with fail
            have e1 : V[vs.length] = l0 :: lt := by
              obtain ⟨t, ht⟩ := hlm
              have h9 : V[vs.length]? = some (l0 :: lt) := by rw [← ht]; simp
              exact (List.getElem?_eq_some_iff.1 h9).2
            have hidx : (dfs (f + 1) vs (l0 :: lt)).idxOf (l0 :: lt) = vs.length := by
              rw [hV]
              obtain ⟨t, ht⟩ := hlm
              rw [← ht, List.idxOf_append, if_pos (by simp), List.idxOf_append, if_neg hnm]
              simp
            obtain ⟨S9, K9⟩ := (HS2.out.ext hXr).close hnV (f := .bool (fin (l0 :: lt))) (v := .slice Aa ng ca) (by rw [e1]; exact HND.out _ hXr)
            rw [← HQ.out]
            refine ⟨by rw [hidx]; rfl, _, _, by rw [hV]; exact S9, Kp.trans HK.out (Kp.trans (S := fun k => k = gd) (Kp.of_ext (S := fun _ => False) hXr) K9 (fun _ _ e => e.elim) (fun _ _ e => e)) (fun _ _ e => e) (fun i hi e => ?_), HGd.out, HGr.out⟩
            subst e
            rcases HGD.out with h | h
            · exact .inr (.inl h.symm)
            · omega
end Go.Proofs.YtmmihcophkipoaaDoor
