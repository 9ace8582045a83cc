/-
  The numbering of the shapes (number), walked whole.
-/
import Derived.Test.YtmmihcophkipoaaDoorD29
namespace Go.Proofs.YtmmihcophkipoaaDoor
open Go.ChangeShapes Go.WideShapes Go.ChangeAt Go.RowKit
set_option linter.unusedVariables false
set_option linter.unusedSimpArgs false
attribute [local go_sem] bs_beq bs_bne bs_less bs_size bs_extract
def NuPost (Z : Nat → Prop) (ab base f : Nat) (vs : List (List W)) (ps : List Nat) (us : List (List W)) (l : List W) (opn : Nat → Prop) (dv : Value) (dcs : List Value) (w : World) (e : Ending) (w' : World) : Prop :=
  ∃ dv' dcs', e = .returned dv' ∧ Nu Z ab base vs ps (dfs f us l) opn dv' dcs' w' ∧ Kp (fun k => k = ab ∨ some k = dv.ownBlock) w w' ∧ Gr w dv dv' ∧ ∀ j, opn j → j < us.length → dcs'[j * 2]? = dcs[j * 2]?
/-- the loop over the arcs of the set l -/
def Nl (Z : Nat → Prop) (ab base f : Nat) (vs : List (List W)) (ps : List Nat) (us : List (List W)) (l : List W) (opn : Nat → Prop) (dv : Value) (dcs : List Value) (w : World) (k : Nat) (dv2 av : Value) (wr : World) : Prop :=
  ∃ dcs2, Nu (fun b => Z b ∨ some b = av.ownBlock) ab base vs ps (dfsAll f (us ++ [l]) ((grp l).take k)) (fun i => opn i ∨ i = us.length) dv2 dcs2 wr ∧
    wr.ownsRow w.heap.size 49 2 av k (acells (((grp l).take k).map fun a => (a.1, ((dfsAll f (us ++ [l]) ((grp l).take k)).idxOf a.2 : Int)))) ∧ Gr w dv dv2 ∧ Kp (fun k => k = ab ∨ some k = dv.ownBlock) w wr ∧
    (∀ a ∈ (grp l).take k, a.2 ∈ dfsAll f (us ++ [l]) ((grp l).take k)) ∧ dcs2[us.length * 2]? = some (.bool (fin l)) ∧ ∀ j, opn j → j < us.length → dcs2[j * 2]? = dcs[j * 2]?
/-- behind the question for the k-th arc: its set has been met -/
def Nm (Z : Nat → Prop) (ab base f : Nat) (vs : List (List W)) (ps : List Nat) (us : List (List W)) (l : List W) (opn : Nat → Prop) (dv : Value) (dcs : List Value) (w : World) (k : Nat) (m : List W) (av d : Value) (wx : World) : Prop :=
  ∃ dcs3 A3 c3, d = .slice A3 (dfs f (dfsAll f (us ++ [l]) ((grp l).take k)) m).length c3 ∧ Nu (fun b => Z b ∨ some b = av.ownBlock) ab base vs ps (dfs f (dfsAll f (us ++ [l]) ((grp l).take k)) m) (fun i => opn i ∨ i = us.length) d dcs3 wx ∧
    wx.ownsRow w.heap.size 49 2 av k (acells (((grp l).take k).map fun a => (a.1, ((dfsAll f (us ++ [l]) ((grp l).take k)).idxOf a.2 : Int)))) ∧ Gr w dv d ∧ Kp (fun k => k = ab ∨ some k = dv.ownBlock) w wx ∧
    dcs3[us.length * 2]? = some (.bool (fin l)) ∧ ∀ j, opn j → j < us.length → dcs3[j * 2]? = dcs[j * 2]?
/-- an arc more, in a row of the call's own -/
theorem Nu.arcs {Z : Nat → Prop} {ab base base' k : Nat} {vs us : List (List W)} {ps : List Nat} {opn : Nat → Prop} {dv av v' : Value} {dcs xs : List Value} {w w' : World} (h : Nu (fun b => Z b ∨ some b = av.ownBlock) ab base vs ps us opn dv dcs w)
    (hA : w.ownsRow base' 49 2 av k xs) (hg : w.grownBy w' av.ownBlock) (hq : v'.ownBlock = av.ownBlock ∨ v'.ownBlock = some w.heap.size) : Nu (fun b => Z b ∨ some b = v'.ownBlock) ab base vs ps us opn dv dcs w' := by
  have h1 : Nu (fun b => (Z b ∨ some b = av.ownBlock) ∨ some b = v'.ownBlock) ab base vs ps us opn dv dcs w := h.mono fun b hb e => by
    rcases e with e | e
    · exact e
    · rcases hq with h2 | h2
      · exact .inr (e.trans h2)
      · rw [h2] at e; injection e with e; omega
  have k1 : Kp (fun b => some b = av.ownBlock) w w' := Kp.of_grown hg fun i e => e
  refine (h1.kp k1 ?_ ?_ ?_).mono fun b _ e => ?_
  · intro g hg' e
    obtain ⟨cs, hc⟩ := own_cells h.D hg'.symm
    obtain ⟨ds, hd⟩ := own_cells hA e
    exact typ_ne hc hd (by decide) rfl
  · intro e
    obtain ⟨ds, hd⟩ := own_cells hA e
    exact h.M.not_cells hd
  · intro b cs t fr hb e
    obtain ⟨ds, hd⟩ := own_cells hA e
    rw [hb] at hd
    injection hd with hd
    injection hd with _ h2
    subst h2
    exact ⟨by decide, by decide, by decide, fun _ => .inl (.inr e)⟩
  · rcases e with e | e
    · exact .inl (.inl e)
    · exact .inr e
theorem dfsAll_nodup (f : Nat) : ∀ (g : List (UInt8 × List W)) (vs : List (List W)), vs.Nodup → (dfsAll f vs g).Nodup
  | [], vs, h => h
  | a :: g, vs, h => by rw [dfsAll_cons]; exact dfsAll_nodup f g _ (dfs_nodup f vs a.2 h)
theorem len_of_sub {α : Type} [DecidableEq α] : ∀ {us vs : List α}, us.Nodup → (∀ m ∈ us, m ∈ vs) → us.length ≤ vs.length
  | [], vs, _, _ => Nat.zero_le _
  | a :: us, vs, h, hs => by
    obtain ⟨h1, h2⟩ := List.nodup_cons.1 h
    have ha := hs a (List.mem_cons_self ..)
    have h3 := len_of_sub (vs := vs.erase a) h2 fun m hm => (List.mem_erase_of_ne (fun (e : m = a) => h1 (by rw [← e]; exact hm))).2 (hs m (List.mem_cons_of_mem _ hm))
    have h4 := List.length_erase_of_mem ha
    have h5 := List.length_pos_of_mem ha
    simp only [List.length_cons]
    omega
set_option maxHeartbeats 4000000 in
set_option maxRecDepth 100000 in
theorem number_any (ab base : Nat) (vs : List (List W)) (ps : List Nat) (hvl : vs.length ≤ 100000) : ∀ (f : Nat) (Z : Nat → Prop) (l : List W) (us : List (List W)) (opn : Nat → Prop) (dv : Value) (dcs : List Value) (w : World),
    l ∈ vs → Sh f l → l ∉ us → us.Nodup → l.length ≤ 1000 → Nu Z ab base vs ps us opn dv dcs w → base ≤ w.heap.size → (∀ b, Z b → b < w.heap.size) →
      Calls Tryd.prog 49 #[dv, .pointer (some ⟨pp vs ps l, 0, none⟩), .map (some ab)] w (NuPost Z ab base f vs ps us l opn dv dcs w) := by
  intro f
  induction f with
  | zero =>
    intro Z l us opn dv dcs w hv hs hn hnd hll hU hbw hZ
    have := (hU.H.at_ hv).ne
    obtain ⟨u, hu⟩ := List.exists_mem_of_ne_nil _ this
    exact absurd (hs u hu) (by omega)
  | succ f ih =>
    intro Z l us opn dv dcs w hv hs hn hnd hll hU hbw hZ
    have HIH := Lib.hid ih
    clear ih
    have hul : us.length ≤ 100000 := Nat.le_trans (len_of_sub hnd hU.sub) hvl
    obtain ⟨Q, hQ⟩ : ∃ Q, NuPost Z ab base (f + 1) vs ps us l opn dv dcs w = Q := ⟨_, rfl⟩
    rw [hQ]
    have HQ := Lib.hid hQ
    have HU := Lib.hid hU
    obtain ⟨w1, hput, M1, K1⟩ := hU.put hv hn
    obtain ⟨Ad, cd, hdv, _, _, _⟩ := own_form hU.D
    have hX := hU.H.at_ hv
    obtain ⟨A, a, B, b, S0, RA0, RB0, ha1, ha2, hb1, hb2, _⟩ := hX.ex
    have HRA := Lib.hid RA0
    have HRB := Lib.hid RB0
    have hup := hX.up
    have hkid := hX.kids
    have HCE : Hid (∀ (b : Nat) cs t fr, w.heap[b]? = some (.cells cs t fr) → (b = ab ∨ some b = dv.ownBlock) → t = 44) := Lib.hid (fun b cs t fr hb e => by
      rcases e with e | e
      · exact absurd e (hU.not_ab hb)
      · obtain ⟨ds, hd⟩ := own_cells hU.D e
        rw [hb] at hd
        injection hd with hd
        injection hd)
    have HS0 := Lib.hid S0
    clear RA0 RB0
    have S1 := S0.kp K1 (hU.not_ab S0)
    have HX := Lib.hid hX
    have hD1 : w1.ownsRow base 44 2 dv us.length dcs := own_kp hU.D K1 fun g hg e => by
      obtain ⟨cs, hcc⟩ := own_cells hU.D hg.symm
      exact hU.not_ab hcc e
    have HZ := Lib.hid hZ
    have HM1 := Lib.hid M1
    have HD1 := Lib.hid hD1
    subst hdv
    change Blk w1 (pp vs ps l) 133 _ at S1
    obtain ⟨p, hp⟩ : ∃ p, pp vs ps l = p := ⟨_, rfl⟩
    have HP := Lib.hid hp
    rw [hp] at S1 hput ⊢
    have HS1 := Lib.hid S1
    obtain ⟨x0, x1, x2, x3⟩ := S1.f4
    clear hp hQ hU hX S0 M1 hD1 hZ S1 x3
    go_enter Tryd.func49, Tryd.ntmps49
    go_wp2_with (at_builtin; apply halt_here)
    apply go_on
    obtain ⟨i0, hi0, hz0, hz1, hz2⟩ := info_parts node_info
    have hw1 := K1.size
    refine wpList_app rfl _ _ 28 rfl base 44 i0 _ 2 32 Tryd.underlying28 hi0 hz0 hz1 hz2 rfl (by decide) _ us.length dcs rfl (own_alloc HD1.out _) 44 (some ⟨w1.heap.size, 0, none⟩) 1 1 [.bool (fin l), .slice none 0 0] rfl (Rd.newAt w1 _ rfl 44 2 1 #[.bool (fin l), .slice none 0 0] (0, 0) _ rfl rfl) (by simp [Value.oneCell']) (by simp only [maxLen]; omega) (by omega) (by simp; omega) ?_
    intro dv1 w3 D3 hg3 hq3 _
    have K1a : Kp (· = ab) w (w1.alloc (Obj.cells #[.bool (fin l), .slice none 0 0] 44)) := K1.trans (Kp.of_ext (S := fun _ => False) (Ext.alloc w1 _)) (fun _ _ e => e) (fun _ _ e => e.elim)
    have U3 := HU.out.add (u := .bool (fin l)) (v := .slice none 0 0) hv K1a (HM1.out.ext (Ext.alloc w1 _)) hg3 D3
    have K3 : Kp (fun k => k = ab ∨ some k = (Value.slice Ad us.length cd).ownBlock) w w3 := K1a.trans (Kp.of_grown (S := fun k => some k = (Value.slice Ad us.length cd).ownBlock) hg3 fun i e => e) (fun _ _ e => .inl e) (fun _ _ e => .inr e)
    have G3 : Gr w (.slice Ad us.length cd) dv1 := fun g hg => by
      rcases hq3 with h | h
      · exact .inl ((show dv1.ownBlock = (Value.slice Ad us.length cd).ownBlock from h).symm.trans hg)
      · rw [h] at hg; injection hg with hg; right; rw [← hg]; simp; omega
    have S3 := (HS1.out.alloc (Obj.cells #[.bool (fin l), .slice none 0 0] 44)).grown hg3 (own_ne (own_alloc HD1.out (Obj.cells #[.bool (fin l), .slice none 0 0] 44)) (HS1.out.alloc (Obj.cells #[.bool (fin l), .slice none 0 0] 44)) (by decide))
    obtain ⟨A1, c1, e1, _, _⟩ := own_form D3
    obtain ⟨n1, hn1⟩ : ∃ n1, us.length + 1 = n1 := ⟨_, rfl⟩
    rw [hn1] at e1
    subst e1
    obtain ⟨y0, y1, y2, y3⟩ := S3.f4
    have hdl := own_len HD1.out
    have HNL : Hid (Nl Z ab base f vs ps us l opn (.slice Ad us.length cd) dcs w 0 (.slice A1 n1 c1) (.slice none 0 0) w3) := Lib.hid (by
      refine ⟨dcs ++ [.bool (fin l), .slice none 0 0], ?_, World.ownsRow_nil _ _ _ _, G3, K3, fun a ha => by simp at ha, ?_, fun j hj hlt => ?_⟩
      · simp only [List.take_zero, dfsAll_nil]
        exact U3.mono fun b _ e => e.elim (fun e => e) (fun e => by cases e)
      · rw [List.getElem?_append_right (by omega), hdl]; simp
      · rw [List.getElem?_append_left (by omega)])
    clear hi0 hz0 hz1 hz2 D3 hg3 hq3 x0 x1 x2 K3 U3 G3 K1a
    have HS3 := Lib.hid S3
    clear S3
    go_wp2_with fail
    generalize hgn : (grp l).length = gn at *
    have HGN := Lib.hid hgn
    have hgl : gn ≤ 1000 := by rw [← hgn]; exact Nat.le_trans (grp_len l) hll
    clear hgn
    go_loopw [0, 8, 31] (fun dv2 av i wr => ∃ k : Nat, k ≤ gn ∧ i = .int .i64 k ∧ Nl Z ab base f vs ps us l opn (.slice Ad us.length cd) dcs w k dv2 av wr) (fun _ _ i _ => 1000001 - (intOf i).toNat)
    case atStart => exact ⟨0, by omega, rfl, HNL.out⟩
    case round =>
      obtain ⟨k, hk, rfl, dcs2, U2, hA2, G2, K2, hV2, hF2, hO2⟩ := hrel
      obtain ⟨V, hV⟩ : ∃ V, V = dfsAll f (us ++ [l]) ((grp l).take k) := ⟨_, rfl⟩
      have hVn : V.Nodup := by
        rw [hV]
        exact dfsAll_nodup f _ _ (List.nodup_append.2 ⟨hnd, by simp, fun a ha b hb e => hn (by rw [List.mem_singleton.1 hb] at e; rw [← e]; exact ha)⟩)
      by_cases hkg : k < gn
      · have hkg' : (k : Int) < gn := by omega
        have hkl : k < (grp l).length := by have := HGN.out; omega
        have SK := HS0.out.kp K2 (fun e => absurd (HCE.out _ _ _ _ HS0.out e) (by decide))
        have RAK := HRA.out.kpa (by decide) K2 (fun ad _ cs fr hc e => absurd (HCE.out _ _ _ _ hc e) (by decide))
        have RBK := HRB.out.kpa (by decide) K2 (fun ad _ cs fr hc e => absurd (HCE.out _ _ _ _ hc e) (by decide))
        change Blk wr (pp vs ps l) 133 _ at SK
        rw [HP.out] at SK
        obtain ⟨z0, z1, z2, z3⟩ := SK.f4
        obtain ⟨m, hm⟩ : ∃ m, (grp l)[k] = m := ⟨_, rfl⟩
        have hmg : m ∈ grp l := by rw [← hm]; exact List.getElem_mem hkl
        have q1 : (bv ((grp l).map (·.1)))[k]? = some (.int .u8 m.1.toNat) := by simp [bv, hkl, hm]
        have q2 : (ptrs ps vs (grp l))[k]? = some (.pointer (some ⟨pp vs ps m.2, 0, none⟩)) := by simp [ptrs, ptr, pp, hkl, hm]
        obtain ⟨ad1, e1, hab1, hc1⟩ := RAK.one hkg q1
        obtain ⟨ad2, e2, hab2, hc2⟩ := RBK.one hkg q2
        subst e1 e2
        have HTS := Lib.hid (show (grp l).take (k + 1) = (grp l).take k ++ [m] by rw [take_snoc _ k hkl, hm])
        obtain ⟨mc, ml⟩ := m
        simp only at hc1 hc2
        have hmv := hkid _ hmg
        simp only at hmv
        have HMV := Lib.hid hmv
        obtain ⟨Ad2, cd2, hd2, _, _, _⟩ := own_form U2.D
        rw [← hV] at hd2
        subst hd2
        rw [← hV] at U2 hA2 hV2
        obtain ⟨bq, hbq⟩ : ∃ bq, decide (ml ∈ V) = bq := ⟨_, rfl⟩
        have hlk : (Instr.lookup 92 (.map (some ab)) (.pointer (some ⟨pp vs ps ml, 0, none⟩)) true).run Tryd.prog wr = .ok (.tuple #[.int .i64 (if ml ∈ V then (V.idxOf ml : Int) else 0), .bool bq]) wr := by
          by_cases hmV : ml ∈ V
          · rw [if_pos hmV, ← hbq, decide_eq_true hmV]; exact U2.look hmV true
          · rw [if_neg hmV, ← hbq, decide_eq_false hmV]; exact U2.look0 hmv hmV
        generalize (if ml ∈ V then (V.idxOf ml : Int) else 0) = iq at hlk
        have HBQ := Lib.hid hbq
        have HV := Lib.hid hV
        have HVN := Lib.hid hVn
        have HU2 := Lib.hid U2
        have HAV := Lib.hid hA2
        have HV2 := Lib.hid hV2
        have HMG := Lib.hid hmg
        have HQP : Hid ((ptrs ps vs (grp l))[k]? = some (.pointer (some ⟨pp vs ps ml, 0, none⟩))) := Lib.hid q2
        clear hbq hV hVn U2 hA2 hV2 hmg hm q1 q2 hmv HNL
        go_upto_if 49 with fail
        go_cut [0] (fun d wx => Nm Z ab base f vs ps us l opn (.slice Ad us.length cd) dcs w k ml u8 d wx)
        case first =>
          cases bq with
          | true =>
            have hmV : ml ∈ V := by have := HBQ.out; simpa using this
            have hkn := dfs_known (f := f) hmV
            have HKN := Lib.hid hkn
            clear hkn
            have HMT : Hid (Nm Z ab base f vs ps us l opn (.slice Ad us.length cd) dcs w k ml u8 (.slice Ad2 V.length cd2) wr) := Lib.hid (by
              refine ⟨dcs2, Ad2, cd2, ?_, ?_, ?_, G2, K2, hF2, hO2⟩
              · rw [← HV.out, HKN.out]
              · rw [← HV.out, HKN.out]; exact HU2.out
              · rw [← HV.out]; exact HAV.out)
            go_wp2_with fail
            go_meet
            exact HMT.out
          | false =>
            have hmV : ml ∉ V := by have := HBQ.out; simpa using this
            have hsm : Sh f ml := hs.grp hup _ HMG.out
            have hml : ml.length ≤ 1000 := by
              have e5 := (grp_up hup).2.1 _ HMG.out
              simp only at e5
              rw [e5]
              exact Nat.le_trans (aft_len _ _) hll
            have hwb : base ≤ wr.heap.size := Nat.le_trans hbw K2.size
            have hZ2 : ∀ b, Z b ∨ some b = u8.ownBlock → b < wr.heap.size := fun b h => by
              rcases h with h | h
              · have h1 := HZ.out b h; have h2 := K2.size; omega
              · exact (own_typ HAV.out h.symm).2.2
            have HCALL := Lib.hid (HIH.out _ ml V _ _ dcs2 wr HMV.out hsm hmV HVN.out hml HU2.out hwb hZ2)
            have HNV := Lib.hid hmV
            clear hsm hml hwb hZ2 hmV
            go_wp2_with fail
            refine HCALL.out.mono ?_
            rintro e w5 ⟨dv', dcs', rfl, U5, K5, G5, O5⟩
            have hne49 : ∀ g, u8.ownBlock = some g → ¬ (g = ab ∨ some g = (Value.slice Ad2 V.length cd2).ownBlock) := fun g hg e => by
              obtain ⟨cs, hc⟩ := own_cells HAV.out hg.symm
              rcases e with e | e
              · exact HU2.out.not_ab hc e
              · obtain ⟨ds, hd⟩ := own_cells HU2.out.D e
                exact typ_ne hc hd (by decide) rfl
            have A5 := own_kp HAV.out K5 hne49
            have K25 : Kp (fun k => k = ab ∨ some k = (Value.slice Ad us.length cd).ownBlock) w w5 := K2.trans K5 (fun _ _ e => e) (fun i hi e => by
              rcases e with e | e
              · exact .inl e
              · rcases G2 i e.symm with h1 | h1
                · exact .inr h1.symm
                · omega)
            have hVlen : us.length < V.length := by
              rw [HV.out]
              have h1 := (dfsAll_pre f ((grp l).take k) (us ++ [l])).length_le
              simp at h1
              omega
            obtain ⟨A5', c5', hd5, _, _, _⟩ := own_form U5.D
            have HMT : Hid (Nm Z ab base f vs ps us l opn (.slice Ad us.length cd) dcs w k ml u8 dv' w5) := Lib.hid (by
              refine ⟨dcs', A5', c5', ?_, ?_, ?_, G2.trans G5 K2.size, K25, ?_, fun j hj hlt => ?_⟩
              · rw [← HV.out]; exact hd5
              · rw [← HV.out]; exact U5
              · rw [← HV.out]; exact A5
              · exact (O5 us.length (.inr rfl) hVlen).trans hF2
              · exact (O5 j (.inl hj) (by omega)).trans (hO2 j hj hlt))
            clear U5 K5 G5 O5 A5 K25 hVlen hd5 hne49
            go_wp2_with fail
            go_meet
            exact HMT.out
        case rest =>
          obtain ⟨dcs3, A3, c3, hd3, U3, hA3, G3, K3, hF3, hO3⟩ := hcut
          rw [← HV.out] at U3 hA3 hd3
          have SK3 := HS0.out.kp K3 (fun e => absurd (HCE.out _ _ _ _ HS0.out e) (by decide))
          have RBK3 := HRB.out.kpa (by decide) K3 (fun ad _ cs fr hc e => absurd (HCE.out _ _ _ _ hc e) (by decide))
          change Blk wc (pp vs ps l) 133 _ at SK3
          rw [HP.out] at SK3
          obtain ⟨r0, r1, r2, r3⟩ := SK3.f4
          obtain ⟨ad3, e3, hab3, hc3⟩ := RBK3.one hkg HQP.out
          injection e3 with e3
          subst e3
          subst hd3
          have hpre : V <+: dfs f V ml := dfs_pre f V ml
          have hmm : ml ∈ dfs f V ml := dfs_in (hs.grp hup _ HMG.out) (grp_ne _ HMG.out)
          have hlk3 := U3.look hmm false
          rw [if_neg (by decide)] at hlk3
          obtain ⟨Aa, ca, hav, _, _, _⟩ := own_form hA3
          subst hav
          have hw3 := K3.size
          have HPRE := Lib.hid hpre
          have HMM := Lib.hid hmm
          obtain ⟨V', hV'⟩ : ∃ V', dfs f V ml = V' := ⟨_, rfl⟩
          have HV' := Lib.hid hV'
          rw [hV'] at U3 hlk3 HPRE HMM G3
          have HU3 := Lib.hid U3
          have HA3 := Lib.hid hA3
          clear hpre hmm U3 hlk
          go_wp2_with (at_builtin; apply halt_here)
          apply go_on
          obtain ⟨i1, hi1, hy0, hy1, hy2⟩ := info_parts arc_info
          refine wpList_app rfl _ _ 42 rfl w.heap.size 49 i1 _ 2 16 Tryd.underlying42 hi1 hy0 hy1 hy2 rfl (by decide) _ k _ rfl (own_alloc HA3.out _) 49 (some ⟨wc.heap.size, 0, none⟩) 1 1 [.int .u8 mc.toNat, .int .i64 (V'.idxOf ml : Nat)] rfl (Rd.newAt wc _ rfl 49 2 1 #[.int .u8 mc.toNat, .int .i64 (V'.idxOf ml : Nat)] (0, 0) _ rfl rfl) (by simp [Value.oneCell']) (by simp only [maxLen]; omega) (by omega) (by simp; omega) ?_
          intro v' w6 hA6 hg6 hq6 _
          have U6 := (HU3.out.ext (Ext.alloc wc (Obj.cells #[.int .u8 mc.toNat, .int .i64 (V'.idxOf ml : Nat)] 49))).arcs (own_alloc HA3.out _) hg6 hq6
          have K6 : Kp (fun k => k = ab ∨ some k = (Value.slice Ad us.length cd).ownBlock) w w6 := (K3.trans (S := fun k => k = ab ∨ some k = (Value.slice Ad us.length cd).ownBlock) (Kp.of_ext (S := fun _ => False) (Ext.alloc wc (Obj.cells #[.int .u8 mc.toNat, .int .i64 (V'.idxOf ml : Nat)] 49))) (fun _ _ e => e) (fun _ _ e => e.elim)).trans (Kp.of_grown (S := fun b => some b = (Value.slice Aa k ca).ownBlock) hg6 fun i e => e) (fun _ _ e => e) (fun i hi e => by
            have h1 := (own_typ HA3.out e.symm).2.1
            omega)
          have hacs : acells (((grp l).take k).map fun a => (a.1, (V.idxOf a.2 : Int))) ++ [.int .u8 mc.toNat, .int .i64 (V'.idxOf ml : Nat)] = acells (((grp l).take (k + 1)).map fun a => (a.1, (V'.idxOf a.2 : Int))) := by
            rw [HTS.out, List.map_append, acells_app]
            congr 1
            congr 1
            refine List.map_congr_left fun a ha => ?_
            rw [idx_pre HPRE.out (HV2.out a ha)]
          have hV1 : dfsAll f (us ++ [l]) ((grp l).take (k + 1)) = V' := by rw [HTS.out, dfsAll_snoc, ← HV.out, HV'.out]
          have HNL2 : Hid (Nl Z ab base f vs ps us l opn (.slice Ad us.length cd) dcs w (k + 1) (.slice A3 V'.length c3) v' w6) := Lib.hid (by
            refine ⟨dcs3, ?_, ?_, G3, K6, fun a ha => ?_, hF3, hO3⟩
            · rw [hV1]; exact U6
            · rw [hV1, ← hacs]; exact hA6
            · rw [hV1]
              rw [HTS.out] at ha
              rcases List.mem_append.1 ha with ha | ha
              · exact HPRE.out.subset (HV2.out a ha)
              · rw [List.mem_singleton.1 ha]; exact HMM.out)
          clear U6 K6 hacs hV1 hA6 hg6 hq6 hlk3 hi1 hy0 hy1 hy2
          go_wp2
          exact ⟨⟨k + 1, by omega, by go_num, HNL2.out⟩, by simp only [intOf]; omega⟩
      · have hkg' : ¬ (k : Int) < gn := by omega
        obtain rfl : k = gn := by omega
        have hfull : (grp l).take k = grp l := List.take_of_length_le (by have := HGN.out; omega)
        rw [hfull] at hV hA2 hV2
        rw [hfull, ← hV] at U2
        rw [← hV] at hA2 hV2
        have hdn : dfs (f + 1) us l = V := by rw [dfs_new hn, hV]
        have hVlen : us.length < V.length := by
          rw [hV]
          have h1 := (dfsAll_pre f (grp l) (us ++ [l])).length_le
          simp at h1
          omega
        have hVl : V.length ≤ 100000 := Nat.le_trans (len_of_sub hVn U2.sub) hvl
        have hVat : V[us.length] = l := by
          obtain ⟨t, ht⟩ := dfsAll_pre f (grp l) (us ++ [l])
          have h2 : V = us ++ [l] ++ t := by rw [hV, ht]
          have h3 : V[us.length]? = some l := by rw [h2]; simp
          rw [List.getElem?_eq_getElem hVlen] at h3
          exact Option.some.inj h3
        obtain ⟨gd, cd3, hd3⟩ : ∃ gd cd3, u0 = .slice (some ⟨gd, 0, none⟩) V.length cd3 := by
          rcases U2.D.2 with ⟨_, h0⟩ | ⟨gd, cap, cur, h1, _⟩
          · omega
          · exact ⟨gd, cap, h1⟩
        subst hd3
        obtain ⟨Aa, ca, hav, RA5, ha3, ha4⟩ := own_form hA2
        subst hav
        have hgk : (grp l).length = k := HGN.out
        have UZ : Nu Z ab base vs ps V (fun i => opn i ∨ i = us.length) (.slice (some ⟨gd, 0, none⟩) V.length cd3) dcs2 wr := U2.mono fun b _ e => .inl e
        have hnd2 : Nd Z wr V V[us.length] (.bool (fin l)) (.slice Aa k ca) := by
          rw [hVat]
          refine ⟨Aa, ca, rfl, by rw [hgk], ?_, by rw [hgk]; exact ha3, ha4, hV2, fun ad e => ?_⟩
          · rw [hgk]; exact RA5
          · rcases hA2.2 with ⟨h2, _⟩ | ⟨q, cap, cur, h2, h3, h4, _⟩
            · rw [e] at h2; cases h2
            · injection h2 with h2
              rw [h2] at e
              injection e with e
              subst e
              exact ⟨(Array.getElem?_eq_some_iff.1 h4).1, fun e => by have := HZ.out _ e; simp only at this; omega⟩
        have UC := UZ.close hVlen hF2 hnd2
        have hdl2 := own_len UZ.D
        have hcell : ∃ u, wr.cell? ⟨gd, us.length * 2 + 1, none⟩ = some u := by
          have hh : us.length * 2 + 1 < dcs2.length := by omega
          exact ⟨_, by
            have h1 := UZ.D.cells (g := gd) rfl (us.length * 2 + 1) _ (List.getElem?_eq_getElem hh)
            have e1 : (⟨gd, 0, none⟩ : Addr).add (us.length * 2 + 1) = ⟨gd, us.length * 2 + 1, none⟩ := by unfold Addr.add; split <;> simp_all
            rw [e1] at h1; exact h1⟩
        obtain ⟨u1, hcell⟩ := hcell
        obtain ⟨⟨csd, hcd⟩, _, hgl2⟩ := own_typ UZ.D (g := gd) rfl
        have hfz : wr.frozen? ⟨gd, us.length * 2 + 1, none⟩ = false := by simp [World.frozen?, hcd]
        have HFIN : Hid (Q (.returned (.slice (some ⟨gd, 0, none⟩) V.length cd3)) (wr.setCell ⟨gd, us.length * 2 + 1, none⟩ (.slice Aa k ca))) := Lib.hid (by
          rw [← HQ.out]
          refine ⟨_, dcs2.set (us.length * 2 + 1) (.slice Aa k ca), rfl, by rw [hdn]; exact UC, K2.trans (Kp.of_set (S := (· = gd)) wr ⟨gd, us.length * 2 + 1, none⟩ _ rfl) (fun _ _ e => e) (fun i hi e => ?_), G2, fun j hj hlt => ?_⟩
          · rcases G2 gd rfl with h1 | h1
            · rw [e]; exact .inr h1.symm
            · omega
          · rw [List.getElem?_set_ne (by omega)]
            exact hO2 j hj hlt)
        have hlt' : (us.length : Int) < V.length := by omega
        clear UC UZ hnd2 U2 hA2 hV2 hfull hdn hV hVat RA5 hgk hdl2 hcd HNL hF2
        go_wp2_with fail
        first
          | exact HFIN.out
          | (go_ret; exact HFIN.out)
end Go.Proofs.YtmmihcophkipoaaDoor
