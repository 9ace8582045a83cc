import Derived.Test.YtmmihcophkipoaaDoorD27
import Derived.Deep.DeepCutAuto
import Derived.Deep.LoopGhost
namespace Go.Proofs.YtmmihcophkipoaaDoor
open Go.ChangeShapes Go.WideShapes Go.ChangeAt Go.RowKit
set_option linter.unusedVariables false
set_option linter.unusedSimpArgs false
attribute [local go_sem] bs_beq bs_bne bs_less bs_size bs_extract
def OfPost (Z : Nat → Prop) (mb f : Nat) (vs : List (List W)) (ps : List Nat) (l : List W) (w : World) (e : Ending) (w' : World) : Prop :=
  ∃ us qs, e = .returned (ptr ((ps ++ qs).getD ((vs ++ us).idxOf l) 0)) ∧ vs ++ us = pst f vs l ∧ Shp Z w' (vs ++ us) (ps ++ qs) ∧ Mp w' mb (entv (vs ++ us) (ps ++ qs)) ∧ Kp (· = mb) w w'
/-- the box of what is left of the list -/
def Bx (bl : Nat) (w0 : World) (r : List W) (w : World) : Prop := ∃ A c, Blk w bl 25 #[.slice A r.length c] ∧ Rd w0 0 1 A r.length (sv r) ∧ r.length ≤ c ∧ c ≤ maxLen
theorem Bx.kp {bl : Nat} {w0 w w' : World} {r : List W} {S : Nat → Prop} (h : Bx bl w0 r w) (k : Kp S w w') (hs : ¬ S bl) : Bx bl w0 r w' := by
  obtain ⟨A, c, h1, h2⟩ := h
  exact ⟨A, c, h1.kp k hs, h2⟩
theorem Bx.ext {bl : Nat} {w0 w w' : World} {r : List W} (h : Bx bl w0 r w) (k : Ext w w') : Bx bl w0 r w' := by
  obtain ⟨A, c, h1, h2⟩ := h
  exact ⟨A, c, h1.ext k, h2⟩
/-- what lay there ahead of the call is there still, for the map is no row -/
theorem Rd.kmap {mb : Nat} {w0 w : World} {n : Nat} {A : Option Addr} {xs : List Value} {L : List (Value × Value)} (h : Rd w0 0 1 A n xs) (k : Kp (· = mb) w0 w) (hM : Mp w0 mb L) : Rd w 0 1 A n xs := by
  rcases Nat.eq_zero_or_pos n with hn | hn
  · exact ⟨h.1, fun h0 => by omega⟩
  · refine h.keep k.size fun b hb ad ha hbk _ => k.block b hb ?_
    rintro rfl
    subst hbk
    obtain ⟨ad', e, _, _, hc⟩ := h.2 hn
    rw [ha] at e
    injection e with e
    subst e
    have hl : 0 < xs.length := by have := h.1; omega
    have h3 := hc 0 _ (List.getElem?_eq_getElem hl)
    obtain ⟨es, clock, h1, _⟩ := hM
    have e0 : ad.add 0 = ad := by unfold Addr.add; simp
    unfold World.cell? at h3
    rw [e0, h1] at h3
    cases h3
theorem Ost.start {Z : Nat → Prop} {mb : Nat} {l : List W} {vs : List (List W)} {ps : List Nat} {w W1 w2 : World} {A' : Option Addr} {c' : Nat} {v' : Value} (hM : Mp w mb (entv vs ps)) (hH : Shp Z w vs ps) (hZ : ∀ b, Z b → b < w.heap.size)
    (hr : Rd w 0 1 A' (rest0 l).length (sv (rest0 l))) (h1 : (rest0 l).length ≤ c') (h2 : c' ≤ maxLen)
    (hW : W1 = ((w.alloc (Obj.cells #[.slice A' (rest0 l).length c'] 25)).alloc (Obj.cells #[.bool (fin l), .slice none 0 0, .slice none 0 0, .string (bs [])] 133)).alloc (Obj.cells #[.pointer none, .slice none 0 0] 137))
    (hN : Blk w2 (w.heap.size + 1 + 1) 137 #[.pointer (some ⟨w.heap.size + 1 + 1, 0, none⟩), v']) (hO : Ob w.heap.size (truth (fin l)) v' w2) (hK : Kp (fun k => k = w.heap.size + 1 + 1 ∨ some k = (Value.slice none 0 0).ownBlock) W1 w2) :
    Ost Z mb w.heap.size (w.heap.size + 1) (w.heap.size + 1 + 1) l w [] [] [] vs ps (.slice none 0 0) (.slice none 0 0) (.pointer (some ⟨w.heap.size + 1 + 1, 0, none⟩)) v' w2 ∧ Bx w.heap.size w (rest0 l) w2 := by
  have hE : Ext w W1 := by rw [hW]; exact ((Ext.alloc _ _).trans (Ext.alloc _ _)).trans (Ext.alloc _ _)
  have B1 : Blk W1 w.heap.size 25 #[.slice A' (rest0 l).length c'] := by rw [hW]; exact ((Blk.new w 25 _).alloc _).alloc _
  have B2 : Blk W1 (w.heap.size + 1) 133 #[.bool (fin l), .slice none 0 0, .slice none 0 0, .string (bs [])] := by
    rw [hW]; exact (Blk.newAt _ (w.heap.size + 1) (by simp) 133 _).alloc _
  have hsz : W1.heap.size = w.heap.size + 1 + 1 + 1 := by rw [hW]; simp
  have hsz2 := hK.size
  have hno : ∀ k, ¬ some k = (Value.slice none 0 0).ownBlock := fun k e => by cases e
  have hK2 : Kp (· = w.heap.size + 1 + 1) W1 w2 := hK.mono fun i _ e => e.elim (fun e => e) (fun e => absurd e (hno i))
  have hvlt : ∀ b, some b = v'.ownBlock → b < w2.heap.size := fun b hb => (own_typ hO hb.symm).2.2
  have hvge : ∀ b, some b = v'.ownBlock → w.heap.size ≤ b := fun b hb => (own_typ hO hb.symm).2.1
  have hZo : ∀ b, Zo Z w.heap.size (w.heap.size + 1) (w.heap.size + 1 + 1) (.slice none 0 0) (.slice none 0 0) v' b → Z b ∨ (w.heap.size ≤ b ∧ b < w2.heap.size) := by
    rintro b (e | e | e | e | e | e | e)
    · exact .inl e
    · exact .inr ⟨by omega, by omega⟩
    · exact .inr ⟨by omega, by omega⟩
    · exact .inr ⟨by omega, by omega⟩
    · exact absurd e (hno b)
    · exact absurd e (hno b)
    · exact .inr ⟨hvge b e, hvlt b e⟩
  have hE2 : Ext w w2 := ⟨hK2.os.trans hE.os, hK2.tape.trans hE.tape, hK2.output.trans hE.output, Nat.le_trans hE.le hK2.size, fun i hi => (hK2.block i (Nat.lt_of_lt_of_le hi hE.le) (by omega)).trans (hE.block i hi)⟩
  refine ⟨⟨B2.kp hK2 (by omega), World.ownsRow_nil _ _ _ _, World.ownsRow_nil _ _ _ _, (fun a h => by cases h), hN, .inr rfl, by simpa [nmG] using hO, (fun a h => by cases h), ?_, hM.ext hE2, fun k h => absurd h.symm (hno k), ?_, Kp.of_ext hE2, by omega, by omega, Nat.le_refl _⟩, ⟨A', c', B1.kp hK2 (by omega), hr, h1, h2⟩⟩
  · refine (hH.mono fun b hb e => ?_).ext hE2
    rcases hZo b e with h | h
    · exact h
    · omega
  · intro b e
    rcases hZo b e with h | h
    · have := hZ b h; omega
    · exact h.2
theorem dec_len : ∀ (k n : Nat), n < 10 ^ (k + 1) → (Lib.decDigits n).length ≤ k + 1 := by
  intro k
  induction k with
  | zero =>
    intro n h
    rw [Lib.decDigits, dif_pos (by simpa using h)]
    simp
  | succ k ih =>
    intro n h
    rw [Lib.decDigits]
    split
    · simp
    · rw [List.length_append, List.length_singleton]
      have := ih (n / 10) (by rw [Nat.pow_succ] at h; omega)
      omega
theorem dec_len4 {vs : List (List W)} (h : vs.length ≤ 9999) (l : List W) : (Lib.decDigits (vs.idxOf l)).length ≤ 4 := dec_len 3 _ (by have := List.idxOf_le_length (a := l) (l := vs); omega)
theorem nmG_len {vs : List (List W)} (h : vs.length ≤ 9999) : ∀ g : List (UInt8 × List W), (nmG vs g).length ≤ 6 * g.length
  | [] => by simp [nmG]
  | a :: g => by
    have e1 : nmG vs (a :: g) = 32 :: a.1 :: (Lib.decDigits (vs.idxOf a.2) ++ nmG vs g) := by simp [nmG]
    rw [e1]
    have h1 := nmG_len h g
    have h2 := dec_len4 h a.2
    simp only [List.length_cons, List.length_append]
    omega
theorem truth_len (b : Bool) : (truth b).length ≤ 5 := by cases b <;> simp [truth]
theorem shp_info : (Tryd.prog.info? 88).map (fun i => (i.zero, i.size, i.bytes)) = some (some (.pointer none), 1, 8) := by kernel_rfl
/-- one byte more, behind the append and the store -/
theorem Ost.arc_put {Z : Nat → Prop} {mb bl s nb : Nat} {l : List W} {w0 w w6 : World} {g gt gn : List (UInt8 × List W)} {vs : List (List W)} {ps : List Nat} {av tv pt nv v' : Value} (h : Ost Z mb bl s nb l w0 g gt gn vs ps av tv pt nv w) (x : UInt8 × List W)
    (hA : w6.ownsRow w0.heap.size 5 1 v' (g.length + 1) (bv (g.map (·.1)) ++ [.int .u8 x.1.toNat])) (hg : w.grownBy w6 av.ownBlock) (hq : v'.ownBlock = av.ownBlock ∨ v'.ownBlock = some w.heap.size) :
    Ost Z mb bl s nb l w0 (g ++ [x]) gt gn vs ps v' tv pt nv (w6.setCell ⟨s, 1, none⟩ v') := by
  have S6 := h.S.grown hg (own_ne h.A h.S (by decide))
  refine h.arc x (S6.set_ 1 v') ?_ (Kp.trans (Kp.of_grown (S := fun k => some k = av.ownBlock) hg fun i e => e) (Kp.of_set (S := fun k => k = s) w6 ⟨s, 1, none⟩ v' rfl) (fun _ _ e => .inr e) (fun _ _ e => .inl e)) (fun b hb => ?_)
  · have e : bv ((g ++ [x]).map (·.1)) = bv (g.map (·.1)) ++ [.int .u8 x.1.toNat] := by rw [List.map_append, bv_append]; rfl
    rw [e, List.length_append]
    exact own_far hA (own_ne hA S6 (by decide))
  · rcases hq with h1 | h1
    · exact .inl (by rw [← h1]; exact hb)
    · rw [hb] at h1; injection h1 with h1; exact .inr (by omega)
/-- one pointer more, behind the append and the store -/
theorem Ost.to_put {Z : Nat → Prop} {mb bl s nb : Nat} {l : List W} {w0 w w6 : World} {ga g gn : List (UInt8 × List W)} {vs : List (List W)} {ps : List Nat} {av tv pt nv v' : Value} (h : Ost Z mb bl s nb l w0 ga g gn vs ps av tv pt nv w) (x : UInt8 × List W) (hx : x.2 ∈ vs)
    (hA : w6.ownsRow w0.heap.size 88 1 v' (g.length + 1) (ptrs ps vs g ++ [ptr (ps.getD (vs.idxOf x.2) 0)])) (hg : w.grownBy w6 tv.ownBlock) (hq : v'.ownBlock = tv.ownBlock ∨ v'.ownBlock = some w.heap.size) :
    Ost Z mb bl s nb l w0 ga (g ++ [x]) gn vs ps av v' pt nv (w6.setCell ⟨s, 2, none⟩ v') := by
  have S6 := h.S.grown hg (own_ne h.T h.S (by decide))
  refine h.to_ x hx (S6.set_ 2 v') ?_ (Kp.trans (Kp.of_grown (S := fun k => some k = tv.ownBlock) hg fun i e => e) (Kp.of_set (S := fun k => k = s) w6 ⟨s, 2, none⟩ v' rfl) (fun _ _ e => .inr e) (fun _ _ e => .inl e)) (fun b hb => ?_)
  · have e : ptrs ps vs (g ++ [x]) = ptrs ps vs g ++ [ptr (ps.getD (vs.idxOf x.2) 0)] := by unfold ptrs; rw [List.map_append]; rfl
    rw [e, List.length_append]
    exact own_far hA (own_ne hA S6 (by decide))
  · rcases hq with h1 | h1
    · exact .inl (by rw [← h1]; exact hb)
    · rw [hb] at h1; injection h1 with h1; exact .inr (by omega)
theorem Mp.len {P : Program} {w : World} {b : Nat} {L : List (Value × Value)} (h : Mp w b L) {t kt et : TypeId} (ht : P.underlying t = some (.map kt et)) (ty : TypeId) : (Builtin.len_ #[t] ty #[.map (some b)]).run P w = .ok (.int .i64 L.length) w := by
  obtain ⟨es, clock, h1, h2⟩ := h
  have hgo : (getObj b).run P w = .ok (.map es clock) w := by simp [getObj, Sem.run, h1]
  have hl : L.length = es.size := by rw [← h2]; simp
  simp [Builtin.len_, run_underlying ht, hgo, goInt, hl]
/-- the text's row -/
theorem ob_row {base : Nat} {l : W} {v : Value} {w : World} (h : Ob base l v w) (hl : l ≠ []) : ∃ g c, v = .slice (some ⟨g, 0, none⟩) l.length c ∧ l.length ≤ c ∧ base ≤ g ∧ g < w.heap.size ∧ (∃ cs, w.heap[g]? = some (.cells cs 5 (0, 0))) ∧ Rd w 5 1 (some ⟨g, 0, none⟩) l.length (bv l) := by
  rcases h.2 with ⟨_, h0⟩ | ⟨g, cap, cur, rfl, hb, hgg, h1, h2, h3, h4⟩
  · exact absurd (List.eq_nil_of_length_eq_zero h0) hl
  · exact ⟨g, cap, rfl, h1, hb, (Array.getElem?_eq_some_iff.1 hgg).1, ⟨cur, hgg⟩, Rd.of_own h⟩
/-- the shape that was being made is finished -/
theorem Ost.finish {Z : Nat → Prop} {mb bl s nb gN : Nat} {l : List W} {w0 w w5 : World} {g : List (UInt8 × List W)} {vs : List (List W)} {ps : List Nat} {av tv pt nv : Value} (h : Ost Z mb bl s nb l w0 g g g vs ps av tv pt nv w) (hg : grp l = g) (hgN : nv.ownBlock = some gN)
    (hZ : ∀ b, Z b → b < w0.heap.size) (hu : Up l) (hne : l ≠ []) (hn : l ∉ vs) (k : Kp (fun b => b = gN ∨ b = s ∨ b = mb) w w5) (hS : Blk w5 s 133 #[.bool (fin l), av, tv, .string (bs (Lib.decDigits vs.length))]) : Shp Z w5 (vs ++ [l]) (ps ++ [s]) := by
  have hmb : ∀ (b : Nat) cs t fr, w.heap[b]? = some (.cells cs t fr) → b ≠ mb := fun b cs t fr hb e => h.M.not_cells (e ▸ hb)
  have h1 : Shp Z w5 vs ps := (h.H.kp k (fun b cs t fr hb e => by
    rcases e with e | e | e
    · exact .inr (.inr (.inr (.inr (.inr (.inr (by rw [hgN, e]))))))
    · exact .inr (.inr (.inl e))
    · exact absurd e (hmb _ _ _ _ hb))).mono fun b _ e => .inl e
  refine h1.push hn ?_
  obtain ⟨A, a, hav, hA, a1, a2⟩ := own_form h.A
  obtain ⟨B, b, htv, hB, b1, b2⟩ := own_form h.T
  subst hav htv hg
  have hown : ∀ ad, A = some ad → some ad.block = (Value.slice A (grp l).length a).ownBlock ∨ (grp l).length = 0 := fun ad e => by
    rcases h.A.2 with ⟨h2, h3⟩ | ⟨q, cap, cur, h2, _⟩
    · exact .inr h3
    · injection h2 with h2
      rw [h2] at e
      injection e with e
      subst e h2
      exact .inl rfl
  have hownB : ∀ ad, B = some ad → some ad.block = (Value.slice B (grp l).length b).ownBlock ∨ (grp l).length = 0 := fun ad e => by
    rcases h.T.2 with ⟨h2, h3⟩ | ⟨q, cap, cur, h2, _⟩
    · exact .inr h3
    · injection h2 with h2
      rw [h2] at e
      injection e with e
      subst e h2
      exact .inl rfl
  have hAo : ∀ ad, A = some ad → ad.block < w5.heap.size ∧ ¬ Z ad.block := fun ad e => by
    rcases h.A.2 with ⟨h2, h3⟩ | ⟨q, cap, cur, h2, h3, h4, _⟩
    · rw [e] at h2; cases h2
    · injection h2 with h2
      rw [h2] at e
      injection e with e
      subst e
      exact ⟨Nat.lt_of_lt_of_le (Array.getElem?_eq_some_iff.1 h4).1 k.size, fun e => by have := hZ _ e; simp only at this; omega⟩
  have hBo : ∀ ad, B = some ad → ad.block < w5.heap.size ∧ ¬ Z ad.block := fun ad e => by
    rcases h.T.2 with ⟨h2, h3⟩ | ⟨q, cap, cur, h2, h3, h4, _⟩
    · rw [e] at h2; cases h2
    · injection h2 with h2
      rw [h2] at e
      injection e with e
      subst e
      exact ⟨Nat.lt_of_lt_of_le (Array.getElem?_eq_some_iff.1 h4).1 k.size, fun e => by have := hZ _ e; simp only at this; omega⟩
  refine ⟨⟨A, a, B, b, hS, ?_, ?_, a1, a2, b1, b2, hAo, hBo⟩, fun a ha => List.mem_append_left _ (h.TV a ha), fun e => by have h2 := hZ _ e; have h3 := h.s0; omega, hu, hne⟩
  · refine hA.kpa (by decide) k fun ad ha cs fr hc e => ?_
    rcases e with e | e | e
    · rcases hown ad ha with h2 | h2
      · exact h.AN _ h2.symm (by rw [hgN, e])
      · rcases h.A.2 with ⟨h3, _⟩ | ⟨q, cap, cur, h3, _⟩
        · rw [ha] at h3; cases h3
        · injection h3 with h3
          rw [h3] at ha; injection ha with ha
          exact h.AN ad.block (by rw [h3, ← ha]; rfl) (by rw [hgN, e])
    · exact typ_ne hc h.S (by decide) e
    · exact hmb _ _ _ _ hc e
  · rw [ptrs_app h.H.len h.TV]
    refine hB.kpa (by decide) k fun ad ha cs fr hc e => ?_
    rcases e with e | e | e
    · obtain ⟨ds, hd⟩ := own_cells h.O hgN.symm
      exact typ_ne hc hd (by decide) e
    · exact typ_ne hc h.S (by decide) e
    · exact hmb _ _ _ _ hc e
/-- the loop over the groups: g are done, r is left -/
def Lo (Z : Nat → Prop) (mb bl s nb f : Nat) (l : List W) (vs : List (List W)) (ps : List Nat) (w0 : World) (k : Nat) (w : World) : Prop :=
  ∃ g r us qs av tv pt nv, r.length = k ∧ grp (rest0 l) = g ++ grp r ∧ r <:+ rest0 l ∧ vs ++ us = pstAll f vs g ∧ Ost Z mb bl s nb l w0 g g g (vs ++ us) (ps ++ qs) av tv pt nv w ∧ Bx bl w0 r w
set_option maxHeartbeats 4000000 in
set_option maxRecDepth 100000 in
theorem of50_any (mb : Nat) : ∀ (f : Nat) (Z : Nat → Prop) (l : List W) (vs : List (List W)) (ps : List Nat) (A : Option Addr) (c : Nat) (w : World),
    Sh f l → Up l → l ≠ [] → l.length ≤ 1000 → (∀ u ∈ l, u.length ≤ 1000) → (pst f vs l).length ≤ 9999 → Rd w 0 1 A l.length (sv l) → l.length ≤ c → c ≤ maxLen → Tb w → mb ≠ 0 → Mp w mb (entv vs ps) → Shp Z w vs ps → (∀ b, Z b → b < w.heap.size) →
      Calls Tryd.prog 50 #[.map (some mb), .slice A l.length c] w (OfPost Z mb f vs ps l w) := by
  intro f
  induction f with
  | zero =>
    intro Z l vs ps A c w hs _ hne
    obtain ⟨u, hu⟩ := List.exists_mem_of_ne_nil _ hne
    exact absurd (hs u hu) (by omega)
  | succ f ih =>
    intro Z l vs ps A c w hs hu hne hl hul hN hr hc1 hc2 hT hmb hM hH hZ
    have HIH := Lib.hid ih
    clear ih
    have HZ := Lib.hid hZ
    obtain ⟨Q, hQ⟩ : ∃ Q, OfPost Z mb (f + 1) vs ps l w = Q := ⟨_, rfl⟩
    rw [hQ]
    have HQ := Lib.hid hQ
    have hpos : 0 < l.length := List.length_pos_iff.2 hne
    have hpos' : (0 : Int) < l.length := by omega
    obtain ⟨ad, e1, hab, hc0⟩ := hr.one (i := 0) hpos (u0 := .string (bs l[0])) (sv_at l 0 hpos)
    have e2 : ad.add 0 = ad := by unfold Addr.add; simp
    rw [e2] at hc0 hab
    subst e1
    have hc3 : (w.alloc (Obj.cells #[.slice (some ad) l.length c] 25)).cell? ad = some (.string (bs l[0])) := cell_ext (Ext.alloc _ _) hab hc0
    obtain ⟨F, hF⟩ : ∃ F, fin l = F := ⟨_, rfl⟩
    have hfe : (bs l[0]).toList.isEmpty = F := by
      rw [bs_toList, ← hF]
      cases l with
      | nil => simp at hpos
      | cons a l => cases a <;> simp [fin]
    have HF := Lib.hid hF
    have HR := Lib.hid hr
    clear hr hZ e2 hQ hF
    have hc1i : (1 : Int) ≤ l.length := by omega
    go_enter Tryd.func50, Tryd.ntmps50
    go_upto_if 23 with fail
    go_cut [] (fun wx => ∃ A' c', Rd w 0 1 A' (rest0 l).length (sv (rest0 l)) ∧ (rest0 l).length ≤ c' ∧ c' ≤ maxLen ∧ wx = (w.alloc (Obj.cells #[.slice A' (rest0 l).length c'] 25)).alloc (Obj.cells #[.bool F, .slice none 0 0, .slice none 0 0, .string { data := #[] }] 133))
    case first =>
      cases F with
      | false =>
        go_wp2_with fail
        go_meet
        have e : rest0 l = l := by unfold rest0; rw [HF.out]; rfl
        rw [e]
        exact ⟨some ad, c, HR.out, hc1, hc2, rfl⟩
      | true =>
        have hcut := HR.out.cut (i := 1) (by omega) hc1
        have e : rest0 l = l.tail := by unfold rest0; rw [HF.out]; rfl
        have e3 : (rest0 l).length = l.length - 1 := by rw [e, List.length_tail]
        have e4 : sv (rest0 l) = (sv l).drop (1 * 1) := by rw [e, sv_drop, ← List.drop_one]
        have E34 := Lib.hid (And.intro e3 e4)
        have HCUT := Lib.hid hcut
        clear e hcut e3 e4
        by_cases h1 : c = 1
        · subst h1
          have hz : l.length - 1 = 0 := by omega
          rw [hz] at E34 HCUT
          have HCUT2 := Lib.hid (show Rd w 0 1 (some ad) 0 ((sv l).drop (1 * 1)) by have := HCUT.out; rw [if_pos rfl] at this; exact this)
          go_wp2_with fail
          all_goals (first | contradiction | (go_meet; rw [E34.out.1, E34.out.2]; exact ⟨some ad, 0, HCUT2.out, by omega, by omega, rfl⟩))
        · have HCUT2 := Lib.hid (show Rd w 0 1 (some ⟨ad.block, ad.off + 1, none⟩) (l.length - 1) ((sv l).drop (1 * 1)) by have := HCUT.out; rw [if_neg h1] at this; exact this)
          go_wp2_with fail
          all_goals (first | contradiction | (go_meet; rw [E34.out.1, E34.out.2]; exact ⟨some ⟨ad.block, ad.off + 1, none⟩, c - 1, HCUT2.out, by omega, by omega, rfl⟩))
    case rest =>
      obtain ⟨A', c', hr0, hc1', hc2', rfl⟩ := hcut
      clear hc3 hc0 hab hfe hpos' hc1i
      go_wp2_with fail
      refine (fbool_any F _).mono ?_
      rintro e w1 ⟨rfl, rfl⟩
      go_wp2_with fail
      obtain ⟨W1, hW1⟩ : ∃ W1, W1 = ((w.alloc (Obj.cells #[.slice A' (rest0 l).length c'] 25)).alloc (Obj.cells #[.bool F, .slice none 0 0, .slice none 0 0, .string (bs [])] 133)).alloc (Obj.cells #[.pointer none, .slice none 0 0] 137) := ⟨_, rfl⟩
      have hW1' : Blk W1 (w.heap.size + 1 + 1) 137 #[.pointer none, .slice none 0 0] := by rw [hW1]; exact Blk.newAt _ _ (by simp) _ _
      have hW2 : w.heap.size ≤ W1.heap.size := by rw [hW1]; simp; omega
      have HW := Lib.hid hW1
      have hgoal : ∀ Q, Calls Tryd.prog 74 #[.pointer (some ⟨w.heap.size + 1 + 1, 0, none⟩), .string (bs (boolW F))] W1 Q → Calls Tryd.prog 74 #[.pointer (some ⟨w.heap.size + 1 + 1, 0, none⟩), .string (bs (boolW F))] (((w.alloc (Obj.cells #[.slice A' (rest0 l).length c'] 25)).alloc (Obj.cells #[.bool F, .slice none 0 0, .slice none 0 0, .string { data := #[] }] 133)).alloc (Obj.cells #[.pointer none, .slice none 0 0] 137)) Q := fun Q h => by
        rw [hW1] at h; exact h
      refine hgoal _ ?_
      clear hgoal hW1
      refine (wstr_any w.heap.size (w.heap.size + 1 + 1) (.pointer none) (.slice none 0 0) [] (boolW F) W1 (.inl rfl) hW1' (World.ownsRow_nil _ _ _ _) hW2 (by unfold boolW; split <;> simp)).mono ?_
      rintro e w2 ⟨rfl, nv, hN2, hO2, hK2, _⟩
      have hst := Ost.start (A' := A') (c' := c') (v' := nv) hM hH HZ.out hr0 hc1' hc2' (by rw [HF.out]; exact HW.out) hN2 (by rw [HF.out]; exact hO2) hK2
      have hlo : Lo Z mb w.heap.size (w.heap.size + 1) (w.heap.size + 1 + 1) f l vs ps w (rest0 l).length w2 := ⟨[], rest0 l, [], [], _, _, _, nv, rfl, rfl, List.suffix_refl _, by simp [pstAll_nil], by simpa using hst.1, hst.2⟩
      have HLO := Lib.hid hlo
      clear hst hlo hN2 hO2 hK2 hW1' hW2 HW
      go_wp2_with fail
      generalize hbl : w.heap.size = bl at *
      have HBL := Lib.hid hbl
      clear hbl
      go_loopg [] (rest0 l).length (fun k wr => Lo Z mb bl (bl + 1) (bl + 1 + 1) f l vs ps w k wr)
      case atStart => exact HLO.out
      case round =>
        obtain ⟨wo, rfl⟩ : ∃ wo : World, wo = wr := ⟨_, rfl⟩
        obtain ⟨g, r, us, qs, av, tv, pt, nv', hk, hgr, hsf, hvs, HO, HB⟩ := hrel
        obtain ⟨A2, c2, B0, R0, hc3, hc4⟩ := HB
        have HVS := Lib.hid hvs
        clear hvs
        obtain ⟨b0, b1, b2⟩ := B0.f1
        have HBX := Lib.hid B0
        cases r with
        | nil =>
          have hgg : grp l = g := by rw [← grp_rest0, hgr]; simp [grp_nil]
          have HGG := Lib.hid hgg
          clear hgg hgr hsf hk
          have HWZ : Hid (∀ b, Z b → b < w.heap.size) := Lib.hid (fun b hb => by have h1 := HZ.out b hb; have h2 := HBL.out; omega)
          have hpre1 : (vs ++ us).length ≤ 9999 := by
            refine Nat.le_trans (List.IsPrefix.length_le ?_) hN
            rw [HVS.out, ← HGG.out, pst_succ]
            split
            · exact List.prefix_refl _
            · exact List.prefix_append _ _
          have hpst : pst (f + 1) vs l = if l ∈ vs ++ us then vs ++ us else (vs ++ us) ++ [l] := by rw [pst_succ, HVS.out, HGG.out]
          have HPST := Lib.hid hpst
          clear hpst
          obtain ⟨T, hT0⟩ : ∃ T, truth (fin l) ++ nmG (vs ++ us) g = T := ⟨_, rfl⟩
          have hTn : T = nm (vs ++ us) l := by rw [← hT0]; unfold nm; rw [HGG.out]
          have hTne : T ≠ [] := by rw [← hT0]; unfold truth; cases fin l <;> simp
          have hTl : T.length ≤ 1000000 := by
            rw [← hT0, List.length_append]
            have h1 := truth_len (fin l)
            have h2 := nmG_len hpre1 g
            have h3 := grp_len l
            rw [HGG.out] at h3
            omega
          have hO := HO.O
          rw [hT0] at hO
          obtain ⟨gN, cN, hnv, hcN, hgN1, hgN2, ⟨csN, hgN3⟩, hrN⟩ := ob_row hO hTne
          subst hnv
          have hNB := HO.N
          have HTN := Lib.hid hTn
          have HTNE := Lib.hid hTne
          have HO' := Lib.hid HO
          have hmbg : mb ≠ gN := fun e => HO.M.not_cells (e ▸ hgN3)
          have hnbg : bl + 1 + 1 ≠ gN := typ_ne HO.N hgN3 (by decide)
          have hsg : bl + 1 ≠ gN := typ_ne HO.S hgN3 (by decide)
          have HC1 := Lib.hid (str_any (bl + 1 + 1) gN cN T HTNE.out (by omega) pt wo hNB hcN hrN)
          have hz : ((0 : Nat) : Int) = 0 := rfl
          simp only [List.length_nil] at b0
          clear hTn hTne hT0 hO hrN
          go_wp2_with fail
          refine HC1.out.mono ?_
          rintro e w1 ⟨rfl, hK1, hR1⟩
          have M1 := HO'.out.M.kp hK1 hmbg
          have N1 := hNB.kp hK1 hnbg
          have S1 := HO'.out.S.kp hK1 hsg
          by_cases hm : l ∈ vs ++ us
          · have hlk : (Instr.lookup 90 (.map (some mb)) (.string (bs T)) true).run Tryd.prog w1 = .ok (.tuple #[ptr ((ps ++ qs).getD ((vs ++ us).idxOf l) 0), .bool true]) w1 := by
              have h1 := M1.lookup (P := Tryd.prog) Tryd.underlying90 (z := .pointer none) (k := .string (bs T)) (Tryd.zeroValue88 w1) (fun e => check_str Tryd.underlying9 T w1 e) (find_str Tryd.underlying9 T _ _) true
              rw [HTN.out, asc_known HO'.out.H hm hu] at h1
              rw [HTN.out]
              exact h1
            have HFIN : Hid (Q (.returned (ptr ((ps ++ qs).getD ((vs ++ us).idxOf l) 0))) w1) := Lib.hid (by
              rw [← HQ.out]
              refine ⟨us, qs, rfl, by rw [HPST.out, if_pos hm], (HO'.out.H.kp hK1 (fun b _ _ _ _ e => .inr (.inr (.inr (.inr (.inr (.inr (by rw [e]; rfl)))))))).mono (fun b _ e => .inl e), M1, HO'.out.K.trans hK1 (fun _ _ e => e) (fun i hi e => by omega)⟩)
            unfold ptr at HFIN hlk
            generalize (ps ++ qs).getD ((vs ++ us).idxOf l) 0 = pk at *
            have HM := Lib.hid hm
            clear hm hNB HO
            go_wp2_with fail
            first
              | exact HFIN.out
              | (go_ret; exact HFIN.out)
          · have hlk : (Instr.lookup 90 (.map (some mb)) (.string (bs T)) true).run Tryd.prog w1 = .ok (.tuple #[.pointer none, .bool false]) w1 := by
              have h1 := M1.lookup (P := Tryd.prog) Tryd.underlying90 (z := .pointer none) (k := .string (bs T)) (Tryd.zeroValue88 w1) (fun e => check_str Tryd.underlying9 T w1 e) (find_str Tryd.underlying9 T _ _) true
              rw [HTN.out, asc_unknown HO'.out.H hm hu (by rw [HGG.out]; exact HO'.out.TV)] at h1
              rw [HTN.out]
              exact h1
            have hml : (Builtin.len_ #[90] 3 #[.map (some mb)]).run Tryd.prog w1 = .ok (.int .i64 (vs ++ us).length) w1 := by
              have h1 := M1.len (P := Tryd.prog) Tryd.underlying90 3
              rw [ents_len HO'.out.H] at h1
              exact h1
            have hTb : Tb w1 := (hT.kp HO'.out.K (fun e => hmb e.symm)).kp hK1 (by have := hT.lt; omega)
            have HM := Lib.hid hm
            obtain ⟨x0, x1, x2, x3, x4, x5⟩ : w1.cell? ⟨bl + 1, 3, none⟩ = some (.string (bs [])) ∧ w1.frozen? ⟨bl + 1, 3, none⟩ = false ∧ bl + 1 < w1.heap.size ∧ True ∧ True ∧ True := ⟨S1.cell 3, S1.frozen 3, S1.lt, trivial, trivial, trivial⟩
            clear hm hNB HO
            generalize hnn : (vs ++ us).length = nn at *
            go_wp2_with fail
            refine (itoa_any nn (by omega) _ hTb).mono ?_
            rintro e w2' ⟨rfl, hX2⟩
            have S2 := S1.ext hX2
            have N2 := N1.ext hX2
            have R2 := hR1.ext hX2
            have M2 := M1.ext hX2
            have y0 : w2'.cell? ⟨bl + 1, 3, none⟩ = some (.string (bs [])) := S2.cell 3
            obtain ⟨y1, y2⟩ : w2'.frozen? ⟨bl + 1, 3, none⟩ = false ∧ bl + 1 < w2'.heap.size := ⟨S2.frozen 3, S2.lt⟩
            have S3 := S2.set_ 3 (.string (bs (Lib.decDigits nn)))
            have N3 := N2.far (p := ⟨bl + 1, 3, none⟩) (by simp) (.string (bs (Lib.decDigits nn)))
            have K3 := Kp.of_set (S := (· = bl + 1)) w2' ⟨bl + 1, 3, none⟩ (.string (bs (Lib.decDigits nn))) rfl
            have R3 := R2.kp (by decide) K3 (fun b cs fr hb e => typ_ne hb S2 (by decide) e)
            have M3 := M2.kp K3 (fun e => M2.not_cells (e ▸ S2))
            have HC3 := Lib.hid (str_any (bl + 1 + 1) gN cN T HTNE.out (by omega) pt _ N3 hcN R3)
            have HS3 := Lib.hid S3
            clear S2 N2 R2 M2 S3 N3 R3 hlk hml
            go_wp2_with fail
            refine HC3.out.mono ?_
            rintro e w4 ⟨rfl, hK4, hR4⟩
            have M4 := M3.kp hK4 hmbg
            obtain ⟨w5, hput, M5, hK5⟩ := M4.put (P := Tryd.prog) Tryd.underlying90 (k := .string (bs T)) (v := ptr (bl + 1)) (fun e => check_str Tryd.underlying9 T w4 e) (find_str Tryd.underlying9 T _ _) (by rw [HTN.out]; exact asc_unknown HO'.out.H HM.out hu (by rw [HGG.out]; exact HO'.out.TV))
            unfold ptr at hput
            have hK5' : Kp (fun b => b = gN ∨ b = bl + 1 ∨ b = mb) wo w5 :=
              ((((hK1.trans (S := fun b => b = gN ∨ b = bl + 1 ∨ b = mb) (Kp.of_ext (S := fun _ => False) hX2) (fun _ _ e => .inl e) (fun _ _ e => e.elim)).trans (S := fun b => b = gN ∨ b = bl + 1 ∨ b = mb) K3 (fun _ _ e => e) (fun _ _ e => .inr (.inl e))).trans (S := fun b => b = gN ∨ b = bl + 1 ∨ b = mb) hK4 (fun _ _ e => e) (fun _ _ e => .inl e)).trans (S := fun b => b = gN ∨ b = bl + 1 ∨ b = mb) hK5 (fun _ _ e => e) (fun _ _ e => .inr (.inr e)))
            have S4 := HS3.out.kp hK4 hsg
            have S5 := S4.kp hK5 (fun e => M4.not_cells (e ▸ S4))
            have HFIN : Hid (Q (.returned (.pointer (some ⟨bl + 1, 0, none⟩))) w5) := Lib.hid (by
              rw [← HQ.out]
              have hln := HO'.out.H.len
              have hix : ((vs ++ us) ++ [l]).idxOf l = (vs ++ us).length := by rw [List.idxOf_append, if_neg HM.out]; simp
              refine ⟨us ++ [l], qs ++ [bl + 1], ?_, by rw [HPST.out, if_neg HM.out, List.append_assoc], ?_, ?_, HO'.out.K.trans hK5' (fun _ _ e => e) (fun i hi e => ?_)⟩
              · rw [← List.append_assoc, ← List.append_assoc, hix, hln, List.getD_eq_getElem?_getD, List.getElem?_append_right (Nat.le_refl _)]
                simp [ptr]
              · rw [← List.append_assoc, ← List.append_assoc]
                refine HO'.out.finish HGG.out rfl HWZ.out hu hne HM.out hK5' ?_
                rw [hnn]
                exact S5
              · rw [← List.append_assoc, ← List.append_assoc, ents_push HO'.out.H (by rw [HGG.out]; exact HO'.out.TV), ← HTN.out]
                exact M5
              · have h3 := HO'.out.s0
                rcases e with e | e | e
                · omega
                · omega
                · exact e)
            clear hK5' S4 S5 hK5 hK4 K3 M4 M5 M3
            go_wp2_with fail
            first
              | exact HFIN.out
              | (go_ret; exact HFIN.out)
        | cons x r =>
          obtain ⟨R, hR⟩ : ∃ R, R = x :: r := ⟨_, rfl⟩
          have hneR : ∀ u ∈ x :: r, u ≠ [] := fun u hu' => rest0_ne hu u (hsf.subset hu')
          have hlen0 : (rest0 l).length ≤ l.length := by unfold rest0; split <;> simp
          have hRl : (x :: r).length ≤ 1000 := Nat.le_trans (Nat.le_trans hsf.sublist.length_le hlen0) hl
          have hR0 : 0 < (x :: r).length := by simp
          have hgx := grp_run hneR
          cases x with
          | nil => exact absurd rfl (hneR _ (List.mem_cons_self ..))
          | cons cc t =>
            have hrk := R0.kmap HO.K hM
            obtain ⟨n, hn⟩ : ∃ n, ((cc :: t) :: r).length = n := ⟨_, rfl⟩
            have hn1 : n = r.length + 1 := by rw [← hn]; simp
            rw [hn] at B0 hrk hc3 hRl hR0 HBX b0 R0
            have HLOW : Hid (∀ ad, A2 = some ad → ad.block < w.heap.size) := Lib.hid (fun ad e => by
              obtain ⟨ad', e', h', _⟩ := R0.2 hR0
              rw [e] at e'; injection e' with e'; subst e'; exact h')
            have HRW := Lib.hid R0
            have HN1 := Lib.hid hn1
            have HNE := Lib.hid hneR
            have HGX := Lib.hid hgx
            have HHK := Lib.hid (hn.symm.trans hk)
            have hm1 : 1 ≤ run1 ((cc :: t) :: r) := run1_pos
            have hm2 : run1 ((cc :: t) :: r) ≤ n := by rw [← hn]; exact run1_le _
            have HR1 := Lib.hid (show hd (cc :: t) = cc from rfl)
            have HLR := Lib.hid hn
            clear hn1 hneR hgx hk hlen0 hn
            have hn0 : (0 : Int) < n := by omega
            have HG := Lib.hid (grpend_any bl n c2 A2 cc t r wo HNE.out B0 HN1.out (by omega) hrk)
            have HRK := Lib.hid hrk
            have HSF := Lib.hid hsf
            have HGR := Lib.hid hgr
            rw [← hR] at HG hm1 hm2 HGX HNE HRK HSF HGR HLR HRW
            generalize hm : run1 R = m at *
            clear hrk hsf hgr R0 hm
            obtain ⟨q, hq⟩ : ∃ q : Int, (if m < n then ((m : Nat) : Int) else -1) = q := ⟨_, rfl⟩
            rw [hq] at HG
            have HQ2 := Lib.hid hq
            clear hq
            go_wp2_with fail
            refine HG.out.mono ?_
            rintro e w3 ⟨rfl, hX3⟩
            go_upto_if 39 with fail
            go_cut [7] (fun v7 wx => v7 = .int .i64 m ∧ wx = w3)
            case first =>
              obtain ⟨b0', b1', b2'⟩ := (B0.ext hX3).f1
              by_cases hmn : m < n
              · have hq : q = m := by have := HQ2.out; rw [if_pos hmn] at this; exact this.symm
                subst hq
                go_wp2_with fail
                go_meet
                exact ⟨rfl, rfl⟩
              · have hq : q = -1 := by have := HQ2.out; rw [if_neg hmn] at this; exact this.symm
                subst hq
                obtain rfl : n = m := by omega
                go_wp2_with fail
                go_meet
                exact ⟨rfl, rfl⟩
            case rest =>
              obtain ⟨rfl, hwc⟩ := hcut
              subst hwc
              have HO1 := HO.ext hX3
              have B1 := B0.ext hX3
              obtain ⟨b0', b1', b2'⟩ := B1.f1
              have HRK1 := Lib.hid (HRK.out.ext hX3)
              have hm1' : (1 : Int) ≤ m := by omega
              have hm2' : (m : Int) ≤ n := by omega
              have hnc : (n : Int) ≤ c2 := by omega
              go_wp2_with fail
              go_loopw [8, 46] (fun v i wq => ∃ k : Nat, k ≤ m ∧ i = .int .i64 k ∧ Ow wc.heap.size ((R.take k).map List.tail) v wq ∧ Ext wc wq) (fun _ i _ => 1000001 - (intOf i).toNat)
              case atStart => exact ⟨0, by omega, rfl, World.ownsRow_nil _ _ _ _, Ext.refl _⟩
              case round =>
                obtain ⟨k, hkm, rfl, hW, hX4⟩ := hrel
                by_cases hkm2 : k < m
                · have hkm' : (k : Int) < m := by omega
                  have hkl : k < R.length := by have := HLR.out; omega
                  obtain ⟨ad2, e1, hab2, hc5⟩ := (HRK1.out.ext hX4).one (i := k) (by omega) (sv_at R k hkl)
                  subst e1
                  have HTS := Lib.hid (take_snoc R k hkl)
                  have hy := HNE.out _ (List.getElem_mem hkl)
                  generalize R[k] = y at *
                  have hkt : (R.take k).length = k := by rw [List.length_take]; omega
                  generalize hP : (R.take k).map List.tail = P at *
                  have hPl : P.length = k := by rw [← hP, List.length_map]; exact hkt
                  cases y with
                  | nil => exact absurd rfl hy
                  | cons d u =>
                    have HP := Lib.hid (show (R.take (k + 1)).map List.tail = P ++ [u] by rw [HTS.out, List.map_append, hP]; rfl)
                    clear hkt hP hy HTS
                    have s1 : (1 : Int) ≤ (d :: u).length := by simp only [List.length_cons]; omega
                    go_wp2_with (at_builtin; apply halt_here)
                    apply go_on
                    refine wp_app_str rfl _ _ rfl _ _ _ rfl (own_alloc_w hW _) _ _ _ [u] 9 rfl rfl (Rd.newAt wr _ rfl 9 1 1 _ (0, 0) _ (by simp [sv, bs_extract]) rfl) (by have := hX4.le; simp; omega) (by simp; omega) ?_
                    intro v' w8 hO2 _ _ hbb
                    have hX5 : Ext wc w8 := ((show Below wc.heap.size wc wr from hX4).alloc hX4.le _).trans hbb
                    clear hbb hW hX4
                    go_wp2
                    exact ⟨⟨k + 1, by omega, by go_num, by rw [HP.out]; exact hO2, hX5⟩, by simp only [intOf]; omega⟩
                · have hkm' : ¬ (k : Int) < m := by omega
                  obtain rfl : m = k := by omega
                  obtain ⟨A3, c3, hv8, R3, hc5, hc6⟩ := Ow.rd hW
                  subst hv8
                  generalize hlr : (R.take m).map List.tail = lr at *
                  have hgl : grp l = g ++ ((cc, lr) :: grp (R.drop m)) := by rw [← grp_rest0, HGR.out, HGX.out, HR1.out]
                  have hin : (cc, lr) ∈ grp l := by rw [hgl]; simp
                  have hs2 := hs.grp hu _ hin
                  have hu2 := up_grp hu _ hin
                  have hne2 := grp_ne _ hin
                  have hlr1 : lr.length ≤ 1000 := by rw [← hlr, List.length_map, List.length_take]; have := HLR.out; omega
                  have hlr2 : ∀ u ∈ lr, u.length ≤ 1000 := fun u hu' => by
                    have e5 := (grp_up hu).2.1 _ hin
                    simp only at e5
                    rw [e5] at hu'
                    have := hul _ (mem_aft.1 hu')
                    simp at this
                    omega
                  have hpre : pst f (vs ++ us) lr <+: pst (f + 1) vs l := by
                    have h1 : pstAll f vs (g ++ [(cc, lr)]) = pst f (vs ++ us) lr := by rw [pstAll_snoc, HVS.out]
                    have h2 : pstAll f vs (grp l) = pstAll f (pstAll f vs (g ++ [(cc, lr)])) (grp (R.drop m)) := by rw [hgl]; unfold pstAll; simp [List.foldl_append]
                    rw [h1] at h2
                    have h3 : pst f (vs ++ us) lr <+: pstAll f vs (grp l) := by rw [h2]; exact pstAll_pre _ _ _
                    rw [pst_succ]
                    split
                    · exact h3
                    · exact h3.trans (List.prefix_append _ _)
                  have hN2 := Nat.le_trans hpre.length_le hN
                  have HN2 := Lib.hid hN2
                  have HO2 := HO1.ext hX4
                  have hT2 : Tb wr := hT.kp HO2.K (fun e => hmb e.symm)
                  have HCALL := Lib.hid (HIH.out _ lr (vs ++ us) (ps ++ qs) A3 c3 wr hs2 hu2 hne2 hlr1 hlr2 hN2 R3 hc5 hc6 hT2 hmb HO2.M HO2.H HO2.ZB)
                  have HGL := Lib.hid hgl
                  have HLR2 := Lib.hid (And.intro hs2 (And.intro hu2 hne2))
                  have B2 := B1.ext hX4
                  have HRK2 := Lib.hid (HRK1.out.ext hX4)
                  clear hs2 hu2 hne2 hlr1 hlr2 hpre hN2 hgl hin hW R3 hlr b0' b1' b2' HO HO1 B1 HRK1 HG
                  go_wp2_with fail
                  refine HCALL.out.mono ?_
                  rintro e w5 ⟨us2, qs2, he, hvs2, hS5, hM5, hK5⟩
                  have HO5 := HO2.rec_ hK5 hS5 hM5
                  have B5 := B2.kp hK5 (fun e => HO2.M.not_cells (e ▸ B2))
                  have hrk5 := HRK2.out.kmap hK5 HO2.M
                  have hm5 : lr ∈ vs ++ us ++ us2 := by rw [hvs2]; exact pst_mem _ HLR2.out.1 HLR2.out.2.2
                  have hvs5 : vs ++ us ++ us2 = pstAll f vs (g ++ [(cc, lr)]) := by rw [hvs2, pstAll_snoc, HVS.out]
                  obtain ⟨ad2, e2, hab2, hrow⟩ := hrk5.one (i := 0) hR0 (u0 := .string (bs (cc :: t))) (by rw [hR]; rfl)
                  have e3 : ad2.add 0 = ad2 := by unfold Addr.add; simp
                  rw [e3] at hab2 hrow
                  subst e2
                  have HRK5 := Lib.hid hrk5
                  have HM5 := Lib.hid hm5
                  have HVS5 := Lib.hid hvs5
                  have HLEN := Lib.hid (show (vs ++ us ++ us2).length ≤ 9999 by rw [hvs2]; exact HN2.out)
                  have HUQ := Lib.hid (show ∃ us' qs', vs ++ us ++ us2 = vs ++ us' ∧ ps ++ qs ++ qs2 = ps ++ qs' from ⟨us ++ us2, qs ++ qs2, by rw [List.append_assoc], by rw [List.append_assoc]⟩)
                  generalize vs ++ us ++ us2 = vs5 at *
                  generalize ps ++ qs ++ qs2 = ps5 at *
                  obtain ⟨p5, hp5⟩ : ∃ p5, ps5.getD (vs5.idxOf lr) 0 = p5 := ⟨_, rfl⟩
                  rw [hp5] at he
                  subst he
                  have HP5 := Lib.hid hp5
                  unfold ptr
                  obtain ⟨Aa, ca, hav, _, _, _⟩ := own_form HO5.A
                  subst hav
                  obtain ⟨At, ct, htv, _, _, _⟩ := own_form HO5.T
                  subst htv
                  obtain ⟨An, cn, hnv, _, _, _⟩ := own_form HO5.O
                  subst hnv
                  clear hp5 hvs2 hM5 hS5 hvs5 hm5 hrk5 e3 HCALL HO2 B2 HRK2 hT2 HVS b0 HBX B0 HRK b1 b2
                  generalize hgn : g.length = gn at *
                  have HGN := Lib.hid hgn
                  clear hgn
                  have S5 := HO5.S
                  have hA5 := HO5.A
                  have hlt5 : w.heap.size ≤ w5.heap.size := HO5.K.size
                  have hgl5 : gn ≤ 1000 := by
                    rw [← HGN.out]
                    have h1 := grp_len l
                    have h2 : g.length ≤ (grp l).length := by rw [HGL.out, List.length_append]; omega
                    omega
                  go_wp2_with fail
                  have HC : Hid (∀ W : World, (W.heap[bl + 1]? = w5.drew.heap[bl + 1]? ∧ W.heap[bl]? = w5.drew.heap[bl]? ∧ W.heap[ad2.block]? = w5.drew.heap[ad2.block]?) → W.cell? ⟨bl + 1, 1, none⟩ = some (.slice Aa gn ca) ∧ W.cell? ⟨bl, 0, none⟩ = some (.slice (some ad2) n c2) ∧ W.cell? ad2 = some (.string (bs (cc :: t)))) :=
                    Lib.hid (fun W hW => ⟨(World.cell?_of_block (a := ⟨bl + 1, 1, none⟩) hW.1).trans (S5.cell 1), (World.cell?_of_block (a := ⟨bl, 0, none⟩) hW.2.1).trans (B5.cell 0), (World.cell?_of_block hW.2.2).trans hrow⟩)
                  have g2 : (bs (cc :: t))[0]'(by rw [bs_size]; simp) = cc := rfl
                  have s2 : 0 < (bs (cc :: t)).size := by rw [bs_size]; simp
                  have HAB := Lib.hid hab2
                  clear hab2
                  refine wp_region_chain2 (by kernel_rfl) 13 (fun a b => b.heap[bl + 1]? = a.heap[bl + 1]? ∧ b.heap[bl]? = a.heap[bl]? ∧ b.heap[ad2.block]? = a.heap[ad2.block]?) [9, 10] (by kernel_rfl) (by kernel_rfl) (fun _ _ d _ _ h => by cases d <;> exact h) (fun _ => ⟨rfl, rfl, rfl⟩) (fun _ _ _ h k => ⟨k.1.trans h.1, k.2.1.trans h.2.1, k.2.2.trans h.2.2⟩) ?_
                  simp only [List.take_succ_cons, List.take_zero, List.take_nil, List.drop_succ_cons, List.drop_zero, List.drop_nil]
                  iterate 9
                    refine ch_pure (a' := ?_) rfl rfl ?_ (fun w9 hE hH => pureAt_plain rfl ?_) ?_ ?_
                    rotate_left 2
                    · clear hH; obtain ⟨z0, z1, z2⟩ := HC.out w9 hE; (go_simp; try go_bits); rfl
                    · go_simp; rfl
                  refine ch_op rfl rfl (opAt_plain rfl ?_)
                  go_simp
                  have hHa := (HO5.ext (Ext.alloc w5 (Obj.cells #[.int .u8 cc.toNat] 5))).ext Ext.drew
                  refine ⟨⟨Below.heap_alloc w5 _ _ S5.lt, Below.heap_alloc w5 _ _ B5.lt, Below.heap_alloc w5 _ _ HAB.out⟩, ?_⟩
                  obtain ⟨i0, hi0, hz0, hz1, hz2⟩ := info_parts u8_info
                  refine ch_op rfl rfl (opAt_plain rfl ?_)
                  obtain ⟨v', w6, hrun, hA6, hg6, hq6⟩ := run_app (P := Tryd.prog) (w5.alloc (Obj.cells #[.int .u8 cc.toNat] 5)).drew w.heap.size 23 23 5 i0 _ 1 1 Tryd.underlying23 hi0 hz0 hz1 hz2 rfl (by decide) _ gn _ (by have := hHa.A; rw [HGN.out] at this; exact this) 5 (some ⟨w5.heap.size, 0, none⟩) 1 1 [.int .u8 cc.toNat] (Rd.newAt w5 _ rfl 5 1 1 #[.int .u8 cc.toNat] (0, 0) _ rfl rfl).drew (by simp [Value.oneCell']) (by simp only [maxLen]; omega) (by omega) (by show w.heap.size ≤ (w5.alloc _).heap.size; simp; omega)
                  have hSa := hHa.S
                  have hBa := (B5.alloc (Obj.cells #[.int .u8 cc.toNat] 5)).drew
                  have hne1 : some (bl + 1) ≠ (Value.slice Aa gn ca).ownBlock := fun e => own_ne hA5 S5 (by decide) e.symm
                  have hne2 : some bl ≠ (Value.slice Aa gn ca).ownBlock := fun e => own_ne hA5 B5 (by decide) e.symm
                  have hne3 : some ad2.block ≠ (Value.slice Aa gn ca).ownBlock := fun e => by
                    have h1 := (own_typ hA5 e.symm).2.1
                    have h2 := HLOW.out ad2 rfl
                    omega
                  have H6 := hHa.arc_put (cc, lr) (v' := v') (w6 := w6) (by rw [HGN.out]; exact hA6) hg6 hq6
                  have B6 : Blk (w6.setCell ⟨bl + 1, 1, none⟩ v') bl 25 #[.slice (some ad2) n c2] := (hBa.grown hg6 (fun e => hne2 e.symm)).far (by simp) v'
                  have S6 := hSa.grown hg6 (fun e => hne1 e.symm)
                  obtain ⟨u0, u1, u2, u3⟩ : w6.cell? ⟨bl + 1, 1, none⟩ = some (.slice Aa gn ca) ∧ w6.frozen? ⟨bl + 1, 1, none⟩ = false ∧ bl + 1 < w6.heap.size ∧ w6.cell? ⟨bl + 1, 2, none⟩ = some (.slice At gn ct) := ⟨S6.cell 1, S6.frozen 1, S6.lt, S6.cell 2⟩
                  refine opVal_append rfl _ _ 23 rfl _ _ rfl rfl hrun ⟨⟨S6.trans hSa.symm, (hBa.grown hg6 (fun e => hne2 e.symm)).trans hBa.symm, hg6.block _ (by show _ < (w5.alloc _).heap.size; have := HAB.out; simp; omega) hne3⟩, ?_⟩
                  obtain ⟨Ab, cb, hvb, _, _, _⟩ := own_form hA6
                  subst hvb
                  have HH6 := Lib.hid H6
                  have HB6 := Lib.hid B6
                  clear hHa H6 B6 hA6 hg6 hq6 hSa hBa S6
                  go_simp
                  iterate 2
                    refine ch_pure (a' := ?_) rfl rfl ?_ (fun w9 hE hH => pureAt_plain rfl ?_) ?_ ?_
                    rotate_left 2
                    · clear hH; (go_simp; try go_bits); rfl
                    · go_simp; rfl
                  refine ch_end ?_
                  go_wp2_with (at_builtin; apply halt_here)
                  apply go_on
                  generalize hw7 : w6.setCell ⟨bl + 1, 1, none⟩ (.slice Ab (gn + 1) cb) = w7 at *
                  have H7a := HH6.out.ext (Ext.alloc w7 (Obj.cells #[.pointer (some ⟨p5, 0, none⟩)] 88))
                  have B7a := HB6.out.alloc (Obj.cells #[.pointer (some ⟨p5, 0, none⟩)] 88)
                  have hlt7 : w.heap.size ≤ w7.heap.size := HH6.out.K.size
                  have hne5 : some bl ≠ (Value.slice At gn ct).ownBlock := fun e => own_ne H7a.T B7a (by decide) e.symm
                  obtain ⟨i1, hi1, hy0, hy1, hy2⟩ := info_parts shp_info
                  refine wpList_app rfl _ _ 131 rfl w.heap.size 88 i1 _ 1 8 Tryd.underlying131 hi1 hy0 hy1 hy2 rfl (by decide) _ gn _ rfl (by have := H7a.T; rw [HGN.out] at this; exact this) 88 (some ⟨w6.heap.size, 0, none⟩) 1 1 [ptr p5] rfl (Rd.newAt w7 _ (by rw [← hw7]; simp) 88 1 1 #[ptr p5] (0, 0) _ rfl rfl) (by simp [Value.oneCell', ptr]) (by simp only [maxLen]; omega) (by omega) (by simp; omega) ?_
                  intro v8 w8 hA8 hg8 hq8 _
                  have H8 := H7a.to_put (cc, lr) HM5.out (v' := v8) (w6 := w8) (by rw [HGN.out]; simp only; rw [HP5.out]; exact hA8) hg8 hq8
                  have S8 := H7a.S.grown hg8 (own_ne H7a.T H7a.S (by decide))
                  have B8 : Blk (w8.setCell ⟨bl + 1, 2, none⟩ v8) bl 25 #[.slice (some ad2) n c2] := (B7a.grown hg8 (fun e => hne5 e.symm)).far (by simp) v8
                  have u4 : w8.cell? ⟨bl + 1, 2, none⟩ = some (.slice At gn ct) := S8.cell 2
                  have u5 := S8.frozen 2
                  have u6 := S8.lt
                  obtain ⟨Ac, cd, hvc, _, _, _⟩ := own_form hA8
                  subst hvc
                  have HH8 := Lib.hid H8
                  have HB8 := Lib.hid B8
                  clear H7a B7a hA8 hg8 hq8 S8 H8 B8 hw7 u0 u1 u2 u3 HH6 HB6
                  go_wp2_with fail
                  generalize hw9 : w8.setCell ⟨bl + 1, 2, none⟩ (.slice Ac (gn + 1) cd) = w9 at *
                  have hk9 := HRW.out.kmap HH8.out.K hM
                  obtain ⟨ad3, e4, hab3, hrow3⟩ := hk9.one (i := 0) hR0 (u0 := .string (bs (cc :: t))) (by rw [hR]; rfl)
                  injection e4 with e4
                  subst e4
                  have e5 : ad2.add 0 = ad2 := by unfold Addr.add; simp
                  rw [e5] at hab3 hrow3
                  have hsh := HH8.out.H.at_ HM5.out
                  rw [HP5.out] at hsh
                  obtain ⟨Xa, xa, Xb, xb, X5, _⟩ := hsh.ex
                  generalize hdg : Lib.decDigits (vs5.idxOf lr) = dg at *
                  have HDG := Lib.hid hdg
                  have hdl : dg.length ≤ 4 := by rw [← hdg]; exact dec_len4 HLEN.out lr
                  have hdl2 : ¬ (9223372036854775807 < 2 + dg.length) := by omega
                  clear u4 u5 u6 e5 hk9 hdg hsh hw9
                  have HC9 : Hid (∀ W : World, W = w9.drew → W.cell? ⟨bl, 0, none⟩ = some (.slice (some ad2) n c2) ∧ W.cell? ad2 = some (.string (bs (cc :: t))) ∧ W.cell? ⟨p5, 3, none⟩ = some (.string (bs dg))) :=
                    Lib.hid (fun W hW => by subst hW; exact ⟨HB8.out.cell 0, hrow3, X5.cell 3⟩)
                  have s3 : (1 : Int) ≤ (t.length : Int) + 1 := by omega
                  refine wp_region_list2 (by kernel_rfl) 10 (fun a b => b = a) [] (by kernel_rfl) (fun _ _ d _ _ h => by cases d <;> exact h) rfl (fun _ => rfl) (fun _ _ _ h k => k.trans h) trivial ?_
                  simp only [List.take_succ_cons, List.take_zero, List.take_nil, List.drop_succ_cons, List.drop_zero, List.drop_nil]
                  iterate 10
                    refine ph_pure (a' := ?_) rfl rfl ?_ (fun w10 hE hG => pureAt_plain rfl ?_) ?_ ?_
                    rotate_left 2
                    · clear hG; obtain ⟨z0, z1, z2⟩ := HC9.out w10 hE; clear hE; (go_simp; try go_bits); rfl
                    · go_simp; rfl
                  refine ph_end (fun w10 hE hG => ?_)
                  subst hE
                  clear hG HC9
                  go_wp2_with fail
                  have hstr : ({ data := #[32] } ++ bs [cc] ++ bs dg : ByteArray) = bs ([32, cc] ++ dg) := by
                    rw [show ({ data := #[32] } : ByteArray) = bs [32] from rfl, bs_append, bs_append]; rfl
                  rw [hstr]
                  clear hstr
                  have H9 := HH8.out.ext (Ext.drew (w := w9))
                  have B9 := HB8.out.drew
                  have hnl : (truth (fin l) ++ nmG vs5 g).length ≤ 6005 := by
                    rw [List.length_append]
                    have h1 := truth_len (fin l)
                    have h2 := nmG_len HLEN.out g
                    have h3 := HGN.out
                    omega
                  have hne6 : some bl ≠ (Value.slice An (truth (fin l) ++ nmG vs5 g).length cn).ownBlock := fun e => own_ne H9.O B9 (by decide) e.symm
                  refine (wstr_any w.heap.size (bl + 1 + 1) pt _ (truth (fin l) ++ nmG vs5 g) ([32, cc] ++ dg) w9.drew H9.P H9.N H9.O H9.K.size (by simp only [List.length_append, List.length_cons, List.length_nil] at hnl ⊢; omega)).mono ?_
                  rintro e w11 ⟨rfl, nv2, hN11, hO11, hK11, hG11⟩
                  have hgv : ∀ a ∈ g ++ [(cc, lr)], a.2 ∈ vs5 := fun a ha => by
                    rcases List.mem_append.1 ha with ha | ha
                    · exact H9.OV a ha
                    · rw [List.mem_singleton.1 ha]; exact HM5.out
                  have H11 := H9.piece (g ++ [(cc, lr)]) hgv (.inr rfl) hN11 (by rw [nmG_snoc, ← List.append_assoc, HDG.out]; exact hO11) hK11 hG11
                  have B11 := B9.kp hK11 (by rintro (e | e); omega; exact hne6 e)
                  have HH11 := Lib.hid H11
                  have HB11 := Lib.hid B11
                  obtain ⟨y0, y1, y2⟩ := B11.f1
                  have HCUT := Lib.hid (HRW.out.cut (i := m) hm2 hc3)
                  have hfin : Hid (∀ A' c', Rd w 0 1 A' (n - m) ((sv R).drop (m * 1)) → n - m ≤ c' → c' ≤ maxLen → Lo Z mb bl (bl + 1) (bl + 1 + 1) f l vs ps w (n - m) (w11.setCell ⟨bl, 0, none⟩ (.slice A' (n - m) c'))) := Lib.hid (fun A' c' hrd h1 h2 => by
                    obtain ⟨us', qs', e1, e2⟩ := HUQ.out
                    have hdl : (R.drop m).length = n - m := by rw [List.length_drop, HLR.out]
                    refine ⟨g ++ [(cc, lr)], R.drop m, us', qs', _, _, _, _, hdl, by rw [HGR.out, HGX.out, HR1.out]; simp, (List.drop_suffix m R).trans HSF.out, by rw [← e1]; exact HVS5.out, by rw [← e1, ← e2]; exact H11.box B11 _, A', c', ?_, ?_, by rw [hdl]; exact h1, h2⟩
                    · rw [hdl]; exact B11.set_ 0 _
                    · rw [hdl, ← sv_drop]
                      have : m * 1 = m := by omega
                      rw [this] at hrd
                      exact hrd)
                  have hnm : n - m < gk := by have := HHK.out; omega
                  clear hN11 hO11 hK11 hG11 H11 B11 H9 B9 HH8 HB8 hne6 X5 hrow3 hab3
                  by_cases hcm : c2 = m
                  · have hf2 : Hid (Lo Z mb bl (bl + 1) (bl + 1 + 1) f l vs ps w (n - m) (w11.setCell ⟨bl, 0, none⟩ (.slice (some ad2) (n - m) 0))) := Lib.hid (hfin.out (some ad2) 0 (by have := HCUT.out; rw [if_pos hcm] at this; exact this) (by omega) (by omega))
                    go_wp2_with fail
                    all_goals (first | contradiction | skip)
                    all_goals go_roundg (n - m)
                    case rel => exact hf2.out
                    case measure => omega
                  · have hf2 : Hid (Lo Z mb bl (bl + 1) (bl + 1 + 1) f l vs ps w (n - m) (w11.setCell ⟨bl, 0, none⟩ (.slice (some (ad2.add m)) (n - m) (c2 - m)))) := Lib.hid (hfin.out (some (ad2.add m)) (c2 - m) (by have := HCUT.out; rw [if_neg hcm] at this; simpa using this) (by omega) (by omega))
                    go_wp2_with fail
                    all_goals (first | contradiction | skip)
                    all_goals go_roundg (n - m)
                    case rel => exact hf2.out
                    case measure => omega
end Go.Proofs.YtmmihcophkipoaaDoor
