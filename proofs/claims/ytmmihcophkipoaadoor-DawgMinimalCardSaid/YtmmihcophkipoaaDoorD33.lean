/-
  Valid and Words: the loops over the program's walk.
-/
import Derived.Test.YtmmihcophkipoaaDoorD32
import Derived.Maps.OwnIn
namespace Go.Proofs.YtmmihcophkipoaaDoor
open Go.ChangeShapes Go.WideShapes Go.ChangeAt Go.RowKit Go.Shelf
set_option linter.unusedVariables false
set_option linter.unusedSimpArgs false
attribute [local go_sem] Oper.semAt_some
attribute [local go_sem] bs_beq bs_bne bs_less bs_size bs_extract
theorem walkall_any (x : Nat) (w : World) : Calls Tryd.prog 52 #[.pointer (some ⟨x, 0, none⟩)] w fun e w' => e = .returned (.func (.func 81) #[] #[.pointer (some ⟨w.heap.size, 0, none⟩)]) ∧ w' = w.alloc (.cells #[.pointer (some ⟨x, 0, none⟩)] 97) := by
  go_enter Tryd.func52, Tryd.ntmps52
  go_wp2
  go_ret
  exact ⟨rfl, rfl⟩
theorem all1_any (d : Au) (hdl : d.length ≤ 1000000) (hal : ∀ x ∈ d, x.2.length ≤ 1000000) (w0 : World) (A : Option Addr) (c x bx Lr D : Nat) (hd : Dw w0 A d) (hx : w0.heap.size ≤ x) (rec : Loop) (hY : HY w0 A d.length c x bx Lr D rec) (m q : Nat) (w : World)
    (hW : WkS w0 A d.length c x bx Lr D rec 5000 [] w) (hq : Blk w q 97 #[.pointer (some ⟨x, 0, none⟩)]) :
    CallsIn Fence.wide m Tryd.prog 81 #[.func (.yield Lr) #[] #[], .pointer (some ⟨q, 0, none⟩)] w fun e w' => e = .returned (.tuple #[]) ∧ ∃ e2, WkPost w0 A d.length c x bx Lr D rec (wk d 22 (5000, []) 0 []) e2 w' := by
  rw [callsIn_wide]
  obtain ⟨q0, q1, q2⟩ := hq.f1
  have HC := Lib.hid (callsIn_wide.1 (words_any d hdl hal w0 A c x bx Lr D hd hx rec hY 22 0 0 [] 5000 [] w (by simp) (by simp) (by simp) hW))
  obtain ⟨R, hR⟩ : ∃ R, wk d 22 (5000, []) 0 [] = R := ⟨_, rfl⟩
  rw [hR] at HC ⊢
  clear hW hR
  go_enter Tryd.func81, Tryd.ntmps81
  go_wp2_with fail
  refine HC.out.mono ?_
  intro e w1 h
  cases R with
  | none =>
    obtain ⟨rfl, h⟩ := h
    have HP := Lib.hid h
    clear h
    go_wp2
    go_end0
    exact ⟨rfl, _, rfl, HP.out⟩
  | some s =>
    obtain ⟨rfl, h⟩ := h
    have HP := Lib.hid h
    clear h
    go_wp2
    go_end0
    exact ⟨rfl, _, rfl, HP.out⟩
/-- what is known behind the loop -/
def WkEnd (w0 : World) (A : Option Addr) (dl c x bx D : Nat) (r : Option (Nat × List W)) (W : World) : Prop :=
  W.heap[D]? = some (.deferred (some [])) ∧ Ext w0 W ∧ match r with
  | some s => Blk W x 99 #[.slice A dl c, .int .i64 s.1, .bool false] ∧ ∃ ov, Blk W bx 25 #[ov] ∧ Ow w0.heap.size s.2 ov W
  | none => ∃ l' : Int, Blk W x 99 #[.slice A dl c, .int .i64 l', .bool true]
theorem kp_putObj {w : World} (l : Nat) (o : Obj) : Kp (· = l) w (w.putObj l o) := ⟨rfl, rfl, rfl, by simp, fun i hi hs => World.putObj_heap_other hs⟩
theorem WkS.putRec {w0 : World} {A : Option Addr} {dl c x bx Lr D : Nat} {rec : Loop} {left : Nat} {out : List W} {W : World} (hl : w0.heap.size ≤ Lr) (h : WkS w0 A dl c x bx Lr D rec left out W) (rec' : Loop) : WkS w0 A dl c x bx Lr D rec' left out (W.putObj Lr (.loop rec')) := by
  obtain ⟨ov, b1, b2⟩ := h.B
  have k := kp_putObj (w := W) Lr (.loop rec')
  have hnc : ∀ (b : Nat) cs t fr, W.heap[b]? = some (.cells cs t fr) → ¬ (b = Lr) := fun b cs t fr hb e => by subst e; rw [h.L] at hb; cases hb
  have hlt := (Array.getElem?_eq_some_iff.1 h.L).1
  refine ⟨h.X.kp k (hnc _ _ _ _ h.X), ⟨ov, b1.kp k (hnc _ _ _ _ b1), own_kp b2 k fun g hg => ?_⟩, World.putObj_heap_same hlt, (World.putObj_heap_other (fun e => ?_)).trans h.Dd, ⟨k.os.trans h.E.os, k.tape.trans h.E.tape, k.output.trans h.E.output, Nat.le_trans h.E.size k.size, fun i hi => (World.putObj_heap_other (by omega)).trans (h.E.block i hi)⟩⟩
  · obtain ⟨cs, hc⟩ := own_cells b2 hg.symm
    exact hnc _ _ _ _ hc
  · have h1 := h.Dd
    rw [e, h.L] at h1
    cases h1
theorem walk_loop {Q : Exit → Act → World → Prop} {a : Act} {w w0 : World} {m : Nat} {g : Operand} {p : Tmp} {assign body : Code} (d : Au) (hdl : d.length ≤ 1000000) (hal : ∀ x ∈ d, x.2.length ≤ 1000000) (A : Option Addr) (c x bx q : Nat) (hd : Dw w0 A d)
    (hg : a.eval g = .func (.func 81) #[] #[.pointer (some ⟨q, 0, none⟩)]) (hx : w0.heap.size ≤ x) (hb : w0.heap.size ≤ bx) (hE : Ext w0 w) (X : Blk w x 99 #[.slice A d.length c, .int .i64 5000, .bool false]) (B : Blk w bx 25 #[.slice none 0 0]) (hq : Blk w q 97 #[.pointer (some ⟨x, 0, none⟩)])
    (a₁ : W → Act)
    (hassign : ∀ (l : Nat) (u : W) (W : World) (K : Act → World → Prop) (m : Nat), K (a₁ u) W → assign.wpIn (Fence.wide.inRound l) m Tryd.prog (Exit.then K (fun _ _ _ => False)) { tmps := a.tmps.setIfInBounds p (.string (bs u)), defers := [] } W)
    (hbody : ∀ (l : Nat) (u : W) (out : List W) (ov : Value) (W : World) (m : Nat), Blk W bx 25 #[ov] → Ow w0.heap.size out ov W → w0.heap.size ≤ W.heap.size → out.length ≤ 5000 →
      body.wpIn (Fence.wide.inRound l) m Tryd.prog (fun e _ W' => e = .normal ∧ ∃ ov', Blk W' bx 25 #[ov'] ∧ Ow w0.heap.size (out ++ [u]) ov' W' ∧ Kp (fun k => k = bx ∨ some k = ov.ownBlock) W W') (a₁ u) W)
    (hdone : ∀ (D : Nat) (W : World), w.heap.size ≤ D → WkEnd w0 A d.length c x bx D (wk d 22 (5000, []) 0 []) W → Q .normal { a with defers := { target := .collected D, args := #[] } :: a.defers } W) :
    (Code.rangeFunc g #[p] assign body).wpIn Fence.wide m Tryd.prog Q a w := by
  refine wpIn_rangeFunc ?_
  intro fn hfn
  rw [show Fence.wide.round = none from rfl]
  obtain ⟨rec, hrec⟩ : ∃ rec : LoopState → Option Code → Loop, rec = fun st pe => { state := st, pending := pe, fn, tmps := a.tmps, params := #[p], assign, body, defers := w.heap.size } := ⟨_, rfl⟩
  obtain ⟨W1, hW1⟩ : ∃ W1, (w.alloc (.deferred (some []))).alloc (.loop (rec .ready none)) = W1 := ⟨_, rfl⟩
  have hL1 : W1.heap[w.heap.size + 1]? = some (.loop (rec .ready none)) := by
    rw [← hW1]; have := World.alloc_heap_new (w.alloc (.deferred (some []))) (.loop (rec .ready none)); rwa [World.size_alloc] at this
  have hK1 : W1.heap[w.heap.size]? = some (.deferred (some [])) := by
    rw [← hW1]; exact (Below.heap_alloc _ _ _ (by simp)).trans (World.alloc_heap_new w _)
  have hE1 : Ext w W1 := by rw [← hW1]; exact (Ext.alloc _ _).trans (Ext.alloc _ _)
  have hS1 : WkS w0 A d.length c x bx (w.heap.size + 1) w.heap.size (rec .ready none) 5000 [] W1 := ⟨X.ext hE1, ⟨_, B.ext hE1, World.ownsRow_nil _ _ _ _⟩, hL1, hK1, hE.trans hE1⟩
  have hY : HY w0 A d.length c x bx (w.heap.size + 1) w.heap.size (rec .ready none) := by
    intro m left out u W hS hol hul
    have hl0 : w0.heap.size ≤ w.heap.size + 1 := Nat.le_trans hE.le (by omega)
    have hy : (Instr.yield (w.heap.size + 1) #[.string (bs u)]).run Tryd.prog W = .ok (.round (w.heap.size + 1) fn (a.tmps.setIfInBounds p (.string (bs u))) assign body) W := by
      have h0 := run_yield (P := Tryd.prog) (args := #[.string (bs u)]) hS.L (by rw [hrec]; rfl)
      rw [hrec] at h0
      rw [h0]
      simp
    refine ⟨fn, _, assign, body, hy, roundIn_of_wpIn trivial (hassign _ u W _ m ?_)⟩
    refine ⟨_, run_beginRound hS.L (by rw [hrec]), ?_⟩
    have hS2 := hS.putRec hl0 { rec .ready none with state := .busy }
    obtain ⟨ov, b1, b2⟩ := hS2.B
    refine wpIn_mono (hbody _ u out ov _ m b1 b2 (Nat.le_trans hS2.E.le (Nat.le_refl _)) hol) ?_
    rintro e a3 W3 ⟨rfl, ov', b3, b4, k3⟩
    have hnc : ∀ (b : Nat) (o : Obj), (W.putObj (w.heap.size + 1) (.loop { rec .ready none with state := .busy })).heap[b]? = some o → o.isCells = false → ¬ (b = bx ∨ some b = ov.ownBlock) := fun b o hb ho e => by
      rcases e with e | e
      · rw [e] at hb
        have h9 := Option.some.inj (hb.symm.trans b1)
        rw [h9] at ho; cases ho
      · obtain ⟨cs, hc⟩ := own_cells b2 e
        rw [hc] at hb; injection hb with hb; subst hb; cases ho
    have hL3 := (k3.block _ (Array.getElem?_eq_some_iff.1 hS2.L).1 (hnc _ _ hS2.L rfl)).trans hS2.L
    have hD3 := (k3.block _ (Array.getElem?_eq_some_iff.1 hS2.Dd).1 (hnc _ _ hS2.Dd rfl)).trans hS2.Dd
    have hX3 := hS2.X.kp k3 (by
      rintro (e | e)
      · exact typ_ne hS2.X b1 (by decide) e
      · obtain ⟨cs, hc⟩ := own_cells b2 e
        exact typ_ne hS2.X hc (by decide) rfl)
    have hE3 : Ext w0 W3 := ⟨k3.os.trans hS2.E.os, k3.tape.trans hS2.E.tape, k3.output.trans hS2.E.output, Nat.le_trans hS2.E.le k3.size, fun i hi => (k3.block i (Nat.lt_of_lt_of_le hi hS2.E.le) (by
      rintro (e | e)
      · omega
      · have := (own_typ b2 e.symm).2.1; omega)).trans (hS2.E.block i hi)⟩
    have hS3 : WkS w0 A d.length c x bx (w.heap.size + 1) w.heap.size { rec .ready none with state := .busy } left (out ++ [u]) W3 := ⟨hX3, ⟨ov', b3, b4⟩, hL3, hD3, hE3⟩
    refine ⟨_, _, run_endRound none hL3, rfl, ?_⟩
    have h4 := hS3.putRec hl0 (rec .ready none)
    rw [hrec] at h4 ⊢
    exact h4
  refine ⟨w.heap.size + 1, [{ target := .collected w.heap.size, args := #[] }], W1, { target := .fn (.func 81) #[.pointer (some ⟨q, 0, none⟩)], args := #[.func (.yield (w.heap.size + 1)) #[] #[]] }, W1, 81,
    #[.func (.yield (w.heap.size + 1)) #[] #[]] ++ #[.pointer (some ⟨q, 0, none⟩)], W1, ?_, ?_, ?_, ?_, wide_any _, ?_⟩
  · rw [← hW1, hrec]; exact run_enterLoop_outer _ _ _ _ _
  · simp only [resolve, hg]
    simp [go_sem]
  · intro f' hf'; trivial
  · simp [invoke, go_sem, enters_of Tryd.func81 (by kernel_rfl) rfl]
  · refine (all1_any d hdl hal w0 A c x bx (w.heap.size + 1) w.heap.size hd hx (rec .ready none) hY (m - 1) q W1 hS1 (hq.ext hE1)).mono ?_
    rintro e W2 ⟨rfl, e2, hP⟩
    have hl0 : w0.heap.size ≤ w.heap.size + 1 := Nat.le_trans hE.le (by omega)
    have key : W2.heap[w.heap.size + 1]? = some (.loop (rec .ready none)) ∧ WkEnd w0 A d.length c x bx w.heap.size (wk d 22 (5000, []) 0 []) (W2.putObj (w.heap.size + 1) (.loop { rec .ready none with state := .exhausted })) := by
      unfold WkEnd
      cases hr : wk d 22 (5000, []) 0 [] with
      | none =>
        rw [hr] at hP
        obtain ⟨_, ⟨l', hX⟩, hL, hD, hE2⟩ := hP
        refine ⟨hL, (World.putObj_heap_other (by omega)).trans hD, ⟨hE2.os, hE2.tape, hE2.output, Nat.le_trans hE2.size (by simp), fun i hi => (World.putObj_heap_other (by omega)).trans (hE2.block i hi)⟩, l', ?_⟩
        exact (World.putObj_heap_other (fun e => by rw [e] at hX; unfold Blk at hX; rw [hL] at hX; cases hX)).trans hX
      | some s =>
        rw [hr] at hP
        obtain ⟨_, hS⟩ := hP
        have h5 := hS.putRec hl0 { rec .ready none with state := .exhausted }
        exact ⟨hS.L, h5.Dd, h5.E, h5.X, h5.B⟩
    refine ⟨none, _, ?_, hdone w.heap.size _ (Nat.le_refl _) key.2⟩
    have h6 := run_endLoop (P := Tryd.prog) key.1 (by rw [hrec]; simp)
    rw [hrec] at h6 ⊢
    exact h6
def progV (d : Au) : Bool := match wk d 22 (5000, []) 0 [] with
  | none => false
  | some s => dict s.2 && decide (d = auto s.2)
theorem progV_none {d : Au} (h : wk d 22 (5000, []) 0 [] = none) : progV d = false := by unfold progV; rw [h]
theorem progV_some {d : Au} {s : Nat × List W} (h : wk d 22 (5000, []) 0 [] = some s) : progV d = (dict s.2 && decide (d = auto s.2)) := by unfold progV; rw [h]
theorem ext_putObj {w W : World} {D : Nat} (hE : Ext w W) (hD : w.heap.size ≤ D) (o : Obj) : Ext w (W.putObj D o) :=
  ⟨(kp_putObj (w := W) D o).os.trans hE.os, (kp_putObj (w := W) D o).tape.trans hE.tape, (kp_putObj (w := W) D o).output.trans hE.output, Nat.le_trans hE.le (by simp), fun i hi => (World.putObj_heap_other (by omega)).trans (hE.block i hi)⟩
set_option maxHeartbeats 1000000 in
set_option maxRecDepth 100000 in
theorem pvalid_any (d : Au) (hdl : d.length ≤ 1000000) (hal : ∀ x ∈ d, x.2.length ≤ 1000000) (w : World) (A : Option Addr) (c : Nat) (hd : Dw w A d) (hT : Tb w) :
    Calls Tryd.prog 23 #[.slice A d.length c] w fun e w' => e = .returned (.bool (progV d)) ∧ Ext w w' := by
  obtain ⟨R, hR⟩ : ∃ R, progV d = R := ⟨_, rfl⟩
  rw [hR]
  have HR := Lib.hid hR
  clear hR
  rw [← callsIn_wide (n := 9)]
  refine callsIn_of_wp_marks Tryd.func23 rfl trivial ?_ rfl
  simp only [Tryd.ntmps23, List.size_toArray, List.length_cons, List.length_nil, Nat.reduceAdd, Nat.reduceSub, Array.replicate_succ, Array.replicate_zero, List.push_toArray, List.append_toArray, List.nil_append, List.cons_append]
  refine wpIn_wide.2 ?_
  go_wp2_with fail
  refine (walkall_any _ _).mono ?_
  rintro e w1 ⟨rfl, rfl⟩
  go_wp2_with fail
  refine (wpIn_wide (n := 9)).1 ?_
  have hE1 : Ext w (((w.alloc (Obj.cells #[.slice A d.length c, .int .i64 5000, .bool false] 99)).alloc (Obj.cells #[.slice none 0 0] 25)).alloc (Obj.cells #[.pointer (some ⟨w.heap.size, 0, none⟩)] 97)) := ((Ext.alloc _ _).trans (Ext.alloc _ _)).trans (Ext.alloc _ _)
  refine walk_loop (w0 := w) d hdl hal A c w.heap.size (w.heap.size + 1) (w.heap.size + 1 + 1) hd rfl (Nat.le_refl _) (by omega) hE1 (((Blk.new w 99 _).alloc _).alloc _) ((Blk.newAt _ _ (by simp) 25 _).alloc _) (Blk.newAt _ _ (by simp) 97 _) ?a1 ?assign ?body ?done
  case assign =>
    intro l u W K m hK
    gi_wp2
    exact hK
  case body =>
    intro l u out ov W m hB hO hle hol
    obtain ⟨b0, b1, b2⟩ := hB.f1
    obtain ⟨i0, hi0, hz0, hz1, hz2⟩ := info_parts str_info
    have hbl : w.heap.size + 1 < W.heap.size := b2
    gi_wp2_with (gi_at_builtin; apply halt_here)
    apply go_on
    refine wpListIn_append_own_at _ rfl _ _ 25 rfl w.heap.size 9 i0 _ 1 16 Tryd.underlying25 hi0 hz0 hz1 hz2 rfl (by decide) ov out.length (sv out) rfl (own_alloc hO _) ⟨W.heap.size, 0, none⟩ 1 1 [.string (bs u)] rfl rfl (fun j u' hu => by
      obtain ⟨ad', e1, _, hc⟩ := (Rd.newAt W _ rfl 9 1 1 #[.string (bs u)] (0, 0) _ rfl rfl).cells (by omega)
      injection e1 with e1
      subst e1
      exact hc j u' hu) (by simp [Value.oneCell']) (by simp only [maxLen]; omega) (by omega) (by simp; omega) ?_
    intro v' W2 hO2 hg2 _ hq2
    have hB2 := (hB.alloc (Obj.cells #[.string (bs u)] 9)).grown hg2 (own_ne (own_alloc hO (Obj.cells #[.string (bs u)] 9)) (hB.alloc (Obj.cells #[.string (bs u)] 9)) (by decide))
    obtain ⟨A2, c2, hv2, _, _, _⟩ := own_form hO2
    subst hv2
    obtain ⟨d0, d1, d2⟩ := hB2.f1
    have HFIN : Hid (∃ ov', Blk (W2.setCell ⟨w.heap.size + 1, 0, none⟩ (.slice A2 (out.length + 1) c2)) (w.heap.size + 1) 25 #[ov'] ∧ Ow w.heap.size (out ++ [u]) ov' (W2.setCell ⟨w.heap.size + 1, 0, none⟩ (.slice A2 (out.length + 1) c2)) ∧ Kp (fun k => k = w.heap.size + 1 ∨ some k = ov.ownBlock) W (W2.setCell ⟨w.heap.size + 1, 0, none⟩ (.slice A2 (out.length + 1) c2))) := Lib.hid (by
      refine ⟨_, hB2.set_ 0 _, ?_, ?_⟩
      · unfold Ow
        rw [List.length_append, sv_append]
        exact own_far hO2 (own_ne hO2 hB2 (by decide))
      · exact ((Kp.of_ext (S := fun _ => False) (Ext.alloc W (Obj.cells #[.string (bs u)] 9))).trans (S := fun k => k = w.heap.size + 1 ∨ some k = ov.ownBlock) (Kp.of_grown (S := fun k => some k = ov.ownBlock) hg2 fun i e => e) (fun _ _ e => e.elim) (fun _ _ e => .inr e)).trans (Kp.of_set (S := (· = w.heap.size + 1)) W2 ⟨w.heap.size + 1, 0, none⟩ _ rfl) (fun _ _ e => e) (fun _ _ e => .inl e))
    clear hO2 hg2 hq2 hB2 hO hB b0 b1
    gi_wp2
    exact HFIN.out
  case done =>
    intro D W hD hEnd
    obtain ⟨hDD, hEE, hM⟩ := hEnd
    have hD2 : w.heap.size ≤ D := by simp at hD; omega
    cases hr : wk d 22 (5000, []) 0 [] with
    | none =>
      rw [hr] at hM
      obtain ⟨l', hX⟩ := hM
      obtain ⟨x0, x1, x2, x3, x4⟩ := hX.f3
      obtain rfl : R = false := by rw [← HR.out, progV_none hr]
      clear hr
      go_wp2_with fail
      refine ⟨by simp, .inl ⟨_, _, rfl, run_takeDeferred hDD, ?_⟩⟩
      exact ⟨_, results_tmp rfl _ _ _, rfl, ext_putObj hEE hD2 _⟩
    | some s =>
      rw [hr] at hM
      obtain ⟨hX, ov, hB, hO⟩ := hM
      obtain ⟨x0, x1, x2, x3, x4⟩ := hX.f3
      obtain ⟨b0, b1, b2⟩ := hB.f1
      have HRR := Lib.hid (show (dict s.2 && decide (d = auto s.2)) = R by rw [← progV_some hr]; exact HR.out)
      have hshort : ∀ u ∈ s.2, u.length ≤ 20 := by
        have h1 := ls_short d 22 (5000, []) 0 [] (fun u h => by cases h)
        rw [(wk_ls d 22 (5000, []) 0 []).1 s hr] at h1
        exact h1
      have hlen : s.2.length ≤ 5000 := by
        have := wk_le d 22 (5000, []) 0 [] s hr
        simp at this
        omega
      obtain ⟨A1, c1, hv, r1, h1, h2⟩ := own_form hO
      subst hv
      have HDD := Lib.hid hDD
      clear hr hDD HR hO hB hX
      obtain ⟨lft, sl⟩ := s
      simp only at *
      cases hdi : dict sl with
      | false =>
        rw [hdi] at HRR
        obtain rfl : R = false := by rw [← HRR.out]; rfl
        go_wp2_with fail
        refine (build_no A1 c1 sl _ hdi r1.untyped (by omega) (fun u hu => by have := hshort u hu; simp only [maxLen]; omega)).mono ?_
        rintro e w5 ⟨rfl, hX5⟩
        have hDD5 := (hX5.block _ (Array.getElem?_eq_some_iff.1 HDD.out).1).trans HDD.out
        go_wp2_with fail
        refine ⟨by simp, .inl ⟨_, _, rfl, run_takeDeferred hDD5, ?_⟩⟩
        exact ⟨_, results_tmp rfl _ _ _, rfl, ext_putObj (hEE.trans hX5) hD2 _⟩
      | true =>
        rw [hdi] at HRR
        have hRR : decide (d = auto sl) = R := by rw [← HRR.out]; rfl
        have HR2 := Lib.hid hRR
        clear hRR
        go_wp2_with fail
        refine (build_yes A1 c1 sl _ hdi r1.untyped h1 h2 (hT.ext hEE)).mono ?_
        rintro e w5 ⟨A5, c5, rfl, _, _, D5, hX5⟩
        have hDD5 := (hX5.block _ (Array.getElem?_eq_some_iff.1 HDD.out).1).trans HDD.out
        have HDD5 := Lib.hid hDD5
        clear hDD5
        go_wp2_with fail
        refine (equal_any A A5 c c5 d (auto sl) _ ((hd.ext hEE).ext hX5) D5 hdl hal).mono ?_
        rintro e w6 ⟨rfl, hX6⟩
        rw [HR2.out]
        have hDD6 := (hX6.block _ (Array.getElem?_eq_some_iff.1 HDD5.out).1).trans HDD5.out
        have HDD6 := Lib.hid hDD6
        clear hDD6
        go_wp2_with fail
        refine ⟨by simp, .inl ⟨_, _, rfl, run_takeDeferred HDD6.out, ?_⟩⟩
        exact ⟨_, results_tmp rfl _ _ _, rfl, ext_putObj ((hEE.trans hX5).trans hX6) hD2 _⟩
end Go.Proofs.YtmmihcophkipoaaDoor
