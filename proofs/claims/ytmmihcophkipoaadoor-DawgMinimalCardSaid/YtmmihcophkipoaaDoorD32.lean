/-
  The program's walk through an automaton: a round of a loop over its words for each word.
-/
import Derived.Test.YtmmihcophkipoaaDoorD31
import Derived.RangeFuncFrom
import Derived.RangeFuncBound
import Derived.RangeFuncLeaves
import Derived.RangeFuncCalls
import Derived.Shelf.Abstract
import Derived.Shelf.RegionOpen
import Derived.OwnWalkIn
import Derived.TacticsInMore
import Derived.LoopNIn
import Derived.LoopIn
namespace Go.Proofs.YtmmihcophkipoaaDoor
open Go.ChangeShapes Go.WideShapes Go.ChangeAt Go.RowKit Go.Shelf
set_option linter.unusedVariables false
set_option linter.unusedSimpArgs false
attribute [local go_sem] Oper.semAt_some
attribute [local go_sem] bs_beq bs_bne bs_less bs_size bs_extract
/-- the walk: none where it goes wrong -/
def wk (d : Au) : Nat → Nat × List W → Int → W → Option (Nat × List W)
  | 0, _, _, _ => none
  | f + 1, s, n, w => if s.1 = 0 ∨ n < 0 ∨ (d.length : Int) ≤ n ∨ 20 < w.length then none else
    (arcsOf d n.toNat).foldl (fun s a => s.bind fun s => wk d f s a.2 (w ++ [a.1])) (some (s.1 - 1, if (d.getD n.toNat (false, [])).1 = true then s.2 ++ [w] else s.2))
def wkAll (d : Au) (f : Nat) (w : W) (l : List (UInt8 × Int)) (s : Option (Nat × List W)) : Option (Nat × List W) := l.foldl (fun s a => s.bind fun s => wk d f s a.2 (w ++ [a.1])) s
theorem wkAll_none (d : Au) (f : Nat) (w : W) (l : List (UInt8 × Int)) : wkAll d f w l none = none := by
  induction l with
  | nil => rfl
  | cons a l ih => exact ih
theorem wkAll_snoc (d : Au) (f : Nat) (w : W) (l : List (UInt8 × Int)) (a : UInt8 × Int) (s : Option (Nat × List W)) : wkAll d f w (l ++ [a]) s = (wkAll d f w l s).bind fun s => wk d f s a.2 (w ++ [a.1]) := by
  unfold wkAll; rw [List.foldl_append]; rfl
theorem wkAll_app (d : Au) (f : Nat) (w : W) (l m : List (UInt8 × Int)) (s : Option (Nat × List W)) : wkAll d f w (l ++ m) s = wkAll d f w m (wkAll d f w l s) := by
  unfold wkAll; rw [List.foldl_append]
theorem wk_succ (d : Au) (f : Nat) (s : Nat × List W) (n : Int) (w : W) (h : ¬ (s.1 = 0 ∨ n < 0 ∨ (d.length : Int) ≤ n ∨ 20 < w.length)) :
    wk d (f + 1) s n w = wkAll d f w (arcsOf d n.toNat) (some (s.1 - 1, if (d.getD n.toNat (false, [])).1 = true then s.2 ++ [w] else s.2)) := by
  rw [wk, if_neg h]; rfl
theorem wk_stop (d : Au) (f : Nat) (s : Nat × List W) (n : Int) (w : W) (h : s.1 = 0 ∨ n < 0 ∨ (d.length : Int) ≤ n ∨ 20 < w.length) : wk d (f + 1) s n w = none := by rw [wk, if_pos h]
theorem wk_le (d : Au) : ∀ (f : Nat) (s : Nat × List W) (n : Int) (w : W) (r : Nat × List W), wk d f s n w = some r → r.1 + r.2.length ≤ s.1 + s.2.length := by
  intro f
  induction f with
  | zero => intro s n w r h; cases h
  | succ f ih =>
    intro s n w r h
    by_cases hst : s.1 = 0 ∨ n < 0 ∨ (d.length : Int) ≤ n ∨ 20 < w.length
    · rw [wk_stop _ _ _ _ _ hst] at h; cases h
    · rw [wk_succ _ _ _ _ _ hst] at h
      have key : ∀ (l : List (UInt8 × Int)) (s r : Nat × List W), wkAll d f w l (some s) = some r → r.1 + r.2.length ≤ s.1 + s.2.length := by
        intro l
        induction l with
        | nil => intro s r h; injection h with h; rw [h]; exact Nat.le_refl _
        | cons a l ihl =>
          intro s r h
          change wkAll d f w l (wk d f s a.2 (w ++ [a.1])) = some r at h
          cases hw : wk d f s a.2 (w ++ [a.1]) with
          | none => rw [hw, wkAll_none] at h; cases h
          | some t =>
            rw [hw] at h
            have h1 := ih _ _ _ _ hw
            have h2 := ihl _ _ h
            omega
      have h3 := key _ _ _ h
      have h4 : s.1 ≠ 0 := fun e => hst (.inl e)
      split at h3 <;> simp at h3 <;> omega
theorem wk_ls (d : Au) : ∀ (f : Nat) (s : Nat × List W) (n : Int) (w : W), (∀ r, wk d f s n w = some r → ls d f s n w = r) ∧ (wk d f s n w = none → (ls d f s n w).1 = 0) := by
  intro f
  induction f with
  | zero => intro s n w; exact ⟨(fun r h => by cases h), fun _ => rfl⟩
  | succ f ih =>
    intro s n w
    by_cases hst : s.1 = 0 ∨ n < 0 ∨ (d.length : Int) ≤ n ∨ 20 < w.length
    · rw [wk_stop _ _ _ _ _ hst]
      refine ⟨(fun r h => by cases h), fun _ => ?_⟩
      unfold ls
      rw [if_pos hst]
    · rw [wk_succ _ _ _ _ _ hst]
      have e : ls d (f + 1) s n w = (arcsOf d n.toNat).foldl (fun s a => ls d f s a.2 (w ++ [a.1])) (s.1 - 1, if (d.getD n.toNat (false, [])).1 = true then s.2 ++ [w] else s.2) := by
        rw [ls, if_neg hst]
      rw [e]
      generalize (s.1 - 1, if (d.getD n.toNat (false, [])).1 = true then s.2 ++ [w] else s.2) = s
      generalize arcsOf d n.toNat = l
      induction l generalizing s with
      | nil => exact ⟨(fun r h => by injection h), (fun h => by cases h)⟩
      | cons a l ihl =>
        change (∀ r, wkAll d f w l (wk d f s a.2 (w ++ [a.1])) = some r → _) ∧ (wkAll d f w l (wk d f s a.2 (w ++ [a.1])) = none → _)
        rw [List.foldl_cons]
        cases hw : wk d f s a.2 (w ++ [a.1]) with
        | some t =>
          rw [(ih s a.2 (w ++ [a.1])).1 t hw]
          exact ihl t
        | none =>
          refine ⟨(fun r h => by rw [wkAll_none] at h; cases h), fun _ => ?_⟩
          have h0 := (ih s a.2 (w ++ [a.1])).2 hw
          generalize ls d f s a.2 (w ++ [a.1]) = q at *
          obtain ⟨n0, o0⟩ := q
          obtain rfl : n0 = 0 := h0
          rw [ls_fold_zero]
theorem wkAll_drop (d : Au) (f : Nat) (w : W) (l : List (UInt8 × Int)) (j : Nat) (h : j < l.length) (s : Nat × List W) : wkAll d f w (l.drop j) (some s) = wkAll d f w (l.drop (j + 1)) (wk d f s l[j].2 (w ++ [l[j].1])) := by
  rw [List.drop_eq_getElem_cons h]; rfl
structure WkS (w0 : World) (A : Option Addr) (dl c x bx Lr D : Nat) (rec : Loop) (left : Nat) (out : List W) (W : World) : Prop where
  X : Blk W x 99 #[.slice A dl c, .int .i64 left, .bool false]
  B : ∃ ov, Blk W bx 25 #[ov] ∧ Ow w0.heap.size out ov W
  L : W.heap[Lr]? = some (.loop rec)
  Dd : W.heap[D]? = some (.deferred (some []))
  E : Ext w0 W
theorem WkS.ext {w0 : World} {A : Option Addr} {dl c x bx Lr D : Nat} {rec : Loop} {left : Nat} {out : List W} {W W' : World} (h : WkS w0 A dl c x bx Lr D rec left out W) (hE : Ext W W') : WkS w0 A dl c x bx Lr D rec left out W' := by
  obtain ⟨ov, b1, b2⟩ := h.B
  exact ⟨h.X.ext hE, ⟨ov, b1.ext hE, own_ext b2 hE⟩, (hE.block _ (Array.getElem?_eq_some_iff.1 h.L).1).trans h.L, (hE.block _ (Array.getElem?_eq_some_iff.1 h.Dd).1).trans h.Dd, h.E.trans hE⟩
theorem WkS.step {w0 : World} {A : Option Addr} {dl c x bx Lr D : Nat} {rec : Loop} {left : Nat} {out : List W} {W : World} (hx : w0.heap.size ≤ x) (h : WkS w0 A dl c x bx Lr D rec left out W) (l2 : Nat) : WkS w0 A dl c x bx Lr D rec l2 out (W.setCell ⟨x, 1, none⟩ (.int .i64 l2)) := by
  obtain ⟨ov, b1, b2⟩ := h.B
  have k := Below.heap_setCell W ⟨x, 1, none⟩ (.int .i64 l2)
  refine ⟨h.X.set_ 1 _, ⟨ov, b1.far (show bx ≠ x from typ_ne b1 h.X (by decide)) _, own_far b2 (own_ne b2 h.X (by decide))⟩, (k Lr (fun e => ?_)).trans h.L, (k D (fun e => ?_)).trans h.Dd, h.E.setCell (p := ⟨x, 1, none⟩) hx _⟩
  · have := h.L; rw [e, h.X] at this; cases this
  · have := h.Dd; rw [e, h.X] at this; cases this
def WkBad (w0 : World) (A : Option Addr) (dl c x Lr D : Nat) (rec : Loop) (W : World) : Prop :=
  (∃ l' : Int, Blk W x 99 #[.slice A dl c, .int .i64 l', .bool true]) ∧ W.heap[Lr]? = some (.loop rec) ∧ W.heap[D]? = some (.deferred (some [])) ∧ Ext w0 W
def WkPost (w0 : World) (A : Option Addr) (dl c x bx Lr D : Nat) (rec : Loop) (r : Option (Nat × List W)) (e : Ending) (W : World) : Prop := match r with
  | some s => e = .returned (.bool true) ∧ WkS w0 A dl c x bx Lr D rec s.1 s.2 W
  | none => e = .returned (.bool false) ∧ WkBad w0 A dl c x Lr D rec W
theorem wide_any (k : Nat) : Fence.wide.depth.isSome = true → 1 ≤ k := fun h => by simp [Fence.wide] at h
theorem round_any {m m' : Nat} {P : Program} {l : Nat} {f : FuncId} {tmps : Array Value} {assign body : Code} {w : World} {R : Ending → World → Prop} (h : RoundIn Fence.wide m P l f tmps assign body w R) : RoundIn Fence.wide m' P l f tmps assign body w R := ⟨h.1, fun c cs _ => h.2 c cs (room_wide _)⟩
def HY (w0 : World) (A : Option Addr) (dl c x bx Lr D : Nat) (rec : Loop) : Prop := ∀ (m left : Nat) (out : List W) (u : W) (W : World), WkS w0 A dl c x bx Lr D rec left out W → out.length ≤ 5000 → u.length ≤ 20 →
  YieldAt Fence.wide m Tryd.prog Lr #[.string (bs u)] W fun e W' => e = .returned (.bool true) ∧ WkS w0 A dl c x bx Lr D rec left (out ++ [u]) W'
set_option maxHeartbeats 4000000 in
set_option maxRecDepth 100000 in
theorem words_stop (d : Au) (hdl : d.length ≤ 1000000) (w0 : World) (A : Option Addr) (c x bx Lr D : Nat) (hx : w0.heap.size ≤ x) (rec : Loop) (m : Nat) (n : Int) (s : W) (hsl : s.length ≤ 1000000) (left : Nat) (hll : left ≤ 5000) (out : List W) (w : World)
    (hW : WkS w0 A d.length c x bx Lr D rec left out w) (hstop : left = 0 ∨ n < 0 ∨ (d.length : Int) ≤ n ∨ 20 < s.length) :
    CallsIn Fence.wide m Tryd.prog 82 #[.pointer (some ⟨x, 0, none⟩), .int .i64 n, .string (bs s), .func (.yield Lr) #[] #[]] w (WkPost w0 A d.length c x bx Lr D rec none) := by
  rw [callsIn_wide]
  obtain ⟨x0, x1, x2, x3, x4⟩ := hW.X.f3
  have hnl : ∀ (b : Nat) cs t fr, w.heap[b]? = some (.cells cs t fr) → b ≠ Lr ∧ b ≠ D := fun b cs t fr hb => ⟨(fun e => by subst e; rw [hW.L] at hb; cases hb), (fun e => by subst e; rw [hW.Dd] at hb; cases hb)⟩
  have hxl := hnl x _ _ _ hW.X
  have HP : Hid (∀ l' : Int, WkPost w0 A d.length c x bx Lr D rec none (.returned (.bool false)) (w.setCell ⟨x, 2, none⟩ (.bool true))) := Lib.hid (fun _ =>
    ⟨rfl, ⟨_, hW.X.set_ 2 (.bool true)⟩, (Below.heap_setCell w ⟨x, 2, none⟩ _ Lr (fun e => hxl.1 e.symm)).trans hW.L, (Below.heap_setCell w ⟨x, 2, none⟩ _ D (fun e => hxl.2 e.symm)).trans hW.Dd, hW.E.setCell (p := ⟨x, 2, none⟩) hx _⟩)
  clear hW hnl hxl
  by_cases h1 : left = 0
  · subst h1
    clear hstop
    go_enter Tryd.func82, Tryd.ntmps82
    go_wp2
    go_ret
    exact HP.out 0
  · have hl : (left : Int) ≠ 0 := by omega
    have d1 : decide ((left : Int) = 0) = false := decide_eq_false hl
    by_cases h2 : n < 0
    · have d2 : decide (n < 0) = true := by simp [h2]
      clear hstop
      go_enter Tryd.func82, Tryd.ntmps82
      go_wp2
      go_ret
      exact HP.out 0
    · have d2 : decide (n < 0) = false := by simp [h2]
      by_cases h3 : (d.length : Int) ≤ n
      · have d3 : decide ((d.length : Int) ≤ n) = true := by simp [h3]
        clear hstop
        go_enter Tryd.func82, Tryd.ntmps82
        go_wp2
        go_ret
        exact HP.out 0
      · have d3 : decide ((d.length : Int) ≤ n) = false := by simp [h3]
        have h4 : 20 < s.length := by rcases hstop with h | h | h | h; exact absurd h h1; exact absurd h h2; exact absurd h h3; exact h
        have d4 : decide ((20 : Int) < (s.length : Int)) = true := by simp; omega
        clear hstop
        go_enter Tryd.func82, Tryd.ntmps82
        go_wp2
        go_ret
        exact HP.out 0
set_option maxHeartbeats 4000000 in
set_option maxRecDepth 100000 in
theorem words_any (d : Au) (hdl : d.length ≤ 1000000) (hal : ∀ x ∈ d, x.2.length ≤ 1000000) (w0 : World) (A : Option Addr) (c x bx Lr D : Nat) (hd : Dw w0 A d) (hx : w0.heap.size ≤ x) (rec : Loop) (hY : HY w0 A d.length c x bx Lr D rec) :
    ∀ (f m : Nat) (n : Int) (s : W) (left : Nat) (out : List W) (w : World), 22 ≤ f + s.length → s.length ≤ 21 → left + out.length ≤ 5000 → WkS w0 A d.length c x bx Lr D rec left out w →
      CallsIn Fence.wide m Tryd.prog 82 #[.pointer (some ⟨x, 0, none⟩), .int .i64 n, .string (bs s), .func (.yield Lr) #[] #[]] w (WkPost w0 A d.length c x bx Lr D rec (wk d f (left, out) n s)) := by
  intro f
  induction f with
  | zero => intro m n s left out w h1 h2; omega
  | succ f ih =>
    intro m n s left out w hf hsl hlo hW
    by_cases hst : left = 0 ∨ n < 0 ∨ (d.length : Int) ≤ n ∨ 20 < s.length
    · rw [wk_stop _ _ _ _ _ hst]
      exact words_stop d hdl w0 A c x bx Lr D hx rec m n s (by omega) left (by omega) out w hW hst
    · rw [wk_succ _ _ _ _ _ hst]
      have HIH := Lib.hid ih
      have HYH := Lib.hid hY
      clear ih hY
      have g1 : left ≠ 0 := fun e => hst (.inl e)
      have g2 : ¬ n < 0 := fun e => hst (.inr (.inl e))
      have g3 : ¬ (d.length : Int) ≤ n := fun e => hst (.inr (.inr (.inl e)))
      have g4 : ¬ 20 < s.length := fun e => hst (.inr (.inr (.inr e)))
      obtain ⟨N, rfl⟩ : ∃ N : Nat, n = N := ⟨n.toNat, by omega⟩
      have hN : N < d.length := by omega
      obtain ⟨L, rfl⟩ : ∃ L, left = L + 1 := ⟨left - 1, by omega⟩
      rw [show ((N : Int)).toNat = N from rfl]
      have hdg : d.getD N (false, []) = d[N] := by simp [hN]
      have hao := arcsOf_at hN
      rw [hdg, hao]
      obtain ⟨ad, a, ca, e1, hab, hc0, hc1, hra, _, _⟩ := (hd.ext hW.E).at_ hN
      subst e1
      obtain ⟨aa, cc, HDW⟩ : ∃ aa cc, Hid (∀ W, Ext w0 W → W.cell? ⟨(ad.add (N * 2)).block, (ad.add (N * 2)).off + 1, none⟩ = some (.slice aa d[N].2.length cc) ∧ Rd W 0 2 aa d[N].2.length (acells d[N].2) ∧ (ad.add (N * 2)).block < W.heap.size) := by
        obtain ⟨ad', a', ca', e', hb', k0, k1, k2, _, _⟩ := hd.at_ hN
        injection e' with e'
        subst e'
        exact ⟨a', ca', Lib.hid fun W hE => ⟨cell_ext (p := ⟨(ad.add (N * 2)).block, (ad.add (N * 2)).off + 1, none⟩) hE hb' k1, k2.ext hE, Nat.lt_of_lt_of_le hb' hE.le⟩⟩
      have hal2 := hal _ (List.getElem_mem hN)
      generalize d[N] = nd at *
      obtain ⟨fl, l⟩ := nd
      simp only at hc0 hc1 hra hal2 HDW ⊢
      obtain ⟨R, hR⟩ : ∃ R, wkAll d f s l (some (L + 1 - 1, if fl = true then out ++ [s] else out)) = R := ⟨_, rfl⟩
      rw [hR]
      have HR := Lib.hid hR
      obtain ⟨Q, hQ⟩ : ∃ Q, WkPost w0 (some ad) d.length c x bx Lr D rec R = Q := ⟨_, rfl⟩
      rw [hQ]
      have HQ := Lib.hid hQ
      obtain ⟨x0, x1, x2, x3, x4⟩ := hW.X.f3
      have habx : (ad.add (N * 2)).block ≠ x := by
        have h1 := hd
        obtain ⟨ad', _, _, e', hb', _⟩ := h1.at_ hN
        injection e' with e'
        subst e'
        omega
      have h3' : (N : Int) < d.length := by omega
      have d1 : ((L : Int) + 1 == 0) = false := beq_eq_false_iff_ne.2 (by omega)
      have d2 : decide ((N : Int) < 0) = false := decide_eq_false (by omega)
      have d3 : decide (d.length ≤ N) = false := decide_eq_false (by omega)
      have d4 : decide ((20 : Int) < (s.length : Int)) = false := decide_eq_false (by omega)
      have hq : ((L + 1 : Nat) : Int) - 1 = L := by omega
      have W1 := hW.step hx L
      have hg0 := (World.cell?_of_block (a := ad.add (N * 2)) (Below.heap_setCell w ⟨x, 1, none⟩ (.int .i64 L) _ habx)).trans hc0
      have HW1 := Lib.hid W1
      have hW5 := hW.E
      clear W1 hd hra hc1 hW hW5 hR hQ hst hdg hao
      rw [callsIn_wide]
      go_enter Tryd.func82, Tryd.ntmps82
      go_upto_region 5 with fail
      have hxf : w.heap.size = (w.setCell ⟨x, 1, none⟩ (.int .i64 L)).heap.size := by simp
      rw [hxf] at hab x4
      clear x0 x1 x2 x3 hc0 hxf
      generalize w.setCell ⟨x, 1, none⟩ (.int .i64 L) = w1 at *
      obtain ⟨x0, x1, x2, x3, _⟩ := HW1.out.X.f3
      go_cut [57] (fun b wx => b = .bool false ∧ WkS w0 (some ad) d.length c x bx Lr D rec L (if fl = true then out ++ [s] else out) wx)
      case first =>
        cases fl with
        | false =>
          go_wp2_with fail
          go_meet
          exact ⟨rfl, HW1.out⟩
        | true =>
          obtain ⟨fn, tmps, assign, body, hy, hR⟩ := HYH.out 0 L out s _ HW1.out (by omega) (by omega)
          refine (wpIn_wide (n := 1)).1 ?_
          gi_wp2
          refine (round_any hR).mono ?_
          rintro e W' ⟨rfl, hS⟩
          gi_wp2
          go_meet
          exact ⟨rfl, hS⟩
      case rest =>
        obtain ⟨rfl, hWc⟩ := hcut
        obtain ⟨y0, y1, y2, y3, y4⟩ := hWc.X.f3
        obtain ⟨k1, k2, k3⟩ := HDW.out wc hWc.E
        have hlo2 : L + (if fl = true then out ++ [s] else out).length ≤ 5000 := by
          split
          · simp; omega
          · omega
        have HWC := Lib.hid hWc
        clear hWc x0 x1 x2 x3 hg0 d1 d2 d3 d4 hq
        go_wp2_with fail
        go_loopw [67] (fun iv wr => ∃ (j lf : Nat) (out' : List W), j ≤ l.length ∧ iv = .int .i64 j ∧ wkAll d f s (l.drop j) (some (lf, out')) = R ∧ lf + out'.length ≤ 5000 ∧ WkS w0 (some ad) d.length c x bx Lr D rec lf out' wr) (fun iv _ => 1000001 - (intOf iv).toNat)
        case atStart => exact ⟨0, L, _, by omega, rfl, HR.out, hlo2, HWC.out⟩
        case round =>
          obtain ⟨j, lf, out', hj, rfl, hfold, hlf, hS⟩ := hrel
          have HF := Lib.hid hfold
          clear hfold
          by_cases hjl : j < l.length
          · have hjl' : (j : Int) < l.length := by omega
            obtain ⟨k4, k5, k6⟩ := HDW.out wr hS.E
            obtain ⟨q0, q1⟩ := acells_at l j hjl
            obtain ⟨pa, e1, pb, c0, c1⟩ := k5.twob hjl q0 q1
            subst e1
            have HD := Lib.hid (wkAll_drop d f s l j hjl (lf, out'))
            clear q0 q1
            generalize l[j] = q at *
            have hs1 : ¬ 9223372036854775807 < s.length + 1 := by omega
            have hE2 : Ext wr ((wr.alloc (Obj.cells #[.int .u8 q.1.toNat, .int .i64 q.2] 49)).alloc (Obj.cells #[.int .u8 q.1.toNat] 5)) := (Ext.alloc _ _).trans (Ext.alloc _ _)
            have hcv : (convert 23 9 (.slice (some ⟨wr.heap.size + 1, 0, none⟩) 1 1)).run Tryd.prog ((wr.alloc (Obj.cells #[.int .u8 q.1.toNat, .int .i64 q.2] 49)).alloc (Obj.cells #[.int .u8 q.1.toNat] 5)) = .ok (.string (bs [q.1])) ((wr.alloc (Obj.cells #[.int .u8 q.1.toNat, .int .i64 q.2] 49)).alloc (Obj.cells #[.int .u8 q.1.toNat] 5)) :=
              conv_bytes 1 [q.1] (Rd.newAt _ _ (by simp) 5 1 1 #[.int .u8 q.1.toNat] (0, 0) _ rfl rfl)
            go_wp2_with fail
            have hstr : (bs s ++ bs [q.1] : ByteArray) = bs (s ++ [q.1]) := bs_append _ _
            rw [hstr]
            clear hstr hcv
            refine (callsIn_wide.1 (HIH.out 0 q.2 (s ++ [q.1]) lf out' _ (by simp; omega) (by simp; omega) hlf (hS.ext hE2))).mono ?_
            obtain ⟨r1, hr1⟩ : ∃ r1, wk d f (lf, out') q.2 (s ++ [q.1]) = r1 := ⟨_, rfl⟩
            have HR1 := Lib.hid hr1
            have hle := fun r (e : wk d f (lf, out') q.2 (s ++ [q.1]) = some r) => wk_le d f (lf, out') q.2 (s ++ [q.1]) r e
            rw [hr1] at hle ⊢
            have HLE := Lib.hid hle
            clear hr1 hle hS
            cases r1 with
            | none =>
              rintro e W' ⟨rfl, hB⟩
              have hRR : R = none := by rw [← HF.out, HD.out, HR1.out, wkAll_none]
              have HFIN : Hid (Q (.returned (.bool false)) W') := Lib.hid (by rw [← HQ.out, hRR]; exact ⟨rfl, hB⟩)
              clear hB hRR
              go_wp2
              first
                | exact HFIN.out
                | (go_ret; exact HFIN.out)
            | some r1 =>
              rintro e W' ⟨rfl, hB⟩
              obtain ⟨l3, o3⟩ := r1
              have h4 := HLE.out _ rfl
              simp only at h4 hB
              have HB := Lib.hid hB
              clear hB
              go_wp2
              exact ⟨⟨j + 1, l3, o3, by omega, by go_num, by rw [← HF.out, HD.out, HR1.out], by omega, HB.out⟩, by simp only [intOf]; omega⟩
          · have hjl' : ¬ (j : Int) < l.length := by omega
            have hRR : R = some (lf, out') := by
              have := HF.out
              rw [List.drop_of_length_le (by omega)] at this
              exact this.symm
            have HFIN : Hid (Q (.returned (.bool true)) wr) := Lib.hid (by rw [← HQ.out, hRR]; exact ⟨rfl, hS⟩)
            clear hS hRR
            go_wp2
            first
              | exact HFIN.out
              | (go_ret; exact HFIN.out)
end Go.Proofs.YtmmihcophkipoaaDoor
