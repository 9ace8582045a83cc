import Derived.Test.YtmmihcophkipoaaDoorD15
namespace Go.Proofs.YtmmihcophkipoaaDoor
open Go.ChangeShapes Go.WideShapes Go.ChangeAt Go.RowKit
set_option linter.unusedVariables false
set_option linter.unusedSimpArgs false
attribute [local go_sem] bs_beq bs_bne bs_less bs_size bs_extract
/-- the reference's listing: how many steps are left, and the words -/
def ls (d : Au) : Nat → Nat × List W → Int → W → Nat × List W
  | 0, s, _, _ => (0, s.2)
  | f + 1, s, n, w => if s.1 = 0 ∨ n < 0 ∨ (d.length : Int) ≤ n ∨ 20 < w.length then (0, s.2) else
    (arcsOf d n.toNat).foldl (fun s a => ls d f s a.2 (w ++ [a.1])) (s.1 - 1, if (d.getD n.toNat (false, [])).1 = true then s.2 ++ [w] else s.2)
theorem ls_zero (d : Au) (f : Nat) (out : List W) (n : Int) (w : W) : ls d f (0, out) n w = (0, out) := by
  cases f with
  | zero => rfl
  | succ f => unfold ls; rw [if_pos (.inl rfl)]
theorem ls_fold_zero (d : Au) (f : Nat) (out : List W) (w : W) (l : List (UInt8 × Int)) : l.foldl (fun s a => ls d f s a.2 (w ++ [a.1])) (0, out) = (0, out) := by
  induction l with
  | nil => rfl
  | cons a l ih => rw [List.foldl_cons, ls_zero]; exact ih
theorem ls_le (d : Au) : ∀ (f : Nat) (s : Nat × List W) (n : Int) (w : W), (ls d f s n w).1 + (ls d f s n w).2.length ≤ s.1 + s.2.length := by
  intro f
  induction f with
  | zero => intro s n w; unfold ls; simp
  | succ f ih =>
    intro s n w
    unfold ls
    split
    · simp
    · rename_i hne
      have key : ∀ (l : List (UInt8 × Int)) (s : Nat × List W), (l.foldl (fun s a => ls d f s a.2 (w ++ [a.1])) s).1 + (l.foldl (fun s a => ls d f s a.2 (w ++ [a.1])) s).2.length ≤ s.1 + s.2.length := by
        intro l
        induction l with
        | nil => intro s; exact Nat.le_refl _
        | cons a l ihl => intro s; rw [List.foldl_cons]; exact Nat.le_trans (ihl _) (ih _ _ _)
      refine Nat.le_trans (key _ _) ?_
      have h0 : s.1 ≠ 0 := fun e => hne (.inl e)
      simp only
      split
      · simp; omega
      · omega
theorem Ow.setx {base x : Nat} {l : List W} {v : Value} {w : World} {cs : Array Value} (h : Ow base l v w) (X : Blk w x 107 cs) (i : Nat) (u : Value) : Ow base l v (w.setCell ⟨x, i, none⟩ u) := own_set h (p := ⟨x, i, none⟩) X (by decide)
theorem Ow.other {base x : Nat} {l : List W} {v : Value} {w : World} {cs : Array Value} (h : Ow base l v w) (X : Blk w x 107 cs) : v.ownBlock ≠ some x := by
  intro e
  rcases h.2 with hn | ⟨g, cap, cur, rfl, hb, hgg, rest⟩
  · rw [hn.1] at e; cases e
  · injection e with e; subst e; rw [X] at hgg; injection hgg with hgg; injection hgg with _ h2; exact absurd h2 (by decide)
def LsPost (d : Au) (w0 : World) (A : Option Addr) (c x base : Nat) (r : Nat × List W) (e : Ending) (w' : World) : Prop :=
  e = .returned (.tuple #[]) ∧ ∃ (cs : Array Value) (ov : Value), Blk w' x 107 cs ∧ cs = #[.slice A d.length c, .int .i64 r.1, ov] ∧ Ow base r.2 ov w' ∧ Ext w0 w' ∧ base ≤ w'.heap.size
set_option maxHeartbeats 4000000 in
set_option maxRecDepth 100000 in
theorem list_stop (d : Au) (w0 : World) (A : Option Addr) (c : Nat) (x base : Nat) (hx0 : w0.heap.size ≤ x) (hdl : d.length ≤ 1000000)
    (n : Int) (s : W) (hsl : s.length ≤ 1000000) (left : Nat) (hll : left ≤ 5000) (out : List W) (ov : Value) (w : World) (hE : Ext w0 w) (hbw : base ≤ w.heap.size) (X : Blk w x 107 #[.slice A d.length c, .int .i64 left, ov]) (O : Ow base out ov w)
    (hstop : left = 0 ∨ n < 0 ∨ (d.length : Int) ≤ n ∨ 20 < s.length) :
      Calls Tryd.prog 57 #[.pointer (some ⟨x, 0, none⟩), .int .i64 n, .string (bs s)] w (LsPost d w0 A c x base (0, out)) := by
  obtain ⟨x0, x1, x2, x3, x4⟩ := X.f3
  have HO := Lib.hid O
  clear O
  by_cases h1 : left = 0
  · subst h1
    clear hstop
    go_enter Tryd.func57, Tryd.ntmps57
    go_wp2
    refine bodyPost_ret (v := .tuple #[]) (by simp [results, Tryd.results57, go_sem]) rfl ?_
    exact ⟨rfl, _, _, (X.set_ 1 (.int .i64 0)), rfl, HO.out.setx X 1 _, hE.setCell (p := ⟨x, 1, none⟩) hx0 _, by simpa using hbw⟩
  · have hl : (left : Int) ≠ 0 := by omega
    have d1 : decide ((left : Int) = 0) = false := decide_eq_false hl
    by_cases h2 : n < 0
    · have d2 : decide (n < 0) = true := by simp [h2]
      clear hstop
      go_enter Tryd.func57, Tryd.ntmps57
      go_wp2
      refine bodyPost_ret (v := .tuple #[]) (by simp [results, Tryd.results57, go_sem]) rfl ?_
      exact ⟨rfl, _, _, (X.set_ 1 (.int .i64 0)), rfl, HO.out.setx X 1 _, hE.setCell (p := ⟨x, 1, none⟩) hx0 _, by simpa using hbw⟩
    · have d2 : decide (n < 0) = false := by simp [h2]
      by_cases h3 : (d.length : Int) ≤ n
      · have d3 : decide ((d.length : Int) ≤ n) = true := by simp [h3]
        clear hstop
        go_enter Tryd.func57, Tryd.ntmps57
        go_wp2
        refine bodyPost_ret (v := .tuple #[]) (by simp [results, Tryd.results57, go_sem]) rfl ?_
        exact ⟨rfl, _, _, (X.set_ 1 (.int .i64 0)), rfl, HO.out.setx X 1 _, hE.setCell (p := ⟨x, 1, none⟩) hx0 _, by simpa using hbw⟩
      · have d3 : decide ((d.length : Int) ≤ n) = false := by simp [h3]
        have h4 : 20 < s.length := by rcases hstop with h | h | h | h; exact absurd h h1; exact absurd h h2; exact absurd h h3; exact h
        have d4 : decide ((20 : Int) < (s.length : Int)) = true := by simp; omega
        clear hstop
        go_enter Tryd.func57, Tryd.ntmps57
        go_wp2
        refine bodyPost_ret (v := .tuple #[]) (by simp [results, Tryd.results57, go_sem]) rfl ?_
        exact ⟨rfl, _, _, (X.set_ 1 (.int .i64 0)), rfl, HO.out.setx X 1 _, hE.setCell (p := ⟨x, 1, none⟩) hx0 _, by simpa using hbw⟩

set_option maxHeartbeats 4000000 in
set_option maxRecDepth 100000 in
theorem list_any (d : Au) (hdl : d.length ≤ 1000000) (hal : ∀ x ∈ d, x.2.length ≤ 1000000) (w0 : World) (A : Option Addr) (c : Nat) (hd : Dw w0 A d) (x base : Nat) (hx0 : w0.heap.size ≤ x) (hb0 : w0.heap.size ≤ base) :
    ∀ (f : Nat) (n : Int) (s : W) (left : Nat) (out : List W) (ov : Value) (w : World), 22 ≤ f + s.length → s.length ≤ 21 → left + out.length ≤ 5000 → Ext w0 w → base ≤ w.heap.size → Blk w x 107 #[.slice A d.length c, .int .i64 left, ov] → Ow base out ov w →
      Calls Tryd.prog 57 #[.pointer (some ⟨x, 0, none⟩), .int .i64 n, .string (bs s)] w (LsPost d w0 A c x base (ls d f (left, out) n s)) := by
  intro f
  induction f with
  | zero => intro n s left out ov w hf hsl hlo hE hbw X O; exact list_stop d w0 A c x base hx0 hdl n s (by omega) left (by omega) out ov w hE hbw X O (.inr (.inr (.inr (by omega))))
  | succ f ih =>
    intro n s left out ov w hf hsl hlo hE hbw X O
    by_cases hstop : left = 0 ∨ n < 0 ∨ (d.length : Int) ≤ n ∨ 20 < s.length
    · have e : ls d (f + 1) (left, out) n s = (0, out) := by unfold ls; rw [if_pos hstop]
      rw [e]
      exact list_stop d w0 A c x base hx0 hdl n s (by omega) left (by omega) out ov w hE hbw X O hstop
    · have h1 : left ≠ 0 := fun h => hstop (.inl h)
      have h2 : 0 ≤ n := by omega
      obtain ⟨n, rfl⟩ : ∃ n0 : Nat, n = n0 := ⟨n.toNat, by omega⟩
      have h3 : n < d.length := by omega
      have h4 : s.length ≤ 20 := by omega
      obtain ⟨left, rfl⟩ : ∃ l0, left = l0 + 1 := ⟨left - 1, by omega⟩
      obtain ⟨R, hR⟩ : ∃ R, ls d (f + 1) (left + 1, out) n s = R := ⟨_, rfl⟩
      rw [hR]
      have hin := Dw.fin h3
      unfold ls at hR
      rw [if_neg hstop] at hR
      simp only [Int.toNat_natCast, Nat.add_sub_cancel] at hR
      rw [arcsOf_at h3, hin] at hR
      obtain ⟨ad, ab, c2, e1, hab, g0, g1, ra, hc1, hc2⟩ := hd.at_ h3
      have g00 := cell_ext hE hab g0
      have hal2 := hal _ (List.getElem_mem h3)
      subst e1
      clear hin hstop h2
      have habx : (ad.add (n * 2)).block ≠ x := by omega
      generalize d[n] = q at *
      obtain ⟨fin, l⟩ := q
      simp only at hR g0 g00 g1 ra hc1 hal2
      have h3' : (n : Int) < d.length := by omega
      have d1 : ((left : Int) + 1 == 0) = false := beq_eq_false_iff_ne.2 (by omega)
      have d2 : decide ((n : Int) < 0) = false := decide_eq_false (by omega)
      have d3 : decide (d.length ≤ n) = false := decide_eq_false (by omega)
      have d4 : decide ((20 : Int) < (s.length : Int)) = false := decide_eq_false (by omega)
      have hq : ((left + 1 : Nat) : Int) - 1 = left := by omega
      obtain ⟨x0, x1, x2, x3, x4⟩ := X.f3
      have g0' := (World.cell?_of_block (Below.heap_setCell w ⟨x, 1, none⟩ (.int .i64 left) _ habx)).trans g00
      have HR := Lib.hid hR
      have HO := Lib.hid O
      clear O hR
      cases fin
      · go_enter Tryd.func57, Tryd.ntmps57
        go_wp2_with fail
        have X1 := X.set_ 1 (.int .i64 left)
        have O1 := HO.out.setx X 1 (.int .i64 left)
        have E1 := hE.setCell (p := ⟨x, 1, none⟩) hx0 (.int .i64 left)
        have b1 : base ≤ (w.setCell ⟨x, 1, none⟩ (.int .i64 left)).heap.size := by simpa using hbw
        clear x0 x1 x2 x3 x4 g0' g00 HO X hE hbw
        generalize w.setCell ⟨x, 1, none⟩ (.int .i64 left) = w1 at *
        change Blk w1 x 107 #[.slice (some ad) d.length c, .int .i64 left, ov] at X1
        have hlo2 : left + out.length ≤ 5000 := by omega
        simp only [if_neg (show ¬ (false = true) by simp)] at HR
        go_loopw [6] (fun iv wr => ∃ (j lf : Nat) (out' : List W) (ov' : Value), j ≤ l.length ∧ iv = .int .i64 j ∧ (l.drop j).foldl (fun s_1 a => ls d f s_1 a.2 (s ++ [a.1])) (lf, out') = R ∧ lf + out'.length ≤ 5000 ∧ Blk wr x 107 #[.slice (some ad) d.length c, .int .i64 lf, ov'] ∧ Ow base out' ov' wr ∧ Ext w0 wr ∧ base ≤ wr.heap.size) (fun iv _ => 1000001 - (intOf iv).toNat)
        case atStart => exact ⟨0, left, _, _, by omega, rfl, HR.out, hlo2, X1, O1, E1, b1⟩
        case round =>
          clear X1 O1 E1 b1 HR hlo hlo2
          obtain ⟨j, lf, out', ov', hj, rfl, hfold, hlf, X, O, hX, hb⟩ := hrel
          obtain ⟨x0, x1, x2, x3, x4⟩ := X.f3
          have g1r := cell_ext (p := ⟨(ad.add (n * 2)).block, (ad.add (n * 2)).off + 1, none⟩) hX hab g1
          have habr := Nat.lt_of_lt_of_le hab hX.le
          have HO := Lib.hid O
          have HF := Lib.hid hfold
          clear O hfold
          by_cases hjl : j < l.length
          · have hjl' : (j : Int) < l.length := by omega
            by_cases hl0 : 0 < lf
            · have hl0' : (0 : Int) < lf := by omega
              obtain ⟨lf, rfl⟩ : ∃ z, lf = z + 1 := ⟨lf - 1, by omega⟩
              obtain ⟨q0, q1⟩ := acells_at l j hjl
              obtain ⟨pa, e1, pb, c0, c1⟩ := (ra.ext hX).twob hjl q0 q1
              subst e1
              have HD := Lib.hid (List.drop_eq_getElem_cons hjl)
              clear q0 q1
              generalize l[j] = q at *
              have hs1 : ¬ 9223372036854775807 < s.length + 1 := by omega
              go_wp2_with fail
              have hc0 : ∀ W : World, Ext wr.drew W → W.cell? ⟨x, 0, none⟩ = some (.slice (some ad) d.length c) ∧ W.cell? ⟨(ad.add (n * 2)).block, (ad.add (n * 2)).off + 1, none⟩ = some (.slice (some pa) l.length c2) ∧ W.cell? (pa.add (j * 2)) = some (.int .u8 q.1.toNat) ∧ W.cell? ⟨(pa.add (j * 2)).block, (pa.add (j * 2)).off + 1, none⟩ = some (.int .i64 q.2) ∧ True := fun W hE => by
                exact ⟨(X.drew.ext hE).f3.1, cell_drew (p := ⟨(ad.add (n * 2)).block, (ad.add (n * 2)).off + 1, none⟩) hE habr g1r, cell_drew hE pb c0, cell_drew hE pb c1, trivial⟩
              have HC := Lib.hid hc0; clear hc0
              refine wp_region_list2 (by kernel_rfl) 29 Ext [(26, Sl 5 1 1 (bv [q.1])), (27, Is (.string (bs [q.1])))] (by kernel_rfl) (fun _ _ d _ _ h => by cases d <;> exact h) rfl Ext.refl (fun _ _ _ => Ext.trans) ⟨fun _ _ _ => Sl.ext, fun _ _ _ => Is.ext, trivial⟩ ?_
              simp only [List.take_succ_cons, List.take_zero, List.take_nil, List.drop_succ_cons, List.drop_zero, List.drop_nil]
              iterate 26
                refine ph_pure (a' := ?_) rfl rfl ?_ (fun w9 hE hG => pureAt_plain rfl ?_) ?_ ?_
                rotate_left 2
                · clear hG; obtain ⟨z0, z1, z2, z3, _⟩ := HC.out w9 hE; (go_simp; try go_bits); rfl
                · go_simp; rfl
              refine ph_op rfl rfl (fun w9 hE hG => opAt_plain rfl ?_) (fun v hv => ?_)
              · clear hG
                try clear hG
                obtain ⟨z0, z1, z2, z3, _⟩ := HC.out w9 hE; (go_simp; try go_bits)
                exact ⟨Ext.alloc _ _, _, _, rfl, Rd.newAt _ _ rfl 5 1 1 #[.int .u8 q.1.toNat] (0, 0) _ rfl rfl, by omega, by simp [maxLen]⟩
              obtain ⟨_, _, A5, c5, rfl, _, _, _⟩ := hv
              go_simp
              refine ph_op rfl rfl (fun w9 hE hG => opAt_plain rfl ?_) (fun v hv => ?_)
              · simp only [List.forall_mem_cons] at hG; have hcv := conv_bytes c5 [q.1] (Sl.at_ (hG.1 (by kernel_rfl))).2.1; change (convert 23 9 (.slice A5 1 c5)).run _ _ = _ at hcv
                try clear hG
                obtain ⟨z0, z1, z2, z3, _⟩ := HC.out w9 hE; (go_simp; try go_bits)
                exact ⟨Ext.refl _, rfl⟩
              obtain ⟨_, _, rfl⟩ := hv
              go_simp
              iterate 1
                refine ph_pure (a' := ?_) rfl rfl ?_ (fun w9 hE hG => pureAt_plain rfl ?_) ?_ ?_
                rotate_left 2
                · clear hG; obtain ⟨z0, z1, z2, z3, _⟩ := HC.out w9 hE; (go_simp; try go_bits); rfl
                · go_simp; rfl
              refine ph_end (fun w9 hE hG => ?_)
              have hXr : Ext wr w9 := Ext.drew.trans hE
              clear hE hG HC
              rw [bs_append]
              go_wp2_with fail
              refine (ih q.2 (s ++ [q.1]) (lf + 1) out' ov' _ (by simp; omega) (by simp; omega) hlf (hX.trans hXr) (by have := hXr.le; omega) (X.ext hXr) (own_ext HO.out hXr)).mono ?_
              rintro e w2 ⟨rfl, cs, ov2, X2, rfl, O2, E2, b2⟩
              have hle := ls_le d f (lf + 1, out') q.2 (s ++ [q.1])
              have HF2 := Lib.hid HF.out
              rw [HD.out, List.foldl_cons] at HF2
              generalize ls d f (lf + 1, out') q.2 (s ++ [q.1]) = r2 at *
              obtain ⟨l2, o2⟩ := r2
              simp only at X2 O2 hle
              go_wp2
              exact ⟨⟨j + 1, l2, o2, ov2, by omega, by go_num, HF2.out, by omega, X2, O2, E2, b2⟩, by simp only [intOf]; omega⟩
            · obtain rfl : lf = 0 := by omega
              rw [ls_fold_zero] at HF
              go_wp2
              exact bodyPost_end (v := .tuple #[]) (by simp [results, Tryd.results57, go_sem]) rfl ⟨rfl, _, _, X, by rw [← HF.out], by rw [← HF.out]; exact HO.out, hX, hb⟩
          · have hjl' : ¬ (j : Int) < l.length := by omega
            rw [List.drop_of_length_le (by omega)] at HF
            go_wp2
            exact bodyPost_end (v := .tuple #[]) (by simp [results, Tryd.results57, go_sem]) rfl ⟨rfl, _, _, X, by rw [← HF.out]; rfl, by rw [← HF.out]; exact HO.out, hX, hb⟩
      · go_enter Tryd.func57, Tryd.ntmps57
        go_wp2_with (at_builtin; apply halt_here)
        apply go_on
        have X1 := X.set_ 1 (.int .i64 left)
        have O1 := HO.out.setx X 1 (.int .i64 left)
        have E1 := hE.setCell (p := ⟨x, 1, none⟩) hx0 (.int .i64 left)
        have b1 : base ≤ (w.setCell ⟨x, 1, none⟩ (.int .i64 left)).heap.size := by simpa using hbw
        have hz : (w.setCell ⟨x, 1, none⟩ (.int .i64 left)).heap.size = w.heap.size := by simp
        have hgz : w.heap.size ≠ x := by omega
        clear x0 x1 x2 x3 x4 g0' g00 HO X hE
        generalize w.setCell ⟨x, 1, none⟩ (.int .i64 left) = w1 at *
        change Blk w1 x 107 #[.slice (some ad) d.length c, .int .i64 left, ov] at X1
        refine wp_app_str rfl _ _ rfl base out ov rfl (own_alloc_w O1 _) _ _ _ [s] 9 rfl rfl (Rd.newAt _ _ hz 9 1 1 #[.string (bs s)] (0, 0) _ rfl rfl) (by simp; omega) (by simp; omega) ?_
        intro v' w2 O2 hg2 _ hb2
        have X2 := (X1.alloc (Obj.cells #[.string (bs s)] 9)).grown hg2 (O1.other X1)
        have E2 : Ext w0 w2 := Below.trans (Ext.trans (show Ext w0 w1 from E1) (Ext.alloc _ _)) (hb2.mono hb0)
        have b2 : base ≤ w2.heap.size := by have := hb2.size; simp at this; omega
        obtain ⟨x0, x1, x2, x3, x4⟩ := X2.f3
        clear X1 O1 E1 b1 hg2 hb2
        obtain ⟨A2, c3, hv2, _, _, _⟩ := own_form O2
        generalize (out ++ [s]).length = m2 at hv2
        have HO := Lib.hid O2
        clear O2
        subst hv2
        go_wp2_with fail
        have X1 := X2.set_ 2 (.slice A2 m2 c3)
        have O1 := HO.out.setx X2 2 (.slice A2 m2 c3)
        have E1 := E2.setCell (p := ⟨x, 2, none⟩) hx0 (.slice A2 m2 c3)
        have b1 : base ≤ (w2.setCell ⟨x, 2, none⟩ (.slice A2 m2 c3)).heap.size := by simpa using b2
        clear x0 x1 x2 x3 x4 HO X2 E2
        generalize w2.setCell ⟨x, 2, none⟩ (.slice A2 m2 c3) = w3 at *
        change Blk w3 x 107 #[.slice (some ad) d.length c, .int .i64 left, .slice A2 m2 c3] at X1
        have hlo2 : left + (out ++ [s]).length ≤ 5000 := by simp; omega
        simp only [if_pos] at HR
        go_loopw [6] (fun iv wr => ∃ (j lf : Nat) (out' : List W) (ov' : Value), j ≤ l.length ∧ iv = .int .i64 j ∧ (l.drop j).foldl (fun s_1 a => ls d f s_1 a.2 (s ++ [a.1])) (lf, out') = R ∧ lf + out'.length ≤ 5000 ∧ Blk wr x 107 #[.slice (some ad) d.length c, .int .i64 lf, ov'] ∧ Ow base out' ov' wr ∧ Ext w0 wr ∧ base ≤ wr.heap.size) (fun iv _ => 1000001 - (intOf iv).toNat)
        case atStart => exact ⟨0, left, _, _, by omega, rfl, HR.out, hlo2, X1, O1, E1, b1⟩
        case round =>
          clear X1 O1 E1 b1 HR hlo hlo2
          obtain ⟨j, lf, out', ov', hj, rfl, hfold, hlf, X, O, hX, hb⟩ := hrel
          obtain ⟨x0, x1, x2, x3, x4⟩ := X.f3
          have g1r := cell_ext (p := ⟨(ad.add (n * 2)).block, (ad.add (n * 2)).off + 1, none⟩) hX hab g1
          have habr := Nat.lt_of_lt_of_le hab hX.le
          have HO := Lib.hid O
          have HF := Lib.hid hfold
          clear O hfold
          by_cases hjl : j < l.length
          · have hjl' : (j : Int) < l.length := by omega
            by_cases hl0 : 0 < lf
            · have hl0' : (0 : Int) < lf := by omega
              obtain ⟨lf, rfl⟩ : ∃ z, lf = z + 1 := ⟨lf - 1, by omega⟩
              obtain ⟨q0, q1⟩ := acells_at l j hjl
              obtain ⟨pa, e1, pb, c0, c1⟩ := (ra.ext hX).twob hjl q0 q1
              subst e1
              have HD := Lib.hid (List.drop_eq_getElem_cons hjl)
              clear q0 q1
              generalize l[j] = q at *
              have hs1 : ¬ 9223372036854775807 < s.length + 1 := by omega
              go_wp2_with fail
              have hc0 : ∀ W : World, Ext wr.drew W → W.cell? ⟨x, 0, none⟩ = some (.slice (some ad) d.length c) ∧ W.cell? ⟨(ad.add (n * 2)).block, (ad.add (n * 2)).off + 1, none⟩ = some (.slice (some pa) l.length c2) ∧ W.cell? (pa.add (j * 2)) = some (.int .u8 q.1.toNat) ∧ W.cell? ⟨(pa.add (j * 2)).block, (pa.add (j * 2)).off + 1, none⟩ = some (.int .i64 q.2) ∧ True := fun W hE => by
                exact ⟨(X.drew.ext hE).f3.1, cell_drew (p := ⟨(ad.add (n * 2)).block, (ad.add (n * 2)).off + 1, none⟩) hE habr g1r, cell_drew hE pb c0, cell_drew hE pb c1, trivial⟩
              have HC := Lib.hid hc0; clear hc0
              refine wp_region_list2 (by kernel_rfl) 29 Ext [(26, Sl 5 1 1 (bv [q.1])), (27, Is (.string (bs [q.1])))] (by kernel_rfl) (fun _ _ d _ _ h => by cases d <;> exact h) rfl Ext.refl (fun _ _ _ => Ext.trans) ⟨fun _ _ _ => Sl.ext, fun _ _ _ => Is.ext, trivial⟩ ?_
              simp only [List.take_succ_cons, List.take_zero, List.take_nil, List.drop_succ_cons, List.drop_zero, List.drop_nil]
              iterate 26
                refine ph_pure (a' := ?_) rfl rfl ?_ (fun w9 hE hG => pureAt_plain rfl ?_) ?_ ?_
                rotate_left 2
                · clear hG; obtain ⟨z0, z1, z2, z3, _⟩ := HC.out w9 hE; (go_simp; try go_bits); rfl
                · go_simp; rfl
              refine ph_op rfl rfl (fun w9 hE hG => opAt_plain rfl ?_) (fun v hv => ?_)
              · clear hG
                try clear hG
                obtain ⟨z0, z1, z2, z3, _⟩ := HC.out w9 hE; (go_simp; try go_bits)
                exact ⟨Ext.alloc _ _, _, _, rfl, Rd.newAt _ _ rfl 5 1 1 #[.int .u8 q.1.toNat] (0, 0) _ rfl rfl, by omega, by simp [maxLen]⟩
              obtain ⟨_, _, A5, c5, rfl, _, _, _⟩ := hv
              go_simp
              refine ph_op rfl rfl (fun w9 hE hG => opAt_plain rfl ?_) (fun v hv => ?_)
              · simp only [List.forall_mem_cons] at hG; have hcv := conv_bytes c5 [q.1] (Sl.at_ (hG.1 (by kernel_rfl))).2.1; change (convert 23 9 (.slice A5 1 c5)).run _ _ = _ at hcv
                try clear hG
                obtain ⟨z0, z1, z2, z3, _⟩ := HC.out w9 hE; (go_simp; try go_bits)
                exact ⟨Ext.refl _, rfl⟩
              obtain ⟨_, _, rfl⟩ := hv
              go_simp
              iterate 1
                refine ph_pure (a' := ?_) rfl rfl ?_ (fun w9 hE hG => pureAt_plain rfl ?_) ?_ ?_
                rotate_left 2
                · clear hG; obtain ⟨z0, z1, z2, z3, _⟩ := HC.out w9 hE; (go_simp; try go_bits); rfl
                · go_simp; rfl
              refine ph_end (fun w9 hE hG => ?_)
              have hXr : Ext wr w9 := Ext.drew.trans hE
              clear hE hG HC
              rw [bs_append]
              go_wp2_with fail
              refine (ih q.2 (s ++ [q.1]) (lf + 1) out' ov' _ (by simp; omega) (by simp; omega) hlf (hX.trans hXr) (by have := hXr.le; omega) (X.ext hXr) (own_ext HO.out hXr)).mono ?_
              rintro e w2 ⟨rfl, cs, ov2, X2, rfl, O2, E2, b2⟩
              have hle := ls_le d f (lf + 1, out') q.2 (s ++ [q.1])
              have HF2 := Lib.hid HF.out
              rw [HD.out, List.foldl_cons] at HF2
              generalize ls d f (lf + 1, out') q.2 (s ++ [q.1]) = r2 at *
              obtain ⟨l2, o2⟩ := r2
              simp only at X2 O2 hle
              go_wp2
              exact ⟨⟨j + 1, l2, o2, ov2, by omega, by go_num, HF2.out, by omega, X2, O2, E2, b2⟩, by simp only [intOf]; omega⟩
            · obtain rfl : lf = 0 := by omega
              rw [ls_fold_zero] at HF
              go_wp2
              exact bodyPost_end (v := .tuple #[]) (by simp [results, Tryd.results57, go_sem]) rfl ⟨rfl, _, _, X, by rw [← HF.out], by rw [← HF.out]; exact HO.out, hX, hb⟩
          · have hjl' : ¬ (j : Int) < l.length := by omega
            rw [List.drop_of_length_le (by omega)] at HF
            go_wp2
            exact bodyPost_end (v := .tuple #[]) (by simp [results, Tryd.results57, go_sem]) rfl ⟨rfl, _, _, X, by rw [← HF.out]; rfl, by rw [← HF.out]; exact HO.out, hX, hb⟩
end Go.Proofs.YtmmihcophkipoaaDoor
