import Derived.Test.YtecdmgcgplohoaaCa3
namespace Go.Proofs.Ytecdmgcgplohoaa
open Go.ChangeShapes Go.WideShapes Go.ChangeAt Go.RowKit
set_option linter.unusedVariables false
set_option linter.unusedSimpArgs false
attribute [local go_sem] ba_beq ba_bne

/-- the entries of a list that have room, in their order -/
def fit (room : Int) : Int → List En → List En
  | _, [] => []
  | s, e :: l => if room < s + wt e then [] else e :: fit room (s + wt e) l
theorem str_info : (Try.prog.info? 9).map (fun i => (i.zero, i.size, i.bytes)) = some (some (.string ByteArray.empty), 1, 16) := by kernel_rfl
theorem fit_stop (room : Int) (l : List En) (k : Nat) (h : k < l.length) (s : Int) (hs : room < s + wt l[k]) : fit room s (l.drop k) = [] := by
  rw [List.drop_eq_getElem_cons h]
  simp only [fit]
  rw [if_pos hs]
theorem fit_go (room : Int) (l : List En) (k : Nat) (h : k < l.length) (s : Int) (hs : ¬ room < s + wt l[k]) : fit room s (l.drop k) = l[k] :: fit room (s + wt l[k]) (l.drop (k + 1)) := by
  rw [List.drop_eq_getElem_cons h]
  simp only [fit]
  rw [if_neg hs]
theorem keys_snoc (l : List En) (k : Nat) (h : k < l.length) : strs (keys (l.take (k + 1))) = strs (keys (l.take k)) ++ [.string l[k].1] := by
  rw [take_snoc l k h]; simp only [strs, keys, List.map_append, List.map_cons, List.map_nil]
theorem vals_snoc (l : List En) (k : Nat) (h : k < l.length) : strs (vals (l.take (k + 1))) = strs (vals (l.take k)) ++ [.string l[k].2] := by
  rw [take_snoc l k h]; simp only [strs, vals, List.map_append, List.map_cons, List.map_nil]
/-- two rows of strings of the call's own in two blocks -/
structure Two (w : World) (base : Nat) (p : Value) (n : Nat) (xs : List Value) (q : Value) (m : Nat) (ys : List Value) : Prop where
  a : w.ownsRow base 9 1 p n xs
  b : w.ownsRow base 9 1 q m ys
  ne : ∀ g, p.ownBlock = some g → q.ownBlock ≠ some g
section
variable {w w' : World} {base : Nat} {p q : Value} {n m : Nat} {xs ys : List Value}
theorem Two.symm (h : Two w base p n xs q m ys) : Two w base q m ys p n xs := ⟨h.b, h.a, fun g e e' => h.ne g e' e⟩
theorem Two.below (h : Two w base p n xs q m ys) {B : Nat} (hb : Below B w w') (hB : w.heap.size ≤ B) : Two w' base p n xs q m ys := ⟨own_below h.a hb hB, own_below h.b hb hB, h.ne⟩
theorem Two.drew (h : Two w base p n xs q m ys) : Two w.drew base p n xs q m ys := ⟨own_drewN h.a 1, own_drewN h.b 1, h.ne⟩
theorem Two.set (h : Two w base p n xs q m ys) {a : Addr} {u : Value} {t : TypeId} {cs : Array Value} {fr : Nat × Nat} (hp : w.heap[a.block]? = some (.cells cs t fr)) (ht : t ≠ 9) : Two (w.setCell a u) base p n xs q m ys :=
  ⟨own_set h.a hp ht, own_set h.b hp ht, h.ne⟩
theorem Two.fst (h : Two w base p n xs q m ys) {p' : Value} {n' : Nat} {xs' : List Value} (ha : w'.ownsRow base 9 1 p' n' xs') (hg : w.grownBy w' p.ownBlock) (ho : p'.ownBlock = p.ownBlock ∨ p'.ownBlock = some w.heap.size) :
    Two w' base p' n' xs' q m ys := by
  refine ⟨ha, own_keep h.b fun g hq hl _ => hg.block g hl (fun e => h.ne g e.symm hq), fun g e e' => ?_⟩
  rcases ho with ho | ho
  · exact h.ne g (ho ▸ e) e'
  · rw [ho] at e
    injection e with e
    subst e
    have := (h.b.lt _ e').2
    omega
end
theorem res_cell26 {fn : Func} {t : Tmp} (h : fn.results = #[.cell t 26]) (tmps : Array Value) (g : Nat) (ht : tmps.getD t undef = .pointer (some ⟨g, 0, none⟩)) (w : World) {v0 v1 v2 : Value} (Y : Blk w g 26 #[v0, v1, v2]) :
    (results fn tmps).run Try.prog w = .ok (.agg #[v0, v1, v2]) w := by
  obtain ⟨y0, y1, y2, y3, y4⟩ := Y.f3
  rw [Array.getD_eq_getD_getElem?] at ht
  simp [results, h, ht, go_sem, y0, y1, y2]
theorem Blk.put3 {w : World} {g : Nat} {u0 u1 u2 : Value} (Y : Blk w g 26 #[u0, u1, u2]) (v0 v1 v2 : Value) : Blk (((w.setCell ⟨g, 0, none⟩ v0).setCell ⟨g, 1, none⟩ v1).setCell ⟨g, 2, none⟩ v2) g 26 #[v0, v1, v2] := by
  have h := ((Y.set_ 0 v0).set_ 1 v1).set_ 2 v2
  simpa using h
theorem Blk.put1 {w : World} {g : Nat} {u0 u1 u2 : Value} (Y : Blk w g 26 #[u0, u1, u2]) (v : Value) : Blk (w.setCell ⟨g, 1, none⟩ v) g 26 #[u0, v, u2] := by
  have h := Y.set_ 1 v
  simpa using h
theorem Blk.put2 {w : World} {g : Nat} {u0 u1 u2 : Value} (Y : Blk w g 26 #[u0, u1, u2]) (v : Value) : Blk (w.setCell ⟨g, 2, none⟩ v) g 26 #[u0, u1, v] := by
  have h := Y.set_ 2 v
  simpa using h
theorem Two.put3 {w : World} {base g : Nat} {p q : Value} {n m : Nat} {xs ys : List Value} (h : Two w base p n xs q m ys) {u0 u1 u2 : Value} (Y : Blk w g 26 #[u0, u1, u2]) (v0 v1 v2 : Value) : Two (((w.setCell ⟨g, 0, none⟩ v0).setCell ⟨g, 1, none⟩ v1).setCell ⟨g, 2, none⟩ v2) base p n xs q m ys :=
  ((h.set (a := ⟨g, 0, none⟩) Y (by decide)).set (a := ⟨g, 1, none⟩) (Y.set_ 0 v0) (by decide)).set (a := ⟨g, 2, none⟩) ((Y.set_ 0 v0).set_ 1 v1) (by decide)
theorem below_put3 {w a : World} {B g : Nat} (h : Below B a w) (hg : B ≤ g) (v0 v1 v2 : Value) : Below B a (((w.setCell ⟨g, 0, none⟩ v0).setCell ⟨g, 1, none⟩ v1).setCell ⟨g, 2, none⟩ v2) :=
  ((h.setCell hg v0).setCell hg v1).setCell hg v2
theorem Two.ca {w : World} {base n : Nat} {p q : Value} {l : List En} (h : Two w base p n (strs (keys l)) q n (strs (vals l))) (hn : l.length = n) (room : Int) : Ca w room l (.agg #[.int .i64 room, p, q]) := by
  subst hn
  obtain ⟨A, c, rfl, hA, hc, hc'⟩ := own_form h.a
  obtain ⟨B, d, rfl, hB, hd, hd'⟩ := own_form h.b
  exact ⟨⟨A, c, B, d, rfl, hA, hB, hc, hc', hd, hd'⟩⟩
theorem Two.nil (w : World) (base : Nat) : Two w base (.slice none 0 0) 0 [] (.slice none 0 0) 0 [] := ⟨World.ownsRow_nil _ _ _ _, World.ownsRow_nil _ _ _ _, fun g e => by cases e⟩
set_option maxHeartbeats 1000000 in
set_option maxRecDepth 100000 in
theorem made_any (room : Int) (A : Option Addr) (n c : Nat) (l : List En) (w : World) (hA : Rd w 28 2 A n (ecells l)) (hs : Sm l) :
    Calls Try.prog 28 #[.int .i64 room, .slice A n c] w fun e w' => ∃ V, e = .returned V ∧ Ca w' room (fit room 0 l) V ∧ Below w.heap.size w w' := by
  have hlen : l.length = n := by have := hA.len; rw [ecells_len] at this; omega
  have hn := hs.1
  have HN := Lib.hid hlen
  rw [hlen] at hn
  clear hlen
  obtain ⟨i0, hi0, hz0, hz1, hz2⟩ := info_parts str_info
  go_enter Try.func28, Try.ntmps28
  go_wp2_with fail
  go_loopw [6, 7] (fun s i wr => ∃ (k : Nat) (p q : Value), k ≤ n ∧ i = .int .i64 k ∧ s = .int .i64 (tw (l.take k)) ∧ fit room 0 l = l.take k ++ fit room (tw (l.take k)) (l.drop k) ∧
      Two wr (w.heap.size + 2) p k (strs (keys (l.take k))) q k (strs (vals (l.take k))) ∧ Blk wr (w.heap.size + 1) 26 #[.int .i64 room, p, q] ∧ Blk wr w.heap.size 26 #[.int .i64 0, .slice none 0 0, .slice none 0 0] ∧ Below w.heap.size w wr) (fun _ i _ => 100 - (intOf i).toNat)
  case atStart =>
    refine ⟨0, _, _, by omega, rfl, rfl, by simp [tw], Two.nil _ _, ?_, (Blk.new w 26 _).alloc _, by go_grown⟩
    have h := Blk.new (w.alloc (Obj.cells #[.int .i64 0, .slice none 0 0, .slice none 0 0] 26)) 26 #[.int .i64 room, .slice none 0 0, .slice none 0 0]
    simpa using h
  case round =>
    obtain ⟨k, p, q, hk, rfl, rfl, hfit, T, X, Y, hbw⟩ := hrel
    have hz := X.lt
    by_cases hlt : k < n
    · have hkl : k < l.length := by rw [HN.out]; exact hlt
      have hlt' : (k : Int) < (n : Int) := by omega
      have hr1 := tw_range l hs k
      have hr2 := wt_range l[k] (hs.2 _ (List.getElem_mem hkl))
      have hr3 := hs.2 _ (List.getElem_mem hkl)
      have HT := Lib.hid (tw_snoc l k hkl)
      have HK := Lib.hid (keys_snoc l k hkl)
      have HP := Lib.hid (take_snoc l k hkl)
      have HV := Lib.hid (vals_snoc l k hkl)
      have HS := Lib.hid (fit_stop room l k hkl)
      have HG := Lib.hid (fit_go room l k hkl)
      obtain ⟨q0, q1⟩ := ecells_at l k hkl
      have hA1 := hA.below hbw (Nat.le_refl _)
      obtain ⟨ad, h1, _, c0, c1⟩ := hA1.two hlt q0 q1
      subst h1
      have HF := Lib.hid hfit
      clear hfit
      generalize hpq : l[k] = pq at *
      obtain ⟨kk, vv⟩ := pq
      simp only at c0 c1 hr3 q0 q1
      have HQ := Lib.hid (And.intro q0 q1)
      clear q0 q1 hpq
      generalize tw (l.take k) = s at *
      go_wp2_with fail
      refine (weight_any kk vv _ hr3.1 hr3.2).mono ?_
      rintro e w2 ⟨rfl, hb⟩
      have T2 := T.below hb (Nat.le_refl _)
      have X2 := X.below hb (Nat.le_refl _)
      have Y2 := Y.below hb (Nat.le_refl _)
      have L2 := hbw.trans (hb.mono hbw.size)
      have hA2 := hA1.below hb (Nat.le_refl _)
      have hzz2 := X2.lt
      clear hb hbw T X Y hA1 c0 c1 hz
      generalize wt (kk, vv) = t at *
      obtain ⟨P, cp, rfl, _, _, _⟩ := own_form T2.a
      obtain ⟨Q, cq, rfl, _, _, _⟩ := own_form T2.b
      obtain ⟨x0, x1, x2, x3, x4⟩ := X2.f3
      obtain ⟨y0, y1, y2, y3, y4⟩ := Y2.f3
      by_cases hroom : room < s + t
      · go_wp2
        have hl1 : (l.take k).length = k := by rw [List.length_take]; have := HN.out; omega
        have hfin : fit room 0 l = l.take k := by rw [HF.out, HS.out s hroom, List.append_nil]
        refine bodyPost_ret (res_cell26 rfl _ w.heap.size rfl _ (Y2.put3 _ _ _)) rfl ⟨_, rfl, ?_, below_put3 L2 (Nat.le_refl _) _ _ _⟩
        rw [hfin]
        exact (T2.put3 Y2 _ _ _).ca hl1 room
      · obtain ⟨q0, q1⟩ := HQ.out
        have hc : ∀ W, Ext w2.drew W → W.cell? ⟨w.heap.size + 1, 1, none⟩ = some (.slice P k cp) ∧ W.cell? (ad.add (k * 2)) = some (.string kk) := fun W hE => by
          obtain ⟨_, z1, _, _, _⟩ := (X2.drew.ext hE).f3
          obtain ⟨_, e, _, z2, _⟩ := (hA2.drew.ext hE).two hlt q0 q1
          injection e with e; subst e
          exact ⟨z1, z2⟩
        have HC := Lib.hid hc; clear hc
        have hroom' : ¬ room < s + t := hroom
        go_wp2_with fail
        refine wp_region_list2 (by kernel_rfl) 8 Ext [(7, Sl 9 1 1 [.string kk])] (by kernel_rfl) (fun _ _ d _ _ h => by cases d <;> exact h) rfl Ext.refl (fun _ _ _ => Ext.trans) ⟨fun _ _ _ => Sl.ext, trivial⟩ ?_
        simp only [List.take_succ_cons, List.take_zero, List.take_nil, List.drop_succ_cons, List.drop_zero, List.drop_nil]
        iterate 7
          refine ph_pure (a' := ?_) rfl rfl ?_ (fun w9 hE hG => pureAt_plain rfl ?_) ?_ ?_
          rotate_left 2
          · clear hG; obtain ⟨c1, c2⟩ := HC.out w9 hE; (go_simp; try go_bits); rfl
          · go_simp; rfl
        refine ph_op rfl rfl (fun w9 hE hG => opAt_plain rfl ?_) (fun v hv => ?_)
        · clear hG; obtain ⟨c1, c2⟩ := HC.out w9 hE; (go_simp; try go_bits)
          exact ⟨Ext.alloc _ _, _, _, rfl, Rd.newAt _ _ rfl 9 1 1 #[.string kk] (0, 0) _ rfl rfl, Nat.le_refl _, by simp [maxLen]⟩
        obtain ⟨_, _, A2, c2', rfl, _, _, _⟩ := hv
        go_simp
        refine ph_end (fun w9 hE hG => ?_)
        simp only [List.forall_mem_cons] at hG
        obtain ⟨_, hrd, _, _⟩ := hG.1.at_
        have T9 := T2.drew.below hE.below (Nat.le_refl _)
        have X9 := X2.drew.ext hE
        have Y9 := Y2.drew.ext hE
        have hA9 := hA2.drew.ext hE
        have L9 := L2.drew.trans (hE.below.mono L2.size)
        have hzz9 := X9.lt
        clear hE hG HC T2 X2 Y2 hA2 L2 x0 x1 x2 x3 x4 y0 y1 y2 y3 y4
        go_wp2_with (at_builtin; apply halt_here)
        apply go_on
        refine wpList_app rfl _ _ 24 rfl (w.heap.size + 2) 9 i0 _ 1 16 Try.underlying24 hi0 hz0 hz1 hz2 rfl (by decide) _ _ _ rfl T9.a 9 _ 1 _ _ rfl hrd (by simp [Value.oneCell']) (by simp only [maxLen]; omega) (by omega) (by omega) ?_
        intro v' w8 hown2 hg8 ho8 hbb
        have T8 := T9.fst hown2 hg8 ho8
        have X8 := X9.low hbb (by omega)
        have Y8 := Y9.low hbb (by omega)
        have L8 := L9.trans (hbb.mono (by omega))
        have hA8 := hA.below L8 (Nat.le_refl _)
        obtain ⟨P', cp', rfl, _, _, _⟩ := own_form T8.a
        obtain ⟨x0, x1, x2, x3, x4⟩ := X8.f3
        obtain ⟨y0, y1, y2, y3, y4⟩ := Y8.f3
        clear hown2 hg8 ho8 hbb T9 X9 Y9 hA9 L9 hzz9 hrd
        go_wp2_with fail
        have T10 := T8.set (a := ⟨w.heap.size + 1, 1, none⟩) (u := .slice P' (k + 1) cp') X8 (by decide)
        have X10 := X8.put1 (.slice P' (k + 1) cp')
        have Y10 := Y8.far (p := ⟨w.heap.size + 1, 1, none⟩) (by simp) (.slice P' (k + 1) cp')
        have L10 := L8.setCell (p := ⟨w.heap.size + 1, 1, none⟩) (by simp) (.slice P' (k + 1) cp')
        have hA10 := hA.below L10 (Nat.le_refl _)
        clear T8 X8 Y8 L8 hA8 x0 x1 x2 x3 x4 y0 y1 y2 y3 y4
        generalize w8.setCell ⟨w.heap.size + 1, 1, none⟩ (.slice P' (k + 1) cp') = w10 at *
        have hc : ∀ W, Ext w10.drew W → W.cell? ⟨w.heap.size + 1, 2, none⟩ = some (.slice Q k cq) ∧ W.cell? ⟨(ad.add (k * 2)).block, (ad.add (k * 2)).off + 1, none⟩ = some (.string vv) := fun W hE => by
          obtain ⟨_, _, z1, _, _⟩ := (X10.drew.ext hE).f3
          obtain ⟨_, e, _, _, z2⟩ := (hA10.drew.ext hE).two hlt q0 q1
          injection e with e; subst e
          exact ⟨z1, z2⟩
        have HC := Lib.hid hc; clear hc
        refine wp_region_list2 (by kernel_rfl) 8 Ext [(7, Sl 9 1 1 [.string vv])] (by kernel_rfl) (fun _ _ d _ _ h => by cases d <;> exact h) rfl Ext.refl (fun _ _ _ => Ext.trans) ⟨fun _ _ _ => Sl.ext, trivial⟩ ?_
        simp only [List.take_succ_cons, List.take_zero, List.take_nil, List.drop_succ_cons, List.drop_zero, List.drop_nil]
        iterate 7
          refine ph_pure (a' := ?_) rfl rfl ?_ (fun w9 hE hG => pureAt_plain rfl ?_) ?_ ?_
          rotate_left 2
          · clear hG; obtain ⟨c1, c2⟩ := HC.out w9 hE; (go_simp; try go_bits); rfl
          · go_simp; rfl
        refine ph_op rfl rfl (fun w9 hE hG => opAt_plain rfl ?_) (fun v hv => ?_)
        · clear hG; obtain ⟨c1, c2⟩ := HC.out w9 hE; (go_simp; try go_bits)
          exact ⟨Ext.alloc _ _, _, _, rfl, Rd.newAt _ _ rfl 9 1 1 #[.string vv] (0, 0) _ rfl rfl, Nat.le_refl _, by simp [maxLen]⟩
        obtain ⟨_, _, A2, c2', rfl, _, _, _⟩ := hv
        go_simp
        refine ph_end (fun w9 hE hG => ?_)
        simp only [List.forall_mem_cons] at hG
        obtain ⟨_, hrd, _, _⟩ := hG.1.at_
        have T9 := T10.drew.below hE.below (Nat.le_refl _)
        have X9 := X10.drew.ext hE
        have Y9 := Y10.drew.ext hE
        have L9 := L10.drew.trans (hE.below.mono L10.size)
        have hzz9 := X9.lt
        clear hE hG HC T10 X10 Y10 hA10 L10
        go_wp2_with (at_builtin; apply halt_here)
        apply go_on
        refine wpList_app rfl _ _ 24 rfl (w.heap.size + 2) 9 i0 _ 1 16 Try.underlying24 hi0 hz0 hz1 hz2 rfl (by decide) _ _ _ rfl T9.b 9 _ 1 _ _ rfl hrd (by simp [Value.oneCell']) (by simp only [maxLen]; omega) (by omega) (by omega) ?_
        intro v' w8 hown2 hg8 ho8 hbb
        have T8 := (T9.symm.fst hown2 hg8 ho8).symm
        have X8 := X9.low hbb (by omega)
        have Y8 := Y9.low hbb (by omega)
        have L8 := L9.trans (hbb.mono (by omega))
        obtain ⟨Q', cq', rfl, _, _, _⟩ := own_form T8.b
        obtain ⟨x0, x1, x2, x3, x4⟩ := X8.f3
        obtain ⟨y0, y1, y2, y3, y4⟩ := Y8.f3
        clear hown2 hg8 ho8 hbb T9 X9 Y9 L9 hzz9 hrd
        have T10 := T8.set (a := ⟨w.heap.size + 1, 2, none⟩) (u := .slice Q' (k + 1) cq') X8 (by decide)
        have X10 := X8.put2 (.slice Q' (k + 1) cq')
        have Y10 := Y8.far (p := ⟨w.heap.size + 1, 2, none⟩) (by simp) (.slice Q' (k + 1) cq')
        have L10 := L8.setCell (p := ⟨w.heap.size + 1, 2, none⟩) (by simp) (.slice Q' (k + 1) cq')
        clear T8 X8 Y8 L8
        rw [← HK.out, ← HV.out] at T10
        go_wp2
        refine ⟨⟨k + 1, _, _, by omega, by go_num, by rw [HT.out], ?_, T10, X10, Y10, L10⟩, by simp only [intOf]; omega⟩
        rw [HF.out, HG.out s hroom, HT.out, HP.out, List.append_assoc]
        rfl
    · have hkn : k = n := by omega
      subst hkn
      have hl1 : (l.take k).length = k := by rw [List.length_take]; have := HN.out; omega
      have hfin : fit room 0 l = l.take k := by rw [hfit, List.drop_eq_nil_of_le (by rw [HN.out]; omega)]; simp [fit]
      have HF := Lib.hid hfin
      clear hfit hfin
      obtain ⟨P, cp, rfl, _, _, _⟩ := own_form T.a
      obtain ⟨Q, cq, rfl, _, _, _⟩ := own_form T.b
      obtain ⟨x0, x1, x2, x3, x4⟩ := X.f3
      obtain ⟨y0, y1, y2, y3, y4⟩ := Y.f3
      go_wp2
      refine bodyPost_ret (res_cell26 rfl _ w.heap.size rfl _ (Y.put3 _ _ _)) rfl ⟨_, rfl, ?_, below_put3 hbw (Nat.le_refl _) _ _ _⟩
      rw [HF.out]
      exact (T.put3 Y _ _ _).ca hl1 room
end Go.Proofs.Ytecdmgcgplohoaa
