import Derived.Test.YtecdmgcgplohoaaCaK
namespace Go.Proofs.Ytecdmgcgplohoaa
open Go.ChangeShapes Go.WideShapes Go.ChangeAt Go.RowKit
set_option linter.unusedVariables false
set_option linter.unusedSimpArgs false
attribute [local go_sem] ba_beq ba_bne
theorem Ca.rdk {room : Int} {l : List En} {w : World} {r q : Value} {n c : Nat} {A : Option Addr} (h : Ca w room l (.agg #[r, .slice A n c, q])) : Rd w 9 1 A n (strs (keys l)) := by
  obtain ⟨A', a, B, b, e, h1, _⟩ := h.ex
  injection e with e
  simp at e
  obtain ⟨_, ⟨rfl, rfl, rfl⟩, _⟩ := e
  exact h1
theorem Ca.rdv {room : Int} {l : List En} {w : World} {r p : Value} {n c : Nat} {A : Option Addr} (h : Ca w room l (.agg #[r, p, .slice A n c])) : Rd w 9 1 A n (strs (vals l)) := by
  obtain ⟨A', a, B, b, e, _, h1, _⟩ := h.ex
  injection e with e
  simp at e
  obtain ⟨_, _, ⟨rfl, rfl, rfl⟩⟩ := e
  exact h1
theorem Blk.other3 {w : World} {g p : Nat} {t : TypeId} {cs : Array Value} (X : Blk w g t cs) (h : g ≠ p) (v0 v1 v2 : Value) : Blk (((w.setCell ⟨p, 0, none⟩ v0).setCell ⟨p, 1, none⟩ v1).setCell ⟨p, 2, none⟩ v2) g t cs :=
  ((X.far (p := ⟨p, 0, none⟩) h _).far (p := ⟨p, 1, none⟩) h _).far (p := ⟨p, 2, none⟩) h _
theorem Sl.alloc {e : TypeId} {k n : Nat} {xs : List Value} {v : Value} {w : World} (h : Sl e k n xs v w) (o : Obj) : Sl e k n xs v (w.alloc o) := h.ext (Ext.alloc _ _)
theorem Ca.of_sl {w : World} (room : Int) {l : List En} {p q : Value} (h : Sl 9 1 l.length (strs (keys l)) p w) (k : Sl 9 1 l.length (strs (vals l)) q w) : Ca w room l (.agg #[.int .i64 room, p, q]) := by
  obtain ⟨A, a, rfl, h1, h2, h3⟩ := h
  obtain ⟨B, b, rfl, k1, k2, k3⟩ := k
  exact ⟨⟨A, a, B, b, rfl, h1, k1, h2, h3, k2, k3⟩⟩

set_option maxHeartbeats 1000000 in
set_option maxRecDepth 100000 in
theorem keeps_walk (A : Option Addr) (n c : Nat) (ss : List St) (rm : Int) (w : World) (hr : Rd w 0 4 A n (scells ss)) (hn : n ≤ maxLen) (hss : ∀ s ∈ ss, s.ok) (hm0 : 0 ≤ rm) (hm1 : rm ≤ 255) :
    Calls Try.prog 4 #[.slice A n c, .int .u8 rm] w fun e w' => e = .returned (.bool true) ∧ Below w.heap.size w w' := by
  have hlen : ss.length = n := by have := hr.len; rw [scells_len] at this; omega
  have HN := Lib.hid hlen; clear hlen
  unfold maxLen at hn
  go_enter Try.func4, Try.ntmps4
  go_wp2_with fail
  refine (sanity_any _).mono ?_
  rintro e w1 ⟨rfl, L1⟩
  obtain ⟨room, hroom⟩ : ∃ room, rm % 13 = room := ⟨_, rfl⟩
  have hr0 : 0 ≤ room ∧ room ≤ 12 := by omega
  go_wp2_with fail
  go_loopw [7] (fun i wr => LRel 16 n room ss w w1.heap.size i wr) (fun i _ => 200 - (intOf i).toNat)
  case atStart =>
    exact ⟨0, _, _, by omega, by omega, rfl, ca_nil _ room, Blk.new w1 26 _, L1.alloc L1.size _⟩
  case round =>
    clear hroom
    obtain ⟨k, p, q, hk, hkl, rfl, C, X, L⟩ := hrel
    have hg := Good.script hr0.1 (ss.take k)
    have hsm := hg.sm (by omega)
    obtain ⟨P, cp, Q, cq, rfl, rfl⟩ := C.form2
    by_cases hlt : k < n ∧ k < 16
    · obtain ⟨hlt, hlt2⟩ := hlt
      have hks : k < ss.length := by rw [HN.out]; exact hlt
      have HX := Lib.hid (rscript_snoc room ss k hks)
      have hok := hss _ (List.getElem_mem hks)
      obtain ⟨q0, q1, q2, q3⟩ := scells_at ss k hks
      have HQ := Lib.hid (And.intro q0 (And.intro q1 (And.intro q2 q3)))
      have R := hr.below L (Nat.le_refl _)
      obtain ⟨ad, h1, g0, g1, g2, g3⟩ := R.four hlt q0 q1 q2 q3
      subst h1
      have HR := Lib.hid hr; clear hr
      clear q0 q1 q2 q3 g0 g1 g2 g3
      generalize hs : ss[k] = s at *
      generalize hcur : rscript room (ss.take k) = cur at *
      have hltk : (k : Int) < n := by omega
      have hltl : (k : Int) < 16 := by omega
      have hXl := X.lt
      have hLs := L.size
      have hc : ∀ W, Ext wr.drew W → W.cell? ⟨w1.heap.size, 0, none⟩ = some (.int .i64 room) ∧ W.cell? ⟨w1.heap.size, 1, none⟩ = some (.slice P cur.length cp) ∧ W.cell? ⟨w1.heap.size, 2, none⟩ = some (.slice Q cur.length cq) ∧ Ca W room cur (.agg #[.int .i64 room, .slice P cur.length cp, .slice Q cur.length cq]) ∧ Rd W 0 4 (some ad) n (scells ss) ∧ True := fun W hE => by
        obtain ⟨x_0, x_1, x_2, x_3, x_4⟩ := (X.drew.ext hE).f3
        exact ⟨x_0, x_1, x_2, C.drew.ext hE, R.drew.ext hE, trivial⟩
      have HC := Lib.hid hc; clear hc
      go_wp2_with fail
      refine wp_region_list2 (by kernel_rfl) 12 Ext [(2, Full 9 1 0 []), (5, Sl 9 1 cur.length (strs (keys cur))), (6, Full 9 1 0 []), (9, Sl 9 1 cur.length (strs (vals cur))), (11, Box wr.heap.size 26 #[.int .i64 0, .slice none 0 0, .slice none 0 0])] (by kernel_rfl) (fun _ _ d _ _ h => by cases d <;> exact h) rfl Ext.refl (fun _ _ _ => Ext.trans) ⟨fun _ _ _ => Full.ext, fun _ _ _ => Sl.ext, fun _ _ _ => Full.ext, fun _ _ _ => Sl.ext, fun _ _ _ => Box.ext, trivial⟩ ?_
      simp only [List.take_succ_cons, List.take_zero, List.take_nil, List.drop_succ_cons, List.drop_zero, List.drop_nil]
      iterate 2
        refine ph_pure (a' := ?_) rfl rfl ?_ (fun m1 hE hG => pureAt_plain rfl ?_) ?_ ?_
        rotate_left 2
        · clear hG; obtain ⟨x_0, x_1, x_2, hC, hR, _⟩ := HC.out m1 hE; (go_simp; try go_bits); rfl
        · go_simp; rfl
      refine ph_op rfl rfl (fun m1 hE hG => opAt_plain rfl ?_) (fun v hv => ?_)
      · clear hG
        try clear hG
        obtain ⟨x_0, x_1, x_2, hC, hR, _⟩ := HC.out m1 hE; (go_simp; try go_bits)
        exact ⟨Ext.alloc _ _, _, rfl, Rd.newAt _ _ rfl 9 1 0 #[] (0, 0) _ rfl rfl, by simp⟩
      obtain ⟨_, _, A3, rfl, _, _⟩ := hv
      go_simp
      iterate 2
        refine ph_pure (a' := ?_) rfl rfl ?_ (fun m1 hE hG => pureAt_plain rfl ?_) ?_ ?_
        rotate_left 2
        · clear hG; obtain ⟨x_0, x_1, x_2, hC, hR, _⟩ := HC.out m1 hE; (go_simp; try go_bits); rfl
        · go_simp; rfl
      refine ph_op rfl rfl (fun m1 hE hG => opAt_plain rfl ?_) (fun v hv => ?_)
      · skip; simp only [List.forall_mem_cons] at hG; have hr1 := (hG.1 (by kernel_rfl)).at_; obtain ⟨_, _, _, hC, _⟩ := HC.out _ hE; obtain ⟨A', c', w', hrun, hE', hrd, hq1, hq2⟩ := app_copy hr1.1 hC.rdk (by omega)
        try clear hG
        exact opVal_append rfl _ _ 24 rfl _ _ rfl rfl hrun ⟨hE', _, _, rfl, hrd, hq1, hq2⟩
      obtain ⟨_, _, A4, c4', rfl, _, _, _⟩ := hv
      go_simp
      refine ph_op rfl rfl (fun m1 hE hG => opAt_plain rfl ?_) (fun v hv => ?_)
      · clear hG
        try clear hG
        obtain ⟨x_0, x_1, x_2, hC, hR, _⟩ := HC.out m1 hE; (go_simp; try go_bits)
        exact ⟨Ext.alloc _ _, _, rfl, Rd.newAt _ _ rfl 9 1 0 #[] (0, 0) _ rfl rfl, by simp⟩
      obtain ⟨_, _, A5, rfl, _, _⟩ := hv
      go_simp
      iterate 2
        refine ph_pure (a' := ?_) rfl rfl ?_ (fun m1 hE hG => pureAt_plain rfl ?_) ?_ ?_
        rotate_left 2
        · clear hG; obtain ⟨x_0, x_1, x_2, hC, hR, _⟩ := HC.out m1 hE; (go_simp; try go_bits); rfl
        · go_simp; rfl
      refine ph_op rfl rfl (fun m1 hE hG => opAt_plain rfl ?_) (fun v hv => ?_)
      · skip; simp only [List.forall_mem_cons] at hG; have hr1 := (hG.1 (by kernel_rfl)).at_; obtain ⟨_, _, _, hC, _⟩ := HC.out _ hE; obtain ⟨A', c', w', hrun, hE', hrd, hq1, hq2⟩ := app_copy hr1.1 hC.rdv (by omega)
        try clear hG
        exact opVal_append rfl _ _ 24 rfl _ _ rfl rfl hrun ⟨hE', _, _, rfl, hrd, hq1, hq2⟩
      obtain ⟨_, _, A6, c6', rfl, _, _, _⟩ := hv
      go_simp
      iterate 1
        refine ph_pure (a' := ?_) rfl rfl ?_ (fun m1 hE hG => pureAt_plain rfl ?_) ?_ ?_
        rotate_left 2
        · clear hG; obtain ⟨x_0, x_1, x_2, hC, hR, _⟩ := HC.out m1 hE; (go_simp; try go_bits); rfl
        · go_simp; rfl
      refine ph_op rfl rfl (fun m1 hE hG => opAt_plain rfl ?_) (fun v hv => ?_)
      · clear hG
        try clear hG
        obtain ⟨x_0, x_1, x_2, hC, hR, _⟩ := HC.out m1 hE; (go_simp; try go_bits)
        exact ⟨Ext.alloc _ _, Box.new (Below.size (Below.trans (Below.refl _ _).drew hE)) _ _⟩
      obtain ⟨_, _, p8, rfl, hp8, _⟩ := hv
      go_simp
      refine ph_end (fun m1 hE hG => ?_)
      simp only [List.forall_mem_cons] at hG
      have QK := hG.2.2.2.1
      have QV := hG.2.1
      have QY := hG.1
      replace X := X.drew.ext hE
      replace C := C.drew.ext hE
      replace R := R.drew.ext hE
      replace L := L.drew.trans (hE.below.mono L.size)
      clear hE hG HC
      have Y := (Box.at_ QY).2; clear QY
      have D := Ca.of_sl room QK QV
      clear QK QV
      obtain ⟨y_0, y_1, y_2, y_3, y_4⟩ := Y.f3
      go_wp2_with fail
      clear R
      clear y_0 y_1 y_2 y_3 y_4
      replace X := X.other3 (p := p8) (by omega) (.int .i64 room) (.slice A4 cur.length c4') (.slice A6 cur.length c6')
      replace C := C.put3 Y (.int .i64 room) (.slice A4 cur.length c4') (.slice A6 cur.length c6')
      replace D := D.put3 Y (.int .i64 room) (.slice A4 cur.length c4') (.slice A6 cur.length c6')
      replace L := below_put3 L (show w.heap.size ≤ p8 by omega) (.int .i64 room) (.slice A4 cur.length c4') (.slice A6 cur.length c6')
      replace Y := Y.put3 (.int .i64 room) (.slice A4 cur.length c4') (.slice A6 cur.length c6')
      generalize ((m1.setCell ⟨p8, 0, none⟩ (.int .i64 room)).setCell ⟨p8, 1, none⟩ (.slice A4 cur.length c4')).setCell ⟨p8, 2, none⟩ (.slice A6 cur.length c6') = m2 at *
      have R := HR.out.below L (Nat.le_refl _)
      have hl_X := X.lt
      have hl_Y := Y.lt
      have hLs := L.size
      have hc : ∀ W, Ext m2.drew W → W.cell? ⟨w1.heap.size, 0, none⟩ = some (.int .i64 room) ∧ W.cell? ⟨w1.heap.size, 1, none⟩ = some (.slice P cur.length cp) ∧ W.cell? ⟨w1.heap.size, 2, none⟩ = some (.slice Q cur.length cq) ∧ Ca W room cur (.agg #[.int .i64 room, .slice P cur.length cp, .slice Q cur.length cq]) ∧ W.cell? ⟨p8, 0, none⟩ = some (.int .i64 room) ∧ W.cell? ⟨p8, 1, none⟩ = some (.slice A4 cur.length c4') ∧ W.cell? ⟨p8, 2, none⟩ = some (.slice A6 cur.length c6') ∧ Ca W room cur (.agg #[.int .i64 room, .slice A4 cur.length c4', .slice A6 cur.length c6']) ∧ Rd W 0 4 (some ad) n (scells ss) ∧ W.cell? (ad.add (k * 4)) = some (.int .u8 s.wh) ∧ W.cell? ⟨(ad.add (k * 4)).block, (ad.add (k * 4)).off + 1, none⟩ = some (.int .u8 s.k) ∧ W.cell? ⟨(ad.add (k * 4)).block, (ad.add (k * 4)).off + 2, none⟩ = some (.int .u8 s.v) ∧ W.cell? ⟨(ad.add (k * 4)).block, (ad.add (k * 4)).off + 3, none⟩ = some (.bool s.lg) ∧ True := fun W hE => by
        obtain ⟨x_0, x_1, x_2, x_3, x_4⟩ := (X.drew.ext hE).f3
        obtain ⟨y_0, y_1, y_2, y_3, y_4⟩ := (Y.drew.ext hE).f3
        obtain ⟨_, e, g0, g1, g2, g3⟩ := (R.drew.ext hE).four hlt HQ.out.1 HQ.out.2.1 HQ.out.2.2.1 HQ.out.2.2.2
        injection e with e; subst e
        exact ⟨x_0, x_1, x_2, C.drew.ext hE, y_0, y_1, y_2, D.drew.ext hE, R.drew.ext hE, g0, g1, g2, g3, trivial⟩
      have HC := Lib.hid hc; clear hc
      refine wp_region_list2 (by kernel_rfl) 7 Ext [(5, IsCa room (rstep room cur s)), (6, Box m2.heap.size 26 #[.int .i64 0, .slice none 0 0, .slice none 0 0])] (by kernel_rfl) (fun _ _ d _ _ h => by cases d <;> exact h) rfl Ext.refl (fun _ _ _ => Ext.trans) ⟨fun _ _ _ => IsCa.ext, fun _ _ _ => Box.ext, trivial⟩ ?_
      simp only [List.take_succ_cons, List.take_zero, List.take_nil, List.drop_succ_cons, List.drop_zero, List.drop_nil]
      iterate 5
        refine ph_pure (a' := ?_) rfl rfl ?_ (fun m3 hE hG => pureAt_plain rfl ?_) ?_ ?_
        rotate_left 2
        · clear hG; obtain ⟨x_0, x_1, x_2, hC, y_0, y_1, y_2, hD, hR, g0, g1, g2, g3, _⟩ := HC.out m3 hE; (go_simp; try go_bits); rfl
        · go_simp; rfl
      refine ph_op rfl rfl (fun m3 hE hG => opAt_plain rfl ?_) (fun v hv => ?_)
      · clear hG
        try clear hG
        obtain ⟨x_0, x_1, x_2, hC, y_0, y_1, y_2, hD, hR, g0, g1, g2, g3, _⟩ := HC.out m3 hE; (go_simp; try go_bits)
        refine (step_good s _ hC hg hr0.1 (by omega) hok).mono ?_
        rintro e w' ⟨v, rfl, hsl, hb⟩
        exact ⟨_, rfl, hb, hsl⟩
      obtain ⟨_, _, hca7⟩ := hv
      obtain ⟨A7, a7, B7, b7, rfl⟩ := Ca.form hca7
      go_simp
      refine ph_op rfl rfl (fun m3 hE hG => opAt_plain rfl ?_) (fun v hv => ?_)
      · clear hG
        try clear hG
        obtain ⟨x_0, x_1, x_2, hC, y_0, y_1, y_2, hD, hR, g0, g1, g2, g3, _⟩ := HC.out m3 hE; (go_simp; try go_bits)
        exact ⟨Ext.alloc _ _, Box.new (Below.size (Below.trans (Below.refl _ _).drew hE)) _ _⟩
      obtain ⟨_, _, p9, rfl, hp_Z, _⟩ := hv
      go_simp
      refine ph_end (fun m3 hE hG => ?_)
      simp only [List.forall_mem_cons] at hG
      have E := hG.2.1
      have QY := hG.1
      replace X := X.drew.ext hE
      replace C := C.drew.ext hE
      replace Y := Y.drew.ext hE
      replace D := D.drew.ext hE
      replace R := R.drew.ext hE
      replace L := L.drew.trans (hE.below.mono L.size)
      clear hE hG HC
      have Z := (Box.at_ QY).2; clear QY
      have hg2 := hg.step hr0.1 s
      generalize hnext : rstep room cur s = next at *
      change Ca _ _ _ _ at E
      obtain ⟨z_0, z_1, z_2, z_3, z_4⟩ := Z.f3
      go_wp2_with fail
      clear R
      clear z_0 z_1 z_2 z_3 z_4
      replace X := X.other3 (p := p9) (by omega) (.int .i64 room) (.slice A7 next.length a7) (.slice B7 next.length b7)
      replace C := C.put3 Z (.int .i64 room) (.slice A7 next.length a7) (.slice B7 next.length b7)
      replace Y := Y.other3 (p := p9) (by omega) (.int .i64 room) (.slice A7 next.length a7) (.slice B7 next.length b7)
      replace D := D.put3 Z (.int .i64 room) (.slice A7 next.length a7) (.slice B7 next.length b7)
      replace E := E.put3 Z (.int .i64 room) (.slice A7 next.length a7) (.slice B7 next.length b7)
      replace L := below_put3 L (show w.heap.size ≤ p9 by omega) (.int .i64 room) (.slice A7 next.length a7) (.slice B7 next.length b7)
      replace Z := Z.put3 (.int .i64 room) (.slice A7 next.length a7) (.slice B7 next.length b7)
      generalize ((m3.setCell ⟨p9, 0, none⟩ (.int .i64 room)).setCell ⟨p9, 1, none⟩ (.slice A7 next.length a7)).setCell ⟨p9, 2, none⟩ (.slice B7 next.length b7) = m4 at *
      have R := HR.out.below L (Nat.le_refl _)
      clear hLs hl_X hl_Y
      obtain ⟨x_0, x_1, x_2, x_3, x_4⟩ := X.f3
      obtain ⟨y_0, y_1, y_2, y_3, y_4⟩ := Y.f3
      obtain ⟨z_0, z_1, z_2, z_3, z_4⟩ := Z.f3
      go_wp2_with fail
      clear x_0 x_1 x_2 x_3 x_4 y_0 y_1 y_2 y_3 y_4 z_0 z_1 z_2 z_3 z_4
      refine (right_good _ E hg2 hr0.1 (by omega)).mono ?_
      rintro e m5 ⟨rfl, hb⟩
      replace X := X.below hb (Nat.le_refl _)
      replace C := C.below hb (Nat.le_refl _)
      replace Y := Y.below hb (Nat.le_refl _)
      replace D := D.below hb (Nat.le_refl _)
      replace E := E.below hb (Nat.le_refl _)
      replace Z := Z.below hb (Nat.le_refl _)
      replace R := R.below hb (Nat.le_refl _)
      replace L := L.trans (hb.mono L.size)
      clear hb
      obtain ⟨x_0, x_1, x_2, x_3, x_4⟩ := X.f3
      obtain ⟨y_0, y_1, y_2, y_3, y_4⟩ := Y.f3
      obtain ⟨z_0, z_1, z_2, z_3, z_4⟩ := Z.f3
      go_wp2_with fail
      clear x_0 x_1 x_2 x_3 x_4 y_0 y_1 y_2 y_3 y_4 z_0 z_1 z_2 z_3 z_4
      refine (same_any room room cur cur _ _ _ C D (by omega) true (by simp)).mono ?_
      rintro e m6 ⟨rfl, hb⟩
      replace X := X.below hb (Nat.le_refl _)
      replace C := C.below hb (Nat.le_refl _)
      replace Y := Y.below hb (Nat.le_refl _)
      replace D := D.below hb (Nat.le_refl _)
      replace E := E.below hb (Nat.le_refl _)
      replace Z := Z.below hb (Nat.le_refl _)
      replace R := R.below hb (Nat.le_refl _)
      replace L := L.trans (hb.mono L.size)
      clear hb
      obtain ⟨x_0, x_1, x_2, x_3, x_4⟩ := X.f3
      obtain ⟨y_0, y_1, y_2, y_3, y_4⟩ := Y.f3
      obtain ⟨z_0, z_1, z_2, z_3, z_4⟩ := Z.f3
      have hw1 : w.heap.size ≤ w1.heap.size := L1.size
      go_wp2
      refine ⟨⟨k + 1, _, _, by omega, by omega, by go_num, ?_, X.put3 _ _ _, below_put3 L hw1 _ _ _⟩, by simp only [intOf]; omega⟩
      rw [HX.out]; exact Ca.put3 E X _ _ _
    · clear hg
      obtain ⟨x0, x1, x2, x3, x4⟩ := X.f3
      by_cases h1 : (k : Int) < n
      · have h2 : ¬ (k : Int) < 16 := by omega
        clear hlt
        go_wp2
        go_ret
        exact ⟨rfl, L⟩
      · clear hlt
        go_wp2
        go_ret
        exact ⟨rfl, L⟩
end Go.Proofs.Ytecdmgcgplohoaa
