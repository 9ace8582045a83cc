import Derived.Test.YtecdmgcgplohoaaCa18
namespace Go.Proofs.Ytecdmgcgplohoaa
open Go.ChangeShapes Go.WideShapes Go.ChangeAt Go.RowKit
set_option linter.unusedVariables false
set_option linter.unusedSimpArgs false
attribute [local go_sem] ba_beq ba_bne

/-- the loop of the laws over a script -/
def LRel (lim n : Nat) (room : Int) (ss : List St) (w : World) (g : Nat) (i : Value) (wr : World) : Prop :=
  ∃ (k : Nat) (p q : Value), k ≤ n ∧ k ≤ lim ∧ i = .int .i64 k ∧ Ca wr room (rscript room (ss.take k)) (.agg #[.int .i64 room, p, q]) ∧ Blk wr g 26 #[.int .i64 room, p, q] ∧ Below w.heap.size w wr
set_option maxHeartbeats 4000000 in
set_option maxRecDepth 100000 in
theorem matches_walk (A : Option Addr) (n c : Nat) (ss : List St) (rm : Int) (w : World) (hr : Rd w 0 4 A n (scells ss)) (hn : n ≤ maxLen) (hss : ∀ s ∈ ss, s.ok) (hm0 : 0 ≤ rm) (hm1 : rm ≤ 255) :
    Calls Try.prog 3 #[.slice A n c, .int .u8 rm] w fun e w' => e = .returned (.bool true) ∧ Below w.heap.size w w' := by
  have hlen : ss.length = n := by have := hr.len; rw [scells_len] at this; omega
  have HN := Lib.hid hlen; clear hlen
  unfold maxLen at hn
  go_enter Try.func3, Try.ntmps3
  go_wp2_with fail
  refine (sanity_any _).mono ?_
  rintro e w1 ⟨rfl, L1⟩
  obtain ⟨room, hroom⟩ : ∃ room, rm % 13 = room := ⟨_, rfl⟩
  have hr0 : 0 ≤ room ∧ room ≤ 12 := by omega
  go_wp2_with fail
  go_loopw [7] (fun i wr => LRel 16 n room ss w w1.heap.size i wr) (fun i _ => 200 - (intOf i).toNat)
  case atStart =>
    exact ⟨0, _, _, by omega, by omega, rfl, ca_nil _ room, Blk.new w1 26 _, L1.alloc L1.size _⟩
  case round =>
    clear hroom
    obtain ⟨k, p, q, hk, hkl, rfl, hCa, X, hbw⟩ := hrel
    have hg := Good.script hr0.1 (ss.take k)
    have hsm := hg.sm (by omega)
    obtain ⟨P, cp, Q, cq, hpq, _, _, _⟩ := hCa.ex
    injection hpq with hpq
    simp only [Array.mk.injEq, List.cons.injEq, and_true, true_and] at hpq
    obtain ⟨rfl, rfl⟩ := hpq
    by_cases hlt : k < n ∧ k < 16
    · obtain ⟨hlt, hlt2⟩ := hlt
      have hks : k < ss.length := by rw [HN.out]; exact hlt
      have HX := Lib.hid (rscript_snoc room ss k hks)
      have hok := hss _ (List.getElem_mem hks)
      obtain ⟨q0, q1, q2, q3⟩ := scells_at ss k hks
      have HQ := Lib.hid (And.intro q0 (And.intro q1 (And.intro q2 q3)))
      have hr2 := hr.below hbw (Nat.le_refl _)
      obtain ⟨ad, h1, g0, g1, g2, g3⟩ := hr2.four hlt q0 q1 q2 q3
      subst h1
      clear q0 q1 q2 q3
      generalize hs : ss[k] = s at *
      generalize hcur : rscript room (ss.take k) = cur at *
      have hltk : (k : Int) < n := by omega
      have hltl : (k : Int) < 16 := by omega
      have hes := en_size s
      have hee : s.en = (letter (s.k % 6), valOf s.v s.lg) := rfl
      obtain ⟨x0, x1, x2, x3, x4⟩ := X.f3
      go_wp2_with fail
      refine (of_any s.wh s.k s.v s.lg _ hok.2.1 hok.2.2).mono ?_
      rintro e w2 ⟨rfl, hb⟩
      have L2 := hbw.trans (hb.mono hbw.size)
      have C2 := hCa.below hb (Nat.le_refl _)
      have X2 := X.below hb (Nat.le_refl _)
      have E2 := Blk.new w2 28 #[.string s.en.1, .string s.en.2]
      obtain ⟨kx, hkx⟩ : ∃ kx, s.en.1 = kx := ⟨_, rfl⟩
      obtain ⟨vx, hvx⟩ : ∃ vx, s.en.2 = vx := ⟨_, rfl⟩
      have hlk : letter (s.k % 6) = kx := hkx
      have hlv : valOf s.v s.lg = vx := hvx
      rw [hkx] at hes E2
      rw [hvx] at hes E2
      have HKV := Lib.hid (And.intro hkx hvx)
      rw [hlk, hlv]
      clear hb hbw hCa X x0 x1 x2 x3 x4 g0 g1 g2 g3 hkx hvx hlk hlv hee
      obtain ⟨x0, x1, x2, x3, x4⟩ := X2.f3
      go_wp2_with fail
      refine (lget_any room cur _ kx _ (C2.ext (Ext.alloc _ _)) hsm.1 (by omega) hg.nd (by omega)).mono ?_
      rintro e w3 ⟨p3, q3, rfl, G3, hb⟩
      have L3 : Below w.heap.size w w3 := (L2.alloc L2.size _).trans (hb.mono (by have := L2.size; simp; omega))
      have C3 := (C2.ext (Ext.alloc _ _)).below hb (Nat.le_refl _)
      have X3 := (X2.alloc _).below hb (Nat.le_refl _)
      have E3 := E2.below hb (Nat.le_refl _)
      obtain ⟨A3, a3, B3, b3, hpq, _, _, _⟩ := G3.ex
      injection hpq with hpq
      simp only [Array.mk.injEq, List.cons.injEq, and_true, true_and] at hpq
      obtain ⟨rfl, rfl⟩ := hpq
      generalize hGL : gl room cur kx = gcur at *
      have HGL := Lib.hid hGL
      generalize hGV : gv cur kx = gval at *
      have HGV := Lib.hid hGV
      generalize hGI : gi cur kx = gis at *
      have HGI := Lib.hid hGI
      clear hGV hGI hb L2 C2 X2 E2 x0 x1 x2 x3 x4 hGL
      obtain ⟨x0, x1, x2, x3, x4⟩ := X3.f3
      obtain ⟨e0, e1, e2, e3⟩ := E3.f2
      go_wp2_with fail
      have M3 := Blk.new w3 33 #[.int .i64 room, .slice A3 gcur.length a3, .slice B3 gcur.length b3, .string gval, .bool gis]
      refine (rget_any room cur _ kx _ (C3.ext (Ext.alloc _ _)) hsm.1 (by omega)).mono ?_
      rintro e w4 ⟨p4, q4, rfl, G4, hb⟩
      rw [HGL.out] at G4
      rw [HGV.out, HGI.out]
      have L4 : Below w.heap.size w w4 := (L3.alloc L3.size _).trans (hb.mono (by have := L3.size; simp; omega))
      have C4 := (C3.ext (Ext.alloc _ _)).below hb (Nat.le_refl _)
      replace G3 := (G3.ext (Ext.alloc _ _)).below hb (Nat.le_refl _)
      have X4 := (X3.alloc _).below hb (Nat.le_refl _)
      have E4 := (E3.alloc _).below hb (Nat.le_refl _)
      have M4 := M3.below hb (Nat.le_refl _)
      obtain ⟨A4, a4, B4, b4, hpq, _, _, _⟩ := G4.ex
      injection hpq with hpq
      simp only [Array.mk.injEq, List.cons.injEq, and_true, true_and] at hpq
      obtain ⟨rfl, rfl⟩ := hpq
      clear hb L3 C3 X3 E3 M3 x0 x1 x2 x3 x4 e0 e1 e2 e3
      go_wp2_with fail
      have N4 := Blk.new w4 33 #[.int .i64 room, .slice A4 gcur.length a4, .slice B4 gcur.length b4, .string gval, .bool gis]
      replace G4 := G4.ext (Ext.alloc w4 (Obj.cells #[.int .i64 room, .slice A4 gcur.length a4, .slice B4 gcur.length b4, .string gval, .bool gis] 33))
      replace G3 := G3.ext (Ext.alloc w4 (Obj.cells #[.int .i64 room, .slice A4 gcur.length a4, .slice B4 gcur.length b4, .string gval, .bool gis] 33))
      replace C4 := C4.ext (Ext.alloc w4 (Obj.cells #[.int .i64 room, .slice A4 gcur.length a4, .slice B4 gcur.length b4, .string gval, .bool gis] 33))
      replace X4 := X4.alloc (Obj.cells #[.int .i64 room, .slice A4 gcur.length a4, .slice B4 gcur.length b4, .string gval, .bool gis] 33)
      replace E4 := E4.alloc (Obj.cells #[.int .i64 room, .slice A4 gcur.length a4, .slice B4 gcur.length b4, .string gval, .bool gis] 33)
      replace M4 := M4.alloc (Obj.cells #[.int .i64 room, .slice A4 gcur.length a4, .slice B4 gcur.length b4, .string gval, .bool gis] 33)
      replace L4 := L4.alloc L4.size (Obj.cells #[.int .i64 room, .slice A4 gcur.length a4, .slice B4 gcur.length b4, .string gval, .bool gis] 33)
      generalize w4.alloc (Obj.cells #[.int .i64 room, .slice A4 gcur.length a4, .slice B4 gcur.length b4, .string gval, .bool gis] 33) = w5 at *
      have hc : ∀ W, Ext w5.drew W → W.cell? ⟨w1.heap.size, 0, none⟩ = some (.int .i64 room) ∧ W.cell? ⟨w1.heap.size, 1, none⟩ = some (.slice P cur.length cp) ∧ W.cell? ⟨w1.heap.size, 2, none⟩ = some (.slice Q cur.length cq) ∧
          W.cell? ⟨w2.heap.size, 0, none⟩ = some (.string kx) ∧ W.cell? ⟨w2.heap.size, 1, none⟩ = some (.string vx) ∧
          W.cell? ⟨w3.heap.size, 0, none⟩ = some (.int .i64 room) ∧ W.cell? ⟨w3.heap.size, 1, none⟩ = some (.slice A3 gcur.length a3) ∧ W.cell? ⟨w3.heap.size, 2, none⟩ = some (.slice B3 gcur.length b3) ∧ W.cell? ⟨w3.heap.size, 3, none⟩ = some (.string gval) ∧ W.cell? ⟨w3.heap.size, 4, none⟩ = some (.bool gis) ∧
          W.cell? ⟨w4.heap.size, 0, none⟩ = some (.int .i64 room) ∧ W.cell? ⟨w4.heap.size, 1, none⟩ = some (.slice A4 gcur.length a4) ∧ W.cell? ⟨w4.heap.size, 2, none⟩ = some (.slice B4 gcur.length b4) ∧ W.cell? ⟨w4.heap.size, 3, none⟩ = some (.string gval) ∧ W.cell? ⟨w4.heap.size, 4, none⟩ = some (.bool gis) ∧
          Ca W room cur (.agg #[.int .i64 room, .slice P cur.length cp, .slice Q cur.length cq]) ∧ Ca W room gcur (.agg #[.int .i64 room, .slice A3 gcur.length a3, .slice B3 gcur.length b3]) ∧ Ca W room gcur (.agg #[.int .i64 room, .slice A4 gcur.length a4, .slice B4 gcur.length b4]) := fun W hE => by
        obtain ⟨x0, x1, x2, _, _⟩ := (X4.drew.ext hE).f3
        obtain ⟨e0, e1, _, _⟩ := (E4.drew.ext hE).f2
        obtain ⟨m0, m1, m2, m3, m4, _, _⟩ := (M4.drew.ext hE).f5
        obtain ⟨n0, n1, n2, n3, n4, _, _⟩ := (N4.drew.ext hE).f5
        exact ⟨x0, x1, x2, e0, e1, m0, m1, m2, m3, m4, n0, n1, n2, n3, n4, (C4.below (Below.refl _ _).drew (Nat.le_refl _)).ext hE, (G3.below (Below.refl _ _).drew (Nat.le_refl _)).ext hE, (G4.below (Below.refl _ _).drew (Nat.le_refl _)).ext hE⟩
      have HC := Lib.hid hc; clear hc
      have HDS := Lib.hid (drop_same hg kx)
      have hgG : Good room gcur := by rw [← HGL.out]; exact hg.get hr0.1 kx
      have hgl := (hgG.sm (by omega)).2
      have hwl : (wo cur kx).length ≤ 64 := by have := wo_le cur kx; omega
      have hfl : (fit room 0 ((kx, vx) :: wo cur kx)).length ≤ 64 := by have := (fit_sub room ((kx, vx) :: wo cur kx) 0).length_le; simp only [List.length_cons] at this; have := wo_le cur kx; omega
      refine wp_region_list2 (by kernel_rfl) 45 Ext [(4, Is (.bool true)), (26, IsCa room (fit room 0 ((kx, vx) :: wo cur kx))), (29, IsCa room (fit room 0 ((kx, vx) :: wo cur kx))), (30, Is (.bool true)), (37, IsCa room (wo cur kx)), (41, IsCa room (fit room 0 (wo cur kx))), (42, Is (.bool true))] (by kernel_rfl) (fun _ _ d _ _ h => by cases d <;> exact h) rfl Ext.refl (fun _ _ _ => Ext.trans) ⟨fun _ _ _ => Is.ext, fun _ _ _ => IsCa.ext, fun _ _ _ => IsCa.ext, fun _ _ _ => Is.ext, fun _ _ _ => IsCa.ext, fun _ _ _ => IsCa.ext, fun _ _ _ => Is.ext, trivial⟩ ?_
      simp only [List.take_succ_cons, List.take_zero, List.take_nil, List.drop_succ_cons, List.drop_zero, List.drop_nil]
      iterate 4
        refine ph_pure (a' := ?_) rfl rfl ?_ (fun w9 hE hG => pureAt_plain rfl ?_) ?_ ?_
        rotate_left 2
        · clear hG; obtain ⟨x0, x1, x2, e0, e1, m0, m1, m2, m3, m4, n0, n1, n2, n3, n4, hC, hG3, hG4⟩ := HC.out w9 hE; (go_simp; try go_bits); rfl
        · go_simp; rfl
      refine ph_op rfl rfl (fun w9 hE hG => opAt_plain rfl ?_) (fun v hv => ?_)
      · clear hG
        try clear hG
        obtain ⟨x0, x1, x2, e0, e1, m0, m1, m2, m3, m4, n0, n1, n2, n3, n4, hC, hG3, hG4⟩ := HC.out w9 hE; (go_simp; try go_bits)
        refine (same_any room room gcur gcur _ _ _ hG3 hG4 (by omega) true (by simp)).mono ?_
        rintro e w' ⟨rfl, hb⟩
        exact ⟨_, rfl, hb, rfl⟩
      obtain ⟨_, _, rfl⟩ := hv
      go_simp
      iterate 2
        refine ph_pure (a' := ?_) rfl rfl ?_ (fun w9 hE hG => pureAt_plain rfl ?_) ?_ ?_
        rotate_left 2
        · clear hG; obtain ⟨x0, x1, x2, e0, e1, m0, m1, m2, m3, m4, n0, n1, n2, n3, n4, hC, hG3, hG4⟩ := HC.out w9 hE; (go_simp; try go_bits); rfl
        · go_simp; rfl
      iterate 5
        refine ph_pure (a' := ?_) rfl rfl ?_ (fun w9 hE hG => pureAt_on (by rfl) ?_) ?_ ?_
        rotate_left 2
        · clear hG; obtain ⟨x0, x1, x2, e0, e1, m0, m1, m2, m3, m4, n0, n1, n2, n3, n4, hC, hG3, hG4⟩ := HC.out w9 hE; (go_simp; try go_bits); rfl
        · go_simp; rfl
      iterate 2
        refine ph_pure (a' := ?_) rfl rfl ?_ (fun w9 hE hG => pureAt_plain rfl ?_) ?_ ?_
        rotate_left 2
        · clear hG; obtain ⟨x0, x1, x2, e0, e1, m0, m1, m2, m3, m4, n0, n1, n2, n3, n4, hC, hG3, hG4⟩ := HC.out w9 hE; (go_simp; try go_bits); rfl
        · go_simp; rfl
      iterate 5
        refine ph_pure (a' := ?_) rfl rfl ?_ (fun w9 hE hG => pureAt_on (by rfl) ?_) ?_ ?_
        rotate_left 2
        · clear hG; obtain ⟨x0, x1, x2, e0, e1, m0, m1, m2, m3, m4, n0, n1, n2, n3, n4, hC, hG3, hG4⟩ := HC.out w9 hE; (go_simp; try go_bits); rfl
        · go_simp; rfl
      iterate 2
        refine ph_pure (a' := ?_) rfl rfl ?_ (fun w9 hE hG => pureAt_plain rfl ?_) ?_ ?_
        rotate_left 2
        · clear hG; obtain ⟨x0, x1, x2, e0, e1, m0, m1, m2, m3, m4, n0, n1, n2, n3, n4, hC, hG3, hG4⟩ := HC.out w9 hE; (go_simp; try go_bits); rfl
        · go_simp; rfl
      iterate 5
        refine ph_pure (a' := ?_) rfl rfl ?_ (fun w9 hE hG => pureAt_on (by rfl) ?_) ?_ ?_
        rotate_left 2
        · clear hG; obtain ⟨x0, x1, x2, e0, e1, m0, m1, m2, m3, m4, n0, n1, n2, n3, n4, hC, hG3, hG4⟩ := HC.out w9 hE; (go_simp; try go_bits); rfl
        · go_simp; rfl
      refine ph_op rfl rfl (fun w9 hE hG => opAt_on (by rfl) ?_) (fun v hv => ?_)
      · clear hG
        try clear hG
        obtain ⟨x0, x1, x2, e0, e1, m0, m1, m2, m3, m4, n0, n1, n2, n3, n4, hC, hG3, hG4⟩ := HC.out w9 hE; (go_simp; try go_bits)
        refine (put_any room cur _ kx vx _ hC hsm.1 (by omega) hg.nd (by omega) (by omega)).mono ?_
        rintro e w' ⟨v, rfl, hsl, hb⟩
        exact ⟨_, rfl, hb, hsl⟩
      obtain ⟨_, _, hca5⟩ := hv
      obtain ⟨A5, a5, B5, b5, rfl, _⟩ := hca5.ex
      go_simp
      iterate 2
        refine ph_pure (a' := ?_) rfl rfl ?_ (fun w9 hE hG => pureAt_on (by rfl) ?_) ?_ ?_
        rotate_left 2
        · clear hG; obtain ⟨x0, x1, x2, e0, e1, m0, m1, m2, m3, m4, n0, n1, n2, n3, n4, hC, hG3, hG4⟩ := HC.out w9 hE; (go_simp; try go_bits); rfl
        · go_simp; rfl
      refine ph_op rfl rfl (fun w9 hE hG => opAt_on (by rfl) ?_) (fun v hv => ?_)
      · clear hG
        try clear hG
        obtain ⟨x0, x1, x2, e0, e1, m0, m1, m2, m3, m4, n0, n1, n2, n3, n4, hC, hG3, hG4⟩ := HC.out w9 hE; (go_simp; try go_bits)
        refine (rput_any room cur _ kx vx _ hC hsm.1 (by omega) (by omega) (by omega)).mono ?_
        rintro e w' ⟨v, rfl, hsl, hb⟩
        exact ⟨_, rfl, hb, hsl⟩
      obtain ⟨_, _, hca6⟩ := hv
      obtain ⟨A6, a6, B6, b6, rfl, _⟩ := hca6.ex
      go_simp
      refine ph_op rfl rfl (fun w9 hE hG => opAt_on (by rfl) ?_) (fun v hv => ?_)
      · simp only [List.forall_mem_cons] at hG; have hP := hG.2.1 (by kernel_rfl); have hR := hG.1 (by kernel_rfl)
        try clear hG
        obtain ⟨x0, x1, x2, e0, e1, m0, m1, m2, m3, m4, n0, n1, n2, n3, n4, hC, hG3, hG4⟩ := HC.out w9 hE; (go_simp; try go_bits)
        refine (same_any room room _ _ _ _ _ hP hR hfl true (by simp)).mono ?_
        rintro e w' ⟨rfl, hb⟩
        exact ⟨_, rfl, hb, rfl⟩
      obtain ⟨_, _, rfl⟩ := hv
      go_simp
      iterate 1
        refine ph_pure (a' := ?_) rfl rfl ?_ (fun w9 hE hG => pureAt_on (by rfl) ?_) ?_ ?_
        rotate_left 2
        · clear hG; obtain ⟨x0, x1, x2, e0, e1, m0, m1, m2, m3, m4, n0, n1, n2, n3, n4, hC, hG3, hG4⟩ := HC.out w9 hE; (go_simp; try go_bits); rfl
        · go_simp; rfl
      iterate 2
        refine ph_pure (a' := ?_) rfl rfl ?_ (fun w9 hE hG => pureAt_plain rfl ?_) ?_ ?_
        rotate_left 2
        · clear hG; obtain ⟨x0, x1, x2, e0, e1, m0, m1, m2, m3, m4, n0, n1, n2, n3, n4, hC, hG3, hG4⟩ := HC.out w9 hE; (go_simp; try go_bits); rfl
        · go_simp; rfl
      iterate 3
        refine ph_pure (a' := ?_) rfl rfl ?_ (fun w9 hE hG => pureAt_on (by rfl) ?_) ?_ ?_
        rotate_left 2
        · clear hG; obtain ⟨x0, x1, x2, e0, e1, m0, m1, m2, m3, m4, n0, n1, n2, n3, n4, hC, hG3, hG4⟩ := HC.out w9 hE; (go_simp; try go_bits); rfl
        · go_simp; rfl
      refine ph_op rfl rfl (fun w9 hE hG => opAt_on (by rfl) ?_) (fun v hv => ?_)
      · clear hG
        try clear hG
        obtain ⟨x0, x1, x2, e0, e1, m0, m1, m2, m3, m4, n0, n1, n2, n3, n4, hC, hG3, hG4⟩ := HC.out w9 hE; (go_simp; try go_bits)
        refine (drop_any room cur _ kx _ hC hsm.1 hg.nd).mono ?_
        rintro e w' ⟨v, rfl, hsl, hb⟩
        exact ⟨_, rfl, hb, hsl⟩
      obtain ⟨_, _, hca7⟩ := hv
      obtain ⟨A7, a7, B7, b7, rfl, _⟩ := hca7.ex
      go_simp
      iterate 3
        refine ph_pure (a' := ?_) rfl rfl ?_ (fun w9 hE hG => pureAt_on (by rfl) ?_) ?_ ?_
        rotate_left 2
        · clear hG; obtain ⟨x0, x1, x2, e0, e1, m0, m1, m2, m3, m4, n0, n1, n2, n3, n4, hC, hG3, hG4⟩ := HC.out w9 hE; (go_simp; try go_bits); rfl
        · go_simp; rfl
      refine ph_op rfl rfl (fun w9 hE hG => opAt_on (by rfl) ?_) (fun v hv => ?_)
      · clear hG
        try clear hG
        obtain ⟨x0, x1, x2, e0, e1, m0, m1, m2, m3, m4, n0, n1, n2, n3, n4, hC, hG3, hG4⟩ := HC.out w9 hE; (go_simp; try go_bits)
        refine (rdrop_any room cur _ kx _ hC hsm.1).mono ?_
        rintro e w' ⟨v, rfl, hsl, hb⟩
        exact ⟨_, rfl, hb, hsl⟩
      obtain ⟨_, _, hca8⟩ := hv
      obtain ⟨A8, a8, B8, b8, rfl, _⟩ := hca8.ex
      go_simp
      refine ph_op rfl rfl (fun w9 hE hG => opAt_on (by rfl) ?_) (fun v hv => ?_)
      · simp only [List.forall_mem_cons] at hG; have hP := hG.2.1 (by kernel_rfl); have hR := hG.1 (by kernel_rfl)
        try clear hG
        obtain ⟨x0, x1, x2, e0, e1, m0, m1, m2, m3, m4, n0, n1, n2, n3, n4, hC, hG3, hG4⟩ := HC.out w9 hE; (go_simp; try go_bits)
        refine (same_any room room _ _ _ _ _ hP hR hwl true (by simp [HDS.out])).mono ?_
        rintro e w' ⟨rfl, hb⟩
        exact ⟨_, rfl, hb, rfl⟩
      obtain ⟨_, _, rfl⟩ := hv
      go_simp
      iterate 1
        refine ph_pure (a' := ?_) rfl rfl ?_ (fun w9 hE hG => pureAt_on (by rfl) ?_) ?_ ?_
        rotate_left 2
        · clear hG; obtain ⟨x0, x1, x2, e0, e1, m0, m1, m2, m3, m4, n0, n1, n2, n3, n4, hC, hG3, hG4⟩ := HC.out w9 hE; (go_simp; try go_bits); rfl
        · go_simp; rfl
      iterate 1
        refine ph_pure (a' := ?_) rfl rfl ?_ (fun w9 hE hG => pureAt_plain rfl ?_) ?_ ?_
        rotate_left 2
        · clear hG; obtain ⟨x0, x1, x2, e0, e1, m0, m1, m2, m3, m4, n0, n1, n2, n3, n4, hC, hG3, hG4⟩ := HC.out w9 hE; (go_simp; try go_bits); rfl
        · go_simp; rfl
      refine ph_end (fun w9 hE hG => ?_)
      clear hG
      have X9 := X4.drew.ext hE
      have C9 := (C4.below (Below.refl _ _).drew (Nat.le_refl _)).ext hE
      have L9 := L4.drew.trans (hE.below.mono L4.size)
      have hr9 := hr.below L9 (Nat.le_refl _)
      clear hE HC X4 C4 L4 E4 M4 N4 G3 G4 hca5 hca6 hca7 hca8 hr2
      obtain ⟨q0, q1, q2, q3⟩ := HQ.out
      have hc : ∀ W, Ext w9.drew W → W.cell? ⟨w1.heap.size, 0, none⟩ = some (.int .i64 room) ∧ W.cell? ⟨w1.heap.size, 1, none⟩ = some (.slice P cur.length cp) ∧ W.cell? ⟨w1.heap.size, 2, none⟩ = some (.slice Q cur.length cq) ∧ W.cell? (ad.add (k * 4)) = some (.int .u8 s.wh) ∧ W.cell? ⟨(ad.add (k * 4)).block, (ad.add (k * 4)).off + 1, none⟩ = some (.int .u8 s.k) ∧ W.cell? ⟨(ad.add (k * 4)).block, (ad.add (k * 4)).off + 2, none⟩ = some (.int .u8 s.v) ∧ W.cell? ⟨(ad.add (k * 4)).block, (ad.add (k * 4)).off + 3, none⟩ = some (.bool s.lg) ∧ Ca W room cur (.agg #[.int .i64 room, .slice P cur.length cp, .slice Q cur.length cq]) := fun W hE => by
        obtain ⟨z0, z1, z2, _, _⟩ := (X9.drew.ext hE).f3
        obtain ⟨_, e, g0, g1, g2, g3⟩ := (hr9.drew.ext hE).four hlt q0 q1 q2 q3
        injection e with e; subst e
        exact ⟨z0, z1, z2, g0, g1, g2, g3, (C9.below (Below.refl _ _).drew (Nat.le_refl _)).ext hE⟩
      have HC := Lib.hid hc; clear hc q0 q1 q2 q3
      go_wp2_with fail
      refine wp_region_list2 (by kernel_rfl) 6 Ext [(5, IsCa room (rstep room cur s))] (by kernel_rfl) (fun _ _ d _ _ h => by cases d <;> exact h) rfl Ext.refl (fun _ _ _ => Ext.trans) ⟨fun _ _ _ => IsCa.ext, trivial⟩ ?_
      simp only [List.take_succ_cons, List.take_zero, List.take_nil, List.drop_succ_cons, List.drop_zero, List.drop_nil]
      iterate 5
        refine ph_pure (a' := ?_) rfl rfl ?_ (fun w7 hE hG => pureAt_plain rfl ?_) ?_ ?_
        rotate_left 2
        · clear hG; obtain ⟨u0, u1, u2, u3, u4, u5, u6, hCa⟩ := HC.out w7 hE; (go_simp; try go_bits); rfl
        · go_simp; rfl
      refine ph_op rfl rfl (fun w7 hE hG => opAt_plain rfl ?_) (fun v hv => ?_)
      · clear hG
        try clear hG
        obtain ⟨u0, u1, u2, u3, u4, u5, u6, hCa⟩ := HC.out w7 hE; (go_simp; try go_bits)
        refine (rstep_any room cur _ s _ hCa hsm.1 (by omega) hok).mono ?_
        rintro e w' ⟨v, rfl, hsl, hb⟩
        exact ⟨_, rfl, hb, hsl⟩
      obtain ⟨_, _, hca⟩ := hv
      obtain ⟨A5, c5', B5, d5', rfl, _⟩ := hca.ex
      go_simp
      refine ph_end (fun w7 hE hG => ?_)
      simp only [List.forall_mem_cons] at hG
      have Q5 := hG.1
      have X8 := X9.drew.ext hE
      have L8 := L9.drew.trans (hE.below.mono L9.size)
      have hw1 : w.heap.size ≤ w1.heap.size := L1.size
      obtain ⟨z0, z1, z2, z3, z4⟩ := X8.f3
      clear hE hG HC
      go_wp2
      refine ⟨⟨k + 1, _, _, by omega, by omega, by go_num, ?_, X8.put3 _ _ _, below_put3 L8 hw1 _ _ _⟩, by simp only [intOf]; omega⟩
      rw [HX.out]; exact Ca.put3 Q5 X8 _ _ _
    · clear hg
      obtain ⟨x0, x1, x2, x3, x4⟩ := X.f3
      have hcw : ∀ W, Ext wr.drew W → W.cell? ⟨w1.heap.size, 0, none⟩ = some (.int .i64 room) ∧ W.cell? ⟨w1.heap.size, 1, none⟩ = some (.slice P (rscript room (ss.take k)).length cp) ∧ W.cell? ⟨w1.heap.size, 2, none⟩ = some (.slice Q (rscript room (ss.take k)).length cq) ∧ Ca W room (rscript room (ss.take k)) (.agg #[.int .i64 room, .slice P (rscript room (ss.take k)).length cp, .slice Q (rscript room (ss.take k)).length cq]) := fun W hE => by
        obtain ⟨z0, z1, z2, _, _⟩ := (X.drew.ext hE).f3
        exact ⟨z0, z1, z2, (hCa.below (Below.refl _ _).drew (Nat.le_refl _)).ext hE⟩
      have HC := Lib.hid hcw; clear hcw
      by_cases h1 : (k : Int) < n
      · have h2 : ¬ (k : Int) < 16 := by omega
        clear hlt
        go_wp2_with fail
        refine wp_region_list2 (by kernel_rfl) 10 Ext [(3, IsCa room []), (7, Is (.bool true))] (by kernel_rfl) (fun _ _ d _ _ h => by cases d <;> exact h) rfl Ext.refl (fun _ _ _ => Ext.trans) ⟨fun _ _ _ => IsCa.ext, fun _ _ _ => Is.ext, trivial⟩ ?_
        simp only [List.take_succ_cons, List.take_zero, List.take_nil, List.drop_succ_cons, List.drop_zero, List.drop_nil]
        iterate 2
          refine ph_pure (a' := ?_) rfl rfl ?_ (fun w7 hE hG => pureAt_plain rfl ?_) ?_ ?_
          rotate_left 2
          · clear hG; obtain ⟨u0, u1, u2, hCa⟩ := HC.out w7 hE; (go_simp; try go_bits); rfl
          · go_simp; rfl
        iterate 1
          refine ph_pure (a' := ?_) rfl rfl ?_ (fun w7 hE hG => pureAt_on (by rfl) ?_) ?_ ?_
          rotate_left 2
          · clear hG; obtain ⟨u0, u1, u2, hCa⟩ := HC.out w7 hE; (go_simp; try go_bits); rfl
          · go_simp; rfl
        refine ph_op rfl rfl (fun w7 hE hG => opAt_on (by rfl) ?_) (fun v hv => ?_)
        · clear hG
          try clear hG
          obtain ⟨u0, u1, u2, hCa⟩ := HC.out w7 hE; (go_simp; try go_bits)
          refine (empty_any room _ _ _ hCa).mono ?_
          rintro e w' ⟨v, rfl, hsl, hb⟩
          exact ⟨_, rfl, hb, hsl⟩
        obtain ⟨_, _, hca⟩ := hv
        obtain ⟨A5, c5', B5, d5', rfl, _⟩ := hca.ex
        go_simp
        iterate 3
          refine ph_pure (a' := ?_) rfl rfl ?_ (fun w7 hE hG => pureAt_on (by rfl) ?_) ?_ ?_
          rotate_left 2
          · clear hG; obtain ⟨u0, u1, u2, hCa⟩ := HC.out w7 hE; (go_simp; try go_bits); rfl
          · go_simp; rfl
        refine ph_op rfl rfl (fun w7 hE hG => opAt_on (by rfl) ?_) (fun v hv => ?_)
        · simp only [List.forall_mem_cons] at hG; have hP := hG.1 (by kernel_rfl)
          try clear hG
          obtain ⟨u0, u1, u2, hCa⟩ := HC.out w7 hE; (go_simp; try go_bits)
          refine (same_any room room _ _ _ _ _ hP (ca_nil _ room) (by simp) true (by simp)).mono ?_
          rintro e w' ⟨rfl, hb⟩
          exact ⟨_, rfl, hb, rfl⟩
        obtain ⟨_, _, rfl⟩ := hv
        go_simp
        iterate 2
          refine ph_pure (a' := ?_) rfl rfl ?_ (fun w7 hE hG => pureAt_plain rfl ?_) ?_ ?_
          rotate_left 2
          · clear hG; obtain ⟨u0, u1, u2, hCa⟩ := HC.out w7 hE; (go_simp; try go_bits); rfl
          · go_simp; rfl
        refine ph_end (fun w7 hE hG => ?_)
        have L8 := hbw.drew.trans (hE.below.mono hbw.size)
        clear hE hG HC
        go_wp2
        go_ret
        exact ⟨rfl, L8⟩
      · clear hlt
        go_wp2_with fail
        refine wp_region_list2 (by kernel_rfl) 10 Ext [(3, IsCa room []), (7, Is (.bool true))] (by kernel_rfl) (fun _ _ d _ _ h => by cases d <;> exact h) rfl Ext.refl (fun _ _ _ => Ext.trans) ⟨fun _ _ _ => IsCa.ext, fun _ _ _ => Is.ext, trivial⟩ ?_
        simp only [List.take_succ_cons, List.take_zero, List.take_nil, List.drop_succ_cons, List.drop_zero, List.drop_nil]
        iterate 2
          refine ph_pure (a' := ?_) rfl rfl ?_ (fun w7 hE hG => pureAt_plain rfl ?_) ?_ ?_
          rotate_left 2
          · clear hG; obtain ⟨u0, u1, u2, hCa⟩ := HC.out w7 hE; (go_simp; try go_bits); rfl
          · go_simp; rfl
        iterate 1
          refine ph_pure (a' := ?_) rfl rfl ?_ (fun w7 hE hG => pureAt_on (by rfl) ?_) ?_ ?_
          rotate_left 2
          · clear hG; obtain ⟨u0, u1, u2, hCa⟩ := HC.out w7 hE; (go_simp; try go_bits); rfl
          · go_simp; rfl
        refine ph_op rfl rfl (fun w7 hE hG => opAt_on (by rfl) ?_) (fun v hv => ?_)
        · clear hG
          try clear hG
          obtain ⟨u0, u1, u2, hCa⟩ := HC.out w7 hE; (go_simp; try go_bits)
          refine (empty_any room _ _ _ hCa).mono ?_
          rintro e w' ⟨v, rfl, hsl, hb⟩
          exact ⟨_, rfl, hb, hsl⟩
        obtain ⟨_, _, hca⟩ := hv
        obtain ⟨A5, c5', B5, d5', rfl, _⟩ := hca.ex
        go_simp
        iterate 3
          refine ph_pure (a' := ?_) rfl rfl ?_ (fun w7 hE hG => pureAt_on (by rfl) ?_) ?_ ?_
          rotate_left 2
          · clear hG; obtain ⟨u0, u1, u2, hCa⟩ := HC.out w7 hE; (go_simp; try go_bits); rfl
          · go_simp; rfl
        refine ph_op rfl rfl (fun w7 hE hG => opAt_on (by rfl) ?_) (fun v hv => ?_)
        · simp only [List.forall_mem_cons] at hG; have hP := hG.1 (by kernel_rfl)
          try clear hG
          obtain ⟨u0, u1, u2, hCa⟩ := HC.out w7 hE; (go_simp; try go_bits)
          refine (same_any room room _ _ _ _ _ hP (ca_nil _ room) (by simp) true (by simp)).mono ?_
          rintro e w' ⟨rfl, hb⟩
          exact ⟨_, rfl, hb, rfl⟩
        obtain ⟨_, _, rfl⟩ := hv
        go_simp
        iterate 2
          refine ph_pure (a' := ?_) rfl rfl ?_ (fun w7 hE hG => pureAt_plain rfl ?_) ?_ ?_
          rotate_left 2
          · clear hG; obtain ⟨u0, u1, u2, hCa⟩ := HC.out w7 hE; (go_simp; try go_bits); rfl
          · go_simp; rfl
        refine ph_end (fun w7 hE hG => ?_)
        have L8 := hbw.drew.trans (hE.below.mono hbw.size)
        clear hE hG HC
        go_wp2
        go_ret
        exact ⟨rfl, L8⟩
end Go.Proofs.Ytecdmgcgplohoaa
