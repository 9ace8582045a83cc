import Derived.Test.YtecdmgcgplohoaaCa24
import Derived.Deep.QuietTactic
import Derived.BigQuiet
namespace Go.Proofs.Ytecdmgcgplohoaa
open Go.ChangeShapes Go.WideShapes Go.ChangeAt Go.RowKit
set_option linter.unusedVariables false
set_option linter.unusedSimpArgs false
attribute [local go_sem] ba_beq ba_bne

/-- the loop that makes the list of all entries -/
def LvRel (M : World) (cur : List En) (e : En) (κ : BA) (sv : Value) (SA : Option Addr) (v i : Value) (wr : World) : Prop :=
  ∃ (k : Nat) (m : List En), k ≤ cur.length ∧ i = .int .i64 k ∧ m = e :: wo (cur.take k) κ ∧ wr.ownsRow M.heap.size 28 2 v m.length (ecells m) ∧ (∀ ad, SA = some ad → v.ownBlock ≠ some ad.block) ∧ Rd wr 28 2 SA cur.length (ecells cur) ∧ Below M.heap.size M wr
theorem own_lit {w : World} {g : Nat} {e : TypeId} {cs : Array Value} {k n base : Nat} (h : Blk w g e cs) (hs : cs.size = n * k) (hb : base ≤ g) (hn : n ≤ 1000) : w.ownsRow base e k (.slice (some ⟨g, 0, none⟩) n n) n cs.toList :=
  ⟨by simpa using hs, .inr ⟨g, n, cs, rfl, hb, h, Nat.le_refl _, by unfold maxLen; omega, hs, by rw [List.take_of_length_le (by simp [hs])]⟩⟩

set_option maxHeartbeats 2000000 in
set_option maxRecDepth 100000 in
theorem leaves_walk (A : Option Addr) (n c : Nat) (ss : List St) (rm : Int) (s : St) (w : World) (hr : Rd w 0 4 A n (scells ss)) (hn : n ≤ maxLen) (hss : ∀ s ∈ ss, s.ok) (hm0 : 0 ≤ rm) (hm1 : rm ≤ 255) (hok : s.ok) :
    Calls Try.prog 6 #[.slice A n c, .int .u8 rm, .agg #[.int .u8 s.wh, .int .u8 s.k, .int .u8 s.v, .bool s.lg]] w fun e w' => e = .returned (.bool true) ∧ Below w.heap.size w w' := by
  unfold maxLen at hn
  obtain ⟨room, hroom⟩ : ∃ room, rm % 13 = room := ⟨_, rfl⟩
  have hr0 : 0 ≤ room ∧ room ≤ 12 := by omega
  obtain ⟨i0, hi0, hz0, hz1, hz2⟩ := info_parts ent_info
  have L : Below w.heap.size w w := Below.refl _ _
  go_enter Try.func6, Try.ntmps6
  go_wp2_with fail
  have le_T := L.size
  have T := Blk.new w 31 #[.int .u8 s.wh, .int .u8 s.k, .int .u8 s.v, .bool s.lg]
  replace L := L.alloc L.size (Obj.cells #[.int .u8 s.wh, .int .u8 s.k, .int .u8 s.v, .bool s.lg] 31)
  generalize w.alloc (Obj.cells #[.int .u8 s.wh, .int .u8 s.k, .int .u8 s.v, .bool s.lg] 31) = m1 at *
  refine (sanity_any _).mono ?_
  rintro e m2 ⟨rfl, hb⟩
  replace T := T.below hb (Nat.le_refl _)
  replace L := L.trans (hb.mono L.size)
  clear hb
  obtain ⟨t_0, t_1, t_2, t_3, t_4, t_5⟩ := T.f4
  go_wp2_with fail
  clear t_0 t_1 t_2 t_3 t_4 t_5
  refine (script_any 0 A n c 12 ss room _ (hr.below L (Nat.le_refl _)) (by unfold maxLen; omega) hr0.1 (by omega) (by omega) hss).mono ?_
  rintro e m3 ⟨V, rfl, C, hb⟩
  replace T := T.below hb (Nat.le_refl _)
  replace L := L.trans (hb.mono L.size)
  clear hb
  have hg := Good.script hr0.1 (ss.take 12)
  generalize hcur : rscript room (ss.take 12) = cur at *
  clear hcur hss hr
  have hsm := hg.sm (by omega)
  obtain ⟨P, cp, Q, cq, rfl⟩ := C.form
  obtain ⟨t_0, t_1, t_2, t_3, t_4, t_5⟩ := T.f4
  go_wp2_with fail
  clear t_0 t_1 t_2 t_3 t_4 t_5
  have lt_T_X := T.lt
  have le_X := L.size
  have X := Blk.new m3 26 #[.int .i64 room, .slice P cur.length cp, .slice Q cur.length cq]
  replace T := T.alloc (Obj.cells #[.int .i64 room, .slice P cur.length cp, .slice Q cur.length cq] 26)
  replace C := C.alloc (Obj.cells #[.int .i64 room, .slice P cur.length cp, .slice Q cur.length cq] 26)
  replace L := L.alloc L.size (Obj.cells #[.int .i64 room, .slice P cur.length cp, .slice Q cur.length cq] 26)
  generalize m3.alloc (Obj.cells #[.int .i64 room, .slice P cur.length cp, .slice Q cur.length cq] 26) = m4 at *
  refine (of_any s.wh s.k s.v s.lg _ hok.2.1 hok.2.2).mono ?_
  rintro e m5 ⟨rfl, hb⟩
  replace T := T.below hb (Nat.le_refl _)
  replace C := C.below hb (Nat.le_refl _)
  replace X := X.below hb (Nat.le_refl _)
  replace L := L.trans (hb.mono L.size)
  clear hb
  have hes := en_size s
  have hg2 := hg.put hr0.1 s.en hes
  obtain ⟨kx, hkx⟩ : ∃ kx, s.en.1 = kx := ⟨_, rfl⟩
  obtain ⟨vx, hvx⟩ : ∃ vx, s.en.2 = vx := ⟨_, rfl⟩
  have hlk : letter (s.k % 6) = kx := hkx
  have hlv : valOf s.v s.lg = vx := hvx
  have hsen : s.en = (kx, vx) := Prod.ext hkx hvx
  rw [hsen] at hes hg2
  simp only at hes hg2
  rw [hlk, hlv]
  clear hkx hvx hlk hlv hsen
  obtain ⟨t_0, t_1, t_2, t_3, t_4, t_5⟩ := T.f4
  obtain ⟨x_0, x_1, x_2, x_3, x_4⟩ := X.f3
  go_wp2_with fail
  clear t_0 t_1 t_2 t_3 t_4 t_5 x_0 x_1 x_2 x_3 x_4
  have lt_T_E := T.lt
  have lt_X_E := X.lt
  have le_E := L.size
  have E := Blk.new m5 28 #[.string kx, .string vx]
  replace T := T.alloc (Obj.cells #[.string kx, .string vx] 28)
  replace C := C.alloc (Obj.cells #[.string kx, .string vx] 28)
  replace X := X.alloc (Obj.cells #[.string kx, .string vx] 28)
  replace L := L.alloc L.size (Obj.cells #[.string kx, .string vx] 28)
  generalize m5.alloc (Obj.cells #[.string kx, .string vx] 28) = m6 at *
  clear T
  refine (put_any room cur _ kx vx _ C hsm.1 (by omega) hg.nd (by omega) (by omega)).mono ?_
  rintro e m7 ⟨V2, rfl, N, hb⟩
  replace C := C.below hb (Nat.le_refl _)
  replace X := X.below hb (Nat.le_refl _)
  replace E := E.below hb (Nat.le_refl _)
  replace L := L.trans (hb.mono L.size)
  clear hb
  have hsm2 := hg2.sm (by omega)
  obtain ⟨nx, hnx⟩ : ∃ nx, fit room 0 ((kx, vx) :: wo cur kx) = nx := ⟨_, rfl⟩
  have HNX := Lib.hid hnx
  rw [hnx] at hg2 hsm2 N
  clear hnx
  obtain ⟨P2, cp2, Q2, cq2, rfl⟩ := N.form
  go_wp2_with fail
  have lt_X_Z := X.lt
  have lt_E_Z := E.lt
  have le_Z := L.size
  have Z := Blk.new m7 26 #[.int .i64 room, .slice P2 nx.length cp2, .slice Q2 nx.length cq2]
  replace C := C.alloc (Obj.cells #[.int .i64 room, .slice P2 nx.length cp2, .slice Q2 nx.length cq2] 26)
  replace X := X.alloc (Obj.cells #[.int .i64 room, .slice P2 nx.length cp2, .slice Q2 nx.length cq2] 26)
  replace E := E.alloc (Obj.cells #[.int .i64 room, .slice P2 nx.length cp2, .slice Q2 nx.length cq2] 26)
  replace N := N.alloc (Obj.cells #[.int .i64 room, .slice P2 nx.length cp2, .slice Q2 nx.length cq2] 26)
  replace L := L.alloc L.size (Obj.cells #[.int .i64 room, .slice P2 nx.length cp2, .slice Q2 nx.length cq2] 26)
  generalize m7.alloc (Obj.cells #[.int .i64 room, .slice P2 nx.length cp2, .slice Q2 nx.length cq2] 26) = m8 at *
  refine (right_good _ N hg2 hr0.1 (by omega)).mono ?_
  rintro e m9 ⟨rfl, hb⟩
  replace C := C.below hb (Nat.le_refl _)
  replace X := X.below hb (Nat.le_refl _)
  replace E := E.below hb (Nat.le_refl _)
  replace N := N.below hb (Nat.le_refl _)
  replace Z := Z.below hb (Nat.le_refl _)
  replace L := L.trans (hb.mono L.size)
  clear hb
  have H9 := Lib.hid (And.intro L (And.intro C (And.intro X (And.intro E (And.intro N Z)))))
  have hM2 : Below m9.heap.size m9 m9 := Below.refl _ _
  obtain ⟨x_0, x_1, x_2, x_3, x_4⟩ := X.f3
  obtain ⟨e_0, e_1, e_2, e_3⟩ := E.f2
  obtain ⟨z_0, z_1, z_2, z_3, z_4⟩ := Z.f3
  go_wp2_with fail
  clear x_0 x_1 x_2 x_3 x_4 e_0 e_1 e_2 e_3 z_0 z_1 z_2 z_3 z_4
  have lt_X_U := X.lt
  have lt_E_U := E.lt
  have lt_Z_U := Z.lt
  have le_U := L.size
  have U := Blk.new m9 28 #[.string kx, .string vx]
  replace C := C.alloc (Obj.cells #[.string kx, .string vx] 28)
  replace X := X.alloc (Obj.cells #[.string kx, .string vx] 28)
  replace E := E.alloc (Obj.cells #[.string kx, .string vx] 28)
  replace N := N.alloc (Obj.cells #[.string kx, .string vx] 28)
  replace Z := Z.alloc (Obj.cells #[.string kx, .string vx] 28)
  replace L := L.alloc L.size (Obj.cells #[.string kx, .string vx] 28)
  replace hM2 := hM2.alloc hM2.size (Obj.cells #[.string kx, .string vx] 28)
  generalize m9.alloc (Obj.cells #[.string kx, .string vx] 28) = m10 at *
  have hUl := U.lt
  refine (entries_own room cur _ _ C hsm.1).mono ?_
  rintro e m11 ⟨sv, rfl, S, hb⟩
  replace C := C.below hb (Nat.le_refl _)
  replace X := X.below hb (Nat.le_refl _)
  replace E := E.below hb (Nat.le_refl _)
  replace N := N.below hb (Nat.le_refl _)
  replace Z := Z.below hb (Nat.le_refl _)
  replace U := U.below hb (Nat.le_refl _)
  replace L := L.trans (hb.mono L.size)
  replace hM2 := hM2.trans (hb.mono hM2.size)
  clear hb
  obtain ⟨SA, sc, rfl, hS, hsc1, hsc2⟩ := own_form S
  have hSa := Rd.own0 S
  clear S
  have hgl : cur.length ≤ 60 := hsm.2
  have hO : m11.ownsRow m9.heap.size 28 2 (.slice (some ⟨m9.heap.size, 0, none⟩) 1 1) 1 (ecells [(kx, vx)]) := own_lit U rfl (Nat.le_refl _) (by omega)
  go_wp2_with fail
  go_loopw [11, 13] (fun v i wr => LvRel m9 cur (kx, vx) kx (.slice SA cur.length sc) SA v i wr) (fun _ i _ => 200 - (intOf i).toNat)
  case atStart =>
    refine ⟨0, [(kx, vx)], by omega, rfl, rfl, hO, fun ad e h => ?_, hS, hM2⟩
    have := hSa ad e
    simp [Value.ownBlock] at h
    omega
  case round =>
    clear hO hS
    clear U C X E N Z L
    obtain ⟨i, m, hi, rfl, hm, hown, hne, hS, hbw⟩ := hrel
    have hml : m.length ≤ i + 1 := by rw [hm]; have := wo_le (cur.take i) kx; simp at this ⊢; omega
    obtain ⟨L, C, X, E, N, Z⟩ := H9.out
    replace C := C.below hbw (Nat.le_refl _)
    replace X := X.below hbw (Nat.le_refl _)
    replace E := E.below hbw (Nat.le_refl _)
    replace N := N.below hbw (Nat.le_refl _)
    replace Z := Z.below hbw (Nat.le_refl _)
    replace L := L.trans (hbw.mono L.size)
    by_cases hlt : i < cur.length
    · have hlti : (i : Int) < cur.length := by omega
      have hX2 : (kx, vx) :: wo (cur.take (i + 1)) kx = m ++ (if cur[i].1 ≠ kx then [cur[i]] else []) := by rw [wo_snoc cur i hlt kx, hm]; rfl
      have HX := Lib.hid hX2; clear hX2 hm
      obtain ⟨q0, q1⟩ := ecells_at cur i hlt
      obtain ⟨ad, h1, hadb, c0, c1⟩ := hS.two hlt q0 q1
      subst h1
      have HQ := Lib.hid (And.intro q0 q1)
      clear q0 q1
      generalize cur[i] = pq at *
      obtain ⟨kk, vv⟩ := pq
      simp only at c0 c1 HX HQ
      obtain ⟨e_0, e_1, e_2, e_3⟩ := E.f2
      by_cases he : kk = kx
      · have hX2 : (kx, vx) :: wo (cur.take (i + 1)) kx = m := by rw [HX.out]; simp [he]
        have HX2 := Lib.hid hX2; clear hX2
        go_wp2_with fail
        go_quiet (fail)
        go_wp2
        refine ⟨⟨i + 1, m, by omega, by go_num, HX2.out.symm, own_drewN hown _, hne, hS.drewN _, below_drewN hbw _⟩, by simp only [intOf]; omega⟩
      · have hX2 : (kx, vx) :: wo (cur.take (i + 1)) kx = m ++ [(kk, vv)] := by rw [HX.out]; simp [he]
        have HX2 := Lib.hid hX2; clear hX2
        go_wp2_with fail
        go_quiet (fail)
        replace hown := own_drewN hown nq
        replace hS := hS.drewN nq
        replace hbw := below_drewN hbw nq
        obtain ⟨_, e, hadb, c0, c1⟩ := hS.two hlt HQ.out.1 HQ.out.2
        injection e with e; subst e
        clear e_0 e_1 e_2 e_3 X E Z C N L
        generalize wr.drewN nq = wr at *
        go_wp2_with (at_builtin; apply halt_here)
        apply go_on
        have hO := own_alloc hown (Obj.cells #[.string kk, .string vv] 28)
        refine wpList_app rfl _ _ 45 rfl m9.heap.size 28 i0 _ 2 32 Try.underlying45 hi0 hz0 hz1 hz2 rfl (by decide) _ _ _ rfl hO 28 _ 1 _ _ rfl (Rd.newAt wr _ rfl 28 2 1 #[.string kk, .string vv] (0, 0) [.string kk, .string vv] rfl rfl) (by simp [Value.oneCell']) (by simp only [maxLen]; omega) (by omega) (by have := hbw.size; simp; omega) ?_
        intro v' w8 hown2 hgb hor hbb
        have hb3 := (hbw.alloc hbw.size _).trans hbb
        have hS8 := (hS.alloc (Obj.cells #[.string kk, .string vv] 28)).grown hgb (fun a e h => hne a e h.symm)
        have hne8 : ∀ a, some ad = some a → v'.ownBlock ≠ some a.block := by
          intro a e h
          rcases hor with h1 | h1
          · rw [h1] at h; exact hne a e h
          · rw [h1] at h
            injection e with e; subst e
            have : wr.heap.size + 1 = ad.block := by simpa using h
            omega
        clear hbb hgb hor hne hS hown hbw hO
        go_wp2
        refine ⟨⟨i + 1, m ++ [(kk, vv)], by omega, by go_num, HX2.out.symm, ?_, hne8, hS8, hb3⟩, by simp only [intOf]; omega⟩
        rw [List.length_append, ecells_append]
        exact hown2
    · have hie : i = cur.length := by omega
      subst hie
      rw [List.take_of_length_le (Nat.le_refl _)] at hm
      subst hm
      obtain ⟨wl, hwl⟩ : ∃ wl, (kx, vx) :: wo cur kx = wl := ⟨_, rfl⟩
      rw [hwl] at hown hml
      have HWL := Lib.hid (show fit room 0 wl = nx by rw [← hwl]; exact HNX.out)
      have HWS := Lib.hid (show ∀ e ∈ wl, e.1.size ≤ 1000 ∧ e.2.size ≤ 1000 by
        rw [← hwl]; intro e he
        rcases List.mem_cons.1 he with rfl | he
        · exact ⟨by simp only; omega, by simp only; omega⟩
        · exact hsm.1.2 e ((wo_sub cur kx).subset he))
      clear hwl hne hS hbw hlt
      obtain ⟨WA, wc, rfl, Wt, hwc1, hwc2⟩ := own_form hown
      clear hown
      have hnl : nx.length ≤ wl.length := by rw [← HWL.out]; exact (fit_sub room wl 0).length_le
      obtain ⟨x_0, x_1, x_2, x_3, x_4⟩ := X.f3
      obtain ⟨e_0, e_1, e_2, e_3⟩ := E.f2
      obtain ⟨z_0, z_1, z_2, z_3, z_4⟩ := Z.f3
      go_wp2_with fail
      clear x_0 x_1 x_2 x_3 x_4 e_0 e_1 e_2 e_3 z_0 z_1 z_2 z_3 z_4
      refine (entries_any room nx _ _ N hsm2.1).mono ?_
      rintro e m12 ⟨yv, rfl, Y, hb⟩
      replace C := C.below hb (Nat.le_refl _)
      replace X := X.below hb (Nat.le_refl _)
      replace E := E.below hb (Nat.le_refl _)
      replace N := N.below hb (Nat.le_refl _)
      replace Z := Z.below hb (Nat.le_refl _)
      replace Wt := Wt.below hb (Nat.le_refl _)
      replace L := L.trans (hb.mono L.size)
      clear hb
      obtain ⟨YA, yc, rfl, Y, hyc1, hyc2⟩ := Y
      have hnx6 : nx.length ≤ 60 := hsm2.2
      have hwl6 : wl.length ≤ 61 := by omega
      have hdd : decide (wl.length < nx.length) = false := by simp; omega
      go_wp2_with fail
      have H9 := Lib.hid (And.intro L (And.intro C (And.intro X (And.intro E (And.intro N (And.intro Z (And.intro Wt Y)))))))
      go_loopw [15] (fun i wr => ∃ j : Nat, j ≤ nx.length ∧ i = .int .i64 j ∧ Below m12.heap.size m12 wr) (fun i _ => 200 - (intOf i).toNat)
      case atStart => exact ⟨0, by omega, rfl, Below.refl _ _⟩
      case round =>
        obtain ⟨i, hi, rfl, HX⟩ := hrel
        clear L C X E N Z Wt Y
        obtain ⟨L, C, X, E, N, Z, Wt, Y⟩ := H9.out
        replace C := C.below HX (Nat.le_refl _)
        replace X := X.below HX (Nat.le_refl _)
        replace E := E.below HX (Nat.le_refl _)
        replace N := N.below HX (Nat.le_refl _)
        replace Z := Z.below HX (Nat.le_refl _)
        replace Wt := Wt.below HX (Nat.le_refl _)
        replace Y := Y.below HX (Nat.le_refl _)
        replace L := L.trans (HX.mono L.size)
        by_cases hlt : i < nx.length
        · have hlti : (i : Int) < nx.length := by omega
          obtain ⟨h1, h2⟩ := fit_at room wl i (by rw [HWL.out]; exact hlt)
          simp only [HWL.out] at h2
          obtain ⟨q0, q1⟩ := ecells_at nx i hlt
          obtain ⟨q2, q3⟩ := ecells_at wl i h1
          rw [← h2] at q2 q3
          clear h2
          generalize nx[i] = en at *
          obtain ⟨k1, v1⟩ := en
          simp only at q0 q1 q2 q3
          obtain ⟨ay, e1, _, _, _⟩ := Y.two hlt q0 q1
          subst e1
          obtain ⟨aw, e1, _, _, _⟩ := Wt.two h1 q2 q3
          subst e1
          have HQ2 := Lib.hid (And.intro q0 (And.intro q1 (And.intro q2 q3)))
          clear q0 q1 q2 q3
          have hiw : (i : Int) < wl.length := by omega
          have heq := eq28
          go_wp2_with fail
          have hc : ∀ W, Ext wr.drew W → Rd W 28 2 (some ay) nx.length (ecells nx) ∧ Rd W 28 2 (some aw) wl.length (ecells wl) ∧ W.cell? (ay.add (i * 2)) = some (.string k1) ∧ W.cell? ⟨(ay.add (i * 2)).block, (ay.add (i * 2)).off + 1, none⟩ = some (.string v1) ∧ W.cell? (aw.add (i * 2)) = some (.string k1) ∧ W.cell? ⟨(aw.add (i * 2)).block, (aw.add (i * 2)).off + 1, none⟩ = some (.string v1) ∧ True := fun W hE => by
            obtain ⟨_, e, _, c0, c1⟩ := (Y.drew.ext hE).two hlt HQ2.out.1 HQ2.out.2.1
            injection e with e; subst e
            obtain ⟨_, e, _, d0, d1⟩ := (Wt.drew.ext hE).two h1 HQ2.out.2.2.1 HQ2.out.2.2.2
            injection e with e; subst e
            exact ⟨Y.drew.ext hE, Wt.drew.ext hE, c0, c1, d0, d1, trivial⟩
          have HC := Lib.hid hc; clear hc
          refine wp_region_list2 (by kernel_rfl) 9 Ext [] (by kernel_rfl) (fun _ _ d _ _ h => by cases d <;> exact h) rfl Ext.refl (fun _ _ _ => Ext.trans) trivial ?_
          simp only [List.take_succ_cons, List.take_zero, List.take_nil, List.drop_succ_cons, List.drop_zero, List.drop_nil]
          iterate 9
            refine ph_pure (a' := ?_) rfl rfl ?_ (fun m13 hE hG => pureAt_plain rfl ?_) ?_ ?_
            rotate_left 2
            · clear hG; obtain ⟨hY, hWt, c0, c1, d0, d1, _⟩ := HC.out m13 hE; (go_simp; try go_bits); rfl
            · go_simp; rfl
          refine ph_end (fun m13 hE hG => ?_)
          replace Y := Y.drew.ext hE
          replace Wt := Wt.drew.ext hE
          replace L := L.drew.trans (hE.below.mono L.size)
          replace HX := HX.drew.trans (hE.below.mono HX.size)
          clear hE hG HC
          go_wp2
          refine ⟨⟨i + 1, by omega, by go_num, HX⟩, by simp only [intOf]; omega⟩
        · have hin : i = nx.length := by omega
          subst hin
          clear hlt
          by_cases hll : nx.length = wl.length
          · have h0 : ((nx.length : Int) == (wl.length : Int)) = true := by simp [hll]
            have h1 : decide (nx.length = wl.length) = true := by simp [hll]
            have HL := Lib.hid hll
            clear hll
            obtain ⟨x_0, x_1, x_2, x_3, x_4⟩ := X.f3
            obtain ⟨e_0, e_1, e_2, e_3⟩ := E.f2
            obtain ⟨z_0, z_1, z_2, z_3, z_4⟩ := Z.f3
            go_wp2_with fail
            clear x_0 x_1 x_2 x_3 x_4 e_0 e_1 e_2 e_3 z_0 z_1 z_2 z_3 z_4
            have hc : ∀ W, Ext wr.drew W → Rd W 28 2 WA wl.length (ecells wl) ∧ True := fun W hE => by
              exact ⟨Wt.drew.ext hE, trivial⟩
            have HC := Lib.hid hc; clear hc
            refine wp_region_list2 (by kernel_rfl) 22 Ext [] (by kernel_rfl) (fun _ _ d _ _ h => by cases d <;> exact h) rfl Ext.refl (fun _ _ _ => Ext.trans) trivial ?_
            simp only [List.take_succ_cons, List.take_zero, List.take_nil, List.drop_succ_cons, List.drop_zero, List.drop_nil]
            iterate 2
              refine ph_pure (a' := ?_) rfl rfl ?_ (fun m13 hE hG => pureAt_plain rfl ?_) ?_ ?_
              rotate_left 2
              · clear hG; obtain ⟨hWt, _⟩ := HC.out m13 hE; (go_simp; try go_bits); rfl
              · go_simp; rfl
            iterate 6
              refine ph_pure (a' := ?_) rfl rfl ?_ (fun m13 hE hG => pureAt_on (by rfl) ?_) ?_ ?_
              rotate_left 2
              · clear hG; obtain ⟨hWt, _⟩ := HC.out m13 hE; (go_simp; try go_bits); rfl
              · go_simp; rfl
            refine ph_pure (a' := ?_) rfl rfl undef (fun m13 hE hG => pureAt_off (by rfl)) ?_ ?_
            rotate_left 1
            · go_simp; rfl
            refine ph_pure (a' := ?_) rfl rfl undef (fun m13 hE hG => pureAt_off (by rfl)) ?_ ?_
            rotate_left 1
            · go_simp; rfl
            refine ph_pure (a' := ?_) rfl rfl undef (fun m13 hE hG => pureAt_off (by rfl)) ?_ ?_
            rotate_left 1
            · go_simp; rfl
            refine ph_pure (a' := ?_) rfl rfl undef (fun m13 hE hG => pureAt_off (by rfl)) ?_ ?_
            rotate_left 1
            · go_simp; rfl
            refine ph_pure (a' := ?_) rfl rfl undef (fun m13 hE hG => pureAt_off (by rfl)) ?_ ?_
            rotate_left 1
            · go_simp; rfl
            refine ph_pure (a' := ?_) rfl rfl undef (fun m13 hE hG => pureAt_off (by rfl)) ?_ ?_
            rotate_left 1
            · go_simp; rfl
            refine ph_pure (a' := ?_) rfl rfl undef (fun m13 hE hG => pureAt_off (by rfl)) ?_ ?_
            rotate_left 1
            · go_simp; rfl
            refine ph_pure (a' := ?_) rfl rfl undef (fun m13 hE hG => pureAt_off (by rfl)) ?_ ?_
            rotate_left 1
            · go_simp; rfl
            refine ph_pure (a' := ?_) rfl rfl undef (fun m13 hE hG => pureAt_off (by rfl)) ?_ ?_
            rotate_left 1
            · go_simp; rfl
            refine ph_pure (a' := ?_) rfl rfl undef (fun m13 hE hG => pureAt_off (by rfl)) ?_ ?_
            rotate_left 1
            · go_simp; rfl
            refine ph_pure (a' := ?_) rfl rfl undef (fun m13 hE hG => pureAt_off (by rfl)) ?_ ?_
            rotate_left 1
            · go_simp; rfl
            refine ph_pure (a' := ?_) rfl rfl undef (fun m13 hE hG => pureAt_off (by rfl)) ?_ ?_
            rotate_left 1
            · go_simp; rfl
            iterate 1
              refine ph_pure (a' := ?_) rfl rfl ?_ (fun m13 hE hG => pureAt_on (by rfl) ?_) ?_ ?_
              rotate_left 2
              · clear hG; obtain ⟨hWt, _⟩ := HC.out m13 hE; (go_simp; try go_bits); rfl
              · go_simp; rfl
            iterate 1
              refine ph_pure (a' := ?_) rfl rfl ?_ (fun m13 hE hG => pureAt_plain rfl ?_) ?_ ?_
              rotate_left 2
              · clear hG; obtain ⟨hWt, _⟩ := HC.out m13 hE; (go_simp; try go_bits); rfl
              · go_simp; rfl
            refine ph_end (fun m13 hE hG => ?_)
            replace C := C.drew.ext hE
            replace X := X.drew.ext hE
            replace E := E.drew.ext hE
            replace N := N.drew.ext hE
            replace Z := Z.drew.ext hE
            replace Wt := Wt.drew.ext hE
            replace Y := Y.drew.ext hE
            replace L := L.drew.trans (hE.below.mono L.size)
            replace HX := HX.drew.trans (hE.below.mono HX.size)
            clear hE hG HC
            go_wp2
            go_ret
            exact ⟨rfl, L⟩
          · have hlt : nx.length < wl.length := by omega
            have h0 : ((nx.length : Int) == (wl.length : Int)) = false := by simp; omega
            have h1 : decide (nx.length = wl.length) = false := by simp [hll]
            have h2 : ¬ ((nx.length : Int) = (wl.length : Int)) := by omega
            have hov : room < tw nx + wt wl[nx.length] := by
              have := fit_over room wl (by rw [HWL.out]; exact hlt)
              simp only [HWL.out] at this
              exact this
            have hm : wl[nx.length].1.size ≤ 1000 ∧ wl[nx.length].2.size ≤ 1000 := HWS.out _ (List.getElem_mem hlt)
            have htr := tw_range nx hsm2.1 nx.length
            rw [List.take_of_length_le (Nat.le_refl _)] at htr
            have hwr := wt_range _ hm
            obtain ⟨q0, q1⟩ := ecells_at wl nx.length hlt
            obtain ⟨aw, e1, _, _, _⟩ := Wt.two hlt q0 q1
            subst e1
            have HQ := Lib.hid (And.intro q0 q1)
            clear q0 q1
            generalize wl[nx.length] = en at *
            obtain ⟨k1, v1⟩ := en
            simp only at HQ hm
            obtain ⟨T, hT⟩ : ∃ T, tw nx = T := ⟨_, rfl⟩
            obtain ⟨G, hG0⟩ : ∃ G, wt (k1, v1) = G := ⟨_, rfl⟩
            rw [hT] at htr hov
            rw [hG0] at hwr hov
            have HT := Lib.hid hT; have HG0 := Lib.hid hG0
            have HL := Lib.hid hll
            clear hT hG0 hll
            have hlti : (nx.length : Int) < wl.length := by omega
            obtain ⟨x_0, x_1, x_2, x_3, x_4⟩ := X.f3
            obtain ⟨e_0, e_1, e_2, e_3⟩ := E.f2
            obtain ⟨z_0, z_1, z_2, z_3, z_4⟩ := Z.f3
            go_wp2_with fail
            clear x_0 x_1 x_2 x_3 x_4 e_0 e_1 e_2 e_3 z_0 z_1 z_2 z_3 z_4
            have hc : ∀ W, Ext wr.drew W → Ca W room cur (.agg #[.int .i64 room, .slice P cur.length cp, .slice Q cur.length cq]) ∧ W.cell? ⟨m3.heap.size, 0, none⟩ = some (.int .i64 room) ∧ W.cell? ⟨m3.heap.size, 1, none⟩ = some (.slice P cur.length cp) ∧ W.cell? ⟨m3.heap.size, 2, none⟩ = some (.slice Q cur.length cq) ∧ W.cell? ⟨m5.heap.size, 0, none⟩ = some (.string kx) ∧ W.cell? ⟨m5.heap.size, 1, none⟩ = some (.string vx) ∧ Ca W room nx (.agg #[.int .i64 room, .slice P2 nx.length cp2, .slice Q2 nx.length cq2]) ∧ W.cell? ⟨m7.heap.size, 0, none⟩ = some (.int .i64 room) ∧ W.cell? ⟨m7.heap.size, 1, none⟩ = some (.slice P2 nx.length cp2) ∧ W.cell? ⟨m7.heap.size, 2, none⟩ = some (.slice Q2 nx.length cq2) ∧ Rd W 28 2 (some aw) wl.length (ecells wl) ∧ Rd W 28 2 YA nx.length (ecells nx) ∧ W.cell? (aw.add (nx.length * 2)) = some (.string k1) ∧ W.cell? ⟨(aw.add (nx.length * 2)).block, (aw.add (nx.length * 2)).off + 1, none⟩ = some (.string v1) ∧ True := fun W hE => by
              obtain ⟨x_0, x_1, x_2, x_3, x_4⟩ := (X.drew.ext hE).f3
              obtain ⟨e_0, e_1, e_2, e_3⟩ := (E.drew.ext hE).f2
              obtain ⟨z_0, z_1, z_2, z_3, z_4⟩ := (Z.drew.ext hE).f3
              obtain ⟨_, e, _, d0, d1⟩ := (Wt.drew.ext hE).two hlt HQ.out.1 HQ.out.2
              injection e with e; subst e
              exact ⟨C.drew.ext hE, x_0, x_1, x_2, e_0, e_1, N.drew.ext hE, z_0, z_1, z_2, Wt.drew.ext hE, Y.drew.ext hE, d0, d1, trivial⟩
            have HC := Lib.hid hc; clear hc
            refine wp_region_list2 (by kernel_rfl) 22 Ext [(9, Is (.int .i64 T)), (15, Is (.int .i64 G))] (by kernel_rfl) (fun _ _ d _ _ h => by cases d <;> exact h) rfl Ext.refl (fun _ _ _ => Ext.trans) ⟨fun _ _ _ => Is.ext, fun _ _ _ => Is.ext, trivial⟩ ?_
            simp only [List.take_succ_cons, List.take_zero, List.take_nil, List.drop_succ_cons, List.drop_zero, List.drop_nil]
            iterate 2
              refine ph_pure (a' := ?_) rfl rfl ?_ (fun m13 hE hG => pureAt_plain rfl ?_) ?_ ?_
              rotate_left 2
              · clear hG; obtain ⟨hC, x_0, x_1, x_2, e_0, e_1, hN, z_0, z_1, z_2, hWt, hY, d0, d1, _⟩ := HC.out m13 hE; (go_simp; try go_bits); rfl
              · go_simp; rfl
            iterate 7
              refine ph_pure (a' := ?_) rfl rfl ?_ (fun m13 hE hG => pureAt_on (by rfl) ?_) ?_ ?_
              rotate_left 2
              · clear hG; obtain ⟨hC, x_0, x_1, x_2, e_0, e_1, hN, z_0, z_1, z_2, hWt, hY, d0, d1, _⟩ := HC.out m13 hE; (go_simp; try go_bits); rfl
              · go_simp; rfl
            refine ph_op rfl rfl (fun m13 hE hG => opAt_on (by rfl) ?_) (fun v hv => ?_)
            · clear hG
              try clear hG
              obtain ⟨hC, x_0, x_1, x_2, e_0, e_1, hN, z_0, z_1, z_2, hWt, hY, d0, d1, _⟩ := HC.out m13 hE; (go_simp; try go_bits)
              refine (size_any room nx _ _ hN hsm2.1).mono ?_
              rintro e w' ⟨rfl, hb⟩
              exact ⟨_, rfl, hb, by rw [HT.out]; rfl⟩
            obtain ⟨_, _, rfl⟩ := hv
            go_simp
            iterate 5
              refine ph_pure (a' := ?_) rfl rfl ?_ (fun m13 hE hG => pureAt_on (by rfl) ?_) ?_ ?_
              rotate_left 2
              · clear hG; obtain ⟨hC, x_0, x_1, x_2, e_0, e_1, hN, z_0, z_1, z_2, hWt, hY, d0, d1, _⟩ := HC.out m13 hE; (go_simp; try go_bits); rfl
              · go_simp; rfl
            refine ph_op rfl rfl (fun m13 hE hG => opAt_on (by rfl) ?_) (fun v hv => ?_)
            · clear hG
              try clear hG
              obtain ⟨hC, x_0, x_1, x_2, e_0, e_1, hN, z_0, z_1, z_2, hWt, hY, d0, d1, _⟩ := HC.out m13 hE; (go_simp; try go_bits)
              refine (weight_any k1 v1 _ hm.1 hm.2).mono ?_
              rintro e w' ⟨rfl, hb⟩
              exact ⟨_, rfl, hb, by rw [HG0.out]; rfl⟩
            obtain ⟨_, _, rfl⟩ := hv
            go_simp
            iterate 5
              refine ph_pure (a' := ?_) rfl rfl ?_ (fun m13 hE hG => pureAt_on (by rfl) ?_) ?_ ?_
              rotate_left 2
              · clear hG; obtain ⟨hC, x_0, x_1, x_2, e_0, e_1, hN, z_0, z_1, z_2, hWt, hY, d0, d1, _⟩ := HC.out m13 hE; (go_simp; try go_bits); rfl
              · go_simp; rfl
            iterate 1
              refine ph_pure (a' := ?_) rfl rfl ?_ (fun m13 hE hG => pureAt_plain rfl ?_) ?_ ?_
              rotate_left 2
              · clear hG; obtain ⟨hC, x_0, x_1, x_2, e_0, e_1, hN, z_0, z_1, z_2, hWt, hY, d0, d1, _⟩ := HC.out m13 hE; (go_simp; try go_bits); rfl
              · go_simp; rfl
            refine ph_end (fun m13 hE hG => ?_)
            simp only [List.forall_mem_cons] at hG
            replace C := C.drew.ext hE
            replace X := X.drew.ext hE
            replace E := E.drew.ext hE
            replace N := N.drew.ext hE
            replace Z := Z.drew.ext hE
            replace Wt := Wt.drew.ext hE
            replace Y := Y.drew.ext hE
            replace L := L.drew.trans (hE.below.mono L.size)
            replace HX := HX.drew.trans (hE.below.mono HX.size)
            clear hE hG HC
            go_wp2
            go_ret
            exact ⟨rfl, L⟩
end Go.Proofs.Ytecdmgcgplohoaa
