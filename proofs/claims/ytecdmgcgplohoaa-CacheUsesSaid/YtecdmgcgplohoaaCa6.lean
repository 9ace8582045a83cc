import Derived.Test.YtecdmgcgplohoaaCa5
namespace Go.Proofs.Ytecdmgcgplohoaa
open Go.ChangeShapes Go.WideShapes Go.ChangeAt Go.RowKit
set_option linter.unusedVariables false
set_option linter.unusedSimpArgs false
attribute [local go_sem] ba_beq ba_bne

set_option maxHeartbeats 1000000 in
set_option maxRecDepth 100000 in
theorem rdrop_any (room : Int) (l : List En) (V : Value) (k : BA) (w : World) (hV : Ca w room l V) (hs : Sm l) :
    Calls Try.prog 17 #[V, .string k] w fun e w' => ∃ V', e = .returned V' ∧ Ca w' room (fit room 0 (wo l k)) V' ∧ Below w.heap.size w w' := by
  obtain ⟨A, c, B, d, rfl, hA, hB, hc1, hc2, hd1, hd2⟩ := hV.ex
  clear hV
  go_enter Try.func17, Try.ntmps17
  go_wp2_with fail
  have X := (Blk.new w 26 #[.int .i64 room, .slice A l.length c, .slice B l.length d]).alloc (Obj.cells #[.int .i64 0, .slice none 0 0, .slice none 0 0] 26)
  have Y := Blk.newAt (w.alloc (Obj.cells #[.int .i64 room, .slice A l.length c, .slice B l.length d] 26)) (w.heap.size + 1) (by simp) 26 #[.int .i64 0, .slice none 0 0, .slice none 0 0]
  have L : Below w.heap.size w ((w.alloc (Obj.cells #[.int .i64 room, .slice A l.length c, .slice B l.length d] 26)).alloc (Obj.cells #[.int .i64 0, .slice none 0 0, .slice none 0 0] 26)) := by go_grown
  have hA1 := hA.below L (Nat.le_refl _)
  have hB1 := hB.below L (Nat.le_refl _)
  generalize (w.alloc (Obj.cells #[.int .i64 room, .slice A l.length c, .slice B l.length d] 26)).alloc (Obj.cells #[.int .i64 0, .slice none 0 0, .slice none 0 0] 26) = w1 at *
  have hc : ∀ W, Ext w1.drew W → W.cell? ⟨w.heap.size, 0, none⟩ = some (.int .i64 room) ∧ W.cell? ⟨w.heap.size, 1, none⟩ = some (.slice A l.length c) ∧ W.cell? ⟨w.heap.size, 2, none⟩ = some (.slice B l.length d) ∧
      Rd W 9 1 A l.length (strs (keys l)) ∧ Rd W 9 1 B l.length (strs (vals l)) := fun W hE => by
    obtain ⟨x0, x1, x2, _, _⟩ := (X.drew.ext hE).f3
    exact ⟨x0, x1, x2, hA1.drew.ext hE, hB1.drew.ext hE⟩
  have HC := Lib.hid hc; clear hc
  refine wp_region_list2 (by kernel_rfl) 7 Ext [(3, Sl 28 2 l.length (ecells l)), (5, Sl 28 2 (wo l k).length (ecells (wo l k))), (6, IsCa room (fit room 0 (wo l k)))] (by kernel_rfl) (fun _ _ d _ _ h => by cases d <;> exact h) rfl Ext.refl (fun _ _ _ => Ext.trans) ⟨fun _ _ _ => Sl.ext, fun _ _ _ => Sl.ext, fun _ _ _ => IsCa.ext, trivial⟩ ?_
  simp only [List.take_succ_cons, List.take_zero, List.take_nil, List.drop_succ_cons, List.drop_zero, List.drop_nil]
  iterate 3
    refine ph_pure (a' := ?_) rfl rfl ?_ (fun w9 hE hG => pureAt_plain rfl ?_) ?_ ?_
    rotate_left 2
    · clear hG; obtain ⟨x0, x1, x2, hA9, hB9⟩ := HC.out w9 hE; (go_simp; try go_bits); rfl
    · go_simp; rfl
  refine ph_op rfl rfl (fun w9 hE hG => opAt_plain rfl ?_) (fun v hv => ?_)
  · clear hG
    try clear hG
    obtain ⟨x0, x1, x2, hA9, hB9⟩ := HC.out w9 hE; (go_simp; try go_bits)
    refine (entries_any room l _ _ ⟨A, c, B, d, rfl, hA9, hB9, hc1, hc2, hd1, hd2⟩ hs).mono ?_
    rintro e w' ⟨v, rfl, hsl, hb⟩
    exact ⟨_, rfl, hb, hsl⟩
  obtain ⟨_, _, A1, c1', rfl, _, _, _⟩ := hv
  go_simp
  iterate 1
    refine ph_pure (a' := ?_) rfl rfl ?_ (fun w9 hE hG => pureAt_plain rfl ?_) ?_ ?_
    rotate_left 2
    · clear hG; obtain ⟨x0, x1, x2, hA9, hB9⟩ := HC.out w9 hE; (go_simp; try go_bits); rfl
    · go_simp; rfl
  refine ph_op rfl rfl (fun w9 hE hG => opAt_plain rfl ?_) (fun v hv => ?_)
  · simp only [List.forall_mem_cons] at hG; obtain ⟨_, hr1, hq1, hq2⟩ := (hG.1 (by kernel_rfl)).at_
    try clear hG
    obtain ⟨x0, x1, x2, hA9, hB9⟩ := HC.out w9 hE; (go_simp; try go_bits)
    refine (without_any _ _ _ l k _ hr1 (by have := hs.1; omega)).mono ?_
    rintro e w' ⟨v, rfl, hsl, hb⟩
    exact ⟨_, rfl, hb, hsl⟩
  obtain ⟨_, _, A2, c2', rfl, _, _, _⟩ := hv
  go_simp
  refine ph_op rfl rfl (fun w9 hE hG => opAt_plain rfl ?_) (fun v hv => ?_)
  · simp only [List.forall_mem_cons] at hG; obtain ⟨_, hr1, hq1, hq2⟩ := (hG.1 (by kernel_rfl)).at_
    try clear hG
    obtain ⟨x0, x1, x2, hA9, hB9⟩ := HC.out w9 hE; (go_simp; try go_bits)
    refine (made_any room _ _ _ (wo l k) _ hr1 (wo_sm k hs)).mono ?_
    rintro e w' ⟨v, rfl, hsl, hb⟩
    exact ⟨_, rfl, hb, hsl⟩
  obtain ⟨_, _, hca⟩ := hv
  obtain ⟨A5, c5', B5, d5', rfl, _⟩ := hca.ex
  go_simp
  refine ph_end (fun w9 hE hG => ?_)
  simp only [List.forall_mem_cons] at hG
  have Q := hG.1
  have Y7 := Y.drew.ext hE
  have L7 := L.drew.trans (hE.below.mono L.size)
  obtain ⟨y0, y1, y2, y3, y4⟩ := Y7.f3
  clear hE hG HC X Y L hca hA1 hB1
  go_wp2
  refine bodyPost_ret (res_cell26 rfl _ (w.heap.size + 1) rfl _ (Y7.put3 _ _ _)) rfl ⟨_, rfl, Ca.put3 Q Y7 _ _ _, below_put3 L7 (by omega) _ _ _⟩
theorem empty_any (room : Int) (l : List En) (V : Value) (w : World) (hV : Ca w room l V) :
    Calls Try.prog 19 #[V] w fun e w' => ∃ V', e = .returned V' ∧ Ca w' room [] V' ∧ Below w.heap.size w w' := by
  obtain ⟨A, c, B, d, rfl, hA, hB, hc1, hc2, hd1, hd2⟩ := hV.ex
  clear hV
  go_enter Try.func19, Try.ntmps19
  go_wp2
  have Y := Blk.newAt (w.alloc (Obj.cells #[.int .i64 room, .slice A l.length c, .slice B l.length d] 26)) (w.heap.size + 1) (by simp) 26 #[.int .i64 room, .slice none 0 0, .slice none 0 0]
  refine bodyPost_ret (res_cell26 rfl _ (w.heap.size + 1) rfl _ Y) rfl ⟨_, rfl, ⟨⟨none, 0, none, 0, rfl, Rd.nil, Rd.nil, Nat.le_refl _, by simp [maxLen], Nat.le_refl _, by simp [maxLen]⟩⟩, by go_grown⟩

/-- the entry of a key -/
def gf (l : List En) (key : BA) : Option En := l.find? fun e => decide (e.1 = key)
def gl (room : Int) (l : List En) (key : BA) : List En := match gf l key with | some e => fit room 0 (e :: wo l key) | none => l
def gv (l : List En) (key : BA) : BA := match gf l key with | some e => e.2 | none => { data := #[] }
def gi (l : List En) (key : BA) : Bool := (gf l key).isSome
theorem gf_at (l : List En) (key : BA) (k : Nat) (h : k < l.length) (hk : l[k].1 = key) (hall : ∀ j (h : j < l.length), j < k → l[j].1 ≠ key) : gf l key = some l[k] := by
  unfold gf
  rw [List.find?_eq_some_iff_getElem]
  refine ⟨by simp [hk], k, h, rfl, fun j hj => ?_⟩
  simpa using hall j (by omega) hj
theorem gf_none (l : List En) (key : BA) (hall : ∀ j (h : j < l.length), l[j].1 ≠ key) : gf l key = none := by
  unfold gf
  rw [List.find?_eq_none]
  intro e he
  obtain ⟨j, hj, rfl⟩ := List.mem_iff_getElem.1 he
  simpa using hall j hj
theorem Blk.f5 {w : World} {g : Nat} {t : TypeId} {u0 u1 u2 u3 u4 : Value} (h : Blk w g t #[u0, u1, u2, u3, u4]) : w.cell? ⟨g, 0, none⟩ = some u0 ∧ w.cell? ⟨g, 1, none⟩ = some u1 ∧ w.cell? ⟨g, 2, none⟩ = some u2 ∧ w.cell? ⟨g, 3, none⟩ = some u3 ∧ w.cell? ⟨g, 4, none⟩ = some u4 ∧ (∀ o, w.frozen? ⟨g, o, none⟩ = false) ∧ g < w.heap.size := ⟨h.cell 0, h.cell 1, h.cell 2, h.cell 3, h.cell 4, h.frozen, h.lt⟩
def W5 (w : World) (g : Nat) (v0 v1 v2 v3 v4 : Value) : World := ((((w.setCell ⟨g, 0, none⟩ v0).setCell ⟨g, 1, none⟩ v1).setCell ⟨g, 2, none⟩ v2).setCell ⟨g, 3, none⟩ v3).setCell ⟨g, 4, none⟩ v4
theorem Blk.put5 {w : World} {g : Nat} {u0 u1 u2 u3 u4 : Value} (Y : Blk w g 33 #[u0, u1, u2, u3, u4]) (v0 v1 v2 v3 v4 : Value) : Blk (W5 w g v0 v1 v2 v3 v4) g 33 #[v0, v1, v2, v3, v4] := by
  have h := ((((Y.set_ 0 v0).set_ 1 v1).set_ 2 v2).set_ 3 v3).set_ 4 v4
  simpa [W5] using h
theorem Ca.put5 {w : World} {g : Nat} {room : Int} {l : List En} {V : Value} (h : Ca w room l V) {u0 u1 u2 u3 u4 : Value} (Y : Blk w g 33 #[u0, u1, u2, u3, u4]) (v0 v1 v2 v3 v4 : Value) : Ca (W5 w g v0 v1 v2 v3 v4) room l V := by
  obtain ⟨A, c, B, d, h1, h2, h3, h4⟩ := h.ex
  have go : ∀ {A n xs}, Rd w 9 1 A n xs → Rd (W5 w g v0 v1 v2 v3 v4) 9 1 A n xs := fun hr =>
    ((((hr.set (by decide) (p := ⟨g, 0, none⟩) Y (by decide)).set (by decide) (p := ⟨g, 1, none⟩) (Y.set_ 0 v0) (by decide)).set (by decide) (p := ⟨g, 2, none⟩) ((Y.set_ 0 v0).set_ 1 v1) (by decide)).set (by decide) (p := ⟨g, 3, none⟩) (((Y.set_ 0 v0).set_ 1 v1).set_ 2 v2) (by decide)).set (by decide) (p := ⟨g, 4, none⟩) ((((Y.set_ 0 v0).set_ 1 v1).set_ 2 v2).set_ 3 v3) (by decide)
  exact ⟨⟨A, c, B, d, h1, go h2, go h3, h4⟩⟩
theorem below_put5 {w a : World} {B g : Nat} (h : Below B a w) (hg : B ≤ g) (v0 v1 v2 v3 v4 : Value) : Below B a (W5 w g v0 v1 v2 v3 v4) :=
  ((((h.setCell hg v0).setCell hg v1).setCell hg v2).setCell hg v3).setCell hg v4
theorem res_cell33 {fn : Func} {t : Tmp} (h : fn.results = #[.cell t 33]) (tmps : Array Value) (g : Nat) (ht : tmps.getD t undef = .pointer (some ⟨g, 0, none⟩)) (w : World) {v0 v1 v2 v3 v4 : Value} (Y : Blk w g 33 #[v0, v1, v2, v3, v4]) :
    (results fn tmps).run Try.prog w = .ok (.agg #[v0, v1, v2, v3, v4]) w := by
  obtain ⟨y0, y1, y2, y3, y4, y5, y6⟩ := Y.f5
  rw [Array.getD_eq_getD_getElem?] at ht
  simp [results, h, ht, go_sem, y0, y1, y2, y3, y4]
set_option maxHeartbeats 1000000 in
set_option maxRecDepth 100000 in
theorem rget_any (room : Int) (l : List En) (V : Value) (key : BA) (w : World) (hV : Ca w room l V) (hs : Sm l) (hl : l.length ≤ 63) :
    Calls Try.prog 12 #[V, .string key] w fun e w' => ∃ p q, e = .returned (.agg #[.int .i64 room, p, q, .string (gv l key), .bool (gi l key)]) ∧ Ca w' room (gl room l key) (.agg #[.int .i64 room, p, q]) ∧ Below w.heap.size w w' := by
  have hV0 := hV
  obtain ⟨A, c, B, d, rfl, hA, hB, hc1, hc2, hd1, hd2⟩ := hV.ex
  clear hV
  obtain ⟨i0, hi0, hz0, hz1, hz2⟩ := info_parts ent_info
  have hwl := wo_le l key
  go_enter Try.func12, Try.ntmps12
  go_wp2_with fail
  have X := (Blk.new w 26 #[.int .i64 room, .slice A l.length c, .slice B l.length d]).alloc (Obj.cells #[.int .i64 0, .slice none 0 0, .slice none 0 0, .string { data := #[] }, .bool false] 33)
  have Y := Blk.newAt (w.alloc (Obj.cells #[.int .i64 room, .slice A l.length c, .slice B l.length d] 26)) (w.heap.size + 1) (by simp) 33 #[.int .i64 0, .slice none 0 0, .slice none 0 0, .string { data := #[] }, .bool false]
  have L : Below w.heap.size w ((w.alloc (Obj.cells #[.int .i64 room, .slice A l.length c, .slice B l.length d] 26)).alloc (Obj.cells #[.int .i64 0, .slice none 0 0, .slice none 0 0, .string { data := #[] }, .bool false] 33)) := by go_grown
  have hA1 := hA.below L (Nat.le_refl _)
  have hB1 := hB.below L (Nat.le_refl _)
  generalize (w.alloc (Obj.cells #[.int .i64 room, .slice A l.length c, .slice B l.length d] 26)).alloc (Obj.cells #[.int .i64 0, .slice none 0 0, .slice none 0 0, .string { data := #[] }, .bool false] 33) = w1 at *
  refine (entries_any room l _ _ ⟨A, c, B, d, rfl, hA1, hB1, hc1, hc2, hd1, hd2⟩ hs).mono ?_
  rintro e w2 ⟨v, rfl, ⟨A1, c1', rfl, hr, hc1', hc2'⟩, hb⟩
  have X2 := X.below hb (Nat.le_refl _)
  have Y2 := Y.below hb (Nat.le_refl _)
  have L2 := L.trans (hb.mono L.size)
  have hA2 := hA1.below hb (Nat.le_refl _)
  have hB2 := hB1.below hb (Nat.le_refl _)
  clear hb X Y L hA1 hB1 hV0
  generalize hN : l.length = n at *
  have HN := Lib.hid hN
  clear hN
  go_wp2_with fail
  go_loopw [6] (fun i wr => ∃ k : Nat, k ≤ n ∧ i = .int .i64 k ∧ (∀ j (h : j < l.length), j < k → l[j].1 ≠ key) ∧ wr = w2) (fun i _ => 100 - (intOf i).toNat)
  case atStart => exact ⟨0, by omega, rfl, by omega, rfl⟩
  case round =>
    obtain ⟨k, hk, rfl, hall, rfl⟩ := hrel
    by_cases hlt : k < n
    · have hkl : k < l.length := by rw [HN.out]; exact hlt
      have hlt' : (k : Int) < (n : Int) := by omega
      obtain ⟨q0, q1⟩ := ecells_at l k hkl
      obtain ⟨ad, h1, _, c0, c1⟩ := hr.two hlt q0 q1
      subst h1
      have HH := Lib.hid hall; clear hall
      have HG := Lib.hid (fun h1 => gf_at l key k hkl h1 HH.out)
      have hsm := hs.2 _ (List.getElem_mem hkl)
      generalize hpq : l[k] = pq at *
      have HP := Lib.hid hpq; clear hpq
      obtain ⟨kk, vv⟩ := pq
      simp only at c0 c1 HG hsm q0 q1
      by_cases he : kk = key
      · have hd : decide (kk = key) = true := by simp [he]
        have HS := Lib.hid (cons_sm (N := 0) kk vv (wo_sm key hs) (Nat.le_trans (wo_le l key) (by have := HN.out; omega)) hsm.1 hsm.2)
        go_wp2_with fail
        refine (without_any _ _ _ l key _ hr (by omega)).mono ?_
        rintro e w3 ⟨v, rfl, ⟨A2, c2', rfl, hr2, hq3, hq4⟩, hb⟩
        have X3 := X2.below hb (Nat.le_refl _)
        have Y3 := Y2.below hb (Nat.le_refl _)
        have L3 := L2.trans (hb.mono L2.size)
        have hr3 := hr.below hb (Nat.le_refl _)
        clear hb X2 Y2 L2 hA2 hB2 hr c0 c1
        have hc : ∀ W, Ext w3.drew W → W.cell? ⟨w.heap.size, 0, none⟩ = some (.int .i64 room) ∧ W.cell? (ad.add (k * 2)) = some (.string kk) ∧ W.cell? ⟨(ad.add (k * 2)).block, (ad.add (k * 2)).off + 1, none⟩ = some (.string vv) := fun W hE => by
          obtain ⟨x0, _, _, _, _⟩ := (X3.drew.ext hE).f3
          obtain ⟨_, e, _, g1, g2⟩ := (hr3.drew.ext hE).two hlt q0 q1
          injection e with e; subst e
          exact ⟨x0, g1, g2⟩
        have HC := Lib.hid hc; clear hc
        have hw : ∀ W, Ext w3.drew W → Rd W 28 2 A2 (wo l key).length (ecells (wo l key)) := fun W hE => hr2.drew.ext hE
        have HW := Lib.hid hw; clear hw hr2
        have HX := Lib.hid he
        clear he
        go_wp2_with fail
        refine wp_region_list2 (by kernel_rfl) 16 Ext [(6, Full 28 2 1 [.string kk, .string vv]), (8, Sl 28 2 (1 + (wo l key).length) (ecells ((kk, vv) :: wo l key))), (9, IsCa room (fit room 0 ((kk, vv) :: wo l key)))] (by kernel_rfl) (fun _ _ d _ _ h => by cases d <;> exact h) rfl Ext.refl (fun _ _ _ => Ext.trans) ⟨fun _ _ _ => Full.ext, fun _ _ _ => Sl.ext, fun _ _ _ => IsCa.ext, trivial⟩ ?_
        simp only [List.take_succ_cons, List.take_zero, List.take_nil, List.drop_succ_cons, List.drop_zero, List.drop_nil]
        iterate 6
          refine ph_pure (a' := ?_) rfl rfl ?_ (fun w9 hE hG => pureAt_plain rfl ?_) ?_ ?_
          rotate_left 2
          · clear hG; obtain ⟨x0, c0, c1⟩ := HC.out w9 hE; (go_simp; try go_bits); rfl
          · go_simp; rfl
        refine ph_op rfl rfl (fun w9 hE hG => opAt_plain rfl ?_) (fun v hv => ?_)
        · clear hG
          try clear hG
          obtain ⟨x0, c0, c1⟩ := HC.out w9 hE; (go_simp; try go_bits)
          exact ⟨Ext.alloc _ _, _, rfl, Rd.newAt _ _ rfl 28 2 1 #[.string kk, .string vv] (0, 0) _ rfl rfl, by simp⟩
        obtain ⟨_, _, A3, rfl, _, _⟩ := hv
        go_simp
        iterate 1
          refine ph_pure (a' := ?_) rfl rfl ?_ (fun w9 hE hG => pureAt_plain rfl ?_) ?_ ?_
          rotate_left 2
          · clear hG; obtain ⟨x0, c0, c1⟩ := HC.out w9 hE; (go_simp; try go_bits); rfl
          · go_simp; rfl
        refine ph_op rfl rfl (fun w9 hE hG => opAt_plain rfl ?_) (fun v hv => ?_)
        · skip; simp only [List.forall_mem_cons] at hG; have hr1 := (hG.1 (by kernel_rfl)).at_; have hr2 := HW.out w9 hE
          try clear hG
          obtain ⟨A', c', w', hrun, hE', hrd, hq1, hq2⟩ := run_app_full (P := Try.prog) w9 45 45 28 i0 _ 2 32 Try.underlying45 hi0 hz0 hz1 hz2 (by decide) (by decide) hr1.1 hr1.2 hr2 (by simp only [maxLen]; omega) (by omega) (d := c2')
          exact opVal_append rfl _ _ 45 rfl _ _ rfl rfl hrun ⟨hE', _, _, rfl, hrd, hq1, hq2⟩
        obtain ⟨_, _, A4, c4', rfl, _, _, _⟩ := hv
        go_simp
        refine ph_op rfl rfl (fun w9 hE hG => opAt_plain rfl ?_) (fun v hv => ?_)
        · simp only [List.forall_mem_cons] at hG; obtain ⟨_, hr1, hq1, hq2⟩ := (hG.1 (by kernel_rfl)).at_
          try clear hG
          obtain ⟨x0, c0, c1⟩ := HC.out w9 hE; (go_simp; try go_bits)
          refine (made_any room _ _ _ ((kk, vv) :: wo l key) _ hr1 HS.out).mono ?_
          rintro e w' ⟨v, rfl, hsl, hb⟩
          exact ⟨_, rfl, hb, hsl⟩
        obtain ⟨_, _, hca⟩ := hv
        obtain ⟨A5, c5', B5, d5', rfl, _⟩ := hca.ex
        go_simp
        iterate 6
          refine ph_pure (a' := ?_) rfl rfl ?_ (fun w9 hE hG => pureAt_plain rfl ?_) ?_ ?_
          rotate_left 2
          · clear hG; obtain ⟨x0, c0, c1⟩ := HC.out w9 hE; (go_simp; try go_bits); rfl
          · go_simp; rfl
        refine ph_end (fun w9 hE hG => ?_)
        simp only [List.forall_mem_cons] at hG
        have Q := hG.1
        have Y7 := Y3.drew.ext hE
        have L7 := L3.drew.trans (hE.below.mono L3.size)
        obtain ⟨y0, y1, y2, y3, y4, y5, y6⟩ := Y7.f5
        clear hE hG HC HW X3 Y3 L3 hca hr3
        go_wp2
        have hgf := HG.out HX.out
        have hgl : gl room l key = fit room 0 ((kk, vv) :: wo l key) := by unfold gl; rw [hgf]
        have hgv : gv l key = vv := by unfold gv; rw [hgf]
        have hgi : gi l key = true := by unfold gi; rw [hgf]; rfl
        rw [hgl, hgv, hgi]
        exact bodyPost_ret (res_cell33 rfl _ (w.heap.size + 1) rfl _ (Y7.put5 _ _ _ _ _)) rfl ⟨_, _, rfl, Ca.put5 Q Y7 _ _ _ _ _, below_put5 L7 (by omega) _ _ _ _ _⟩
      · have hd : decide (kk = key) = false := by simp [he]
        have HE := Lib.hid he
        clear he
        go_wp2
        refine ⟨⟨k + 1, by omega, by go_num, fun j hj hjk => ?_, trivial⟩, by simp only [intOf]; omega⟩
        by_cases e : j = k
        · subst e; rw [HP.out]; exact HE.out
        · exact HH.out j hj (by omega)
    · have hgf := gf_none l key fun j h => hall j h (by have := HN.out; omega)
      have HG := Lib.hid hgf
      clear hgf hall
      obtain ⟨x0, x1, x2, x3, x4⟩ := X2.f3
      obtain ⟨y0, y1, y2, y3, y4, y5, y6⟩ := Y2.f5
      go_wp2
      have hgl : gl room l key = l := by unfold gl; rw [HG.out]
      have hgv : gv l key = { data := #[] } := by unfold gv; rw [HG.out]
      have hgi : gi l key = false := by unfold gi; rw [HG.out]; rfl
      rw [hgl, hgv, hgi]
      have Q : Ca wr room l (.agg #[.int .i64 room, .slice A n c, .slice B n d]) := by
        have := HN.out
        subst this
        exact ⟨⟨A, c, B, d, rfl, hA2, hB2, hc1, hc2, hd1, hd2⟩⟩
      exact bodyPost_ret (res_cell33 rfl _ (w.heap.size + 1) rfl _ (Y2.put5 _ _ _ _ _)) rfl ⟨_, _, rfl, Ca.put5 Q Y2 _ _ _ _ _, below_put5 L2 (by omega) _ _ _ _ _⟩
end Go.Proofs.Ytecdmgcgplohoaa
