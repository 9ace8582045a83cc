import Derived.Test.YtecdmgcgplohoaaCa14
namespace Go.Proofs.Ytecdmgcgplohoaa
open Go.ChangeShapes Go.WideShapes Go.ChangeAt Go.RowKit
set_option linter.unusedVariables false
set_option linter.unusedSimpArgs false
attribute [local go_sem] ba_beq ba_bne

theorem res_get {fn : Func} (h : fn.results = #[.cell 4 26, .tmp 5, .tmp 6]) (tmps : Array Value) (g : Nat) (ht : tmps.getD 4 undef = .pointer (some ⟨g, 0, none⟩)) (w : World) {v0 v1 v2 v3 v4 : Value} (Y : Blk w g 26 #[v0, v1, v2]) (h5 : tmps.getD 5 undef = v3) (h6 : tmps.getD 6 undef = v4) :
    (results fn tmps).run Try.prog w = .ok (.tuple #[.agg #[v0, v1, v2], v3, v4]) w := by
  obtain ⟨y0, y1, y2, y3, y4⟩ := Y.f3
  rw [Array.getD_eq_getD_getElem?] at ht h5 h6
  simp [results, h, ht, go_sem, y0, y1, y2, h5, h6]
set_option maxHeartbeats 2000000 in
set_option maxRecDepth 100000 in
theorem get_any (room : Int) (l : List En) (V : Value) (key : BA) (w : World) (hV : Ca w room l V) (hs : Sm l) (hl : l.length ≤ 62) (hnd : (keys l).Nodup) (hks : key.size ≤ 1000) :
    Calls Try.prog 26 #[V, .string key] w fun e w' => ∃ p q, e = .returned (.tuple #[.agg #[.int .i64 room, p, q], .string (gv l key), .bool (gi l key)]) ∧ Ca w' room (gl room l key) (.agg #[.int .i64 room, p, q]) ∧ Below w.heap.size w w' := by
  obtain ⟨A, c, B, d, rfl, hA, hB, hc1, hc2, hd1, hd2⟩ := hV.ex
  clear hV
  have X := (Blk.new w 26 #[.int .i64 room, .slice A l.length c, .slice B l.length d]).alloc (Obj.cells #[.int .i64 0, .slice none 0 0, .slice none 0 0] 26)
  have Y := Blk.newAt (w.alloc (Obj.cells #[.int .i64 room, .slice A l.length c, .slice B l.length d] 26)) (w.heap.size + 1) (by simp) 26 #[.int .i64 0, .slice none 0 0, .slice none 0 0]
  have L : Below w.heap.size w ((w.alloc (Obj.cells #[.int .i64 room, .slice A l.length c, .slice B l.length d] 26)).alloc (Obj.cells #[.int .i64 0, .slice none 0 0, .slice none 0 0] 26)) := by go_grown
  have hn := hs.1
  go_enter Try.func26, Try.ntmps26
  go_wp2_with fail
  generalize (w.alloc (Obj.cells #[.int .i64 room, .slice A l.length c, .slice B l.length d] 26)).alloc (Obj.cells #[.int .i64 0, .slice none 0 0, .slice none 0 0] 26) = w1 at *
  refine (find_any room A l.length c (.slice B l.length d) (keys l) key _ (hA.below L (Nat.le_refl _)) (by omega)).mono ?_
  rintro e w2 ⟨rfl, hb⟩
  have X2 := X.below hb (Nat.le_refl _)
  have Y2 := Y.below hb (Nat.le_refl _)
  have L2 := L.trans (hb.mono L.size)
  have hA2 := hA.below L2 (Nat.le_refl _)
  have hB2 := hB.below L2 (Nat.le_refl _)
  clear hb X Y L
  obtain ⟨x0, x1, x2, x3, x4⟩ := X2.f3
  obtain ⟨y0, y1, y2, y3, y4⟩ := Y2.f3
  rcases ix_cases l key with ⟨i, hil, hik, hix⟩ | ⟨hall, hix⟩
  · rw [hix]
    have hgf : gf l key = some l[i] := by
      unfold gf
      rw [List.find?_eq_some_iff_getElem]
      refine ⟨by simp [hik], i, hil, rfl, fun j hj => ?_⟩
      simp only [decide_eq_true_eq, Bool.not_eq_true', decide_eq_false_iff_not]
      intro hj2
      have h3 := List.pairwise_iff_getElem.1 hnd j i (by simp [keys]; omega) (by simpa [keys] using hil) hj
      apply h3
      simp only [keys, List.getElem_map]
      rw [hj2, hik]
    have hgl : gl room l key = fit room 0 ((key, l[i].2) :: wo l key) := by unfold gl; rw [hgf]; simp only; congr 2; exact Prod.ext hik rfl
    have hgv : gv l key = l[i].2 := by unfold gv; rw [hgf]
    have hgi : gi l key = true := by unfold gi; rw [hgf]; rfl
    have HGL := Lib.hid hgl; have HGV := Lib.hid hgv; have HGI := Lib.hid hgi
    have hvs := (hs.2 _ (List.getElem_mem hil)).2
    obtain ⟨b1, e1, _, g1⟩ := hB2.one hil (show (strs (vals l))[i]? = some (.string l[i].2) by simp [strs, vals, hil])
    subst e1
    clear hgl hgv hgi hgf hik hix
    generalize l[i].2 = val at *
    have hii : ¬ (i : Int) < 0 := by omega
    go_wp2_with fail
    refine (put_any room l _ key val _ ⟨A, c, some b1, d, rfl, hA2, hB2, hc1, hc2, hd1, hd2⟩ hs hl hnd hks hvs).mono ?_
    rintro e w3 ⟨V1, rfl, hCa, hb⟩
    obtain ⟨E, e1, F, f1, rfl, _, _, _⟩ := hCa.ex
    have Y3 := Y2.below hb (Nat.le_refl _)
    have L3 := L2.trans (hb.mono L2.size)
    obtain ⟨y0, y1, y2, y3, y4⟩ := Y3.f3
    clear hb X2 Y2 L2 hA2 hB2
    go_wp2
    refine bodyPost_ret (res_get rfl _ (w.heap.size + 1) rfl _ (Y3.put3 _ _ _) rfl rfl) rfl ⟨_, _, by rw [HGV.out, HGI.out]; rfl, ?_, below_put3 L3 (by omega) _ _ _⟩
    rw [HGL.out]
    exact hCa.put3 Y3 _ _ _
  · rw [hix]
    have hgf := gf_none l key hall
    have hgl : gl room l key = l := by unfold gl; rw [hgf]
    have hgv : gv l key = { data := #[] } := by unfold gv; rw [hgf]
    have hgi : gi l key = false := by unfold gi; rw [hgf]; rfl
    have HGL := Lib.hid hgl; have HGV := Lib.hid hgv; have HGI := Lib.hid hgi
    clear hgl hgv hgi hgf hix hall
    have hCa : Ca w2 room l (.agg #[.int .i64 room, .slice A l.length c, .slice B l.length d]) := ⟨⟨A, c, B, d, rfl, hA2, hB2, hc1, hc2, hd1, hd2⟩⟩
    go_wp2
    refine bodyPost_ret (res_get rfl _ (w.heap.size + 1) rfl _ (Y2.put3 _ _ _) rfl rfl) rfl ⟨_, _, by rw [HGV.out, HGI.out]; rfl, ?_, below_put3 L2 (by omega) _ _ _⟩
    rw [HGL.out]
    exact hCa.put3 Y2 _ _ _

set_option maxHeartbeats 2000000 in
set_option maxRecDepth 100000 in
theorem lget_any (room : Int) (l : List En) (V : Value) (key : BA) (w : World) (hV : Ca w room l V) (hs : Sm l) (hl : l.length ≤ 62) (hnd : (keys l).Nodup) (hks : key.size ≤ 1000) :
    Calls Try.prog 11 #[V, .string key] w fun e w' => ∃ p q, e = .returned (.agg #[.int .i64 room, p, q, .string (gv l key), .bool (gi l key)]) ∧ Ca w' room (gl room l key) (.agg #[.int .i64 room, p, q]) ∧ Below w.heap.size w w' := by
  obtain ⟨A, c, B, d, rfl, hA, hB, hc1, hc2, hd1, hd2⟩ := hV.ex
  clear hV
  have Y := Blk.newAt (w.alloc (Obj.cells #[.int .i64 room, .slice A l.length c, .slice B l.length d] 26)) (w.heap.size + 1) (by simp) 33 #[.int .i64 0, .slice none 0 0, .slice none 0 0, .string { data := #[] }, .bool false]
  have L : Below w.heap.size w ((w.alloc (Obj.cells #[.int .i64 room, .slice A l.length c, .slice B l.length d] 26)).alloc (Obj.cells #[.int .i64 0, .slice none 0 0, .slice none 0 0, .string { data := #[] }, .bool false] 33)) := by go_grown
  go_enter Try.func11, Try.ntmps11
  go_wp2_with fail
  generalize (w.alloc (Obj.cells #[.int .i64 room, .slice A l.length c, .slice B l.length d] 26)).alloc (Obj.cells #[.int .i64 0, .slice none 0 0, .slice none 0 0, .string { data := #[] }, .bool false] 33) = w1 at *
  refine (get_any room l _ key _ ⟨A, c, B, d, rfl, hA.below L (Nat.le_refl _), hB.below L (Nat.le_refl _), hc1, hc2, hd1, hd2⟩ hs hl hnd hks).mono ?_
  rintro e w2 ⟨p, q, rfl, hCa, hb⟩
  have Y2 := Y.below hb (Nat.le_refl _)
  have L2 := L.trans (hb.mono L.size)
  obtain ⟨P, c2, Q, d2, hpq, _, _, _⟩ := hCa.ex
  injection hpq with hpq
  simp only [Array.mk.injEq, List.cons.injEq, and_true, true_and] at hpq
  obtain ⟨rfl, rfl⟩ := hpq
  clear hb Y L
  obtain ⟨y0, y1, y2, y3, y4, y5, y6⟩ := Y2.f5
  have hsz : w.heap.size + 1 < w2.heap.size := y6
  go_wp2
  exact bodyPost_ret (res_cell33 rfl _ (w.heap.size + 1) rfl _ ((Y2.put5 _ _ _ _ _).alloc _)) rfl ⟨_, _, rfl, Ca.ext (Ext.alloc _ _) (hCa.put5 Y2 _ _ _ _ _), (below_put5 L2 (by omega) _ _ _ _ _).alloc (below_put5 L2 (by omega) _ _ _ _ _).size _⟩

/-- the program's step -/
def pstep (room : Int) (l : List En) (s : St) : List En :=
  if s.wh % 8 = 5 ∨ s.wh % 8 = 6 then gl room l s.en.1 else if s.wh % 8 = 7 then wo l s.en.1 else fit room 0 (s.en :: wo l s.en.1)
set_option maxHeartbeats 1000000 in
set_option maxRecDepth 100000 in
theorem pstep_any (room : Int) (l : List En) (V : Value) (s : St) (w : World) (hV : Ca w room l V) (hs : Sm l) (hl : l.length ≤ 62) (hnd : (keys l).Nodup) (ho : s.ok) :
    Calls Try.prog 20 #[V, .agg #[.int .u8 s.wh, .int .u8 s.k, .int .u8 s.v, .bool s.lg]] w fun e w' => ∃ V', e = .returned V' ∧ Ca w' room (pstep room l s) V' ∧ Below w.heap.size w w' := by
  obtain ⟨wh, k, v, lg⟩ := s
  obtain ⟨hw, hk, hv⟩ := ho
  obtain ⟨A, c, B, d, rfl, hA, hB, hc1, hc2, hd1, hd2⟩ := hV.ex
  clear hV
  simp only at hw hk hv ⊢
  have hes := en_size ⟨wh, k, v, lg⟩
  obtain ⟨T, hT⟩ : ∃ T, T = pstep room l ⟨wh, k, v, lg⟩ := ⟨_, rfl⟩
  rw [← hT]
  rw [show pstep room l ⟨wh, k, v, lg⟩ = if wh % 8 = 5 ∨ wh % 8 = 6 then gl room l (letter (k % 6)) else if wh % 8 = 7 then wo l (letter (k % 6)) else fit room 0 ((letter (k % 6), valOf v lg) :: wo l (letter (k % 6))) from rfl] at hT
  have HT := Lib.hid hT
  clear hT
  have hfg := field_got
  go_enter Try.func20, Try.ntmps20
  go_wp2_with fail
  have X := ((Blk.new w 26 #[.int .i64 room, .slice A l.length c, .slice B l.length d]).alloc (Obj.cells #[.int .u8 wh, .int .u8 k, .int .u8 v, .bool lg] 31)).alloc (Obj.cells #[.int .i64 0, .slice none 0 0, .slice none 0 0] 26)
  have R := (Blk.newAt (w.alloc (Obj.cells #[.int .i64 room, .slice A l.length c, .slice B l.length d] 26)) (w.heap.size + 1) (by simp) 31 #[.int .u8 wh, .int .u8 k, .int .u8 v, .bool lg]).alloc (Obj.cells #[.int .i64 0, .slice none 0 0, .slice none 0 0] 26)
  have Y := Blk.newAt ((w.alloc (Obj.cells #[.int .i64 room, .slice A l.length c, .slice B l.length d] 26)).alloc (Obj.cells #[.int .u8 wh, .int .u8 k, .int .u8 v, .bool lg] 31)) (w.heap.size + 1 + 1) (by simp) 26 #[.int .i64 0, .slice none 0 0, .slice none 0 0]
  have L : Below w.heap.size w (((w.alloc (Obj.cells #[.int .i64 room, .slice A l.length c, .slice B l.length d] 26)).alloc (Obj.cells #[.int .u8 wh, .int .u8 k, .int .u8 v, .bool lg] 31)).alloc (Obj.cells #[.int .i64 0, .slice none 0 0, .slice none 0 0] 26)) := by go_grown
  generalize ((w.alloc (Obj.cells #[.int .i64 room, .slice A l.length c, .slice B l.length d] 26)).alloc (Obj.cells #[.int .u8 wh, .int .u8 k, .int .u8 v, .bool lg] 31)).alloc (Obj.cells #[.int .i64 0, .slice none 0 0, .slice none 0 0] 26) = w0 at *
  refine (of_any wh k v lg _ hk hv).mono ?_
  rintro e w1 ⟨rfl, hb⟩
  replace X := X.below hb (Nat.le_refl _)
  replace R := R.below hb (Nat.le_refl _)
  replace Y := Y.below hb (Nat.le_refl _)
  replace L := L.trans (hb.mono L.size)
  clear hb
  obtain ⟨x0, x1, x2, x3, x4⟩ := X.f3
  obtain ⟨r0, r1, r2, r3, r4, r5⟩ := R.f4
  have hCa : Ca (w1.alloc (Obj.cells #[.string (letter (k % 6)), .string (valOf v lg)] 28)) room l (.agg #[.int .i64 room, .slice A l.length c, .slice B l.length d]) :=
    ⟨⟨A, c, B, d, rfl, (hA.below L (Nat.le_refl _)).alloc _, (hB.below L (Nat.le_refl _)).alloc _, hc1, hc2, hd1, hd2⟩⟩
  have hz1 : (letter (k % 6)).size ≤ 1000 := by rw [letter_size _ (by omega)]; omega
  have hz2 : (valOf v lg).size ≤ 1000 := by have := valOf_size v lg; omega
  clear hes
  generalize letter (k % 6) = ky at *
  generalize valOf v lg = vy at *
  by_cases h5 : wh % 8 = 5
  · have hT := HT.out.trans (if_pos (.inl h5))
    subst hT
    go_wp2_with fail
    refine (lget_any room l _ ky _ hCa hs hl hnd hz1).mono ?_
    rintro e w2 ⟨p, q, rfl, hCa, hb⟩
    obtain ⟨P, c2, Q, d2, hpq, _, _, _⟩ := hCa.ex
    injection hpq with hpq
    simp only [Array.mk.injEq, List.cons.injEq, and_true, true_and] at hpq
    obtain ⟨rfl, rfl⟩ := hpq
    have Y2 := (Y.alloc (Obj.cells #[.string ky, .string vy] 28)).below hb (Nat.le_refl _)
    have L2 := (L.alloc L.size (Obj.cells #[.string ky, .string vy] 28)).trans (hb.mono (by have := L.size; simp; omega))
    clear hb X R Y L
    obtain ⟨y0, y1, y2, y3, y4⟩ := Y2.f3
    go_wp2
    exact bodyPost_ret (res_cell26 rfl _ (w.heap.size + 1 + 1) rfl _ (Y2.put3 _ _ _)) rfl ⟨_, rfl, hCa.put3 Y2 _ _ _, below_put3 L2 (by omega) _ _ _⟩
  · by_cases h6 : wh % 8 = 6
    · have hT := HT.out.trans (if_pos (.inr h6))
      subst hT
      go_wp2_with fail
      refine (lget_any room l _ ky _ hCa hs hl hnd hz1).mono ?_
      rintro e w2 ⟨p, q, rfl, hCa, hb⟩
      obtain ⟨P, c2, Q, d2, hpq, _, _, _⟩ := hCa.ex
      injection hpq with hpq
      simp only [Array.mk.injEq, List.cons.injEq, and_true, true_and] at hpq
      obtain ⟨rfl, rfl⟩ := hpq
      have Y2 := (Y.alloc (Obj.cells #[.string ky, .string vy] 28)).below hb (Nat.le_refl _)
      have L2 := (L.alloc L.size (Obj.cells #[.string ky, .string vy] 28)).trans (hb.mono (by have := L.size; simp; omega))
      clear hb X R Y L
      obtain ⟨y0, y1, y2, y3, y4⟩ := Y2.f3
      go_wp2
      exact bodyPost_ret (res_cell26 rfl _ (w.heap.size + 1 + 1) rfl _ (Y2.put3 _ _ _)) rfl ⟨_, rfl, hCa.put3 Y2 _ _ _, below_put3 L2 (by omega) _ _ _⟩
    · have hT2 := Lib.hid (HT.out.trans (if_neg (by omega)))
      by_cases h7 : wh % 8 = 7
      · have hT := hT2.out.trans (if_pos h7)
        subst hT
        go_wp2_with fail
        refine (drop_any room l _ ky _ hCa hs hnd).mono ?_
        rintro e w2 ⟨V', rfl, hCa, hb⟩
        obtain ⟨P, c2, Q, d2, rfl, _, _, _⟩ := hCa.ex
        have Y2 := (Y.alloc (Obj.cells #[.string ky, .string vy] 28)).below hb (Nat.le_refl _)
        have L2 := (L.alloc L.size (Obj.cells #[.string ky, .string vy] 28)).trans (hb.mono (by have := L.size; simp; omega))
        clear hb X R Y L
        obtain ⟨y0, y1, y2, y3, y4⟩ := Y2.f3
        go_wp2
        exact bodyPost_ret (res_cell26 rfl _ (w.heap.size + 1 + 1) rfl _ (Y2.put3 _ _ _)) rfl ⟨_, rfl, hCa.put3 Y2 _ _ _, below_put3 L2 (by omega) _ _ _⟩
      · have hT := hT2.out.trans (if_neg h7)
        subst hT
        go_wp2_with fail
        refine (put_any room l _ ky vy _ hCa hs hl hnd hz1 hz2).mono ?_
        rintro e w2 ⟨V', rfl, hCa, hb⟩
        obtain ⟨P, c2, Q, d2, rfl, _, _, _⟩ := hCa.ex
        have Y2 := (Y.alloc (Obj.cells #[.string ky, .string vy] 28)).below hb (Nat.le_refl _)
        have L2 := (L.alloc L.size (Obj.cells #[.string ky, .string vy] 28)).trans (hb.mono (by have := L.size; simp; omega))
        clear hb X R Y L
        obtain ⟨y0, y1, y2, y3, y4⟩ := Y2.f3
        go_wp2
        exact bodyPost_ret (res_cell26 rfl _ (w.heap.size + 1 + 1) rfl _ (Y2.put3 _ _ _)) rfl ⟨_, rfl, hCa.put3 Y2 _ _ _, below_put3 L2 (by omega) _ _ _⟩
end Go.Proofs.Ytecdmgcgplohoaa
