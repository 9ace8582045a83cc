import Derived.Test.YtecdmgcgplohoaaCa4
namespace Go.Proofs.Ytecdmgcgplohoaa
open Go.ChangeShapes Go.WideShapes Go.ChangeAt Go.RowKit
set_option linter.unusedVariables false
set_option linter.unusedSimpArgs false
attribute [local go_sem] ba_beq ba_bne

/-- append onto a slice without room: a new row, or nothing to append and the slice itself -/
theorem run_app_full {P : Program} (w : World) (t ty e : TypeId) (i : TypeInfo) (z : Value) (size bytes : Nat) (ht : P.underlying t = some (.slice e)) (hi : P.info? e = some i) (hz : i.zero = some z)
    (hsize : i.size = size) (hby : i.bytes = bytes) (hsz : 0 < size) (hbz : 0 < bytes) {A B : Option Addr} {n m d : Nat} {xs news : List Value} {e' : TypeId} (hr : Rd w e size A n xs) (hA : A = none → n = 0)
    (hx : Rd w e' size B m news) (h63 : n + m ≤ maxLen) (hbytes : (n + m) * bytes ≤ 140737488355328) :
    ∃ A' c' w', (Builtin.append_ #[t, t] ty #[.slice A n n, .slice B m d]).run P w = .ok (.slice A' (n + m) c') w' ∧ Ext w w' ∧ Rd w' e size A' (n + m) (xs ++ news) ∧ n + m ≤ c' ∧ c' ≤ maxLen := by
  subst hsize hby
  unfold maxLen at h63
  by_cases hm : m = 0
  · subst hm
    have hn : news = [] := List.eq_nil_of_length_eq_zero (by simpa using hx.len)
    subst hn
    refine ⟨A, n, w, ?_, Ext.refl _, by simpa using hr, Nat.le_refl _, by unfold maxLen; omega⟩
    rcases A with _ | a <;> rcases B with _ | b <;>
      simp [Builtin.append_, run_underlying ht, sizeOf, typeInfo, hi, Builtin.lenOf, Builtin.firstCells, storeCells, loadCells, loadCellsFrom]
  · obtain ⟨b, rfl, _, hb⟩ := hx.cells (by omega)
    have hbnd : Builtin.nextslicecap (n + m) n * i.bytes ≤ 281474976710656 := growslice_fits (by omega) hbytes
    have hge := grownCap_ge w (n + m) n e
    have hcm := grownCap_le_maxLen w (n + m) n e (by unfold maxLen; omega)
    rcases A with _ | a
    · have hn := hA rfl
      subst hn
      have hxs : xs = [] := List.eq_nil_of_length_eq_zero (by simpa using hr.len)
      subst hxs
      have h := run_append_nil (P := P) w t ty e i z ht hi hz b m d news hx.len hb (by omega) (by omega) (by simp only [Nat.zero_add] at hbytes; omega)
      simp only [Nat.zero_add, List.nil_append] at *
      refine ⟨_, _, _, h, ⟨rfl, rfl, rfl, by simp, fun k hk => heap_alloc_old w.drew _ hk⟩, ⟨hx.len, fun _ => ⟨_, rfl, by simp, .inr ⟨_, _, heap_alloc_new w.drew _⟩, fun j u hu => ?_⟩⟩, hge, hcm⟩
      have hB : Blk (w.drew.alloc (.cells (news.toArray ++ Builtin.zeroCells z.cells (grownCap w m 0 e - m)) e)) w.heap.size e (news.toArray ++ Builtin.zeroCells z.cells (grownCap w m 0 e - m)) := Blk.new w.drew e _
      have hz0 : (⟨w.heap.size, 0, none⟩ : Addr).add j = ⟨w.heap.size, j, none⟩ := by simp [Addr.add]; exact fun h => h.symm
      rw [hz0, hB.cell]
      have hj : j < news.length := (List.getElem?_eq_some_iff.1 hu).1
      rw [Array.getElem?_append_left (by simpa using hj)]
      simpa using hu
    · have ha : ∀ j v, xs[j]? = some v → w.cell? (a.add j) = some v := by
        intro j v hv
        have hn : 0 < n := by
          rcases Nat.eq_zero_or_pos n with h0 | h0
          · have := hr.len; rw [h0] at this
            have hnil : xs = [] := List.eq_nil_of_length_eq_zero (by simpa using this)
            rw [hnil] at hv; simp at hv
          · exact h0
        obtain ⟨a', e1, _, hc⟩ := hr.cells hn
        injection e1 with e1
        subst e1
        exact hc j v hv
      have h := run_append_grow (P := P) w t ty e i z ht hi hz a n n xs hr.len ha b m d news hx.len hb (by omega) (by omega) hbnd
      refine ⟨_, _, _, h, ⟨rfl, rfl, rfl, by simp, fun k hk => heap_alloc_old w.drew _ hk⟩, ⟨by rw [List.length_append, hr.len, hx.len, Nat.add_mul], fun _ => ⟨_, rfl, by simp, .inr ⟨_, _, heap_alloc_new w.drew _⟩, fun j u hu => ?_⟩⟩, hge, hcm⟩
      have hB := Blk.new w.drew e (xs.toArray ++ news.toArray ++ Builtin.zeroCells z.cells (grownCap w (n + m) n e - (n + m)))
      have hz0 : (⟨w.heap.size, 0, none⟩ : Addr).add j = ⟨w.heap.size, j, none⟩ := by simp [Addr.add]; exact fun h => h.symm
      have hj : j < (xs ++ news).length := (List.getElem?_eq_some_iff.1 hu).1
      rw [hz0]
      refine (hB.cell j).trans ?_
      rw [Array.getElem?_append_left (by simpa using hj)]
      simpa using hu

def Full (e : TypeId) (k : Nat) (n : Nat) (xs : List Value) (v : Value) (w : World) : Prop := ∃ A, v = .slice A n n ∧ Rd w e k A n xs ∧ (A = none → n = 0)
theorem Full.ext {e : TypeId} {k n : Nat} {xs : List Value} {v : Value} {w w' : World} (hE : Ext w w') (h : Full e k n xs v w) : Full e k n xs v w' := by
  obtain ⟨A, h1, h2, h3⟩ := h
  exact ⟨A, h1, h2.ext hE, h3⟩
theorem Full.at_ {e : TypeId} {k n m c : Nat} {A : Option Addr} {xs : List Value} {w : World} (h : Full e k n xs (.slice A m c) w) : Rd w e k A n xs ∧ (A = none → n = 0) := by
  obtain ⟨A', h1, h2, h3⟩ := h
  injection h1 with e1 e2 e3
  subst e1
  exact ⟨h2, h3⟩
theorem Ca.ext {room : Int} {l : List En} {V : Value} {w w' : World} (hE : Ext w w') (h : Ca w room l V) : Ca w' room l V := by
  obtain ⟨A, c, B, d, h1, h2, h3, h4⟩ := h.ex
  exact ⟨⟨A, c, B, d, h1, h2.ext hE, h3.ext hE, h4⟩⟩
def IsCa (room : Int) (l : List En) (V : Value) (w : World) : Prop := Ca w room l V
theorem IsCa.ext {room : Int} {l : List En} {V : Value} {w w' : World} (hE : Ext w w') (h : IsCa room l V w) : IsCa room l V w' := Ca.ext hE h
theorem opVal_append {P : Program} {o : Oper} {a : Act} {w w' : World} {R : Value → World → Prop} (hg : o.guard = none) (s x : Operand) (t : TypeId) (ho : o.op = .call { callee := .builtin .append, args := #[s, x], argTypes := #[t, t] })
    (S X : Value) (hs : a.eval s = S) (hx : a.eval x = X) {v' : Value} (hrun : (Builtin.append_ #[t, t] o.type #[S, X]).run P w = .ok v' w') (h : R v' w') : opVal P R ((execOp a.eval o).run P w) := by
  unfold execOp
  simp only [ho, resolve, invoke, builtin, Sem.run_bind, Sem.run_pure, Result.andThen_ok, List.map_toArray, List.map_cons, List.map_nil, hs, hx, hrun]
  exact h
theorem Ca.put3 {w : World} {g : Nat} {room : Int} {l : List En} {V : Value} (h : Ca w room l V) {u0 u1 u2 : Value} (Y : Blk w g 26 #[u0, u1, u2]) (v0 v1 v2 : Value) : Ca (((w.setCell ⟨g, 0, none⟩ v0).setCell ⟨g, 1, none⟩ v1).setCell ⟨g, 2, none⟩ v2) room l V := by
  obtain ⟨A, c, B, d, h1, h2, h3, h4⟩ := h.ex
  have go : ∀ {A n xs}, Rd w 9 1 A n xs → Rd (((w.setCell ⟨g, 0, none⟩ v0).setCell ⟨g, 1, none⟩ v1).setCell ⟨g, 2, none⟩ v2) 9 1 A n xs := fun hr =>
    ((hr.set (by decide) (p := ⟨g, 0, none⟩) Y (by decide)).set (by decide) (p := ⟨g, 1, none⟩) (Y.set_ 0 v0) (by decide)).set (by decide) (p := ⟨g, 2, none⟩) ((Y.set_ 0 v0).set_ 1 v1) (by decide)
  exact ⟨⟨A, c, B, d, h1, go h2, go h3, h4⟩⟩
theorem Ca.below {room : Int} {l : List En} {V : Value} {w w' : World} (h : Ca w room l V) {B : Nat} (hb : Below B w w') (hB : w.heap.size ≤ B) : Ca w' room l V := by
  obtain ⟨A, c, B, d, h1, h2, h3, h4⟩ := h.ex
  exact ⟨⟨A, c, B, d, h1, h2.below hb hB, h3.below hb hB, h4⟩⟩
theorem Blk.newAt (w : World) (g : Nat) (hg : w.heap.size = g) (t : TypeId) (cs : Array Value) : Blk (w.alloc (.cells cs t)) g t cs := hg ▸ Blk.new w t cs
theorem wo_le (l : List En) (key : BA) : (wo l key).length ≤ l.length := List.length_filter_le _ _
theorem wo_sm {l : List En} (key : BA) (h : Sm l) : Sm (wo l key) := ⟨Nat.le_trans (wo_le l key) h.1, fun e he => h.2 e (List.mem_filter.1 he).1⟩
theorem cons_sm {l : List En} {N : Nat} (k v : BA) (h : Sm l) (hl : l.length ≤ 63) (h1 : k.size ≤ 1000) (h2 : v.size ≤ 1000) : Sm ((k, v) :: l) :=
  ⟨by simp; omega, fun e he => by
    rcases List.mem_cons.1 he with rfl | he
    · exact ⟨h1, h2⟩
    · exact h.2 e he⟩
set_option maxHeartbeats 1000000 in
set_option maxRecDepth 100000 in
theorem rput_any (room : Int) (l : List En) (V : Value) (k v : BA) (w : World) (hV : Ca w room l V) (hs : Sm l) (hl : l.length ≤ 63) (h1 : k.size ≤ 1000) (h2 : v.size ≤ 1000) :
    Calls Try.prog 15 #[V, .agg #[.string k, .string v]] w fun e w' => ∃ V', e = .returned V' ∧ Ca w' room (fit room 0 ((k, v) :: wo l k)) V' ∧ Below w.heap.size w w' := by
  obtain ⟨A, c, B, d, rfl, hA, hB, hc1, hc2, hd1, hd2⟩ := hV.ex
  clear hV
  obtain ⟨i0, hi0, hz0, hz1, hz2⟩ := info_parts ent_info
  have HS := Lib.hid (cons_sm (N := 0) k v (wo_sm k hs) (Nat.le_trans (wo_le l k) hl) h1 h2)
  have hwl := wo_le l k
  go_enter Try.func15, Try.ntmps15
  go_wp2_with fail
  have X := ((Blk.new w 26 #[.int .i64 room, .slice A l.length c, .slice B l.length d]).alloc (Obj.cells #[.string k, .string v] 28)).alloc (Obj.cells #[.int .i64 0, .slice none 0 0, .slice none 0 0] 26)
  have K := (Blk.newAt (w.alloc (Obj.cells #[.int .i64 room, .slice A l.length c, .slice B l.length d] 26)) (w.heap.size + 1) (by simp) 28 #[.string k, .string v]).alloc (Obj.cells #[.int .i64 0, .slice none 0 0, .slice none 0 0] 26)
  have Y := Blk.newAt ((w.alloc (Obj.cells #[.int .i64 room, .slice A l.length c, .slice B l.length d] 26)).alloc (Obj.cells #[.string k, .string v] 28)) (w.heap.size + 1 + 1) (by simp) 26 #[.int .i64 0, .slice none 0 0, .slice none 0 0]
  have L : Below w.heap.size w (((w.alloc (Obj.cells #[.int .i64 room, .slice A l.length c, .slice B l.length d] 26)).alloc (Obj.cells #[.string k, .string v] 28)).alloc (Obj.cells #[.int .i64 0, .slice none 0 0, .slice none 0 0] 26)) := by go_grown
  have hA1 := hA.below L (Nat.le_refl _)
  have hB1 := hB.below L (Nat.le_refl _)
  generalize ((w.alloc (Obj.cells #[.int .i64 room, .slice A l.length c, .slice B l.length d] 26)).alloc (Obj.cells #[.string k, .string v] 28)).alloc (Obj.cells #[.int .i64 0, .slice none 0 0, .slice none 0 0] 26) = w1 at *
  have hc : ∀ W, Ext w1.drew W → W.cell? ⟨w.heap.size, 0, none⟩ = some (.int .i64 room) ∧ W.cell? ⟨w.heap.size, 1, none⟩ = some (.slice A l.length c) ∧ W.cell? ⟨w.heap.size, 2, none⟩ = some (.slice B l.length d) ∧
      W.cell? ⟨w.heap.size + 1, 0, none⟩ = some (.string k) ∧ W.cell? ⟨w.heap.size + 1, 1, none⟩ = some (.string v) ∧ Rd W 9 1 A l.length (strs (keys l)) ∧ Rd W 9 1 B l.length (strs (vals l)) := fun W hE => by
    obtain ⟨x0, x1, x2, _, _⟩ := (X.drew.ext hE).f3
    obtain ⟨k0, k1, _, _⟩ := (K.drew.ext hE).f2
    exact ⟨x0, x1, x2, k0, k1, hA1.drew.ext hE, hB1.drew.ext hE⟩
  have HC := Lib.hid hc; clear hc
  refine wp_region_list2 (by kernel_rfl) 6 Ext [(1, Sl 28 2 l.length (ecells l)), (4, Sl 28 2 (wo l k).length (ecells (wo l k)))] (by kernel_rfl) (fun _ _ d _ _ h => by cases d <;> exact h) rfl Ext.refl (fun _ _ _ => Ext.trans) ⟨fun _ _ _ => Sl.ext, fun _ _ _ => Sl.ext, trivial⟩ ?_
  simp only [List.take_succ_cons, List.take_zero, List.take_nil, List.drop_succ_cons, List.drop_zero, List.drop_nil]
  iterate 1
    refine ph_pure (a' := ?_) rfl rfl ?_ (fun w9 hE hG => pureAt_plain rfl ?_) ?_ ?_
    rotate_left 2
    · clear hG; obtain ⟨x0, x1, x2, k0, k1, hA9, hB9⟩ := HC.out w9 hE; (go_simp; try go_bits); rfl
    · go_simp; rfl
  refine ph_op rfl rfl (fun w9 hE hG => opAt_plain rfl ?_) (fun v hv => ?_)
  · clear hG
    try clear hG
    obtain ⟨x0, x1, x2, k0, k1, hA9, hB9⟩ := HC.out w9 hE; (go_simp; try go_bits)
    refine (entries_any room l _ _ ⟨A, c, B, d, rfl, hA9, hB9, hc1, hc2, hd1, hd2⟩ hs).mono ?_
    rintro e w' ⟨v, rfl, hsl, hb⟩
    exact ⟨_, rfl, hb, hsl⟩
  obtain ⟨_, _, A1, c1', rfl, _, _, _⟩ := hv
  go_simp
  iterate 2
    refine ph_pure (a' := ?_) rfl rfl ?_ (fun w9 hE hG => pureAt_plain rfl ?_) ?_ ?_
    rotate_left 2
    · clear hG; obtain ⟨x0, x1, x2, k0, k1, hA9, hB9⟩ := HC.out w9 hE; (go_simp; try go_bits); rfl
    · go_simp; rfl
  refine ph_op rfl rfl (fun w9 hE hG => opAt_plain rfl ?_) (fun v hv => ?_)
  · simp only [List.forall_mem_cons] at hG; obtain ⟨_, hr1, hq1, hq2⟩ := (hG.1 (by kernel_rfl)).at_
    try clear hG
    obtain ⟨x0, x1, x2, k0, k1, hA9, hB9⟩ := HC.out w9 hE; (go_simp; try go_bits)
    refine (without_any _ _ _ l k _ hr1 (by have := hs.1; omega)).mono ?_
    rintro e w' ⟨v, rfl, hsl, hb⟩
    exact ⟨_, rfl, hb, hsl⟩
  obtain ⟨_, _, A2, c2', rfl, _, _, _⟩ := hv
  go_simp
  iterate 1
    refine ph_pure (a' := ?_) rfl rfl ?_ (fun w9 hE hG => pureAt_plain rfl ?_) ?_ ?_
    rotate_left 2
    · clear hG; obtain ⟨x0, x1, x2, k0, k1, hA9, hB9⟩ := HC.out w9 hE; (go_simp; try go_bits); rfl
    · go_simp; rfl
  refine ph_end (fun w9 hE hG => ?_)
  simp only [List.forall_mem_cons] at hG
  obtain ⟨_, hr2, hq3, hq4⟩ := hG.1.at_
  have X2 := X.drew.ext hE
  have K2 := K.drew.ext hE
  have Y2 := Y.drew.ext hE
  have L2 := L.drew.trans (hE.below.mono L.size)
  clear hE hG HC X K Y L hA1 hB1
  have hc : ∀ W, Ext w9.drew W → W.cell? ⟨w.heap.size, 0, none⟩ = some (.int .i64 room) ∧ W.cell? ⟨w.heap.size, 1, none⟩ = some (.slice A l.length c) ∧ W.cell? ⟨w.heap.size, 2, none⟩ = some (.slice B l.length d) ∧
      W.cell? ⟨w.heap.size + 1, 0, none⟩ = some (.string k) ∧ W.cell? ⟨w.heap.size + 1, 1, none⟩ = some (.string v) := fun W hE => by
    obtain ⟨x0, x1, x2, _, _⟩ := (X2.drew.ext hE).f3
    obtain ⟨k0, k1, _, _⟩ := (K2.drew.ext hE).f2
    exact ⟨x0, x1, x2, k0, k1⟩
  have HC := Lib.hid hc; clear hc
  have hw : ∀ W, Ext w9.drew W → Rd W 28 2 A2 (wo l k).length (ecells (wo l k)) := fun W hE => hr2.drew.ext hE
  have HW := Lib.hid hw; clear hw hr2
  go_wp2_with fail
  refine wp_region_list2 (by kernel_rfl) 7 Ext [(3, Full 28 2 1 [.string k, .string v]), (5, Sl 28 2 (1 + (wo l k).length) (ecells ((k, v) :: wo l k))), (6, IsCa room (fit room 0 ((k, v) :: wo l k)))] (by kernel_rfl) (fun _ _ d _ _ h => by cases d <;> exact h) rfl Ext.refl (fun _ _ _ => Ext.trans) ⟨fun _ _ _ => Full.ext, fun _ _ _ => Sl.ext, fun _ _ _ => IsCa.ext, trivial⟩ ?_
  simp only [List.take_succ_cons, List.take_zero, List.take_nil, List.drop_succ_cons, List.drop_zero, List.drop_nil]
  iterate 3
    refine ph_pure (a' := ?_) rfl rfl ?_ (fun w7 hE hG => pureAt_plain rfl ?_) ?_ ?_
    rotate_left 2
    · clear hG; obtain ⟨x0, x1, x2, k0, k1⟩ := HC.out w7 hE; (go_simp; try go_bits); rfl
    · go_simp; rfl
  refine ph_op rfl rfl (fun w7 hE hG => opAt_plain rfl ?_) (fun v hv => ?_)
  · clear hG
    try clear hG
    obtain ⟨x0, x1, x2, k0, k1⟩ := HC.out w7 hE; (go_simp; try go_bits)
    exact ⟨Ext.alloc _ _, _, rfl, Rd.newAt _ _ rfl 28 2 1 #[.string k, .string v] (0, 0) _ rfl rfl, by simp⟩
  obtain ⟨_, _, A3, rfl, _, _⟩ := hv
  go_simp
  iterate 1
    refine ph_pure (a' := ?_) rfl rfl ?_ (fun w7 hE hG => pureAt_plain rfl ?_) ?_ ?_
    rotate_left 2
    · clear hG; obtain ⟨x0, x1, x2, k0, k1⟩ := HC.out w7 hE; (go_simp; try go_bits); rfl
    · go_simp; rfl
  refine ph_op rfl rfl (fun w7 hE hG => opAt_plain rfl ?_) (fun v hv => ?_)
  · skip; simp only [List.forall_mem_cons] at hG; have hr1 := (hG.1 (by kernel_rfl)).at_; have hr2 := HW.out w7 hE
    try clear hG
    obtain ⟨A', c', w', hrun, hE', hrd, hq1, hq2⟩ := run_app_full (P := Try.prog) w7 45 45 28 i0 _ 2 32 Try.underlying45 hi0 hz0 hz1 hz2 (by decide) (by decide) hr1.1 hr1.2 hr2 (by simp only [maxLen]; omega) (by omega) (d := c2')
    exact opVal_append rfl _ _ 45 rfl _ _ rfl rfl hrun ⟨hE', _, _, rfl, hrd, hq1, hq2⟩
  obtain ⟨_, _, A4, c4', rfl, _, _, _⟩ := hv
  go_simp
  refine ph_op rfl rfl (fun w7 hE hG => opAt_plain rfl ?_) (fun v hv => ?_)
  · simp only [List.forall_mem_cons] at hG; obtain ⟨_, hr1, hq1, hq2⟩ := (hG.1 (by kernel_rfl)).at_
    try clear hG
    obtain ⟨x0, x1, x2, k0, k1⟩ := HC.out w7 hE; (go_simp; try go_bits)
    refine (made_any room _ _ _ ((k, v) :: wo l k) _ hr1 HS.out).mono ?_
    rintro e w' ⟨v, rfl, hsl, hb⟩
    exact ⟨_, rfl, hb, hsl⟩
  obtain ⟨_, _, hca⟩ := hv
  obtain ⟨A5, c5', B5, d5', rfl, _⟩ := hca.ex
  go_simp
  refine ph_end (fun w7 hE hG => ?_)
  simp only [List.forall_mem_cons] at hG
  have Q := hG.1
  have Y7 := Y2.drew.ext hE
  have L7 := L2.drew.trans (hE.below.mono L2.size)
  obtain ⟨y0, y1, y2, y3, y4⟩ := Y7.f3
  clear hE hG HC HW X2 K2 Y2 L2 hca
  go_wp2
  refine bodyPost_ret (res_cell26 rfl _ (w.heap.size + 1 + 1) rfl _ (Y7.put3 _ _ _)) rfl ⟨_, rfl, Ca.put3 Q Y7 _ _ _, below_put3 L7 (by omega) _ _ _⟩
end Go.Proofs.Ytecdmgcgplohoaa
