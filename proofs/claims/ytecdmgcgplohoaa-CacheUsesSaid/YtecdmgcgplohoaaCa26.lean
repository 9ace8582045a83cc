import Derived.Test.YtecdmgcgplohoaaCa25
import Derived.Test.YtecdmgcgplohoaaCa22
namespace Go.Proofs.Ytecdmgcgplohoaa
open Go.ChangeShapes Go.WideShapes Go.ChangeAt Go.RowKit
set_option linter.unusedVariables false
set_option linter.unusedSimpArgs false
attribute [local go_sem] ba_beq ba_bne

/-- a cache in whose first two places the key stands, or that keeps it -/
def Has (κ : BA) (l : List En) : Prop := ∃ e ∈ l, e.1 = κ
theorem Has.gi {κ : BA} {l : List En} (h : Has κ l) : gi l κ = true := by
  obtain ⟨e, he, hk⟩ := h
  unfold _root_.Go.Proofs.Ytecdmgcgplohoaa.gi gf
  rw [List.find?_isSome]
  exact ⟨e, he, by simpa using hk⟩
theorem wt_le3 {room : Int} {l : List En} (g : Good room l) : ∀ e ∈ l, wt e ≤ 3 := by
  intro e he
  have := g.sz e he
  unfold wt; omega
/-- behind its use the key stands first -/
theorem gl_first {room : Int} {l : List En} {κ : BA} (g : Good room l) (hr : 8 ≤ room) (h : Has κ l) : ∃ v t, gl room l κ = (κ, v) :: t ∧ v.size ≤ 131 := by
  unfold gl
  obtain ⟨e, he⟩ : ∃ e, gf l κ = some e := by
    have := h.gi
    unfold _root_.Go.Proofs.Ytecdmgcgplohoaa.gi at this
    exact Option.isSome_iff_exists.1 this
  rw [he]
  have h1 : e ∈ l := List.mem_of_find?_eq_some he
  have h2 : e.1 = κ := by have := List.find?_some he; simpa using this
  have h3 := wt_le3 g e h1
  simp only
  unfold fit
  rw [if_neg (by omega)]
  exact ⟨e.2, _, by rw [← h2], (g.sz e h1).2⟩
/-- a step that does not drop it keeps a key that stands first -/
theorem keep_first {room : Int} {t : List En} {κ v : BA} (g : Good room ((κ, v) :: t)) (hr : 8 ≤ room) (s : St) (hs : ¬ (s.en.1 = κ ∧ s.wh % 8 = 7)) : Has κ (rstep room ((κ, v) :: t) s) := by
  have h3 : wt (κ, v) ≤ 3 := wt_le3 g _ (List.mem_cons_self ..)
  have hp := wt_pos (κ, v)
  have put : ∀ e : En, wt e ≤ 3 → Has κ (fit room 0 (e :: wo ((κ, v) :: t) e.1)) := by
    intro e he
    have hep := wt_pos e
    unfold fit
    rw [if_neg (by omega)]
    by_cases hk : κ = e.1
    · exact ⟨e, List.mem_cons_self .., hk.symm⟩
    · have : wo ((κ, v) :: t) e.1 = (κ, v) :: wo t e.1 := by unfold wo; rw [List.filter_cons_of_pos (by simp [hk])]
      rw [this]
      unfold fit
      rw [if_neg (by omega)]
      exact ⟨(κ, v), by simp, rfl⟩
  have hsz : wt s.en ≤ 3 := by have := en_size s; unfold wt; omega
  unfold rstep
  split
  · unfold gl
    cases hf : gf ((κ, v) :: t) s.en.1 with
    | none => exact ⟨(κ, v), List.mem_cons_self .., rfl⟩
    | some e =>
      have h1 := List.mem_of_find?_eq_some hf
      have h2 : e.1 = s.en.1 := by have := List.find?_some hf; simpa using this
      have := put e (wt_le3 g e h1)
      rw [h2] at this
      exact this
  · split
    · rename_i h7
      have hk : κ ≠ s.en.1 := fun e => hs ⟨e.symm, h7⟩
      rw [drop_same g]
      exact ⟨(κ, v), by unfold wo; simp [hk], rfl⟩
    · exact put s.en hsz
def UsRel (n : Nat) (room : Int) (κ : BA) (w : World) (g : Nat) (i : Value) (wr : World) : Prop :=
  ∃ (k : Nat) (cur : List En) (p q : Value), k ≤ n ∧ k ≤ 8 ∧ i = .int .i64 k ∧ Good room cur ∧ Has κ cur ∧ Ca wr room cur (.agg #[.int .i64 room, p, q]) ∧ Blk wr g 26 #[.int .i64 room, p, q] ∧ Below w.heap.size w wr

set_option maxHeartbeats 2000000 in
set_option maxRecDepth 100000 in
theorem uses_walk (A0 : Option Addr) (n0 c0 : Nat) (ss0 : List St) (A : Option Addr) (n c : Nat) (ss : List St) (rm : Int) (w : World) (hr0' : Rd w 0 4 A0 n0 (scells ss0)) (hn0 : n0 ≤ maxLen) (hss0 : ∀ s ∈ ss0, s.ok) (hr : Rd w 0 4 A n (scells ss)) (hn : n ≤ maxLen) (hss : ∀ s ∈ ss, s.ok) (hm0 : 0 ≤ rm) (hm1 : rm ≤ 255) :
    Calls Try.prog 7 #[.slice A0 n0 c0, .int .u8 rm, .slice A n c] w fun e w' => e = .returned (.bool true) ∧ Below w.heap.size w w' := by
  have hlen : ss.length = n := by have := hr.len; rw [scells_len] at this; omega
  have HN := Lib.hid hlen; clear hlen
  unfold maxLen at hn
  obtain ⟨r5, hr5⟩ : ∃ r5, rm % 5 = r5 := ⟨_, rfl⟩
  have hr50 : 0 ≤ r5 ∧ r5 ≤ 4 := by omega
  obtain ⟨room, hroom⟩ : ∃ room, 8 + r5 = room := ⟨_, rfl⟩
  have hr0 : 8 ≤ room ∧ room ≤ 12 := by omega
  have hf1 := field28
  have hf2 := field33
  have hnn := hn0
  unfold maxLen at hnn
  go_enter Try.func7, Try.ntmps7
  go_wp2_with fail
  refine (sanity_any _).mono ?_
  rintro e w1 ⟨rfl, L⟩
  go_wp2_with fail
  refine (script_any 0 A0 n0 c0 8 ss0 room _ (hr0'.below L (Nat.le_refl _)) hn0 (by omega) (by omega) (by omega) hss0).mono ?_
  rintro e m1 ⟨V, rfl, C, hb⟩
  replace L := L.trans (hb.mono L.size)
  clear hb
  have hg : Good room _ := Good.script (by omega) (ss0.take 8)
  generalize hcur : rscript room (ss0.take 8) = cur at *
  clear hcur hss0 hr0'
  have hsm := hg.sm (by omega)
  obtain ⟨P, cp, Q, cq, rfl⟩ := C.form
  by_cases h0 : cur.length = 0
  · rw [h0]
    go_wp2
    go_ret
    exact ⟨rfl, L.alloc L.size _⟩
  have hl0 : ((cur.length : Int) == 0) = false := beq_eq_false_iff_ne.2 (by omega)
  have hl1 : ¬ ((cur.length : Int) = 0) := by omega
  have hl2 : decide ((cur.length : Int) = 0) = false := decide_eq_false (by omega)
  have hl3 : (0 : Int) ≤ (cur.length : Int) - 1 := by omega
  have hl4 : ((cur.length : Int) - 1).toNat = cur.length - 1 := by omega
  have hl5 : cur.length - 1 < cur.length := by omega
  have hl6 : (1 : Int) ≤ (cur.length : Int) := by omega
  have hl8 : (cur.length : Int) ≤ 60 := by have := hsm.2; omega
  obtain ⟨ak, e1, hak, ck⟩ := C.key_at hl5 rfl
  subst e1
  obtain ⟨κ, hκ⟩ : ∃ κ, cur[cur.length - 1].1 = κ := ⟨_, rfl⟩
  have hH : Has κ cur := ⟨_, List.getElem_mem hl5, hκ⟩
  have hκ1 : κ.size = 1 := by rw [← hκ]; exact (hg.sz _ (List.getElem_mem hl5)).1
  rw [hκ] at ck
  clear hκ
  have hab : (ak.add (cur.length - 1)).block < m1.heap.size := by rw [addr_block]; exact hak
  go_wp2_with fail
  clear hl0 hl1 hl2 hl3 hl4 hl5 hl6 h0 hak ck hab
  have le_X := L.size
  have X := Blk.new m1 26 #[.int .i64 room, .slice (some ak) cur.length cp, .slice Q cur.length cq]
  replace C := C.alloc (Obj.cells #[.int .i64 room, .slice (some ak) cur.length cp, .slice Q cur.length cq] 26)
  replace L := L.alloc L.size (Obj.cells #[.int .i64 room, .slice (some ak) cur.length cp, .slice Q cur.length cq] 26)
  generalize m1.alloc (Obj.cells #[.int .i64 room, .slice (some ak) cur.length cp, .slice Q cur.length cq] 26) = m2 at *
  go_loopw [10] (fun i wr => UsRel n room κ w m1.heap.size i wr) (fun i _ => 200 - (intOf i).toNat)
  case atStart =>
    exact ⟨0, cur, _, _, by omega, by omega, rfl, hg, hH, C, X, L⟩
  case round =>
    clear hroom C X L hg hH hsm hl8
    obtain ⟨k, cur, p, q, hk, hkl, rfl, hg, hH, C, X, L⟩ := hrel
    have hsm := hg.sm (by omega)
    obtain ⟨P, cp, Q, cq, rfl, rfl⟩ := C.form2
    by_cases hlt : k < n ∧ k < 8
    · obtain ⟨hlt, hlt2⟩ := hlt
      have hks : k < ss.length := by rw [HN.out]; exact hlt
      have hok := hss _ (List.getElem_mem hks)
      obtain ⟨q0, q1, q2, q3⟩ := scells_at ss k hks
      have HQ := Lib.hid (And.intro q0 (And.intro q1 (And.intro q2 q3)))
      have R := hr.below L (Nat.le_refl _)
      obtain ⟨ad, h1, _, _, _, _⟩ := R.four hlt q0 q1 q2 q3
      subst h1
      have HR := Lib.hid hr; clear hr
      clear q0 q1 q2 q3
      generalize hs : ss[k] = s at *
      have hltk : (k : Int) < n := by omega
      have hltl : (k : Int) < 8 := by omega
      have hes := en_size s
      have hwh := hok.1
      obtain ⟨x_0, x_1, x_2, x_3, x_4⟩ := X.f3
      go_wp2_with fail
      clear x_0 x_1 x_2 x_3 x_4
      refine (lget_any room cur _ κ _ C hsm.1 (by omega) hg.nd (by omega)).mono ?_
      rintro e m11 ⟨p3, q3, rfl, G, hb⟩
      replace X := X.below hb (Nat.le_refl _)
      replace C := C.below hb (Nat.le_refl _)
      replace R := R.below hb (Nat.le_refl _)
      replace L := L.trans (hb.mono L.size)
      clear hb
      rw [hH.gi]
      have hg1 := hg.get (by omega) κ
      obtain ⟨v, t, hgl, hv⟩ := gl_first hg hr0.1 hH
      generalize gl room cur κ = gc at *
      generalize gv cur κ = gval at *
      have hsm1 := hg1.sm (by omega)
      obtain ⟨A3, a3, B3, b3, rfl, rfl⟩ := G.form2
      have hgc : 0 < gc.length := by rw [hgl]; simp
      obtain ⟨a0, e1, ha0, c2⟩ := G.key_at hgc rfl
      subst e1
      have hk0 : gc[0].1 = κ := by simp [hgl]
      rw [hk0] at c2
      clear hk0
      have c3 := c2
      rw [show a0.add 0 = a0 by simp [Addr.add]] at c3
      have hab : (a0.add 0).block < m11.heap.size := by rw [addr_block]; exact ha0
      have hg2 : Good room ((κ, v) :: t) := by rw [← hgl]; exact hg1
      have hl0 : ((gc.length : Int) == 0) = false := beq_eq_false_iff_ne.2 (by omega)
      have hl1 : ¬ ((gc.length : Int) = 0) := by omega
      have hl2 : decide ((gc.length : Int) = 0) = false := decide_eq_false (by omega)
      have hl4 : (0 : Int) < gc.length := by omega
      have HGL := Lib.hid hgl
      clear hgl hgc
      obtain ⟨x_0, x_1, x_2, x_3, x_4⟩ := X.f3
      go_wp2_with fail
      clear c2 c3 hab ha0 hl0 hl1 hl2 hl4
      clear x_0 x_1 x_2 x_3 x_4
      have lt_X_M := X.lt
      have le_M := L.size
      have M := Blk.new m11 33 #[.int .i64 room, .slice (some a0) gc.length a3, .slice B3 gc.length b3, .string gval, .bool true]
      replace X := X.alloc (Obj.cells #[.int .i64 room, .slice (some a0) gc.length a3, .slice B3 gc.length b3, .string gval, .bool true] 33)
      replace C := C.alloc (Obj.cells #[.int .i64 room, .slice (some a0) gc.length a3, .slice B3 gc.length b3, .string gval, .bool true] 33)
      replace R := R.alloc (Obj.cells #[.int .i64 room, .slice (some a0) gc.length a3, .slice B3 gc.length b3, .string gval, .bool true] 33)
      replace G := G.alloc (Obj.cells #[.int .i64 room, .slice (some a0) gc.length a3, .slice B3 gc.length b3, .string gval, .bool true] 33)
      replace L := L.alloc L.size (Obj.cells #[.int .i64 room, .slice (some a0) gc.length a3, .slice B3 gc.length b3, .string gval, .bool true] 33)
      generalize m11.alloc (Obj.cells #[.int .i64 room, .slice (some a0) gc.length a3, .slice B3 gc.length b3, .string gval, .bool true] 33) = m12 at *
      refine (right_good _ G hg1 (by omega) (by omega)).mono ?_
      rintro e m13 ⟨rfl, hb⟩
      replace X := X.below hb (Nat.le_refl _)
      replace C := C.below hb (Nat.le_refl _)
      replace R := R.below hb (Nat.le_refl _)
      replace G := G.below hb (Nat.le_refl _)
      replace M := M.below hb (Nat.le_refl _)
      replace L := L.trans (hb.mono L.size)
      clear hb
      obtain ⟨_, e, g0, g1, g2, g3⟩ := R.four hlt HQ.out.1 HQ.out.2.1 HQ.out.2.2.1 HQ.out.2.2.2
      injection e with e; subst e
      have gb := R.inb hlt
      have gb2 : (⟨m1.heap.size, 0, none⟩ : Addr) ≠ ad.add (k * 4) ∧ (⟨m1.heap.size, 1, none⟩ : Addr) ≠ ad.add (k * 4) ∧ (⟨m1.heap.size, 2, none⟩ : Addr) ≠ ad.add (k * 4) := by
        have := HR.out.inb hlt
        refine ⟨?_, ?_, ?_⟩ <;> (intro e; rw [← e] at this; simp only at this; omega)
      obtain ⟨gb3, gb4, gb5⟩ := gb2
      have gb6 : m1.heap.size ≠ (ad.add (k * 4)).block := by have := HR.out.inb hlt; omega
      obtain ⟨x_0, x_1, x_2, x_3, x_4⟩ := X.f3
      obtain ⟨m_0, m_1, m_2, m_3, m_4, m_5, m_6⟩ := M.f5
      go_wp2_with fail
      clear g0 g1 g2 g3 gb gb3 gb4 gb5 gb6
      clear R C
      clear x_0 x_1 x_2 x_3 x_4 m_0 m_1 m_2 m_3 m_4 m_5 m_6
      replace G := G.put3 X (.int .i64 room) (.slice (some a0) gc.length a3) (.slice B3 gc.length b3)
      replace M := M.other3 (p := m1.heap.size) (by omega) (.int .i64 room) (.slice (some a0) gc.length a3) (.slice B3 gc.length b3)
      replace L := below_put3 L (show w.heap.size ≤ m1.heap.size by omega) (.int .i64 room) (.slice (some a0) gc.length a3) (.slice B3 gc.length b3)
      replace X := X.put3 (.int .i64 room) (.slice (some a0) gc.length a3) (.slice B3 gc.length b3)
      generalize ((m13.setCell ⟨m1.heap.size, 0, none⟩ (.int .i64 room)).setCell ⟨m1.heap.size, 1, none⟩ (.slice (some a0) gc.length a3)).setCell ⟨m1.heap.size, 2, none⟩ (.slice B3 gc.length b3) = m14 at *
      have R := HR.out.below L (Nat.le_refl _)
      clear M
      refine (of_any s.wh s.k s.v s.lg _ hok.2.1 hok.2.2).mono ?_
      rintro e m15 ⟨rfl, hb⟩
      replace X := X.below hb (Nat.le_refl _)
      replace G := G.below hb (Nat.le_refl _)
      replace R := R.below hb (Nat.le_refl _)
      replace L := L.trans (hb.mono L.size)
      clear hb
      obtain ⟨kx, hkx⟩ : ∃ kx, s.en.1 = kx := ⟨_, rfl⟩
      have hlk : letter (s.k % 6) = kx := hkx
      rw [hlk]
      have HKX := Lib.hid hkx
      clear hkx hlk
      generalize valOf s.v s.lg = vx at *
      by_cases he : kx = κ
      · obtain rfl := he.symm
        by_cases h7 : s.wh % 8 = 7
        · obtain ⟨_, e, g0, g1, g2, g3⟩ := R.four hlt HQ.out.1 HQ.out.2.1 HQ.out.2.2.1 HQ.out.2.2.2
          injection e with e; subst e
          have gb := R.inb hlt
          obtain ⟨x_0, x_1, x_2, x_3, x_4⟩ := X.f3
          go_wp2_with fail
          clear g0 g1 g2 g3 gb
          clear x_0 x_1 x_2 x_3 x_4
          refine (right_good _ G hg1 (by omega) (by omega)).mono ?_
          rintro e m16 ⟨rfl, hb⟩
          replace X := X.below hb (Nat.le_refl _)
          replace G := G.below hb (Nat.le_refl _)
          replace R := R.below hb (Nat.le_refl _)
          replace L := L.trans (hb.mono L.size)
          clear hb
          obtain ⟨x_0, x_1, x_2, x_3, x_4⟩ := X.f3
          go_wp2
          refine ⟨⟨k + 1, gc, _, _, by omega, by omega, by go_num, hg1, ⟨(κ, v), by rw [HGL.out]; exact List.mem_cons_self .., rfl⟩, G, X, L⟩, by simp only [intOf]; omega⟩
        · obtain ⟨_, e, g0, g1, g2, g3⟩ := R.four hlt HQ.out.1 HQ.out.2.1 HQ.out.2.2.1 HQ.out.2.2.2
          injection e with e; subst e
          have gb := R.inb hlt
          obtain ⟨x_0, x_1, x_2, x_3, x_4⟩ := X.f3
          go_wp2_with fail
          clear g0 g1 g2 g3 gb
          clear x_0 x_1 x_2 x_3 x_4
          have hc : ∀ W, Ext m15.drew W → W.cell? ⟨m1.heap.size, 0, none⟩ = some (.int .i64 room) ∧ W.cell? ⟨m1.heap.size, 1, none⟩ = some (.slice (some a0) gc.length a3) ∧ W.cell? ⟨m1.heap.size, 2, none⟩ = some (.slice B3 gc.length b3) ∧ Ca W room gc (.agg #[.int .i64 room, .slice (some a0) gc.length a3, .slice B3 gc.length b3]) ∧ Rd W 0 4 (some ad) n (scells ss) ∧ W.cell? (ad.add (k * 4)) = some (.int .u8 s.wh) ∧ W.cell? ⟨(ad.add (k * 4)).block, (ad.add (k * 4)).off + 1, none⟩ = some (.int .u8 s.k) ∧ W.cell? ⟨(ad.add (k * 4)).block, (ad.add (k * 4)).off + 2, none⟩ = some (.int .u8 s.v) ∧ W.cell? ⟨(ad.add (k * 4)).block, (ad.add (k * 4)).off + 3, none⟩ = some (.bool s.lg) ∧ True := fun W hE => by
            obtain ⟨x_0, x_1, x_2, x_3, x_4⟩ := (X.drew.ext hE).f3
            obtain ⟨_, e, g0, g1, g2, g3⟩ := (R.drew.ext hE).four hlt HQ.out.1 HQ.out.2.1 HQ.out.2.2.1 HQ.out.2.2.2
            injection e with e; subst e
            exact ⟨x_0, x_1, x_2, G.drew.ext hE, R.drew.ext hE, g0, g1, g2, g3, trivial⟩
          have HC := Lib.hid hc; clear hc
          refine wp_region_list2 (by kernel_rfl) 6 Ext [(5, IsCa room (rstep room gc s))] (by kernel_rfl) (fun _ _ d _ _ h => by cases d <;> exact h) rfl Ext.refl (fun _ _ _ => Ext.trans) ⟨fun _ _ _ => IsCa.ext, trivial⟩ ?_
          simp only [List.take_succ_cons, List.take_zero, List.take_nil, List.drop_succ_cons, List.drop_zero, List.drop_nil]
          iterate 5
            refine ph_pure (a' := ?_) rfl rfl ?_ (fun m16 hE hG => pureAt_plain rfl ?_) ?_ ?_
            rotate_left 2
            · clear hG; obtain ⟨x_0, x_1, x_2, hG, hR, g0, g1, g2, g3, _⟩ := HC.out m16 hE; (go_simp; try go_bits); rfl
            · go_simp; rfl
          refine ph_op rfl rfl (fun m16 hE hG => opAt_plain rfl ?_) (fun v hv => ?_)
          · clear hG
            try clear hG
            obtain ⟨x_0, x_1, x_2, hG, hR, g0, g1, g2, g3, _⟩ := HC.out m16 hE; (go_simp; try go_bits)
            refine (step_good s _ hG hg1 (by omega) (by omega) hok).mono ?_
            rintro e w' ⟨v, rfl, hsl, hb⟩
            exact ⟨_, rfl, hb, hsl⟩
          obtain ⟨_, _, hca7⟩ := hv
          obtain ⟨A7, a7, B7, b7, rfl⟩ := Ca.form hca7
          go_simp
          refine ph_end (fun m16 hE hG => ?_)
          simp only [List.forall_mem_cons] at hG
          have N := hG.1
          replace X := X.drew.ext hE
          replace G := G.drew.ext hE
          replace R := R.drew.ext hE
          replace L := L.drew.trans (hE.below.mono L.size)
          clear hE hG HC
          have hH2 : Has κ (rstep room gc s) := by
            have := HGL.out
            rw [this]
            exact keep_first hg2 hr0.1 s (fun h => h7 h.2)
          have hg3 := hg1.step (by omega) s
          generalize rstep room gc s = next at *
          change Ca _ _ _ _ at N
          obtain ⟨x_0, x_1, x_2, x_3, x_4⟩ := X.f3
          go_wp2_with fail
          clear R
          clear x_0 x_1 x_2 x_3 x_4
          replace G := G.put3 X (.int .i64 room) (.slice A7 next.length a7) (.slice B7 next.length b7)
          replace N := N.put3 X (.int .i64 room) (.slice A7 next.length a7) (.slice B7 next.length b7)
          replace L := below_put3 L (show w.heap.size ≤ m1.heap.size by omega) (.int .i64 room) (.slice A7 next.length a7) (.slice B7 next.length b7)
          replace X := X.put3 (.int .i64 room) (.slice A7 next.length a7) (.slice B7 next.length b7)
          generalize ((m16.setCell ⟨m1.heap.size, 0, none⟩ (.int .i64 room)).setCell ⟨m1.heap.size, 1, none⟩ (.slice A7 next.length a7)).setCell ⟨m1.heap.size, 2, none⟩ (.slice B7 next.length b7) = m17 at *
          refine (right_good _ N hg3 (by omega) (by omega)).mono ?_
          rintro e m18 ⟨rfl, hb⟩
          replace X := X.below hb (Nat.le_refl _)
          replace G := G.below hb (Nat.le_refl _)
          replace N := N.below hb (Nat.le_refl _)
          replace L := L.trans (hb.mono L.size)
          clear hb
          obtain ⟨x_0, x_1, x_2, x_3, x_4⟩ := X.f3
          go_wp2
          refine ⟨⟨k + 1, next, _, _, by omega, by omega, by go_num, hg3, hH2, N, X, L⟩, by simp only [intOf]; omega⟩
      · have HE := Lib.hid he
        obtain ⟨_, e, g0, g1, g2, g3⟩ := R.four hlt HQ.out.1 HQ.out.2.1 HQ.out.2.2.1 HQ.out.2.2.2
        injection e with e; subst e
        have gb := R.inb hlt
        obtain ⟨x_0, x_1, x_2, x_3, x_4⟩ := X.f3
        go_wp2_with fail
        clear g0 g1 g2 g3 gb
        clear x_0 x_1 x_2 x_3 x_4
        have hc : ∀ W, Ext m15.drew W → W.cell? ⟨m1.heap.size, 0, none⟩ = some (.int .i64 room) ∧ W.cell? ⟨m1.heap.size, 1, none⟩ = some (.slice (some a0) gc.length a3) ∧ W.cell? ⟨m1.heap.size, 2, none⟩ = some (.slice B3 gc.length b3) ∧ Ca W room gc (.agg #[.int .i64 room, .slice (some a0) gc.length a3, .slice B3 gc.length b3]) ∧ Rd W 0 4 (some ad) n (scells ss) ∧ W.cell? (ad.add (k * 4)) = some (.int .u8 s.wh) ∧ W.cell? ⟨(ad.add (k * 4)).block, (ad.add (k * 4)).off + 1, none⟩ = some (.int .u8 s.k) ∧ W.cell? ⟨(ad.add (k * 4)).block, (ad.add (k * 4)).off + 2, none⟩ = some (.int .u8 s.v) ∧ W.cell? ⟨(ad.add (k * 4)).block, (ad.add (k * 4)).off + 3, none⟩ = some (.bool s.lg) ∧ True := fun W hE => by
          obtain ⟨x_0, x_1, x_2, x_3, x_4⟩ := (X.drew.ext hE).f3
          obtain ⟨_, e, g0, g1, g2, g3⟩ := (R.drew.ext hE).four hlt HQ.out.1 HQ.out.2.1 HQ.out.2.2.1 HQ.out.2.2.2
          injection e with e; subst e
          exact ⟨x_0, x_1, x_2, G.drew.ext hE, R.drew.ext hE, g0, g1, g2, g3, trivial⟩
        have HC := Lib.hid hc; clear hc
        refine wp_region_list2 (by kernel_rfl) 6 Ext [(5, IsCa room (rstep room gc s))] (by kernel_rfl) (fun _ _ d _ _ h => by cases d <;> exact h) rfl Ext.refl (fun _ _ _ => Ext.trans) ⟨fun _ _ _ => IsCa.ext, trivial⟩ ?_
        simp only [List.take_succ_cons, List.take_zero, List.take_nil, List.drop_succ_cons, List.drop_zero, List.drop_nil]
        iterate 5
          refine ph_pure (a' := ?_) rfl rfl ?_ (fun m16 hE hG => pureAt_plain rfl ?_) ?_ ?_
          rotate_left 2
          · clear hG; obtain ⟨x_0, x_1, x_2, hG, hR, g0, g1, g2, g3, _⟩ := HC.out m16 hE; (go_simp; try go_bits); rfl
          · go_simp; rfl
        refine ph_op rfl rfl (fun m16 hE hG => opAt_plain rfl ?_) (fun v hv => ?_)
        · clear hG
          try clear hG
          obtain ⟨x_0, x_1, x_2, hG, hR, g0, g1, g2, g3, _⟩ := HC.out m16 hE; (go_simp; try go_bits)
          refine (step_good s _ hG hg1 (by omega) (by omega) hok).mono ?_
          rintro e w' ⟨v, rfl, hsl, hb⟩
          exact ⟨_, rfl, hb, hsl⟩
        obtain ⟨_, _, hca7⟩ := hv
        obtain ⟨A7, a7, B7, b7, rfl⟩ := Ca.form hca7
        go_simp
        refine ph_end (fun m16 hE hG => ?_)
        simp only [List.forall_mem_cons] at hG
        have N := hG.1
        replace X := X.drew.ext hE
        replace G := G.drew.ext hE
        replace R := R.drew.ext hE
        replace L := L.drew.trans (hE.below.mono L.size)
        clear hE hG HC
        have hH2 : Has κ (rstep room gc s) := by
          have := HGL.out
          rw [this]
          exact keep_first hg2 hr0.1 s (fun h => HE.out (HKX.out.symm.trans h.1))
        have hg3 := hg1.step (by omega) s
        generalize rstep room gc s = next at *
        change Ca _ _ _ _ at N
        obtain ⟨x_0, x_1, x_2, x_3, x_4⟩ := X.f3
        go_wp2_with fail
        clear R
        clear x_0 x_1 x_2 x_3 x_4
        replace G := G.put3 X (.int .i64 room) (.slice A7 next.length a7) (.slice B7 next.length b7)
        replace N := N.put3 X (.int .i64 room) (.slice A7 next.length a7) (.slice B7 next.length b7)
        replace L := below_put3 L (show w.heap.size ≤ m1.heap.size by omega) (.int .i64 room) (.slice A7 next.length a7) (.slice B7 next.length b7)
        replace X := X.put3 (.int .i64 room) (.slice A7 next.length a7) (.slice B7 next.length b7)
        generalize ((m16.setCell ⟨m1.heap.size, 0, none⟩ (.int .i64 room)).setCell ⟨m1.heap.size, 1, none⟩ (.slice A7 next.length a7)).setCell ⟨m1.heap.size, 2, none⟩ (.slice B7 next.length b7) = m17 at *
        refine (right_good _ N hg3 (by omega) (by omega)).mono ?_
        rintro e m18 ⟨rfl, hb⟩
        replace X := X.below hb (Nat.le_refl _)
        replace G := G.below hb (Nat.le_refl _)
        replace N := N.below hb (Nat.le_refl _)
        replace L := L.trans (hb.mono L.size)
        clear hb
        obtain ⟨x_0, x_1, x_2, x_3, x_4⟩ := X.f3
        go_wp2
        refine ⟨⟨k + 1, next, _, _, by omega, by omega, by go_num, hg3, hH2, N, X, L⟩, by simp only [intOf]; omega⟩
    · by_cases h1 : (k : Int) < n
      · have h2 : ¬ (k : Int) < 8 := by omega
        clear hlt
        obtain ⟨x_0, x_1, x_2, x_3, x_4⟩ := X.f3
        go_wp2_with fail
        clear x_0 x_1 x_2 x_3 x_4
        refine (lget_any room cur _ κ _ C hsm.1 (by omega) hg.nd (by omega)).mono ?_
        rintro e m11 ⟨p3, q3, rfl, G, hb⟩
        replace X := X.below hb (Nat.le_refl _)
        replace C := C.below hb (Nat.le_refl _)
        replace L := L.trans (hb.mono L.size)
        clear hb
        rw [hH.gi]
        clear G
        go_wp2
        go_ret
        exact ⟨rfl, L⟩
      · clear hlt
        obtain ⟨x_0, x_1, x_2, x_3, x_4⟩ := X.f3
        go_wp2_with fail
        clear x_0 x_1 x_2 x_3 x_4
        refine (lget_any room cur _ κ _ C hsm.1 (by omega) hg.nd (by omega)).mono ?_
        rintro e m11 ⟨p3, q3, rfl, G, hb⟩
        replace X := X.below hb (Nat.le_refl _)
        replace C := C.below hb (Nat.le_refl _)
        replace L := L.trans (hb.mono L.size)
        clear hb
        rw [hH.gi]
        clear G
        go_wp2
        go_ret
        exact ⟨rfl, L⟩
end Go.Proofs.Ytecdmgcgplohoaa
