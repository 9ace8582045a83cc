import Derived.Test.YtecdmgcgplohoaaCa21
namespace Go.Proofs.Ytecdmgcgplohoaa
open Go.ChangeShapes Go.WideShapes Go.ChangeAt Go.RowKit
set_option linter.unusedVariables false
set_option linter.unusedSimpArgs false
attribute [local go_sem] ba_beq ba_bne

/-- what was put last for the key: whether it is there, and the value -/
def latS (κ : BA) (a : Bool × BA) (s : St) : Bool × BA := if s.en.1 = κ then (if s.wh % 8 < 5 then (true, s.en.2) else if s.wh % 8 = 7 then (false, a.2) else a) else a
def lat (κ : BA) (ss : List St) : Bool × BA := ss.foldl (latS κ) (false, valOf 0 false)
theorem lat_snoc (κ : BA) (ss : List St) (k : Nat) (h : k < ss.length) : lat κ (ss.take (k + 1)) = latS κ (lat κ (ss.take k)) ss[k] := by
  unfold lat
  rw [take_snoc ss k h, List.foldl_append]; rfl
def Inv (κ : BA) (a : Bool × BA) (l : List En) : Prop := ∀ e ∈ l, e.1 = κ → a.1 = true ∧ e.2 = a.2
theorem gl_mem (room : Int) (l : List En) (key : BA) (e : En) (h : e ∈ gl room l key) : e ∈ l := by
  unfold gl at h
  cases hf : gf l key with
  | none => rw [hf] at h; exact h
  | some x =>
    rw [hf] at h
    have := (fit_sub room _ 0).subset h
    rcases List.mem_cons.1 this with rfl | h
    · exact List.mem_of_find?_eq_some hf
    · exact (wo_sub l key).subset h
theorem Inv.step {κ : BA} {a : Bool × BA} {l : List En} (h : Inv κ a l) (room : Int) (s : St) (ho : s.ok) : Inv κ (latS κ a s) (rstep room l s) := by
  intro e he hk
  have hw := ho.1
  unfold rstep at he
  unfold latS
  split at he
  · have h1 := h e (gl_mem _ _ _ _ he) hk
    have e0 : (if s.en.1 = κ then (if s.wh % 8 < 5 then (true, s.en.2) else if s.wh % 8 = 7 then (false, a.2) else a) else a) = a := by
      split
      · rw [if_neg (by omega), if_neg (by omega)]
      · rfl
    rw [e0]
    exact h1
  · split at he
    · have h2 := (fit_sub room _ 0).subset he
      have h3 : e.1 ≠ s.en.1 := by simpa using (List.mem_filter.1 h2).2
      rw [if_neg (by rw [← hk]; exact fun x => h3 x.symm)]
      exact h e ((wo_sub l _).subset h2) hk
    · have h2 := (fit_sub room _ 0).subset he
      rcases List.mem_cons.1 h2 with rfl | h2
      · rw [if_pos hk, if_pos (by omega)]
        exact ⟨rfl, rfl⟩
      · have h3 : e.1 ≠ s.en.1 := by simpa using (List.mem_filter.1 h2).2
        rw [if_neg (by rw [← hk]; exact fun x => h3 x.symm)]
        exact h e ((wo_sub l _).subset h2) hk
theorem Inv.script (room : Int) (κ : BA) (ss : List St) (ho : ∀ s ∈ ss, s.ok) : Inv κ (lat κ ss) (rscript room ss) := by
  suffices H : ∀ (ss : List St) (a : Bool × BA) (l : List En), (∀ s ∈ ss, s.ok) → Inv κ a l → Inv κ (ss.foldl (latS κ) a) (ss.foldl (rstep room) l) from H ss _ [] ho (fun e he => by cases he)
  intro ss
  induction ss with
  | nil => intro a l _ h; exact h
  | cons s ss ih => intro a l ho h; exact ih _ _ (fun x hx => ho x (List.mem_cons_of_mem _ hx)) (h.step room s (ho s (List.mem_cons_self ..)))
theorem Inv.get {κ : BA} {a : Bool × BA} {l : List En} (h : Inv κ a l) : gi l κ = false ∨ (gi l κ = true ∧ a.1 = true ∧ gv l κ = a.2) := by
  unfold gi gv
  cases hf : gf l κ with
  | none => exact .inl rfl
  | some e =>
    have h1 : e ∈ l := List.mem_of_find?_eq_some hf
    have h2 : e.1 = κ := by have := List.find?_some hf; simpa using this
    obtain ⟨h3, h4⟩ := h e h1 h2
    exact .inr ⟨rfl, h3, h4⟩
/-- the loop: the cache's block g, the block h of the entry that is wanted -/
def LatRel (n : Nat) (room : Int) (κ : BA) (ss : List St) (w : World) (g h : Nat) (th i : Value) (wr : World) : Prop :=
  ∃ (k : Nat) (p q : Value), k ≤ n ∧ k ≤ 16 ∧ i = .int .i64 k ∧ th = .bool (lat κ (ss.take k)).1 ∧ Ca wr room (rscript room (ss.take k)) (.agg #[.int .i64 room, p, q]) ∧ Blk wr g 26 #[.int .i64 room, p, q] ∧
    Blk wr h 28 #[.string κ, .string (lat κ (ss.take k)).2] ∧ Below w.heap.size w wr
theorem Rd.inb {w : World} {e : TypeId} {ad : Addr} {n i : Nat} {xs : List Value} (h : Rd w e 4 (some ad) n xs) (hi : i < n) : (ad.add (i * 4)).block < w.heap.size := by
  obtain ⟨ad', ea, hb, _⟩ := h.2 (by omega)
  injection ea with ea; subst ea
  rw [addr_block]; exact hb
theorem Ca.set2 {w : World} {g : Nat} {room : Int} {l : List En} {V : Value} (h : Ca w room l V) {u0 u1 : Value} (Y : Blk w g 28 #[u0, u1]) (v : Value) : Ca (w.setCell ⟨g, 1, none⟩ v) room l V := by
  obtain ⟨A, c, B, d, h1, h2, h3, h4⟩ := h.ex
  exact ⟨⟨A, c, B, d, h1, h2.set (by decide) (p := ⟨g, 1, none⟩) Y (by decide), h3.set (by decide) (p := ⟨g, 1, none⟩) Y (by decide), h4⟩⟩

set_option maxHeartbeats 2000000 in
set_option maxRecDepth 100000 in
theorem latest_walk (A : Option Addr) (n c : Nat) (ss : List St) (rm ky : Int) (w : World) (hr : Rd w 0 4 A n (scells ss)) (hn : n ≤ maxLen) (hss : ∀ s ∈ ss, s.ok) (hm0 : 0 ≤ rm) (hm1 : rm ≤ 255) (hy0 : 0 ≤ ky) (hy1 : ky ≤ 255) :
    Calls Try.prog 5 #[.slice A n c, .int .u8 rm, .int .u8 ky] w fun e w' => e = .returned (.bool true) ∧ Below w.heap.size w w' := by
  have hlen : ss.length = n := by have := hr.len; rw [scells_len] at this; omega
  have HN := Lib.hid hlen; clear hlen
  unfold maxLen at hn
  go_enter Try.func5, Try.ntmps5
  go_wp2_with fail
  refine (sanity_any _).mono ?_
  rintro e w1 ⟨rfl, L⟩
  obtain ⟨room, hroom⟩ : ∃ room, rm % 13 = room := ⟨_, rfl⟩
  have hr0 : 0 ≤ room ∧ room ≤ 12 := by omega
  have lew1 := L.size
  go_wp2_with fail
  have le_X := L.size
  have X := Blk.new w1 26 #[.int .i64 room, .slice none 0 0, .slice none 0 0]
  replace L := L.alloc L.size (Obj.cells #[.int .i64 room, .slice none 0 0, .slice none 0 0] 26)
  generalize w1.alloc (Obj.cells #[.int .i64 room, .slice none 0 0, .slice none 0 0] 26) = m1 at *
  refine (of_any 0 ky 0 false _ (by omega) (by omega)).mono ?_
  rintro e m2 ⟨rfl, hb⟩
  replace X := X.below hb (Nat.le_refl _)
  replace L := L.trans (hb.mono L.size)
  clear hb
  obtain ⟨κ, hκ⟩ : ∃ κ, letter (ky % 6) = κ := ⟨_, rfl⟩
  have hκ1 : κ.size = 1 := by rw [← hκ]; exact letter_size _ (by omega)
  rw [hκ]
  have Hκ := Lib.hid hκ; clear hκ
  have lem2 := L.size
  have hgh : w1.heap.size < m2.heap.size := X.lt
  go_wp2_with fail
  go_loopw [10, 11] (fun th i wr => LatRel n room κ ss w w1.heap.size m2.heap.size th i wr) (fun _ i _ => 200 - (intOf i).toNat)
  case atStart =>
    exact ⟨0, _, _, by omega, by omega, rfl, rfl, ca_nil _ room, X.alloc _, Blk.new _ 28 _, L.alloc L.size _⟩
  case round =>
    clear hroom X L
    obtain ⟨k, p, q, hk, hkl, rfl, rfl, C, X, E, L⟩ := hrel
    have hg := Good.script hr0.1 (ss.take k)
    have hI := Inv.script room κ (ss.take k) (fun s hs => hss s (List.mem_of_mem_take hs))
    have hsm := hg.sm (by omega)
    obtain ⟨P, cp, Q, cq, rfl, rfl⟩ := C.form2
    by_cases hlt : k < n ∧ k < 16
    · obtain ⟨hlt, hlt2⟩ := hlt
      have hks : k < ss.length := by rw [HN.out]; exact hlt
      have HX := Lib.hid (And.intro (rscript_snoc room ss k hks) (lat_snoc κ ss k hks))
      have hok := hss _ (List.getElem_mem hks)
      obtain ⟨q0, q1, q2, q3⟩ := scells_at ss k hks
      have HQ := Lib.hid (And.intro q0 (And.intro q1 (And.intro q2 q3)))
      have R := hr.below L (Nat.le_refl _)
      obtain ⟨ad, h1, g0, g1, g2, g3⟩ := R.four hlt q0 q1 q2 q3
      subst h1
      have HR := Lib.hid hr; clear hr
      clear q0 q1 q2 q3
      generalize hs : ss[k] = s at *
      generalize hcur : rscript room (ss.take k) = cur at *
      obtain ⟨a, ha⟩ : ∃ a, lat κ (ss.take k) = a := ⟨_, rfl⟩
      rw [ha] at HX hI E ⊢
      obtain ⟨th, va⟩ := a
      clear ha
      simp only at E ⊢
      have hltk : (k : Int) < n := by omega
      have hltl : (k : Int) < 16 := by omega
      have hes := en_size s
      have hwh := hok.1
      obtain ⟨x_0, x_1, x_2, x_3, x_4⟩ := X.f3
      obtain ⟨e_0, e_1, e_2, e_3⟩ := E.f2
      go_wp2_with fail
      clear g0 g1 g2 g3
      clear x_0 x_1 x_2 x_3 x_4 e_0 e_1 e_2 e_3
      refine (of_any s.wh s.k s.v s.lg _ hok.2.1 hok.2.2).mono ?_
      rintro e m3 ⟨rfl, hb⟩
      replace X := X.below hb (Nat.le_refl _)
      replace E := E.below hb (Nat.le_refl _)
      replace C := C.below hb (Nat.le_refl _)
      replace R := R.below hb (Nat.le_refl _)
      replace L := L.trans (hb.mono L.size)
      clear hb
      obtain ⟨kx, hkx⟩ : ∃ kx, s.en.1 = kx := ⟨_, rfl⟩
      obtain ⟨vx, hvx⟩ : ∃ vx, s.en.2 = vx := ⟨_, rfl⟩
      have hlk : letter (s.k % 6) = kx := hkx
      have hlv : valOf s.v s.lg = vx := hvx
      rw [hkx, hvx] at hes
      have HKV := Lib.hid (And.intro hkx hvx)
      rw [hlk, hlv]
      have HS := Lib.hid (show latS κ (th, va) s = if kx = κ then (if s.wh % 8 < 5 then (true, vx) else if s.wh % 8 = 7 then (false, va) else (th, va)) else (th, va) by unfold latS; rw [hkx, hvx])
      clear hkx hvx hlk hlv
      by_cases he : kx = κ
      · obtain rfl := he.symm
        by_cases h5 : s.wh % 8 < 5
        · have hx := Lib.hid h5
          have hI2 := hI.step room s hok
          have hI3 : latS κ (th, va) s = (true, vx) := HS.out.trans ((if_pos rfl).trans (if_pos h5))
          rw [hI3] at hI2 HX
          clear hI3
          obtain ⟨_, e, g0, g1, g2, g3⟩ := R.four hlt HQ.out.1 HQ.out.2.1 HQ.out.2.2.1 HQ.out.2.2.2
          injection e with e; subst e
          have gb := R.inb hlt
          have gb2 : (⟨m2.heap.size, 1, none⟩ : Addr) ≠ ad.add (k * 4) := by have := HR.out.inb hlt; intro e; rw [← e] at this; simp only at this; omega
          obtain ⟨x_0, x_1, x_2, x_3, x_4⟩ := X.f3
          obtain ⟨e_0, e_1, e_2, e_3⟩ := E.f2
          go_wp2_with fail
          clear g0 g1 g2 g3 gb gb2
          clear R
          clear x_0 x_1 x_2 x_3 x_4 e_0 e_1 e_2 e_3
          replace X := X.far (p := ⟨m2.heap.size, 1, none⟩) (show w1.heap.size ≠ m2.heap.size by omega) (.string vx)
          replace C := C.set2 E (.string vx)
          replace L := L.setCell (p := ⟨m2.heap.size, 1, none⟩) (show w.heap.size ≤ m2.heap.size by omega) (.string vx)
          replace E : Blk _ _ 28 #[.string κ, .string vx] := E.set_ 1 (.string vx)
          have lt_X_G : w1.heap.size < m3.heap.size := by have := X.lt; simpa using this
          have lt_E_G : m2.heap.size < m3.heap.size := by have := E.lt; simpa using this
          have le_G : w.heap.size ≤ m3.heap.size := by have := L.size; simpa using this
          have G := Blk.newAt (m3.setCell ⟨m2.heap.size, 1, none⟩ (.string vx)) m3.heap.size (by simp) 28 #[.string κ, .string vx]
          replace X := X.alloc (Obj.cells #[.string κ, .string vx] 28)
          replace E := E.alloc (Obj.cells #[.string κ, .string vx] 28)
          replace C := C.alloc (Obj.cells #[.string κ, .string vx] 28)
          replace L := L.alloc L.size (Obj.cells #[.string κ, .string vx] 28)
          generalize (m3.setCell ⟨m2.heap.size, 1, none⟩ (.string vx)).alloc (Obj.cells #[.string κ, .string vx] 28) = m5 at *
          have R := HR.out.below L (Nat.le_refl _)
          have hl_X := X.lt
          have hl_E := E.lt
          have hl_G := G.lt
          have hLs := L.size
          have hc : ∀ W, Ext m5.drew W → W.cell? ⟨w1.heap.size, 0, none⟩ = some (.int .i64 room) ∧ W.cell? ⟨w1.heap.size, 1, none⟩ = some (.slice P cur.length cp) ∧ W.cell? ⟨w1.heap.size, 2, none⟩ = some (.slice Q cur.length cq) ∧ W.cell? ⟨m2.heap.size, 0, none⟩ = some (.string κ) ∧ W.cell? ⟨m2.heap.size, 1, none⟩ = some (.string vx) ∧ Ca W room cur (.agg #[.int .i64 room, .slice P cur.length cp, .slice Q cur.length cq]) ∧ W.cell? ⟨m3.heap.size, 0, none⟩ = some (.string κ) ∧ W.cell? ⟨m3.heap.size, 1, none⟩ = some (.string vx) ∧ Rd W 0 4 (some ad) n (scells ss) ∧ W.cell? (ad.add (k * 4)) = some (.int .u8 s.wh) ∧ W.cell? ⟨(ad.add (k * 4)).block, (ad.add (k * 4)).off + 1, none⟩ = some (.int .u8 s.k) ∧ W.cell? ⟨(ad.add (k * 4)).block, (ad.add (k * 4)).off + 2, none⟩ = some (.int .u8 s.v) ∧ W.cell? ⟨(ad.add (k * 4)).block, (ad.add (k * 4)).off + 3, none⟩ = some (.bool s.lg) ∧ True := fun W hE => by
            obtain ⟨x_0, x_1, x_2, x_3, x_4⟩ := (X.drew.ext hE).f3
            obtain ⟨e_0, e_1, e_2, e_3⟩ := (E.drew.ext hE).f2
            obtain ⟨g_0, g_1, g_2, g_3⟩ := (G.drew.ext hE).f2
            obtain ⟨_, e, g0, g1, g2, g3⟩ := (R.drew.ext hE).four hlt HQ.out.1 HQ.out.2.1 HQ.out.2.2.1 HQ.out.2.2.2
            injection e with e; subst e
            exact ⟨x_0, x_1, x_2, e_0, e_1, C.drew.ext hE, g_0, g_1, R.drew.ext hE, g0, g1, g2, g3, trivial⟩
          have HC := Lib.hid hc; clear hc
          refine wp_region_list2 (by kernel_rfl) 7 Ext [(5, IsCa room (rstep room cur s)), (6, Box m5.heap.size 26 #[.int .i64 0, .slice none 0 0, .slice none 0 0])] (by kernel_rfl) (fun _ _ d _ _ h => by cases d <;> exact h) rfl Ext.refl (fun _ _ _ => Ext.trans) ⟨fun _ _ _ => IsCa.ext, fun _ _ _ => Box.ext, trivial⟩ ?_
          simp only [List.take_succ_cons, List.take_zero, List.take_nil, List.drop_succ_cons, List.drop_zero, List.drop_nil]
          iterate 5
            refine ph_pure (a' := ?_) rfl rfl ?_ (fun m6 hE hG => pureAt_plain rfl ?_) ?_ ?_
            rotate_left 2
            · clear hG; obtain ⟨x_0, x_1, x_2, e_0, e_1, hC, g_0, g_1, hR, g0, g1, g2, g3, _⟩ := HC.out m6 hE; (go_simp; try go_bits); rfl
            · go_simp; rfl
          refine ph_op rfl rfl (fun m6 hE hG => opAt_plain rfl ?_) (fun v hv => ?_)
          · clear hG
            try clear hG
            obtain ⟨x_0, x_1, x_2, e_0, e_1, hC, g_0, g_1, hR, g0, g1, g2, g3, _⟩ := HC.out m6 hE; (go_simp; try go_bits)
            refine (step_good s _ hC hg hr0.1 (by omega) hok).mono ?_
            rintro e w' ⟨v, rfl, hsl, hb⟩
            exact ⟨_, rfl, hb, hsl⟩
          obtain ⟨_, _, hca7⟩ := hv
          obtain ⟨A7, a7, B7, b7, rfl⟩ := Ca.form hca7
          go_simp
          refine ph_op rfl rfl (fun m6 hE hG => opAt_plain rfl ?_) (fun v hv => ?_)
          · clear hG
            try clear hG
            obtain ⟨x_0, x_1, x_2, e_0, e_1, hC, g_0, g_1, hR, g0, g1, g2, g3, _⟩ := HC.out m6 hE; (go_simp; try go_bits)
            exact ⟨Ext.alloc _ _, Box.new (Below.size (Below.trans (Below.refl _ _).drew hE)) _ _⟩
          obtain ⟨_, _, p9, rfl, hp_Z, _⟩ := hv
          go_simp
          refine ph_end (fun m6 hE hG => ?_)
          simp only [List.forall_mem_cons] at hG
          have N := hG.2.1
          have QY := hG.1
          replace X := X.drew.ext hE
          replace E := E.drew.ext hE
          replace C := C.drew.ext hE
          replace G := G.drew.ext hE
          replace R := R.drew.ext hE
          replace L := L.drew.trans (hE.below.mono L.size)
          clear hE hG HC
          have lt_X_Z : w1.heap.size < p9 := by omega
          have lt_E_Z : m2.heap.size < p9 := by omega
          have lt_G_Z : m3.heap.size < p9 := by omega
          have le_Z : w.heap.size ≤ p9 := by omega
          clear hp_Z hLs hl_X hl_E hl_G
          have Z := (Box.at_ QY).2; clear QY
          have hg2 := hg.step hr0.1 s
          generalize hnext : rstep room cur s = next at *
          have hsm2 := hg2.sm (by omega)
          change Ca _ _ _ _ at N
          obtain ⟨z_0, z_1, z_2, z_3, z_4⟩ := Z.f3
          go_wp2_with fail
          clear R
          clear z_0 z_1 z_2 z_3 z_4
          replace X := X.other3 (p := p9) (by omega) (.int .i64 room) (.slice A7 next.length a7) (.slice B7 next.length b7)
          replace E := E.other3 (p := p9) (by omega) (.int .i64 room) (.slice A7 next.length a7) (.slice B7 next.length b7)
          replace C := C.put3 Z (.int .i64 room) (.slice A7 next.length a7) (.slice B7 next.length b7)
          replace G := G.other3 (p := p9) (by omega) (.int .i64 room) (.slice A7 next.length a7) (.slice B7 next.length b7)
          replace N := N.put3 Z (.int .i64 room) (.slice A7 next.length a7) (.slice B7 next.length b7)
          replace L := below_put3 L (show w.heap.size ≤ p9 by omega) (.int .i64 room) (.slice A7 next.length a7) (.slice B7 next.length b7)
          replace Z := Z.put3 (.int .i64 room) (.slice A7 next.length a7) (.slice B7 next.length b7)
          generalize ((m6.setCell ⟨p9, 0, none⟩ (.int .i64 room)).setCell ⟨p9, 1, none⟩ (.slice A7 next.length a7)).setCell ⟨p9, 2, none⟩ (.slice B7 next.length b7) = m7 at *
          have R := HR.out.below L (Nat.le_refl _)
          obtain ⟨x_0, x_1, x_2, x_3, x_4⟩ := X.f3
          obtain ⟨e_0, e_1, e_2, e_3⟩ := E.f2
          obtain ⟨g_0, g_1, g_2, g_3⟩ := G.f2
          obtain ⟨z_0, z_1, z_2, z_3, z_4⟩ := Z.f3
          go_wp2_with fail
          clear x_0 x_1 x_2 x_3 x_4 e_0 e_1 e_2 e_3 g_0 g_1 g_2 g_3 z_0 z_1 z_2 z_3 z_4
          refine (right_good _ N hg2 hr0.1 (by omega)).mono ?_
          rintro e m8 ⟨rfl, hb⟩
          replace X := X.below hb (Nat.le_refl _)
          replace E := E.below hb (Nat.le_refl _)
          replace C := C.below hb (Nat.le_refl _)
          replace G := G.below hb (Nat.le_refl _)
          replace N := N.below hb (Nat.le_refl _)
          replace Z := Z.below hb (Nat.le_refl _)
          replace R := R.below hb (Nat.le_refl _)
          replace L := L.trans (hb.mono L.size)
          clear hb
          obtain ⟨x_0, x_1, x_2, x_3, x_4⟩ := X.f3
          obtain ⟨e_0, e_1, e_2, e_3⟩ := E.f2
          obtain ⟨g_0, g_1, g_2, g_3⟩ := G.f2
          obtain ⟨z_0, z_1, z_2, z_3, z_4⟩ := Z.f3
          go_wp2_with fail
          clear R
          clear x_0 x_1 x_2 x_3 x_4 e_0 e_1 e_2 e_3 g_0 g_1 g_2 g_3 z_0 z_1 z_2 z_3 z_4
          replace E := E.other3 (p := w1.heap.size) (by omega) (.int .i64 room) (.slice A7 next.length a7) (.slice B7 next.length b7)
          replace C := C.put3 X (.int .i64 room) (.slice A7 next.length a7) (.slice B7 next.length b7)
          replace G := G.other3 (p := w1.heap.size) (by omega) (.int .i64 room) (.slice A7 next.length a7) (.slice B7 next.length b7)
          replace N := N.put3 X (.int .i64 room) (.slice A7 next.length a7) (.slice B7 next.length b7)
          replace Z := Z.other3 (p := w1.heap.size) (by omega) (.int .i64 room) (.slice A7 next.length a7) (.slice B7 next.length b7)
          replace L := below_put3 L (show w.heap.size ≤ w1.heap.size by omega) (.int .i64 room) (.slice A7 next.length a7) (.slice B7 next.length b7)
          replace X := X.put3 (.int .i64 room) (.slice A7 next.length a7) (.slice B7 next.length b7)
          generalize ((m8.setCell ⟨w1.heap.size, 0, none⟩ (.int .i64 room)).setCell ⟨w1.heap.size, 1, none⟩ (.slice A7 next.length a7)).setCell ⟨w1.heap.size, 2, none⟩ (.slice B7 next.length b7) = m9 at *
          refine (lget_any room next _ κ _ N hsm2.1 (by omega) hg2.nd (by omega)).mono ?_
          rintro e m10 ⟨p3, q3, rfl, G3, hb⟩
          replace X := X.below hb (Nat.le_refl _)
          replace E := E.below hb (Nat.le_refl _)
          replace C := C.below hb (Nat.le_refl _)
          replace G := G.below hb (Nat.le_refl _)
          replace N := N.below hb (Nat.le_refl _)
          replace Z := Z.below hb (Nat.le_refl _)
          replace L := L.trans (hb.mono L.size)
          clear hb
          obtain ⟨A3, a3, B3, b3, rfl, rfl⟩ := G3.form2
          clear G3
          rcases hI2.get with h1 | ⟨h1, h2, h3⟩
          · rw [h1]
            clear h1
            generalize gv next κ = gval at *
            obtain ⟨x_0, x_1, x_2, x_3, x_4⟩ := X.f3
            obtain ⟨e_0, e_1, e_2, e_3⟩ := E.f2
            obtain ⟨g_0, g_1, g_2, g_3⟩ := G.f2
            obtain ⟨z_0, z_1, z_2, z_3, z_4⟩ := Z.f3
            clear hI hI2
            go_wp2
            refine ⟨⟨k + 1, _, _, by omega, by omega, by go_num, by rw [HX.out.2], by rw [HX.out.1]; exact N.alloc _, X.alloc _, by rw [HX.out.2]; exact E.alloc _, L.alloc L.size _⟩, by simp only [intOf]; omega⟩
          · simp only at h3
            rw [h1, h3]
            clear h1 h3
            obtain ⟨x_0, x_1, x_2, x_3, x_4⟩ := X.f3
            obtain ⟨e_0, e_1, e_2, e_3⟩ := E.f2
            obtain ⟨g_0, g_1, g_2, g_3⟩ := G.f2
            obtain ⟨z_0, z_1, z_2, z_3, z_4⟩ := Z.f3
            clear hI hI2
            go_wp2
            refine ⟨⟨k + 1, _, _, by omega, by omega, by go_num, by rw [HX.out.2], by rw [HX.out.1]; exact N.alloc _, X.alloc _, by rw [HX.out.2]; exact E.alloc _, L.alloc L.size _⟩, by simp only [intOf]; omega⟩
        · by_cases h7 : s.wh % 8 = 7
          · have hx := Lib.hid h5
            have hI2 := hI.step room s hok
            have hI3 : latS κ (th, va) s = (false, va) := HS.out.trans ((if_pos rfl).trans ((if_neg h5).trans (if_pos h7)))
            rw [hI3] at hI2 HX
            clear hI3
            obtain ⟨_, e, g0, g1, g2, g3⟩ := R.four hlt HQ.out.1 HQ.out.2.1 HQ.out.2.2.1 HQ.out.2.2.2
            injection e with e; subst e
            have gb := R.inb hlt
            have gb2 : (⟨m2.heap.size, 1, none⟩ : Addr) ≠ ad.add (k * 4) := by have := HR.out.inb hlt; intro e; rw [← e] at this; simp only at this; omega
            obtain ⟨x_0, x_1, x_2, x_3, x_4⟩ := X.f3
            obtain ⟨e_0, e_1, e_2, e_3⟩ := E.f2
            go_wp2_with fail
            clear g0 g1 g2 g3 gb gb2
            clear x_0 x_1 x_2 x_3 x_4 e_0 e_1 e_2 e_3
            have lt_X_G := X.lt
            have lt_E_G := E.lt
            have le_G := L.size
            have G := Blk.new m3 28 #[.string κ, .string vx]
            replace X := X.alloc (Obj.cells #[.string κ, .string vx] 28)
            replace E := E.alloc (Obj.cells #[.string κ, .string vx] 28)
            replace C := C.alloc (Obj.cells #[.string κ, .string vx] 28)
            replace R := R.alloc (Obj.cells #[.string κ, .string vx] 28)
            replace L := L.alloc L.size (Obj.cells #[.string κ, .string vx] 28)
            generalize m3.alloc (Obj.cells #[.string κ, .string vx] 28) = m4 at *
            have hl_X := X.lt
            have hl_E := E.lt
            have hl_G := G.lt
            have hLs := L.size
            have hc : ∀ W, Ext m4.drew W → W.cell? ⟨w1.heap.size, 0, none⟩ = some (.int .i64 room) ∧ W.cell? ⟨w1.heap.size, 1, none⟩ = some (.slice P cur.length cp) ∧ W.cell? ⟨w1.heap.size, 2, none⟩ = some (.slice Q cur.length cq) ∧ W.cell? ⟨m2.heap.size, 0, none⟩ = some (.string κ) ∧ W.cell? ⟨m2.heap.size, 1, none⟩ = some (.string va) ∧ Ca W room cur (.agg #[.int .i64 room, .slice P cur.length cp, .slice Q cur.length cq]) ∧ Rd W 0 4 (some ad) n (scells ss) ∧ W.cell? ⟨m3.heap.size, 0, none⟩ = some (.string κ) ∧ W.cell? ⟨m3.heap.size, 1, none⟩ = some (.string vx) ∧ W.cell? (ad.add (k * 4)) = some (.int .u8 s.wh) ∧ W.cell? ⟨(ad.add (k * 4)).block, (ad.add (k * 4)).off + 1, none⟩ = some (.int .u8 s.k) ∧ W.cell? ⟨(ad.add (k * 4)).block, (ad.add (k * 4)).off + 2, none⟩ = some (.int .u8 s.v) ∧ W.cell? ⟨(ad.add (k * 4)).block, (ad.add (k * 4)).off + 3, none⟩ = some (.bool s.lg) ∧ True := fun W hE => by
              obtain ⟨x_0, x_1, x_2, x_3, x_4⟩ := (X.drew.ext hE).f3
              obtain ⟨e_0, e_1, e_2, e_3⟩ := (E.drew.ext hE).f2
              obtain ⟨g_0, g_1, g_2, g_3⟩ := (G.drew.ext hE).f2
              obtain ⟨_, e, g0, g1, g2, g3⟩ := (R.drew.ext hE).four hlt HQ.out.1 HQ.out.2.1 HQ.out.2.2.1 HQ.out.2.2.2
              injection e with e; subst e
              exact ⟨x_0, x_1, x_2, e_0, e_1, C.drew.ext hE, R.drew.ext hE, g_0, g_1, g0, g1, g2, g3, trivial⟩
            have HC := Lib.hid hc; clear hc
            refine wp_region_list2 (by kernel_rfl) 7 Ext [(5, IsCa room (rstep room cur s)), (6, Box m4.heap.size 26 #[.int .i64 0, .slice none 0 0, .slice none 0 0])] (by kernel_rfl) (fun _ _ d _ _ h => by cases d <;> exact h) rfl Ext.refl (fun _ _ _ => Ext.trans) ⟨fun _ _ _ => IsCa.ext, fun _ _ _ => Box.ext, trivial⟩ ?_
            simp only [List.take_succ_cons, List.take_zero, List.take_nil, List.drop_succ_cons, List.drop_zero, List.drop_nil]
            iterate 5
              refine ph_pure (a' := ?_) rfl rfl ?_ (fun m5 hE hG => pureAt_plain rfl ?_) ?_ ?_
              rotate_left 2
              · clear hG; obtain ⟨x_0, x_1, x_2, e_0, e_1, hC, hR, g_0, g_1, g0, g1, g2, g3, _⟩ := HC.out m5 hE; (go_simp; try go_bits); rfl
              · go_simp; rfl
            refine ph_op rfl rfl (fun m5 hE hG => opAt_plain rfl ?_) (fun v hv => ?_)
            · clear hG
              try clear hG
              obtain ⟨x_0, x_1, x_2, e_0, e_1, hC, hR, g_0, g_1, g0, g1, g2, g3, _⟩ := HC.out m5 hE; (go_simp; try go_bits)
              refine (step_good s _ hC hg hr0.1 (by omega) hok).mono ?_
              rintro e w' ⟨v, rfl, hsl, hb⟩
              exact ⟨_, rfl, hb, hsl⟩
            obtain ⟨_, _, hca7⟩ := hv
            obtain ⟨A7, a7, B7, b7, rfl⟩ := Ca.form hca7
            go_simp
            refine ph_op rfl rfl (fun m5 hE hG => opAt_plain rfl ?_) (fun v hv => ?_)
            · clear hG
              try clear hG
              obtain ⟨x_0, x_1, x_2, e_0, e_1, hC, hR, g_0, g_1, g0, g1, g2, g3, _⟩ := HC.out m5 hE; (go_simp; try go_bits)
              exact ⟨Ext.alloc _ _, Box.new (Below.size (Below.trans (Below.refl _ _).drew hE)) _ _⟩
            obtain ⟨_, _, p9, rfl, hp_Z, _⟩ := hv
            go_simp
            refine ph_end (fun m5 hE hG => ?_)
            simp only [List.forall_mem_cons] at hG
            have N := hG.2.1
            have QY := hG.1
            replace X := X.drew.ext hE
            replace E := E.drew.ext hE
            replace C := C.drew.ext hE
            replace R := R.drew.ext hE
            replace G := G.drew.ext hE
            replace L := L.drew.trans (hE.below.mono L.size)
            clear hE hG HC
            have lt_X_Z : w1.heap.size < p9 := by omega
            have lt_E_Z : m2.heap.size < p9 := by omega
            have lt_G_Z : m3.heap.size < p9 := by omega
            have le_Z : w.heap.size ≤ p9 := by omega
            clear hp_Z hLs hl_X hl_E hl_G
            have Z := (Box.at_ QY).2; clear QY
            have hg2 := hg.step hr0.1 s
            generalize hnext : rstep room cur s = next at *
            have hsm2 := hg2.sm (by omega)
            change Ca _ _ _ _ at N
            obtain ⟨z_0, z_1, z_2, z_3, z_4⟩ := Z.f3
            go_wp2_with fail
            clear R
            clear z_0 z_1 z_2 z_3 z_4
            replace X := X.other3 (p := p9) (by omega) (.int .i64 room) (.slice A7 next.length a7) (.slice B7 next.length b7)
            replace E := E.other3 (p := p9) (by omega) (.int .i64 room) (.slice A7 next.length a7) (.slice B7 next.length b7)
            replace C := C.put3 Z (.int .i64 room) (.slice A7 next.length a7) (.slice B7 next.length b7)
            replace G := G.other3 (p := p9) (by omega) (.int .i64 room) (.slice A7 next.length a7) (.slice B7 next.length b7)
            replace N := N.put3 Z (.int .i64 room) (.slice A7 next.length a7) (.slice B7 next.length b7)
            replace L := below_put3 L (show w.heap.size ≤ p9 by omega) (.int .i64 room) (.slice A7 next.length a7) (.slice B7 next.length b7)
            replace Z := Z.put3 (.int .i64 room) (.slice A7 next.length a7) (.slice B7 next.length b7)
            generalize ((m5.setCell ⟨p9, 0, none⟩ (.int .i64 room)).setCell ⟨p9, 1, none⟩ (.slice A7 next.length a7)).setCell ⟨p9, 2, none⟩ (.slice B7 next.length b7) = m6 at *
            have R := HR.out.below L (Nat.le_refl _)
            obtain ⟨x_0, x_1, x_2, x_3, x_4⟩ := X.f3
            obtain ⟨e_0, e_1, e_2, e_3⟩ := E.f2
            obtain ⟨g_0, g_1, g_2, g_3⟩ := G.f2
            obtain ⟨z_0, z_1, z_2, z_3, z_4⟩ := Z.f3
            go_wp2_with fail
            clear x_0 x_1 x_2 x_3 x_4 e_0 e_1 e_2 e_3 g_0 g_1 g_2 g_3 z_0 z_1 z_2 z_3 z_4
            refine (right_good _ N hg2 hr0.1 (by omega)).mono ?_
            rintro e m7 ⟨rfl, hb⟩
            replace X := X.below hb (Nat.le_refl _)
            replace E := E.below hb (Nat.le_refl _)
            replace C := C.below hb (Nat.le_refl _)
            replace G := G.below hb (Nat.le_refl _)
            replace N := N.below hb (Nat.le_refl _)
            replace Z := Z.below hb (Nat.le_refl _)
            replace R := R.below hb (Nat.le_refl _)
            replace L := L.trans (hb.mono L.size)
            clear hb
            obtain ⟨x_0, x_1, x_2, x_3, x_4⟩ := X.f3
            obtain ⟨e_0, e_1, e_2, e_3⟩ := E.f2
            obtain ⟨g_0, g_1, g_2, g_3⟩ := G.f2
            obtain ⟨z_0, z_1, z_2, z_3, z_4⟩ := Z.f3
            go_wp2_with fail
            clear R
            clear x_0 x_1 x_2 x_3 x_4 e_0 e_1 e_2 e_3 g_0 g_1 g_2 g_3 z_0 z_1 z_2 z_3 z_4
            replace E := E.other3 (p := w1.heap.size) (by omega) (.int .i64 room) (.slice A7 next.length a7) (.slice B7 next.length b7)
            replace C := C.put3 X (.int .i64 room) (.slice A7 next.length a7) (.slice B7 next.length b7)
            replace G := G.other3 (p := w1.heap.size) (by omega) (.int .i64 room) (.slice A7 next.length a7) (.slice B7 next.length b7)
            replace N := N.put3 X (.int .i64 room) (.slice A7 next.length a7) (.slice B7 next.length b7)
            replace Z := Z.other3 (p := w1.heap.size) (by omega) (.int .i64 room) (.slice A7 next.length a7) (.slice B7 next.length b7)
            replace L := below_put3 L (show w.heap.size ≤ w1.heap.size by omega) (.int .i64 room) (.slice A7 next.length a7) (.slice B7 next.length b7)
            replace X := X.put3 (.int .i64 room) (.slice A7 next.length a7) (.slice B7 next.length b7)
            generalize ((m7.setCell ⟨w1.heap.size, 0, none⟩ (.int .i64 room)).setCell ⟨w1.heap.size, 1, none⟩ (.slice A7 next.length a7)).setCell ⟨w1.heap.size, 2, none⟩ (.slice B7 next.length b7) = m8 at *
            refine (lget_any room next _ κ _ N hsm2.1 (by omega) hg2.nd (by omega)).mono ?_
            rintro e m9 ⟨p3, q3, rfl, G3, hb⟩
            replace X := X.below hb (Nat.le_refl _)
            replace E := E.below hb (Nat.le_refl _)
            replace C := C.below hb (Nat.le_refl _)
            replace G := G.below hb (Nat.le_refl _)
            replace N := N.below hb (Nat.le_refl _)
            replace Z := Z.below hb (Nat.le_refl _)
            replace L := L.trans (hb.mono L.size)
            clear hb
            obtain ⟨A3, a3, B3, b3, rfl, rfl⟩ := G3.form2
            clear G3
            rcases hI2.get with h1 | ⟨h1, h2, h3⟩
            · rw [h1]
              clear h1
              generalize gv next κ = gval at *
              obtain ⟨x_0, x_1, x_2, x_3, x_4⟩ := X.f3
              obtain ⟨e_0, e_1, e_2, e_3⟩ := E.f2
              obtain ⟨g_0, g_1, g_2, g_3⟩ := G.f2
              obtain ⟨z_0, z_1, z_2, z_3, z_4⟩ := Z.f3
              clear hI hI2
              go_wp2
              refine ⟨⟨k + 1, _, _, by omega, by omega, by go_num, by rw [HX.out.2], by rw [HX.out.1]; exact N.alloc _, X.alloc _, by rw [HX.out.2]; exact E.alloc _, L.alloc L.size _⟩, by simp only [intOf]; omega⟩
            · cases h2
          · have hx := Lib.hid h5
            have hI2 := hI.step room s hok
            have hI3 : latS κ (th, va) s = (th, va) := HS.out.trans ((if_pos rfl).trans ((if_neg h5).trans (if_neg h7)))
            rw [hI3] at hI2 HX
            clear hI3
            obtain ⟨_, e, g0, g1, g2, g3⟩ := R.four hlt HQ.out.1 HQ.out.2.1 HQ.out.2.2.1 HQ.out.2.2.2
            injection e with e; subst e
            have gb := R.inb hlt
            have gb2 : (⟨m2.heap.size, 1, none⟩ : Addr) ≠ ad.add (k * 4) := by have := HR.out.inb hlt; intro e; rw [← e] at this; simp only at this; omega
            obtain ⟨x_0, x_1, x_2, x_3, x_4⟩ := X.f3
            obtain ⟨e_0, e_1, e_2, e_3⟩ := E.f2
            go_wp2_with fail
            clear g0 g1 g2 g3 gb gb2
            clear x_0 x_1 x_2 x_3 x_4 e_0 e_1 e_2 e_3
            have lt_X_G := X.lt
            have lt_E_G := E.lt
            have le_G := L.size
            have G := Blk.new m3 28 #[.string κ, .string vx]
            replace X := X.alloc (Obj.cells #[.string κ, .string vx] 28)
            replace E := E.alloc (Obj.cells #[.string κ, .string vx] 28)
            replace C := C.alloc (Obj.cells #[.string κ, .string vx] 28)
            replace R := R.alloc (Obj.cells #[.string κ, .string vx] 28)
            replace L := L.alloc L.size (Obj.cells #[.string κ, .string vx] 28)
            generalize m3.alloc (Obj.cells #[.string κ, .string vx] 28) = m4 at *
            have hl_X := X.lt
            have hl_E := E.lt
            have hl_G := G.lt
            have hLs := L.size
            have hc : ∀ W, Ext m4.drew W → W.cell? ⟨w1.heap.size, 0, none⟩ = some (.int .i64 room) ∧ W.cell? ⟨w1.heap.size, 1, none⟩ = some (.slice P cur.length cp) ∧ W.cell? ⟨w1.heap.size, 2, none⟩ = some (.slice Q cur.length cq) ∧ W.cell? ⟨m2.heap.size, 0, none⟩ = some (.string κ) ∧ W.cell? ⟨m2.heap.size, 1, none⟩ = some (.string va) ∧ Ca W room cur (.agg #[.int .i64 room, .slice P cur.length cp, .slice Q cur.length cq]) ∧ Rd W 0 4 (some ad) n (scells ss) ∧ W.cell? ⟨m3.heap.size, 0, none⟩ = some (.string κ) ∧ W.cell? ⟨m3.heap.size, 1, none⟩ = some (.string vx) ∧ W.cell? (ad.add (k * 4)) = some (.int .u8 s.wh) ∧ W.cell? ⟨(ad.add (k * 4)).block, (ad.add (k * 4)).off + 1, none⟩ = some (.int .u8 s.k) ∧ W.cell? ⟨(ad.add (k * 4)).block, (ad.add (k * 4)).off + 2, none⟩ = some (.int .u8 s.v) ∧ W.cell? ⟨(ad.add (k * 4)).block, (ad.add (k * 4)).off + 3, none⟩ = some (.bool s.lg) ∧ True := fun W hE => by
              obtain ⟨x_0, x_1, x_2, x_3, x_4⟩ := (X.drew.ext hE).f3
              obtain ⟨e_0, e_1, e_2, e_3⟩ := (E.drew.ext hE).f2
              obtain ⟨g_0, g_1, g_2, g_3⟩ := (G.drew.ext hE).f2
              obtain ⟨_, e, g0, g1, g2, g3⟩ := (R.drew.ext hE).four hlt HQ.out.1 HQ.out.2.1 HQ.out.2.2.1 HQ.out.2.2.2
              injection e with e; subst e
              exact ⟨x_0, x_1, x_2, e_0, e_1, C.drew.ext hE, R.drew.ext hE, g_0, g_1, g0, g1, g2, g3, trivial⟩
            have HC := Lib.hid hc; clear hc
            refine wp_region_list2 (by kernel_rfl) 7 Ext [(5, IsCa room (rstep room cur s)), (6, Box m4.heap.size 26 #[.int .i64 0, .slice none 0 0, .slice none 0 0])] (by kernel_rfl) (fun _ _ d _ _ h => by cases d <;> exact h) rfl Ext.refl (fun _ _ _ => Ext.trans) ⟨fun _ _ _ => IsCa.ext, fun _ _ _ => Box.ext, trivial⟩ ?_
            simp only [List.take_succ_cons, List.take_zero, List.take_nil, List.drop_succ_cons, List.drop_zero, List.drop_nil]
            iterate 5
              refine ph_pure (a' := ?_) rfl rfl ?_ (fun m5 hE hG => pureAt_plain rfl ?_) ?_ ?_
              rotate_left 2
              · clear hG; obtain ⟨x_0, x_1, x_2, e_0, e_1, hC, hR, g_0, g_1, g0, g1, g2, g3, _⟩ := HC.out m5 hE; (go_simp; try go_bits); rfl
              · go_simp; rfl
            refine ph_op rfl rfl (fun m5 hE hG => opAt_plain rfl ?_) (fun v hv => ?_)
            · clear hG
              try clear hG
              obtain ⟨x_0, x_1, x_2, e_0, e_1, hC, hR, g_0, g_1, g0, g1, g2, g3, _⟩ := HC.out m5 hE; (go_simp; try go_bits)
              refine (step_good s _ hC hg hr0.1 (by omega) hok).mono ?_
              rintro e w' ⟨v, rfl, hsl, hb⟩
              exact ⟨_, rfl, hb, hsl⟩
            obtain ⟨_, _, hca7⟩ := hv
            obtain ⟨A7, a7, B7, b7, rfl⟩ := Ca.form hca7
            go_simp
            refine ph_op rfl rfl (fun m5 hE hG => opAt_plain rfl ?_) (fun v hv => ?_)
            · clear hG
              try clear hG
              obtain ⟨x_0, x_1, x_2, e_0, e_1, hC, hR, g_0, g_1, g0, g1, g2, g3, _⟩ := HC.out m5 hE; (go_simp; try go_bits)
              exact ⟨Ext.alloc _ _, Box.new (Below.size (Below.trans (Below.refl _ _).drew hE)) _ _⟩
            obtain ⟨_, _, p9, rfl, hp_Z, _⟩ := hv
            go_simp
            refine ph_end (fun m5 hE hG => ?_)
            simp only [List.forall_mem_cons] at hG
            have N := hG.2.1
            have QY := hG.1
            replace X := X.drew.ext hE
            replace E := E.drew.ext hE
            replace C := C.drew.ext hE
            replace R := R.drew.ext hE
            replace G := G.drew.ext hE
            replace L := L.drew.trans (hE.below.mono L.size)
            clear hE hG HC
            have lt_X_Z : w1.heap.size < p9 := by omega
            have lt_E_Z : m2.heap.size < p9 := by omega
            have lt_G_Z : m3.heap.size < p9 := by omega
            have le_Z : w.heap.size ≤ p9 := by omega
            clear hp_Z hLs hl_X hl_E hl_G
            have Z := (Box.at_ QY).2; clear QY
            have hg2 := hg.step hr0.1 s
            generalize hnext : rstep room cur s = next at *
            have hsm2 := hg2.sm (by omega)
            change Ca _ _ _ _ at N
            obtain ⟨z_0, z_1, z_2, z_3, z_4⟩ := Z.f3
            go_wp2_with fail
            clear R
            clear z_0 z_1 z_2 z_3 z_4
            replace X := X.other3 (p := p9) (by omega) (.int .i64 room) (.slice A7 next.length a7) (.slice B7 next.length b7)
            replace E := E.other3 (p := p9) (by omega) (.int .i64 room) (.slice A7 next.length a7) (.slice B7 next.length b7)
            replace C := C.put3 Z (.int .i64 room) (.slice A7 next.length a7) (.slice B7 next.length b7)
            replace G := G.other3 (p := p9) (by omega) (.int .i64 room) (.slice A7 next.length a7) (.slice B7 next.length b7)
            replace N := N.put3 Z (.int .i64 room) (.slice A7 next.length a7) (.slice B7 next.length b7)
            replace L := below_put3 L (show w.heap.size ≤ p9 by omega) (.int .i64 room) (.slice A7 next.length a7) (.slice B7 next.length b7)
            replace Z := Z.put3 (.int .i64 room) (.slice A7 next.length a7) (.slice B7 next.length b7)
            generalize ((m5.setCell ⟨p9, 0, none⟩ (.int .i64 room)).setCell ⟨p9, 1, none⟩ (.slice A7 next.length a7)).setCell ⟨p9, 2, none⟩ (.slice B7 next.length b7) = m6 at *
            have R := HR.out.below L (Nat.le_refl _)
            obtain ⟨x_0, x_1, x_2, x_3, x_4⟩ := X.f3
            obtain ⟨e_0, e_1, e_2, e_3⟩ := E.f2
            obtain ⟨g_0, g_1, g_2, g_3⟩ := G.f2
            obtain ⟨z_0, z_1, z_2, z_3, z_4⟩ := Z.f3
            go_wp2_with fail
            clear x_0 x_1 x_2 x_3 x_4 e_0 e_1 e_2 e_3 g_0 g_1 g_2 g_3 z_0 z_1 z_2 z_3 z_4
            refine (right_good _ N hg2 hr0.1 (by omega)).mono ?_
            rintro e m7 ⟨rfl, hb⟩
            replace X := X.below hb (Nat.le_refl _)
            replace E := E.below hb (Nat.le_refl _)
            replace C := C.below hb (Nat.le_refl _)
            replace G := G.below hb (Nat.le_refl _)
            replace N := N.below hb (Nat.le_refl _)
            replace Z := Z.below hb (Nat.le_refl _)
            replace R := R.below hb (Nat.le_refl _)
            replace L := L.trans (hb.mono L.size)
            clear hb
            obtain ⟨x_0, x_1, x_2, x_3, x_4⟩ := X.f3
            obtain ⟨e_0, e_1, e_2, e_3⟩ := E.f2
            obtain ⟨g_0, g_1, g_2, g_3⟩ := G.f2
            obtain ⟨z_0, z_1, z_2, z_3, z_4⟩ := Z.f3
            go_wp2_with fail
            clear R
            clear x_0 x_1 x_2 x_3 x_4 e_0 e_1 e_2 e_3 g_0 g_1 g_2 g_3 z_0 z_1 z_2 z_3 z_4
            replace E := E.other3 (p := w1.heap.size) (by omega) (.int .i64 room) (.slice A7 next.length a7) (.slice B7 next.length b7)
            replace C := C.put3 X (.int .i64 room) (.slice A7 next.length a7) (.slice B7 next.length b7)
            replace G := G.other3 (p := w1.heap.size) (by omega) (.int .i64 room) (.slice A7 next.length a7) (.slice B7 next.length b7)
            replace N := N.put3 X (.int .i64 room) (.slice A7 next.length a7) (.slice B7 next.length b7)
            replace Z := Z.other3 (p := w1.heap.size) (by omega) (.int .i64 room) (.slice A7 next.length a7) (.slice B7 next.length b7)
            replace L := below_put3 L (show w.heap.size ≤ w1.heap.size by omega) (.int .i64 room) (.slice A7 next.length a7) (.slice B7 next.length b7)
            replace X := X.put3 (.int .i64 room) (.slice A7 next.length a7) (.slice B7 next.length b7)
            generalize ((m7.setCell ⟨w1.heap.size, 0, none⟩ (.int .i64 room)).setCell ⟨w1.heap.size, 1, none⟩ (.slice A7 next.length a7)).setCell ⟨w1.heap.size, 2, none⟩ (.slice B7 next.length b7) = m8 at *
            refine (lget_any room next _ κ _ N hsm2.1 (by omega) hg2.nd (by omega)).mono ?_
            rintro e m9 ⟨p3, q3, rfl, G3, hb⟩
            replace X := X.below hb (Nat.le_refl _)
            replace E := E.below hb (Nat.le_refl _)
            replace C := C.below hb (Nat.le_refl _)
            replace G := G.below hb (Nat.le_refl _)
            replace N := N.below hb (Nat.le_refl _)
            replace Z := Z.below hb (Nat.le_refl _)
            replace L := L.trans (hb.mono L.size)
            clear hb
            obtain ⟨A3, a3, B3, b3, rfl, rfl⟩ := G3.form2
            clear G3
            rcases hI2.get with h1 | ⟨h1, h2, h3⟩
            · rw [h1]
              clear h1
              generalize gv next κ = gval at *
              obtain ⟨x_0, x_1, x_2, x_3, x_4⟩ := X.f3
              obtain ⟨e_0, e_1, e_2, e_3⟩ := E.f2
              obtain ⟨g_0, g_1, g_2, g_3⟩ := G.f2
              obtain ⟨z_0, z_1, z_2, z_3, z_4⟩ := Z.f3
              clear hI hI2
              go_wp2
              refine ⟨⟨k + 1, _, _, by omega, by omega, by go_num, by rw [HX.out.2], by rw [HX.out.1]; exact N.alloc _, X.alloc _, by rw [HX.out.2]; exact E.alloc _, L.alloc L.size _⟩, by simp only [intOf]; omega⟩
            · simp only at h2 h3
              subst h2
              rw [h1, h3]
              clear h1 h3
              obtain ⟨x_0, x_1, x_2, x_3, x_4⟩ := X.f3
              obtain ⟨e_0, e_1, e_2, e_3⟩ := E.f2
              obtain ⟨g_0, g_1, g_2, g_3⟩ := G.f2
              obtain ⟨z_0, z_1, z_2, z_3, z_4⟩ := Z.f3
              clear hI hI2
              go_wp2
              refine ⟨⟨k + 1, _, _, by omega, by omega, by go_num, by rw [HX.out.2], by rw [HX.out.1]; exact N.alloc _, X.alloc _, by rw [HX.out.2]; exact E.alloc _, L.alloc L.size _⟩, by simp only [intOf]; omega⟩
      · have hx := Lib.hid he
        have hI2 := hI.step room s hok
        have hI3 : latS κ (th, va) s = (th, va) := HS.out.trans (if_neg he)
        rw [hI3] at hI2 HX
        clear hI3
        obtain ⟨_, e, g0, g1, g2, g3⟩ := R.four hlt HQ.out.1 HQ.out.2.1 HQ.out.2.2.1 HQ.out.2.2.2
        injection e with e; subst e
        have gb := R.inb hlt
        have gb2 : (⟨m2.heap.size, 1, none⟩ : Addr) ≠ ad.add (k * 4) := by have := HR.out.inb hlt; intro e; rw [← e] at this; simp only at this; omega
        obtain ⟨x_0, x_1, x_2, x_3, x_4⟩ := X.f3
        obtain ⟨e_0, e_1, e_2, e_3⟩ := E.f2
        go_wp2_with fail
        clear g0 g1 g2 g3 gb gb2
        clear x_0 x_1 x_2 x_3 x_4 e_0 e_1 e_2 e_3
        have lt_X_G := X.lt
        have lt_E_G := E.lt
        have le_G := L.size
        have G := Blk.new m3 28 #[.string kx, .string vx]
        replace X := X.alloc (Obj.cells #[.string kx, .string vx] 28)
        replace E := E.alloc (Obj.cells #[.string kx, .string vx] 28)
        replace C := C.alloc (Obj.cells #[.string kx, .string vx] 28)
        replace R := R.alloc (Obj.cells #[.string kx, .string vx] 28)
        replace L := L.alloc L.size (Obj.cells #[.string kx, .string vx] 28)
        generalize m3.alloc (Obj.cells #[.string kx, .string vx] 28) = m4 at *
        have hl_X := X.lt
        have hl_E := E.lt
        have hl_G := G.lt
        have hLs := L.size
        have hc : ∀ W, Ext m4.drew W → W.cell? ⟨w1.heap.size, 0, none⟩ = some (.int .i64 room) ∧ W.cell? ⟨w1.heap.size, 1, none⟩ = some (.slice P cur.length cp) ∧ W.cell? ⟨w1.heap.size, 2, none⟩ = some (.slice Q cur.length cq) ∧ W.cell? ⟨m2.heap.size, 0, none⟩ = some (.string κ) ∧ W.cell? ⟨m2.heap.size, 1, none⟩ = some (.string va) ∧ Ca W room cur (.agg #[.int .i64 room, .slice P cur.length cp, .slice Q cur.length cq]) ∧ Rd W 0 4 (some ad) n (scells ss) ∧ W.cell? ⟨m3.heap.size, 0, none⟩ = some (.string kx) ∧ W.cell? ⟨m3.heap.size, 1, none⟩ = some (.string vx) ∧ W.cell? (ad.add (k * 4)) = some (.int .u8 s.wh) ∧ W.cell? ⟨(ad.add (k * 4)).block, (ad.add (k * 4)).off + 1, none⟩ = some (.int .u8 s.k) ∧ W.cell? ⟨(ad.add (k * 4)).block, (ad.add (k * 4)).off + 2, none⟩ = some (.int .u8 s.v) ∧ W.cell? ⟨(ad.add (k * 4)).block, (ad.add (k * 4)).off + 3, none⟩ = some (.bool s.lg) ∧ True := fun W hE => by
          obtain ⟨x_0, x_1, x_2, x_3, x_4⟩ := (X.drew.ext hE).f3
          obtain ⟨e_0, e_1, e_2, e_3⟩ := (E.drew.ext hE).f2
          obtain ⟨g_0, g_1, g_2, g_3⟩ := (G.drew.ext hE).f2
          obtain ⟨_, e, g0, g1, g2, g3⟩ := (R.drew.ext hE).four hlt HQ.out.1 HQ.out.2.1 HQ.out.2.2.1 HQ.out.2.2.2
          injection e with e; subst e
          exact ⟨x_0, x_1, x_2, e_0, e_1, C.drew.ext hE, R.drew.ext hE, g_0, g_1, g0, g1, g2, g3, trivial⟩
        have HC := Lib.hid hc; clear hc
        refine wp_region_list2 (by kernel_rfl) 7 Ext [(5, IsCa room (rstep room cur s)), (6, Box m4.heap.size 26 #[.int .i64 0, .slice none 0 0, .slice none 0 0])] (by kernel_rfl) (fun _ _ d _ _ h => by cases d <;> exact h) rfl Ext.refl (fun _ _ _ => Ext.trans) ⟨fun _ _ _ => IsCa.ext, fun _ _ _ => Box.ext, trivial⟩ ?_
        simp only [List.take_succ_cons, List.take_zero, List.take_nil, List.drop_succ_cons, List.drop_zero, List.drop_nil]
        iterate 5
          refine ph_pure (a' := ?_) rfl rfl ?_ (fun m5 hE hG => pureAt_plain rfl ?_) ?_ ?_
          rotate_left 2
          · clear hG; obtain ⟨x_0, x_1, x_2, e_0, e_1, hC, hR, g_0, g_1, g0, g1, g2, g3, _⟩ := HC.out m5 hE; (go_simp; try go_bits); rfl
          · go_simp; rfl
        refine ph_op rfl rfl (fun m5 hE hG => opAt_plain rfl ?_) (fun v hv => ?_)
        · clear hG
          try clear hG
          obtain ⟨x_0, x_1, x_2, e_0, e_1, hC, hR, g_0, g_1, g0, g1, g2, g3, _⟩ := HC.out m5 hE; (go_simp; try go_bits)
          refine (step_good s _ hC hg hr0.1 (by omega) hok).mono ?_
          rintro e w' ⟨v, rfl, hsl, hb⟩
          exact ⟨_, rfl, hb, hsl⟩
        obtain ⟨_, _, hca7⟩ := hv
        obtain ⟨A7, a7, B7, b7, rfl⟩ := Ca.form hca7
        go_simp
        refine ph_op rfl rfl (fun m5 hE hG => opAt_plain rfl ?_) (fun v hv => ?_)
        · clear hG
          try clear hG
          obtain ⟨x_0, x_1, x_2, e_0, e_1, hC, hR, g_0, g_1, g0, g1, g2, g3, _⟩ := HC.out m5 hE; (go_simp; try go_bits)
          exact ⟨Ext.alloc _ _, Box.new (Below.size (Below.trans (Below.refl _ _).drew hE)) _ _⟩
        obtain ⟨_, _, p9, rfl, hp_Z, _⟩ := hv
        go_simp
        refine ph_end (fun m5 hE hG => ?_)
        simp only [List.forall_mem_cons] at hG
        have N := hG.2.1
        have QY := hG.1
        replace X := X.drew.ext hE
        replace E := E.drew.ext hE
        replace C := C.drew.ext hE
        replace R := R.drew.ext hE
        replace G := G.drew.ext hE
        replace L := L.drew.trans (hE.below.mono L.size)
        clear hE hG HC
        have lt_X_Z : w1.heap.size < p9 := by omega
        have lt_E_Z : m2.heap.size < p9 := by omega
        have lt_G_Z : m3.heap.size < p9 := by omega
        have le_Z : w.heap.size ≤ p9 := by omega
        clear hp_Z hLs hl_X hl_E hl_G
        have Z := (Box.at_ QY).2; clear QY
        have hg2 := hg.step hr0.1 s
        generalize hnext : rstep room cur s = next at *
        have hsm2 := hg2.sm (by omega)
        change Ca _ _ _ _ at N
        obtain ⟨z_0, z_1, z_2, z_3, z_4⟩ := Z.f3
        go_wp2_with fail
        clear R
        clear z_0 z_1 z_2 z_3 z_4
        replace X := X.other3 (p := p9) (by omega) (.int .i64 room) (.slice A7 next.length a7) (.slice B7 next.length b7)
        replace E := E.other3 (p := p9) (by omega) (.int .i64 room) (.slice A7 next.length a7) (.slice B7 next.length b7)
        replace C := C.put3 Z (.int .i64 room) (.slice A7 next.length a7) (.slice B7 next.length b7)
        replace G := G.other3 (p := p9) (by omega) (.int .i64 room) (.slice A7 next.length a7) (.slice B7 next.length b7)
        replace N := N.put3 Z (.int .i64 room) (.slice A7 next.length a7) (.slice B7 next.length b7)
        replace L := below_put3 L (show w.heap.size ≤ p9 by omega) (.int .i64 room) (.slice A7 next.length a7) (.slice B7 next.length b7)
        replace Z := Z.put3 (.int .i64 room) (.slice A7 next.length a7) (.slice B7 next.length b7)
        generalize ((m5.setCell ⟨p9, 0, none⟩ (.int .i64 room)).setCell ⟨p9, 1, none⟩ (.slice A7 next.length a7)).setCell ⟨p9, 2, none⟩ (.slice B7 next.length b7) = m6 at *
        have R := HR.out.below L (Nat.le_refl _)
        obtain ⟨x_0, x_1, x_2, x_3, x_4⟩ := X.f3
        obtain ⟨e_0, e_1, e_2, e_3⟩ := E.f2
        obtain ⟨g_0, g_1, g_2, g_3⟩ := G.f2
        obtain ⟨z_0, z_1, z_2, z_3, z_4⟩ := Z.f3
        go_wp2_with fail
        clear x_0 x_1 x_2 x_3 x_4 e_0 e_1 e_2 e_3 g_0 g_1 g_2 g_3 z_0 z_1 z_2 z_3 z_4
        refine (right_good _ N hg2 hr0.1 (by omega)).mono ?_
        rintro e m7 ⟨rfl, hb⟩
        replace X := X.below hb (Nat.le_refl _)
        replace E := E.below hb (Nat.le_refl _)
        replace C := C.below hb (Nat.le_refl _)
        replace G := G.below hb (Nat.le_refl _)
        replace N := N.below hb (Nat.le_refl _)
        replace Z := Z.below hb (Nat.le_refl _)
        replace R := R.below hb (Nat.le_refl _)
        replace L := L.trans (hb.mono L.size)
        clear hb
        obtain ⟨x_0, x_1, x_2, x_3, x_4⟩ := X.f3
        obtain ⟨e_0, e_1, e_2, e_3⟩ := E.f2
        obtain ⟨g_0, g_1, g_2, g_3⟩ := G.f2
        obtain ⟨z_0, z_1, z_2, z_3, z_4⟩ := Z.f3
        go_wp2_with fail
        clear R
        clear x_0 x_1 x_2 x_3 x_4 e_0 e_1 e_2 e_3 g_0 g_1 g_2 g_3 z_0 z_1 z_2 z_3 z_4
        replace E := E.other3 (p := w1.heap.size) (by omega) (.int .i64 room) (.slice A7 next.length a7) (.slice B7 next.length b7)
        replace C := C.put3 X (.int .i64 room) (.slice A7 next.length a7) (.slice B7 next.length b7)
        replace G := G.other3 (p := w1.heap.size) (by omega) (.int .i64 room) (.slice A7 next.length a7) (.slice B7 next.length b7)
        replace N := N.put3 X (.int .i64 room) (.slice A7 next.length a7) (.slice B7 next.length b7)
        replace Z := Z.other3 (p := w1.heap.size) (by omega) (.int .i64 room) (.slice A7 next.length a7) (.slice B7 next.length b7)
        replace L := below_put3 L (show w.heap.size ≤ w1.heap.size by omega) (.int .i64 room) (.slice A7 next.length a7) (.slice B7 next.length b7)
        replace X := X.put3 (.int .i64 room) (.slice A7 next.length a7) (.slice B7 next.length b7)
        generalize ((m7.setCell ⟨w1.heap.size, 0, none⟩ (.int .i64 room)).setCell ⟨w1.heap.size, 1, none⟩ (.slice A7 next.length a7)).setCell ⟨w1.heap.size, 2, none⟩ (.slice B7 next.length b7) = m8 at *
        refine (lget_any room next _ κ _ N hsm2.1 (by omega) hg2.nd (by omega)).mono ?_
        rintro e m9 ⟨p3, q3, rfl, G3, hb⟩
        replace X := X.below hb (Nat.le_refl _)
        replace E := E.below hb (Nat.le_refl _)
        replace C := C.below hb (Nat.le_refl _)
        replace G := G.below hb (Nat.le_refl _)
        replace N := N.below hb (Nat.le_refl _)
        replace Z := Z.below hb (Nat.le_refl _)
        replace L := L.trans (hb.mono L.size)
        clear hb
        obtain ⟨A3, a3, B3, b3, rfl, rfl⟩ := G3.form2
        clear G3
        rcases hI2.get with h1 | ⟨h1, h2, h3⟩
        · rw [h1]
          clear h1
          generalize gv next κ = gval at *
          obtain ⟨x_0, x_1, x_2, x_3, x_4⟩ := X.f3
          obtain ⟨e_0, e_1, e_2, e_3⟩ := E.f2
          obtain ⟨g_0, g_1, g_2, g_3⟩ := G.f2
          obtain ⟨z_0, z_1, z_2, z_3, z_4⟩ := Z.f3
          clear hI hI2
          go_wp2
          refine ⟨⟨k + 1, _, _, by omega, by omega, by go_num, by rw [HX.out.2], by rw [HX.out.1]; exact N.alloc _, X.alloc _, by rw [HX.out.2]; exact E.alloc _, L.alloc L.size _⟩, by simp only [intOf]; omega⟩
        · simp only at h2 h3
          subst h2
          rw [h1, h3]
          clear h1 h3
          obtain ⟨x_0, x_1, x_2, x_3, x_4⟩ := X.f3
          obtain ⟨e_0, e_1, e_2, e_3⟩ := E.f2
          obtain ⟨g_0, g_1, g_2, g_3⟩ := G.f2
          obtain ⟨z_0, z_1, z_2, z_3, z_4⟩ := Z.f3
          clear hI hI2
          go_wp2
          refine ⟨⟨k + 1, _, _, by omega, by omega, by go_num, by rw [HX.out.2], by rw [HX.out.1]; exact N.alloc _, X.alloc _, by rw [HX.out.2]; exact E.alloc _, L.alloc L.size _⟩, by simp only [intOf]; omega⟩
    · clear hg hI
      obtain ⟨x0, x1, x2, x3, x4⟩ := X.f3
      by_cases h1 : (k : Int) < n
      · have h2 : ¬ (k : Int) < 16 := by omega
        clear hlt
        go_wp2
        go_ret
        exact ⟨rfl, L⟩
      · clear hlt
        go_wp2
        go_ret
        exact ⟨rfl, L⟩
end Go.Proofs.Ytecdmgcgplohoaa
