import Derived.Test.YtecdmgcgplohoaaCa21
import Derived.Deep.QuietTactic
import Derived.BigQuiet
namespace Go.Proofs.Ytecdmgcgplohoaa
open Go.ChangeShapes Go.WideShapes Go.ChangeAt Go.RowKit
set_option linter.unusedVariables false
set_option linter.unusedSimpArgs false
attribute [local go_sem] ba_beq ba_bne

theorem wo_append (l m : List En) (κ : BA) : wo (l ++ m) κ = wo l κ ++ wo m κ := by simp [wo]
theorem wo_idx (l : List En) (κ : BA) (i : Nat) (h : i < l.length) (hk : l[i].1 ≠ κ) : ∃ h' : (wo (l.take i) κ).length < (wo l κ).length, (wo l κ)[(wo (l.take i) κ).length] = l[i] ∧ (wo (l.take (i + 1)) κ).length = (wo (l.take i) κ).length + 1 := by
  have e : wo l κ = wo (l.take i) κ ++ (l[i] :: wo (l.drop (i + 1)) κ) := by
    have h1 : l = l.take i ++ (l[i] :: l.drop (i + 1)) := by rw [List.getElem_cons_drop, List.take_append_drop]
    have h2 : wo (l[i] :: l.drop (i + 1)) κ = l[i] :: wo (l.drop (i + 1)) κ := by unfold wo; rw [List.filter_cons_of_pos (by simp [hk])]
    rw [← h2, ← wo_append, ← h1]
  have hl : (wo (l.take i) κ).length < (wo l κ).length := by rw [e]; simp
  refine ⟨hl, ?_, ?_⟩
  · simp only [e]
    rw [List.getElem_append_right (by omega)]
    simp
  · rw [take_snoc l i h, wo_append]
    have : wo [l[i]] κ = [l[i]] := by unfold wo; rw [List.filter_cons_of_pos (by simp [hk])]; rfl
    rw [this]; simp
theorem wo_idx2 (l nx : List En) (κ : BA) (hnx : wo l κ = nx) (i : Nat) (h : i < l.length) (hk : l[i].1 ≠ κ) : ∃ a, (wo (l.take i) κ).length = a ∧ ∃ h' : a < nx.length, nx[a] = l[i] ∧ (wo (l.take (i + 1)) κ).length = a + 1 := by
  subst hnx
  obtain ⟨h1, h2, h3⟩ := wo_idx l κ i h hk
  exact ⟨_, rfl, h1, h2, h3⟩
theorem wo_skip (l : List En) (κ : BA) (i : Nat) (h : i < l.length) (hk : l[i].1 = κ) : (wo (l.take (i + 1)) κ).length = (wo (l.take i) κ).length := by
  rw [take_snoc l i h, wo_append]
  have : wo [l[i]] κ = [] := by unfold wo; simp [hk]
  rw [this]; simp
theorem gi_wo (l : List En) (κ : BA) : gi (wo l κ) κ = false := by
  have := gf_none (wo l κ) κ (fun j hj e => wo_not l κ (by have := List.mem_map_of_mem (f := (·.1)) (List.getElem_mem hj); rw [e] at this; exact this))
  unfold gi; rw [this]; rfl
theorem long_none {room : Int} {l : List En} (g : Good room l) (key : BA) (h : key.size ≠ 1) : gi l key = false ∧ gv l key = { data := #[] } ∧ gl room l key = l := by
  have := gf_none l key (fun j hj e => h (by rw [← e]; exact (g.sz _ (List.getElem_mem hj)).1))
  unfold gi gv gl; rw [this]; exact ⟨rfl, rfl, rfl⟩
theorem Ca.drewN {room : Int} {l : List En} {V : Value} {w : World} (h : Ca w room l V) (i : Nat) : Ca (w.drewN i) room l V := h.below (below_drewN (Below.refl _ _) i) (Nat.le_refl _)
theorem field28 (v0 v1 : BA) (W : World) : (Instr.field 28 (.agg #[.string v0, .string v1]) 0).run Try.prog W = .ok (.string v0) W := by
  simp [Instr.field, run_underlying Try.underlying28, go_sem, part, asAgg]
theorem field33 (v0 v1 v2 v3 : Value) (b : Bool) (W : World) : (Instr.field 33 (.agg #[v0, v1, v2, v3, .bool b]) 2).run Try.prog W = .ok (.bool b) W := by
  simp [Instr.field, run_underlying Try.underlying33, go_sem, part, asAgg]
def DropRel (w : World) (room : Int) (cur : List En) (κ : BA) (g g2 : Nat) (V V2 : Array Value) (t i : Value) (wr : World) : Prop :=
  ∃ k : Nat, k ≤ cur.length ∧ i = .int .i64 k ∧ t = .int .i64 ((wo (cur.take k) κ).length : Nat) ∧ Ca wr room cur (.agg V) ∧ Ca wr room (wo cur κ) (.agg V2) ∧ Blk wr g 26 V ∧ Blk wr g2 26 V2 ∧ Below w.heap.size w wr
theorem Ca.key_at {room : Int} {l : List En} {w : World} {r q : Value} {n c : Nat} {A : Option Addr} (h : Ca w room l (.agg #[r, .slice A n c, q])) {i : Nat} (hi : i < l.length) (hn : n = l.length) : ∃ ad, A = some ad ∧ ad.block < w.heap.size ∧ w.cell? (ad.add i) = some (.string l[i].1) :=
  h.rdk.one (by omega) (by simp [strs, keys, hi])
theorem Ca.val_at {room : Int} {l : List En} {w : World} {r p : Value} {n c : Nat} {A : Option Addr} (h : Ca w room l (.agg #[r, p, .slice A n c])) {i : Nat} (hi : i < l.length) (hn : n = l.length) : ∃ ad, A = some ad ∧ ad.block < w.heap.size ∧ w.cell? (ad.add i) = some (.string l[i].2) :=
  h.rdv.one (by omega) (by simp [strs, vals, hi])

set_option maxHeartbeats 2000000 in
set_option maxRecDepth 100000 in
theorem drops_walk (A : Option Addr) (n c : Nat) (ss : List St) (rm ky : Int) (w : World) (hr : Rd w 0 4 A n (scells ss)) (hn : n ≤ maxLen) (hss : ∀ s ∈ ss, s.ok) (hm0 : 0 ≤ rm) (hm1 : rm ≤ 255) (hy0 : 0 ≤ ky) (hy1 : ky ≤ 255) :
    Calls Try.prog 8 #[.slice A n c, .int .u8 rm, .int .u8 ky] w fun e w' => e = .returned (.bool true) ∧ Below w.heap.size w w' := by
  unfold maxLen at hn
  obtain ⟨room, hroom⟩ : ∃ room, rm % 13 = room := ⟨_, rfl⟩
  have hr0 : 0 ≤ room ∧ room ≤ 12 := by omega
  go_enter Try.func8, Try.ntmps8
  go_wp2_with fail
  refine (sanity_any _).mono ?_
  rintro e w1 ⟨rfl, L⟩
  go_wp2_with fail
  refine (script_any 0 A n c 12 ss room _ (hr.below L (Nat.le_refl _)) (by unfold maxLen; omega) hr0.1 (by omega) (by omega) hss).mono ?_
  rintro e m1 ⟨V, rfl, C, hb⟩
  replace L := L.trans (hb.mono L.size)
  clear hb
  have hg := Good.script hr0.1 (ss.take 12)
  generalize hcur : rscript room (ss.take 12) = cur at *
  clear hcur hss hr
  have hsm := hg.sm (by omega)
  obtain ⟨P, cp, Q, cq, rfl⟩ := C.form
  go_wp2_with fail
  have le_X := L.size
  have X := Blk.new m1 26 #[.int .i64 room, .slice P cur.length cp, .slice Q cur.length cq]
  replace C := C.alloc (Obj.cells #[.int .i64 room, .slice P cur.length cp, .slice Q cur.length cq] 26)
  replace L := L.alloc L.size (Obj.cells #[.int .i64 room, .slice P cur.length cp, .slice Q cur.length cq] 26)
  generalize m1.alloc (Obj.cells #[.int .i64 room, .slice P cur.length cp, .slice Q cur.length cq] 26) = m2 at *
  refine (of_any 0 ky 0 false _ (by omega) (by omega)).mono ?_
  rintro e m3 ⟨rfl, hb⟩
  replace C := C.below hb (Nat.le_refl _)
  replace X := X.below hb (Nat.le_refl _)
  replace L := L.trans (hb.mono L.size)
  clear hb
  obtain ⟨κ, hκ⟩ : ∃ κ, letter (ky % 6) = κ := ⟨_, rfl⟩
  have hκ1 : κ.size = 1 := by rw [← hκ]; exact letter_size _ (by omega)
  rw [hκ]
  clear hκ
  generalize valOf 0 false = v0
  have hf1 := field28
  have hf2 := field33
  obtain ⟨x_0, x_1, x_2, x_3, x_4⟩ := X.f3
  go_wp2_with fail
  clear x_0 x_1 x_2 x_3 x_4
  refine (drop_any room cur _ κ _ C hsm.1 hg.nd).mono ?_
  rintro e m4 ⟨V2, rfl, N, hb⟩
  replace C := C.below hb (Nat.le_refl _)
  replace X := X.below hb (Nat.le_refl _)
  replace L := L.trans (hb.mono L.size)
  clear hb
  have hg2 := hg.sub (wo_sub cur κ)
  have hsm2 := hg2.sm (by omega)
  obtain ⟨P2, cp2, Q2, cq2, rfl⟩ := N.form
  obtain ⟨nx, hnx⟩ : ∃ nx, wo cur κ = nx := ⟨_, rfl⟩
  rw [hnx] at hg2 hsm2 N ⊢
  have HNX := Lib.hid hnx; clear hnx
  go_wp2_with fail
  have lt_X_Z := X.lt
  have le_Z := L.size
  have Z := Blk.new m4 26 #[.int .i64 room, .slice P2 nx.length cp2, .slice Q2 nx.length cq2]
  replace C := C.alloc (Obj.cells #[.int .i64 room, .slice P2 nx.length cp2, .slice Q2 nx.length cq2] 26)
  replace X := X.alloc (Obj.cells #[.int .i64 room, .slice P2 nx.length cp2, .slice Q2 nx.length cq2] 26)
  replace N := N.alloc (Obj.cells #[.int .i64 room, .slice P2 nx.length cp2, .slice Q2 nx.length cq2] 26)
  replace L := L.alloc L.size (Obj.cells #[.int .i64 room, .slice P2 nx.length cp2, .slice Q2 nx.length cq2] 26)
  generalize m4.alloc (Obj.cells #[.int .i64 room, .slice P2 nx.length cp2, .slice Q2 nx.length cq2] 26) = m5 at *
  refine (right_good _ N hg2 hr0.1 (by omega)).mono ?_
  rintro e m6 ⟨rfl, hb⟩
  replace C := C.below hb (Nat.le_refl _)
  replace X := X.below hb (Nat.le_refl _)
  replace N := N.below hb (Nat.le_refl _)
  replace Z := Z.below hb (Nat.le_refl _)
  replace L := L.trans (hb.mono L.size)
  clear hb
  obtain ⟨x_0, x_1, x_2, x_3, x_4⟩ := X.f3
  obtain ⟨z_0, z_1, z_2, z_3, z_4⟩ := Z.f3
  go_wp2_with fail
  clear x_0 x_1 x_2 x_3 x_4 z_0 z_1 z_2 z_3 z_4
  have hgl : cur.length ≤ 60 := hsm.2
  go_loopw [11, 12] (fun t i wr => DropRel w room cur κ m1.heap.size m4.heap.size #[.int .i64 room, .slice P cur.length cp, .slice Q cur.length cq] #[.int .i64 room, .slice P2 nx.length cp2, .slice Q2 nx.length cq2] t i wr) (fun _ i _ => 200 - (intOf i).toNat)
  case atStart =>
    exact ⟨0, by omega, rfl, rfl, C, by rw [HNX.out]; exact N, X, Z, L⟩
  case round =>
    clear C N X Z L
    obtain ⟨i, hi, rfl, rfl, C, N, X, Z, L⟩ := hrel
    rw [HNX.out] at N
    by_cases hlt : i < cur.length
    · have hlti : (i : Int) < cur.length := by omega
      obtain ⟨a0, e1, c1, c2⟩ := C.key_at hlt rfl
      subst e1
      by_cases he : cur[i].1 = κ
      · have HS := Lib.hid (wo_skip cur κ i hlt he)
        rw [he] at c2
        clear he
        obtain ⟨x_0, x_1, x_2, x_3, x_4⟩ := X.f3
        obtain ⟨z_0, z_1, z_2, z_3, z_4⟩ := Z.f3
        go_wp2
        exact ⟨⟨i + 1, by omega, by go_num, by rw [HS.out], C, by rw [HNX.out]; exact N, X, Z, L⟩, by simp only [intOf]; omega⟩
      · obtain ⟨a, ha, h1, h2, h3⟩ := wo_idx2 cur nx κ HNX.out i hlt he
        rw [ha]
        have HS := Lib.hid h3
        clear h3 ha
        obtain ⟨b0, e1, d1, d2⟩ := C.val_at hlt rfl
        subst e1
        obtain ⟨a1, e1, f1, f2⟩ := N.key_at h1 rfl
        subst e1
        obtain ⟨b1, e1, g1, g2⟩ := N.val_at h1 rfl
        subst e1
        rw [h2] at f2 g2
        clear h2
        generalize cur[i] = en at *
        obtain ⟨kx, vx⟩ := en
        simp only at he c2 d2 f2 g2
        have ha0 : (a : Int) < nx.length := by omega
        have ha1 : a ≤ 60 := by omega
        obtain ⟨x_0, x_1, x_2, x_3, x_4⟩ := X.f3
        obtain ⟨z_0, z_1, z_2, z_3, z_4⟩ := Z.f3
        go_wp2_with fail
        go_quiet (fail)
        go_wp2
        refine ⟨⟨i + 1, by omega, by go_num, by rw [HS.out]; go_num, C.drewN _, by rw [HNX.out]; exact N.drewN _, X.drewN _, Z.drewN _, below_drewN L _⟩, by simp only [intOf]; omega⟩
    · have hie : i = cur.length := by omega
      subst hie
      have hta : (wo (cur.take cur.length) κ).length = nx.length := by rw [List.take_of_length_le (Nat.le_refl _), HNX.out]
      rw [hta]
      clear hta hlt
      have hsz : (κ ++ { data := #[120] } : BA).size = 2 := by rw [ByteArray.size_append, hκ1]; rfl
      obtain ⟨h1, h2, h3⟩ := long_none hg (κ ++ { data := #[120] }) (by omega)
      have H1 := Lib.hid h1; have H2 := Lib.hid h2; have H3 := Lib.hid h3
      clear h1 h2 h3
      obtain ⟨x_0, x_1, x_2, x_3, x_4⟩ := X.f3
      obtain ⟨z_0, z_1, z_2, z_3, z_4⟩ := Z.f3
      go_wp2_with fail
      generalize (κ ++ { data := #[120] } : BA) = κx at *
      clear x_0 x_1 x_2 x_3 x_4 z_0 z_1 z_2 z_3 z_4
      refine (lget_any room cur _ κx _ C hsm.1 (by omega) hg.nd (by omega)).mono ?_
      rintro e m7 ⟨p3, q3, rfl, G, hb⟩
      replace C := C.below hb (Nat.le_refl _)
      replace X := X.below hb (Nat.le_refl _)
      replace N := N.below hb (Nat.le_refl _)
      replace Z := Z.below hb (Nat.le_refl _)
      replace L := L.trans (hb.mono L.size)
      clear hb
      rw [H3.out] at G
      rw [H1.out, H2.out]
      obtain ⟨A3, a3, B3, b3, rfl, rfl⟩ := G.form2
      obtain ⟨x_0, x_1, x_2, x_3, x_4⟩ := X.f3
      obtain ⟨z_0, z_1, z_2, z_3, z_4⟩ := Z.f3
      go_wp2_with fail
      clear x_0 x_1 x_2 x_3 x_4 z_0 z_1 z_2 z_3 z_4
      have lt_X_M := X.lt
      have lt_Z_M := Z.lt
      have le_M := L.size
      have M := Blk.new m7 33 #[.int .i64 room, .slice A3 cur.length a3, .slice B3 cur.length b3, .string { data := #[] }, .bool false]
      replace C := C.alloc (Obj.cells #[.int .i64 room, .slice A3 cur.length a3, .slice B3 cur.length b3, .string { data := #[] }, .bool false] 33)
      replace X := X.alloc (Obj.cells #[.int .i64 room, .slice A3 cur.length a3, .slice B3 cur.length b3, .string { data := #[] }, .bool false] 33)
      replace N := N.alloc (Obj.cells #[.int .i64 room, .slice A3 cur.length a3, .slice B3 cur.length b3, .string { data := #[] }, .bool false] 33)
      replace Z := Z.alloc (Obj.cells #[.int .i64 room, .slice A3 cur.length a3, .slice B3 cur.length b3, .string { data := #[] }, .bool false] 33)
      replace G := G.alloc (Obj.cells #[.int .i64 room, .slice A3 cur.length a3, .slice B3 cur.length b3, .string { data := #[] }, .bool false] 33)
      replace L := L.alloc L.size (Obj.cells #[.int .i64 room, .slice A3 cur.length a3, .slice B3 cur.length b3, .string { data := #[] }, .bool false] 33)
      generalize m7.alloc (Obj.cells #[.int .i64 room, .slice A3 cur.length a3, .slice B3 cur.length b3, .string { data := #[] }, .bool false] 33) = m8 at *
      have H4 := Lib.hid (show gi nx κ = false by rw [← HNX.out]; exact gi_wo cur κ)
      refine (lget_any room nx _ κ _ N hsm2.1 (by omega) hg2.nd (by omega)).mono ?_
      rintro e m9 ⟨p5, q5, rfl, G5, hb⟩
      replace C := C.below hb (Nat.le_refl _)
      replace X := X.below hb (Nat.le_refl _)
      replace N := N.below hb (Nat.le_refl _)
      replace Z := Z.below hb (Nat.le_refl _)
      replace G := G.below hb (Nat.le_refl _)
      replace M := M.below hb (Nat.le_refl _)
      replace L := L.trans (hb.mono L.size)
      clear hb
      rw [H4.out]
      clear G5
      obtain ⟨x_0, x_1, x_2, x_3, x_4⟩ := X.f3
      obtain ⟨z_0, z_1, z_2, z_3, z_4⟩ := Z.f3
      obtain ⟨m_0, m_1, m_2, m_3, m_4, m_5, m_6⟩ := M.f5
      go_wp2_with fail
      clear x_0 x_1 x_2 x_3 x_4 z_0 z_1 z_2 z_3 z_4 m_0 m_1 m_2 m_3 m_4 m_5 m_6
      refine (same_any room room cur cur _ _ _ G C (by omega) true (by simp)).mono ?_
      rintro e m10 ⟨rfl, hb⟩
      replace C := C.below hb (Nat.le_refl _)
      replace X := X.below hb (Nat.le_refl _)
      replace N := N.below hb (Nat.le_refl _)
      replace Z := Z.below hb (Nat.le_refl _)
      replace G := G.below hb (Nat.le_refl _)
      replace M := M.below hb (Nat.le_refl _)
      replace L := L.trans (hb.mono L.size)
      clear hb
      go_wp2
      go_ret
      exact ⟨rfl, L⟩
end Go.Proofs.Ytecdmgcgplohoaa
