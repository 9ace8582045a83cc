import Derived.Test.YtecdmgcgplohoaaCa12
namespace Go.Proofs.Ytecdmgcgplohoaa
open Go.ChangeShapes Go.WideShapes Go.ChangeAt Go.RowKit
set_option linter.unusedVariables false
set_option linter.unusedSimpArgs false
attribute [local go_sem] ba_beq ba_bne

def AddOut (k v : BA) (go : Nat) (s room rm : Int) (n : Nat) (p q : Value) (xs ys : List Value) (t : Int) (w : World) (e : Ending) (w' : World) : Prop :=
  Blk w' (go + 1) 3 #[.int .i64 (s + t)] ∧ Below go w w' ∧
  ((room < s + t ∧ e = .returned (.bool false) ∧ Blk w' go 26 #[.int .i64 rm, p, q] ∧ Two w' (go + 2) p n xs q n ys) ∨
   (¬ room < s + t ∧ ∃ p' q', e = .returned (.bool true) ∧ Blk w' go 26 #[.int .i64 rm, p', q'] ∧ Two w' (go + 2) p' (n + 1) (xs ++ [.string k]) q' (n + 1) (ys ++ [.string v])))
theorem S1.at_ {p q : Option Nat} {x : Value} {b c : Nat} {w : World} (h : S1 p q x (.slice (some ⟨b, 0, none⟩) 1 c) w) : Blk w b 9 #[x] := by
  obtain ⟨b', h1, _, _, h4⟩ := h
  injection h1 with h1
  injection h1 with h1
  injection h1 with h1
  subst h1
  exact h4
set_option maxHeartbeats 2000000 in
set_option maxRecDepth 100000 in
theorem add_any (k v : BA) (gc go : Nat) (s room rm : Int) (n : Nat) (p q c1 c2 : Value) (xs ys : List Value) (w : World)
    (hS : Blk w (go + 1) 3 #[.int .i64 s]) (hC : Blk w gc 26 #[.int .i64 room, c1, c2]) (hO : Blk w go 26 #[.int .i64 rm, p, q]) (T : Two w (go + 2) p n xs q n ys) (hgc : gc < go) (hn : n ≤ 63)
    (hs0 : 0 ≤ s) (hs1 : s ≤ 10000) (hk : k.size ≤ 1000) (hv : v.size ≤ 1000) (t : Int) (ht : wt (k, v) = t) (hb : go + 2 ≤ w.heap.size) :
    Calls Try.prog 29 #[.string k, .string v, .pointer (some ⟨go + 1, 0, none⟩), .pointer (some ⟨gc, 0, none⟩), .pointer (some ⟨go, 0, none⟩)] w fun e w' => AddOut k v go s room rm n p q xs ys t w e w' := by
  have hwt := wt_range (k, v) ⟨hk, hv⟩
  rw [ht] at hwt
  have HT := Lib.hid ht
  clear ht
  have hc : ∀ W, Ext w.drew W → W.cell? ⟨go + 1, 0, none⟩ = some (.int .i64 s) := fun W hE => (hS.drew.ext hE).f1.1
  have HC := Lib.hid hc; clear hc
  go_enter Try.func29, Try.ntmps29
  go_wp2_with fail
  refine wp_region_list2 (by kernel_rfl) 6 Ext [(3, Sl 9 1 2 (strs [k, v])), (4, Is (.int .i64 t))] (by kernel_rfl) (fun _ _ d _ _ h => by cases d <;> exact h) rfl Ext.refl (fun _ _ _ => Ext.trans) ⟨fun _ _ _ => Sl.ext, fun _ _ _ => Is.ext, trivial⟩ ?_
  simp only [List.take_succ_cons, List.take_zero, List.take_nil, List.drop_succ_cons, List.drop_zero, List.drop_nil]
  iterate 3
    refine ph_pure (a' := ?_) rfl rfl ?_ (fun w9 hE hG => pureAt_plain rfl ?_) ?_ ?_
    rotate_left 2
    · clear hG; have s0 := HC.out w9 hE; (go_simp; try go_bits); rfl
    · go_simp; rfl
  refine ph_op rfl rfl (fun w9 hE hG => opAt_plain rfl ?_) (fun v hv => ?_)
  · clear hG
    try clear hG
    have s0 := HC.out w9 hE; (go_simp; try go_bits)
    exact ⟨Ext.alloc _ _, _, _, rfl, Rd.newAt _ _ rfl 9 1 2 #[.string k, .string v] (0, 0) _ rfl rfl, Nat.le_refl _, by simp [maxLen]⟩
  obtain ⟨_, _, A1, c1', rfl, _, _, _⟩ := hv
  go_simp
  refine ph_op rfl rfl (fun w9 hE hG => opAt_plain rfl ?_) (fun v hv => ?_)
  · simp only [List.forall_mem_cons] at hG; obtain ⟨_, hr1, hq1, hq2⟩ := (hG.1 (by kernel_rfl)).at_
    try clear hG
    have s0 := HC.out w9 hE; (go_simp; try go_bits)
    refine (wt_any _ _ k v _ hr1 (by omega) (by omega)).mono ?_
    rintro e w' ⟨rfl, rfl⟩
    exact ⟨_, rfl, Ext.refl _, by rw [← HT.out]; rfl⟩
  obtain ⟨_, _, rfl⟩ := hv
  go_simp
  iterate 1
    refine ph_pure (a' := ?_) rfl rfl ?_ (fun w9 hE hG => pureAt_plain rfl ?_) ?_ ?_
    rotate_left 2
    · clear hG; have s0 := HC.out w9 hE; (go_simp; try go_bits); rfl
    · go_simp; rfl
  refine ph_end (fun w9 hE hG => ?_)
  have S9 := hS.drew.ext hE
  have C9 := hC.drew.ext hE
  have O9 := hO.drew.ext hE
  have T9 := T.drew.below hE.below (Nat.le_refl _)
  have L9 : Below go w w9 := ((Below.refl go w).drew.trans (hE.below.mono (by have : w.drew.heap.size = w.heap.size := rfl; omega)))
  clear hE hG HC hS hC hO T
  obtain ⟨s0, s1, s2⟩ := S9.f1
  obtain ⟨k0, k1, k2, k3, k4⟩ := C9.f3
  obtain ⟨o0, o1, o2, o3, o4⟩ := O9.f3
  have S3 : Blk (w9.setCell ⟨go + 1, 0, none⟩ (.int .i64 (s + t))) (go + 1) 3 #[.int .i64 (s + t)] := by have h := S9.set_ 0 (.int .i64 (s + t)); simpa using h
  have C3 := C9.far (p := ⟨go + 1, 0, none⟩) (by simp; omega) (.int .i64 (s + t))
  have O3 := O9.far (p := ⟨go + 1, 0, none⟩) (by simp) (.int .i64 (s + t))
  have T3 := T9.set (a := ⟨go + 1, 0, none⟩) (u := .int .i64 (s + t)) S9 (by decide)
  have L3 := L9.setCell (p := ⟨go + 1, 0, none⟩) (by simp) (.int .i64 (s + t))
  have hz3 : (w9.setCell ⟨go + 1, 0, none⟩ (.int .i64 (s + t))).heap.size = w9.heap.size := by simp [World.setCell]
  clear S9 C9 O9 T9 L9
  by_cases hroom : room < s + t
  · have hX := And.intro S3 (And.intro L3 (And.intro O3 T3))
    have HX := Lib.hid hX
    generalize hW : w9.setCell ⟨go + 1, 0, none⟩ (.int .i64 (s + t)) = w3 at *
    have HW := Lib.hid hW
    obtain ⟨g0, g1, g2⟩ := S3.f1
    obtain ⟨k0, k1, k2, k3, k4⟩ := C3.f3
    clear hX
    go_wp2
    go_ret
    exact ⟨HX.out.1, HX.out.2.1, .inl ⟨hroom, rfl, HX.out.2.2.1, HX.out.2.2.2⟩⟩
  · generalize hW : w9.setCell ⟨go + 1, 0, none⟩ (.int .i64 (s + t)) = w3 at *
    obtain ⟨g0, g1, g2⟩ := S3.f1
    clear k0 k1 k2 k3 k4 o0 o1 o2 o3 o4
    obtain ⟨k0, k1, k2, k3, k4⟩ := C3.f3
    have hroom' : s + t ≤ room := by omega
    have hc : ∀ W, Gr n p.ownBlock (.string k) q.ownBlock (.string v) w3.drew W → W.cell? ⟨go, 1, none⟩ = some p ∧ W.cell? ⟨go, 2, none⟩ = some q := fun W hE => by
      have O := hE.blk O3.drew (fun e => by have := (T3.a.lt _ e).1; omega) (fun e => by have := (T3.b.lt _ e).1; omega)
      exact ⟨O.f3.2.1, O.f3.2.2.1⟩
    have HO := Lib.hid hc; clear hc
    have hfp : ∀ W, Gr n p.ownBlock (.string k) q.ownBlock (.string v) w3.drew W → p.ownBlock ≠ some W.heap.size := fun W hE e => by
      have h1 := (T3.a.lt _ e).2
      have h2 : w3.heap.size ≤ W.heap.size := hE.size
      omega
    have hfq : ∀ W, Gr n p.ownBlock (.string k) q.ownBlock (.string v) w3.drew W → q.ownBlock ≠ some W.heap.size := fun W hE e => by
      have h1 := (T3.b.lt _ e).2
      have h2 : w3.heap.size ≤ W.heap.size := hE.size
      omega
    have hz : go + 2 ≤ w3.heap.size := by omega
    clear hz3
    go_wp2_with fail
    clear hW
    refine wp_region_list2D (by kernel_rfl) 11 (Gr n p.ownBlock (.string k) q.ownBlock (.string v)) [(3, S1 p.ownBlock q.ownBlock (.string k)), (4, Ow q.ownBlock n (go + 2) xs (.string k)), (8, S1 p.ownBlock q.ownBlock (.string v)), (9, Ow p.ownBlock n (go + 2) ys (.string v))] [4, 9] (by kernel_rfl) (fun _ _ d _ _ h => by cases d <;> exact h) rfl Gr.refl (fun _ _ _ => Gr.trans) ⟨fun _ _ _ => S1.gr, fun _ _ _ => Ow.gr, fun _ _ _ => S1.gr, fun _ _ _ => Ow.grq, trivial⟩ ?_
    simp only [List.take_succ_cons, List.take_zero, List.take_nil, List.drop_succ_cons, List.drop_zero, List.drop_nil]
    iterate 3
      refine ph_pure (a' := ?_) rfl rfl ?_ (fun w9 hE hG => pureAt_plain rfl ?_) ?_ ?_
      rotate_left 2
      · clear hG; obtain ⟨o1, o2⟩ := HO.out w9 hE; (go_simp; try go_bits); rfl
      · go_simp; rfl
    refine ph_opD rfl rfl (fun w9 hE hG => opAt_plain rfl ?_) (fun v hv hd => ?_)
    · clear hG
      try clear hG
      obtain ⟨o1, o2⟩ := HO.out w9 hE; (go_simp; try go_bits)
      exact ⟨Gr.of_ext (Ext.alloc _ _), ⟨_, rfl, hfp w9 hE, hfq w9 hE, Blk.new _ 9 #[.string k]⟩, fun j hj => by simp [distinct] at hj⟩
    obtain ⟨_, _, b1, rfl, _⟩ := hv
    clear hd
    go_simp
    refine ph_opD rfl rfl (fun w9 hE hG => opAt_plain rfl ?_) (fun v hv hd => ?_)
    · skip; simp only [List.forall_mem_cons] at hG; have hr1 := (hG.1 (by kernel_rfl)).at_
      try clear hG
      obtain ⟨v', w', hrun, hE', hO', hdd⟩ := app_row (V := .string v) (c := 1) w9 (Gr.own0 hE T3.a) T3.ne (fun g hg => Nat.lt_of_lt_of_le (T3.b.lt g hg).2 hE.size) (hr1.cell 0) (by omega) (Nat.le_trans hz hE.size)
      exact opVal_append rfl _ _ 24 rfl _ _ rfl rfl hrun ⟨hE', hO', fun j hj Fj hF u hu => by (have hj9 : j = 9 := by (simp [distinct] at hj; omega)); subst hj9; have hF2 := Option.some.inj hF; subst hF2; exact hdd _ u hu⟩
    obtain ⟨_, _, ho4, _⟩ := hv
    obtain ⟨P4, c4, rfl, _⟩ := own_form ho4
    clear ho4 hd
    go_simp
    iterate 3
      refine ph_pure (a' := ?_) rfl rfl ?_ (fun w9 hE hG => pureAt_plain rfl ?_) ?_ ?_
      rotate_left 2
      · clear hG; obtain ⟨o1, o2⟩ := HO.out w9 hE; (go_simp; try go_bits); rfl
      · go_simp; rfl
    refine ph_opD rfl rfl (fun w9 hE hG => opAt_plain rfl ?_) (fun v hv hd => ?_)
    · clear hG
      try clear hG
      obtain ⟨o1, o2⟩ := HO.out w9 hE; (go_simp; try go_bits)
      exact ⟨Gr.of_ext (Ext.alloc _ _), ⟨_, rfl, hfp w9 hE, hfq w9 hE, Blk.new _ 9 #[.string v]⟩, fun j hj => by simp [distinct] at hj⟩
    obtain ⟨_, _, b2, rfl, _⟩ := hv
    clear hd
    go_simp
    refine ph_opD rfl rfl (fun w9 hE hG => opAt_plain rfl ?_) (fun v hv hd => ?_)
    · skip; simp only [List.forall_mem_cons] at hG; have hr1 := (hG.1 (by kernel_rfl)).at_
      try clear hG
      obtain ⟨v', w', hrun, hE', hO', hdd⟩ := app_row (V := .string k) (c := 1) w9 (Gr.own0 hE.symm T3.b) T3.symm.ne (fun g hg => Nat.lt_of_lt_of_le (T3.a.lt g hg).2 hE.size) (hr1.cell 0) (by omega) (Nat.le_trans hz hE.size)
      exact opVal_append rfl _ _ 24 rfl _ _ rfl rfl hrun ⟨hE'.symm, hO', fun j hj Fj hF u hu => by (have hj9 : j = 4 := by (simp [distinct] at hj; omega)); subst hj9; have hF2 := Option.some.inj hF; subst hF2; exact hdd _ u hu⟩
    obtain ⟨_, _, ho9, _⟩ := hv
    obtain ⟨Q9, c9, rfl, _⟩ := own_form ho9
    clear ho9
    have hne9 := hd _ (List.mem_cons_of_mem _ List.mem_cons_self) (by rfl)
    clear hd
    go_simp
    iterate 1
      refine ph_pure (a' := ?_) rfl rfl ?_ (fun w9 hE hG => pureAt_plain rfl ?_) ?_ ?_
      rotate_left 2
      · clear hG; obtain ⟨o1, o2⟩ := HO.out w9 hE; (go_simp; try go_bits); rfl
      · go_simp; rfl
    refine ph_end (fun w9 hE hG => ?_)
    simp only [List.forall_mem_cons] at hG
    have h9 := hG.1
    have h4 := hG.2.2.1
    have hpw : ∀ g, p.ownBlock = some g → go + 2 ≤ g := fun g hg => (T3.a.lt g hg).1
    have hqw : ∀ g, q.ownBlock = some g → go + 2 ≤ g := fun g hg => (T3.b.lt g hg).1
    have S8 := hE.blk S3.drew (fun e => by have := hpw _ e; omega) (fun e => by have := hqw _ e; omega)
    have O8 := hE.blk O3.drew (fun e => by have := hpw _ e; omega) (fun e => by have := hqw _ e; omega)
    have L8 := hE.below L3.drew (fun g hg => by have := hpw g hg; omega) (fun g hg => by have := hqw g hg; omega) (Nat.le_trans (by omega) hz)
    have T8 : Two w9 (go + 2) _ (n + 1) (xs ++ [.string k]) _ (n + 1) (ys ++ [.string v]) := ⟨h4.1, h9.1, Ow.ne h4 h9 hne9⟩
    clear hE hG HO hfp hfq h9 h4 hne9 S3 C3 O3 T3 L3
    obtain ⟨o0, o1, o2, o3, o4⟩ := O8.f3
    have T7 := (T8.set (a := ⟨go, 1, none⟩) (u := .slice P4 (n + 1) c4) O8 (by decide)).set (a := ⟨go, 2, none⟩) (u := .slice Q9 (n + 1) c9) (O8.put1 _) (by decide)
    have O7 := (O8.put1 (.slice P4 (n + 1) c4)).put2 (.slice Q9 (n + 1) c9)
    have S7 := (S8.far (p := ⟨go, 1, none⟩) (by simp) (.slice P4 (n + 1) c4)).far (p := ⟨go, 2, none⟩) (by simp) (.slice Q9 (n + 1) c9)
    have L7 := (L8.setCell (p := ⟨go, 1, none⟩) (Nat.le_refl _) (.slice P4 (n + 1) c4)).setCell (p := ⟨go, 2, none⟩) (Nat.le_refl _) (.slice Q9 (n + 1) c9)
    clear S8 L8 T8
    go_wp2
    go_ret
    exact ⟨S7, L7, .inr ⟨by omega, _, _, rfl, O7, T7⟩⟩
end Go.Proofs.Ytecdmgcgplohoaa
