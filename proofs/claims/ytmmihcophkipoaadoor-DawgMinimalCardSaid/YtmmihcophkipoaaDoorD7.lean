import Derived.Test.YtmmihcophkipoaaDoorD6
namespace Go.Proofs.YtmmihcophkipoaaDoor
open Go.ChangeShapes Go.WideShapes Go.ChangeAt Go.RowKit
set_option linter.unusedVariables false
set_option linter.unusedSimpArgs false
attribute [local go_sem] bs_beq bs_bne bs_less bs_size bs_extract
def acells (l : List (UInt8 × Int)) : List Value := l.flatMap fun a => [.int .u8 a.1.toNat, .int .i64 a.2]
theorem acells_len (l : List (UInt8 × Int)) : (acells l).length = l.length * 2 := by
  induction l with
  | nil => rfl
  | cons a l ih => simp only [acells, List.flatMap_cons, List.length_append, List.length_cons, List.length_nil] at *; omega
theorem acells_append (l m : List (UInt8 × Int)) : acells (l ++ m) = acells l ++ acells m := by simp [acells]
theorem acells_at (l : List (UInt8 × Int)) (k : Nat) (h : k < l.length) : (acells l)[k * 2]? = some (.int .u8 l[k].1.toNat) ∧ (acells l)[k * 2 + 1]? = some (.int .i64 l[k].2) := by
  induction l generalizing k with
  | nil => simp at h
  | cons a l ih =>
    cases k with
    | zero => simp [acells]
    | succ k =>
      have := ih k (by simpa using h)
      simp only [acells, List.flatMap_cons] at *
      have e1 : (k + 1) * 2 = k * 2 + 1 + 1 := by omega
      rw [e1]
      simpa using this
theorem acells_one (l : List (UInt8 × Int)) : ∀ u ∈ acells l, u.oneCell' = true := by
  intro u hu
  simp only [acells, List.mem_flatMap] at hu
  obtain ⟨e, _, he⟩ := hu
  simp at he
  rcases he with rfl | rfl <;> rfl
/-- an element of two cells, with its block -/
theorem Rd.twob {w : World} {e : TypeId} {A : Option Addr} {n i : Nat} {xs : List Value} {u0 u1 : Value} (h : Rd w e 2 A n xs) (hi : i < n) (h0 : xs[i * 2]? = some u0) (h1 : xs[i * 2 + 1]? = some u1) :
    ∃ ad, A = some ad ∧ (ad.add (i * 2)).block < w.heap.size ∧ w.cell? (ad.add (i * 2)) = some u0 ∧ w.cell? ⟨(ad.add (i * 2)).block, (ad.add (i * 2)).off + 1, none⟩ = some u1 := by
  obtain ⟨ad, e1, hb, k0, k1⟩ := h.two hi h0 h1
  exact ⟨ad, e1, by rw [addr_block]; exact hb, k0, k1⟩
/-- an automaton in memory -/
def Dw (w : World) (A : Option Addr) (d : Au) : Prop := ∃ cs : List Value, Rd w 0 2 A d.length cs ∧ ∀ i (h : i < d.length), ∃ a c, cs[i * 2]? = some (.bool d[i].1) ∧ cs[i * 2 + 1]? = some (.slice a d[i].2.length c) ∧ Rd w 0 2 a d[i].2.length (acells d[i].2) ∧ d[i].2.length ≤ c ∧ c ≤ maxLen
theorem Dw.ext {w w' : World} {A : Option Addr} {d : Au} (h : Dw w A d) (hE : Ext w w') : Dw w' A d := by
  obtain ⟨cs, h1, h2⟩ := h
  refine ⟨cs, h1.ext hE, fun i hi => ?_⟩
  obtain ⟨a, c, k1, k2, k3, k4⟩ := h2 i hi
  exact ⟨a, c, k1, k2, k3.ext hE, k4⟩
theorem Dw.at_ {w : World} {A : Option Addr} {d : Au} (h : Dw w A d) {i : Nat} (hi : i < d.length) : ∃ ad a c, A = some ad ∧ (ad.add (i * 2)).block < w.heap.size ∧ w.cell? (ad.add (i * 2)) = some (.bool d[i].1) ∧
    w.cell? ⟨(ad.add (i * 2)).block, (ad.add (i * 2)).off + 1, none⟩ = some (.slice a d[i].2.length c) ∧ Rd w 0 2 a d[i].2.length (acells d[i].2) ∧ d[i].2.length ≤ c ∧ c ≤ maxLen := by
  obtain ⟨cs, h1, h2⟩ := h
  obtain ⟨a, c, k1, k2, k3, k4⟩ := h2 i hi
  obtain ⟨ad, e, hb, c0, c1⟩ := h1.twob hi k1 k2
  exact ⟨ad, a, c, e, hb, c0, c1, k3, k4⟩
theorem Dw.nil (w : World) : Dw w none [] := ⟨[], Rd.nil, fun i h => absurd h (by simp)⟩
theorem eq49 (a c : Nat) (b d : Int) (w : World) : (Op.equalIn 10000 49 (.agg #[.int .u8 a, .int .i64 b]) (.agg #[.int .u8 c, .int .i64 d])).run Tryd.prog w = .ok (decide (a = c) && decide (b = d)) w := by
  have u3 := Tryd.underlying3
  have a3 := Tryd.isAgg3
  have z3 := Tryd.sizeOf3
  have u5 := Tryd.underlying5
  have a5 := Tryd.isAgg5
  have z5 := Tryd.sizeOf5
  rw [show (10000 : Nat) = 9999 + 1 from rfl, run_equalIn_agg w 9999 49 _ _ (by kernel_rfl) (by kernel_rfl)]
  simp only [Program.fieldsOf, Tryd.underlying49]
  go_simp
  by_cases h1 : a = c <;> by_cases h2 : b = d <;> simp [h1, h2] <;> omega
/-- a cell that stands in every later world -/
theorem cell_ext {w w' : World} {p : Addr} {u : Value} (hE : Ext w w') (hb : p.block < w.heap.size) (h : w.cell? p = some u) : w'.cell? p = some u := (World.cell?_of_block (hE.block _ hb)).trans h
theorem cell_drew {w w' : World} {p : Addr} {u : Value} (hE : Ext w.drew w') (hb : p.block < w.heap.size) (h : w.cell? p = some u) : w'.cell? p = some u := cell_ext (w := w.drew) hE hb h
theorem pair_ne {a b : UInt8 × Int} (h : a ≠ b) : (decide (a.1.toNat = b.1.toNat) && decide (a.2 = b.2)) = false := by
  by_cases h1 : a.1.toNat = b.1.toNat
  · by_cases h2 : a.2 = b.2
    · exact absurd (Prod.ext (UInt8.toNat_inj.1 h1) h2) h
    · simp [h2]
  · simp [h1]
set_option maxHeartbeats 4000000 in
set_option maxRecDepth 100000 in
theorem same_any (A B : Option Addr) (c c' : Nat) (d e : Au) (w : World) (hd : Dw w A d) (he : Dw w B e) (hn : d.length ≤ 1000000) (hm : ∀ x ∈ d, x.2.length ≤ 1000000) :
    Calls Tryd.prog 21 #[.slice A d.length c, .slice B e.length c'] w fun r w' => r = .returned (.bool (decide (d = e))) ∧ Ext w w' := by
  obtain ⟨r, hr0⟩ : ∃ r, decide (d = e) = r := ⟨_, rfl⟩
  rw [hr0]
  have HR := Lib.hid hr0; clear hr0
  by_cases hl : d.length = e.length
  · have HL := Lib.hid hl
    rw [← hl]
    generalize hN : d.length = n at *
    have HNd := Lib.hid hN
    have HNe := Lib.hid hl.symm
    clear hN hl
    go_enter Tryd.func21, Tryd.ntmps21
    go_wp2_with fail
    go_loopw [5, 6] (fun i _ wr => ∃ k : Nat, k ≤ n ∧ i = .int .i64 k ∧ d.take k = e.take k ∧ Ext w wr) (fun i _ _ => 1000001 - (intOf i).toNat)
    case atStart => exact ⟨0, by omega, rfl, by simp, Ext.refl _⟩
    case round =>
      obtain ⟨k, hk, rfl, hall, hX⟩ := hrel
      by_cases hlt : k < n
      · have hlt' : (k : Int) < n := by omega
        have k1 : k < d.length := by have := HNd.out; omega
        have k2 : k < e.length := by have := HNe.out; omega
        obtain ⟨a1, b1, c1, e1, hb1, g10, g11, r1, hc1, hc1'⟩ := (hd.ext hX).at_ k1
        obtain ⟨a2, b2, c2, e2, hb2, g20, g21, r2, hc2, hc2'⟩ := (he.ext hX).at_ k2
        subst e1 e2
        have HT1 := Lib.hid (take_snoc d k k1)
        have HT2 := Lib.hid (take_snoc e k k2)
        have HD : Hid (d[k] ≠ e[k] → r = false) := Lib.hid (fun h => by rw [← HR.out]; simp only [decide_eq_false_iff_not]; rintro rfl; exact h rfl)
        have hmk := hm _ (List.getElem_mem k1)
        have HH := Lib.hid hall
        clear hall
        generalize d[k] = x at *
        generalize e[k] = y at *
        obtain ⟨f1, l1⟩ := x
        obtain ⟨f2, l2⟩ := y
        simp only at g10 g11 r1 hc1 g20 g21 r2 hc2 hmk
        unfold maxLen at hc1' hc2'
        by_cases hf : f1 = f2
        · subst hf
          by_cases hll : l1.length = l2.length
          · have hb : ((l1.length : Int) == (l2.length : Int)) = true := by simp [hll]
            have hb' : ((l1.length : Int) != (l2.length : Int)) = false := by simp [hll]
            have hb2 : ¬ ¬ (l1.length = l2.length) := by simp [hll]
            rw [← hll] at g21 r2 hc2
            have HLL := Lib.hid hll
            have hbb : (f1 != f1) = false := by simp
            clear hll hb hb' hb2
            go_wp2_with fail
            have hc0 : ∀ W : World, Ext wr.drew W → W.cell? (a1.add (k * 2)) = some (.bool f1) ∧ W.cell? ⟨(a1.add (k * 2)).block, (a1.add (k * 2)).off + 1, none⟩ = some (.slice b1 l1.length c1) ∧ W.cell? (a2.add (k * 2)) = some (.bool f1) ∧ W.cell? ⟨(a2.add (k * 2)).block, (a2.add (k * 2)).off + 1, none⟩ = some (.slice b2 l1.length c2) ∧ True := fun W hE => by
              exact ⟨cell_drew hE hb1 g10, cell_drew hE hb1 g11, cell_drew hE hb2 g20, cell_drew hE hb2 g21, trivial⟩
            have HC := Lib.hid hc0; clear hc0
            refine wp_region_list2 (by kernel_rfl) 26 Ext [] (by kernel_rfl) (fun _ _ d _ _ h => by cases d <;> exact h) rfl Ext.refl (fun _ _ _ => Ext.trans) trivial ?_
            simp only [List.take_succ_cons, List.take_zero, List.take_nil, List.drop_succ_cons, List.drop_zero, List.drop_nil]
            iterate 12
              refine ph_pure (a' := ?_) rfl rfl ?_ (fun w9 hE hG => pureAt_plain rfl ?_) ?_ ?_
              rotate_left 2
              · clear hG; obtain ⟨z0, z1, z2, z3, _⟩ := HC.out w9 hE; (go_simp; try go_bits); rfl
              · go_simp; rfl
            iterate 13
              refine ph_pure (a' := ?_) rfl rfl ?_ (fun w9 hE hG => pureAt_on (by rfl) ?_) ?_ ?_
              rotate_left 2
              · clear hG; obtain ⟨z0, z1, z2, z3, _⟩ := HC.out w9 hE; (go_simp; try go_bits); rfl
              · go_simp; rfl
            iterate 1
              refine ph_pure (a' := ?_) rfl rfl ?_ (fun w9 hE hG => pureAt_plain rfl ?_) ?_ ?_
              rotate_left 2
              · clear hG; obtain ⟨z0, z1, z2, z3, _⟩ := HC.out w9 hE; (go_simp; try go_bits); rfl
              · go_simp; rfl
            refine ph_end (fun w9 hE hG => ?_)
            have hXr : Ext wr w9 := Ext.drew.trans hE
            clear hE hG HC
            go_wp2_with fail
            have hX1 := hX.trans hXr
            go_loopw [6] (fun i wr => ∃ j : Nat, j ≤ l1.length ∧ i = .int .i64 j ∧ l1.take j = l2.take j ∧ Ext w9 wr) (fun i _ => 1000001 - (intOf i).toNat)
            case atStart => exact ⟨0, by omega, rfl, by simp, Ext.refl _⟩
            case round =>
              obtain ⟨j, hj, rfl, hall2, hX2⟩ := hrel
              have q10 := cell_ext hX2 (by have := hXr.le; omega) (cell_ext hXr hb1 g10)
              have q11 := cell_ext hX2 (p := ⟨(a1.add (k * 2)).block, (a1.add (k * 2)).off + 1, none⟩) (by have := hXr.le; simp only; omega) (cell_ext hXr hb1 g11)
              have q21 := cell_ext hX2 (p := ⟨(a2.add (k * 2)).block, (a2.add (k * 2)).off + 1, none⟩) (by have := hXr.le; simp only; omega) (cell_ext hXr hb2 g21)
              have hb1' := Nat.lt_of_lt_of_le hb1 (hXr.trans hX2).le
              have hb2' := Nat.lt_of_lt_of_le hb2 (hXr.trans hX2).le
              by_cases hjl : j < l1.length
              · have hjl' : (j : Int) < l1.length := by omega
                have hj2 : j < l2.length := by have := HLL.out; omega
                obtain ⟨s0, s1⟩ := acells_at l1 j hjl
                obtain ⟨t0, t1⟩ := acells_at l2 j hj2
                obtain ⟨p1, e1, pb1, u0, u1⟩ := (r1.ext (hXr.trans hX2)).twob hjl s0 s1
                obtain ⟨p2, e2, pb2, v0, v1⟩ := (r2.ext (hXr.trans hX2)).twob hjl t0 t1
                subst e1 e2
                have HU1 := Lib.hid (take_snoc l1 j hjl)
                have HU2 := Lib.hid (take_snoc l2 j hj2)
                have HE : Hid (l1[j] ≠ l2[j] → (f1, l1) ≠ (f1, l2)) := Lib.hid (fun h e => by injection e with _ e; subst e; exact h rfl)
                have HA2 := Lib.hid hall2
                clear hall2 s0 s1 t0 t1
                generalize l1[j] = x at *
                generalize l2[j] = y at *
                have heq := eq49
                by_cases hxy : x = y
                · subst hxy
                  have hdd : (decide (x.1.toNat = x.1.toNat) && decide (x.2 = x.2)) = true := by simp
                  go_wp2_with fail
                  have hc0 : ∀ W : World, Ext wr.drew W → W.cell? ⟨(a1.add (k * 2)).block, (a1.add (k * 2)).off + 1, none⟩ = some (.slice (some p1) l1.length c1) ∧ W.cell? ⟨(a2.add (k * 2)).block, (a2.add (k * 2)).off + 1, none⟩ = some (.slice (some p2) l1.length c2) ∧ W.cell? (p1.add (j * 2)) = some (.int .u8 x.1.toNat) ∧ W.cell? ⟨(p1.add (j * 2)).block, (p1.add (j * 2)).off + 1, none⟩ = some (.int .i64 x.2) ∧ W.cell? (p2.add (j * 2)) = some (.int .u8 x.1.toNat) ∧ W.cell? ⟨(p2.add (j * 2)).block, (p2.add (j * 2)).off + 1, none⟩ = some (.int .i64 x.2) ∧ True := fun W hE => by
                    exact ⟨cell_drew hE hb1' q11, cell_drew hE hb2' q21, cell_drew hE pb1 u0, cell_drew hE pb1 u1, cell_drew hE pb2 v0, cell_drew hE pb2 v1, trivial⟩
                  have HC := Lib.hid hc0; clear hc0
                  refine wp_region_list2 (by kernel_rfl) 17 Ext [] (by kernel_rfl) (fun _ _ d _ _ h => by cases d <;> exact h) rfl Ext.refl (fun _ _ _ => Ext.trans) trivial ?_
                  simp only [List.take_succ_cons, List.take_zero, List.take_nil, List.drop_succ_cons, List.drop_zero, List.drop_nil]
                  iterate 17
                    refine ph_pure (a' := ?_) rfl rfl ?_ (fun w8 hE hG => pureAt_plain rfl ?_) ?_ ?_
                    rotate_left 2
                    · clear hG; obtain ⟨z0, z1, z2, z3, z4, z5, _⟩ := HC.out w8 hE; (go_simp; try go_bits); rfl
                    · go_simp; rfl
                  refine ph_end (fun w8 hE hG => ?_)
                  have hXr2 : Ext wr w8 := Ext.drew.trans hE
                  clear hE hG HC
                  go_wp2
                  refine ⟨⟨j + 1, by omega, by go_num, by rw [HU1.out, HU2.out, HA2.out], hX2.trans hXr2⟩, by simp only [intOf]; omega⟩
                · have hdd := pair_ne hxy
                  have hrf : r = false := HD.out (HE.out hxy)
                  subst hrf
                  go_wp2_with fail
                  have hc0 : ∀ W : World, Ext wr.drew W → W.cell? ⟨(a1.add (k * 2)).block, (a1.add (k * 2)).off + 1, none⟩ = some (.slice (some p1) l1.length c1) ∧ W.cell? ⟨(a2.add (k * 2)).block, (a2.add (k * 2)).off + 1, none⟩ = some (.slice (some p2) l1.length c2) ∧ W.cell? (p1.add (j * 2)) = some (.int .u8 x.1.toNat) ∧ W.cell? ⟨(p1.add (j * 2)).block, (p1.add (j * 2)).off + 1, none⟩ = some (.int .i64 x.2) ∧ W.cell? (p2.add (j * 2)) = some (.int .u8 y.1.toNat) ∧ W.cell? ⟨(p2.add (j * 2)).block, (p2.add (j * 2)).off + 1, none⟩ = some (.int .i64 y.2) ∧ True := fun W hE => by
                    exact ⟨cell_drew hE hb1' q11, cell_drew hE hb2' q21, cell_drew hE pb1 u0, cell_drew hE pb1 u1, cell_drew hE pb2 v0, cell_drew hE pb2 v1, trivial⟩
                  have HC := Lib.hid hc0; clear hc0
                  refine wp_region_list2 (by kernel_rfl) 17 Ext [] (by kernel_rfl) (fun _ _ d _ _ h => by cases d <;> exact h) rfl Ext.refl (fun _ _ _ => Ext.trans) trivial ?_
                  simp only [List.take_succ_cons, List.take_zero, List.take_nil, List.drop_succ_cons, List.drop_zero, List.drop_nil]
                  iterate 17
                    refine ph_pure (a' := ?_) rfl rfl ?_ (fun w8 hE hG => pureAt_plain rfl ?_) ?_ ?_
                    rotate_left 2
                    · clear hG; obtain ⟨z0, z1, z2, z3, z4, z5, _⟩ := HC.out w8 hE; (go_simp; try go_bits); rfl
                    · go_simp; rfl
                  refine ph_end (fun w8 hE hG => ?_)
                  have hXr2 : Ext wr w8 := Ext.drew.trans hE
                  clear hE hG HC
                  go_wp2
                  go_ret
                  exact ⟨rfl, hX1.trans (hX2.trans hXr2)⟩
              · have hjl' : ¬ (j : Int) < l1.length := by omega
                have hee : l1 = l2 := by
                  rw [List.take_of_length_le (by omega), List.take_of_length_le (by have := HLL.out; omega)] at hall2
                  exact hall2
                have HEE := Lib.hid hee
                clear hee hall2
                go_wp2
                refine ⟨⟨k + 1, by omega, by go_num, ?_, hX1.trans hX2⟩, by simp only [intOf]; omega⟩
                rw [HT1.out, HT2.out, HH.out, HEE.out]
          · have hne : (f1, l1) ≠ (f1, l2) := fun e => hll (by injection e with _ e; rw [e])
            have hrf : r = false := HD.out hne
            subst hrf
            have hb : ((l1.length : Int) == (l2.length : Int)) = false := beq_eq_false_iff_ne.2 (by omega)
            have hb' : ((l1.length : Int) != (l2.length : Int)) = true := by simp; omega
            have hb3 : ¬ ((l1.length : Int) = (l2.length : Int)) := by omega
            have hbb : (f1 != f1) = false := by simp
            clear hne
            go_wp2_with fail
            have hc0 : ∀ W : World, Ext wr.drew W → W.cell? (a1.add (k * 2)) = some (.bool f1) ∧ W.cell? ⟨(a1.add (k * 2)).block, (a1.add (k * 2)).off + 1, none⟩ = some (.slice b1 l1.length c1) ∧ W.cell? (a2.add (k * 2)) = some (.bool f1) ∧ W.cell? ⟨(a2.add (k * 2)).block, (a2.add (k * 2)).off + 1, none⟩ = some (.slice b2 l2.length c2) ∧ True := fun W hE => by
              exact ⟨cell_drew hE hb1 g10, cell_drew hE hb1 g11, cell_drew hE hb2 g20, cell_drew hE hb2 g21, trivial⟩
            have HC := Lib.hid hc0; clear hc0
            refine wp_region_list2 (by kernel_rfl) 26 Ext [] (by kernel_rfl) (fun _ _ d _ _ h => by cases d <;> exact h) rfl Ext.refl (fun _ _ _ => Ext.trans) trivial ?_
            simp only [List.take_succ_cons, List.take_zero, List.take_nil, List.drop_succ_cons, List.drop_zero, List.drop_nil]
            iterate 12
              refine ph_pure (a' := ?_) rfl rfl ?_ (fun w9 hE hG => pureAt_plain rfl ?_) ?_ ?_
              rotate_left 2
              · clear hG; obtain ⟨z0, z1, z2, z3, _⟩ := HC.out w9 hE; (go_simp; try go_bits); rfl
              · go_simp; rfl
            iterate 13
              refine ph_pure (a' := ?_) rfl rfl ?_ (fun w9 hE hG => pureAt_on (by rfl) ?_) ?_ ?_
              rotate_left 2
              · clear hG; obtain ⟨z0, z1, z2, z3, _⟩ := HC.out w9 hE; (go_simp; try go_bits); rfl
              · go_simp; rfl
            iterate 1
              refine ph_pure (a' := ?_) rfl rfl ?_ (fun w9 hE hG => pureAt_plain rfl ?_) ?_ ?_
              rotate_left 2
              · clear hG; obtain ⟨z0, z1, z2, z3, _⟩ := HC.out w9 hE; (go_simp; try go_bits); rfl
              · go_simp; rfl
            refine ph_end (fun w9 hE hG => ?_)
            have hXr : Ext wr w9 := Ext.drew.trans hE
            clear hE hG HC
            go_wp2
            go_ret
            exact ⟨rfl, hX.trans hXr⟩
        · have hne : (f1, l1) ≠ (f2, l2) := fun e => hf (by injection e)
          have hrf : r = false := HD.out hne
          subst hrf
          have hcs : (f1 = true ∧ f2 = false) ∨ (f1 = false ∧ f2 = true) := by cases f1 <;> cases f2 <;> simp_all
          clear hne hf
          rcases hcs with ⟨rfl, rfl⟩ | ⟨rfl, rfl⟩
          · go_wp2_with fail
            have hc0 : ∀ W : World, Ext wr.drew W → W.cell? (a1.add (k * 2)) = some (.bool true) ∧ W.cell? ⟨(a1.add (k * 2)).block, (a1.add (k * 2)).off + 1, none⟩ = some (.slice b1 l1.length c1) ∧ W.cell? (a2.add (k * 2)) = some (.bool false) ∧ W.cell? ⟨(a2.add (k * 2)).block, (a2.add (k * 2)).off + 1, none⟩ = some (.slice b2 l2.length c2) ∧ True := fun W hE => by
              exact ⟨cell_drew hE hb1 g10, cell_drew hE hb1 g11, cell_drew hE hb2 g20, cell_drew hE hb2 g21, trivial⟩
            have HC := Lib.hid hc0; clear hc0
            refine wp_region_list2 (by kernel_rfl) 26 Ext [] (by kernel_rfl) (fun _ _ d _ _ h => by cases d <;> exact h) rfl Ext.refl (fun _ _ _ => Ext.trans) trivial ?_
            simp only [List.take_succ_cons, List.take_zero, List.take_nil, List.drop_succ_cons, List.drop_zero, List.drop_nil]
            iterate 12
              refine ph_pure (a' := ?_) rfl rfl ?_ (fun w9 hE hG => pureAt_plain rfl ?_) ?_ ?_
              rotate_left 2
              · clear hG; obtain ⟨z0, z1, z2, z3, _⟩ := HC.out w9 hE; (go_simp; try go_bits); rfl
              · go_simp; rfl
            refine ph_pure (a' := ?_) rfl rfl undef (fun w9 hE hG => pureAt_off (by rfl)) ?_ ?_
            rotate_left 1
            · go_simp; rfl
            refine ph_pure (a' := ?_) rfl rfl undef (fun w9 hE hG => pureAt_off (by rfl)) ?_ ?_
            rotate_left 1
            · go_simp; rfl
            refine ph_pure (a' := ?_) rfl rfl undef (fun w9 hE hG => pureAt_off (by rfl)) ?_ ?_
            rotate_left 1
            · go_simp; rfl
            refine ph_pure (a' := ?_) rfl rfl undef (fun w9 hE hG => pureAt_off (by rfl)) ?_ ?_
            rotate_left 1
            · go_simp; rfl
            refine ph_pure (a' := ?_) rfl rfl undef (fun w9 hE hG => pureAt_off (by rfl)) ?_ ?_
            rotate_left 1
            · go_simp; rfl
            refine ph_pure (a' := ?_) rfl rfl undef (fun w9 hE hG => pureAt_off (by rfl)) ?_ ?_
            rotate_left 1
            · go_simp; rfl
            refine ph_pure (a' := ?_) rfl rfl undef (fun w9 hE hG => pureAt_off (by rfl)) ?_ ?_
            rotate_left 1
            · go_simp; rfl
            refine ph_pure (a' := ?_) rfl rfl undef (fun w9 hE hG => pureAt_off (by rfl)) ?_ ?_
            rotate_left 1
            · go_simp; rfl
            refine ph_pure (a' := ?_) rfl rfl undef (fun w9 hE hG => pureAt_off (by rfl)) ?_ ?_
            rotate_left 1
            · go_simp; rfl
            refine ph_pure (a' := ?_) rfl rfl undef (fun w9 hE hG => pureAt_off (by rfl)) ?_ ?_
            rotate_left 1
            · go_simp; rfl
            refine ph_pure (a' := ?_) rfl rfl undef (fun w9 hE hG => pureAt_off (by rfl)) ?_ ?_
            rotate_left 1
            · go_simp; rfl
            refine ph_pure (a' := ?_) rfl rfl undef (fun w9 hE hG => pureAt_off (by rfl)) ?_ ?_
            rotate_left 1
            · go_simp; rfl
            refine ph_pure (a' := ?_) rfl rfl undef (fun w9 hE hG => pureAt_off (by rfl)) ?_ ?_
            rotate_left 1
            · go_simp; rfl
            iterate 1
              refine ph_pure (a' := ?_) rfl rfl ?_ (fun w9 hE hG => pureAt_plain rfl ?_) ?_ ?_
              rotate_left 2
              · clear hG; obtain ⟨z0, z1, z2, z3, _⟩ := HC.out w9 hE; (go_simp; try go_bits); rfl
              · go_simp; rfl
            refine ph_end (fun w9 hE hG => ?_)
            have hXr : Ext wr w9 := Ext.drew.trans hE
            clear hE hG HC
            go_wp2
            go_ret
            exact ⟨rfl, hX.trans hXr⟩
          · go_wp2_with fail
            have hc0 : ∀ W : World, Ext wr.drew W → W.cell? (a1.add (k * 2)) = some (.bool false) ∧ W.cell? ⟨(a1.add (k * 2)).block, (a1.add (k * 2)).off + 1, none⟩ = some (.slice b1 l1.length c1) ∧ W.cell? (a2.add (k * 2)) = some (.bool true) ∧ W.cell? ⟨(a2.add (k * 2)).block, (a2.add (k * 2)).off + 1, none⟩ = some (.slice b2 l2.length c2) ∧ True := fun W hE => by
              exact ⟨cell_drew hE hb1 g10, cell_drew hE hb1 g11, cell_drew hE hb2 g20, cell_drew hE hb2 g21, trivial⟩
            have HC := Lib.hid hc0; clear hc0
            refine wp_region_list2 (by kernel_rfl) 26 Ext [] (by kernel_rfl) (fun _ _ d _ _ h => by cases d <;> exact h) rfl Ext.refl (fun _ _ _ => Ext.trans) trivial ?_
            simp only [List.take_succ_cons, List.take_zero, List.take_nil, List.drop_succ_cons, List.drop_zero, List.drop_nil]
            iterate 12
              refine ph_pure (a' := ?_) rfl rfl ?_ (fun w9 hE hG => pureAt_plain rfl ?_) ?_ ?_
              rotate_left 2
              · clear hG; obtain ⟨z0, z1, z2, z3, _⟩ := HC.out w9 hE; (go_simp; try go_bits); rfl
              · go_simp; rfl
            refine ph_pure (a' := ?_) rfl rfl undef (fun w9 hE hG => pureAt_off (by rfl)) ?_ ?_
            rotate_left 1
            · go_simp; rfl
            refine ph_pure (a' := ?_) rfl rfl undef (fun w9 hE hG => pureAt_off (by rfl)) ?_ ?_
            rotate_left 1
            · go_simp; rfl
            refine ph_pure (a' := ?_) rfl rfl undef (fun w9 hE hG => pureAt_off (by rfl)) ?_ ?_
            rotate_left 1
            · go_simp; rfl
            refine ph_pure (a' := ?_) rfl rfl undef (fun w9 hE hG => pureAt_off (by rfl)) ?_ ?_
            rotate_left 1
            · go_simp; rfl
            refine ph_pure (a' := ?_) rfl rfl undef (fun w9 hE hG => pureAt_off (by rfl)) ?_ ?_
            rotate_left 1
            · go_simp; rfl
            refine ph_pure (a' := ?_) rfl rfl undef (fun w9 hE hG => pureAt_off (by rfl)) ?_ ?_
            rotate_left 1
            · go_simp; rfl
            refine ph_pure (a' := ?_) rfl rfl undef (fun w9 hE hG => pureAt_off (by rfl)) ?_ ?_
            rotate_left 1
            · go_simp; rfl
            refine ph_pure (a' := ?_) rfl rfl undef (fun w9 hE hG => pureAt_off (by rfl)) ?_ ?_
            rotate_left 1
            · go_simp; rfl
            refine ph_pure (a' := ?_) rfl rfl undef (fun w9 hE hG => pureAt_off (by rfl)) ?_ ?_
            rotate_left 1
            · go_simp; rfl
            refine ph_pure (a' := ?_) rfl rfl undef (fun w9 hE hG => pureAt_off (by rfl)) ?_ ?_
            rotate_left 1
            · go_simp; rfl
            refine ph_pure (a' := ?_) rfl rfl undef (fun w9 hE hG => pureAt_off (by rfl)) ?_ ?_
            rotate_left 1
            · go_simp; rfl
            refine ph_pure (a' := ?_) rfl rfl undef (fun w9 hE hG => pureAt_off (by rfl)) ?_ ?_
            rotate_left 1
            · go_simp; rfl
            refine ph_pure (a' := ?_) rfl rfl undef (fun w9 hE hG => pureAt_off (by rfl)) ?_ ?_
            rotate_left 1
            · go_simp; rfl
            iterate 1
              refine ph_pure (a' := ?_) rfl rfl ?_ (fun w9 hE hG => pureAt_plain rfl ?_) ?_ ?_
              rotate_left 2
              · clear hG; obtain ⟨z0, z1, z2, z3, _⟩ := HC.out w9 hE; (go_simp; try go_bits); rfl
              · go_simp; rfl
            refine ph_end (fun w9 hE hG => ?_)
            have hXr : Ext wr w9 := Ext.drew.trans hE
            clear hE hG HC
            go_wp2
            go_ret
            exact ⟨rfl, hX.trans hXr⟩
      · have hlt' : ¬ (k : Int) < n := by omega
        have hrt : r = true := by
          rw [← HR.out]
          simp only [decide_eq_true_eq]
          rw [List.take_of_length_le (by have := HNd.out; omega), List.take_of_length_le (by have := HNe.out; omega)] at hall
          exact hall
        subst hrt
        clear hall
        go_wp2
        go_ret
        exact ⟨rfl, hX⟩
  · have hrf : r = false := by
      rw [← HR.out]; simp only [decide_eq_false_iff_not]; rintro rfl; exact hl rfl
    subst hrf
    have h1 : ¬ ((d.length : Int) = (e.length : Int)) := by omega
    go_enter Tryd.func21, Tryd.ntmps21
    go_wp2
    go_ret
    exact ⟨rfl, Ext.refl _⟩
end Go.Proofs.YtmmihcophkipoaaDoor
