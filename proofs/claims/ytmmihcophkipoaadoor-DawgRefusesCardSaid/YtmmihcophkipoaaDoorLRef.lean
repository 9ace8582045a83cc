/-
  DawgRefuses.
-/
import Derived.Test.YtmmihcophkipoaaDoorSan
import Derived.Test.YtmmihcophkipoaaDoorD36
import Derived.Laws.IdiomStrings
namespace Go.Proofs.YtmmihcophkipoaaDoor
open Go.ChangeShapes Go.WideShapes Go.ChangeAt Go.RowKit
set_option linter.unusedVariables false
set_option linter.unusedSimpArgs false
attribute [local go_sem] bs_beq bs_bne bs_less bs_size
theorem Ext.trans' {a b c : World} {B : Nat} (h : Ext a b) (k : Below B b c) (hB : a.heap.size ≤ B) : Ext a c := Below.trans h (Below.mono k hB)
/-- what Build says of a list -/
def bcode (l : List W) : Int := if dict l = true then 0 else 90
def blen (l : List W) : Nat := if dict l = true then (auto l).length else 0
theorem build_any (A : Option Addr) (c : Nat) (l : List W) (w : World) (hr : Rd w 0 1 A l.length (sv l)) (hc1 : l.length ≤ c) (hc2 : c ≤ maxLen) (hn : l.length ≤ 1000000) (hs : ∀ x ∈ l, x.length ≤ maxLen) (hT : Tb w) :
    Calls Tryd.prog 20 #[.slice A l.length c] w fun e w' => ∃ A' c', e = .returned (.tuple #[.slice A' (blen l) c', .int .i64 (bcode l)]) ∧ Ext w w' := by
  by_cases hd : dict l = true
  · refine (build_yes A c l w hd hr hc1 hc2 hT).mono ?_
    rintro e w' ⟨A', c', rfl, _, _, _, hX⟩
    exact ⟨A', c', by unfold blen bcode; rw [if_pos hd, if_pos hd], hX⟩
  · refine (build_no A c l w (Bool.eq_false_iff.2 hd) hr hn hs).mono ?_
    rintro e w' ⟨rfl, hX⟩
    exact ⟨none, 0, by unfold blen bcode; rw [if_neg hd, if_neg hd], hX⟩
def two (n : Nat) : W := [UInt8.ofNat (97 + n / 26), UInt8.ofNat (97 + n % 26)]
theorem two_bytes (a b : UInt8) (w : World) : (convert 23 9 (.slice (some ⟨w.heap.size, 0, none⟩) 2 2)).run Tryd.prog (w.alloc (Obj.cells #[.int .u8 a.toNat, .int .u8 b.toNat] 5)) = .ok (.string (bs [a, b])) (w.alloc (Obj.cells #[.int .u8 a.toNat, .int .u8 b.toNat] 5)) := by
  refine run_convert_bytes_back _ 23 9 5 ⟨w.heap.size, 0, none⟩ 2 [a, b] Tryd.underlying23 Tryd.underlying5 Tryd.underlying9 fun j hj => ?_
  have hb := fun i => (Blk.new w 5 #[.int .u8 a.toNat, .int .u8 b.toNat]).cell i
  have hj2 : j = 0 ∨ j = 1 := by simp at hj; omega
  rcases hj2 with rfl | rfl
  · have : (⟨w.heap.size, 0, none⟩ : Addr).add 0 = ⟨w.heap.size, 0, none⟩ := rfl
    rw [this, hb]
    rfl
  · have : (⟨w.heap.size, 0, none⟩ : Addr).add 1 = ⟨w.heap.size, 1, none⟩ := rfl
    rw [this, hb]
    rfl
def longs (n : Nat) : List W := (List.range n).map two
theorem longs_snoc (n : Nat) : longs (n + 1) = longs n ++ [two n] := by unfold longs; rw [List.range_succ, List.map_append]; rfl
theorem longs_len (n : Nat) : (longs n).length = n := by simp [longs]
theorem d201 : dict (longs 201) = false := by decide +kernel
theorem d200 : dict (longs 200) = true := by decide +kernel
theorem longs_take : (longs 201).take 200 = longs 200 := by decide +kernel
theorem build_any_k (A : Option Addr) (c k : Nat) (l : List W) (hk : l.length = k) (w : World) (hr : Rd w 0 1 A k (sv l)) (hc1 : k ≤ c) (hc2 : c ≤ maxLen) (hn : k ≤ 1000000) (hs : ∀ x ∈ l, x.length ≤ maxLen) (hT : Tb w) :
    Calls Tryd.prog 20 #[.slice A k c] w fun e w' => ∃ A' c', e = .returned (.tuple #[.slice A' (blen l) c', .int .i64 (bcode l)]) ∧ Ext w w' := by
  subst hk
  exact build_any A c l w hr hc1 hc2 hn hs hT
theorem rdict_any_k (A : Option Addr) (c k : Nat) (l : List W) (hk : l.length = k) (w : World) (hr : Rd w 0 1 A k (sv l)) (hn : k ≤ 1000000) (hs : ∀ x ∈ l, x.length ≤ maxLen) :
    Calls Tryd.prog 33 #[.slice A k c] w fun e w' => e = .returned (.bool (dict l)) ∧ Ext w w' := by
  subst hk
  exact rdict_any A c l w hr hn hs
theorem code_of (l : List W) : (bcode l = 0 ∧ dict l = true) ∨ (bcode l = 90 ∧ blen l = 0 ∧ dict l = false) := by
  unfold bcode blen
  cases h : dict l with
  | true => exact .inl ⟨if_pos rfl, rfl⟩
  | false => exact .inr ⟨if_neg (by simp), if_neg (by simp), rfl⟩
theorem two_k (k : Nat) (h : k < 201) (w : World) : (convert 23 9 (.slice (some ⟨w.heap.size, 0, none⟩) 2 2)).run Tryd.prog (w.alloc (Obj.cells #[.int .u8 (97 + (k : Int) / 26), .int .u8 (97 + (k : Int) % 26)] 5)) = .ok (.string (bs (two k))) (w.alloc (Obj.cells #[.int .u8 (97 + (k : Int) / 26), .int .u8 (97 + (k : Int) % 26)] 5)) := by
  have e1 : (97 : Int) + (k : Int) / 26 = ((UInt8.ofNat (97 + k / 26)).toNat : Int) := by rw [UInt8.toNat_ofNat']; omega
  have e2 : (97 : Int) + (k : Int) % 26 = ((UInt8.ofNat (97 + k % 26)).toNat : Int) := by rw [UInt8.toNat_ofNat']; omega
  rw [e1, e2]
  exact two_bytes _ _ w
theorem bad201 : bcode (longs 201) = 90 := if_neg (by rw [d201]; simp)
theorem good200 : bcode (longs 200) = 0 := if_pos d200
theorem long_short : ∀ x ∈ longs 201, x.length ≤ maxLen := by
  intro x hx
  unfold longs at hx
  obtain ⟨n, _, rfl⟩ := List.mem_map.1 hx
  simp [two, maxLen]
theorem long_short2 : ∀ x ∈ longs 200, x.length ≤ maxLen := by
  intro x hx
  unfold longs at hx
  obtain ⟨n, _, rfl⟩ := List.mem_map.1 hx
  simp [two, maxLen]
/-- the longest word but one too long -/
def w21 : W := [97, 98, 99, 100, 101, 102, 103, 104, 105, 106, 107, 108, 109, 110, 111, 112, 113, 114, 115, 116, 117]
def six (u v : W) : List W := [[], u ++ [45], [65], v, w21, [122, 122]]
set_option maxHeartbeats 40000000 in
set_option maxRecDepth 100000 in
theorem refuses_walk (A A2 : Option Addr) (c c2 : Nat) (l : List W) (ll : List (List UInt8)) (x y : Int) (w : World) (hT : Tb w) (hr : Rd w 0 1 A l.length (sv l)) (hc : l.length ≤ c) (hcm : c ≤ maxLen) (hls : ∀ u ∈ l, u.length ≤ maxLen) (hr2 : Bss w A2 ll) (hl2 : ll.length ≤ maxLen) (hx : 0 ≤ x ∧ x ≤ 255) (hy : 0 ≤ y ∧ y ≤ 255) :
    Calls Tryd.prog 7 #[.slice A l.length c, .slice A2 ll.length c2, .agg #[.int .u8 x, .int .u8 y]] w fun e w' => e = .returned (.bool true) ∧ Ext w w' := by
  go_enter Tryd.func7, Tryd.ntmps7
  go_wp2_with fail
  have X0 : Ext w (w.alloc (Obj.cells #[.int .u8 x, .int .u8 y] 56)) := Ext.alloc _ _
  have hbx := Blk.new w 56 #[.int .u8 x, .int .u8 y]
  refine (sanity_any _ (hT.ext X0)).mono ?_
  rintro e w1 ⟨rfl, X1⟩
  have hbx1 := hbx.ext X1
  have X1' := X0.trans X1
  have hsz : w.heap.size < w1.heap.size := by have := X1.le; simp at this; omega
  clear X0 X1 hbx
  by_cases h6 : l.length ≤ 6
  · have h6' : ¬ ((6 : Int) < l.length) := by omega
    go_wp2_with fail
    have X0 : Ext w (w1.alloc (Obj.cells #[] 9)) := X1'.trans (Ext.alloc _ _)
    have O0 := own_nil w1 w1.heap.size (Nat.le_refl _)
    refine (made_t A2 c2 6 ll _ (hr2.ext X0) hl2 (by omega)).mono ?_
    rintro e w2 ⟨v, rfl, hV, X2⟩
    have hs := sw_made ll 6
    have hlen := made_len ll 6 (by omega)
    have hpos := made_pos ll 6
    generalize made ll 6 = m at *
    obtain ⟨B, d, rfl, hB, hd1, hd2⟩ := hV
    have O2 := own_ext O0 X2
    have hbx2 := (hbx1.alloc (Obj.cells #[] 9)).ext X2
    have X2' := X0.trans X2
    have hle2 : w1.heap.size ≤ w2.heap.size := by have := X2.le; simp at this; omega
    clear X0 O0 X2 X1' hbx1
    go_wp2_with (at_builtin; apply halt_here)
    apply go_on
    refine wp_app_str rfl _ _ rfl w1.heap.size [] _ rfl O2 _ _ _ m 9 rfl rfl hB hle2 (by simp; omega) ?_
    intro v1 w3 O3 _ _ hb3
    rw [List.nil_append] at O3
    have hbx3 := hbx2.low hb3 hsz
    have X3' : Ext w w3 := X2'.trans' hb3 (Nat.le_of_lt hsz)
    have h0 := O3.2
    obtain ⟨g, cap, cur, rfl, hgb, hgg, hg1, hg2, hg3, hg4⟩ : ∃ (g cap : Nat) (cur : Array Value), v1 = .slice (some ⟨g, 0, none⟩) m.length cap ∧ w1.heap.size ≤ g ∧ w3.heap[g]? = some (.cells cur 9 (0, 0)) ∧ m.length ≤ cap ∧ cap ≤ maxLen ∧ True ∧ True := by
      rcases h0 with ⟨h1, h2⟩ | ⟨g, cap, cur, e1, e2, e3, e4, e5, _⟩
      · omega
      · exact ⟨g, cap, cur, e1, e2, e3, e4, e5, trivial, trivial⟩
    clear h0 hgg hg3 hg4 hb3 hbx2 X2' O2 hB
    obtain ⟨bx0, bx1, _⟩ := hbx3.f2
    obtain ⟨i, hi1, hi2⟩ : ∃ i : Nat, x.tmod (m.length : Int) = i ∧ i < m.length := by
      obtain ⟨a, rfl⟩ := Int.eq_ofNat_of_zero_le hx.1
      refine ⟨a % m.length, ?_, Nat.mod_lt _ (by omega)⟩
      rw [Int.tmod_eq_emod_of_nonneg (by omega)]; push_cast; rfl
    obtain ⟨j, hj1, hj2⟩ : ∃ j : Nat, y.tmod 6 = j ∧ j < 6 := by
      obtain ⟨a, rfl⟩ := Int.eq_ofNat_of_zero_le hy.1
      refine ⟨a % 6, ?_, Nat.mod_lt _ (by omega)⟩
      rw [Int.tmod_eq_emod_of_nonneg (by omega)]; push_cast; rfl
    have hlt' : (i : Int) < m.length := by omega
    have hpos' : (0 : Int) < m.length := by omega
    have hne0 : (m.length : Int) ≠ 0 := by omega
    have hui : (sv m)[i]? = some (.string (bs m[i])) := sv_at m i hi2
    have hv0 : (sv m)[0]? = some (.string (bs (m[0]'(by omega)))) := sv_at m 0 (by omega)
    obtain ⟨u, hu⟩ : ∃ u, m[i] = u := ⟨_, rfl⟩
    obtain ⟨v0, hv⟩ : ∃ v0, m[0]'(by omega) = v0 := ⟨_, rfl⟩
    have hul : u.length ≤ 4 := by rw [← hu]; exact hs.small _ (List.getElem_mem hi2)
    have hvl : v0.length ≤ 4 := by rw [← hv]; exact hs.small _ (List.getElem_mem _)
    rw [hu] at hui
    rw [hv] at hv0
    clear hu hv
    have happ : bs u ++ ({ data := #[45] } : ByteArray) = bs (u ++ [45]) := bs_append u [45]
    have hsz1 : ({ data := #[45] } : ByteArray).size = 1 := rfl
    have hno : ¬ (9223372036854775807 < u.length + 1) := by omega
    have hpl : 0 < m.length := by omega
    have hj6 : (j : Int) < 6 := by omega
    go_wp2_with fail
    clear bx0 bx1
    have hc0 : ∀ W : World, Ext w3.drew W → W.cell? ⟨g, i, none⟩ = some (.string (bs u)) ∧ W.cell? ⟨g, 0, none⟩ = some (.string (bs v0)) ∧ W.cell? ⟨w.heap.size, 0, none⟩ = some (.int .u8 x) ∧ W.cell? ⟨w.heap.size, 1, none⟩ = some (.int .u8 y) ∧ True := fun W hE => by
      have OW := own_ext O3 (Ext.drew.trans hE)
      obtain ⟨b0, b1, _⟩ := (hbx3.ext (Ext.drew.trans hE)).f2
      exact ⟨(OW.cellAt i (by omega)).trans hui, (OW.cellAt 0 (by omega)).trans hv0, b0, b1, trivial⟩
    have HC := Lib.hid hc0; clear hc0
    refine wp_region_list2 (by kernel_rfl) 17 Ext [(10, Sl 9 1 6 (sv (six u v0)))] (by kernel_rfl) (fun _ _ d _ _ h => by cases d <;> exact h) rfl Ext.refl (fun _ _ _ => Ext.trans) ⟨fun _ _ _ => Sl.ext, trivial⟩ ?_
    simp only [List.take_succ_cons, List.take_zero, List.take_nil, List.drop_succ_cons, List.drop_zero, List.drop_nil]
    iterate 10
      refine ph_pure (a' := ?_) rfl rfl ?_ (fun w4 hE hG => pureAt_plain rfl ?_) ?_ ?_
      rotate_left 2
      · clear hG; obtain ⟨hc1, hc2x, hb0, hb1, _⟩ := HC.out w4 hE; (go_simp; try go_bits); rfl
      · go_simp; rfl
    refine ph_op rfl rfl (fun w4 hE hG => opAt_plain rfl ?_) (fun v hv => ?_)
    · clear hG
      try clear hG
      obtain ⟨hc1, hc2x, hb0, hb1, _⟩ := HC.out w4 hE; (go_simp; try go_bits)
      exact ⟨Ext.alloc _ _, _, _, rfl, Rd.newAt _ _ rfl 9 1 6 #[.string (bs []), .string (bs (u ++ [45])), .string (bs [65]), .string (bs v0), .string (bs w21), .string (bs [122, 122])] (0, 0) _ rfl rfl, Nat.le_refl _, by simp [maxLen]⟩
    obtain ⟨_, _, A6, c6, rfl, hrd6, _⟩ := hv
    obtain ⟨ad6, rfl, _, _⟩ := hrd6.one hj2 (sv_at (six u v0) j hj2)
    clear hrd6
    go_simp
    iterate 4
      refine ph_pure (a' := ?_) rfl rfl ?_ (fun w4 hE hG => pureAt_plain rfl ?_) ?_ ?_
      rotate_left 2
      · clear hG; obtain ⟨hc1, hc2x, hb0, hb1, _⟩ := HC.out w4 hE; (go_simp; try go_bits); rfl
      · go_simp; rfl
    refine ph_pure (a' := ?_) rfl rfl ?_ (fun w4 hE hG => pureAt_plain rfl ?_) ?_ ?_
    rotate_left 2
    · simp only [List.forall_mem_cons] at hG
      have hG1 := hG.1 (by kernel_rfl)
      clear hG
      obtain ⟨A7, c7, e7, hrd7, _⟩ := hG1
      injection e7 with e7 e8 e9
      subst e7 e9
      obtain ⟨ad7, e7, _, hc7⟩ := hrd7.one hj2 (sv_at (six u v0) j hj2)
      injection e7 with e7
      subst e7
      (go_simp; try go_bits); rfl
    · go_simp; rfl
    iterate 1
      refine ph_pure (a' := ?_) rfl rfl ?_ (fun w4 hE hG => pureAt_plain rfl ?_) ?_ ?_
      rotate_left 2
      · clear hG; obtain ⟨hc1, hc2x, hb0, hb1, _⟩ := HC.out w4 hE; (go_simp; try go_bits); rfl
      · go_simp; rfl
    refine ph_end (fun w4 hE hG => ?_)
    have hXr : Ext w3 w4 := Ext.drew.trans hE
    clear hE hG HC
    have O4 := own_ext O3 hXr
    have X4' := X3'.trans hXr
    obtain ⟨s, hs6⟩ : ∃ s, (six u v0)[j] = s := ⟨_, rfl⟩
    have hsl : s.length ≤ 21 := by
      rw [← hs6]
      have : ∀ z ∈ six u v0, z.length ≤ 21 := by
        intro z hz
        simp only [six, List.mem_cons, List.not_mem_nil, or_false] at hz
        rcases hz with rfl | rfl | rfl | rfl | rfl | rfl
        · simp
        · simp; omega
        · simp
        · omega
        · decide
        · simp
      exact this _ (List.getElem_mem _)
    have c4 := (O4.cellAt i (by omega)).trans hui
    have f4 := O4.frozenAt i
    have O5 : Ow w1.heap.size (m.set i s) (.slice (some ⟨g, 0, none⟩) m.length cap) (w4.setCell ⟨g, i, none⟩ (.string (bs s))) := by
      have := own_put O4 i (by omega) (.string (bs s))
      unfold Ow
      rw [List.length_set]
      have e : sv (m.set i s) = (sv m).set i (.string (bs s)) := by unfold sv; rw [List.map_set]
      rw [e]
      exact this
    have X5' : Ext w (w4.setCell ⟨g, i, none⟩ (.string (bs s))) := X4'.setCell (by show w.heap.size ≤ g; omega) _
    have hwl : ∀ z ∈ m.set i s, z.length ≤ 21 := by
      intro z hz
      rcases List.mem_or_eq_of_mem_set hz with h | rfl
      · have := hs.small z h; omega
      · exact hsl
    have hml : (m.set i s).length = m.length := List.length_set
    go_wp2_with fail
    clear c4 f4 O4 O3 hbx3 X4' X3' hXr hs6 happ hsz1 hno hui hv0
    generalize hws : w4.setCell ⟨g, i, none⟩ (.string (bs s)) = ws at *
    generalize m.set i s = n at *
    have hrn : Rd ws 0 1 (some ⟨g, 0, none⟩) m.length (sv n) := by
      obtain ⟨A', c', e, h1, _, _⟩ := O5.rd
      injection e with e1 e2 e3
      rw [← e1] at h1
      rw [← hml]; exact h1
    clear O5 hws
    refine (build_any_k _ cap m.length n hml _ hrn hg1 hg2 (by omega) (fun z hz => by have := hwl z hz; simp only [maxLen]; omega) (hT.ext X5')).mono ?_
    rintro e w5 ⟨D1, dc1, rfl, X5⟩
    have hr5 := hrn.ext X5
    have X6' := X5'.trans X5
    go_wp2_with fail
    refine (build_any A c l _ (hr.ext X6') hc hcm (by omega) hls (hT.ext X6')).mono ?_
    rintro e w6 ⟨D2, dc2, rfl, X6⟩
    have hr6 := hr5.ext X6
    have X7' := X6'.trans X6
    go_wp2_with fail
    refine (rdict_any_k _ cap m.length n hml _ hr6 (by omega) (fun z hz => by have := hwl z hz; simp only [maxLen]; omega)).mono ?_
    rintro e w7 ⟨rfl, X7⟩
    have X8' := X7'.trans X7
    rcases code_of n with ⟨n1, n2⟩ | ⟨n1, n2, n3⟩
    · rw [n1, n2]
      go_wp2_with fail
      refine (rdict_any A c l _ (hr.ext X8') (by omega) hls).mono ?_
      rintro e w9 ⟨rfl, X9⟩
      have X9' := X8'.trans X9
      clear X5 X6 X7 X9 X5' X6' X7' X8' hr5 hr6 hrn
      rcases code_of l with ⟨l1, l2⟩ | ⟨l1, l2, l3⟩
      · rw [l1, l2]
        go_wp2_with fail
        have OL0 := own_nil w9 w9.heap.size (Nat.le_refl _)
        have XL0 : Ext w9 (w9.alloc (Obj.cells #[] 9)) := Ext.alloc _ _
        go_loopw [14, 15] (fun v i wr => ∃ k : Nat, k ≤ 201 ∧ i = .int .i64 k ∧ Ow w9.heap.size (longs k) v wr ∧ Ext w9 wr) (fun _ i _ => 1000 - (intOf i).toNat)
        case atStart => exact ⟨0, by omega, by go_num, OL0, XL0⟩
        case round =>
          obtain ⟨k, hk, rfl, hO, hX⟩ := hrel
          clear OL0 XL0
          by_cases hlt : k < 201
          · have hlt' : (k : Int) < 201 := by omega
            have hq1 : (k : Int).tdiv 26 = ((k / 26 : Nat) : Int) := by rw [Int.tdiv_eq_ediv_of_nonneg (by omega)]; push_cast; rfl
            have hq2 : (k : Int).tmod 26 = ((k % 26 : Nat) : Int) := by rw [Int.tmod_eq_emod_of_nonneg (by omega)]; push_cast; rfl
            have hq3 : k / 26 ≤ 7 := by omega
            have hq4 : k % 26 < 26 := Nat.mod_lt _ (by omega)
            have hcv := two_k k hlt wr
            have HS := Lib.hid (longs_snoc k)
            have hlk := longs_len k
            go_wp2_with (at_builtin; apply halt_here)
            apply go_on
            have O1 := own_alloc_w hO (Obj.cells #[.int .u8 (97 + (k : Int) / 26), .int .u8 (97 + (k : Int) % 26)] 5)
            have XW : Ext w9 (wr.alloc (Obj.cells #[.int .u8 (97 + (k : Int) / 26), .int .u8 (97 + (k : Int) % 26)] 5)) := hX.trans (Ext.alloc _ _)
            have hsz5 : (wr.alloc (Obj.cells #[.int .u8 (97 + (k : Int) / 26), .int .u8 (97 + (k : Int) % 26)] 5)).heap.size = wr.heap.size + 1 := by simp
            clear hcv hO hX
            generalize wr.alloc (Obj.cells #[.int .u8 (97 + (k : Int) / 26), .int .u8 (97 + (k : Int) % 26)] 5) = wt at *
            refine wp_app_str rfl _ _ rfl w9.heap.size (longs k) _ rfl (own_alloc_w O1 _) _ _ _ [two k] 9 rfl rfl (Rd.newAt wt _ hsz5 9 1 1 #[.string (bs (two k))] (0, 0) _ rfl rfl) (by have := XW.le; simp; omega) (by simp; omega) ?_
            intro v1 w11 O2 _ _ hb2
            have XW2 : Ext w9 w11 := (XW.trans (Ext.alloc _ _)).trans' hb2 (Nat.le_refl _)
            clear O1 XW hb2
            go_wp2
            exact ⟨⟨k + 1, by omega, by go_num, by rw [HS.out]; exact O2, XW2⟩, by simp only [intOf]; omega⟩
          · obtain rfl : k = 201 := by omega
            clear hlt hk
            obtain ⟨B9, d9, rfl, hB9, hd91, hd92⟩ := hO.rd
            clear hO
            rw [longs_len] at hB9 hd91
            have hln := longs_len 201
            have XE := X9'.trans hX
            go_wp2_with fail
            refine (build_any_k B9 d9 201 (longs 201) hln _ hB9 hd91 hd92 (by omega) long_short (hT.ext XE)).mono ?_
            rintro e w12 ⟨D3, dc3, rfl, X12⟩
            rw [bad201]
            have XE2 := XE.trans X12
            have hB12 := (hB9.ext X12).take (i := 200) (by omega)
            rw [Nat.mul_one, sv_take, longs_take] at hB12
            go_wp2_with fail
            refine (build_any_k B9 d9 200 (longs 200) (longs_len 200) _ (hB12) (by omega) hd92 (by omega) long_short2 (hT.ext XE2)).mono ?_
            rintro e w13 ⟨D4, dc4, rfl, X13⟩
            rw [good200]
            go_wp2
            go_ret
            exact ⟨rfl, XE2.trans X13⟩
      · rw [l1, l2, l3]
        go_wp2_with fail
        have OL0 := own_nil w9 w9.heap.size (Nat.le_refl _)
        have XL0 : Ext w9 (w9.alloc (Obj.cells #[] 9)) := Ext.alloc _ _
        go_loopw [14, 15] (fun v i wr => ∃ k : Nat, k ≤ 201 ∧ i = .int .i64 k ∧ Ow w9.heap.size (longs k) v wr ∧ Ext w9 wr) (fun _ i _ => 1000 - (intOf i).toNat)
        case atStart => exact ⟨0, by omega, by go_num, OL0, XL0⟩
        case round =>
          obtain ⟨k, hk, rfl, hO, hX⟩ := hrel
          clear OL0 XL0
          by_cases hlt : k < 201
          · have hlt' : (k : Int) < 201 := by omega
            have hq1 : (k : Int).tdiv 26 = ((k / 26 : Nat) : Int) := by rw [Int.tdiv_eq_ediv_of_nonneg (by omega)]; push_cast; rfl
            have hq2 : (k : Int).tmod 26 = ((k % 26 : Nat) : Int) := by rw [Int.tmod_eq_emod_of_nonneg (by omega)]; push_cast; rfl
            have hq3 : k / 26 ≤ 7 := by omega
            have hq4 : k % 26 < 26 := Nat.mod_lt _ (by omega)
            have hcv := two_k k hlt wr
            have HS := Lib.hid (longs_snoc k)
            have hlk := longs_len k
            go_wp2_with (at_builtin; apply halt_here)
            apply go_on
            have O1 := own_alloc_w hO (Obj.cells #[.int .u8 (97 + (k : Int) / 26), .int .u8 (97 + (k : Int) % 26)] 5)
            have XW : Ext w9 (wr.alloc (Obj.cells #[.int .u8 (97 + (k : Int) / 26), .int .u8 (97 + (k : Int) % 26)] 5)) := hX.trans (Ext.alloc _ _)
            have hsz5 : (wr.alloc (Obj.cells #[.int .u8 (97 + (k : Int) / 26), .int .u8 (97 + (k : Int) % 26)] 5)).heap.size = wr.heap.size + 1 := by simp
            clear hcv hO hX
            generalize wr.alloc (Obj.cells #[.int .u8 (97 + (k : Int) / 26), .int .u8 (97 + (k : Int) % 26)] 5) = wt at *
            refine wp_app_str rfl _ _ rfl w9.heap.size (longs k) _ rfl (own_alloc_w O1 _) _ _ _ [two k] 9 rfl rfl (Rd.newAt wt _ hsz5 9 1 1 #[.string (bs (two k))] (0, 0) _ rfl rfl) (by have := XW.le; simp; omega) (by simp; omega) ?_
            intro v1 w11 O2 _ _ hb2
            have XW2 : Ext w9 w11 := (XW.trans (Ext.alloc _ _)).trans' hb2 (Nat.le_refl _)
            clear O1 XW hb2
            go_wp2
            exact ⟨⟨k + 1, by omega, by go_num, by rw [HS.out]; exact O2, XW2⟩, by simp only [intOf]; omega⟩
          · obtain rfl : k = 201 := by omega
            clear hlt hk
            obtain ⟨B9, d9, rfl, hB9, hd91, hd92⟩ := hO.rd
            clear hO
            rw [longs_len] at hB9 hd91
            have hln := longs_len 201
            have XE := X9'.trans hX
            go_wp2_with fail
            refine (build_any_k B9 d9 201 (longs 201) hln _ hB9 hd91 hd92 (by omega) long_short (hT.ext XE)).mono ?_
            rintro e w12 ⟨D3, dc3, rfl, X12⟩
            rw [bad201]
            have XE2 := XE.trans X12
            have hB12 := (hB9.ext X12).take (i := 200) (by omega)
            rw [Nat.mul_one, sv_take, longs_take] at hB12
            go_wp2_with fail
            refine (build_any_k B9 d9 200 (longs 200) (longs_len 200) _ (hB12) (by omega) hd92 (by omega) long_short2 (hT.ext XE2)).mono ?_
            rintro e w13 ⟨D4, dc4, rfl, X13⟩
            rw [good200]
            go_wp2
            go_ret
            exact ⟨rfl, XE2.trans X13⟩
    · rw [n1, n2, n3]
      go_wp2_with fail
      refine (rdict_any A c l _ (hr.ext X8') (by omega) hls).mono ?_
      rintro e w9 ⟨rfl, X9⟩
      have X9' := X8'.trans X9
      clear X5 X6 X7 X9 X5' X6' X7' X8' hr5 hr6 hrn
      rcases code_of l with ⟨l1, l2⟩ | ⟨l1, l2, l3⟩
      · rw [l1, l2]
        go_wp2_with fail
        have OL0 := own_nil w9 w9.heap.size (Nat.le_refl _)
        have XL0 : Ext w9 (w9.alloc (Obj.cells #[] 9)) := Ext.alloc _ _
        go_loopw [14, 15] (fun v i wr => ∃ k : Nat, k ≤ 201 ∧ i = .int .i64 k ∧ Ow w9.heap.size (longs k) v wr ∧ Ext w9 wr) (fun _ i _ => 1000 - (intOf i).toNat)
        case atStart => exact ⟨0, by omega, by go_num, OL0, XL0⟩
        case round =>
          obtain ⟨k, hk, rfl, hO, hX⟩ := hrel
          clear OL0 XL0
          by_cases hlt : k < 201
          · have hlt' : (k : Int) < 201 := by omega
            have hq1 : (k : Int).tdiv 26 = ((k / 26 : Nat) : Int) := by rw [Int.tdiv_eq_ediv_of_nonneg (by omega)]; push_cast; rfl
            have hq2 : (k : Int).tmod 26 = ((k % 26 : Nat) : Int) := by rw [Int.tmod_eq_emod_of_nonneg (by omega)]; push_cast; rfl
            have hq3 : k / 26 ≤ 7 := by omega
            have hq4 : k % 26 < 26 := Nat.mod_lt _ (by omega)
            have hcv := two_k k hlt wr
            have HS := Lib.hid (longs_snoc k)
            have hlk := longs_len k
            go_wp2_with (at_builtin; apply halt_here)
            apply go_on
            have O1 := own_alloc_w hO (Obj.cells #[.int .u8 (97 + (k : Int) / 26), .int .u8 (97 + (k : Int) % 26)] 5)
            have XW : Ext w9 (wr.alloc (Obj.cells #[.int .u8 (97 + (k : Int) / 26), .int .u8 (97 + (k : Int) % 26)] 5)) := hX.trans (Ext.alloc _ _)
            have hsz5 : (wr.alloc (Obj.cells #[.int .u8 (97 + (k : Int) / 26), .int .u8 (97 + (k : Int) % 26)] 5)).heap.size = wr.heap.size + 1 := by simp
            clear hcv hO hX
            generalize wr.alloc (Obj.cells #[.int .u8 (97 + (k : Int) / 26), .int .u8 (97 + (k : Int) % 26)] 5) = wt at *
            refine wp_app_str rfl _ _ rfl w9.heap.size (longs k) _ rfl (own_alloc_w O1 _) _ _ _ [two k] 9 rfl rfl (Rd.newAt wt _ hsz5 9 1 1 #[.string (bs (two k))] (0, 0) _ rfl rfl) (by have := XW.le; simp; omega) (by simp; omega) ?_
            intro v1 w11 O2 _ _ hb2
            have XW2 : Ext w9 w11 := (XW.trans (Ext.alloc _ _)).trans' hb2 (Nat.le_refl _)
            clear O1 XW hb2
            go_wp2
            exact ⟨⟨k + 1, by omega, by go_num, by rw [HS.out]; exact O2, XW2⟩, by simp only [intOf]; omega⟩
          · obtain rfl : k = 201 := by omega
            clear hlt hk
            obtain ⟨B9, d9, rfl, hB9, hd91, hd92⟩ := hO.rd
            clear hO
            rw [longs_len] at hB9 hd91
            have hln := longs_len 201
            have XE := X9'.trans hX
            go_wp2_with fail
            refine (build_any_k B9 d9 201 (longs 201) hln _ hB9 hd91 hd92 (by omega) long_short (hT.ext XE)).mono ?_
            rintro e w12 ⟨D3, dc3, rfl, X12⟩
            rw [bad201]
            have XE2 := XE.trans X12
            have hB12 := (hB9.ext X12).take (i := 200) (by omega)
            rw [Nat.mul_one, sv_take, longs_take] at hB12
            go_wp2_with fail
            refine (build_any_k B9 d9 200 (longs 200) (longs_len 200) _ (hB12) (by omega) hd92 (by omega) long_short2 (hT.ext XE2)).mono ?_
            rintro e w13 ⟨D4, dc4, rfl, X13⟩
            rw [good200]
            go_wp2
            go_ret
            exact ⟨rfl, XE2.trans X13⟩
      · rw [l1, l2, l3]
        go_wp2_with fail
        have OL0 := own_nil w9 w9.heap.size (Nat.le_refl _)
        have XL0 : Ext w9 (w9.alloc (Obj.cells #[] 9)) := Ext.alloc _ _
        go_loopw [14, 15] (fun v i wr => ∃ k : Nat, k ≤ 201 ∧ i = .int .i64 k ∧ Ow w9.heap.size (longs k) v wr ∧ Ext w9 wr) (fun _ i _ => 1000 - (intOf i).toNat)
        case atStart => exact ⟨0, by omega, by go_num, OL0, XL0⟩
        case round =>
          obtain ⟨k, hk, rfl, hO, hX⟩ := hrel
          clear OL0 XL0
          by_cases hlt : k < 201
          · have hlt' : (k : Int) < 201 := by omega
            have hq1 : (k : Int).tdiv 26 = ((k / 26 : Nat) : Int) := by rw [Int.tdiv_eq_ediv_of_nonneg (by omega)]; push_cast; rfl
            have hq2 : (k : Int).tmod 26 = ((k % 26 : Nat) : Int) := by rw [Int.tmod_eq_emod_of_nonneg (by omega)]; push_cast; rfl
            have hq3 : k / 26 ≤ 7 := by omega
            have hq4 : k % 26 < 26 := Nat.mod_lt _ (by omega)
            have hcv := two_k k hlt wr
            have HS := Lib.hid (longs_snoc k)
            have hlk := longs_len k
            go_wp2_with (at_builtin; apply halt_here)
            apply go_on
            have O1 := own_alloc_w hO (Obj.cells #[.int .u8 (97 + (k : Int) / 26), .int .u8 (97 + (k : Int) % 26)] 5)
            have XW : Ext w9 (wr.alloc (Obj.cells #[.int .u8 (97 + (k : Int) / 26), .int .u8 (97 + (k : Int) % 26)] 5)) := hX.trans (Ext.alloc _ _)
            have hsz5 : (wr.alloc (Obj.cells #[.int .u8 (97 + (k : Int) / 26), .int .u8 (97 + (k : Int) % 26)] 5)).heap.size = wr.heap.size + 1 := by simp
            clear hcv hO hX
            generalize wr.alloc (Obj.cells #[.int .u8 (97 + (k : Int) / 26), .int .u8 (97 + (k : Int) % 26)] 5) = wt at *
            refine wp_app_str rfl _ _ rfl w9.heap.size (longs k) _ rfl (own_alloc_w O1 _) _ _ _ [two k] 9 rfl rfl (Rd.newAt wt _ hsz5 9 1 1 #[.string (bs (two k))] (0, 0) _ rfl rfl) (by have := XW.le; simp; omega) (by simp; omega) ?_
            intro v1 w11 O2 _ _ hb2
            have XW2 : Ext w9 w11 := (XW.trans (Ext.alloc _ _)).trans' hb2 (Nat.le_refl _)
            clear O1 XW hb2
            go_wp2
            exact ⟨⟨k + 1, by omega, by go_num, by rw [HS.out]; exact O2, XW2⟩, by simp only [intOf]; omega⟩
          · obtain rfl : k = 201 := by omega
            clear hlt hk
            obtain ⟨B9, d9, rfl, hB9, hd91, hd92⟩ := hO.rd
            clear hO
            rw [longs_len] at hB9 hd91
            have hln := longs_len 201
            have XE := X9'.trans hX
            go_wp2_with fail
            refine (build_any_k B9 d9 201 (longs 201) hln _ hB9 hd91 hd92 (by omega) long_short (hT.ext XE)).mono ?_
            rintro e w12 ⟨D3, dc3, rfl, X12⟩
            rw [bad201]
            have XE2 := XE.trans X12
            have hB12 := (hB9.ext X12).take (i := 200) (by omega)
            rw [Nat.mul_one, sv_take, longs_take] at hB12
            go_wp2_with fail
            refine (build_any_k B9 d9 200 (longs 200) (longs_len 200) _ (hB12) (by omega) hd92 (by omega) long_short2 (hT.ext XE2)).mono ?_
            rintro e w13 ⟨D4, dc4, rfl, X13⟩
            rw [good200]
            go_wp2
            go_ret
            exact ⟨rfl, XE2.trans X13⟩
  · have h6' : (6 : Int) < l.length := by omega
    go_wp2
    go_ret
    exact ⟨rfl, X1'⟩
set_option maxRecDepth 100000 in
theorem dawgRefuses_lifted (os : Os) (started : os.Started) (H : Type) (enc : TypeId × Value → H) :
    ReturnsInHanded {} Tryd.checked os 7 .any (fun w args => (Rows.dawgRefusesSpec.pre enc Tryd.prog Tryd.f7 Rows.dawgRefusesRow.domain false w args ∧ laidMetH Tryd.prog laidL w) ∧ sizedMet enc Tryd.prog Tryd.f7 (OpenSpec.ofChange Rows.dawgRefusesSpec) false w args)
      (Rows.dawgRefusesSpec.post enc Tryd.prog Tryd.f7 false true false false) := by
  refine returnsInHanded_of_change_and (C := Tryd.checked) (X := fun w _ => laidMetH Tryd.prog laidL w) (fun _ _ _ hh h => h.of_heap hh) own started (by kernel_rfl) Tryd.func7
    (ChangeSpec.witness_shaped (enc := enc) (C := Tryd.checked) (os := os) (X := fun w _ => laidMetH Tryd.prog laidL w) false (World.laidAll Tryd.prog os laidL) #[.slice none 0 0, .slice none 0 0, .agg #[.int .u8 0, .int .u8 0]] 8 (World.laidAll_os _ _ _)
      (door_shaped os _) (by kernel_rfl) (by kernel_rfl) (by kernel_rfl) (door_met os _)) ?_
  intro W base args ds gs before hval0 hW hcnd _ hL _
  have hval : ∀ (j : Nat) t v, Tryd.f7.params[j]? = some t → args[j]? = some v → Value.okWide Tryd.prog W .any base t v := hval0
  have hW' := hW
  obtain ⟨p, q, hA0, hV, rfl, hfz, hnd⟩ := hW
  have hA : DataW.TrodAll enc Tryd.prog W 0 (fun _ => true) true Tryd.f7.params.toList args.toList ds p := hA0
  rw [Tryd.params7] at hA hval
  obtain ⟨v0, vs0, d0, ds0, p0, q0, hargs, rfl, rfl, h0, r0⟩ := trodAll_cons hA
  obtain ⟨v1, vs1, d1, ds1, p1, q1, rfl, rfl, rfl, h1, r1⟩ := trodAll_cons r0
  obtain ⟨v2, vs2, d2, ds2, p2, q2, rfl, rfl, rfl, h2, r2⟩ := trodAll_cons r1
  obtain ⟨rfl, rfl, rfl⟩ := trodAll_nil r2
  obtain rfl : args = #[v0, v1, v2] := by cases args; simp_all
  obtain ⟨rfl, rfl⟩ := trodVars_none hV
  obtain ⟨A0, c0, ll0, rfl, hr0, hc0, hl0, hx0⟩ := open_strs (hval 0 25 v0 rfl rfl) h0
  obtain ⟨A1, c1, ll1, rfl, hr1, hl1⟩ := open_bytess (hval 1 22 v1 rfl rfl) h1
  obtain ⟨ns2, rfl, ln2, hw2⟩ := open_intarr (k := .u8) Tryd.underlying56 Tryd.underlying5 (by kernel_rfl) (by kernel_rfl) (hval 2 56 v2 rfl rfl) h2
  obtain ⟨a2x, a2y, rfl⟩ := list2 ln2
  have b2x : 0 ≤ a2x ∧ a2x ≤ 255 := by simpa [Lit.wf, IntKind.min, IntKind.max, IntKind.signed, IntKind.bits] using hw2 a2x (by simp)
  have b2y : 0 ≤ a2y ∧ a2y ≤ 255 := by simpa [Lit.wf, IntKind.min, IntKind.max, IntKind.signed, IntKind.bits] using hw2 a2y (by simp)
  have hT : Tb W := tb_of hL
  clear hA0 hval0
  refine (refuses_walk A0 A1 c0 c1 ll0 ll1 a2x a2y W hT hr0 hc0 hl0 hx0 hr1 hl1 b2x b2y).mono fun e W' ⟨he, hg⟩ => ?_
  subst he
  exact ⟨_, rfl, law_post laidOut (by kernel_rfl) rfl hW' (fun _ _ _ => (trodAll_cons_mk (shut_bool Tryd.underlying4 _) trodAll_mk0)) (fun _ => ⟨rfl, rfl⟩) hg⟩
theorem dawgRefuses_holds : Rows.DawgRefusesSaid :=
  OpenClaim.holds_of_wide 7 Tryd.f7 rfl rfl rfl rfl rfl rfl rfl ⟨rfl, rfl, rfl, rfl, rfl⟩ rfl rfl rfl rfl rfl (by kernel_rfl) Tryd.func7 (by kernel_rfl)
    (of_decide_eq_true (by kernel_rfl)) (by unfold Func.isWrapper; first | (rw [if_pos (by decide +kernel)]; kernel_rfl) | (rw [if_neg (by decide +kernel)]; exact ⟨rfl, rfl⟩))
    (fun os started H enc _ => dawgRefuses_lifted os started H enc)
theorem dawgRefuses_proved : Rows.DawgRefusesCardSaid :=
  Claim7.holds_tied_plain_at .later [] [.data, .data, .data] true (true, "2cfab7a405446e86f36320e8931b4db3dd0b65117ddc1662eb493445956b60ea") true
    dawgRefuses_holds (fun _ h => by cases h) (by kernel_rfl) (fun _ h => by cases h) dawgRefuses_row_tie rfl ⟨rfl, rfl⟩ (by kernel_rfl) rfl
    (fun f fn hf hfn => by
      obtain rfl : f = 7 := Option.some.inj ((show Tryd.prog.funcNamed Rows.dawgRefusesRow.func = some 7 by kernel_rfl).symm.trans hf) |>.symm
      obtain rfl : fn = Tryd.f7 := (Option.some.inj (Tryd.func7.symm.trans hfn)).symm
      exact ⟨by kernel_rfl, fun j t ht => by
        rw [Tryd.params7] at ht
        have hm : t ∈ [25, 22, 56] := by simpa using Array.mem_of_getElem? ht
        have hall : ([25, 22, 56].all fun u => !Tryd.prog.wantsStandIn u) = true := by kernel_rfl
        exact (show Tryd.prog.wantsStandIn t = false by simpa using List.all_eq_true.1 hall t hm)⟩)
    (by kernel_rfl)
end Go.Proofs.YtmmihcophkipoaaDoor
