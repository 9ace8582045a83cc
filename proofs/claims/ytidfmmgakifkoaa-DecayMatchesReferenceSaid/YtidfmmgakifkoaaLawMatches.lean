/-
  DecayMatchesReference: for every epoch byte, number and pair of ints the law returns true and its arguments read as before. No condition.
-/
import Derived.Test.YtidfmmgakifkoaaDecS
import Derived.Test.YtidfmmgakifkoaaFrame
import Derived.Test.YtidfmmgakifkoaaPhase
namespace Go.Proofs.Ytidfmmgakifkoaa
open Go.ChangeShapes Go.WideShapes Go.ChangeAt Go.RowKit
set_option linter.unusedVariables false
set_option linter.unusedSimpArgs false

def GoneFact (v : Int) (u : Value) (_ : World) : Prop := ∃ k : Nat, GoneOf v k ∧ u = .int .i64 k
theorem GoneFact.ext {v : Int} {u : Value} {w w' : World} (_ : Ext w w') (h : GoneFact v u w) : GoneFact v u w' := h
def atV (t v x : Int) : Int × Int := if t ≤ x ∧ x ≤ 10000 then (hv v (x - t).toNat, 0) else (0, 120)
def addV (t v x n : Int) : Int × Int × Int := if 0 ≤ n ∧ n ≤ 1073741824 then (if t ≤ x ∧ x ≤ 10000 then (x, tot [hv v (x - t).toNat, n], 0) else (0, 0, 120)) else (0, 0, 1)
theorem at_any (t v x : Int) (w : World) (h : 0 ≤ t ∧ t ≤ 10000 ∧ 0 ≤ v ∧ v ≤ 1073741824) :
    Calls Try.prog 12 #[.agg #[.int .i64 t, .int .i64 v], .int .i64 x] w fun e w' => e = .returned (.tuple #[.int .i64 (atV t v x).1, .int .i64 (atV t v x).2]) ∧ Below w.heap.size w w' := by
  unfold atV
  split
  · next hx => exact at_yes t v x w h.1 h.2.1 h.2.2.1 h.2.2.2 hx.1 hx.2
  · next hx => exact at_no t v x w (by omega)
theorem rat_any (t v x : Int) (w : World) (h : 0 ≤ t ∧ t ≤ 10000 ∧ 0 ≤ v ∧ v ≤ 1073741824) :
    Calls Try.prog 13 #[.agg #[.int .i64 t, .int .i64 v], .int .i64 x] w fun e w' => e = .returned (.tuple #[.int .i64 (atV t v x).1, .int .i64 (atV t v x).2]) ∧ Below w.heap.size w w' := by
  unfold atV
  split
  · next hx => exact rat_yes t v x w h.1 h.2.1 h.2.2.1 h.2.2.2 hx.1 hx.2
  · next hx => exact rat_no t v x w (by omega)
theorem add_any (t v x n : Int) (w : World) (h : 0 ≤ t ∧ t ≤ 10000 ∧ 0 ≤ v ∧ v ≤ 1073741824) :
    Calls Try.prog 14 #[.agg #[.int .i64 t, .int .i64 v], .int .i64 x, .int .i64 n] w fun e w' => e = .returned (.tuple #[.agg #[.int .i64 (addV t v x n).1, .int .i64 (addV t v x n).2.1], .int .i64 (addV t v x n).2.2]) ∧ Below w.heap.size w w' := by
  unfold addV
  split
  · next hn =>
    split
    · next hx => exact add_yes t v x n w h.1 h.2.1 h.2.2.1 h.2.2.2 hx.1 hx.2 hn.1 hn.2
    · next hx => exact add_epoch t v x n w (by omega) hn.1 hn.2
  · next hn => exact add_arg t v x n w (by omega)
theorem radd_any (t v x n : Int) (w : World) (h : 0 ≤ t ∧ t ≤ 10000 ∧ 0 ≤ v ∧ v ≤ 1073741824) :
    Calls Try.prog 15 #[.agg #[.int .i64 t, .int .i64 v], .int .i64 x, .int .i64 n] w fun e w' => e = .returned (.tuple #[.agg #[.int .i64 (addV t v x n).1, .int .i64 (addV t v x n).2.1], .int .i64 (addV t v x n).2.2]) ∧ Below w.heap.size w w' := by
  unfold addV
  split
  · next hn =>
    split
    · next hx => exact radd_yes t v x n w h.1 h.2.1 h.2.2.1 h.2.2.2 hx.1 hx.2 hn.1 hn.2
    · next hx => exact radd_epoch t v x n w (by omega) hn.1 hn.2
  · next hn => exact radd_arg t v x n w (by omega)
set_option maxRecDepth 100000 in
theorem matches_walk (a0 a1 x y : Int) (w : World) (h0 : 0 ≤ a0) (h1 : a0 ≤ 255) (h2 : 0 ≤ a1) (h3 : a1 ≤ 4294967295) (hx0 : -9223372036854775808 ≤ x) (hx1 : x ≤ 9223372036854775807) (hy0 : -9223372036854775808 ≤ y) (hy1 : y ≤ 9223372036854775807) :
    Calls Try.prog 3 #[.int .u8 a0, .int .u32 a1, .agg #[.int .i64 x, .int .i64 y]] w fun e w' => e = .returned (.bool true) ∧ Below w.heap.size w w' := by
  go_enter Try.func3, Try.ntmps3
  go_wp2_with fail
  refine (sanity_any _).mono ?_
  rintro e w1 ⟨rfl, hb⟩
  have W1 := (Blk.new w 23 #[.int .i64 x, .int .i64 y]).below hb (Nat.le_refl _)
  have L1 : Below w.heap.size w w1 := Below.trans (by go_grown) (hb.mono (by (try simp); (try omega)))
  have hz1 := L1.size
  clear hb 
  obtain ⟨wc0, wc1, wc2, wc3⟩ := W1.f2
  go_wp2_with fail
  refine (made_any a0 a1 _ h0 h1 h2 h3).mono ?_
  rintro e w2 ⟨rfl, hb⟩
  have W2 := (W1).below hb (Nat.le_refl _)
  have L2 : Below w.heap.size w w2 := Below.trans (by go_grown) (hb.mono (by (try simp); (try omega)))
  have hz2 := L2.size
  clear hb W1 wc0 wc1 wc2 wc3 L1 hz1
  obtain ⟨wc0, wc1, wc2, wc3⟩ := W2.f2
  obtain ⟨e0, e1⟩ : 0 ≤ a0 % 41 ∧ a0 % 41 ≤ 40 := by omega
  obtain ⟨v0, v1⟩ : 0 ≤ a1 % 1073741825 ∧ a1 % 1073741825 ≤ 1073741824 := by omega
  generalize a0 % 41 = t at *
  generalize a1 % 1073741825 = v at *
  clear h0 h1 h2 h3
  obtain ⟨p0, p1⟩ : 0 ≤ x % 256 ∧ x % 256 ≤ 255 := by omega
  have T2 := Blk.alloc (Blk.new w2 26 #[.int .i64 t, .int .i64 v]) (.cells #[.int .i64 x, .int .i64 (t + x % 256 % 40), .int .i64 (9990 + x % 256 % 20)] 28)
  have E2 := Blk.new (w2.alloc (.cells #[.int .i64 t, .int .i64 v] 26)) 28 #[.int .i64 x, .int .i64 (t + x % 256 % 40), .int .i64 (9990 + x % 256 % 20)]
  have A2 := Blk.alloc (Blk.alloc W2 (.cells #[.int .i64 t, .int .i64 v] 26)) (.cells #[.int .i64 x, .int .i64 (t + x % 256 % 40), .int .i64 (9990 + x % 256 % 20)] 28)
  have LL : Below w.heap.size w ((w2.alloc (.cells #[.int .i64 t, .int .i64 v] 26)).alloc (.cells #[.int .i64 x, .int .i64 (t + x % 256 % 40), .int .i64 (9990 + x % 256 % 20)] 28)) := by go_grown
  rw [World.size_alloc] at E2
  go_wp2_with fail
  generalize hes : #[Value.int .i64 x, Value.int .i64 (t + x % 256 % 40), Value.int .i64 (9990 + x % 256 % 20)] = es at *
  have hget : ∀ k, k < 3 → ∃ q : Int, es[k]? = some (.int .i64 q) := by
    intro k hk
    subst hes
    match k, hk with
    | 0, _ => exact ⟨_, rfl⟩
    | 1, _ => exact ⟨_, rfl⟩
    | 2, _ => exact ⟨_, rfl⟩
  have HG := Lib.hid hget; clear hget hes
  go_loopw [10] (fun i wr => ∃ k : Nat, k ≤ 3 ∧ i = .int .i64 k ∧ Blk wr w2.heap.size 26 #[.int .i64 t, .int .i64 v] ∧ Blk wr (w2.heap.size + 1) 28 es ∧ Blk wr w.heap.size 23 #[.int .i64 x, .int .i64 y] ∧ Below w.heap.size w wr) (fun i _ => 3 - (intOf i).toNat)
  case atStart => exact ⟨0, by omega, rfl, T2, E2, A2, LL⟩
  case round =>
    obtain ⟨k, hk, rfl, T3, E3, A3, L3⟩ := hrel
    clear T2 E2 A2 LL W2 wc0 wc1 wc2 wc3
    by_cases hlt : k < 3
    · obtain ⟨q, hq⟩ := HG.out k hlt
      have hlt2 : (k : Int) < 3 := by omega
      have hlt3 : (0 : Int) ≤ (k : Int) := by omega
      have HQ : ∀ W, Blk W (w2.heap.size + 1) 28 es → W.cell? ⟨w2.heap.size + 1, k, none⟩ = some (.int .i64 q) := fun W hB => by rw [hB.cell k]; exact hq
      have HQ' := Lib.hid HQ; clear HQ hq
      go_wp2_with fail
      refine wp_region_list2 (by kernel_rfl) 10 Ext [(4, Is (.tuple #[.int .i64 (atV t v q).1, .int .i64 (atV t v q).2]))] (by kernel_rfl) (fun _ _ d _ _ h => by cases d <;> exact h) rfl Ext.refl (fun _ _ _ => Ext.trans) ⟨fun _ _ _ => Is.ext, trivial⟩ ?_
      simp only [List.take_succ_cons, List.take_zero, List.take_nil, List.drop_succ_cons, List.drop_zero, List.drop_nil]
      iterate 4
        refine ph_pure (a' := ?_) rfl rfl ?_ (fun w9 hE hG => pureAt_plain rfl ?_) ?_ ?_
        rotate_left 2
        · clear hG; have hT := (T3.drew.ext hE).f2; have hEs := HQ'.out _ (E3.drew.ext hE); have hA := (A3.drew.ext hE).f2; obtain ⟨c0, c1, c2, c3⟩ := hT; obtain ⟨a0', a1', a2', a3'⟩ := hA; go_simp; rfl
        · go_simp; rfl
      refine ph_op rfl rfl (fun w9 hE hG => opAt_plain rfl ?_) (fun v hv => ?_)
      · clear hG; have hT := (T3.drew.ext hE).f2; have hEs := HQ'.out _ (E3.drew.ext hE); have hA := (A3.drew.ext hE).f2; obtain ⟨c0, c1, c2, c3⟩ := hT; obtain ⟨a0', a1', a2', a3'⟩ := hA; go_simp
        refine (at_any t v q _ ⟨by omega, by omega, v0, v1⟩).mono ?_
        rintro e w' ⟨rfl, hb⟩
        exact ⟨_, rfl, hb, rfl⟩
      obtain ⟨_, _, hv⟩ := hv
      obtain rfl := hv
      go_simp
      iterate 5
        refine ph_pure (a' := ?_) rfl rfl ?_ (fun w9 hE hG => pureAt_plain rfl ?_) ?_ ?_
        rotate_left 2
        · clear hG; have hT := (T3.drew.ext hE).f2; have hEs := HQ'.out _ (E3.drew.ext hE); have hA := (A3.drew.ext hE).f2; obtain ⟨c0, c1, c2, c3⟩ := hT; obtain ⟨a0', a1', a2', a3'⟩ := hA; go_simp; rfl
        · go_simp; rfl
      refine ph_end (fun x1 hE hG => ?_)
      have T4 := T3.drew.ext hE
      have E4 := E3.drew.ext hE
      have A4 := A3.drew.ext hE
      have L4 := L3.drew.trans (hE.below.mono L3.size)
      clear hE hG T3 E3 A3 L3
      go_wp2_with fail
      refine wp_region_list2 (by kernel_rfl) 10 Ext [(4, Is (.tuple #[.int .i64 (atV t v q).1, .int .i64 (atV t v q).2]))] (by kernel_rfl) (fun _ _ d _ _ h => by cases d <;> exact h) rfl Ext.refl (fun _ _ _ => Ext.trans) ⟨fun _ _ _ => Is.ext, trivial⟩ ?_
      simp only [List.take_succ_cons, List.take_zero, List.take_nil, List.drop_succ_cons, List.drop_zero, List.drop_nil]
      iterate 4
        refine ph_pure (a' := ?_) rfl rfl ?_ (fun w9 hE hG => pureAt_plain rfl ?_) ?_ ?_
        rotate_left 2
        · clear hG; have hT := (T4.drew.ext hE).f2; have hEs := HQ'.out _ (E4.drew.ext hE); have hA := (A4.drew.ext hE).f2; obtain ⟨c0, c1, c2, c3⟩ := hT; obtain ⟨a0', a1', a2', a3'⟩ := hA; go_simp; rfl
        · go_simp; rfl
      refine ph_op rfl rfl (fun w9 hE hG => opAt_plain rfl ?_) (fun v hv => ?_)
      · clear hG; have hT := (T4.drew.ext hE).f2; have hEs := HQ'.out _ (E4.drew.ext hE); have hA := (A4.drew.ext hE).f2; obtain ⟨c0, c1, c2, c3⟩ := hT; obtain ⟨a0', a1', a2', a3'⟩ := hA; go_simp
        refine (rat_any t v q _ ⟨by omega, by omega, v0, v1⟩).mono ?_
        rintro e w' ⟨rfl, hb⟩
        exact ⟨_, rfl, hb, rfl⟩
      obtain ⟨_, _, hv⟩ := hv
      obtain rfl := hv
      go_simp
      iterate 5
        refine ph_pure (a' := ?_) rfl rfl ?_ (fun w9 hE hG => pureAt_plain rfl ?_) ?_ ?_
        rotate_left 2
        · clear hG; have hT := (T4.drew.ext hE).f2; have hEs := HQ'.out _ (E4.drew.ext hE); have hA := (A4.drew.ext hE).f2; obtain ⟨c0, c1, c2, c3⟩ := hT; obtain ⟨a0', a1', a2', a3'⟩ := hA; go_simp; rfl
        · go_simp; rfl
      refine ph_end (fun x2 hE hG => ?_)
      have T5 := T4.drew.ext hE
      have E5 := E4.drew.ext hE
      have A5 := A4.drew.ext hE
      have L5 := L4.drew.trans (hE.below.mono L4.size)
      clear hE hG T4 E4 A4 L4
      go_wp2_with fail
      refine wp_region_list2 (by kernel_rfl) 11 Ext [(6, Is (.tuple #[.agg #[.int .i64 (addV t v q y).1, .int .i64 (addV t v q y).2.1], .int .i64 (addV t v q y).2.2])), (10, Box x2.heap.size 26 #[.int .i64 0, .int .i64 0])] (by kernel_rfl) (fun _ _ d _ _ h => by cases d <;> exact h) rfl Ext.refl (fun _ _ _ => Ext.trans) ⟨fun _ _ _ => Is.ext, fun _ _ _ => Box.ext, trivial⟩ ?_
      simp only [List.take_succ_cons, List.take_zero, List.take_nil, List.drop_succ_cons, List.drop_zero, List.drop_nil]
      iterate 6
        refine ph_pure (a' := ?_) rfl rfl ?_ (fun w9 hE hG => pureAt_plain rfl ?_) ?_ ?_
        rotate_left 2
        · clear hG; have hT := (T5.drew.ext hE).f2; have hEs := HQ'.out _ (E5.drew.ext hE); have hA := (A5.drew.ext hE).f2; obtain ⟨c0, c1, c2, c3⟩ := hT; obtain ⟨a0', a1', a2', a3'⟩ := hA; go_simp; rfl
        · go_simp; rfl
      refine ph_op rfl rfl (fun w9 hE hG => opAt_plain rfl ?_) (fun v hv => ?_)
      · clear hG; have hT := (T5.drew.ext hE).f2; have hEs := HQ'.out _ (E5.drew.ext hE); have hA := (A5.drew.ext hE).f2; obtain ⟨c0, c1, c2, c3⟩ := hT; obtain ⟨a0', a1', a2', a3'⟩ := hA; go_simp
        refine (add_any t v q y _ ⟨by omega, by omega, v0, v1⟩).mono ?_
        rintro e w' ⟨rfl, hb⟩
        exact ⟨_, rfl, hb, rfl⟩
      obtain ⟨_, _, hv⟩ := hv
      obtain rfl := hv
      go_simp
      iterate 3
        refine ph_pure (a' := ?_) rfl rfl ?_ (fun w9 hE hG => pureAt_plain rfl ?_) ?_ ?_
        rotate_left 2
        · clear hG; have hT := (T5.drew.ext hE).f2; have hEs := HQ'.out _ (E5.drew.ext hE); have hA := (A5.drew.ext hE).f2; obtain ⟨c0, c1, c2, c3⟩ := hT; obtain ⟨a0', a1', a2', a3'⟩ := hA; go_simp; rfl
        · go_simp; rfl
      refine ph_op rfl rfl (fun w9 hE hG => opAt_plain rfl ?_) (fun v hv => ?_)
      · clear hG; have hT := (T5.drew.ext hE).f2; have hEs := HQ'.out _ (E5.drew.ext hE); have hA := (A5.drew.ext hE).f2; obtain ⟨c0, c1, c2, c3⟩ := hT; obtain ⟨a0', a1', a2', a3'⟩ := hA; go_simp
        exact ⟨Ext.alloc _ _, Box.new hE.le _ _⟩
      obtain ⟨_, _, p2, rfl, hp2, _⟩ := hv
      go_simp
      refine ph_end (fun x3 hE hG => ?_)
      have T6 := T5.drew.ext hE
      have E6 := E5.drew.ext hE
      have A6 := A5.drew.ext hE
      have L6 := L5.drew.trans (hE.below.mono L5.size)
      simp only [List.forall_mem_cons] at hG
      have hbx := hG.1.at_.2
      obtain ⟨x0, x1', x2', x3'⟩ := hbx.f2
      have nt : w2.heap.size < p2 := by have := T5.lt; omega
      have ne : w2.heap.size + 1 < p2 := by have := E5.lt; omega
      have na : w.heap.size < p2 := by have := A5.lt; omega
      clear hE hG T5 E5 A5 L5
      go_wp2_with fail
      have T7 := (T6.far (p := ⟨p2, 0, none⟩) (by simp; omega) (.int .i64 (addV t v q y).1)).far (p := ⟨p2, 1, none⟩) (by simp; omega) (.int .i64 (addV t v q y).2.1)
      have E7 := (E6.far (p := ⟨p2, 0, none⟩) (by simp; omega) (.int .i64 (addV t v q y).1)).far (p := ⟨p2, 1, none⟩) (by simp; omega) (.int .i64 (addV t v q y).2.1)
      have A7 := (A6.far (p := ⟨p2, 0, none⟩) (by simp; omega) (.int .i64 (addV t v q y).1)).far (p := ⟨p2, 1, none⟩) (by simp; omega) (.int .i64 (addV t v q y).2.1)
      have Q7 := (hbx.set_ 0 (.int .i64 (addV t v q y).1)).set_ 1 (.int .i64 (addV t v q y).2.1)
      have P7 := Q7
      have L7 : Below w.heap.size w ((x3.setCell ⟨p2, 0, none⟩ (.int .i64 (addV t v q y).1)).setCell ⟨p2, 1, none⟩ (.int .i64 (addV t v q y).2.1)) := (L6.setCell (p := ⟨p2, 0, none⟩) (by simp; omega) _).setCell (p := ⟨p2, 1, none⟩) (by simp; omega) _
      clear x0 x1' x2' x3' hbx T6 E6 A6 L6
      generalize ((x3.setCell ⟨p2, 0, none⟩ (.int .i64 (addV t v q y).1)).setCell ⟨p2, 1, none⟩ (.int .i64 (addV t v q y).2.1)) = x3 at *
      go_wp2_with fail
      refine wp_region_list2 (by kernel_rfl) 11 Ext [(6, Is (.tuple #[.agg #[.int .i64 (addV t v q y).1, .int .i64 (addV t v q y).2.1], .int .i64 (addV t v q y).2.2])), (10, Box x3.heap.size 26 #[.int .i64 0, .int .i64 0])] (by kernel_rfl) (fun _ _ d _ _ h => by cases d <;> exact h) rfl Ext.refl (fun _ _ _ => Ext.trans) ⟨fun _ _ _ => Is.ext, fun _ _ _ => Box.ext, trivial⟩ ?_
      simp only [List.take_succ_cons, List.take_zero, List.take_nil, List.drop_succ_cons, List.drop_zero, List.drop_nil]
      iterate 6
        refine ph_pure (a' := ?_) rfl rfl ?_ (fun w9 hE hG => pureAt_plain rfl ?_) ?_ ?_
        rotate_left 2
        · clear hG; have hT := (T7.drew.ext hE).f2; have hEs := HQ'.out _ (E7.drew.ext hE); have hA := (A7.drew.ext hE).f2; obtain ⟨c0, c1, c2, c3⟩ := hT; obtain ⟨a0', a1', a2', a3'⟩ := hA; go_simp; rfl
        · go_simp; rfl
      refine ph_op rfl rfl (fun w9 hE hG => opAt_plain rfl ?_) (fun v hv => ?_)
      · clear hG; have hT := (T7.drew.ext hE).f2; have hEs := HQ'.out _ (E7.drew.ext hE); have hA := (A7.drew.ext hE).f2; obtain ⟨c0, c1, c2, c3⟩ := hT; obtain ⟨a0', a1', a2', a3'⟩ := hA; go_simp
        refine (radd_any t v q y _ ⟨by omega, by omega, v0, v1⟩).mono ?_
        rintro e w' ⟨rfl, hb⟩
        exact ⟨_, rfl, hb, rfl⟩
      obtain ⟨_, _, hv⟩ := hv
      obtain rfl := hv
      go_simp
      iterate 3
        refine ph_pure (a' := ?_) rfl rfl ?_ (fun w9 hE hG => pureAt_plain rfl ?_) ?_ ?_
        rotate_left 2
        · clear hG; have hT := (T7.drew.ext hE).f2; have hEs := HQ'.out _ (E7.drew.ext hE); have hA := (A7.drew.ext hE).f2; obtain ⟨c0, c1, c2, c3⟩ := hT; obtain ⟨a0', a1', a2', a3'⟩ := hA; go_simp; rfl
        · go_simp; rfl
      refine ph_op rfl rfl (fun w9 hE hG => opAt_plain rfl ?_) (fun v hv => ?_)
      · clear hG; have hT := (T7.drew.ext hE).f2; have hEs := HQ'.out _ (E7.drew.ext hE); have hA := (A7.drew.ext hE).f2; obtain ⟨c0, c1, c2, c3⟩ := hT; obtain ⟨a0', a1', a2', a3'⟩ := hA; go_simp
        exact ⟨Ext.alloc _ _, Box.new hE.le _ _⟩
      obtain ⟨_, _, p3, rfl, hp3, _⟩ := hv
      go_simp
      refine ph_end (fun x4 hE hG => ?_)
      have T8 := T7.drew.ext hE
      have E8 := E7.drew.ext hE
      have A8 := A7.drew.ext hE
      have L8 := L7.drew.trans (hE.below.mono L7.size)
      have P8 := P7.drew.ext hE
      simp only [List.forall_mem_cons] at hG
      have hbx := hG.1.at_.2
      obtain ⟨x0, x1', x2', x3'⟩ := hbx.f2
      have nt : w2.heap.size < p3 := by have := T7.lt; omega
      have ne : w2.heap.size + 1 < p3 := by have := E7.lt; omega
      have na : w.heap.size < p3 := by have := A7.lt; omega
      have np : p2 < p3 := by have := P7.lt; omega
      clear hE hG T7 E7 A7 L7 P7
      obtain ⟨y0, y1', y2', y3'⟩ := P8.f2
      have np1 : p2 ≠ p3 := by omega
      have np2 : p3 ≠ p2 := by omega
      have T9 := (T8.far (p := ⟨p3, 0, none⟩) (by simp; omega) (.int .i64 (addV t v q y).1)).far (p := ⟨p3, 1, none⟩) (by simp; omega) (.int .i64 (addV t v q y).2.1)
      have E9 := (E8.far (p := ⟨p3, 0, none⟩) (by simp; omega) (.int .i64 (addV t v q y).1)).far (p := ⟨p3, 1, none⟩) (by simp; omega) (.int .i64 (addV t v q y).2.1)
      have A9 := (A8.far (p := ⟨p3, 0, none⟩) (by simp; omega) (.int .i64 (addV t v q y).1)).far (p := ⟨p3, 1, none⟩) (by simp; omega) (.int .i64 (addV t v q y).2.1)
      have P9 := (P8.far (p := ⟨p3, 0, none⟩) (by simp; omega) (.int .i64 (addV t v q y).1)).far (p := ⟨p3, 1, none⟩) (by simp; omega) (.int .i64 (addV t v q y).2.1)
      have Q9 := (hbx.set_ 0 (.int .i64 (addV t v q y).1)).set_ 1 (.int .i64 (addV t v q y).2.1)
      have L9 : Below w.heap.size w ((x4.setCell ⟨p3, 0, none⟩ (.int .i64 (addV t v q y).1)).setCell ⟨p3, 1, none⟩ (.int .i64 (addV t v q y).2.1)) := (L8.setCell (p := ⟨p3, 0, none⟩) (by simp; omega) _).setCell (p := ⟨p3, 1, none⟩) (by simp; omega) _
      clear hbx T8 E8 A8 L8 P8 P9 Q9
      go_wp2
      go_roundw
      case rel => exact ⟨k + 1, by omega, by go_num, T9, E9, A9, L9⟩
      case measure => simp only [intOf]; omega
    · obtain rfl : k = 3 := by omega
      clear hlt
      go_wp2_with fail
      refine wp_region_list2 (by kernel_rfl) 9 Ext [(1, GoneFact v), (3, GoneFact v)] (by kernel_rfl) (fun _ _ d _ _ h => by cases d <;> exact h) rfl Ext.refl (fun _ _ _ => Ext.trans) ⟨fun _ _ _ => GoneFact.ext, fun _ _ _ => GoneFact.ext, trivial⟩ ?_
      simp only [List.take_succ_cons, List.take_zero, List.take_nil, List.drop_succ_cons, List.drop_zero, List.drop_nil]
      iterate 1
        refine ph_pure (a' := ?_) rfl rfl ?_ (fun w2 hE hG => pureAt_plain rfl ?_) ?_ ?_
        rotate_left 2
        · clear hG; have hT := (T3.drew.ext hE).f2; obtain ⟨c0, c1, c2, c3⟩ := hT; go_simp; rfl
        · go_simp; rfl
      refine ph_op rfl rfl (fun w2 hE hG => opAt_plain rfl ?_) (fun v hv => ?_)
      · clear hG; have hT := (T3.drew.ext hE).f2; obtain ⟨c0, c1, c2, c3⟩ := hT; go_simp
        refine (gone_any t v _ v0 v1).mono ?_
        rintro e w' ⟨j, hj, rfl, hb⟩
        exact ⟨_, rfl, hb, j, hj, rfl⟩
      obtain ⟨_, _, j1, hj1, hv⟩ := hv
      obtain rfl := hv
      have J1 := Lib.hid hj1; clear hj1
      go_simp
      iterate 1
        refine ph_pure (a' := ?_) rfl rfl ?_ (fun w2 hE hG => pureAt_plain rfl ?_) ?_ ?_
        rotate_left 2
        · clear hG; have hT := (T3.drew.ext hE).f2; obtain ⟨c0, c1, c2, c3⟩ := hT; go_simp; rfl
        · go_simp; rfl
      refine ph_op rfl rfl (fun w2 hE hG => opAt_plain rfl ?_) (fun v hv => ?_)
      · clear hG; have hT := (T3.drew.ext hE).f2; obtain ⟨c0, c1, c2, c3⟩ := hT; go_simp
        refine (rgone_any t v _ v0 v1).mono ?_
        rintro e w' ⟨j, hj, rfl, hb⟩
        exact ⟨_, rfl, hb, j, hj, rfl⟩
      obtain ⟨_, _, j2, hj2, hv⟩ := hv
      obtain rfl := hv
      obtain rfl : j2 = j1 := hj2.unique J1.out
      clear hj2
      go_simp
      iterate 2
        refine ph_pure (a' := ?_) rfl rfl ?_ (fun w2 hE hG => pureAt_plain rfl ?_) ?_ ?_
        rotate_left 2
        · clear hG; have hT := (T3.drew.ext hE).f2; obtain ⟨c0, c1, c2, c3⟩ := hT; go_simp; rfl
        · go_simp; rfl
      iterate 1
        refine ph_pure (a' := ?_) rfl rfl ?_ (fun w2 hE hG => pureAt_on (by rfl) ?_) ?_ ?_
        rotate_left 2
        · clear hG; have hT := (T3.drew.ext hE).f2; obtain ⟨c0, c1, c2, c3⟩ := hT; go_simp; rfl
        · go_simp; rfl
      iterate 2
        refine ph_pure (a' := ?_) rfl rfl ?_ (fun w2 hE hG => pureAt_plain rfl ?_) ?_ ?_
        rotate_left 2
        · clear hG; have hT := (T3.drew.ext hE).f2; obtain ⟨c0, c1, c2, c3⟩ := hT; go_simp; rfl
        · go_simp; rfl
      refine ph_end (fun x5 hE hG => ?_)
      have LE := L3.drew.trans (hE.below.mono L3.size)
      clear hE hG
      go_wp2
      go_returns
      exact ⟨rfl, LE⟩

set_option maxRecDepth 100000 in
theorem decayMatchesReference_lifted (os : Os) (started : os.Started) (H : Type) (enc : TypeId × Value → H) :
    ReturnsInHanded {} Try.checked os 3 .any (Rows.decayMatchesReferenceSpec.pre6 enc Try.prog Try.f3 Rows.decayMatchesReferenceRow.domain false) (Rows.decayMatchesReferenceSpec.post enc Try.prog Try.f3 false true false false) := by
  refine returnsInHanded_of_change (C := Try.checked) own started (by kernel_rfl) Try.func3
    (ChangeSpec.witness6 (enc := enc) (C := Try.checked) false ⟨#[], #[.int .u8 0, .int .u32 0, .agg #[.int .i64 0, .int .i64 0]], []⟩ 8 (by kernel_rfl) (by kernel_rfl) (by kernel_rfl) (by kernel_rfl)) ?_
  intro W base args ds gs before hval0 hW hcnd _
  have hval : ∀ (j : Nat) t v, Try.f3.params[j]? = some t → args[j]? = some v → Value.okWide Try.prog W .any base t v := hval0
  have hW' := hW
  obtain ⟨p, q, hA0, hV, rfl, hfz, hnd⟩ := hW
  have hA : DataW.TrodAll enc Try.prog W 0 (fun _ => true) true Try.f3.params.toList args.toList ds p := hA0
  rw [Try.params3] at hA hval
  obtain ⟨v0, vs0, d0, ds0, p0, q0, hargs, rfl, rfl, h0, r0⟩ := trodAll_cons hA
  obtain ⟨v1, vs1, d1, ds1, p1, q1, rfl, rfl, rfl, h1, r1⟩ := trodAll_cons r0
  obtain ⟨v2, vs2, d2, ds2, p2, q2, rfl, rfl, rfl, h2, r2⟩ := trodAll_cons r1
  obtain ⟨rfl, rfl, rfl⟩ := trodAll_nil r2
  obtain rfl : args = #[v0, v1, v2] := by cases args; simp_all
  obtain ⟨rfl, rfl⟩ := trodVars_none hV
  obtain ⟨a0, rfl, rfl, rfl, w0⟩ := open_int Try.underlying5 (hval 0 5 v0 rfl rfl) h0
  have b0 : 0 ≤ a0 ∧ a0 ≤ 255 := by simpa [Lit.wf, IntKind.min, IntKind.max, IntKind.signed, IntKind.bits] using w0
  obtain ⟨a1, rfl, rfl, rfl, w1⟩ := open_int Try.underlying22 (hval 1 22 v1 rfl rfl) h1
  have b1 : 0 ≤ a1 ∧ a1 ≤ 4294967295 := by simpa [Lit.wf, IntKind.min, IntKind.max, IntKind.signed, IntKind.bits] using w1
  obtain ⟨ns2, rfl, ln2, hw2⟩ := open_intarr (k := .i64) Try.underlying23 Try.underlying3 (by kernel_rfl) (by kernel_rfl) (hval 2 23 v2 rfl rfl) h2
  obtain ⟨a2x, a2y, rfl⟩ := list2 ln2
  have ba2x : -9223372036854775808 ≤ a2x ∧ a2x ≤ 9223372036854775807 := by simpa [Lit.wf, IntKind.min, IntKind.max, IntKind.signed, IntKind.bits] using hw2 a2x (by simp)
  have ba2y : -9223372036854775808 ≤ a2y ∧ a2y ≤ 9223372036854775807 := by simpa [Lit.wf, IntKind.min, IntKind.max, IntKind.signed, IntKind.bits] using hw2 a2y (by simp)
  clear hA0 hval0
  refine (matches_walk a0 a1 a2x a2y W b0.1 b0.2 b1.1 b1.2 ba2x.1 ba2x.2 ba2y.1 ba2y.2).mono fun e W' ⟨he, hg⟩ => ?_
  subst he
  exact ⟨_, rfl, law_post laidOut (by kernel_rfl) rfl hW' (fun _ _ _ => (trodAll_cons_mk (shut_bool Try.underlying4 _) trodAll_mk0)) (fun _ => ⟨rfl, rfl⟩) hg⟩

theorem decayMatchesReference_over : Rows.decayMatchesReferenceRow.holds Try.pinned (OpenSpec.ofChange Rows.decayMatchesReferenceSpec) :=
  OpenClaim.holds_of_wide 3 Try.f3 rfl rfl rfl rfl rfl rfl rfl ⟨rfl, rfl, rfl, rfl, rfl⟩ rfl rfl rfl rfl rfl (by kernel_rfl) Try.func3 (by kernel_rfl)
    (of_decide_eq_true (by kernel_rfl)) (by unfold Func.isWrapper; first | (rw [if_pos (by decide +kernel)]; kernel_rfl) | (rw [if_neg (by decide +kernel)]; exact ⟨rfl, rfl⟩))
    (fun os started H enc _ => decayMatchesReference_lifted os started H enc)
theorem decayMatchesReference_proved : Rows.DecayMatchesReferenceSaid := decayMatchesReference_over
end Go.Proofs.Ytidfmmgakifkoaa
