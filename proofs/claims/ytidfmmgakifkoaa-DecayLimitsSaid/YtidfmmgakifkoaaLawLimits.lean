/-
  DecayLimits: for every number and two further numbers the law returns true and its arguments read as before. No condition.
-/
import Derived.Test.YtidfmmgakifkoaaDecS
import Derived.Test.YtidfmmgakifkoaaFrame
import Derived.Laws.MakeOwn
namespace Go.Proofs.Ytidfmmgakifkoaa
open Go.ChangeShapes Go.WideShapes Go.ChangeAt Go.RowKit
set_option linter.unusedVariables false
set_option linter.unusedSimpArgs false

theorem run_make_rowN {P : Program} (t e : TypeId) (i : TypeInfo) (z : Value) (ht : P.underlying t = some (.slice e)) (hi : P.info? e = some i) (hz : i.zero = some z)
    (kl kc : IntKind) (n c : Nat) (hnc : n ≤ c) (hbytes : i.bytes * c ≤ 281474976710656) (h63 : c ≤ 9223372036854775807) (w : World) :
    (Instr.makeSlice t (.int kl (n : Int)) (.int kc (c : Int))).run P w = .ok (.slice (some ⟨w.heap.size, 0, none⟩) n c) (w.alloc (.cells (madeCells z.cells (c * i.size)) e)) := by
  have hb : (i.bytes : Int) * (c : Int) ≤ 281474976710656 := by
    have h : ((i.bytes * c : Nat) : Int) ≤ 281474976710656 := by omega
    rwa [Int.natCast_mul] at h
  have hr := run_make (P := P) w t e i z ht hi hz kl kc n c (by omega) (by omega) hb (by omega)
  simp only [Int.toNat_natCast] at hr
  exact hr
theorem tal_info : (Try.prog.info? 26).map (fun i => (i.zero, i.size, i.bytes)) = some (some (.agg #[.int .i64 0, .int .i64 0]), 2, 16) := by kernel_rfl
theorem many_tot (k : Nat) (v : Int) (h : 0 ≤ v) : tot ((List.replicate k ((0 : Int), v)).map fun p => hv p.2 (1 - p.1).toNat) = min (k * (v / 2)) 1073741824 := by
  have h1 : hv v (1 - 0 : Int).toNat = v / 2 := by rw [show (1 - 0 : Int).toNat = 0 + 1 from rfl, hv_succ, hv_zero]
  rw [List.map_replicate, tot_eq _ (fun x hx => by rw [List.eq_of_mem_replicate hx, h1]; omega)]
  simp only [h1]
  congr 1
  induction k with
  | zero => simp
  | succ k ih => rw [List.replicate_succ, List.sum_cons, ih, Int.natCast_add, Int.add_mul]; omega
theorem half_bound (k : Nat) (v : Int) (h0 : 0 ≤ v) (h1 : v ≤ 1073741824) (hk : k ≤ 1002) : 0 ≤ (k : Int) * (v / 2) ∧ (k : Int) * (v / 2) ≤ 537944653824 := by
  have h2 : 0 ≤ v / 2 ∧ v / 2 ≤ 536870912 := by omega
  have h3 := Int.mul_le_mul (show (k : Int) ≤ 1002 by omega) h2.2 h2.1 (by omega)
  exact ⟨Int.mul_nonneg (by omega) h2.1, by omega⟩
theorem pair_store (cs : Array Value) (k N : Nat) (v : Int) (hcs : cs.size = N * 2) (hk : k < N) (h : ∀ j, j < k → cs[j * 2]? = some (.int .i64 0) ∧ cs[j * 2 + 1]? = some (.int .i64 v)) :
    ∀ j, j < k + 1 → ((cs.setIfInBounds (k * 2) (.int .i64 0)).setIfInBounds (k * 2 + 1) (.int .i64 v))[j * 2]? = some (.int .i64 0) ∧ ((cs.setIfInBounds (k * 2) (.int .i64 0)).setIfInBounds (k * 2 + 1) (.int .i64 v))[j * 2 + 1]? = some (.int .i64 v) := by
  intro j hj
  simp only [Array.getElem?_setIfInBounds, Array.size_setIfInBounds]
  by_cases e : j = k
  · subst e
    rw [if_neg (by omega), if_pos rfl, if_pos (by omega), if_pos rfl, if_pos (by omega)]
    exact ⟨rfl, rfl⟩
  · rw [if_neg (by omega), if_neg (by omega), if_neg (by omega), if_neg (by omega)]
    exact h j (by omega)
theorem many_rd (w : World) (g : Nat) (cs : Array Value) (k : Nat) (v : Int) (hcs : cs.size = k * 2) (h : ∀ j, j < k → cs[j * 2]? = some (.int .i64 0) ∧ cs[j * 2 + 1]? = some (.int .i64 v)) (hB : Blk w g 26 cs) :
    Rd w 26 2 (some ⟨g, 0, none⟩) k (tcells (List.replicate k ((0 : Int), v))) := by
  refine ⟨by rw [tcells_len, List.length_replicate], fun _ => ⟨_, rfl, hB.lt, .inr ⟨cs, (0, 0), hB⟩, fun j u hu => ?_⟩⟩
  have hj : j < (tcells (List.replicate k ((0 : Int), v))).length := by
    rcases Nat.lt_or_ge j (tcells (List.replicate k ((0 : Int), v))).length with h | h
    · exact h
    · rw [List.getElem?_eq_none h] at hu; cases hu
  rw [tcells_len, List.length_replicate] at hj
  have hq : j / 2 < (List.replicate k ((0 : Int), v)).length := by rw [List.length_replicate]; omega
  have ht := tcells_at (List.replicate k ((0 : Int), v)) (j / 2) hq
  rw [List.getElem_replicate] at ht
  have ha := h (j / 2) (by omega)
  have hz : (⟨g, 0, none⟩ : Addr).add j = ⟨g, j, none⟩ := by simp [Addr.add]; exact fun h => h.symm
  rw [hz, hB.cell]
  rcases Nat.mod_two_eq_zero_or_one j with hm | hm
  · have e : j / 2 * 2 = j := by omega
    rw [e] at ht ha
    rw [ha.1, ← hu, ht.1]
  · have e : j / 2 * 2 + 1 = j := by omega
    rw [e] at ht ha
    rw [ha.2, ← hu, ht.2]
set_option maxHeartbeats 1000000 in
set_option maxRecDepth 100000 in
theorem limits_walk (n x y : Int) (w : World) (hn0 : 0 ≤ n) (hn1 : n ≤ 4294967295) (hx0 : 0 ≤ x) (hx1 : x ≤ 65535) (hy0 : 0 ≤ y) (hy1 : y ≤ 65535) :
    Calls Try.prog 9 #[.int .u32 n, .agg #[.int .u16 x, .int .u16 y]] w fun e w' => e = .returned (.bool true) ∧ Below w.heap.size w w' := by
  go_enter Try.func9, Try.ntmps9
  go_wp2_with fail
  refine (sanity_any _).mono ?_
  rintro e w1 ⟨rfl, hb⟩
  have W1 := (Blk.new w 50 #[.int .u16 x, .int .u16 y]).below hb (Nat.le_refl _)
  have L1 : Below w.heap.size w w1 := Below.trans (by go_grown) (hb.mono (by (try simp); (try omega)))
  have hz1 := L1.size
  clear hb 
  obtain ⟨wc0, wc1, wc2, wc3⟩ := W1.f2
  go_wp2_with fail
  refine (made_any 0 n _ (by omega) (by omega) hn0 hn1).mono ?_
  rintro e w2 ⟨rfl, hb⟩
  have W2 := (W1).below hb (Nat.le_refl _)
  have L2 : Below w.heap.size w w2 := Below.trans (by go_grown) (hb.mono (by (try simp); (try omega)))
  have hz2 := L2.size
  clear hb W1 wc0 wc1 wc2 wc3 L1 hz1
  obtain ⟨wc0, wc1, wc2, wc3⟩ := W2.f2
  obtain ⟨q0, q1⟩ : 0 ≤ n % 1073741825 ∧ n % 1073741825 ≤ 1073741824 := by omega
  generalize n % 1073741825 = v at *
  clear hn0 hn1
  rw [show (0 : Int) % 41 = 0 from rfl]
  obtain ⟨r, hr⟩ : ∃ r, tot [hv v (0 - 0 : Int).toNat, 1073741824 - x] = r := ⟨_, rfl⟩
  have hr' : r = min (v + 1073741824 - x) 1073741824 := by
    rw [← hr, tot_eq _ (by simp [hv_zero]; omega)]; simp only [List.sum_cons, List.sum_nil, Int.sub_self, Int.toNat_zero, hv_zero]; omega
  have HR := Lib.hid hr; clear hr
  go_wp2_with fail
  refine (add_lit 0 v 0 (1073741824 - x) r _ HR.out (by omega)).mono ?_
  rintro e w3 ⟨rfl, hb⟩
  have W3 := (W2.alloc _).below hb (Nat.le_refl _)
  have T3 := (Blk.new w2 26 #[.int .i64 0, .int .i64 v]).below hb (Nat.le_refl _)
  have L3 : Below w.heap.size w w3 := Below.trans (by go_grown) (hb.mono (by (try simp); (try omega)))
  have hz3 := L3.size
  clear hb W2 wc0 wc1 wc2 wc3 L2 hz2
  obtain ⟨wc0, wc1, wc2, wc3⟩ := W3.f2
  obtain ⟨tc0, tc1, tc2, tc3⟩ := T3.f2
  obtain ⟨N, hN⟩ : ∃ N : Nat, 999 + y % 4 = (N : Int) := ⟨(999 + y % 4).toNat, by omega⟩
  have hN1 : 999 ≤ N ∧ N ≤ 1002 := by omega
  obtain ⟨i0, hi0, hz0, hz1, hz2⟩ := info_parts tal_info
  have hmk : ∀ W : World, (Instr.makeSlice 44 (.int .i64 (N : Int)) (.int .i64 (N : Int))).run Try.prog W = .ok (.slice (some ⟨W.heap.size, 0, none⟩) N N) (W.alloc (.cells (madeCells #[.int .i64 0, .int .i64 0] (N * 2)) 26)) := fun W => by
    have h := run_make_rowN (P := Try.prog) 44 26 i0 _ Try.underlying44 hi0 hz0 .i64 .i64 N N (Nat.le_refl _) (by rw [hz2]; omega) (by omega) W
    rw [hz1] at h
    exact h
  go_wp2_with fail
  generalize hg : w3.heap.size + 1 = g at *
  have hg4 : (w3.alloc (Obj.cells #[.int .i64 0, .int .i64 (min (v + 1073741824 - x) 1073741824)] 26)).heap.size = g := by simp [hg]
  go_loopw [10] (fun v' wr => ∃ (k : Nat) (cs : Array Value), k ≤ N ∧ v' = .int .i64 k ∧ cs.size = N * 2 ∧ (∀ j, j < k → cs[j * 2]? = some (.int .i64 0) ∧ cs[j * 2 + 1]? = some (.int .i64 v)) ∧ Blk wr g 26 cs ∧ Below g (w3.alloc (Obj.cells #[.int .i64 0, .int .i64 (min (v + 1073741824 - x) 1073741824)] 26)) wr) (fun v' _ => 1010 - (intOf v').toNat)
  case atStart =>
    exact ⟨0, _, by omega, rfl, size_madeCells _ _, by omega, by
      have h := Blk.new (w3.alloc (Obj.cells #[.int .i64 0, .int .i64 (min (v + 1073741824 - x) 1073741824)] 26)) 26 (madeCells #[.int .i64 0, .int .i64 0] (N * 2))
      rw [hg4] at h
      exact h, (Below.refl g (w3.alloc (Obj.cells #[.int .i64 0, .int .i64 (min (v + 1073741824 - x) 1073741824)] 26))).alloc (by omega) _⟩
  case round =>
    obtain ⟨k, cs, hk, rfl, hcs, hall, hB, hbw⟩ := hrel
    have T4 := (T3.alloc (Obj.cells #[.int .i64 0, .int .i64 (min (v + 1073741824 - x) 1073741824)] 26)).below hbw (by simp; omega)
    by_cases hlt : k < N
    · have hlt' : (k : Int) < N := by omega
      obtain ⟨u0, hu0⟩ : ∃ u, cs[k * 2]? = some u := ⟨_, Array.getElem?_eq_getElem (by omega)⟩
      obtain ⟨u1, hu1⟩ : ∃ u, cs[k * 2 + 1]? = some u := ⟨_, Array.getElem?_eq_getElem (by omega)⟩
      have c0 := (hB.cell (k * 2)).trans hu0
      have c1 := (hB.cell (k * 2 + 1)).trans hu1
      have fr := hB.frozen
      obtain ⟨tc0, tc1, tc2, tc3⟩ := T4.f2
      have HA := Lib.hid hall
      clear hall
      go_wp2
      refine ⟨⟨k + 1, _, by omega, by go_num, ?_, ?_, (hB.set_ (k * 2) (.int .i64 0)).set_ (k * 2 + 1) (.int .i64 v), (hbw.setCell (Nat.le_refl _) _).setCell (Nat.le_refl _) _⟩, by simp only [intOf]; omega⟩
      · simp only [Array.size_setIfInBounds]; exact hcs
      · exact pair_store cs k N v hcs hlt HA.out
    · obtain rfl : k = N := by omega
      have S4 := (Blk.new w3 26 #[.int .i64 0, .int .i64 (min (v + 1073741824 - x) 1073741824)]).below hbw (by omega)
      have W4 := (W3.alloc (Obj.cells #[.int .i64 0, .int .i64 (min (v + 1073741824 - x) 1073741824)] 26)).below hbw (by omega)
      have hr4 : Rd wr 26 2 (some ⟨g, 0, none⟩) k (tcells (List.replicate k ((0 : Int), v))) := many_rd wr g cs k v hcs hall hB
      have L4 : Below w.heap.size w wr := Below.trans (by go_grown) (hbw.mono (by omega))
      have hz4 := L4.size
      obtain ⟨tc0, tc1, tc2, tc3⟩ := T4.f2
      clear T3 W3 hbw hB hall hcs
      by_cases hbig : 1000 < k
      · go_wp2_with fail
        refine (sum_big _ k k 1 _ hbig (by omega)).mono ?_
        rintro e w5 ⟨rfl, rfl⟩
        go_wp2_with fail
        refine (sum_big _ k k 10001 _ hbig (by omega)).mono ?_
        rintro e w5 ⟨rfl, rfl⟩
        go_wp2_with fail
        refine (at_no 0 v 10001 _ (by omega)).mono ?_
        rintro e w6 ⟨rfl, hb⟩
        have T6 := T4.below hb (Nat.le_refl _)
        have S6 := S4.below hb (Nat.le_refl _)
        have W6 := W4.below hb (Nat.le_refl _)
        have L6 := Below.trans L4 (hb.mono L4.size)
        obtain ⟨tc0, tc1, tc2, tc3⟩ := T6.f2
        clear hb
        go_wp2_with fail
        refine (at_lit 0 v 10000 0 _ (hv_big v _ q0 q1 (by omega)) (by omega)).mono ?_
        rintro e w7 ⟨rfl, hb⟩
        have T7 := T6.below hb (Nat.le_refl _)
        have S7 := S6.below hb (Nat.le_refl _)
        have W7 := W6.below hb (Nat.le_refl _)
        have L7 := Below.trans L6 (hb.mono L6.size)
        obtain ⟨tc0, tc1, tc2, tc3⟩ := T7.f2
        obtain ⟨sc0, sc1, sc2, sc3⟩ := S7.f2
        obtain ⟨wc0, wc1, wc2, wc3⟩ := W7.f2
        clear hb T6 S6 W6 L6 T4 S4 W4 L4
        have hkv := half_bound k v q0 q1 (by omega)
        go_wp2
        all_goals go_ret
        all_goals first | exact ⟨rfl, L7⟩
      · go_wp2_with fail
        refine (sum_lit _ _ k 26 (List.replicate k (0, v)) 1 (min (k * (v / 2)) 1073741824) _ hr4 (many_tot k v q0) (by omega) (fun p hp => by rw [List.eq_of_mem_replicate hp]; simp only; omega)).mono ?_
        rintro e w5 ⟨rfl, hb⟩
        have T5 := T4.below hb (Nat.le_refl _)
        have S5 := S4.below hb (Nat.le_refl _)
        have W5 := W4.below hb (Nat.le_refl _)
        have L5 := Below.trans L4 (hb.mono L4.size)
        obtain ⟨tc0, tc1, tc2, tc3⟩ := T5.f2
        clear hb T4 S4 W4 L4
        go_wp2_with fail
        refine (sum_late _ k k 10001 _ (by omega) (by omega)).mono ?_
        rintro e w5' ⟨rfl, rfl⟩
        go_wp2_with fail
        refine (at_no 0 v 10001 _ (by omega)).mono ?_
        rintro e w6 ⟨rfl, hb⟩
        have T6 := T5.below hb (Nat.le_refl _)
        have S6 := S5.below hb (Nat.le_refl _)
        have W6 := W5.below hb (Nat.le_refl _)
        have L6 := Below.trans L5 (hb.mono L5.size)
        obtain ⟨tc0, tc1, tc2, tc3⟩ := T6.f2
        clear hb
        go_wp2_with fail
        refine (at_lit 0 v 10000 0 _ (hv_big v _ q0 q1 (by omega)) (by omega)).mono ?_
        rintro e w7 ⟨rfl, hb⟩
        have T7 := T6.below hb (Nat.le_refl _)
        have S7 := S6.below hb (Nat.le_refl _)
        have W7 := W6.below hb (Nat.le_refl _)
        have L7 := Below.trans L6 (hb.mono L6.size)
        obtain ⟨tc0, tc1, tc2, tc3⟩ := T7.f2
        obtain ⟨sc0, sc1, sc2, sc3⟩ := S7.f2
        obtain ⟨wc0, wc1, wc2, wc3⟩ := W7.f2
        clear hb T6 S6 W6 L6 T5 S5 W5 L5
        have hkv := half_bound k v q0 q1 (by omega)
        go_wp2
        all_goals go_ret
        all_goals first | exact ⟨rfl, L7⟩

set_option maxRecDepth 100000 in
theorem decayLimits_lifted (os : Os) (started : os.Started) (H : Type) (enc : TypeId × Value → H) :
    ReturnsInHanded {} Try.checked os 9 .any (Rows.decayLimitsSpec.pre6 enc Try.prog Try.f9 Rows.decayLimitsRow.domain false) (Rows.decayLimitsSpec.post enc Try.prog Try.f9 false true false false) := by
  refine returnsInHanded_of_change (C := Try.checked) own started (by kernel_rfl) Try.func9
    (ChangeSpec.witness6 (enc := enc) (C := Try.checked) false ⟨#[], #[.int .u32 0, .agg #[.int .u16 0, .int .u16 0]], []⟩ 8 (by kernel_rfl) (by kernel_rfl) (by kernel_rfl) (by kernel_rfl)) ?_
  intro W base args ds gs before hval0 hW hcnd _
  have hval : ∀ (j : Nat) t v, Try.f9.params[j]? = some t → args[j]? = some v → Value.okWide Try.prog W .any base t v := hval0
  have hW' := hW
  obtain ⟨p, q, hA0, hV, rfl, hfz, hnd⟩ := hW
  have hA : DataW.TrodAll enc Try.prog W 0 (fun _ => true) true Try.f9.params.toList args.toList ds p := hA0
  rw [Try.params9] at hA hval
  obtain ⟨v0, vs0, d0, ds0, p0, q0, hargs, rfl, rfl, h0, r0⟩ := trodAll_cons hA
  obtain ⟨v1, vs1, d1, ds1, p1, q1, rfl, rfl, rfl, h1, r1⟩ := trodAll_cons r0
  obtain ⟨rfl, rfl, rfl⟩ := trodAll_nil r1
  obtain rfl : args = #[v0, v1] := by cases args; simp_all
  obtain ⟨rfl, rfl⟩ := trodVars_none hV
  obtain ⟨a0, rfl, rfl, rfl, w0⟩ := open_int Try.underlying22 (hval 0 22 v0 rfl rfl) h0
  have b0 : 0 ≤ a0 ∧ a0 ≤ 4294967295 := by simpa [Lit.wf, IntKind.min, IntKind.max, IntKind.signed, IntKind.bits] using w0
  obtain ⟨ns1, rfl, ln1, hw1⟩ := open_intarr (k := .u16) Try.underlying50 Try.underlying49 (by kernel_rfl) (by kernel_rfl) (hval 1 50 v1 rfl rfl) h1
  obtain ⟨a1x, a1y, rfl⟩ := list2 ln1
  have ba1x : 0 ≤ a1x ∧ a1x ≤ 65535 := by simpa [Lit.wf, IntKind.min, IntKind.max, IntKind.signed, IntKind.bits] using hw1 a1x (by simp)
  have ba1y : 0 ≤ a1y ∧ a1y ≤ 65535 := by simpa [Lit.wf, IntKind.min, IntKind.max, IntKind.signed, IntKind.bits] using hw1 a1y (by simp)
  clear hA0 hval0
  refine (limits_walk a0 a1x a1y W b0.1 b0.2 ba1x.1 ba1x.2 ba1y.1 ba1y.2).mono fun e W' ⟨he, hg⟩ => ?_
  subst he
  exact ⟨_, rfl, law_post laidOut (by kernel_rfl) rfl hW' (fun _ _ _ => (trodAll_cons_mk (shut_bool Try.underlying4 _) trodAll_mk0)) (fun _ => ⟨rfl, rfl⟩) hg⟩

theorem decayLimits_over : Rows.decayLimitsRow.holds Try.pinned (OpenSpec.ofChange Rows.decayLimitsSpec) :=
  OpenClaim.holds_of_wide 9 Try.f9 rfl rfl rfl rfl rfl rfl rfl ⟨rfl, rfl, rfl, rfl, rfl⟩ rfl rfl rfl rfl rfl (by kernel_rfl) Try.func9 (by kernel_rfl)
    (of_decide_eq_true (by kernel_rfl)) (by unfold Func.isWrapper; first | (rw [if_pos (by decide +kernel)]; kernel_rfl) | (rw [if_neg (by decide +kernel)]; exact ⟨rfl, rfl⟩))
    (fun os started H enc _ => decayLimits_lifted os started H enc)
theorem decayLimits_proved : Rows.DecayLimitsSaid := decayLimits_over
end Go.Proofs.Ytidfmmgakifkoaa
