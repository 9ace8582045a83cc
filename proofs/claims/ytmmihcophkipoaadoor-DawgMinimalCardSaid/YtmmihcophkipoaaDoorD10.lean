import Derived.Test.YtmmihcophkipoaaDoorD9
import Derived.Laws.BitsAllLaws
import Derived.Laws.CopyOwn
namespace Go.Proofs.YtmmihcophkipoaaDoor
open Go.ChangeShapes Go.WideShapes Go.ChangeAt Go.RowKit
set_option linter.unusedVariables false
set_option linter.unusedSimpArgs false
theorem mul64_any (n : Nat) (hn : n ≤ 1000000) (w : World) :
    Calls Tryd.prog 104 #[.int .u64 1, .int .u64 n] w fun e w' => e = .returned (.tuple #[.int .u64 0, .int .u64 n]) ∧ w = w' := by
  have hn' : (n : Int) ≤ 1000000 := by omega
  have hn0 : (0 : Int) ≤ n := by omega
  have hB : bits .and .u64 1 4294967295 = 1 := by decide
  have h0 : bits .and .u64 0 4294967295 = 0 := by decide
  have hA : bits .and .u64 (n : Int) 4294967295 = n := by
    rw [show (4294967295 : Int) = ((4294967295 : Nat) : Int) from rfl, u64_and_nat n 4294967295 (by omega) (by omega)]
    congr 1
    rw [show (4294967295 : Nat) = 2 ^ 32 - 1 from rfl, Nat.and_two_pow_sub_one_eq_mod]
    omega
  have hC : (n : Int) / 4294967296 = 0 := by omega
  have hW : IntKind.u64.wrap (n : Int) = n := by unfold IntKind.wrap; simp [IntKind.signed, IntKind.bits]; omega
  have hW0 : IntKind.u64.wrap 0 = 0 := by decide
  go_enter Tryd.func104, Tryd.ntmps104
  go_wp2
  go_ret2
  exact ⟨rfl, rfl⟩
theorem mul_any (n : Nat) (hn : n ≤ 1000000) (w : World) :
    Calls Tryd.prog 99 #[.int .u64 1, .int .u64 n] w fun e w' => e = .returned (.tuple #[.int .u64 0, .int .u64 n]) ∧ w = w' := by
  have hn' : (n : Int) ≤ 1000000 := by omega
  have hn0 : (0 : Int) ≤ n := by omega
  go_enter Tryd.func99, Tryd.ntmps99
  go_wp2_with fail
  refine (mul64_any n hn _).mono ?_
  rintro e w' ⟨rfl, rfl⟩
  go_wp2
  go_ret2
  exact ⟨rfl, rfl⟩
theorem run_make_rowN {P : Program} (t e : TypeId) (i : TypeInfo) (z : Value) (ht : P.underlying t = some (.slice e)) (hi : P.info? e = some i) (hz : i.zero = some z)
    (kl kc : IntKind) (n c : Nat) (hnc : n ≤ c) (hbytes : i.bytes * c ≤ 281474976710656) (h63 : c ≤ 9223372036854775807) (w : World) :
    (Instr.makeSlice t (.int kl (n : Int)) (.int kc (c : Int))).run P w = .ok (.slice (some ⟨w.heap.size, 0, none⟩) n c) (w.alloc (.cells (madeCells z.cells (c * i.size)) e)) := by
  have hb : (i.bytes : Int) * (c : Int) ≤ 281474976710656 := by
    have h : ((i.bytes * c : Nat) : Int) ≤ 281474976710656 := by omega
    rwa [Int.natCast_mul] at h
  have hr := run_make (P := P) w t e i z ht hi hz kl kc n c (by omega) (by omega) hb (by omega)
  simp only [Int.toNat_natCast] at hr
  exact hr
theorem int_info : (Tryd.prog.info? 3).map (fun i => (i.zero, i.size, i.bytes)) = some (some (.int .i64 0), 1, 8) := by kernel_rfl
theorem make_ints (n : Nat) (hn : n ≤ 1000000) (w : World) : ∃ cs : List Value, cs.length = n ∧ (Instr.makeSlice 65 (.int .i64 (n : Int)) (.int .i64 (n : Int))).run Tryd.prog w = .ok (.slice (some ⟨w.heap.size, 0, none⟩) n n) (w.alloc (.cells cs.toArray 3)) := by
  obtain ⟨i0, hi0, hz0, hz1, hz2⟩ := info_parts int_info
  have h := run_make_rowN (P := Tryd.prog) 65 3 i0 _ Tryd.underlying65 hi0 hz0 .i64 .i64 n n (Nat.le_refl _) (by rw [hz2]; omega) (by omega) w
  rw [hz1] at h
  refine ⟨(madeCells (Value.int .i64 0).cells (n * 1)).toList, by simp [size_madeCells], by simpa using h⟩
theorem halt_copy {P : Program} {w : World} {ops : Array Oper} {rest : List Oper} {o : Oper} {a : Act} {Q : Exit → Act → World → Prop} (d s : Operand) (dT sT : TypeId)
    (ho : o.op = .call { callee := .builtin .copy, args := #[d, s], argTypes := #[dT, sT] }) (h : Halted (wpList P ops Q (o :: rest) a w)) : wpList P ops Q (o :: rest) a w := h
theorem int_size : (Tryd.prog.info? 3).map (·.size) = some 1 := by kernel_rfl
def RepRel (w w0 : World) (n p : Nat) (m : Value) (wr : World) : Prop := ∃ (k : Nat) (L : List Value), 1 ≤ k ∧ k ≤ n ∧ m = .int .i64 k ∧ L.length = n ∧ (∀ j, j < k → L[j]? = some (.int .i64 (-1))) ∧ Blk wr p 3 L.toArray ∧ Below p w0 wr
set_option maxHeartbeats 1000000 in
set_option maxRecDepth 100000 in
theorem repeat_any (g n : Nat) (h1 : 1 ≤ n) (hn : n ≤ 1000000) (w : World) (hG : Blk w g 3 #[.int .i64 (-1)]) :
    Calls Tryd.prog 88 #[.slice (some ⟨g, 0, none⟩) 1 1, .int .i64 n] w fun e w' => ∃ p, e = .returned (.slice (some ⟨p, 0, none⟩) n n) ∧ w.heap.size ≤ p ∧ Blk w' p 3 (Array.replicate n (.int .i64 (-1))) ∧ Ext w w' := by
  have hn' : (n : Int) ≤ 1000000 := by omega
  have hn0 : (0 : Int) ≤ n := by omega
  have hn1 : ¬ (n : Int) < 0 := by omega
  have hW : IntKind.u64.wrap (n : Int) = n := by unfold IntKind.wrap; simp [IntKind.signed, IntKind.bits]; omega
  have hW2 : IntKind.i64.wrap (n : Int) = n := by unfold IntKind.wrap; simp [IntKind.signed, IntKind.bits]; omega
  obtain ⟨cs, hcs, hmk⟩ := make_ints n hn w
  go_enter Tryd.func88, Tryd.ntmps88
  go_wp2_with fail
  refine (mul_any n hn _).mono ?_
  rintro e w' ⟨rfl, rfl⟩
  go_wp2_with (with_reducible refine halt_copy _ _ _ _ rfl ?_)
  apply go_on
  have HCS := Lib.hid hcs
  clear hcs
  refine wpList_copy_splice rfl _ _ 65 65 rfl 3 Tryd.underlying65 int_size _ _ _ _ _ _ rfl rfl w.heap.size 0 cs 3 (Blk.new w 3 cs.toArray) [.int .i64 (-1)] (by show 1 = min 1 n; omega)
    (fun _ => ⟨rfl, _, rfl, fun j v hv => by
      have hj : j = 0 := by have := (List.getElem?_eq_some_iff.1 hv).1; simpa using this
      subst hj
      have hc := (hG.alloc (Obj.cells cs.toArray 3)).cell 0
      simp at hv hc
      subst hv
      simpa [Addr.add] using hc⟩) (by have := HCS.out; simp; omega) (by simp [Value.oneCell']) w.heap.size w ((Below.refl _ _).alloc (Nat.le_refl _) _) (Nat.le_refl _) ?_
  intro w2 hg2 hb2
  have hg3 := hg2.out
  clear hg2
  have hL : ∃ L : List Value, L.length = n ∧ L[0]? = some (.int .i64 (-1)) ∧ Blk w2 w.heap.size 3 L.toArray := ⟨splice cs 0 [.int .i64 (-1)], by rw [length_splice _ _ _ (by have := HCS.out; simp; omega)]; exact HCS.out, by simp [splice], hg3⟩
  obtain ⟨L, hl1, hl2, hl3⟩ := hL
  have HL1 := Lib.hid hl1; have HL2 := Lib.hid hl2
  clear hg3 hl1 hl2 hmk
  go_wp2_with fail
  go_loopw [8] (fun m wr => RepRel w w n w.heap.size m wr) (fun m _ => 1000001 - (intOf m).toNat)
  case atStart => exact ⟨1, L, by omega, h1, rfl, HL1.out, fun j hj => by rw [show j = 0 by omega]; exact HL2.out, hl3, hb2⟩
  case round =>
    clear hl3 hb2 HL1 HL2
    clear L
    obtain ⟨k, L, hk1, hk, rfl, hl1, hl2, hl3, hb2⟩ := hrel
    have HL1 := Lib.hid hl1; have HL2 := Lib.hid hl2
    clear hl1 hl2
    by_cases hlt : k < n
    · have hlt' : (k : Int) < n := by omega
      go_wp2_with fail
      have hc0 : ∀ W : World, Ext wr.drew W → True := fun W hE => by
        exact trivial
      have HC := Lib.hid hc0; clear hc0
      refine wp_region_list2 (by kernel_rfl) 7 Ext [] (by kernel_rfl) (fun _ _ d _ _ h => by cases d <;> exact h) rfl Ext.refl (fun _ _ _ => Ext.trans) trivial ?_
      simp only [List.take_succ_cons, List.take_zero, List.take_nil, List.drop_succ_cons, List.drop_zero, List.drop_nil]
      iterate 7
        refine ph_pure (a' := ?_) rfl rfl ?_ (fun w9 hE hG => pureAt_plain rfl ?_) ?_ ?_
        rotate_left 2
        · clear hG; (go_simp; try go_bits); rfl
        · go_simp; rfl
      refine ph_end (fun w9 hE hG => ?_)
      have hXr9 : Below w.heap.size wr w9 := by
        have h1 : Below wr.heap.size wr w9 := Ext.drew.trans hE
        exact h1.mono hb2.size
      have hXr : Ext wr w9 := Ext.drew.trans hE
      clear hE hG HC
      go_wp2_with (with_reducible refine halt_copy _ _ _ _ rfl ?_)
      apply go_on
      have hb3 := hb2.trans hXr9
      have hl9 : Blk w9 w.heap.size 3 L.toArray := hl3.ext hXr
      refine wpList_copy_splice rfl _ _ 65 65 rfl 3 Tryd.underlying65 int_size _ _ _ _ _ _ rfl rfl w.heap.size k L 3 hl9 (List.replicate (min k (n - k)) (.int .i64 (-1))) (by simp)
        (fun _ => ⟨rfl, _, rfl, fun j v hv => by
          have hj : j < min k (n - k) := by have := (List.getElem?_eq_some_iff.1 hv).1; simpa using this
          rw [List.getElem?_replicate, if_pos hj] at hv
          rw [← hv]
          have h2 := HL2.out j (by omega)
          have hz : (⟨w.heap.size, 0, none⟩ : Addr).add j = ⟨w.heap.size, j, none⟩ := by simp [Addr.add]; exact fun h => h.symm
          rw [hz, hl9.cell j]
          simpa using h2⟩) (by have := HL1.out; simp; omega) (by intro v hv; rw [List.eq_of_mem_replicate hv]; rfl) w.heap.size w hb3 (Nat.le_refl _) ?_
      intro w3 hg4 hb4
      have hg5 := hg4.out
      have hL : ∃ L' : List Value, L'.length = n ∧ (∀ j, j < k + min k (n - k) → L'[j]? = some (.int .i64 (-1))) ∧ Blk w3 w.heap.size 3 L'.toArray := by
        refine ⟨_, ?_, fun j hj => ?_, hg5⟩
        · rw [length_splice _ _ _ (by have := HL1.out; simp; omega)]; exact HL1.out
        · unfold splice
          by_cases hjk : j < k
          · rw [List.getElem?_append_left (by have := HL1.out; simp; omega), List.getElem?_take, if_pos hjk]; exact HL2.out j hjk
          · rw [List.getElem?_append_right (by have := HL1.out; simp; omega), List.getElem?_append_left (by have := HL1.out; simp; omega), List.getElem?_replicate, if_pos (by have := HL1.out; simp; omega)]
      obtain ⟨L2, hq1, hq2, hq3⟩ := hL
      have HQ := Lib.hid (And.intro hq1 hq2)
      clear hg4 hg5 hq1 hq2 hl9 hl3 hb2 hb3 hXr hXr9
      have hmin : k + min k (n - k) ≤ n := by omega
      have hmin2 : 1 ≤ min k (n - k) := by omega
      simp only [List.length_replicate]
      generalize min k (n - k) = m at *
      have hm' : (m : Int) ≤ 1000000 := by omega
      go_wp2
      exact ⟨⟨k + m, L2, by omega, by omega, by go_num, HQ.out.1, HQ.out.2, hq3, hb4⟩, by simp only [intOf]; omega⟩
    · have hkn : k = n := by omega
      subst hkn
      have hLr : L.toArray = Array.replicate k (.int .i64 (-1)) := by
        apply Array.ext'
        simp only [Array.toList_replicate]
        apply List.ext_getElem?
        intro j
        by_cases hj : j < k
        · rw [HL2.out j hj, List.getElem?_replicate, if_pos hj]
        · rw [List.getElem?_eq_none (by have := HL1.out; omega), List.getElem?_eq_none (by simp; omega)]
      rw [hLr] at hl3
      go_wp2
      go_ret
      exact ⟨_, rfl, Nat.le_refl _, hl3, hb2⟩
end Go.Proofs.YtmmihcophkipoaaDoor
