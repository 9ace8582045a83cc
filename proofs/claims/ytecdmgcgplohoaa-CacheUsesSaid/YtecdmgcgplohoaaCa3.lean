import Derived.Test.YtecdmgcgplohoaaCa2
namespace Go.Proofs.Ytecdmgcgplohoaa
open Go.ChangeShapes Go.WideShapes Go.ChangeAt Go.RowKit
set_option linter.unusedVariables false
set_option linter.unusedSimpArgs false
attribute [local go_sem] ba_beq

@[local go_sem] theorem ba_bne (a b : BA) : (a.toList != b.toList) = decide (a ≠ b) := by
  unfold bne
  rw [ba_beq]; simp
/-- the entries without that of a key -/
def wo (l : List En) (key : BA) : List En := l.filter fun e => decide (e.1 ≠ key)
theorem wo_snoc (l : List En) (k : Nat) (h : k < l.length) (key : BA) : wo (l.take (k + 1)) key = wo (l.take k) key ++ (if l[k].1 ≠ key then [l[k]] else []) := by
  rw [take_snoc l k h]
  unfold wo
  rw [List.filter_append]
  congr 1
  by_cases h : l[k].1 = key <;> simp [h]
theorem wo_len (l : List En) (key : BA) (k : Nat) : (wo (l.take k) key).length ≤ k := by
  unfold wo
  exact Nat.le_trans (List.length_filter_le _ _) (by rw [List.length_take]; omega)
set_option maxHeartbeats 1000000 in
set_option maxRecDepth 100000 in
theorem without_any (A : Option Addr) (n c : Nat) (l : List En) (key : BA) (w : World) (hA : Rd w 28 2 A n (ecells l)) (hn : n ≤ 64) :
    Calls Try.prog 27 #[.slice A n c, .string key] w fun e w' => ∃ v, e = .returned v ∧ Sl 28 2 (wo l key).length (ecells (wo l key)) v w' ∧ Below w.heap.size w w' := by
  have hlen : l.length = n := by have := hA.len; rw [ecells_len] at this; omega
  have HN := Lib.hid hlen; clear hlen
  obtain ⟨i0, hi0, hz0, hz1, hz2⟩ := info_parts ent_info
  go_enter Try.func27, Try.ntmps27
  go_wp2_with fail
  go_loopw [5, 6] (fun v i wr => ∃ (k : Nat) (m : List En), k ≤ n ∧ i = .int .i64 k ∧ m = wo (l.take k) key ∧ wr.ownsRow w.heap.size 28 2 v m.length (ecells m) ∧ Below w.heap.size w wr) (fun _ i _ => 100 - (intOf i).toNat)
  case atStart =>
    refine ⟨0, [], by omega, rfl, rfl, ?_, by go_grown⟩
    simpa [ecells] using World.ownsRow_made (base := w.heap.size) (e := 28) (size := 2) w #[] 0 (Nat.le_refl _) (by simp [maxLen]) (by simp)
  case round =>
    obtain ⟨k, m, hk, rfl, hm, hown, hbw⟩ := hrel
    by_cases hlt : k < n
    · have hkl : k < l.length := by rw [HN.out]; exact hlt
      have hlt' : (k : Int) < (n : Int) := by omega
      have hml : m.length ≤ k := by rw [hm]; exact wo_len l key k
      have hnext := wo_snoc l k hkl key
      rw [← hm] at hnext
      have HX := Lib.hid hnext; clear hnext
      obtain ⟨q0, q1⟩ := ecells_at l k hkl
      obtain ⟨ad, h1, _, c0, c1⟩ := (hA.below hbw (Nat.le_refl _)).two hlt q0 q1
      subst h1
      clear q0 q1 hm
      generalize l[k] = pq at *
      obtain ⟨kk, vv⟩ := pq
      simp only at c0 c1 HX
      by_cases he : kk = key
      · have hd : decide (kk ≠ key) = false := by simp [he]
        have hX2 : wo (l.take (k + 1)) key = m := by rw [HX.out]; simp [he]
        have HX2 := Lib.hid hX2; clear hX2
        go_wp2
        refine ⟨⟨k + 1, m, by omega, by go_num, HX2.out.symm, hown, hbw⟩, by simp only [intOf]; omega⟩
      · have hX2 : wo (l.take (k + 1)) key = m ++ [(kk, vv)] := by rw [HX.out]; simp [he]
        have HX2 := Lib.hid hX2; clear hX2
        have hd : decide (kk ≠ key) = true := by simp [he]
        go_wp2_with (at_builtin; apply halt_here)
        apply go_on
        have hO := own_alloc hown (Obj.cells #[.string kk, .string vv] 28)
        refine wpList_app rfl _ _ 45 rfl w.heap.size 28 i0 _ 2 32 Try.underlying45 hi0 hz0 hz1 hz2 rfl (by decide) _ _ _ rfl hO 28 _ 1 _ _ rfl (Rd.newAt wr _ rfl 28 2 1 #[.string kk, .string vv] (0, 0) [.string kk, .string vv] rfl rfl) (by simp [Value.oneCell']) (by simp only [maxLen]; omega) (by omega) (by have := hbw.size; simp; omega) ?_
        intro v' w8 hown2 _ _ hbb
        have hb3 := (hbw.alloc hbw.size _).trans hbb
        clear hbb
        go_wp2
        refine ⟨⟨k + 1, m ++ [(kk, vv)], by omega, by go_num, HX2.out.symm, ?_, hb3⟩, by simp only [intOf]; omega⟩
        rw [List.length_append, ecells_append]
        exact hown2
    · have hfin : m = wo l key := by
        rw [hm, List.take_of_length_le (by rw [HN.out]; omega)]
      subst hfin
      obtain ⟨A', c', rfl, hrd, hc1', hc2'⟩ := own_form hown
      have hpost : Sl 28 2 (wo l key).length (ecells (wo l key)) (.slice A' (wo l key).length c') wr := ⟨A', c', rfl, hrd, hc1', hc2'⟩
      have HP := Lib.hid (And.intro hpost hbw)
      clear hpost hrd hown hbw hm
      go_wp2
      go_ret
      exact ⟨_, rfl, HP.out.1, HP.out.2⟩
/-- the weights of entries together -/
def tw (l : List En) : Int := (l.map wt).sum
theorem tw_snoc (l : List En) (k : Nat) (h : k < l.length) : tw (l.take (k + 1)) = tw (l.take k) + wt l[k] := by
  rw [take_snoc l k h]
  unfold tw
  rw [List.map_append]
  have : ∀ (a b : List Int), (a ++ b).sum = a.sum + b.sum := fun a b => by
    induction a with
    | nil => simp
    | cons x a ih => simp only [List.cons_append, List.sum_cons, ih]; omega
  rw [this]; simp
theorem wt_range (e : En) (h : e.1.size ≤ 1000 ∧ e.2.size ≤ 1000) : 1 ≤ wt e ∧ wt e ≤ 40 := by unfold wt; omega
theorem tw_range (l : List En) (h : Sm l) (k : Nat) : 0 ≤ tw (l.take k) ∧ tw (l.take k) ≤ 40 * k := by
  induction k with
  | zero => simp [tw]
  | succ k ih =>
    by_cases hk : k < l.length
    · have := wt_range l[k] (h.2 _ (List.getElem_mem hk))
      rw [tw_snoc l k hk]; omega
    · rw [List.take_of_length_le (by omega)] at ih ⊢; omega
set_option maxHeartbeats 1000000 in
set_option maxRecDepth 100000 in
theorem size_any (room : Int) (l : List En) (V : Value) (w : World) (hV : Ca w room l V) (hs : Sm l) :
    Calls Try.prog 24 #[V] w fun e w' => e = .returned (.int .i64 (tw l)) ∧ Below w.heap.size w w' := by
  have hV0 := hV
  obtain ⟨A, c, B, d, rfl, hA, hB, hc1, hc2, hd1, hd2⟩ := hV.ex
  clear hV
  have hln := hs.1
  go_enter Try.func24, Try.ntmps24
  go_wp2_with fail
  have hX := Blk.new w 26 #[.int .i64 room, .slice A l.length c, .slice B l.length d]
  obtain ⟨x0, x1, x2, x3, x4⟩ := hX.f3
  go_wp2_with fail
  refine (entries_any room l _ _ ⟨A, c, B, d, rfl, hA.alloc _, hB.alloc _, hc1, hc2, hd1, hd2⟩ hs).mono ?_
  rintro e w1 ⟨v, rfl, ⟨A', c', rfl, hrd, hc1', hc2'⟩, hb⟩
  have L1 : Below w.heap.size w w1 := Below.trans (by go_grown) (hb.mono (by simp))
  clear hb hA hB hV0 hX x0 x1 x2 x3 x4
  generalize hN : l.length = n at *
  have HN := Lib.hid hN; clear hN
  go_wp2_with fail
  go_loopw [3, 5] (fun s i wr => ∃ k : Nat, k ≤ n ∧ i = .int .i64 k ∧ s = .int .i64 (tw (l.take k)) ∧ Below w1.heap.size w1 wr) (fun _ i _ => 100 - (intOf i).toNat)
  case atStart => exact ⟨0, by omega, rfl, rfl, by go_grown⟩
  case round =>
    obtain ⟨k, hk, rfl, rfl, hbw⟩ := hrel
    by_cases hlt : k < n
    · have hkl : k < l.length := by rw [HN.out]; exact hlt
      have hlt' : (k : Int) < (n : Int) := by omega
      have hr1 := tw_range l hs k
      have hr2 := wt_range l[k] (hs.2 _ (List.getElem_mem hkl))
      have hr3 := hs.2 _ (List.getElem_mem hkl)
      have HX := Lib.hid (tw_snoc l k hkl)
      obtain ⟨q0, q1⟩ := ecells_at l k hkl
      obtain ⟨ad, h1, _, c0, c1⟩ := (hrd.below hbw (Nat.le_refl _)).two hlt q0 q1
      subst h1
      clear q0 q1
      generalize l[k] = pq at *
      obtain ⟨kk, vv⟩ := pq
      simp only at c0 c1 hr3
      generalize tw (l.take k) = s at *
      go_wp2_with fail
      refine (weight_any kk vv _ hr3.1 hr3.2).mono ?_
      rintro e w2 ⟨rfl, hb⟩
      have L2 := hbw.trans (hb.mono hbw.size)
      clear hb hbw
      generalize wt (kk, vv) = t at *
      go_wp2
      exact ⟨⟨k + 1, by omega, by go_num, by rw [HX.out], L2⟩, by simp only [intOf]; omega⟩
    · have hfin : l.take k = l := List.take_of_length_le (by rw [HN.out]; omega)
      rw [hfin]
      have HP := Lib.hid (L1.trans (hbw.mono L1.size))
      clear hbw hrd
      go_wp2
      go_ret
      exact ⟨rfl, HP.out⟩
end Go.Proofs.Ytecdmgcgplohoaa
