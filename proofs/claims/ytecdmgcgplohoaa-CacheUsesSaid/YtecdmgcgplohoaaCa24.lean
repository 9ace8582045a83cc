import Derived.Test.YtecdmgcgplohoaaCa23
import Derived.Deep.QuietTactic
import Derived.BigQuiet
namespace Go.Proofs.Ytecdmgcgplohoaa
open Go.ChangeShapes Go.WideShapes Go.ChangeAt Go.RowKit
set_option linter.unusedVariables false
set_option linter.unusedSimpArgs false
attribute [local go_sem] ba_beq ba_bne
set_option maxHeartbeats 1000000 in
set_option maxRecDepth 100000 in
theorem entries_own (room : Int) (l : List En) (V : Value) (w : World) (hV : Ca w room l V) (hs : Sm l) :
    Calls Try.prog 23 #[V] w fun e w' => ∃ v, e = .returned v ∧ w'.ownsRow (w.heap.size + 1) 28 2 v l.length (ecells l) ∧ Below w.heap.size w w' := by
  obtain ⟨A, c, B, d, rfl, hA, hB, hc1, hc2, hd1, hd2⟩ := hV.ex
  clear hV
  have hl := hs.1
  obtain ⟨i0, hi0, hz0, hz1, hz2⟩ := info_parts ent_info
  unfold maxLen at hc2 hd2
  generalize hN : l.length = n at *
  have HN := Lib.hid hN; clear hN
  go_enter Try.func23, Try.ntmps23
  go_wp2_with fail
  go_loopw [3, 4] (fun v i wr => ∃ k : Nat, k ≤ n ∧ i = .int .i64 k ∧ wr.ownsRow (w.heap.size + 1) 28 2 v k (ecells (l.take k)) ∧ Below (w.heap.size + 1) (w.alloc (Obj.cells #[.int .i64 room, .slice A n c, .slice B n d] 26)) wr) (fun _ i _ => 100 - (intOf i).toNat)
  case atStart =>
    refine ⟨0, by omega, rfl, ?_, (Below.refl _ _).alloc (by simp) _⟩
    have h := World.ownsRow_made (base := w.heap.size + 1) (e := 28) (size := 2) (w.alloc (Obj.cells #[.int .i64 room, .slice A n c, .slice B n d] 26)) #[] 0 (by simp) (by simp [maxLen]) (by simp)
    simpa [ecells] using h
  case round =>
    obtain ⟨k, hk, rfl, hown, hbw⟩ := hrel
    have hX := (Blk.new w 26 #[.int .i64 room, .slice A n c, .slice B n d]).below hbw (by simp)
    by_cases hlt : k < n
    · have hkl : k < l.length := by rw [HN.out]; exact hlt
      have hlt' : (k : Int) < (n : Int) := by omega
      have hnext : ecells (l.take (k + 1)) = ecells (l.take k) ++ [.string l[k].1, .string l[k].2] := by
        rw [take_snoc l k hkl, ecells_append]; rfl
      have ha : (strs (keys l))[k]? = some (.string l[k].1) := by simp [strs, keys, hkl]
      have hb' : (strs (vals l))[k]? = some (.string l[k].2) := by simp [strs, vals, hkl]
      have hA2 := ((hA.alloc (Obj.cells #[.int .i64 room, .slice A n c, .slice B n d] 26)).below hbw (by simp)).drew
      have hB2 := ((hB.alloc (Obj.cells #[.int .i64 room, .slice A n c, .slice B n d] 26)).below hbw (by simp)).drew
      obtain ⟨a1, h1, _, _⟩ := hA2.one hlt ha
      obtain ⟨b1, h2, _, _⟩ := hB2.one hlt hb'
      subst h1 h2
      have hc : ∀ W, Ext wr.drew W → W.cell? ⟨w.heap.size, 1, none⟩ = some (.slice (some a1) n c) ∧ W.cell? ⟨w.heap.size, 2, none⟩ = some (.slice (some b1) n d) ∧ W.cell? (a1.add k) = some (.string l[k].1) ∧ W.cell? (b1.add k) = some (.string l[k].2) := fun W hE => by
        obtain ⟨_, y1, y2, _, _⟩ := (hX.drew.ext hE).f3
        obtain ⟨_, e, _, g1⟩ := (hA2.ext hE).one hlt ha
        injection e with e; subst e
        obtain ⟨_, e, _, g2⟩ := (hB2.ext hE).one hlt hb'
        injection e with e; subst e
        exact ⟨y1, y2, g1, g2⟩
      have HX := Lib.hid hnext; have HC := Lib.hid hc
      clear hnext hc ha hb' hA2 hB2 hA hB
      generalize l[k] = pq at *
      obtain ⟨kk, vv⟩ := pq
      obtain ⟨x0, x1, x2, x3, x4⟩ := hX.f3
      go_wp2_with fail
      refine wp_region_list2 (by kernel_rfl) 13 Ext [(12, Sl 28 2 1 [.string kk, .string vv])] (by kernel_rfl) (fun _ _ d _ _ h => by cases d <;> exact h) rfl Ext.refl (fun _ _ _ => Ext.trans) ⟨fun _ _ _ => Sl.ext, trivial⟩ ?_
      simp only [List.take_succ_cons, List.take_zero, List.take_nil, List.drop_succ_cons, List.drop_zero, List.drop_nil]
      iterate 12
        refine ph_pure (a' := ?_) rfl rfl ?_ (fun w9 hE hG => pureAt_plain rfl ?_) ?_ ?_
        rotate_left 2
        · clear hG; obtain ⟨c1, c2, d1, d2⟩ := HC.out w9 hE; (go_simp; try go_bits); rfl
        · go_simp; rfl
      refine ph_op rfl rfl (fun w9 hE hG => opAt_plain rfl ?_) (fun v hv => ?_)
      · clear hG; obtain ⟨c1, c2, d1, d2⟩ := HC.out w9 hE; (go_simp; try go_bits)
        exact ⟨Ext.alloc _ _, _, _, rfl, Rd.newAt _ _ rfl 28 2 1 #[.string kk, .string vv] (0, 0) _ rfl rfl, Nat.le_refl _, by simp [maxLen]⟩
      obtain ⟨_, _, A1, c1', rfl, _, _, _⟩ := hv
      go_simp
      refine ph_end (fun w9 hE hG => ?_)
      simp only [List.forall_mem_cons] at hG
      obtain ⟨_, hrd, _, _⟩ := hG.1.at_
      have L9 := hbw.drew.trans (hE.below.mono (by have := hbw.size; simpa using this))
      have O9 := own_below (own_drewN hown 1) hE (Nat.le_refl _)
      clear hE hG hown HC
      go_wp2_with (at_builtin; apply halt_here)
      apply go_on
      refine wpList_app rfl _ _ 45 rfl (w.heap.size + 1) 28 i0 _ 2 32 Try.underlying45 hi0 hz0 hz1 hz2 rfl (by decide) _ _ _ rfl O9 28 _ 1 _ _ rfl hrd (by simp [Value.oneCell']) (by simp only [maxLen]; omega) (by omega) (by have := L9.size; simpa using this) ?_
      intro v' w8 hown2 _ _ hbb
      have hb3 := L9.trans hbb
      rw [← HX.out] at hown2
      clear hbb L9 O9 hbw
      go_wp2
      go_roundw
      case rel => exact ⟨k + 1, by omega, by go_num, hown2, hb3⟩
      case measure => simp only [intOf]; omega
    · have hfin : ecells (l.take k) = ecells l ∧ k = n := by
        have hlen := HN.out
        rw [List.take_of_length_le (by omega)]
        exact ⟨rfl, by omega⟩
      obtain ⟨hf1, rfl⟩ := hfin
      rw [hf1] at hown
      have hbz : Below w.heap.size w wr := Below.trans (by go_grown) (hbw.mono (by omega))
      have HP := Lib.hid (And.intro hown hbz)
      obtain ⟨x0, x1, x2, x3, x4⟩ := hX.f3
      clear hown hbw hbz
      go_wp2
      go_ret
      exact ⟨_, rfl, HP.out.1, HP.out.2⟩

theorem fit_next (room : Int) (l : List En) : ∀ s, (fit room s l).length < l.length → ∃ k, ∃ h : k < l.length, fit room s l = l.take k ∧ room < s + tw (l.take k) + wt l[k] := by
  induction l with
  | nil => intro s h; simp at h
  | cons e l ih =>
    intro s h
    unfold fit
    split
    · rename_i hh
      exact ⟨0, by simp, by simp, by simpa [tw] using hh⟩
    · rename_i hh
      have h2 : (fit room (s + wt e) l).length < l.length := by
        unfold fit at h
        rw [if_neg hh] at h
        simpa using h
      obtain ⟨k, hk, h3, h4⟩ := ih _ h2
      refine ⟨k + 1, by simpa using hk, by rw [h3]; rfl, ?_⟩
      rw [List.take_succ_cons, tw_cons]
      simp only [List.getElem_cons_succ]
      omega
theorem fit_take (room : Int) (l : List En) (s : Int) : fit room s l = l.take (fit room s l).length := by
  by_cases h : (fit room s l).length < l.length
  · obtain ⟨k, hk, h1, _⟩ := fit_next room l s h
    have : (fit room s l).length = k := by rw [h1, List.length_take]; omega
    rw [this, h1]
  · exact ((fit_sub room l s).eq_of_length_le (by omega)).trans (List.take_of_length_le (by omega)).symm
theorem fit_at (room : Int) (l : List En) (i : Nat) (h : i < (fit room 0 l).length) : ∃ h' : i < l.length, (fit room 0 l)[i] = l[i] := by
  have hl := (fit_sub room l 0).length_le
  refine ⟨by omega, ?_⟩
  have := fit_take room l 0
  have e : (fit room 0 l)[i]? = (l.take (fit room 0 l).length)[i]? := by rw [← this]
  rw [List.getElem?_eq_getElem h, List.getElem?_take, if_pos h, List.getElem?_eq_getElem (by omega)] at e
  exact Option.some.inj e
theorem fit_over (room : Int) (l : List En) (h : (fit room 0 l).length < l.length) : room < tw (fit room 0 l) + wt l[(fit room 0 l).length] := by
  obtain ⟨k, hk, h1, h2⟩ := fit_next room l 0 h
  have e : (fit room 0 l).length = k := by rw [h1, List.length_take]; omega
  have h3 : l[(fit room 0 l).length] = l[k] := by congr
  have h4 : tw (fit room 0 l) = tw (l.take k) := by rw [h1]
  rw [h3, h4]; omega
theorem eq28 (a b c d : BA) (w : World) : (Op.equalIn 10000 28 (.agg #[.string a, .string b]) (.agg #[.string c, .string d])).run Try.prog w = .ok (decide (a = c) && decide (b = d)) w := by
  have u3 := Try.underlying9
  have a3 := Try.isAgg9
  have z3 := Try.sizeOf9
  rw [show (10000 : Nat) = 9999 + 1 from rfl, run_equalIn_agg w 9999 28 _ _ (by kernel_rfl) (by kernel_rfl)]
  simp only [Program.fieldsOf, Try.underlying28]
  go_simp
  by_cases h1 : a = c <;> by_cases h2 : b = d <;> simp [h1, h2]
theorem Rd.own0 {w : World} {base : Nat} {e : TypeId} {k n : Nat} {A : Option Addr} {c : Nat} {xs : List Value} (h : w.ownsRow base e k (.slice A n c) n xs) : ∀ ad, A = some ad → base ≤ ad.block := by
  intro ad e; subst e
  exact (h.lt ad.block rfl).1
end Go.Proofs.Ytecdmgcgplohoaa
