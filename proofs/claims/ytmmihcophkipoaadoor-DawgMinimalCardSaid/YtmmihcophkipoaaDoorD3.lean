import Derived.Test.YtmmihcophkipoaaDoorD2
namespace Go.Proofs.YtmmihcophkipoaaDoor
open Go.ChangeShapes Go.WideShapes Go.ChangeAt Go.RowKit
set_option linter.unusedVariables false
set_option linter.unusedSimpArgs false
attribute [local go_sem] bs_beq bs_bne bs_less bs_size
/-- bytes in memory -/
def bv (l : List UInt8) : List Value := l.map fun c => .int .u8 c.toNat
theorem bv_at (l : List UInt8) (k : Nat) (h : k < l.length) : (bv l)[k]? = some (.int .u8 l[k].toNat) := by simp [bv, h]
def abc (i : Nat) : UInt8 := [65, 66, 67, 49].getD i 65
def mkw (l : List UInt8) : W := (l.take 4).map fun b => abc (b.toNat % 4)
def mkword (l : List UInt8) : W := if mkw l = [] then [65] else mkw l
theorem slice_abc (i : Int) (h : 0 ≤ i ∧ i ≤ 3) (W : World) : (Instr.slice 9 (.string { data := #[65, 66, 67, 49] }) (some (.int .u8 i)) (some (.int .u8 (i + 1))) none).run Tryd.prog W = .ok (.string (bs [abc i.toNat])) W := by
  rw [run_slice_string W 9 { data := #[65, 66, 67, 49] } .u8 .u8 i (i + 1) Tryd.underlying9 h.1 (by omega) (by rw [show (ByteArray.size { data := #[65, 66, 67, 49] }) = 4 by decide]; omega)]
  have : i = 0 ∨ i = 1 ∨ i = 2 ∨ i = 3 := by omega
  rcases this with rfl | rfl | rfl | rfl <;> rfl
theorem mkw_snoc (l : List UInt8) (k : Nat) (h : k < l.length) : ((l.take (k + 1)).map fun b => abc (b.toNat % 4)) = ((l.take k).map fun b => abc (b.toNat % 4)) ++ [abc (l[k].toNat % 4)] := by
  rw [take_snoc l k h, List.map_append]; rfl
theorem word_any (A : Option Addr) (c : Nat) (l : List UInt8) (w : World) (hr : Rd w 0 1 A l.length (bv l)) (hn : l.length ≤ maxLen) :
    Calls Tryd.prog 24 #[.slice A l.length c] w fun e w' => e = .returned (.string (bs (mkword l))) ∧ Ext w w' := by
  unfold maxLen at hn
  go_enter Tryd.func24, Tryd.ntmps24
  go_wp2_with fail
  go_loopw [3, 4] (fun v i wr => ∃ k : Nat, k ≤ l.length ∧ k ≤ 4 ∧ i = .int .i64 k ∧ v = .string (bs ((l.take k).map fun b => abc (b.toNat % 4))) ∧ Ext w wr) (fun _ i _ => 100 - (intOf i).toNat)
  case atStart => exact ⟨0, by omega, by omega, rfl, rfl, Ext.refl _⟩
  case round =>
    obtain ⟨k, hk, hk4, rfl, rfl, hX⟩ := hrel
    by_cases hlt : k < l.length ∧ k < 4
    · obtain ⟨hlt, hlt4⟩ := hlt
      have hlt' : (k : Int) < l.length := by omega
      have hlt5 : (k : Int) < 4 := by omega
      obtain ⟨ad, e1, hab, hc⟩ := (hr.ext hX).one hlt (bv_at l k hlt)
      subst e1
      have HX := Lib.hid (mkw_snoc l k hlt)
      have hpl : ((l.take k).map (fun b => abc (b.toNat % 4))).length ≤ 4 := by simp; omega
      generalize (l.take k).map (fun b => abc (b.toNat % 4)) = pre at *
      have hcat : ¬ (9223372036854775807 < pre.length + 1) := by omega
      have hb := l[k].toNat_lt
      generalize l[k].toNat = b at *
      have hsl := slice_abc ((b : Int) % 4) (by omega)
      have hb0 : (0 : Int) ≤ b := by omega
      have hb1 : (b : Int) ≤ 255 := by omega
      have HT := Lib.hid (show ((b : Int) % 4).toNat = b % 4 by omega)
      go_wp2_with fail
      have hc0 : ∀ W, Ext wr.drew W → W.cell? (ad.add k) = some (.int .u8 b) ∧ True := fun W hE => by
        exact ⟨(World.cell?_of_block (by rw [addr_block]; rw [addr_block] at hab; exact hE.block _ hab)).trans hc, trivial⟩
      have HC := Lib.hid hc0; clear hc0
      refine wp_region_list2 (by kernel_rfl) 14 Ext [] (by kernel_rfl) (fun _ _ d _ _ h => by cases d <;> exact h) rfl Ext.refl (fun _ _ _ => Ext.trans) trivial ?_
      simp only [List.take_succ_cons, List.take_zero, List.take_nil, List.drop_succ_cons, List.drop_zero, List.drop_nil]
      iterate 14
        refine ph_pure (a' := ?_) rfl rfl ?_ (fun w9 hE hG => pureAt_plain rfl ?_) ?_ ?_
        rotate_left 2
        · clear hG; obtain ⟨c0, _⟩ := HC.out w9 hE; (go_simp; try go_bits); rfl
        · go_simp; rfl
      refine ph_end (fun w9 hE hG => ?_)
      have hXr : Ext wr w9 := Ext.drew.trans hE
      clear hE hG HC
      go_wp2
      refine ⟨⟨k + 1, by omega, by omega, by go_num, ?_, hX.trans hXr⟩, by simp only [intOf]; omega⟩
      rw [HX.out, ← bs_append]
    · have hm : (l.take k).map (fun b => abc (b.toNat % 4)) = mkw l := by
        unfold mkw
        by_cases h : k = 4
        · rw [h]
        · rw [List.take_of_length_le (by omega), List.take_of_length_le (by omega)]
      rw [hm]
      have hW : mkword l = if mkw l = [] then [65] else mkw l := rfl
      obtain ⟨m, hm2⟩ : ∃ m, mkw l = m := ⟨_, rfl⟩
      rw [hm2] at hW ⊢
      have HW := Lib.hid hW
      clear hm hm2 hW
      have h2 : (k : Int) < l.length → ¬ (k : Int) < 4 := by omega
      cases m with
      | nil =>
        have HM := Lib.hid (show mkword l = [65] from HW.out.trans (if_pos rfl))
        have ht : (bs []).toList = [] := bs_toList []
        by_cases h1 : (k : Int) < l.length
        · have h3 := h2 h1
          clear hlt h2
          go_wp2
          go_ret
          exact ⟨by rw [HM.out]; rfl, hX⟩
        · clear hlt h2
          go_wp2
          go_ret
          exact ⟨by rw [HM.out]; rfl, hX⟩
      | cons x t =>
        have HM := Lib.hid (show mkword l = x :: t from HW.out.trans (if_neg (by simp)))
        have ht : (bs (x :: t)).toList = x :: t := bs_toList _
        by_cases h1 : (k : Int) < l.length
        · have h3 := h2 h1
          clear hlt h2
          go_wp2
          go_ret
          exact ⟨by rw [HM.out]; rfl, hX⟩
        · clear hlt h2
          go_wp2
          go_ret
          exact ⟨by rw [HM.out]; rfl, hX⟩
/-- rows of bytes in memory -/
def Bss (w : World) (A : Option Addr) (ll : List (List UInt8)) : Prop := ∃ rows : List Value, Rd w 0 1 A ll.length rows ∧ ∀ i (h : i < ll.length), ∃ a c, rows[i]? = some (.slice a ll[i].length c) ∧ Rd w 0 1 a ll[i].length (bv ll[i]) ∧ ll[i].length ≤ maxLen
theorem Bss.ext {w w' : World} {A : Option Addr} {ll : List (List UInt8)} (h : Bss w A ll) (hE : Ext w w') : Bss w' A ll := by
  obtain ⟨rows, h1, h2⟩ := h
  refine ⟨rows, h1.ext hE, fun i hi => ?_⟩
  obtain ⟨a, c, k1, k2, k3⟩ := h2 i hi
  exact ⟨a, c, k1, k2.ext hE, k3⟩
theorem Bss.at_ {w : World} {A : Option Addr} {ll : List (List UInt8)} (h : Bss w A ll) {i : Nat} (hi : i < ll.length) : ∃ ad a c, A = some ad ∧ (ad.add i).block < w.heap.size ∧ w.cell? (ad.add i) = some (.slice a ll[i].length c) ∧ Rd w 0 1 a ll[i].length (bv ll[i]) ∧ ll[i].length ≤ maxLen := by
  obtain ⟨rows, h1, h2⟩ := h
  obtain ⟨a, c, k1, k2, k3⟩ := h2 i hi
  obtain ⟨ad, e, hb, hc⟩ := h1.one hi k1
  exact ⟨ad, a, c, e, hb, hc, k2, k3⟩
def grow (ll : List (List UInt8)) : List W := ll.foldl (fun o b => ins o (mkword b)) []
def made (ll : List (List UInt8)) (n : Nat) : List W := if grow (ll.take n) = [] then [[65]] else grow (ll.take n)
theorem grow_snoc (ll : List (List UInt8)) (k : Nat) (h : k < ll.length) : grow (ll.take (k + 1)) = ins (grow (ll.take k)) (mkword ll[k]) := by
  unfold grow; rw [take_snoc ll k h, List.foldl_append]; rfl
theorem ins_len (l : List W) (x : W) : (ins l x).length ≤ l.length + 1 := by
  unfold ins
  split
  · omega
  · have := congrArg List.length (List.takeWhile_append_dropWhile (p := (bl · x)) (l := l))
    simp only [List.length_append, List.length_cons] at *
    omega
theorem grow_len (ll : List (List UInt8)) : ∀ k, (grow (ll.take k)).length ≤ k := by
  intro k
  induction k with
  | zero => simp [grow]
  | succ k ih =>
    by_cases h : k < ll.length
    · rw [grow_snoc ll k h]; have := ins_len (grow (ll.take k)) (mkword ll[k]); omega
    · have e1 : ll.take (k + 1) = ll.take k := by rw [List.take_of_length_le (by omega), List.take_of_length_le (by omega)]
      rw [e1]; omega
set_option maxHeartbeats 1000000 in
theorem made_any (A : Option Addr) (c n : Nat) (ll : List (List UInt8)) (w : World) (hr : Bss w A ll) (hl : ll.length ≤ maxLen) (hn : n ≤ 20) :
    Calls Tryd.prog 19 #[.slice A ll.length c, .int .i64 n] w fun e w' => ∃ v, e = .returned v ∧ Ws (made ll n) v w' ∧ Ext w w' := by
  unfold maxLen at hl
  go_enter Tryd.func19, Tryd.ntmps19
  go_wp2_with fail
  go_loopw [5, 6] (fun v i wr => ∃ k : Nat, k ≤ ll.length ∧ k ≤ n ∧ i = .int .i64 k ∧ Ws (grow (ll.take k)) v wr ∧ Ext w wr) (fun _ i _ => 100 - (intOf i).toNat)
  case atStart => exact ⟨0, by omega, by omega, rfl, (own_nil w w.heap.size (Nat.le_refl _)).ws, Ext.alloc _ _⟩
  case round =>
    obtain ⟨k, hk, hkn, rfl, hV, hX⟩ := hrel
    obtain ⟨B, d, rfl, hB, hd1, hd2⟩ := hV
    have hgl := grow_len ll k
    by_cases hlt : k < ll.length ∧ k < n
    · obtain ⟨hlt, hlt2⟩ := hlt
      have hlt' : (k : Int) < ll.length := by omega
      have hlt5 : (k : Int) < n := by omega
      obtain ⟨ad, a, c2, e1, hab, hc, hb, hbl⟩ := (hr.ext hX).at_ hlt
      subst e1
      have HX := Lib.hid (grow_snoc ll k hlt)
      generalize grow (ll.take k) = cur at *
      generalize ll[k] = b at *
      go_wp2_with fail
      refine (word_any a c2 b _ hb hbl).mono ?_
      rintro e w1 ⟨rfl, hX1⟩
      go_wp2_with fail
      refine (insert_any B d cur (mkword b) _ (hB.ext hX1) (by omega) ⟨hd1, hd2⟩).mono ?_
      rintro e w2 ⟨v2, rfl, hV2, hX2⟩
      go_wp2
      refine ⟨⟨k + 1, by omega, by omega, by go_num, by rw [HX.out]; exact hV2, hX.trans (hX1.trans hX2)⟩, by simp only [intOf]; omega⟩
    · have hm : grow (ll.take k) = grow (ll.take n) := by
        by_cases h : k = n
        · rw [h]
        · rw [List.take_of_length_le (by omega), List.take_of_length_le (by omega)]
      have hW : made ll n = if grow (ll.take n) = [] then [[65]] else grow (ll.take n) := rfl
      obtain ⟨m, hm2⟩ : ∃ m, grow (ll.take n) = m := ⟨_, rfl⟩
      rw [hm, hm2] at hgl hB hd1 ⊢
      rw [hm2] at hW
      have HW := Lib.hid hW
      clear hm hm2 hW
      have h2 : (k : Int) < ll.length → ¬ (k : Int) < n := by omega
      cases m with
      | nil =>
        have HM := Lib.hid (show made ll n = [[65]] from HW.out.trans (if_pos rfl))
        have hnew : ∀ W : World, Ws [[65]] (.slice (some ⟨W.heap.size, 0, none⟩) 1 1) (W.alloc (Obj.cells #[.string { data := #[65] }] 9)) := fun W => ⟨_, _, rfl, (Rd.newAt W _ rfl 9 1 1 #[.string { data := #[65] }] (0, 0) _ rfl rfl).untyped, Nat.le_refl _, by simp [maxLen]⟩
        have HNW := Lib.hid hnew
        clear hnew
        by_cases h1 : (k : Int) < ll.length
        · have h3 := h2 h1
          clear hlt h2
          go_wp2
          go_ret
          exact ⟨_, rfl, by rw [HM.out]; exact HNW.out wr, hX.trans (Ext.alloc _ _)⟩
        · clear hlt h2
          go_wp2
          go_ret
          exact ⟨_, rfl, by rw [HM.out]; exact HNW.out wr, hX.trans (Ext.alloc _ _)⟩
      | cons x t =>
        have HM := Lib.hid (show made ll n = x :: t from HW.out.trans (if_neg (by simp)))
        by_cases h1 : (k : Int) < ll.length
        · have h3 := h2 h1
          clear hlt h2
          go_wp2
          go_ret
          exact ⟨_, rfl, by rw [HM.out]; exact ⟨B, d, rfl, hB, hd1, hd2⟩, hX⟩
        · clear hlt h2
          go_wp2
          go_ret
          exact ⟨_, rfl, by rw [HM.out]; exact ⟨B, d, rfl, hB, hd1, hd2⟩, hX⟩
end Go.Proofs.YtmmihcophkipoaaDoor
