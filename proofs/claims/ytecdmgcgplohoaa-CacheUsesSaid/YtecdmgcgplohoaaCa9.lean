import Derived.Test.YtecdmgcgplohoaaCa8
import Derived.Laws.Strings2
import Derived.Laws.Concat
namespace Go.Proofs.Ytecdmgcgplohoaa
open Go.ChangeShapes Go.WideShapes Go.ChangeAt Go.RowKit
set_option linter.unusedVariables false
set_option linter.unusedSimpArgs false
attribute [local go_sem] ba_beq ba_bne

def LETS : BA := { data := #[97, 98, 99, 100, 101, 102, 103, 104, 105, 106, 107, 108, 109, 110, 111, 112, 113, 114, 115, 116, 117, 118, 119, 120, 121, 122] }
def letter (i : Int) : BA := LETS.extract i.toNat (i + 1).toNat
def dot : BA := { data := #[46] }
def dots : Nat → BA → BA
  | 0, s => s
  | n + 1, s => dots n s ++ dot
theorem dots_size (n : Nat) (s : BA) : (dots n s).size = s.size + n := by
  induction n with
  | zero => rfl
  | succ n ih => simp only [dots, ByteArray.size_append, ih]; show _ + 1 = _; omega
theorem letter_size (i : Int) (h : 0 ≤ i ∧ i ≤ 25) : (letter i).size = 1 := by
  unfold letter
  rw [ByteArray.size_extract]
  have : LETS.size = 26 := by decide
  rw [this]; omega
/-- how many dots a value has -/
def many (v : Int) (lg : Bool) : Nat := if lg then (70 + v % 61).toNat else 0
def valOf (v : Int) (lg : Bool) : BA := dots (many v lg) (letter (v % 26))
theorem valOf_size (v : Int) (lg : Bool) : (valOf v lg).size ≤ 131 := by
  unfold valOf many
  rw [dots_size, letter_size _ (by omega)]
  split <;> omega
theorem res_cell28 {fn : Func} {t : Tmp} (h : fn.results = #[.cell t 28]) (tmps : Array Value) (g : Nat) (ht : tmps.getD t undef = .pointer (some ⟨g, 0, none⟩)) (w : World) {v0 v1 : Value} (Y : Blk w g 28 #[v0, v1]) :
    (results fn tmps).run Try.prog w = .ok (.agg #[v0, v1]) w := by
  obtain ⟨y0, y1, y2, y3⟩ := Y.f2
  rw [Array.getD_eq_getD_getElem?] at ht
  simp [results, h, ht, go_sem, y0, y1]
theorem Blk.putE {w : World} {g : Nat} {u0 u1 : Value} (Y : Blk w g 28 #[u0, u1]) (v0 v1 : Value) : Blk ((w.setCell ⟨g, 0, none⟩ v0).setCell ⟨g, 1, none⟩ v1) g 28 #[v0, v1] := by
  have h := (Y.set_ 0 v0).set_ 1 v1
  simpa using h
theorem field_got (v0 v1 v2 v3 v4 : Value) (W : World) : (Instr.field 33 (.agg #[v0, v1, v2, v3, v4]) 0).run Try.prog W = .ok (.agg #[v0, v1, v2]) W := by
  simp [Instr.field, run_underlying Try.underlying33, go_sem, part, asAgg]
  try rfl
theorem slice_letter (i : Int) (h : 0 ≤ i ∧ i ≤ 25) (W : World) : (Instr.slice 9 (.string { data := #[97, 98, 99, 100, 101, 102, 103, 104, 105, 106, 107, 108, 109, 110, 111, 112, 113, 114, 115, 116, 117, 118, 119, 120, 121, 122] }) (some (.int .i64 i)) (some (.int .i64 (i + 1))) none).run Try.prog W = .ok (.string (letter i)) W :=
  run_slice_string W 9 LETS .i64 .i64 i (i + 1) Try.underlying9 h.1 (by omega) (by rw [show LETS.size = 26 by decide]; omega)
set_option maxHeartbeats 1000000 in
set_option maxRecDepth 100000 in
theorem of_any (wh k v : Int) (lg : Bool) (w : World) (hk : 0 ≤ k ∧ k ≤ 255) (hv : 0 ≤ v ∧ v ≤ 255) :
    Calls Try.prog 10 #[.agg #[.int .u8 wh, .int .u8 k, .int .u8 v, .bool lg]] w fun e w' => e = .returned (.agg #[.string (letter (k % 6)), .string (valOf v lg)]) ∧ Below w.heap.size w w' := by
  have hsl1 := slice_letter (v % 26) (by omega)
  have hsl2 := slice_letter (k % 6) (by omega)
  have hz := letter_size (v % 26) (by omega)
  have X := (Blk.new w 31 #[.int .u8 wh, .int .u8 k, .int .u8 v, .bool lg]).alloc (Obj.cells #[.string { data := #[] }, .string { data := #[] }] 28)
  have Y := Blk.newAt (w.alloc (Obj.cells #[.int .u8 wh, .int .u8 k, .int .u8 v, .bool lg] 31)) (w.heap.size + 1) (by simp) 28 #[.string { data := #[] }, .string { data := #[] }]
  have L : Below w.heap.size w ((w.alloc (Obj.cells #[.int .u8 wh, .int .u8 k, .int .u8 v, .bool lg] 31)).alloc (Obj.cells #[.string { data := #[] }, .string { data := #[] }] 28)) := by go_grown
  have hm : many v lg = if lg then (70 + v % 61).toNat else 0 := rfl
  rw [show valOf v lg = dots (many v lg) (letter (v % 26)) from rfl]
  generalize many v lg = N at *
  generalize letter (v % 26) = ls at *
  go_enter Try.func10, Try.ntmps10
  go_wp2_with fail
  generalize (w.alloc (Obj.cells #[.int .u8 wh, .int .u8 k, .int .u8 v, .bool lg] 31)).alloc (Obj.cells #[.string { data := #[] }, .string { data := #[] }] 28) = w1 at *
  obtain ⟨x0, x1, x2, x3, x4, x5⟩ := X.f4
  obtain ⟨y0, y1, y2, y3⟩ := Y.f2
  go_loopw [5, 6] (fun s i wr => ∃ j : Nat, j ≤ N ∧ i = .int .i64 j ∧ s = .string (dots j ls) ∧ wr = w1) (fun _ i _ => 200 - (intOf i).toNat)
  case atStart => exact ⟨0, by omega, rfl, rfl, rfl⟩
  case round =>
    obtain ⟨j, hj, rfl, rfl, rfl⟩ := hrel
    have hsz := dots_size j ls
    rw [hz] at hsz
    have hds : dots (j + 1) ls = dots j ls ++ { data := #[46] } := rfl
    have HD := Lib.hid hds
    clear hds
    by_cases hjN : j < N
    · have hlg : lg = true := by cases lg with
        | true => rfl
        | false => simp at hm; omega
      subst hlg
      simp only [if_true] at hm
      have hs0 : ((dots j ls).size : Int) ≤ 8388608 := by omega
      have hlt : (j : Int) < 70 + v % 61 := by omega
      have hadd : ∀ W : World, (Op.stringOp .add (dots j ls) { data := #[46] }).run Try.prog W = .ok (.string (dots j ls ++ { data := #[46] })) W := fun W => run_string_add W _ _ hs0 (by decide)
      go_wp2
      exact ⟨⟨j + 1, by omega, by go_num, by rw [HD.out], trivial⟩, by simp only [intOf]; omega⟩
    · have hjN' : j = N := by omega
      subst hjN'
      cases lg with
      | true =>
        simp only [if_true] at hm
        have hlt : ¬ (j : Int) < 70 + v % 61 := by omega
        go_wp2
        exact bodyPost_ret (res_cell28 rfl _ (w.heap.size + 1) rfl _ (Y.putE _ _)) rfl ⟨rfl, (L.setCell (by simp) _).setCell (by simp) _⟩
      | false =>
        clear hm
        go_wp2
        exact bodyPost_ret (res_cell28 rfl _ (w.heap.size + 1) rfl _ (Y.putE _ _)) rfl ⟨rfl, (L.setCell (by simp) _).setCell (by simp) _⟩

/-- a step of the script: what, key, value, long -/
structure St where
  wh : Int
  k : Int
  v : Int
  lg : Bool
def St.ok (s : St) : Prop := (0 ≤ s.wh ∧ s.wh ≤ 255) ∧ (0 ≤ s.k ∧ s.k ≤ 255) ∧ (0 ≤ s.v ∧ s.v ≤ 255)
def St.cells (s : St) : List Value := [.int .u8 s.wh, .int .u8 s.k, .int .u8 s.v, .bool s.lg]
def St.en (s : St) : En := (letter (s.k % 6), valOf s.v s.lg)
/-- the reference's step -/
def rstep (room : Int) (l : List En) (s : St) : List En :=
  if s.wh % 8 = 5 ∨ s.wh % 8 = 6 then gl room l s.en.1 else if s.wh % 8 = 7 then fit room 0 (wo l s.en.1) else fit room 0 (s.en :: wo l s.en.1)
theorem en_size (s : St) : s.en.1.size = 1 ∧ s.en.2.size ≤ 131 := ⟨letter_size _ (by omega), valOf_size _ _⟩
set_option maxHeartbeats 1000000 in
set_option maxRecDepth 100000 in
theorem rstep_any (room : Int) (l : List En) (V : Value) (s : St) (w : World) (hV : Ca w room l V) (hs : Sm l) (hl : l.length ≤ 63) (ho : s.ok) :
    Calls Try.prog 18 #[V, .agg #[.int .u8 s.wh, .int .u8 s.k, .int .u8 s.v, .bool s.lg]] w fun e w' => ∃ V', e = .returned V' ∧ Ca w' room (rstep room l s) V' ∧ Below w.heap.size w w' := by
  obtain ⟨wh, k, v, lg⟩ := s
  obtain ⟨hw, hk, hv⟩ := ho
  obtain ⟨A, c, B, d, rfl, hA, hB, hc1, hc2, hd1, hd2⟩ := hV.ex
  clear hV
  simp only at hw hk hv ⊢
  have hes := en_size ⟨wh, k, v, lg⟩
  obtain ⟨T, hT⟩ : ∃ T, T = rstep room l ⟨wh, k, v, lg⟩ := ⟨_, rfl⟩
  rw [← hT]
  rw [show rstep room l ⟨wh, k, v, lg⟩ = if wh % 8 = 5 ∨ wh % 8 = 6 then gl room l (letter (k % 6)) else if wh % 8 = 7 then fit room 0 (wo l (letter (k % 6))) else fit room 0 ((letter (k % 6), valOf v lg) :: wo l (letter (k % 6))) from rfl] at hT
  have HT := Lib.hid hT
  clear hT
  have hfg := field_got
  go_enter Try.func18, Try.ntmps18
  go_wp2_with fail
  have X := ((Blk.new w 26 #[.int .i64 room, .slice A l.length c, .slice B l.length d]).alloc (Obj.cells #[.int .u8 wh, .int .u8 k, .int .u8 v, .bool lg] 31)).alloc (Obj.cells #[.int .i64 0, .slice none 0 0, .slice none 0 0] 26)
  have R := (Blk.newAt (w.alloc (Obj.cells #[.int .i64 room, .slice A l.length c, .slice B l.length d] 26)) (w.heap.size + 1) (by simp) 31 #[.int .u8 wh, .int .u8 k, .int .u8 v, .bool lg]).alloc (Obj.cells #[.int .i64 0, .slice none 0 0, .slice none 0 0] 26)
  have Y := Blk.newAt ((w.alloc (Obj.cells #[.int .i64 room, .slice A l.length c, .slice B l.length d] 26)).alloc (Obj.cells #[.int .u8 wh, .int .u8 k, .int .u8 v, .bool lg] 31)) (w.heap.size + 1 + 1) (by simp) 26 #[.int .i64 0, .slice none 0 0, .slice none 0 0]
  have L : Below w.heap.size w (((w.alloc (Obj.cells #[.int .i64 room, .slice A l.length c, .slice B l.length d] 26)).alloc (Obj.cells #[.int .u8 wh, .int .u8 k, .int .u8 v, .bool lg] 31)).alloc (Obj.cells #[.int .i64 0, .slice none 0 0, .slice none 0 0] 26)) := by go_grown
  generalize ((w.alloc (Obj.cells #[.int .i64 room, .slice A l.length c, .slice B l.length d] 26)).alloc (Obj.cells #[.int .u8 wh, .int .u8 k, .int .u8 v, .bool lg] 31)).alloc (Obj.cells #[.int .i64 0, .slice none 0 0, .slice none 0 0] 26) = w0 at *
  refine (of_any wh k v lg _ hk hv).mono ?_
  rintro e w1 ⟨rfl, hb⟩
  replace X := X.below hb (Nat.le_refl _)
  replace R := R.below hb (Nat.le_refl _)
  replace Y := Y.below hb (Nat.le_refl _)
  replace L := L.trans (hb.mono L.size)
  clear hb
  obtain ⟨x0, x1, x2, x3, x4⟩ := X.f3
  obtain ⟨r0, r1, r2, r3, r4, r5⟩ := R.f4
  have hCa : Ca (w1.alloc (Obj.cells #[.string (letter (k % 6)), .string (valOf v lg)] 28)) room l (.agg #[.int .i64 room, .slice A l.length c, .slice B l.length d]) :=
    ⟨⟨A, c, B, d, rfl, (hA.below L (Nat.le_refl _)).alloc _, (hB.below L (Nat.le_refl _)).alloc _, hc1, hc2, hd1, hd2⟩⟩
  have hz1 : (letter (k % 6)).size ≤ 1000 := by rw [letter_size _ (by omega)]; omega
  have hz2 : (valOf v lg).size ≤ 1000 := by have := valOf_size v lg; omega
  clear hes
  generalize letter (k % 6) = ky at *
  generalize valOf v lg = vy at *
  by_cases h5 : wh % 8 = 5
  · have hT := HT.out.trans (if_pos (.inl h5))
    subst hT
    go_wp2_with fail
    refine (rget_any room l _ ky _ hCa hs hl).mono ?_
    rintro e w2 ⟨p, q, rfl, hCa, hb⟩
    obtain ⟨P, c2, Q, d2, hpq, _, _, _⟩ := hCa.ex
    injection hpq with hpq
    simp only [Array.mk.injEq, List.cons.injEq, and_true, true_and] at hpq
    obtain ⟨rfl, rfl⟩ := hpq
    have Y2 := (Y.alloc (Obj.cells #[.string ky, .string vy] 28)).below hb (Nat.le_refl _)
    have L2 := (L.alloc L.size (Obj.cells #[.string ky, .string vy] 28)).trans (hb.mono (by have := L.size; simp; omega))
    clear hb X R Y L
    obtain ⟨y0, y1, y2, y3, y4⟩ := Y2.f3
    go_wp2
    exact bodyPost_ret (res_cell26 rfl _ (w.heap.size + 1 + 1) rfl _ (Y2.put3 _ _ _)) rfl ⟨_, rfl, hCa.put3 Y2 _ _ _, below_put3 L2 (by omega) _ _ _⟩
  · by_cases h6 : wh % 8 = 6
    · have hT := HT.out.trans (if_pos (.inr h6))
      subst hT
      go_wp2_with fail
      refine (rget_any room l _ ky _ hCa hs hl).mono ?_
      rintro e w2 ⟨p, q, rfl, hCa, hb⟩
      obtain ⟨P, c2, Q, d2, hpq, _, _, _⟩ := hCa.ex
      injection hpq with hpq
      simp only [Array.mk.injEq, List.cons.injEq, and_true, true_and] at hpq
      obtain ⟨rfl, rfl⟩ := hpq
      have Y2 := (Y.alloc (Obj.cells #[.string ky, .string vy] 28)).below hb (Nat.le_refl _)
      have L2 := (L.alloc L.size (Obj.cells #[.string ky, .string vy] 28)).trans (hb.mono (by have := L.size; simp; omega))
      clear hb X R Y L
      obtain ⟨y0, y1, y2, y3, y4⟩ := Y2.f3
      go_wp2
      exact bodyPost_ret (res_cell26 rfl _ (w.heap.size + 1 + 1) rfl _ (Y2.put3 _ _ _)) rfl ⟨_, rfl, hCa.put3 Y2 _ _ _, below_put3 L2 (by omega) _ _ _⟩
    · have hT2 := Lib.hid (HT.out.trans (if_neg (by omega)))
      by_cases h7 : wh % 8 = 7
      · have hT := hT2.out.trans (if_pos h7)
        subst hT
        go_wp2_with fail
        refine (rdrop_any room l _ ky _ hCa hs).mono ?_
        rintro e w2 ⟨V', rfl, hCa, hb⟩
        obtain ⟨P, c2, Q, d2, rfl, _, _, _⟩ := hCa.ex
        have Y2 := (Y.alloc (Obj.cells #[.string ky, .string vy] 28)).below hb (Nat.le_refl _)
        have L2 := (L.alloc L.size (Obj.cells #[.string ky, .string vy] 28)).trans (hb.mono (by have := L.size; simp; omega))
        clear hb X R Y L
        obtain ⟨y0, y1, y2, y3, y4⟩ := Y2.f3
        go_wp2
        exact bodyPost_ret (res_cell26 rfl _ (w.heap.size + 1 + 1) rfl _ (Y2.put3 _ _ _)) rfl ⟨_, rfl, hCa.put3 Y2 _ _ _, below_put3 L2 (by omega) _ _ _⟩
      · have hT := hT2.out.trans (if_neg h7)
        subst hT
        go_wp2_with fail
        refine (rput_any room l _ ky vy _ hCa hs hl hz1 hz2).mono ?_
        rintro e w2 ⟨V', rfl, hCa, hb⟩
        obtain ⟨P, c2, Q, d2, rfl, _, _, _⟩ := hCa.ex
        have Y2 := (Y.alloc (Obj.cells #[.string ky, .string vy] 28)).below hb (Nat.le_refl _)
        have L2 := (L.alloc L.size (Obj.cells #[.string ky, .string vy] 28)).trans (hb.mono (by have := L.size; simp; omega))
        clear hb X R Y L
        obtain ⟨y0, y1, y2, y3, y4⟩ := Y2.f3
        go_wp2
        exact bodyPost_ret (res_cell26 rfl _ (w.heap.size + 1 + 1) rfl _ (Y2.put3 _ _ _)) rfl ⟨_, rfl, hCa.put3 Y2 _ _ _, below_put3 L2 (by omega) _ _ _⟩
end Go.Proofs.Ytecdmgcgplohoaa
