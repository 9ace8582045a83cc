import Derived.Test.YtecdmgcgplohoaaCa17
import Derived.Test.YtecdmgcgplohoaaCa15
namespace Go.Proofs.Ytecdmgcgplohoaa
open Go.ChangeShapes Go.WideShapes Go.ChangeAt Go.RowKit
set_option linter.unusedVariables false
set_option linter.unusedSimpArgs false
attribute [local go_sem] ba_beq ba_bne

abbrev ch (n : UInt8) : BA := { data := #[n] }
theorem put_lit (room : Int) (l m : List En) (V : Value) (key val : BA) (w : World) (hV : Ca w room l V) (hm : fit room 0 ((key, val) :: wo l key) = m) (hs : l.length ≤ 60 ∧ ∀ e ∈ l, e.1.size ≤ 1000 ∧ e.2.size ≤ 1000) (hnd : (keys l).Nodup) (h1 : key.size ≤ 1000) (h2 : val.size ≤ 1000) :
    Calls Try.prog 14 #[V, .string key, .string val] w fun e w' => ∃ V', e = .returned V' ∧ Ca w' room m V' ∧ Below w.heap.size w w' := by
  rw [← hm]; exact put_any room l V key val w hV ⟨by omega, hs.2⟩ (by omega) hnd h1 h2
theorem get_lit (room : Int) (l m : List En) (V : Value) (key val : BA) (is : Bool) (w : World) (hV : Ca w room l V) (hm : gl room l key = m) (hv : gv l key = val) (hi : gi l key = is) (hs : l.length ≤ 60 ∧ ∀ e ∈ l, e.1.size ≤ 1000 ∧ e.2.size ≤ 1000) (hnd : (keys l).Nodup) (h1 : key.size ≤ 1000) :
    Calls Try.prog 26 #[V, .string key] w fun e w' => ∃ A a B b, e = .returned (.tuple #[.agg #[.int .i64 room, .slice A m.length a, .slice B m.length b], .string val, .bool is]) ∧ Ca w' room m (.agg #[.int .i64 room, .slice A m.length a, .slice B m.length b]) ∧ Below w.heap.size w w' := by
  refine (get_any room l V key w hV ⟨by omega, hs.2⟩ (by omega) hnd h1).mono ?_
  rintro e w' ⟨p, q, rfl, hCa, hb⟩
  rw [hm] at hCa
  rw [hv, hi]
  have hCa2 := hCa
  obtain ⟨P, c2, Q, d2, hpq, _, _, _⟩ := hCa.ex
  injection hpq with hpq
  simp only [Array.mk.injEq, List.cons.injEq, and_true, true_and] at hpq
  obtain ⟨rfl, rfl⟩ := hpq
  exact ⟨_, _, _, _, rfl, hCa2, hb⟩
theorem drop_lit (room : Int) (l m : List En) (V : Value) (key : BA) (w : World) (hV : Ca w room l V) (hm : wo l key = m) (hs : l.length ≤ 60 ∧ ∀ e ∈ l, e.1.size ≤ 1000 ∧ e.2.size ≤ 1000) (hnd : (keys l).Nodup) :
    Calls Try.prog 16 #[V, .string key] w fun e w' => ∃ V', e = .returned V' ∧ Ca w' room m V' ∧ Below w.heap.size w w' := by
  rw [← hm]; exact drop_any room l V key w hV ⟨by omega, hs.2⟩ hnd
theorem ca_nil (w : World) (room : Int) : Ca w room [] (.agg #[.int .i64 room, .slice none 0 0, .slice none 0 0]) :=
  ⟨⟨none, 0, none, 0, rfl, Rd.nil, Rd.nil, Nat.le_refl _, by simp [maxLen], Nat.le_refl _, by simp [maxLen]⟩⟩
example : fit 2 0 ((ch 99, ch 51) :: wo [(ch 98, ch 50), (ch 97, ch 49)] (ch 99)) = [(ch 99, ch 51), (ch 98, ch 50)] := by decide
theorem Rd.of_blk {w : World} {g : Nat} {e : TypeId} {cs : Array Value} (h : Blk w g e cs) : Rd w e 1 (some ⟨g, 0, none⟩) cs.size cs.toList := by
  refine ⟨by simp, fun _ => ⟨_, rfl, h.lt, .inr ⟨cs, (0, 0), h⟩, fun j u hu => ?_⟩⟩
  have hz : (⟨g, 0, none⟩ : Addr).add j = ⟨g, j, none⟩ := by simp [Addr.add]; exact fun h => h.symm
  rw [hz, h.cell]
  simpa using hu
theorem ca_two {w : World} {g1 g2 : Nat} {k1 k2 v1 v2 : BA} (room : Int) (h1 : Blk w g1 9 #[.string k1, .string k2]) (h2 : Blk w g2 9 #[.string v1, .string v2]) :
    Ca w room [(k1, v1), (k2, v2)] (.agg #[.int .i64 room, .slice (some ⟨g1, 0, none⟩) 2 2, .slice (some ⟨g2, 0, none⟩) 2 2]) :=
  ⟨⟨_, 2, _, 2, rfl, Rd.of_blk h1, Rd.of_blk h2, Nat.le_refl _, by simp [maxLen], Nat.le_refl _, by simp [maxLen]⟩⟩
theorem ca_one {w : World} {g1 g2 : Nat} {k1 v1 : BA} (room : Int) (h1 : Blk w g1 9 #[.string k1]) (h2 : Blk w g2 9 #[.string v1]) :
    Ca w room [(k1, v1)] (.agg #[.int .i64 room, .slice (some ⟨g1, 0, none⟩) 1 1, .slice (some ⟨g2, 0, none⟩) 1 1]) :=
  ⟨⟨_, 1, _, 1, rfl, Rd.of_blk h1, Rd.of_blk h2, Nat.le_refl _, by simp [maxLen], Nat.le_refl _, by simp [maxLen]⟩⟩
set_option maxHeartbeats 2000000 in
set_option maxRecDepth 100000 in
theorem sanity_any (w : World) : Calls Try.prog 9 #[] w fun e w' => e = .returned (.bool true) ∧ Below w.heap.size w w' := by
  go_enter Try.func9, Try.ntmps9
  go_wp2_with fail
  refine (put_lit 2 [] [(ch 97, ch 49)] _ (ch 97) (ch 49) _ (ca_nil _ 2) (by decide) (by decide) (by decide) (by decide) (by decide)).mono ?_
  rintro e w1 ⟨V1, rfl, C1, hb⟩
  have L1 := hb
  clear hb
  go_wp2_with fail
  refine (put_lit 2 [(ch 97, ch 49)] [(ch 98, ch 50), (ch 97, ch 49)] _ (ch 98) (ch 50) _ C1 (by decide) (by decide) (by decide) (by decide) (by decide)).mono ?_
  rintro e w2 ⟨V2, rfl, C2, hb⟩
  have L2 := L1.trans (hb.mono L1.size)
  clear hb L1 C1
  go_wp2_with fail
  refine (put_lit 2 [(ch 98, ch 50), (ch 97, ch 49)] [(ch 99, ch 51), (ch 98, ch 50)] _ (ch 99) (ch 51) _ C2 (by decide) (by decide) (by decide) (by decide) (by decide)).mono ?_
  rintro e w3 ⟨V3, rfl, C3, hb⟩
  have L3 := L2.trans (hb.mono L2.size)
  clear hb L2 C2
  obtain ⟨A3, a3, B3, b3, rfl, _, _, _⟩ := C3.ex
  go_wp2_with fail
  have X3 := Blk.new w3 26 #[.int .i64 2, .slice A3 2 a3, .slice B3 2 b3]
  refine (get_lit 2 [(ch 99, ch 51), (ch 98, ch 50)] [(ch 98, ch 50), (ch 99, ch 51)] _ (ch 98) (ch 50) true _ (C3.ext (Ext.alloc _ _)) (by decide) (by decide) (by decide) (by decide) (by decide) (by decide)).mono ?_
  rintro e w4 ⟨A4, a4, B4, b4, rfl, C4, hb⟩
  have L4 : Below w.heap.size w w4 := (L3.alloc L3.size _).trans (hb.mono (by have := L3.size; simp; omega))
  replace C3 := (C3.ext (Ext.alloc _ _)).below hb (Nat.le_refl _)
  replace X3 := X3.below hb (Nat.le_refl _)
  clear hb L3
  obtain ⟨x0, x1, x2, x3, x4⟩ := X3.f3
  go_wp2_with fail
  have X4 := Blk.new w4 26 #[.int .i64 2, .slice A4 2 a4, .slice B4 2 b4]
  refine (get_lit 2 [(ch 99, ch 51), (ch 98, ch 50)] [(ch 99, ch 51), (ch 98, ch 50)] _ (ch 97) { data := #[] } false _ (C3.ext (Ext.alloc _ _)) (by decide) (by decide) (by decide) (by decide) (by decide) (by decide)).mono ?_
  rintro e w5 ⟨A5, a5, B5, b5, rfl, C5, hb⟩
  have L5 : Below w.heap.size w w5 := (L4.alloc L4.size _).trans (hb.mono (by have := L4.size; simp; omega))
  replace C3 := (C3.ext (Ext.alloc _ _)).below hb (Nat.le_refl _)
  replace C4 := (C4.ext (Ext.alloc _ _)).below hb (Nat.le_refl _)
  replace X3 := (X3.alloc _).below hb (Nat.le_refl _)
  replace X4 := X4.below hb (Nat.le_refl _)
  clear hb L4 x0 x1 x2 x3 x4
  obtain ⟨x0, x1, x2, x3, x4⟩ := X3.f3
  obtain ⟨z0, z1, z2, z3, z4⟩ := X4.f3
  go_wp2_with fail
  refine (put_lit 2 [(ch 98, ch 50), (ch 99, ch 51)] [(ch 97, ch 52), (ch 98, ch 50)] _ (ch 97) (ch 52) _ (C4.ext (Ext.alloc _ _)) (by decide) (by decide) (by decide) (by decide) (by decide)).mono ?_
  rintro e w6 ⟨V6, rfl, C6, hb⟩
  obtain ⟨A6, a6, B6, b6, rfl, _, _, _⟩ := C6.ex
  have L6 : Below w.heap.size w w6 := (L5.alloc L5.size _).trans (hb.mono (by have := L5.size; simp; omega))
  replace C3 := (C3.ext (Ext.alloc _ _)).below hb (Nat.le_refl _)
  replace C4 := (C4.ext (Ext.alloc _ _)).below hb (Nat.le_refl _)
  replace X3 := (X3.alloc _).below hb (Nat.le_refl _)
  replace X4 := (X4.alloc _).below hb (Nat.le_refl _)
  clear hb L5 C5 x0 x1 x2 x3 x4 z0 z1 z2 z3 z4
  go_wp2_with fail
  have X6 := Blk.new w6 26 #[.int .i64 2, .slice A6 2 a6, .slice B6 2 b6]
  refine (drop_lit 2 [(ch 97, ch 52), (ch 98, ch 50)] [(ch 97, ch 52)] _ (ch 98) _ (C6.ext (Ext.alloc _ _)) (by decide) (by decide) (by decide)).mono ?_
  rintro e w7 ⟨V7, rfl, C7, hb⟩
  obtain ⟨A7, a7, B7, b7, rfl, _, _, _⟩ := C7.ex
  have L7 : Below w.heap.size w w7 := (L6.alloc L6.size _).trans (hb.mono (by have := L6.size; simp; omega))
  replace C3 := (C3.ext (Ext.alloc _ _)).below hb (Nat.le_refl _)
  replace C4 := (C4.ext (Ext.alloc _ _)).below hb (Nat.le_refl _)
  replace C6 := (C6.ext (Ext.alloc _ _)).below hb (Nat.le_refl _)
  replace X3 := (X3.alloc _).below hb (Nat.le_refl _)
  replace X4 := (X4.alloc _).below hb (Nat.le_refl _)
  replace X6 := X6.below hb (Nat.le_refl _)
  clear hb L6
  obtain ⟨x0, x1, x2, x3, x4⟩ := X3.f3
  obtain ⟨z0, z1, z2, z3, z4⟩ := X4.f3
  obtain ⟨u0, u1, u2, u3, u4⟩ := X6.f3
  go_wp2_with fail
  have X7 := Blk.new w7 26 #[.int .i64 2, .slice A7 1 a7, .slice B7 1 b7]
  replace C3 := C3.ext (Ext.alloc _ (Obj.cells #[.int .i64 2, .slice A7 1 a7, .slice B7 1 b7] 26))
  replace C4 := C4.ext (Ext.alloc _ (Obj.cells #[.int .i64 2, .slice A7 1 a7, .slice B7 1 b7] 26))
  replace C6 := C6.ext (Ext.alloc _ (Obj.cells #[.int .i64 2, .slice A7 1 a7, .slice B7 1 b7] 26))
  replace C7 := C7.ext (Ext.alloc _ (Obj.cells #[.int .i64 2, .slice A7 1 a7, .slice B7 1 b7] 26))
  replace X3 := X3.alloc (Obj.cells #[.int .i64 2, .slice A7 1 a7, .slice B7 1 b7] 26)
  replace X4 := X4.alloc (Obj.cells #[.int .i64 2, .slice A7 1 a7, .slice B7 1 b7] 26)
  replace X6 := X6.alloc (Obj.cells #[.int .i64 2, .slice A7 1 a7, .slice B7 1 b7] 26)
  have LL7 := L7.alloc L7.size (Obj.cells #[.int .i64 2, .slice A7 1 a7, .slice B7 1 b7] 26)
  clear x0 x1 x2 x3 x4 z0 z1 z2 z3 z4 u0 u1 u2 u3 u4 L7
  have K8 := (Blk.newAt (w7.alloc (Obj.cells #[.int .i64 2, .slice A7 1 a7, .slice B7 1 b7] 26)) (w7.heap.size + 1) (by simp) 9 #[.string { data := #[99] }, .string { data := #[98] }]).alloc (Obj.cells #[.string { data := #[51] }, .string { data := #[50] }] 9)
  have V8 := Blk.newAt ((w7.alloc (Obj.cells #[.int .i64 2, .slice A7 1 a7, .slice B7 1 b7] 26)).alloc (Obj.cells #[.string { data := #[99] }, .string { data := #[98] }] 9)) (w7.heap.size + 1 + 1) (by simp) 9 #[.string { data := #[51] }, .string { data := #[50] }]
  have LA8 := (LL7.alloc LL7.size (Obj.cells #[.string { data := #[99] }, .string { data := #[98] }] 9)).alloc (LL7.alloc LL7.size (Obj.cells #[.string { data := #[99] }, .string { data := #[98] }] 9)).size (Obj.cells #[.string { data := #[51] }, .string { data := #[50] }] 9)
  refine (same_any 2 2 _ _ _ _ _ ((C3.ext (Ext.alloc _ _)).ext (Ext.alloc _ _)) (ca_two 2 K8 V8) (by decide) true (by decide)).mono ?_
  rintro e w8 ⟨rfl, hb⟩
  have LL8 := LA8.trans (hb.mono LA8.size)
  replace C3 := ((C3.ext (Ext.alloc _ (Obj.cells #[.string { data := #[99] }, .string { data := #[98] }] 9))).ext (Ext.alloc _ (Obj.cells #[.string { data := #[51] }, .string { data := #[50] }] 9))).below hb (Nat.le_refl _)
  replace X3 := ((X3.alloc (Obj.cells #[.string { data := #[99] }, .string { data := #[98] }] 9)).alloc (Obj.cells #[.string { data := #[51] }, .string { data := #[50] }] 9)).below hb (Nat.le_refl _)
  replace C4 := ((C4.ext (Ext.alloc _ (Obj.cells #[.string { data := #[99] }, .string { data := #[98] }] 9))).ext (Ext.alloc _ (Obj.cells #[.string { data := #[51] }, .string { data := #[50] }] 9))).below hb (Nat.le_refl _)
  replace X4 := ((X4.alloc (Obj.cells #[.string { data := #[99] }, .string { data := #[98] }] 9)).alloc (Obj.cells #[.string { data := #[51] }, .string { data := #[50] }] 9)).below hb (Nat.le_refl _)
  replace C6 := ((C6.ext (Ext.alloc _ (Obj.cells #[.string { data := #[99] }, .string { data := #[98] }] 9))).ext (Ext.alloc _ (Obj.cells #[.string { data := #[51] }, .string { data := #[50] }] 9))).below hb (Nat.le_refl _)
  replace X6 := ((X6.alloc (Obj.cells #[.string { data := #[99] }, .string { data := #[98] }] 9)).alloc (Obj.cells #[.string { data := #[51] }, .string { data := #[50] }] 9)).below hb (Nat.le_refl _)
  replace C7 := ((C7.ext (Ext.alloc _ (Obj.cells #[.string { data := #[99] }, .string { data := #[98] }] 9))).ext (Ext.alloc _ (Obj.cells #[.string { data := #[51] }, .string { data := #[50] }] 9))).below hb (Nat.le_refl _)
  replace X7 := ((X7.alloc (Obj.cells #[.string { data := #[99] }, .string { data := #[98] }] 9)).alloc (Obj.cells #[.string { data := #[51] }, .string { data := #[50] }] 9)).below hb (Nat.le_refl _)
  clear hb K8 V8 LA8 LL7
  obtain ⟨x30, x31, x32, x33, x34⟩ := X3.f3
  obtain ⟨x40, x41, x42, x43, x44⟩ := X4.f3
  obtain ⟨x60, x61, x62, x63, x64⟩ := X6.f3
  obtain ⟨x70, x71, x72, x73, x74⟩ := X7.f3
  go_wp2_with fail
  clear x30 x31 x32 x33 x34 x40 x41 x42 x43 x44 x60 x61 x62 x63 x64 x70 x71 x72 x73 x74
  have K9 := (Blk.newAt w8 (w8.heap.size) (by simp) 9 #[.string { data := #[98] }, .string { data := #[99] }]).alloc (Obj.cells #[.string { data := #[50] }, .string { data := #[51] }] 9)
  have V9 := Blk.newAt (w8.alloc (Obj.cells #[.string { data := #[98] }, .string { data := #[99] }] 9)) (w8.heap.size + 1) (by simp) 9 #[.string { data := #[50] }, .string { data := #[51] }]
  have LA9 := (LL8.alloc LL8.size (Obj.cells #[.string { data := #[98] }, .string { data := #[99] }] 9)).alloc (LL8.alloc LL8.size (Obj.cells #[.string { data := #[98] }, .string { data := #[99] }] 9)).size (Obj.cells #[.string { data := #[50] }, .string { data := #[51] }] 9)
  refine (same_any 2 2 _ _ _ _ _ ((C4.ext (Ext.alloc _ _)).ext (Ext.alloc _ _)) (ca_two 2 K9 V9) (by decide) true (by decide)).mono ?_
  rintro e w9 ⟨rfl, hb⟩
  have LL9 := LA9.trans (hb.mono LA9.size)
  replace C3 := ((C3.ext (Ext.alloc _ (Obj.cells #[.string { data := #[98] }, .string { data := #[99] }] 9))).ext (Ext.alloc _ (Obj.cells #[.string { data := #[50] }, .string { data := #[51] }] 9))).below hb (Nat.le_refl _)
  replace X3 := ((X3.alloc (Obj.cells #[.string { data := #[98] }, .string { data := #[99] }] 9)).alloc (Obj.cells #[.string { data := #[50] }, .string { data := #[51] }] 9)).below hb (Nat.le_refl _)
  replace C4 := ((C4.ext (Ext.alloc _ (Obj.cells #[.string { data := #[98] }, .string { data := #[99] }] 9))).ext (Ext.alloc _ (Obj.cells #[.string { data := #[50] }, .string { data := #[51] }] 9))).below hb (Nat.le_refl _)
  replace X4 := ((X4.alloc (Obj.cells #[.string { data := #[98] }, .string { data := #[99] }] 9)).alloc (Obj.cells #[.string { data := #[50] }, .string { data := #[51] }] 9)).below hb (Nat.le_refl _)
  replace C6 := ((C6.ext (Ext.alloc _ (Obj.cells #[.string { data := #[98] }, .string { data := #[99] }] 9))).ext (Ext.alloc _ (Obj.cells #[.string { data := #[50] }, .string { data := #[51] }] 9))).below hb (Nat.le_refl _)
  replace X6 := ((X6.alloc (Obj.cells #[.string { data := #[98] }, .string { data := #[99] }] 9)).alloc (Obj.cells #[.string { data := #[50] }, .string { data := #[51] }] 9)).below hb (Nat.le_refl _)
  replace C7 := ((C7.ext (Ext.alloc _ (Obj.cells #[.string { data := #[98] }, .string { data := #[99] }] 9))).ext (Ext.alloc _ (Obj.cells #[.string { data := #[50] }, .string { data := #[51] }] 9))).below hb (Nat.le_refl _)
  replace X7 := ((X7.alloc (Obj.cells #[.string { data := #[98] }, .string { data := #[99] }] 9)).alloc (Obj.cells #[.string { data := #[50] }, .string { data := #[51] }] 9)).below hb (Nat.le_refl _)
  clear hb K9 V9 LA9 LL8
  obtain ⟨x30, x31, x32, x33, x34⟩ := X3.f3
  obtain ⟨x40, x41, x42, x43, x44⟩ := X4.f3
  obtain ⟨x60, x61, x62, x63, x64⟩ := X6.f3
  obtain ⟨x70, x71, x72, x73, x74⟩ := X7.f3
  go_wp2_with fail
  clear x30 x31 x32 x33 x34 x40 x41 x42 x43 x44 x60 x61 x62 x63 x64 x70 x71 x72 x73 x74
  have K10 := (Blk.newAt w9 (w9.heap.size) (by simp) 9 #[.string { data := #[97] }, .string { data := #[98] }]).alloc (Obj.cells #[.string { data := #[52] }, .string { data := #[50] }] 9)
  have V10 := Blk.newAt (w9.alloc (Obj.cells #[.string { data := #[97] }, .string { data := #[98] }] 9)) (w9.heap.size + 1) (by simp) 9 #[.string { data := #[52] }, .string { data := #[50] }]
  have LA10 := (LL9.alloc LL9.size (Obj.cells #[.string { data := #[97] }, .string { data := #[98] }] 9)).alloc (LL9.alloc LL9.size (Obj.cells #[.string { data := #[97] }, .string { data := #[98] }] 9)).size (Obj.cells #[.string { data := #[52] }, .string { data := #[50] }] 9)
  refine (same_any 2 2 _ _ _ _ _ ((C6.ext (Ext.alloc _ _)).ext (Ext.alloc _ _)) (ca_two 2 K10 V10) (by decide) true (by decide)).mono ?_
  rintro e w10 ⟨rfl, hb⟩
  have LL10 := LA10.trans (hb.mono LA10.size)
  replace C3 := ((C3.ext (Ext.alloc _ (Obj.cells #[.string { data := #[97] }, .string { data := #[98] }] 9))).ext (Ext.alloc _ (Obj.cells #[.string { data := #[52] }, .string { data := #[50] }] 9))).below hb (Nat.le_refl _)
  replace X3 := ((X3.alloc (Obj.cells #[.string { data := #[97] }, .string { data := #[98] }] 9)).alloc (Obj.cells #[.string { data := #[52] }, .string { data := #[50] }] 9)).below hb (Nat.le_refl _)
  replace C4 := ((C4.ext (Ext.alloc _ (Obj.cells #[.string { data := #[97] }, .string { data := #[98] }] 9))).ext (Ext.alloc _ (Obj.cells #[.string { data := #[52] }, .string { data := #[50] }] 9))).below hb (Nat.le_refl _)
  replace X4 := ((X4.alloc (Obj.cells #[.string { data := #[97] }, .string { data := #[98] }] 9)).alloc (Obj.cells #[.string { data := #[52] }, .string { data := #[50] }] 9)).below hb (Nat.le_refl _)
  replace C6 := ((C6.ext (Ext.alloc _ (Obj.cells #[.string { data := #[97] }, .string { data := #[98] }] 9))).ext (Ext.alloc _ (Obj.cells #[.string { data := #[52] }, .string { data := #[50] }] 9))).below hb (Nat.le_refl _)
  replace X6 := ((X6.alloc (Obj.cells #[.string { data := #[97] }, .string { data := #[98] }] 9)).alloc (Obj.cells #[.string { data := #[52] }, .string { data := #[50] }] 9)).below hb (Nat.le_refl _)
  replace C7 := ((C7.ext (Ext.alloc _ (Obj.cells #[.string { data := #[97] }, .string { data := #[98] }] 9))).ext (Ext.alloc _ (Obj.cells #[.string { data := #[52] }, .string { data := #[50] }] 9))).below hb (Nat.le_refl _)
  replace X7 := ((X7.alloc (Obj.cells #[.string { data := #[97] }, .string { data := #[98] }] 9)).alloc (Obj.cells #[.string { data := #[52] }, .string { data := #[50] }] 9)).below hb (Nat.le_refl _)
  clear hb K10 V10 LA10 LL9
  obtain ⟨x30, x31, x32, x33, x34⟩ := X3.f3
  obtain ⟨x40, x41, x42, x43, x44⟩ := X4.f3
  obtain ⟨x60, x61, x62, x63, x64⟩ := X6.f3
  obtain ⟨x70, x71, x72, x73, x74⟩ := X7.f3
  go_wp2_with fail
  clear x30 x31 x32 x33 x34 x40 x41 x42 x43 x44 x60 x61 x62 x63 x64 x70 x71 x72 x73 x74
  have K11 := (Blk.newAt w10 (w10.heap.size) (by simp) 9 #[.string { data := #[97] }]).alloc (Obj.cells #[.string { data := #[52] }] 9)
  have V11 := Blk.newAt (w10.alloc (Obj.cells #[.string { data := #[97] }] 9)) (w10.heap.size + 1) (by simp) 9 #[.string { data := #[52] }]
  have LA11 := (LL10.alloc LL10.size (Obj.cells #[.string { data := #[97] }] 9)).alloc (LL10.alloc LL10.size (Obj.cells #[.string { data := #[97] }] 9)).size (Obj.cells #[.string { data := #[52] }] 9)
  refine (same_any 2 2 _ _ _ _ _ ((C7.ext (Ext.alloc _ _)).ext (Ext.alloc _ _)) (ca_one 2 K11 V11) (by decide) true (by decide)).mono ?_
  rintro e w11 ⟨rfl, hb⟩
  have LL11 := LA11.trans (hb.mono LA11.size)
  replace C3 := ((C3.ext (Ext.alloc _ (Obj.cells #[.string { data := #[97] }] 9))).ext (Ext.alloc _ (Obj.cells #[.string { data := #[52] }] 9))).below hb (Nat.le_refl _)
  replace X3 := ((X3.alloc (Obj.cells #[.string { data := #[97] }] 9)).alloc (Obj.cells #[.string { data := #[52] }] 9)).below hb (Nat.le_refl _)
  replace C4 := ((C4.ext (Ext.alloc _ (Obj.cells #[.string { data := #[97] }] 9))).ext (Ext.alloc _ (Obj.cells #[.string { data := #[52] }] 9))).below hb (Nat.le_refl _)
  replace X4 := ((X4.alloc (Obj.cells #[.string { data := #[97] }] 9)).alloc (Obj.cells #[.string { data := #[52] }] 9)).below hb (Nat.le_refl _)
  replace C6 := ((C6.ext (Ext.alloc _ (Obj.cells #[.string { data := #[97] }] 9))).ext (Ext.alloc _ (Obj.cells #[.string { data := #[52] }] 9))).below hb (Nat.le_refl _)
  replace X6 := ((X6.alloc (Obj.cells #[.string { data := #[97] }] 9)).alloc (Obj.cells #[.string { data := #[52] }] 9)).below hb (Nat.le_refl _)
  replace C7 := ((C7.ext (Ext.alloc _ (Obj.cells #[.string { data := #[97] }] 9))).ext (Ext.alloc _ (Obj.cells #[.string { data := #[52] }] 9))).below hb (Nat.le_refl _)
  replace X7 := ((X7.alloc (Obj.cells #[.string { data := #[97] }] 9)).alloc (Obj.cells #[.string { data := #[52] }] 9)).below hb (Nat.le_refl _)
  clear hb K11 V11 LA11 LL10
  obtain ⟨x30, x31, x32, x33, x34⟩ := X3.f3
  obtain ⟨x40, x41, x42, x43, x44⟩ := X4.f3
  obtain ⟨x60, x61, x62, x63, x64⟩ := X6.f3
  obtain ⟨x70, x71, x72, x73, x74⟩ := X7.f3
  go_wp2_with fail
  clear x30 x31 x32 x33 x34 x40 x41 x42 x43 x44 x60 x61 x62 x63 x64 x70 x71 x72 x73 x74
  refine (empty_any 2 _ _ _ C6).mono ?_
  rintro e w12 ⟨V12, rfl, C12, hb⟩
  have LL12 := LL11.trans (hb.mono LL11.size)
  clear hb LL11
  go_wp2_with fail
  refine (same_any 2 2 _ _ _ _ _ C12 (ca_nil _ 2) (by decide) true (by decide)).mono ?_
  rintro e w13 ⟨rfl, hb⟩
  have LL13 := LL12.trans (hb.mono LL12.size)
  clear hb LL12 C12
  go_wp2_with fail
  refine (put_lit 0 [] [] _ (ch 97) { data := #[] } _ (ca_nil _ 0) (by decide) (by decide) (by decide) (by decide) (by decide)).mono ?_
  rintro e w14 ⟨V14, rfl, C14, hb⟩
  have LL14 := LL13.trans (hb.mono LL13.size)
  clear hb LL13
  go_wp2_with fail
  refine (same_any 0 0 _ _ _ _ _ C14 (ca_nil _ 0) (by decide) true (by decide)).mono ?_
  rintro e w15 ⟨rfl, hb⟩
  have LL15 := LL14.trans (hb.mono LL14.size)
  clear hb LL14
  go_wp2
  go_ret
  exact ⟨rfl, LL15⟩
end Go.Proofs.Ytecdmgcgplohoaa
