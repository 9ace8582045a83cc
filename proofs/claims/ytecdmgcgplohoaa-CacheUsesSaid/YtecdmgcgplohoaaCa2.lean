import Derived.Test.YtecdmgcgplohoaaCa1
namespace Go.Proofs.Ytecdmgcgplohoaa
open Go.ChangeShapes Go.WideShapes Go.ChangeAt Go.RowKit
set_option linter.unusedVariables false
set_option linter.unusedSimpArgs false
attribute [local go_sem] ba_beq

abbrev En := BA × BA
def ecells (l : List En) : List Value := l.flatMap fun e => [.string e.1, .string e.2]
def keys (l : List En) : List BA := l.map (·.1)
def vals (l : List En) : List BA := l.map (·.2)
theorem ecells_len (l : List En) : (ecells l).length = l.length * 2 := by
  induction l with
  | nil => rfl
  | cons a l ih => simp only [ecells, List.flatMap_cons, List.length_append, List.length_cons, List.length_nil] at *; omega
theorem ecells_append (l m : List En) : ecells (l ++ m) = ecells l ++ ecells m := by simp [ecells]
theorem ecells_at (l : List En) (k : Nat) (h : k < l.length) : (ecells l)[k * 2]? = some (.string l[k].1) ∧ (ecells l)[k * 2 + 1]? = some (.string l[k].2) := by
  induction l generalizing k with
  | nil => simp at h
  | cons a l ih =>
    cases k with
    | zero => simp [ecells]
    | succ k =>
      have := ih k (by simpa using h)
      simp only [ecells, List.flatMap_cons] at *
      have e1 : (k + 1) * 2 = k * 2 + 1 + 1 := by omega
      rw [e1]
      simpa using this
theorem ecells_one (l : List En) : ∀ u ∈ ecells l, u.oneCell' = true := by
  intro u hu
  simp only [ecells, List.mem_flatMap] at hu
  obtain ⟨p, _, hu⟩ := hu
  simp at hu
  rcases hu with rfl | rfl <;> rfl
theorem strs_one (l : List BA) : ∀ u ∈ strs l, u.oneCell' = true := by
  intro u hu
  simp only [strs, List.mem_map] at hu
  obtain ⟨p, _, rfl⟩ := hu
  rfl
theorem strs_len (l : List BA) : (strs l).length = l.length := by simp [strs]
theorem take_snoc {α : Type} (l : List α) (k : Nat) (h : k < l.length) : l.take (k + 1) = l.take k ++ [l[k]] := by
  rw [List.take_add_one, List.getElem?_eq_getElem h]; rfl
theorem ent_info : (Try.prog.info? 28).map (fun i => (i.zero, i.size, i.bytes)) = some (some (.agg #[.string ByteArray.empty, .string ByteArray.empty]), 2, 32) := by kernel_rfl
theorem Rd.one {w : World} {e : TypeId} {A : Option Addr} {n i : Nat} {xs : List Value} {u0 : Value} (h : Rd w e 1 A n xs) (hi : i < n) (h0 : xs[i]? = some u0) :
    ∃ ad, A = some ad ∧ ad.block < w.heap.size ∧ w.cell? (ad.add i) = some u0 := by
  obtain ⟨ad, ea, hb, _, hc⟩ := h.2 (by omega)
  exact ⟨ad, ea, hb, hc _ _ h0⟩
/-- a cache, as a value, in a world -/
structure Ca (w : World) (room : Int) (l : List En) (V : Value) : Prop where
  ex : ∃ A c B d, V = .agg #[.int .i64 room, .slice A l.length c, .slice B l.length d] ∧ Rd w 9 1 A l.length (strs (keys l)) ∧ Rd w 9 1 B l.length (strs (vals l)) ∧ l.length ≤ c ∧ c ≤ maxLen ∧ l.length ≤ d ∧ d ≤ maxLen
/-- the weight of an entry -/
def wt (e : En) : Int := 1 + ((e.1.size : Int) + e.2.size) / 64
/-- entries of a bounded size -/
def Sm (l : List En) : Prop := l.length ≤ 64 ∧ ∀ e ∈ l, e.1.size ≤ 1000 ∧ e.2.size ≤ 1000
theorem weight_any (k v : BA) (w : World) (h1 : k.size ≤ 1000) (h2 : v.size ≤ 1000) :
    Calls Try.prog 25 #[.agg #[.string k, .string v]] w fun e w' => e = .returned (.int .i64 (wt (k, v))) ∧ Below w.heap.size w w' := by
  go_enter Try.func25, Try.ntmps25
  go_wp2
  go_returns
  exact ⟨rfl, by go_grown⟩
set_option maxHeartbeats 1000000 in
set_option maxRecDepth 100000 in
theorem entries_any (room : Int) (l : List En) (V : Value) (w : World) (hV : Ca w room l V) (hs : Sm l) :
    Calls Try.prog 23 #[V] w fun e w' => ∃ v, e = .returned v ∧ Sl 28 2 l.length (ecells l) v w' ∧ Below w.heap.size w w' := by
  obtain ⟨A, c, B, d, rfl, hA, hB, hc1, hc2, hd1, hd2⟩ := hV.ex
  clear hV
  have hl := hs.1
  obtain ⟨i0, hi0, hz0, hz1, hz2⟩ := info_parts ent_info
  unfold maxLen at hc2 hd2
  generalize hN : l.length = n at *
  have HN := Lib.hid hN; clear hN
  go_enter Try.func23, Try.ntmps23
  go_wp2_with fail
  go_loopw [3, 4] (fun v i wr => ∃ k : Nat, k ≤ n ∧ i = .int .i64 k ∧ wr.ownsRow (w.heap.size + 1) 28 2 v k (ecells (l.take k)) ∧ Below (w.heap.size + 1) (w.alloc (Obj.cells #[.int .i64 room, .slice A n c, .slice B n d] 26)) wr) (fun _ i _ => 100 - (intOf i).toNat)
  case atStart =>
    refine ⟨0, by omega, rfl, ?_, (Below.refl _ _).alloc (by simp) _⟩
    have h := World.ownsRow_made (base := w.heap.size + 1) (e := 28) (size := 2) (w.alloc (Obj.cells #[.int .i64 room, .slice A n c, .slice B n d] 26)) #[] 0 (by simp) (by simp [maxLen]) (by simp)
    simpa [ecells] using h
  case round =>
    obtain ⟨k, hk, rfl, hown, hbw⟩ := hrel
    have hX := (Blk.new w 26 #[.int .i64 room, .slice A n c, .slice B n d]).below hbw (by simp)
    by_cases hlt : k < n
    · have hkl : k < l.length := by rw [HN.out]; exact hlt
      have hlt' : (k : Int) < (n : Int) := by omega
      have hnext : ecells (l.take (k + 1)) = ecells (l.take k) ++ [.string l[k].1, .string l[k].2] := by
        rw [take_snoc l k hkl, ecells_append]; rfl
      have ha : (strs (keys l))[k]? = some (.string l[k].1) := by simp [strs, keys, hkl]
      have hb' : (strs (vals l))[k]? = some (.string l[k].2) := by simp [strs, vals, hkl]
      have hA2 := ((hA.alloc (Obj.cells #[.int .i64 room, .slice A n c, .slice B n d] 26)).below hbw (by simp)).drew
      have hB2 := ((hB.alloc (Obj.cells #[.int .i64 room, .slice A n c, .slice B n d] 26)).below hbw (by simp)).drew
      obtain ⟨a1, h1, _, _⟩ := hA2.one hlt ha
      obtain ⟨b1, h2, _, _⟩ := hB2.one hlt hb'
      subst h1 h2
      have hc : ∀ W, Ext wr.drew W → W.cell? ⟨w.heap.size, 1, none⟩ = some (.slice (some a1) n c) ∧ W.cell? ⟨w.heap.size, 2, none⟩ = some (.slice (some b1) n d) ∧ W.cell? (a1.add k) = some (.string l[k].1) ∧ W.cell? (b1.add k) = some (.string l[k].2) := fun W hE => by
        obtain ⟨_, y1, y2, _, _⟩ := (hX.drew.ext hE).f3
        obtain ⟨_, e, _, g1⟩ := (hA2.ext hE).one hlt ha
        injection e with e; subst e
        obtain ⟨_, e, _, g2⟩ := (hB2.ext hE).one hlt hb'
        injection e with e; subst e
        exact ⟨y1, y2, g1, g2⟩
      have HX := Lib.hid hnext; have HC := Lib.hid hc
      clear hnext hc ha hb' hA2 hB2 hA hB
      generalize l[k] = pq at *
      obtain ⟨kk, vv⟩ := pq
      obtain ⟨x0, x1, x2, x3, x4⟩ := hX.f3
      go_wp2_with fail
      refine wp_region_list2 (by kernel_rfl) 13 Ext [(12, Sl 28 2 1 [.string kk, .string vv])] (by kernel_rfl) (fun _ _ d _ _ h => by cases d <;> exact h) rfl Ext.refl (fun _ _ _ => Ext.trans) ⟨fun _ _ _ => Sl.ext, trivial⟩ ?_
      simp only [List.take_succ_cons, List.take_zero, List.take_nil, List.drop_succ_cons, List.drop_zero, List.drop_nil]
      iterate 12
        refine ph_pure (a' := ?_) rfl rfl ?_ (fun w9 hE hG => pureAt_plain rfl ?_) ?_ ?_
        rotate_left 2
        · clear hG; obtain ⟨c1, c2, d1, d2⟩ := HC.out w9 hE; (go_simp; try go_bits); rfl
        · go_simp; rfl
      refine ph_op rfl rfl (fun w9 hE hG => opAt_plain rfl ?_) (fun v hv => ?_)
      · clear hG; obtain ⟨c1, c2, d1, d2⟩ := HC.out w9 hE; (go_simp; try go_bits)
        exact ⟨Ext.alloc _ _, _, _, rfl, Rd.newAt _ _ rfl 28 2 1 #[.string kk, .string vv] (0, 0) _ rfl rfl, Nat.le_refl _, by simp [maxLen]⟩
      obtain ⟨_, _, A1, c1', rfl, _, _, _⟩ := hv
      go_simp
      refine ph_end (fun w9 hE hG => ?_)
      simp only [List.forall_mem_cons] at hG
      obtain ⟨_, hrd, _, _⟩ := hG.1.at_
      have L9 := hbw.drew.trans (hE.below.mono (by have := hbw.size; simpa using this))
      have O9 := own_below (own_drewN hown 1) hE (Nat.le_refl _)
      clear hE hG hown HC
      go_wp2_with (at_builtin; apply halt_here)
      apply go_on
      refine wpList_app rfl _ _ 45 rfl (w.heap.size + 1) 28 i0 _ 2 32 Try.underlying45 hi0 hz0 hz1 hz2 rfl (by decide) _ _ _ rfl O9 28 _ 1 _ _ rfl hrd (by simp [Value.oneCell']) (by simp only [maxLen]; omega) (by omega) (by have := L9.size; simpa using this) ?_
      intro v' w8 hown2 _ _ hbb
      have hb3 := L9.trans hbb
      rw [← HX.out] at hown2
      clear hbb L9 O9 hbw
      go_wp2
      go_roundw
      case rel => exact ⟨k + 1, by omega, by go_num, hown2, hb3⟩
      case measure => simp only [intOf]; omega
    · have hfin : ecells (l.take k) = ecells l ∧ k = n := by
        have hlen := HN.out
        rw [List.take_of_length_le (by omega)]
        exact ⟨rfl, by omega⟩
      obtain ⟨hf1, rfl⟩ := hfin
      rw [hf1] at hown
      obtain ⟨A', c', rfl, hrd, hc1', hc2'⟩ := own_form hown
      have hpost : Sl 28 2 k (ecells l) (.slice A' k c') wr := ⟨A', c', rfl, hrd, hc1', hc2'⟩
      have hbz : Below w.heap.size w wr := Below.trans (by go_grown) (hbw.mono (by omega))
      have HP := Lib.hid (And.intro hpost hbz)
      obtain ⟨x0, x1, x2, x3, x4⟩ := hX.f3
      clear hpost hrd hown hbw hbz
      go_wp2
      go_ret
      exact ⟨_, rfl, HP.out.1, HP.out.2⟩
end Go.Proofs.Ytecdmgcgplohoaa
