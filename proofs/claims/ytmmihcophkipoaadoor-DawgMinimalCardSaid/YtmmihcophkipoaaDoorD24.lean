/-
  A text that is put together piece by piece (strings.Builder), numerals, and the search for the end of a group of words.
-/
import Derived.Test.YtmmihcophkipoaaDoorD23
import Derived.Test.YtmmihcophkipoaaDoorP3
import Derived.Lib.Builder
import Derived.Lib.AppendStr
import Derived.Lib.UnsafeStr
namespace Go.Proofs.YtmmihcophkipoaaDoor
open Go.ChangeShapes Go.WideShapes Go.ChangeAt Go.RowKit
set_option linter.unusedVariables false
set_option linter.unusedSimpArgs false
attribute [local go_sem] bs_beq bs_bne bs_less bs_size bs_extract
theorem itoa_any (n : Nat) (hn : n ≤ 1000000000) (w : World) (h : Tb w) :
    Calls Tryd.prog 79 #[.int .i64 n] w fun e w' => e = .returned (.string (bs (Lib.decDigits n))) ∧ Ext w w' := itoa_call n hn w h
def boolW (b : Bool) : W := if b = true then [116, 114, 117, 101] else [102, 97, 108, 115, 101]
theorem fbool1_any (b : Bool) (w : World) : Calls Tryd.prog 97 #[.bool b] w fun e w' => e = .returned (.string (bs (boolW b))) ∧ w' = w := by
  cases b
  · go_enter Tryd.func97, Tryd.ntmps97
    go_wp2
    go_ret
    exact ⟨rfl, rfl⟩
  · go_enter Tryd.func97, Tryd.ntmps97
    go_wp2
    go_ret
    exact ⟨rfl, rfl⟩
theorem fbool_any (b : Bool) (w : World) : Calls Tryd.prog 75 #[.bool b] w fun e w' => e = .returned (.string (bs (boolW b))) ∧ w' = w := by
  go_enter Tryd.func75, Tryd.ntmps75
  go_wp2_with fail
  refine (fbool1_any b _).mono ?_
  rintro e w1 ⟨rfl, rfl⟩
  go_wp2
  go_ret
  exact ⟨rfl, rfl⟩
theorem build_info : (Tryd.prog.info? 137).map (·.size) = some 2 := by kernel_rfl
theorem build_lies : liesAt Tryd.prog Tryd.prog.depth 137 (2 / Tryd.prog.cellsOf 137) 0 137 1 = true := by kernel_rfl
theorem byte_cells : Tryd.prog.cellsOf 5 = 1 := by kernel_rfl
set_option maxHeartbeats 1000000 in
set_option maxRecDepth 100000 in
theorem cc_used (b : Nat) (v : Value) (w : World) (h : Blk w b 137 #[.pointer (some ⟨b, 0, none⟩), v]) : Calls Tryd.prog 96 #[.pointer (some ⟨b, 0, none⟩)] w fun e w' => e = .returned (.tuple #[]) ∧ w' = w := by
  obtain ⟨j, hj, _⟩ := Option.map_eq_some_iff.1 build_info
  obtain ⟨h0, h1, h2, h3⟩ := h.f2
  go_enter Tryd.func96, Tryd.ntmps96
  go_wp2
  rw [Lib.run_neq_ptr_same w _ Tryd.underlying135 hj]
  go_wp2
  go_end0
  exact ⟨rfl, rfl⟩
set_option maxHeartbeats 1000000 in
set_option maxRecDepth 100000 in
theorem cc_fresh (b : Nat) (v : Value) (w : World) (h : Blk w b 137 #[.pointer none, v]) : Calls Tryd.prog 96 #[.pointer (some ⟨b, 0, none⟩)] w fun e w' => e = .returned (.tuple #[]) ∧ w' = w.setCell ⟨b, 0, none⟩ (.pointer (some ⟨b, 0, none⟩)) := by
  obtain ⟨j, hj, hjs⟩ := Option.map_eq_some_iff.1 build_info
  obtain ⟨h0, h1, h2, h3⟩ := h.f2
  have hsh : w.shape? b = some (137, 2) := by unfold Blk at h; simp [World.shape?, h]
  go_enter Tryd.func96, Tryd.ntmps96
  go_wp2
  rw [Lib.run_to_unsafe w ⟨b, 0, none⟩ Tryd.underlying135 Tryd.underlying165 hj (by rw [hjs]; decide) hsh (Nat.zero_lt_succ 1)]
  simp only [Result.andThen]
  rw [Oper.upon_value]
  go_wp2
  rw [run_callFunc_extern Tryd.func101 (by kernel_rfl) (by kernel_rfl) (by kernel_rfl) (e := Extern.AbiNoEscape.same) (by kernel_rfl)]
  rw [Lib.run_noEscape]
  simp only [Result.andThen]
  rw [Oper.upon_value]
  go_wp2
  rw [Lib.run_from_unsafe w ⟨b, 0, none⟩ Tryd.underlying165 Tryd.underlying135 hj hsh build_lies]
  simp only [Result.andThen]
  rw [Oper.upon_value]
  go_wp2
  go_end0
  exact ⟨rfl, rfl⟩
theorem run_app_str_at (w : World) (ty : TypeId) (base : Nat) (v : Value) (n : Nat) (xs : List Value) (hown : w.ownsRow base 5 1 v n xs) (s : ByteArray) (hlen : n + s.size ≤ 10000000) {v' : Value} {w' : World}
    (hr : (Builtin.append_ #[23, 9] ty #[v, .string s]).run Tryd.prog w = .ok v' w') : v'.ownBlock = v.ownBlock ∨ v'.ownBlock = some w.heap.size := by
  obtain ⟨i0, hi, hz0, hz1, hz2⟩ := info_parts u8_info
  rcases hown.2 with ⟨rfl, rfl⟩ | ⟨g, cap, cur, rfl, hbg, hg, hnc, hcm, hcs, htake⟩
  · by_cases hm : s.size = 0
    · have hf := Lib.run_firstCells_string (P := Tryd.prog) w 1 s
      rw [hm] at hf
      simp [Builtin.append_, run_underlying Tryd.underlying23, run_underlying Tryd.underlying9, sizeOf, typeInfo, hi, hz1, Builtin.lenOf, hm, hf] at hr
      obtain ⟨rfl, _⟩ := hr
      exact .inl rfl
    · have hr2 := run_append_nil_string (P := Tryd.prog) w 23 9 ty 5 i0 (.int .u8 0) Tryd.underlying23 Tryd.underlying9 hi hz0 s (by omega) (by omega) (by rw [hz2]; omega)
      rw [hr2] at hr
      injection hr with hr1 _
      rw [← hr1]
      exact .inr rfl
  · by_cases hroom : n + s.size ≤ cap
    · have hcs' : cur.size = cap := by simpa using hcs
      have hr2 := Lib.run_append_room_string (P := Tryd.prog) w 23 9 ty 5 i0 Tryd.underlying23 Tryd.underlying9 hi hz1 g n cap cur hg s hroom (by omega)
      rw [hr2] at hr
      injection hr with hr1 _
      rw [← hr1]
      exact .inl rfl
    · have hxl : xs.length = n := by simpa using hown.1
      have holds : ∀ j u, xs[j]? = some u → w.cell? ((⟨g, 0, none⟩ : Addr).add j) = some u := hown.cells (g := g) rfl
      have hr2 := Lib.run_append_grow_string (P := Tryd.prog) w 23 9 ty 5 i0 (.int .u8 0) Tryd.underlying23 Tryd.underlying9 hi hz0 ⟨g, 0, none⟩ n cap xs (by rw [hz1]; simpa using hxl) holds s (by omega) (by omega) (by rw [hz2]; exact growslice_fits (by omega) (by omega))
      rw [hr2] at hr
      injection hr with hr1 _
      rw [← hr1]
      exact .inr rfl
theorem wp_app_text {w : World} {ops : Array Oper} {rest : List Oper} {o : Oper} {a : Act} {Q : Exit → Act → World → Prop} (hgd : o.guard = none) (sl x : Operand)
    (ho : o.op = .call { callee := .builtin .append, args := #[sl, x], argTypes := #[23, 9] }) (base : Nat) (l : W) (v : Value) (hs : a.eval sl = v) (hO : Ob base l v w)
    (s : W) (hx : a.eval x = .string (bs s)) (hb : base ≤ w.heap.size) (hlen : l.length + s.length ≤ 10000000)
    (K : ∀ v' w', Ob base (l ++ s) v' w' → w.grownBy w' v.ownBlock → (v'.ownBlock = v.ownBlock ∨ v'.ownBlock = some w.heap.size) → wpList Tryd.prog ops Q rest (a.put o.dst v') w') : wpList Tryd.prog ops Q (o :: rest) a w := by
  obtain ⟨i0, hi, hz0, hz1, hz2⟩ := info_parts u8_info
  refine wpList_plain hgd fun K' hK' => ?_
  obtain ⟨v', w', hr, h2, h3, h4⟩ := Lib.run_append_own_string (P := Tryd.prog) w base 23 9 o.type 5 i0 Tryd.underlying23 Tryd.underlying9 hi hz0 hz1 hz2 v l.length (bv l) hO (bs s) (by rw [bs_size]; unfold maxLen; omega) (by rw [bs_size]; omega) hb
  have hat := run_app_str_at w o.type base v l.length (bv l) hO (bs s) (by rw [bs_size]; omega) hr
  unfold Oper.wp execOp
  simp only [ho, resolve, invoke, builtin, Sem.run_bind, Sem.run_pure, Result.andThen_ok, List.map_toArray, List.map_cons, List.map_nil, hs, hx, hr]
  refine hK' _ _ (K v' w' ?_ h3 hat)
  have hsc : Lib.strCells (bs s) = bv s := rfl
  unfold Ob
  rw [List.length_append, bv_append, ← hsc, ← bs_size]
  exact h2
def Pt (b : Nat) (p : Value) : Prop := p = .pointer none ∨ p = .pointer (some ⟨b, 0, none⟩)
theorem cc_any (b : Nat) (p v : Value) (w : World) (hp : Pt b p) (h : Blk w b 137 #[p, v]) : Calls Tryd.prog 96 #[.pointer (some ⟨b, 0, none⟩)] w fun e w' => e = .returned (.tuple #[]) ∧ Blk w' b 137 #[.pointer (some ⟨b, 0, none⟩), v] ∧ Kp (· = b) w w' := by
  rcases hp with rfl | rfl
  · refine (cc_fresh b v w h).mono ?_
    rintro e w' ⟨rfl, rfl⟩
    exact ⟨rfl, h.set_ 0 _, Kp.of_set w ⟨b, 0, none⟩ _ rfl⟩
  · refine (cc_used b v w h).mono ?_
    rintro e w' ⟨rfl, rfl⟩
    exact ⟨rfl, h, Kp.refl _ _⟩
set_option maxHeartbeats 1000000 in
set_option maxRecDepth 100000 in
theorem wstr_any (base b : Nat) (p v : Value) (l s : W) (w : World) (hp : Pt b p) (h : Blk w b 137 #[p, v]) (O : Ob base l v w) (hb : base ≤ w.heap.size) (hlen : l.length + s.length ≤ 10000000) :
    Calls Tryd.prog 74 #[.pointer (some ⟨b, 0, none⟩), .string (bs s)] w fun e w' => e = .returned (.tuple #[.int .i64 s.length, .nilIface]) ∧ ∃ v', Blk w' b 137 #[.pointer (some ⟨b, 0, none⟩), v'] ∧ Ob base (l ++ s) v' w' ∧ Kp (fun k => k = b ∨ some k = v.ownBlock) w w' ∧ Gr w v v' := by
  obtain ⟨i0, hi, hz0, hz1, hz2⟩ := info_parts u8_info
  go_enter Tryd.func74, Tryd.ntmps74
  go_wp2_with fail
  refine (cc_any b p v _ hp h).mono ?_
  rintro e w1 ⟨rfl, X, hK⟩
  have hne := own_ne O h (by decide)
  have O1 := own_kp O hK (fun g hg e => hne (by rw [← e]; exact hg))
  obtain ⟨x0, x1, x2, x3⟩ := X.f2
  have hs1 := hK.size
  go_wp2_with (at_builtin; refine wp_app_text rfl _ _ rfl base l _ rfl O1 s rfl ?c5 ?c4 ?_)
  case c4 => exact hlen
  case c5 => omega
  intro v' w2 O3 hgrow hat
  have X2 := X.grown hgrow hne
  have G2 : Gr w v v' := fun g hg => by
    rcases hat with h1 | h1
    · exact .inl (by rw [← h1]; exact hg)
    · rw [hg] at h1; injection h1 with h1; exact .inr (by omega)
  obtain ⟨y0, y1, y2, y3⟩ := X2.f2
  obtain ⟨A2, c2, hv2, _, _, _⟩ := own_form O3
  have HO := Lib.hid O3
  have HX := Lib.hid X2
  have HG := Lib.hid G2
  clear O3 X2 x0 x1 x2 x3 hat G2
  rw [List.length_append] at hv2
  subst hv2
  go_wp2
  go_ret2
  refine ⟨rfl, _, HX.out.set_ 1 _, own_far HO.out (p := ⟨b, 1, none⟩) (own_ne HO.out HX.out (by decide)), ?_, HG.out⟩
  exact (hK.trans (S := fun k => k = b ∨ some k = v.ownBlock) (Kp.of_grown (S := fun k => some k = v.ownBlock) hgrow (fun i hi => hi)) (fun i _ h => .inl h) (fun i _ h => .inr h)).trans (Kp.of_set (S := (· = b)) w2 ⟨b, 1, none⟩ _ rfl) (fun i _ h => h) (fun i _ h => .inl h)
set_option maxHeartbeats 1000000 in
set_option maxRecDepth 100000 in
theorem str_any (b g c : Nat) (l : W) (hl : l ≠ []) (hlen : l.length ≤ 10000000) (p : Value) (w : World) (h : Blk w b 137 #[p, .slice (some ⟨g, 0, none⟩) l.length c]) (hc : l.length ≤ c) (hr : Rd w 5 1 (some ⟨g, 0, none⟩) l.length (bv l)) :
    Calls Tryd.prog 78 #[.pointer (some ⟨b, 0, none⟩)] w fun e w' => e = .returned (.string (bs l)) ∧ Kp (· = g) w w' ∧ Rd w' 5 1 (some ⟨g, 0, none⟩) l.length (bv l) := by
  have hl0 : 0 < l.length := List.length_pos_iff.2 hl
  obtain ⟨h0, h1, h2, h3⟩ := h.f2
  obtain ⟨ad, ea, hb, hK, hcell⟩ := hr.2 hl0
  injection ea with ea
  subst ea
  rcases hK with hK | ⟨cs, fr, hg⟩
  · cases hK
  have hsz : l.length ≤ cs.size := by
    rcases Nat.lt_or_ge (l.length - 1) cs.size with h' | h'
    · omega
    · have := hcell (l.length - 1) _ (bv_at l (l.length - 1) (by omega))
      have e1 : (⟨g, 0, none⟩ : Addr).add (l.length - 1) = ⟨g, l.length - 1, none⟩ := by unfold Addr.add; split <;> simp_all
      rw [e1, cell_of_row _ g _ cs 5 fr hg, Array.getElem?_eq_none h'] at this
      cases this
  have hSD : (Builtin.unsafeSliceData_ #[23] 161 #[.slice (some ⟨g, 0, none⟩) l.length c]).run Tryd.prog w.drew = .ok (.pointer (some ⟨g, 0, none⟩)) w.drew :=
    Lib.run_unsafeSliceData_row _ _ _ _ _ _ (by omega)
  have hUS : (Builtin.unsafeString_ #[161, 3] 9 #[.pointer (some ⟨g, 0, none⟩), .int .i64 l.length]).run Tryd.prog w.drew = .ok (.string (bs l)) (w.drew.freeze ⟨g, 0, none⟩ l.length) := by
    refine Lib.run_unsafeString_row w.drew 161 3 9 5 Tryd.underlying161 byte_cells g cs.size (by have hg' : w.drew.heap[g]? = some (.cells cs 5 fr) := hg; simp [World.shape?, hg']) l hl hsz (by omega) ?_
    intro j x hx
    exact hcell j (.int .u8 x.toNat) (by simp [bv, hx])
  have hKp : Kp (· = g) w (w.drew.freeze ⟨g, 0, none⟩ l.length) := by
    unfold World.freeze
    rw [if_neg (by omega)]
    exact ⟨rfl, rfl, rfl, by simp, fun i hi hs => by simp only [Array.getElem?_modify]; rw [if_neg (Ne.symm hs)]; rfl⟩
  have hRd : Rd (w.drew.freeze ⟨g, 0, none⟩ l.length) 5 1 (some ⟨g, 0, none⟩) l.length (bv l) := by
    have hh : ∃ fr', (w.drew.freeze ⟨g, 0, none⟩ l.length).heap[g]? = some (.cells cs 5 fr') := by
      unfold World.freeze
      rw [if_neg (by omega)]
      have hg' : w.drew.heap[g]? = some (.cells cs 5 fr) := hg
      obtain ⟨lo, hi⟩ := fr
      exact ⟨if lo == hi then (0, 0 + l.length) else (min lo 0, max hi (0 + l.length)), by simp [Array.getElem?_modify, hg']⟩
    obtain ⟨fr', hh⟩ := hh
    refine ⟨hr.1, fun _ => ⟨_, rfl, (Array.getElem?_eq_some_iff.1 hh).1, .inr ⟨cs, fr', hh⟩, fun j u hu => ?_⟩⟩
    have h4 := hcell j u hu
    have e1 : (⟨g, 0, none⟩ : Addr).add j = ⟨g, j, none⟩ := by unfold Addr.add; split <;> simp_all
    rw [e1] at h4 ⊢
    rw [cell_of_row _ g j cs 5 fr hg] at h4
    rw [cell_of_row _ g j cs 5 fr' hh]
    exact h4
  have HH := Lib.hid (And.intro hKp hRd)
  clear hKp hRd hcell hl
  have hSD2 : ∀ W : World, (Builtin.unsafeSliceData_ #[23] 161 #[.slice (some ⟨g, 0, none⟩) l.length c]).run Tryd.prog W = .ok (.pointer (some ⟨g, 0, none⟩)) W := fun W =>
    Lib.run_unsafeSliceData_row _ _ _ _ _ _ (by omega)
  go_enter Tryd.func78, Tryd.ntmps78
  go_wp2_with fail
  have hc0 : ∀ W : World, W.heap = w.heap → W.cell? ⟨b, 1, none⟩ = some (.slice (some ⟨g, 0, none⟩) l.length c) := fun W hE => by
    rw [← h1]; exact World.cell?_of_block (by rw [hE])
  have HC := Lib.hid hc0; clear hc0
  refine wp_region_list2 (by kernel_rfl) 10 (fun a b => b = a) [] (by kernel_rfl) (fun _ _ d _ _ h => by cases d <;> exact h) rfl (fun _ => rfl) (fun _ _ _ h k => k.trans h) trivial ?_
  simp only [List.take_succ_cons, List.take_zero, List.take_nil, List.drop_succ_cons, List.drop_zero, List.drop_nil]
  iterate 10
    refine ph_pure (a' := ?_) rfl rfl ?_ (fun w9 hE hG => pureAt_plain rfl ?_) ?_ ?_
    rotate_left 2
    · clear hG; subst hE; have z0 := HC.out w.drew rfl; (go_simp; try go_bits); rfl
    · go_simp; rfl
  refine ph_end (fun w9 hE hG => ?_)
  subst hE
  clear hG HC
  go_wp2
  go_ret
  exact ⟨rfl, HH.out⟩
end Go.Proofs.YtmmihcophkipoaaDoor
