import Derived.Test.YtecdmgcgplohoaaCa16
namespace Go.Proofs.Ytecdmgcgplohoaa
open Go.ChangeShapes Go.WideShapes Go.ChangeAt Go.RowKit
set_option linter.unusedVariables false
set_option linter.unusedSimpArgs false
attribute [local go_sem] ba_beq ba_bne

def scells (l : List St) : List Value := l.flatMap St.cells
theorem scells_len (l : List St) : (scells l).length = l.length * 4 := by
  induction l with
  | nil => rfl
  | cons a l ih => simp only [scells, List.flatMap_cons, List.length_append, List.length_cons, St.cells, List.length_nil] at *; omega
theorem scells_at (l : List St) (k : Nat) (h : k < l.length) : (scells l)[k * 4]? = some (.int .u8 l[k].wh) ∧ (scells l)[k * 4 + 1]? = some (.int .u8 l[k].k) ∧ (scells l)[k * 4 + 2]? = some (.int .u8 l[k].v) ∧ (scells l)[k * 4 + 3]? = some (.bool l[k].lg) := by
  induction l generalizing k with
  | nil => simp at h
  | cons a l ih =>
    cases k with
    | zero => simp [scells, St.cells]
    | succ k =>
      have := ih k (by simpa using h)
      simp only [scells, List.flatMap_cons, St.cells] at *
      have e1 : (k + 1) * 4 = k * 4 + 1 + 1 + 1 + 1 := by omega
      rw [e1]
      simpa using this
theorem Rd.four {w : World} {e : TypeId} {A : Option Addr} {n i : Nat} {xs : List Value} {u0 u1 u2 u3 : Value} (h : Rd w e 4 A n xs) (hi : i < n) (h0 : xs[i * 4]? = some u0) (h1 : xs[i * 4 + 1]? = some u1) (h2 : xs[i * 4 + 2]? = some u2) (h3 : xs[i * 4 + 3]? = some u3) :
    ∃ ad, A = some ad ∧ w.cell? (ad.add (i * 4)) = some u0 ∧ w.cell? ⟨(ad.add (i * 4)).block, (ad.add (i * 4)).off + 1, none⟩ = some u1 ∧ w.cell? ⟨(ad.add (i * 4)).block, (ad.add (i * 4)).off + 2, none⟩ = some u2 ∧ w.cell? ⟨(ad.add (i * 4)).block, (ad.add (i * 4)).off + 3, none⟩ = some u3 := by
  obtain ⟨ad, ea, hb, _, hc⟩ := h.2 (by omega)
  refine ⟨ad, ea, hc _ _ h0, ?_, ?_, ?_⟩
  · have := hc _ _ h1; rw [← addr_add] at this; exact this
  · have := hc _ _ h2; rw [← addr_add] at this; exact this
  · have := hc _ _ h3; rw [← addr_add] at this; exact this
/-- the cache after a script -/
def rscript (room : Int) (ss : List St) : List En := ss.foldl (rstep room) []
theorem rscript_snoc (room : Int) (ss : List St) (k : Nat) (h : k < ss.length) : rscript room (ss.take (k + 1)) = rstep room (rscript room (ss.take k)) ss[k] := by
  unfold rscript
  rw [take_snoc ss k h, List.foldl_append]; rfl
theorem Good.script {room : Int} (hr : 0 ≤ room) (ss : List St) : Good room (rscript room ss) := by
  unfold rscript
  suffices H : ∀ (ss : List St) l, Good room l → Good room (ss.foldl (rstep room) l) from H ss [] (Good.nil hr)
  intro ss
  induction ss with
  | nil => intro l g; exact g
  | cons s ss ih => intro l g; exact ih _ (g.step hr s)
set_option maxHeartbeats 2000000 in
set_option maxRecDepth 100000 in
theorem script_any (ty : TypeId) (A : Option Addr) (n c lim : Nat) (ss : List St) (room : Int) (w : World) (hr : Rd w ty 4 A n (scells ss)) (hn : n ≤ maxLen) (hr0 : 0 ≤ room) (hr1 : room ≤ 60) (hlim : lim ≤ 100) (hss : ∀ s ∈ ss, s.ok) :
    Calls Try.prog 22 #[.slice A n c, .int .i64 room, .int .i64 lim] w fun e w' => ∃ V, e = .returned V ∧ Ca w' room (rscript room (ss.take lim)) V ∧ Below w.heap.size w w' := by
  have hlen : ss.length = n := by have := hr.len; rw [scells_len] at this; omega
  have HN := Lib.hid hlen; clear hlen
  unfold maxLen at hn
  go_enter Try.func22, Try.ntmps22
  go_wp2_with fail
  go_loopw [8] (fun i wr => ∃ (k : Nat) (p q : Value), k ≤ n ∧ k ≤ lim ∧ i = .int .i64 k ∧ Ca wr room (rscript room (ss.take k)) (.agg #[.int .i64 room, p, q]) ∧ Blk wr (w.heap.size + 1) 26 #[.int .i64 room, p, q] ∧ Blk wr w.heap.size 26 #[.int .i64 0, .slice none 0 0, .slice none 0 0] ∧ Below w.heap.size w wr) (fun i _ => 200 - (intOf i).toNat)
  case atStart =>
    refine ⟨0, _, _, by omega, by omega, rfl, ⟨⟨none, 0, none, 0, rfl, Rd.nil, Rd.nil, Nat.le_refl _, by simp [maxLen], Nat.le_refl _, by simp [maxLen]⟩⟩, Blk.newAt _ _ (by simp) 26 _, (Blk.new w 26 _).alloc _, by go_grown⟩
  case round =>
    obtain ⟨k, p, q, hk, hkl, rfl, hCa, X, Y, hbw⟩ := hrel
    have hg := Good.script hr0 (ss.take k)
    have hsm := hg.sm hr1
    obtain ⟨P, cp, Q, cq, hpq, hP, hQ, hcs⟩ := hCa.ex
    injection hpq with hpq
    simp only [Array.mk.injEq, List.cons.injEq, and_true, true_and] at hpq
    obtain ⟨rfl, rfl⟩ := hpq
    by_cases hlt : k < n ∧ k < lim
    · obtain ⟨hlt, hlt2⟩ := hlt
      have hks : k < ss.length := by rw [HN.out]; exact hlt
      have HX := Lib.hid (rscript_snoc room ss k hks)
      have hok := hss _ (List.getElem_mem hks)
      obtain ⟨q0, q1, q2, q3⟩ := scells_at ss k hks
      have hr2 := hr.below hbw (Nat.le_refl _)
      obtain ⟨ad, h1, _, _, _, _⟩ := hr2.four hlt q0 q1 q2 q3
      subst h1
      have hc : ∀ W, Ext wr.drew W → W.cell? ⟨w.heap.size + 1, 0, none⟩ = some (.int .i64 room) ∧ W.cell? ⟨w.heap.size + 1, 1, none⟩ = some (.slice P _ cp) ∧ W.cell? ⟨w.heap.size + 1, 2, none⟩ = some (.slice Q _ cq) ∧ W.cell? (ad.add (k * 4)) = some (.int .u8 ss[k].wh) ∧ W.cell? ⟨(ad.add (k * 4)).block, (ad.add (k * 4)).off + 1, none⟩ = some (.int .u8 ss[k].k) ∧ W.cell? ⟨(ad.add (k * 4)).block, (ad.add (k * 4)).off + 2, none⟩ = some (.int .u8 ss[k].v) ∧ W.cell? ⟨(ad.add (k * 4)).block, (ad.add (k * 4)).off + 3, none⟩ = some (.bool ss[k].lg) ∧ Ca W room (rscript room (ss.take k)) _ := fun W hE => by
        obtain ⟨z0, z1, z2, _, _⟩ := (X.drew.ext hE).f3
        obtain ⟨_, e, g0, g1, g2, g3⟩ := (hr2.drew.ext hE).four hlt q0 q1 q2 q3
        injection e with e; subst e
        exact ⟨z0, z1, z2, g0, g1, g2, g3, Ca.ext hE (Ca.below hCa (Below.refl _ _).drew (Nat.le_refl _))⟩
      have HC := Lib.hid hc
      clear hc q0 q1 q2 q3
      generalize hs : ss[k] = s at *
      generalize hcur : rscript room (ss.take k) = cur at *
      have hltk : (k : Int) < n := by omega
      have hltl : (k : Int) < lim := by omega
      go_wp2_with fail
      refine wp_region_list2 (by kernel_rfl) 6 Ext [(5, IsCa room (rstep room cur s))] (by kernel_rfl) (fun _ _ d _ _ h => by cases d <;> exact h) rfl Ext.refl (fun _ _ _ => Ext.trans) ⟨fun _ _ _ => IsCa.ext, trivial⟩ ?_
      simp only [List.take_succ_cons, List.take_zero, List.take_nil, List.drop_succ_cons, List.drop_zero, List.drop_nil]
      iterate 5
        refine ph_pure (a' := ?_) rfl rfl ?_ (fun w9 hE hG => pureAt_plain rfl ?_) ?_ ?_
        rotate_left 2
        · clear hG; obtain ⟨u0, u1, u2, u3, u4, u5, u6, hCa⟩ := HC.out w9 hE; (go_simp; try go_bits); rfl
        · go_simp; rfl
      refine ph_op rfl rfl (fun w9 hE hG => opAt_plain rfl ?_) (fun v hv => ?_)
      · clear hG
        try clear hG
        obtain ⟨u0, u1, u2, u3, u4, u5, u6, hCa⟩ := HC.out w9 hE; (go_simp; try go_bits)
        refine (rstep_any room cur _ s _ hCa hsm.1 (by omega) hok).mono ?_
        rintro e w' ⟨v, rfl, hsl, hb⟩
        exact ⟨_, rfl, hb, hsl⟩
      obtain ⟨_, _, hca⟩ := hv
      obtain ⟨A5, c5', B5, d5', rfl, _⟩ := hca.ex
      go_simp
      refine ph_end (fun w9 hE hG => ?_)
      simp only [List.forall_mem_cons] at hG
      have Q5 := hG.1
      have X9 := X.drew.ext hE
      have Y9 := Y.drew.ext hE
      have L9 := hbw.drew.trans (hE.below.mono hbw.size)
      obtain ⟨z0, z1, z2, z3, z4⟩ := X9.f3
      clear hE hG HC
      go_wp2
      refine ⟨⟨k + 1, _, _, by omega, by omega, by go_num, ?_, X9.put3 _ _ _, ?_, below_put3 L9 (by omega) _ _ _⟩, by simp only [intOf]; omega⟩
      · rw [HX.out]; exact Ca.put3 Q5 X9 _ _ _
      · exact ((Y9.far (p := ⟨w.heap.size + 1, 0, none⟩) (by simp) _).far (p := ⟨w.heap.size + 1, 1, none⟩) (by simp) _).far (p := ⟨w.heap.size + 1, 2, none⟩) (by simp) _
    · have hfin : ss.take k = ss.take lim := by
        by_cases h : k = lim
        · rw [h]
        · rw [List.take_of_length_le (by have := HN.out; omega), List.take_of_length_le (by have := HN.out; omega)]
      have HF := Lib.hid hfin
      obtain ⟨z0, z1, z2, z3, z4⟩ := X.f3
      obtain ⟨y0, y1, y2, y3, y4⟩ := Y.f3
      clear hfin hg
      by_cases h1 : (k : Int) < n
      · have h2 : ¬ (k : Int) < lim := by omega
        clear hlt
        go_wp2
        exact bodyPost_ret (res_cell26 rfl _ w.heap.size rfl _ (Y.put3 _ _ _)) rfl ⟨_, rfl, by rw [← HF.out]; exact hCa.put3 Y _ _ _, below_put3 hbw (Nat.le_refl _) _ _ _⟩
      · clear hlt
        go_wp2
        exact bodyPost_ret (res_cell26 rfl _ w.heap.size rfl _ (Y.put3 _ _ _)) rfl ⟨_, rfl, by rw [← HF.out]; exact hCa.put3 Y _ _ _, below_put3 hbw (Nat.le_refl _) _ _ _⟩
end Go.Proofs.Ytecdmgcgplohoaa
