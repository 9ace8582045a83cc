/-
  DawgMinimal.
-/
import Derived.Test.YtmmihcophkipoaaDoorSan
import Derived.Test.YtmmihcophkipoaaDoorD36
namespace Go.Proofs.YtmmihcophkipoaaDoor
open Go.ChangeShapes Go.WideShapes Go.ChangeAt Go.RowKit
set_option linter.unusedVariables false
set_option linter.unusedSimpArgs false
section
variable {l : List W}
theorem kid_mx (hE : Ends l (ends l)) {m : List W} (hm : m ∈ ends l) (a : UInt8 × List W) (ha : a ∈ grp m) : mx a.2 < mx m := by
  have hup := hE.up m hm
  have hk := hE.kids m hm a ha
  have e2 := (grp_up hup).2.1 a ha
  have h5 : ∀ v ∈ a.2, v.length < mx m := fun v hv => by
    rw [e2, mem_aft] at hv
    have := mx_le hv
    simp at this
    omega
  obtain ⟨u, hu⟩ := List.exists_mem_of_ne_nil _ (hE.ne _ hk)
  have h6 := h5 u hu
  exact mx_lt (by omega) h5
theorem end_mx (hE : Ends l (ends l)) : ∀ m ∈ ends l, mx m ≤ mx l := by
  have := hE.all (fun m => m ∈ ends l ∧ mx m ≤ mx l) ⟨root_in hE, Nat.le_refl _⟩ (fun m hm hp a ha => ⟨hE.kids m hp.1 a ha, by have := kid_mx hE hp.1 a ha; omega⟩)
  exact fun m hm => (this m hm).2
/-- node n in place of the root -/
def turn (d : Au) (n : Nat) : Au := d.set 0 (d.getD n (false, []))
theorem turn_zero {d : Au} (h : 0 < d.length) : turn d 0 = d := by
  unfold turn
  cases d with
  | nil => simp at h
  | cons a d => rfl
theorem turn_len (d : Au) (n : Nat) : (turn d n).length = d.length := List.length_set
theorem turn_at {d : Au} {n i : Nat} (h : i ≠ 0) : (turn d n).getD i (false, []) = d.getD i (false, []) := by
  unfold turn
  simp only [List.getD_eq_getElem?_getD]
  rw [List.getElem?_set_ne (by omega)]
theorem turn_root {d : Au} {n : Nat} (h : 0 < d.length) : (turn d n).getD 0 (false, []) = d.getD n (false, []) := by
  unfold turn
  rw [List.getD_eq_getElem?_getD, List.getElem?_set_self h]; rfl
theorem fold_same {α β : Type} {f g : β → α → β} : ∀ (l : List α) (s : β), (∀ a ∈ l, ∀ s, f s a = g s a) → l.foldl f s = l.foldl g s
  | [], _, _ => rfl
  | a :: l, s, h => by
    rw [List.foldl_cons, List.foldl_cons, h a (List.mem_cons_self ..)]
    exact fold_same l _ fun b hb => h b (List.mem_cons_of_mem _ hb)
theorem ls_stop (d : Au) (f : Nat) (s : Nat × List W) (n : Int) (w : W) (h : s.1 = 0 ∨ n < 0 ∨ (d.length : Int) ≤ n ∨ 20 < w.length) : ls d (f + 1) s n w = (0, s.2) := by
  unfold ls; rw [if_pos h]
theorem ls_go (d : Au) (f : Nat) (s : Nat × List W) (n : Int) (w : W) (h : ¬ (s.1 = 0 ∨ n < 0 ∨ (d.length : Int) ≤ n ∨ 20 < w.length)) :
    ls d (f + 1) s n w = (arcsOf d n.toNat).foldl (fun s a => ls d f s a.2 (w ++ [a.1])) (s.1 - 1, if (d.getD n.toNat (false, [])).1 = true then s.2 ++ [w] else s.2) := by
  conv => lhs; unfold ls
  rw [if_neg h]
theorem ls_turn (hE : Ends l (ends l)) (n : Nat) : ∀ (f : Nat) (s : Nat × List W) (w : W) (m : List W), m ∈ ends l → mx m < mx l →
    ls (turn (auto l) n) f s ((ends l).idxOf m : Nat) w = ls (auto l) f s ((ends l).idxOf m : Nat) w := by
  intro f
  induction f with
  | zero => intro s w m _ _; rfl
  | succ f ih =>
    intro s w m hm hlt
    have hne : (ends l).idxOf m ≠ 0 := fun e => by
      have h1 := getD_idx hm
      have h2 := getD_idx (root_in hE)
      rw [e] at h1
      rw [root_idx hE] at h2
      have : m = l := h1.symm.trans h2
      rw [this] at hlt
      omega
    by_cases hc : s.1 = 0 ∨ (((ends l).idxOf m : Nat) : Int) < 0 ∨ ((auto l).length : Int) ≤ ((ends l).idxOf m : Nat) ∨ 20 < w.length
    · rw [ls_stop _ _ _ _ _ hc, ls_stop _ _ _ _ _ (by rw [turn_len]; exact hc)]
    · rw [ls_go _ _ _ _ _ hc, ls_go _ _ _ _ _ (by rw [turn_len]; exact hc)]
      simp only [Int.toNat_natCast]
      have ha := arcs_idx hm
      unfold arcsOf at ha ⊢
      simp only [turn_at hne]
      rw [ha]
      refine fold_same _ _ fun a ha s => ?_
      obtain ⟨b, hb, rfl⟩ := List.mem_map.1 ha
      exact ih _ _ b.2 (hE.kids m hm b hb) (by have := kid_mx hE hm b hb; omega)
theorem ls_root (hE : Ends l (ends l)) (f : Nat) (s : Nat × List W) (w : W) (m : List W) (hm : m ∈ ends l) :
    ls (turn (auto l) ((ends l).idxOf m)) (f + 1) s 0 w = ls (auto l) (f + 1) s ((ends l).idxOf m : Nat) w := by
  have hlt := List.idxOf_lt_length_iff.2 hm
  have hpos := hE.pos
  have hc : (s.1 = 0 ∨ (0 : Int) < 0 ∨ ((turn (auto l) ((ends l).idxOf m)).length : Int) ≤ 0 ∨ 20 < w.length) ↔ (s.1 = 0 ∨ (((ends l).idxOf m : Nat) : Int) < 0 ∨ ((auto l).length : Int) ≤ ((ends l).idxOf m : Nat) ∨ 20 < w.length) := by
    rw [turn_len, auto_len]; omega
  by_cases h : s.1 = 0 ∨ (((ends l).idxOf m : Nat) : Int) < 0 ∨ ((auto l).length : Int) ≤ ((ends l).idxOf m : Nat) ∨ 20 < w.length
  · rw [ls_stop _ _ _ _ _ h, ls_stop _ _ _ _ _ (hc.2 h)]
  · rw [ls_go _ _ _ _ _ h, ls_go _ _ _ _ _ (fun e => h (hc.1 e))]
    simp only [Int.toNat_natCast, Int.toNat_zero]
    have ha := arcs_idx hm
    unfold arcsOf at ha ⊢
    simp only [turn_root (d := auto l) (n := (ends l).idxOf m) (by rw [auto_len]; exact hpos)]
    rw [ha]
    refine fold_same _ _ fun a ha s => ?_
    obtain ⟨b, hb, rfl⟩ := List.mem_map.1 ha
    exact ls_turn hE _ _ _ _ b.2 (hE.kids m hm b hb) (by have := kid_mx hE hm b hb; have := end_mx hE m hm; omega)
theorem listed_turn (h : dict l = true) (m : List W) (hm : m ∈ ends l) : ∃ k, 0 < k ∧ listed (turn (auto l) ((ends l).idxOf m)) = (k, m) := by
  have hE := dict_ends h
  have hl := dict_word_len h
  have hmx : mx l < 21 := mx_lt (by omega) fun u hu => by have := hl u hu; omega
  have hmm := end_mx hE m hm
  have hml := hE.len m hm
  have ht : tn 22 m ≤ 4001 := by
    have h1 := tn_le 22 m
    have h2 := tot_le (l := m) (k := 20) (fun u hu => by have := mx_le hu; omega)
    have h3 := (dict_parts h).2.2.2.2
    have h4 : m.length * 20 ≤ 200 * 20 := Nat.mul_le_mul_right _ (by omega)
    omega
  have h5 := wk_idx hE 22 5000 [] [] m hm (by omega) (by simp; omega) (by omega)
  refine ⟨5000 - tn 22 m, by omega, ?_⟩
  have h6 := (wk_ls (auto l) 22 (5000, []) ((ends l).idxOf m : Nat) []).1 _ h5
  unfold listed
  rw [ls_root hE 21 _ _ m hm, h6]
  simp

/-- the node behind a byte, as the law finds it -/
def nxt (al : List (UInt8 × Int)) (c : UInt8) : Int := al.foldl (fun nx a => if a.1 = c then a.2 else nx) (-1)
theorem nxt_snoc (al : List (UInt8 × Int)) (c : UInt8) (j : Nat) (h : j < al.length) : nxt (al.take (j + 1)) c = if al[j].1 = c then al[j].2 else nxt (al.take j) c := by
  unfold nxt
  rw [take_snoc al j h, List.foldl_append]
  rfl
theorem nxt_all (V : List (List W)) (m : List W) (c : UInt8) : ∀ (g : List (UInt8 × List W)) (x : Int), (∀ a ∈ g, a.2 = aft a.1 m) →
    (g.map fun a => (a.1, (V.idxOf a.2 : Int))).foldl (fun nx a => if a.1 = c then a.2 else nx) x = if (∃ a ∈ g, a.1 = c) then (V.idxOf (aft c m) : Int) else x
  | [], x, _ => by simp
  | a :: g, x, h => by
    rw [List.map_cons, List.foldl_cons, nxt_all V m c g _ (fun b hb => h b (List.mem_cons_of_mem _ hb))]
    have ha := h a (List.mem_cons_self ..)
    by_cases h1 : ∃ b ∈ g, b.1 = c
    · obtain ⟨b, hb, hbc⟩ := h1
      rw [if_pos ⟨b, hb, hbc⟩, if_pos ⟨b, List.mem_cons_of_mem _ hb, hbc⟩]
    · rw [if_neg h1]
      by_cases h2 : a.1 = c
      · rw [if_pos h2, if_pos ⟨a, List.mem_cons_self .., h2⟩, ha, h2]
      · rw [if_neg h2, if_neg (fun ⟨b, hb, hbc⟩ => (List.mem_cons.1 hb).elim (fun e => h2 (e ▸ hbc)) fun e => h1 ⟨b, e, hbc⟩)]
theorem nxt_end (hE : Ends l (ends l)) {m : List W} (hm : m ∈ ends l) {c : UInt8} (hc : aft c m ≠ []) : nxt (arcsOf (auto l) ((ends l).idxOf m)) c = ((ends l).idxOf (aft c m) : Nat) := by
  have hu := grp_up (hE.up m hm)
  rw [arcs_idx hm]
  unfold nxt
  rw [nxt_all (ends l) m c (grp m) (-1) hu.2.1, if_pos (hu.2.2.1 c hc)]
theorem min_len (h : dict l = true) (h1 : l.length ≤ 10) (h2 : ∀ u ∈ l, u.length ≤ 4) : (auto l).length ≤ 60 := by
  rw [auto_len]
  have a := dfs_len 22 [] l
  have b := tot_le h2
  have c : l.length * 4 ≤ 10 * 4 := Nat.mul_le_mul_right _ h1
  unfold ends
  simp at a
  omega
/-- the nodes met by the first i words, and by k bytes of the next -/
def Mk (l : List W) (bl : List Bool) (i k : Nat) : Prop := bl.length = (auto l).length ∧ (∀ j (h : j < l.length), j < i → ∀ q, q ≤ l[j].length → bl[(ends l).idxOf (aftS (l[j].take q) l)]? = some true) ∧
  (∀ h : i < l.length, ∀ q, q < k → q ≤ l[i].length → bl[(ends l).idxOf (aftS (l[i].take q) l)]? = some true)
theorem aftS_ne {u : W} (hu : u ∈ l) (q : Nat) : aftS (u.take q) l ≠ [] := by
  intro e
  have : u.drop q ∈ aftS (u.take q) l := mem_aftS.2 (by rw [List.take_append_drop]; exact hu)
  rw [e] at this
  cases this
theorem Mk.start (l : List W) : Mk l (List.replicate (auto l).length false) 0 0 := ⟨by simp, fun j _ h => absurd h (by omega), fun _ q h => absurd h (by omega)⟩
theorem Mk.next {bl : List Bool} {i : Nat} (hi : i < l.length) (h : Mk l bl i (l[i].length + 1)) : Mk l bl (i + 1) 0 := by
  refine ⟨h.1, fun j hj hji q hq => ?_, fun _ q hq => absurd hq (by omega)⟩
  by_cases e : j = i
  · subst e
    exact h.2.2 hi q (by omega) hq
  · exact h.2.1 j hj (by omega) q hq
theorem Mk.put {bl : List Bool} {i k n : Nat} (h : Mk l bl i k) (hn : ∀ h : i < l.length, n = (ends l).idxOf (aftS (l[i].take k) l)) (hnl : n < bl.length) : Mk l (bl.set n true) i (k + 1) := by
  have key : ∀ m, bl[m]? = some true → (bl.set n true)[m]? = some true := fun m hm => by
    by_cases e : n = m
    · subst e; rw [List.getElem?_set_self hnl]
    · rw [List.getElem?_set_ne e]; exact hm
  refine ⟨by rw [List.length_set]; exact h.1, fun j hj hji q hq => key _ (h.2.1 j hj hji q hq), fun hi q hq hql => ?_⟩
  by_cases e : q = k
  · subst e
    rw [← hn hi, List.getElem?_set_self hnl]
  · exact key _ (h.2.2 hi q (by omega) hql)
theorem Mk.all (hE : Ends l (ends l)) {bl : List Bool} (h : Mk l bl l.length 0) (n : Nat) (hn : n < (auto l).length) : bl[n]? = some true := by
  rw [auto_len] at hn
  have hp := hE.all (fun m => m ∈ ends l ∧ ∃ p, m = aftS p l) ⟨root_in hE, [], rfl⟩ (fun m hm hp a ha => by
    obtain ⟨h1, p, rfl⟩ := hp
    refine ⟨hE.kids _ h1 a ha, p ++ [a.1], ?_⟩
    rw [(grp_up (hE.up _ h1)).2.1 a ha, aftS_app]; rfl)
  obtain ⟨h1, p, hpe⟩ := hp (ends l)[n] (List.getElem_mem hn)
  obtain ⟨u, hu⟩ := List.exists_mem_of_ne_nil _ (hE.ne _ h1)
  rw [hpe] at hu
  have hw := mem_aftS.1 hu
  obtain ⟨j, hj, hje⟩ := List.getElem_of_mem hw
  have := h.2.1 j hj hj p.length (by rw [hje]; simp)
  rw [hje, List.take_left', ← hpe, idx_at hE.nodup n hn] at this
  · exact this
  · rfl
end

theorem listed_k (A : Option Addr) (c k : Nat) (d : Au) (hk : d.length = k) (hdl : k ≤ 1000000) (hal : ∀ x ∈ d, x.2.length ≤ 1000000) (w : World) (hd : Dw w A d) :
    Calls Tryd.prog 30 #[.slice A k c] w fun e w' => ∃ v, e = .returned (.tuple #[v, .bool (decide (0 < (listed d).1))]) ∧ Ow w.heap.size (listed d).2 v w' ∧ Ext w w' := by
  subst hk
  exact listed_any d hdl hal w A c hd
theorem turn_arcs {d : Au} {K : Nat} (h : ∀ x ∈ d, x.2.length ≤ K) (n : Nat) : ∀ x ∈ turn d n, x.2.length ≤ K := by
  intro x hx
  rcases List.mem_or_eq_of_mem_set hx with h1 | rfl
  · exact h x h1
  · rw [List.getD_eq_getElem?_getD]
    rcases Nat.lt_or_ge n d.length with h1 | h1
    · rw [List.getElem?_eq_getElem h1]; exact h _ (List.getElem_mem h1)
    · rw [List.getElem?_eq_none h1]; exact Nat.zero_le _
theorem map_set_bool (bl : List Bool) (n : Nat) : (bl.map Value.bool).set n (.bool true) = (bl.set n true).map Value.bool := by rw [List.map_set]
theorem take_next {u : W} {q : Nat} (hq : q < u.length) (l : List W) : aftS (u.take (q + 1)) l = aft u[q] (aftS (u.take q) l) := by
  rw [take_snoc u q hq, aftS_app]; rfl
theorem nd_one {w : World} {d : Au} {cs : List Value} {N : Nat} (hN : d.length = N) (hl : cs.length = N * 2) (h : ∀ i (h : i < d.length), ∃ a c, cs[i * 2]? = some (.bool d[i].1) ∧ cs[i * 2 + 1]? = some (.slice a d[i].2.length c) ∧ Rd w 0 2 a d[i].2.length (acells d[i].2) ∧ d[i].2.length ≤ c ∧ c ≤ maxLen) : ∀ u ∈ cs, u.oneCell' = true := by
  subst hN
  intro u hu
  obtain ⟨j, hj, rfl⟩ := List.getElem_of_mem hu
  obtain ⟨a, c, k1, k2, _⟩ := h (j / 2) (by omega)
  rcases Nat.mod_two_eq_zero_or_one j with e | e
  · have e2 : j / 2 * 2 = j := by omega
    rw [e2, List.getElem?_eq_getElem hj] at k1
    injection k1 with k1; rw [k1]; rfl
  · have e2 : j / 2 * 2 + 1 = j := by omega
    rw [e2, List.getElem?_eq_getElem hj] at k2
    injection k2 with k2; rw [k2]; rfl
theorem own_node {w : World} {base n : Nat} {xs : List Value} {v : Value} (h : w.ownsRow base 44 2 v n xs) (hn : 0 < n) : ∃ g cap, v = .slice (some ⟨g, 0, none⟩) n cap ∧ base ≤ g ∧ n ≤ cap ∧ cap ≤ maxLen := by
  rcases h.2 with ⟨_, rfl⟩ | ⟨g, cap, cur, e1, e2, e3, e4, e5, _⟩
  · omega
  · exact ⟨g, cap, e1, e2, e4, e5⟩
theorem dw_turn {w w' : World} {d : Au} {cs : List Value} {g cap n base N : Nat} {a : Option Addr} {c : Nat} (hN : d.length = N) (hn : n < d.length) (hl : cs.length = N * 2)
    (h : ∀ i (h : i < d.length), ∃ a c, cs[i * 2]? = some (.bool d[i].1) ∧ cs[i * 2 + 1]? = some (.slice a d[i].2.length c) ∧ Rd w 0 2 a d[i].2.length (acells d[i].2) ∧ d[i].2.length ≤ c ∧ c ≤ maxLen)
    (hb : Below w.heap.size w w') (hO : w'.ownsRow base 44 2 (.slice (some ⟨g, 0, none⟩) N cap) N ((cs.set 0 (.bool d[n].1)).set 1 (.slice a d[n].2.length c)))
    (hr : Rd w 0 2 a d[n].2.length (acells d[n].2)) (hc : d[n].2.length ≤ c ∧ c ≤ maxLen) : Dw w' (some ⟨g, 0, none⟩) (turn d n) := by
  subst hN
  refine ⟨_, by rw [turn_len]; exact (Rd.of_own hO).untyped, fun i hi0 => ?_⟩
  have hi : i < d.length := by rw [← turn_len d n]; exact hi0
  by_cases e : i = 0
  · subst e
    have e1 : (turn d n)[0]'hi0 = d[n] := by simp [turn, hn]
    rw [e1]
    refine ⟨a, c, ?_, ?_, hr.below hb (Nat.le_refl _), hc⟩
    · rw [List.getElem?_set_ne (by omega), List.getElem?_set_self (by omega)]
    · rw [List.getElem?_set_self (by rw [List.length_set]; omega)]
  · have e1 : (turn d n)[i]'hi0 = d[i] := by simp [turn, List.getElem_set, Ne.symm e]
    rw [e1]
    obtain ⟨a', c', k1, k2, k3, k4⟩ := h i hi
    refine ⟨a', c', ?_, ?_, k3.below hb (Nat.le_refl _), k4⟩
    · rw [List.getElem?_set_ne (by omega), List.getElem?_set_ne (by omega)]; exact k1
    · rw [List.getElem?_set_ne (by omega), List.getElem?_set_ne (by omega)]; exact k2
theorem bool_info : (Tryd.prog.info? 4).map (fun i => (i.zero, i.size, i.bytes)) = some (some (.bool false), 1, 1) := by kernel_rfl
theorem make_bools (n : Nat) (hn : n ≤ 1000000) (w : World) : (Instr.makeSlice 41 (.int .i64 (n : Int)) (.int .i64 (n : Int))).run Tryd.prog w = .ok (.slice (some ⟨w.heap.size, 0, none⟩) n n) (w.alloc (.cells (madeCells #[.bool false] n) 4)) := by
  obtain ⟨i0, hi0, hz0, hz1, hz2⟩ := info_parts bool_info
  have h := run_make_rowN (P := Tryd.prog) 41 4 i0 _ Tryd.underlying41 hi0 hz0 .i64 .i64 n n (Nat.le_refl _) (by rw [hz2]; omega) (by omega) w
  rw [hz1, Nat.mul_one] at h
  exact h
theorem own_bools (w : World) (base n : Nat) (hb : base ≤ w.heap.size) (hn : n ≤ 1000000) : (w.alloc (.cells (madeCells #[.bool false] n) 4)).ownsRow base 4 1 (.slice (some ⟨w.heap.size, 0, none⟩) n n) n (List.replicate n (.bool false)) := by
  have h := World.ownsRow_lit (base := base) (e := 4) (size := 1) w (madeCells #[.bool false] n) n hb (by simp only [maxLen]; omega) (by rw [size_madeCells, Nat.mul_one])
  rw [toList_madeCells_one] at h
  exact h
/-- two own rows of the call's own -/
def R2 (base N : Nat) (rv mv : Value) (n : Nat) (bls : List Bool) (vs : List (List W)) (w : World) : Prop := ∃ rcs, w.ownsRow base 25 1 rv n rcs ∧ Rst w vs rcs ∧ w.ownsRow base 4 1 mv N (bls.map Value.bool)
attribute [local go_sem] bs_beq bs_bne bs_less bs_size
set_option maxHeartbeats 40000000 in
set_option maxRecDepth 100000 in
theorem minimal_walk (A : Option Addr) (c : Nat) (ll : List (List UInt8)) (w : World) (hT : Tb w) (hr : Bss w A ll) (hl : ll.length ≤ maxLen) :
    Calls Tryd.prog 4 #[.slice A ll.length c] w fun e w' => e = .returned (.bool true) ∧ Ext w w' := by
  go_enter Tryd.func4, Tryd.ntmps4
  go_wp2_with fail
  refine (sanity_any w hT).mono ?_
  rintro e w1 ⟨rfl, X1⟩
  go_wp2_with fail
  refine (made_t A c 10 ll _ (hr.ext X1) hl (by omega)).mono ?_
  rintro e w2 ⟨v, rfl, hV, X2⟩
  have hd := made_dict ll 10 (by omega) (by omega)
  have hs := sw_made ll 10
  have hlen := made_len ll 10 (by omega)
  generalize made ll 10 = l at *
  obtain ⟨B, d, rfl, hB, hd1, hd2⟩ := hV
  have X12 := X1.trans X2
  clear X1 X2
  go_wp2_with fail
  refine (build_yes B d l _ hd hB.untyped hd1 hd2 (hT.ext X12)).mono ?_
  rintro e w3 ⟨D, dc, rfl, hdc, hdm, hD, X3⟩
  have hB3 := hB.ext X3
  have X13 := X12.trans X3
  have ha60 := min_len hd hlen hs.small
  have hapos := dict_apos hd
  have ha1 : ¬ ((auto l).length : Int) < 1 := by omega
  have ha2 : ¬ (60 : Int) < (auto l).length := by omega
  clear X12 X3 hB
  go_wp2_with fail
  obtain ⟨N, hN⟩ : ∃ N, (auto l).length = N := ⟨_, rfl⟩
  rw [hN] at ha60 hapos ha1 ha2 ⊢
  have HN := Lib.hid hN
  clear hN
  have hmk := make_bools N (by omega)
  have hc0 : ∀ W : World, Ext w3.drew W → True ∧ True := fun W hE => by
    exact ⟨trivial, trivial⟩
  have HC := Lib.hid hc0; clear hc0
  refine wp_region_list2 (by kernel_rfl) 6 Ext [(0, fun v w => w.ownsRow w3.heap.size 25 1 v 0 []), (3, fun v w => w.ownsRow w3.heap.size 4 1 v N (List.replicate N (.bool false)))] (by kernel_rfl) (fun _ _ d _ _ h => by cases d <;> exact h) rfl Ext.refl (fun _ _ _ => Ext.trans) ⟨fun _ _ _ => (fun hE h => own_below h hE (Nat.le_refl _)), fun _ _ _ => (fun hE h => own_below h hE (Nat.le_refl _)), trivial⟩ ?_
  simp only [List.take_succ_cons, List.take_zero, List.take_nil, List.drop_succ_cons, List.drop_zero, List.drop_nil]
  refine ph_op rfl rfl (fun w4 hE hG => opAt_plain rfl ?_) (fun v hv => ?_)
  · clear hG
    try clear hG
    obtain ⟨_, _⟩ := HC.out w4 hE; (go_simp; try go_bits)
    exact ⟨Ext.alloc _ _, World.ownsRow_made (base := w3.heap.size) (e := 25) (size := 1) _ #[] 0 hE.le (by simp [maxLen]) (by simp)⟩
  obtain ⟨_, _, hv0⟩ := hv
  obtain ⟨r0, rc0, rfl, _⟩ := own_form hv0
  clear hv0
  go_simp
  iterate 2
    refine ph_pure (a' := ?_) rfl rfl ?_ (fun w4 hE hG => pureAt_plain rfl ?_) ?_ ?_
    rotate_left 2
    · clear hG; obtain ⟨_, _⟩ := HC.out w4 hE; (go_simp; try go_bits); rfl
    · go_simp; rfl
  refine ph_op rfl rfl (fun w4 hE hG => opAt_plain rfl ?_) (fun v hv => ?_)
  · clear hG
    try clear hG
    obtain ⟨_, _⟩ := HC.out w4 hE; (go_simp; try go_bits)
    exact ⟨Ext.alloc _ _, own_bools _ _ N hE.le (by omega)⟩
  obtain ⟨_, _, hv0⟩ := hv
  obtain ⟨m0, mc0, rfl, _⟩ := own_form hv0
  clear hv0
  go_simp
  iterate 2
    refine ph_pure (a' := ?_) rfl rfl ?_ (fun w4 hE hG => pureAt_plain rfl ?_) ?_ ?_
    rotate_left 2
    · clear hG; obtain ⟨_, _⟩ := HC.out w4 hE; (go_simp; try go_bits); rfl
    · go_simp; rfl
  refine ph_end (fun w4 hE hG => ?_)
  have hXr : Ext w3 w4 := Ext.drew.trans hE
  simp only [List.forall_mem_cons] at hG
  have MO := hG.1
  have RO := hG.2.1
  clear hE hG HC
  go_wp2_with fail
  have hE := dict_ends hd
  have hVN : (ends l).length = N := by rw [← auto_len]; exact HN.out
  have harc := dict_arcs hd
  go_loopw [7, 9] (fun rv i wr => ∃ k : Nat, k ≤ N ∧ i = .int .i64 k ∧ Ext w3 wr ∧ wr.ownsRow w3.heap.size 4 1 (.slice m0 N mc0) N (List.replicate N (.bool false)) ∧
      ∃ rcs, wr.ownsRow w3.heap.size 25 1 rv k rcs ∧ Rst wr ((ends l).take k) rcs) (fun _ i _ => 1000 - (intOf i).toNat)
  case atStart => exact ⟨0, by omega, by go_num, hXr, MO, [], RO, fun i h => absurd h (by simp)⟩
  case round =>
    obtain ⟨k, hk, rfl, hX, MO, rcs, RO, RS⟩ := hrel
    obtain ⟨rA, rcp, rfl, _⟩ := own_form RO
    by_cases hlt : k < N
    · have hlt' : (k : Int) < N := by omega
      have hDr := hD.ext hX
      obtain ⟨cs, hcs, hnd⟩ := hDr
      rw [HN.out] at hcs
      have O0 : (wr.alloc (Obj.cells #[] 44)).ownsRow wr.heap.size 44 2 (.slice (some ⟨wr.heap.size, 0, none⟩) 0 0) 0 [] := World.ownsRow_made (base := wr.heap.size) (e := 44) (size := 2) wr #[] 0 (Nat.le_refl _) (by simp [maxLen]) (by simp)
      go_wp2_with (at_builtin; apply halt_here)
      apply go_on
      obtain ⟨i0, hi0, hz0, hz1, hz2⟩ := info_parts node_info
      refine wpList_app rfl _ _ 28 rfl wr.heap.size 44 i0 _ 2 32 Tryd.underlying28 hi0 hz0 hz1 hz2 rfl (by decide) _ 0 [] rfl O0 0 _ _ _ cs rfl (hcs.alloc _) (nd_one HN.out hcs.1 hnd) (by simp only [maxLen]; omega) (by omega) (by simp) ?_
      intro v1 w5 O5 hg5 hq5 hb5
      rw [List.nil_append, Nat.zero_add] at O5
      have hb5w : Below wr.heap.size wr w5 := ((Below.refl _ _).alloc (Nat.le_refl _) (Obj.cells #[] 44)).trans hb5
      obtain ⟨g, cap, rfl, hgb, hg1, hg2⟩ := own_node O5 hapos
      have hkl : k < (auto l).length := by rw [HN.out]; exact hlt
      obtain ⟨an, cn, k1, k2, k3, k4, k5⟩ := hnd k hkl
      have c0 := (O5.cellAt (k * 2) (by omega)).trans k1
      have c1 := (O5.cellAt (k * 2 + 1) (by omega)).trans k2
      clear hi0 hz0 hz1 hz2 hg5 hq5 hb5 O0
      by_cases hk0 : k = 0
      · have hk0' : ¬ ((0 : Int) < k) := by omega
        have hDt : Dw w5 (some ⟨g, 0, none⟩) (turn (auto l) k) := by
          rw [hk0, turn_zero (by rw [HN.out]; exact hapos)]
          exact ⟨cs, by rw [HN.out]; exact (Rd.of_own O5).untyped, fun i hi => by
            obtain ⟨a, c, k1, k2, k3, k4⟩ := hnd i hi
            exact ⟨a, c, k1, k2, k3.below hb5w (Nat.le_refl _), k4⟩⟩
        clear c0 c1 k1 k2 k3 k4 k5 hk0
        have X6 : Ext wr w5 := hb5w
        go_wp2_with fail
        refine (listed_k _ cap N (turn (auto l) k) (by rw [turn_len]; exact HN.out) (by omega) (turn_arcs harc k) _ hDt).mono ?_
        rintro e w7 ⟨rv2, rfl, hO7, X7⟩
        have hkv : k < (ends l).length := by omega
        obtain ⟨m, hm⟩ : ∃ m, (ends l)[k] = m := ⟨_, rfl⟩
        have hmm : m ∈ ends l := by rw [← hm]; exact List.getElem_mem hkv
        have hidx : (ends l).idxOf m = k := by rw [← hm]; exact idx_at hE.nodup k hkv
        obtain ⟨kk, hkk, hli⟩ := listed_turn hd m hmm
        rw [hidx] at hli
        rw [hli] at hO7 ⊢
        rw [decide_eq_true hkk]
        have hmne := hE.ne m hmm
        have hmlen : 0 < m.length := List.length_pos_iff.2 hmne
        have hml : ¬ (m.length : Int) = 0 := by omega
        have hml1 : ((m.length : Int) == 0) = false := by rw [beq_eq_false_iff_ne]; exact hml
        obtain ⟨Bm, cm, rfl, hBm, hcm1, hcm2⟩ := hO7.wt
        have X67 := X6.trans X7
        have RO7 := own_below RO X67 (Nat.le_refl _)
        have MO7 := own_below MO X67 (Nat.le_refl _)
        have RS7 : Rst w7 ((ends l).take k) rcs := RS.kp (Kp.of_ext (S := fun _ => False) X67) (fun _ _ _ _ e => e)
        clear hDt hO7 hli
        have hml2 : m.length ≤ 1000 := by have := hE.len m hmm; omega
        go_wp2_with fail
        go_loopw [13] (fun i wq => ∃ q : Nat, q ≤ k ∧ i = .int .i64 q ∧ Ext w7 wq) (fun i _ => 1000 - (intOf i).toNat)
        case atStart => exact ⟨0, by omega, by go_num, Ext.refl _⟩
        case round =>
          obtain ⟨q, hq, rfl, hXq⟩ := hrel
          have RS8 : Rst wr ((ends l).take k) rcs := RS7.kp (Kp.of_ext (S := fun _ => False) hXq) (fun _ _ _ _ e => e)
          have RO8 := own_below RO7 hXq (Nat.le_refl _)
          have hBm8 := hBm.ext hXq
          by_cases hqk : q < k
          · have hqk' : (q : Int) < (k : Nat) := by omega
            have hql : q < ((ends l).take k).length := by rw [List.length_take]; omega
            obtain ⟨Aq, cq, e1, e2, e3, e4, e5⟩ := RS8 q hql
            have hne2 : ((ends l).take k)[q] ≠ m := by
              rw [List.getElem_take]
              intro e
              have := idx_at hE.nodup q (by omega)
              rw [e, hidx] at this
              omega
            obtain ⟨g3, e6⟩ : ∃ g3 : Nat, rA = some ⟨g3, 0, none⟩ := by
              rcases RO8.2 with ⟨_, e⟩ | ⟨g3, cp3, cur3, e, _⟩
              · omega
              · injection e with e; exact ⟨g3, e⟩
            subst e6
            have c5 := (RO8.cellAt q (by omega)).trans e1
            have hgl := (own_typ RO8 rfl).2
            generalize ((ends l).take k)[q] = mq at *
            go_wp2_with fail
            refine (same_words_any Aq Bm _ _ mq m _ e2.untyped hBm8.untyped (by omega)).mono ?_
            rintro e w9 ⟨rfl, X9⟩
            rw [decide_eq_false hne2]
            go_wp2
            exact ⟨⟨q + 1, by omega, by go_num, hXq.trans X9⟩, by simp only [intOf]; omega⟩
          · obtain rfl : k = q := by omega
            go_wp2_with (at_builtin; apply halt_here)
            apply go_on
            obtain ⟨i1, hi0, hz0, hz1, hz2⟩ := info_parts rest_info
            have hle8 : w3.heap.size ≤ wr.heap.size := (hX.trans (X67.trans hXq)).le
            refine wpList_app rfl _ _ 40 rfl w3.heap.size 25 i1 _ 1 24 Tryd.underlying40 hi0 hz0 hz1 hz2 rfl (by decide) _ k rcs rfl (own_alloc RO8 _) 25 _ 1 _ [.slice Bm m.length cm] rfl (Rd.newAt wr _ rfl 25 1 1 #[.slice Bm m.length cm] (0, 0) _ rfl rfl) (by simp [Value.oneCell']) (by simp only [maxLen]; omega) (by omega) (by simp; omega) ?_
            intro rv3 w10 RO10 hg10 hq10 hb10
            have XA : Ext w3 wr := hX.trans (X67.trans hXq)
            have MO8 := own_alloc (own_below MO7 hXq (Nat.le_refl _)) (Obj.cells #[.slice Bm m.length cm] 25)
            have RO9 := own_alloc RO8 (Obj.cells #[.slice Bm m.length cm] 25)
            have hg10' : (wr.alloc (Obj.cells #[.slice Bm m.length cm] 25)).grownBy w10 (Value.slice rA k rcp).ownBlock := hg10
            have K10 : Kp (fun i => (Value.slice rA k rcp).ownBlock = some i) (wr.alloc (Obj.cells #[.slice Bm m.length cm] 25)) w10 := Kp.of_grown hg10' (fun i e => e.symm)
            have MO10 := own_kp MO8 K10 (fun gq h1 h2 => by
              obtain ⟨⟨c1, h3⟩, _⟩ := own_typ MO8 h1
              obtain ⟨⟨c2, h4⟩, _⟩ := own_typ RO9 h2
              rw [h3] at h4
              injection h4 with h4
              injection h4 with _ h4
              cases h4)
            have hS9 : ∀ (b : Nat) cs fr, (wr.alloc (Obj.cells #[.slice Bm m.length cm] 25)).heap[b]? = some (.cells cs 9 fr) → ¬ (Value.slice rA k rcp).ownBlock = some b := fun b cs fr h1 h2 => by
              obtain ⟨⟨c2, h4⟩, _⟩ := own_typ RO9 h2
              rw [h1] at h4
              injection h4 with h4
              injection h4 with _ h4
              cases h4
            have RS10 : Rst w10 ((ends l).take k) rcs := (RS8.kp (Kp.of_ext (S := fun _ => False) (Ext.alloc _ _)) (fun _ _ _ _ e => e)).kp K10 hS9
            have hB10 : Rd w10 9 1 Bm m.length (sv m) := (hBm8.alloc _).kp (by decide) K10 hS9
            have RS11 := RS10.push (by rw [List.length_take]; have := RO8.1; omega) hB10 hcm1 hcm2 hml2
            have htk : (ends l).take k ++ [m] = (ends l).take (k + 1) := by rw [take_snoc (ends l) k hkv, hm]
            rw [htk] at RS11
            have X10 : Ext w3 w10 := Below.trans (XA.trans (Ext.alloc _ (Obj.cells #[.slice Bm m.length cm] 25))) hb10
            clear hi0 hz0 hz1 hz2 hg10 hq10 hb10 hg10' K10 hS9 RS10 htk
            go_wp2
            exact ⟨⟨k + 1, by omega, by go_num, X10, MO10, _, RO10, RS11⟩, by simp only [intOf]; omega⟩
      · have hk0' : (0 : Int) < k := by omega
        obtain ⟨ad, e1, hadb, d0, d1⟩ := (hcs.ext hb5w).twob hlt k1 k2
        subst e1
        clear c0 c1
        go_wp2_with fail
        clear d0 d1
        have hc0 : ∀ W : World, Ext w5.drew W → W.cell? (ad.add (k * 2)) = some (.bool (auto l)[k].1) ∧ W.cell? ⟨(ad.add (k * 2)).block, (ad.add (k * 2)).off + 1, none⟩ = some (.slice an (auto l)[k].2.length cn) ∧ True := fun W hE => by
          obtain ⟨ad2, e2, _, b0, b1⟩ := ((hcs.ext hb5w).ext (Ext.drew.trans hE)).twob hlt k1 k2
          injection e2 with e2
          subst e2
          exact ⟨b0, b1, trivial⟩
        have HC := Lib.hid hc0; clear hc0
        refine wp_region_list2 (by kernel_rfl) 13 Ext [] (by kernel_rfl) (fun _ _ d _ _ h => by cases d <;> exact h) rfl Ext.refl (fun _ _ _ => Ext.trans) trivial ?_
        simp only [List.take_succ_cons, List.take_zero, List.take_nil, List.drop_succ_cons, List.drop_zero, List.drop_nil]
        iterate 13
          refine ph_pure (a' := ?_) rfl rfl ?_ (fun w6 hE hG => pureAt_plain rfl ?_) ?_ ?_
          rotate_left 2
          · clear hG; obtain ⟨hb0, hb1, _⟩ := HC.out w6 hE; (go_simp; try go_bits); rfl
          · go_simp; rfl
        refine ph_end (fun w6 hE hG => ?_)
        have hXr : Ext w5 w6 := Ext.drew.trans hE
        clear hE hG HC
        have O5r := own_below O5 hXr (Nat.le_refl _)
        obtain ⟨a0, cc0, z1, z2, _⟩ := hnd 0 (by omega)
        have y0 := (O5r.cellAt 0 (by omega)).trans z1
        have y1 := (O5r.cellAt 1 (by omega)).trans z2
        have f0 := O5r.frozenAt 0
        have f1 := O5r.frozenAt 1
        have O6 := own_put (own_put O5r 0 (by omega) (.bool (auto l)[k].1)) 1 (by omega) (.slice an (auto l)[k].2.length cn)
        have hb6 : Below wr.heap.size wr ((w6.setCell ⟨g, 0, none⟩ (.bool (auto l)[k].1)).setCell ⟨g, 1, none⟩ (.slice an (auto l)[k].2.length cn)) := ((hb5w.trans (hXr.below.mono hb5w.size)).setCell (by show wr.heap.size ≤ g; omega) _).setCell (by show wr.heap.size ≤ g; omega) _
        have hDt := dw_turn HN.out hkl hcs.1 hnd hb6 O6 k3 ⟨k4, k5⟩
        have X6 : Ext wr ((w6.setCell ⟨g, 0, none⟩ (.bool (auto l)[k].1)).setCell ⟨g, 1, none⟩ (.slice an (auto l)[k].2.length cn)) := hb6
        clear hb6 O6 z1 z2
        go_wp2_with fail
        refine (listed_k _ cap N (turn (auto l) k) (by rw [turn_len]; exact HN.out) (by omega) (turn_arcs harc k) _ hDt).mono ?_
        rintro e w7 ⟨rv2, rfl, hO7, X7⟩
        have hkv : k < (ends l).length := by omega
        obtain ⟨m, hm⟩ : ∃ m, (ends l)[k] = m := ⟨_, rfl⟩
        have hmm : m ∈ ends l := by rw [← hm]; exact List.getElem_mem hkv
        have hidx : (ends l).idxOf m = k := by rw [← hm]; exact idx_at hE.nodup k hkv
        obtain ⟨kk, hkk, hli⟩ := listed_turn hd m hmm
        rw [hidx] at hli
        rw [hli] at hO7 ⊢
        rw [decide_eq_true hkk]
        have hmne := hE.ne m hmm
        have hmlen : 0 < m.length := List.length_pos_iff.2 hmne
        have hml : ¬ (m.length : Int) = 0 := by omega
        have hml1 : ((m.length : Int) == 0) = false := by rw [beq_eq_false_iff_ne]; exact hml
        obtain ⟨Bm, cm, rfl, hBm, hcm1, hcm2⟩ := hO7.wt
        have X67 := X6.trans X7
        have RO7 := own_below RO X67 (Nat.le_refl _)
        have MO7 := own_below MO X67 (Nat.le_refl _)
        have RS7 : Rst w7 ((ends l).take k) rcs := RS.kp (Kp.of_ext (S := fun _ => False) X67) (fun _ _ _ _ e => e)
        clear hDt hO7 hli
        have hml2 : m.length ≤ 1000 := by have := hE.len m hmm; omega
        go_wp2_with fail
        go_loopw [13] (fun i wq => ∃ q : Nat, q ≤ k ∧ i = .int .i64 q ∧ Ext w7 wq) (fun i _ => 1000 - (intOf i).toNat)
        case atStart => exact ⟨0, by omega, by go_num, Ext.refl _⟩
        case round =>
          obtain ⟨q, hq, rfl, hXq⟩ := hrel
          have RS8 : Rst wr ((ends l).take k) rcs := RS7.kp (Kp.of_ext (S := fun _ => False) hXq) (fun _ _ _ _ e => e)
          have RO8 := own_below RO7 hXq (Nat.le_refl _)
          have hBm8 := hBm.ext hXq
          by_cases hqk : q < k
          · have hqk' : (q : Int) < (k : Nat) := by omega
            have hql : q < ((ends l).take k).length := by rw [List.length_take]; omega
            obtain ⟨Aq, cq, e1, e2, e3, e4, e5⟩ := RS8 q hql
            have hne2 : ((ends l).take k)[q] ≠ m := by
              rw [List.getElem_take]
              intro e
              have := idx_at hE.nodup q (by omega)
              rw [e, hidx] at this
              omega
            obtain ⟨g3, e6⟩ : ∃ g3 : Nat, rA = some ⟨g3, 0, none⟩ := by
              rcases RO8.2 with ⟨_, e⟩ | ⟨g3, cp3, cur3, e, _⟩
              · omega
              · injection e with e; exact ⟨g3, e⟩
            subst e6
            have c5 := (RO8.cellAt q (by omega)).trans e1
            have hgl := (own_typ RO8 rfl).2
            generalize ((ends l).take k)[q] = mq at *
            go_wp2_with fail
            refine (same_words_any Aq Bm _ _ mq m _ e2.untyped hBm8.untyped (by omega)).mono ?_
            rintro e w9 ⟨rfl, X9⟩
            rw [decide_eq_false hne2]
            go_wp2
            exact ⟨⟨q + 1, by omega, by go_num, hXq.trans X9⟩, by simp only [intOf]; omega⟩
          · obtain rfl : k = q := by omega
            go_wp2_with (at_builtin; apply halt_here)
            apply go_on
            obtain ⟨i1, hi0, hz0, hz1, hz2⟩ := info_parts rest_info
            have hle8 : w3.heap.size ≤ wr.heap.size := (hX.trans (X67.trans hXq)).le
            refine wpList_app rfl _ _ 40 rfl w3.heap.size 25 i1 _ 1 24 Tryd.underlying40 hi0 hz0 hz1 hz2 rfl (by decide) _ k rcs rfl (own_alloc RO8 _) 25 _ 1 _ [.slice Bm m.length cm] rfl (Rd.newAt wr _ rfl 25 1 1 #[.slice Bm m.length cm] (0, 0) _ rfl rfl) (by simp [Value.oneCell']) (by simp only [maxLen]; omega) (by omega) (by simp; omega) ?_
            intro rv3 w10 RO10 hg10 hq10 hb10
            have XA : Ext w3 wr := hX.trans (X67.trans hXq)
            have MO8 := own_alloc (own_below MO7 hXq (Nat.le_refl _)) (Obj.cells #[.slice Bm m.length cm] 25)
            have RO9 := own_alloc RO8 (Obj.cells #[.slice Bm m.length cm] 25)
            have hg10' : (wr.alloc (Obj.cells #[.slice Bm m.length cm] 25)).grownBy w10 (Value.slice rA k rcp).ownBlock := hg10
            have K10 : Kp (fun i => (Value.slice rA k rcp).ownBlock = some i) (wr.alloc (Obj.cells #[.slice Bm m.length cm] 25)) w10 := Kp.of_grown hg10' (fun i e => e.symm)
            have MO10 := own_kp MO8 K10 (fun gq h1 h2 => by
              obtain ⟨⟨c1, h3⟩, _⟩ := own_typ MO8 h1
              obtain ⟨⟨c2, h4⟩, _⟩ := own_typ RO9 h2
              rw [h3] at h4
              injection h4 with h4
              injection h4 with _ h4
              cases h4)
            have hS9 : ∀ (b : Nat) cs fr, (wr.alloc (Obj.cells #[.slice Bm m.length cm] 25)).heap[b]? = some (.cells cs 9 fr) → ¬ (Value.slice rA k rcp).ownBlock = some b := fun b cs fr h1 h2 => by
              obtain ⟨⟨c2, h4⟩, _⟩ := own_typ RO9 h2
              rw [h1] at h4
              injection h4 with h4
              injection h4 with _ h4
              cases h4
            have RS10 : Rst w10 ((ends l).take k) rcs := (RS8.kp (Kp.of_ext (S := fun _ => False) (Ext.alloc _ _)) (fun _ _ _ _ e => e)).kp K10 hS9
            have hB10 : Rd w10 9 1 Bm m.length (sv m) := (hBm8.alloc _).kp (by decide) K10 hS9
            have RS11 := RS10.push (by rw [List.length_take]; have := RO8.1; omega) hB10 hcm1 hcm2 hml2
            have htk : (ends l).take k ++ [m] = (ends l).take (k + 1) := by rw [take_snoc (ends l) k hkv, hm]
            rw [htk] at RS11
            have X10 : Ext w3 w10 := Below.trans (XA.trans (Ext.alloc _ (Obj.cells #[.slice Bm m.length cm] 25))) hb10
            clear hi0 hz0 hz1 hz2 hg10 hq10 hb10 hg10' K10 hS9 RS10 htk
            go_wp2
            exact ⟨⟨k + 1, by omega, by go_num, X10, MO10, _, RO10, RS11⟩, by simp only [intOf]; omega⟩
    · obtain rfl : N = k := by omega
      have hn : ¬ ((N : Int) < N) := by omega
      obtain ⟨gm, hgm⟩ : ∃ gm : Nat, m0 = some ⟨gm, 0, none⟩ := by
        rcases MO.2 with ⟨_, e⟩ | ⟨g3, cp3, cur3, e, _⟩
        · omega
        · injection e with e; exact ⟨g3, e⟩
      subst hgm
      clear RO RS hlt
      have hlast := HN.out
      go_wp2_with fail
      go_loopw [14] (fun iv wx => ∃ i : Nat, i ≤ l.length ∧ iv = .int .i64 i ∧ Ext w3 wx ∧ ∃ bl, wx.ownsRow w3.heap.size 4 1 (.slice (some ⟨gm, 0, none⟩) N mc0) N (bl.map Value.bool) ∧ Mk l bl i 0) (fun iv _ => 1000 - (intOf iv).toNat)
      case atStart => exact ⟨0, by omega, by go_num, hX, List.replicate N false, by rw [List.map_replicate]; exact MO, by have := Mk.start l; rw [HN.out] at this; exact this⟩
      case round =>
        obtain ⟨i, hi, rfl, hXi, bl, OM, hM⟩ := hrel
        by_cases hil : i < l.length
        · have hil' : (i : Int) < l.length := by omega
          have hu : l[i] ∈ l := List.getElem_mem hil
          have hbl : bl.length = N := by rw [hM.1]; exact HN.out
          have b0 : (bl.map Value.bool)[0]? = some (.bool (bl[0]'(by omega))) := by rw [List.getElem?_map, List.getElem?_eq_getElem (by omega)]; rfl
          have c0 := (OM.cellAt 0 (by omega)).trans b0
          have f0 := OM.frozenAt 0
          have hgmb := (own_typ (g := gm) OM rfl).2.1
          have OM1 := own_put OM 0 (by omega) (.bool true)
          rw [map_set_bool] at OM1
          have M1 := hM.put (n := 0) (fun _ => by rw [List.take_zero]; exact (root_idx hE).symm) (by omega)
          have X1 : Ext w3 (wr.setCell ⟨gm, 0, none⟩ (.bool true)) := hXi.setCell (by show w3.heap.size ≤ gm; omega) _
          have hu4 := hs.small l[i] hu
          have hsu := sv_at l i hil
          have hidx0 : (ends l).idxOf (aftS (l[i].take 0) l) = 0 := by rw [List.take_zero]; exact root_idx hE
          have hNX := Lib.hid (fun (bl : List Bool) (h : Mk l bl i (l[i].length + 1)) => Mk.next hil h)
          have hMP := Lib.hid (fun (bl : List Bool) (q n : Nat) (h : Mk l bl i q) (hn : n = (ends l).idxOf (aftS (l[i].take q) l)) (hnl : n < bl.length) => h.put (n := n) (fun _ => hn) hnl)
          obtain ⟨u, hue⟩ : ∃ u, l[i] = u := ⟨_, rfl⟩
          rw [hue] at hu hu4 hsu hidx0 hNX hMP
          clear hue
          go_wp2_with fail
          go_loopw [15, 16] (fun av qv wx => ∃ q : Nat, q ≤ u.length ∧ qv = .int .i64 q ∧ av = .int .i64 ((ends l).idxOf (aftS (u.take q) l) : Nat) ∧ Ext w3 wx ∧ ∃ bl, wx.ownsRow w3.heap.size 4 1 (.slice (some ⟨gm, 0, none⟩) N mc0) N (bl.map Value.bool) ∧ Mk l bl i (q + 1)) (fun _ qv _ => 1000 - (intOf qv).toNat)
          case atStart => exact ⟨0, by omega, by go_num, by rw [hidx0]; go_num, X1, _, OM1, M1⟩
          case round =>
            clear OM hM c0 f0 b0 OM1 M1 X1 hbl
            obtain ⟨q, hq, rfl, rfl, hXq, bl2, OQ, hMq⟩ := hrel
            have hBq := hB3.ext hXq
            obtain ⟨adB, e1, hadB, hcB⟩ := hBq.one hil hsu
            subst e1
            by_cases hqu : q < u.length
            · have hqu' : (q : Int) < u.length := by omega
              obtain ⟨m, hme⟩ : ∃ m, aftS (u.take q) l = m := ⟨_, rfl⟩
              have hmne : m ≠ [] := by rw [← hme]; exact aftS_ne hu q
              have hmm : m ∈ ends l := by rw [← hme]; exact aftS_in hE _ _ (root_in hE) (by rw [hme]; exact hmne)
              have hnx := take_next hqu l
              have hnxne := aftS_ne hu (q + 1)
              rw [hnx, hme] at hnxne
              rw [hme] at hnx
              have hend := nxt_end hE hmm hnxne
              have hni := List.idxOf_lt_length_iff.2 hmm
              rw [hVN] at hni
              have hkm : aft u[q] m ∈ ends l := aft_in hE hmm hnxne
              have hkn := List.idxOf_lt_length_iff.2 hkm
              rw [hVN] at hkn
              rw [hme]
              have HNXT := Lib.hid hnx
              have HEND := Lib.hid hend
              clear hnx hend hme hnxne
              obtain ⟨n, hn1⟩ : ∃ n, (ends l).idxOf m = n := ⟨_, rfl⟩
              rw [hn1] at hni HEND ⊢
              have hni2 : n < (auto l).length := by rw [HN.out]; exact hni
              have hDq := hD.ext hXq
              obtain ⟨adD, aa, ca, e2, hadD, d0, d1, hra, _⟩ := hDq.at_ hni2
              subst e2
              have harn : arcsOf (auto l) n = (auto l)[n].2 := by
                unfold arcsOf
                rw [List.getD_eq_getElem?_getD, List.getElem?_eq_getElem hni2]; rfl
              rw [harn] at HEND
              have hal6 := harc (auto l)[n] (List.getElem_mem hni2)
              generalize (auto l)[n].2 = al at *
              obtain ⟨cc, hcc⟩ : ∃ cc, u[q] = cc := ⟨_, rfl⟩
              have hget : (bs u)[q]'(by rw [bs_size]; exact hqu) = cc := hcc
              rw [hcc] at HEND HNXT hkm hkn
              clear hDq hBq hD
              have hNS := Lib.hid (nxt_snoc al cc)
              obtain ⟨x2, hx2⟩ : ∃ x2 : Nat, (ends l).idxOf (aft cc m) = x2 := ⟨_, rfl⟩
              rw [hx2] at HEND hkn
              have hqs : q < (bs u).size := by rw [bs_size]; exact hqu
              go_wp2_with fail
              go_loopw [17, 18] (fun nv jv wy => ∃ j : Nat, j ≤ al.length ∧ jv = .int .i64 j ∧ nv = .int .i64 (nxt (al.take j) cc) ∧ Ext wr wy) (fun _ jv _ => 1000001 - (intOf jv).toNat)
              case atStart => exact ⟨0, by omega, by go_num, rfl, Ext.refl _⟩
              case round =>
                obtain ⟨j, hj, rfl, rfl, hXj⟩ := hrel
                have b0 := cell_ext hXj hadD d0
                have b1 := cell_ext hXj (p := ⟨(adD.add (n * 2)).block, (adD.add (n * 2)).off + 1, none⟩) hadD d1
                by_cases hjl : j < al.length
                · have hjl' : (j : Int) < al.length := by omega
                  obtain ⟨s0, s1⟩ := acells_at al j hjl
                  obtain ⟨adA, ea, pbA, a0, a1⟩ := (hra.ext hXj).twob hjl s0 s1
                  subst ea
                  have bB := cell_ext hXj hadB hcB
                  have hS := Lib.hid (hNS.out j hjl)
                  by_cases hc : al[j].1 = cc
                  · have hS2 := Lib.hid (hS.out.trans (if_pos hc))
                    rw [hc] at a0
                    clear hS hc s0 s1
                    generalize al[j].2 = tt at *
                    generalize nxt (al.take j) cc = nn at *
                    go_wp2_with fail
                    go_quiet (fail)
                    go_wp2
                    exact ⟨⟨j + 1, by omega, by go_num, by rw [hS2.out], hXj.trans (Ext.drewN _)⟩, by simp only [intOf]; omega⟩
                  · have hS2 := Lib.hid (hS.out.trans (if_neg hc))
                    have hcn : ((al[j].1.toNat : Int) == cc.toNat) = false := by
                      have : al[j].1.toNat ≠ cc.toNat := fun e => hc (UInt8.toNat_inj.1 e)
                      simp; omega
                    clear hS s0 s1
                    generalize al[j].2 = tt at *
                    generalize al[j].1 = ct at *
                    generalize nxt (al.take j) cc = nn at *
                    go_wp2_with fail
                    go_quiet (fail)
                    go_wp2
                    exact ⟨⟨j + 1, by omega, by go_num, by rw [hS2.out], hXj.trans (Ext.drewN _)⟩, by simp only [intOf]; omega⟩
                · obtain rfl : al.length = j := by omega
                  have hjl' : ¬ (al.length : Int) < al.length := by omega
                  have hen : nxt (al.take al.length) cc = x2 := by rw [List.take_length]; exact HEND.out
                  rw [hen]
                  have OX := own_below OQ hXj (Nat.le_refl _)
                  have hXw := hXq.trans hXj
                  have hx0 : ¬ (x2 : Int) < 0 := by omega
                  have hx1 : ¬ (x2 : Int) ≥ N := by omega
                  have hbl2 : bl2.length = N := by rw [hMq.1]; exact HN.out
                  have c0 := (OX.cellAt x2 (by omega))
                  have k0 : (bl2.map Value.bool)[x2]? = some (.bool (bl2[x2]'(by omega))) := by rw [List.getElem?_map, List.getElem?_eq_getElem (by omega)]; rfl
                  have c1 := c0.trans k0
                  have f0 := OX.frozenAt x2
                  have OM2 := own_put OX x2 (by omega) (.bool true)
                  rw [map_set_bool] at OM2
                  have M2 := hMP.out bl2 (q + 1) x2 hMq (by rw [HNXT.out]; exact hx2.symm) (by omega)
                  have X2 : Ext w3 (wr.setCell ⟨gm, x2, none⟩ (.bool true)) := hXw.setCell (by show w3.heap.size ≤ gm; omega) _
                  clear OX OQ c0 k0 hMq hMP hNX
                  go_wp2
                  exact ⟨⟨q + 1, by omega, by go_num, by rw [HNXT.out, hx2], X2, _, OM2, M2⟩, by simp only [intOf]; omega⟩
            · obtain rfl : u.length = q := by omega
              have hqu' : ¬ (u.length : Int) < u.length := by omega
              have MN := hNX.out bl2 hMq
              clear hMP hNX
              go_wp2
              exact ⟨⟨i + 1, by omega, by go_num, hXq, bl2, OQ, MN⟩, by simp only [intOf]; omega⟩
        · obtain rfl : l.length = i := by omega
          have hil' : ¬ (l.length : Int) < l.length := by omega
          have HALL := Lib.hid (Mk.all hE hM)
          go_wp2_with fail
          go_loopw [19] (fun nv wz => ∃ n : Nat, n ≤ N ∧ nv = .int .i64 n ∧ Ext w3 wz ∧ wz.ownsRow w3.heap.size 4 1 (.slice (some ⟨gm, 0, none⟩) N mc0) N (bl.map Value.bool)) (fun nv _ => 1000 - (intOf nv).toNat)
          case atStart => exact ⟨0, by omega, by go_num, hXi, OM⟩
          case round =>
            clear OM hXi
            obtain ⟨n, hnN, rfl, hXn, ON⟩ := hrel
            by_cases hnl : n < N
            · have hnl' : (n : Int) < N := by omega
              have c0 := ON.cellAt n (by omega)
              have k0 : (bl.map Value.bool)[n]? = some (.bool true) := by rw [List.getElem?_map, HALL.out n (by rw [HN.out]; exact hnl)]; rfl
              have c1 := c0.trans k0
              clear c0 k0
              go_wp2
              exact ⟨⟨n + 1, by omega, by go_num, hXn, ON⟩, by simp only [intOf]; omega⟩
            · obtain rfl : N = n := by omega
              have hnl' : ¬ (N : Int) < N := by omega
              go_wp2
              go_ret
              exact ⟨rfl, X13.trans hXn⟩
end Go.Proofs.YtmmihcophkipoaaDoor
