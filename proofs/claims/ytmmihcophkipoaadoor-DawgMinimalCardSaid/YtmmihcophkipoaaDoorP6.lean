/-
  Plain: the automaton of a dictionary: sizes, places, words.
-/
import Derived.Test.YtmmihcophkipoaaDoorP5
namespace Go.Proofs.YtmmihcophkipoaaDoor
set_option linter.unusedVariables false
set_option linter.unusedSimpArgs false
/-- the groups put together again -/
def unG (g : List (UInt8 × List W)) : List W := g.flatMap fun a => a.2.map (a.1 :: ·)
theorem unG_cons (a : UInt8 × List W) (g : List (UInt8 × List W)) : unG (a :: g) = a.2.map (a.1 :: ·) ++ unG g := by simp [unG]
theorem unG_grp : ∀ {r : List W}, (∀ u ∈ r, u ≠ []) → unG (grp r) = r := by
  intro r
  induction r with
  | nil => intro _; rfl
  | cons w r ih =>
    intro h
    have ih2 := ih fun u hu => h u (List.mem_cons_of_mem _ hu)
    have hw := h w (List.mem_cons_self ..)
    cases w with
    | nil => exact absurd rfl hw
    | cons c t =>
      rw [grp_cons]
      unfold cons1
      dsimp only
      split
      · rename_i c' m g' eg
        rw [eg, unG_cons] at ih2
        split
        · rename_i hc
          subst hc
          rw [unG_cons, ← ih2]; rfl
        · rw [unG_cons, unG_cons, ← ih2]; rfl
      · rename_i eg
        rw [eg] at ih2
        rw [unG_cons, ← ih2]; rfl
theorem split_fin {m : List W} (h : Up m) : m = (if fin m = true then [[]] else []) ++ unG (grp m) := by
  have h1 := unG_grp (rest0_ne h)
  rw [grp_rest0] at h1
  rw [h1]
  unfold rest0
  cases m with
  | nil => rfl
  | cons a m => cases a <;> simp [fin]
theorem unG_len (g : List (UInt8 × List W)) : (unG g).length = (g.map fun a => a.2.length).sum := by
  induction g with
  | nil => rfl
  | cons a g ih => rw [unG_cons, List.length_append, List.length_map, ih]; simp
theorem size_split {m : List W} (h : Up m) : m.length = (if fin m = true then 1 else 0) + ((grp m).map fun a => a.2.length).sum := by
  conv => lhs; rw [split_fin h]
  rw [List.length_append, unG_len]
  split <;> rfl
def mx (m : List W) : Nat := (m.map List.length).foldl Nat.max 0
theorem foldl_max_le (l : List Nat) : ∀ a, a ≤ l.foldl Nat.max a ∧ ∀ x ∈ l, x ≤ l.foldl Nat.max a := by
  induction l with
  | nil => intro a; exact ⟨Nat.le_refl _, fun x h => by cases h⟩
  | cons b l ih =>
    intro a
    rw [List.foldl_cons]
    obtain ⟨h1, h2⟩ := ih (Nat.max a b)
    refine ⟨Nat.le_trans (Nat.le_max_left a b) h1, fun x hx => ?_⟩
    rcases List.mem_cons.1 hx with rfl | hx
    · exact Nat.le_trans (Nat.le_max_right a x) h1
    · exact h2 x hx
theorem foldl_max_lt (l : List Nat) : ∀ a k, a < k → (∀ x ∈ l, x < k) → l.foldl Nat.max a < k := by
  induction l with
  | nil => intro a k h _; exact h
  | cons b l ih =>
    intro a k h hx
    rw [List.foldl_cons]
    exact ih _ k (Nat.max_lt.2 ⟨h, hx b (List.mem_cons_self ..)⟩) fun x hx' => hx x (List.mem_cons_of_mem _ hx')
theorem mx_le {m : List W} {u : W} (h : u ∈ m) : u.length ≤ mx m := (foldl_max_le _ 0).2 _ (List.mem_map_of_mem h)
theorem mx_lt {m : List W} {k : Nat} (h0 : 0 < k) (h : ∀ u ∈ m, u.length < k) : mx m < k := foldl_max_lt _ 0 k h0 fun x hx => by
  obtain ⟨u, hu, rfl⟩ := List.mem_map.1 hx
  exact h u hu
section
variable {l : List W}
def SzE (l : List W) (n : Nat) : Nat := ((ends l).getD n []).length
def HtE (l : List W) (n : Nat) : Nat := mx ((ends l).getD n [])
theorem getD_idx {m : List W} (hm : m ∈ ends l) : (ends l).getD ((ends l).idxOf m) [] = m := by
  have h := List.idxOf_lt_length_iff.2 hm
  rw [List.getD_eq_getElem?_getD, List.getElem?_eq_getElem h, at_idx hm]; rfl
theorem getD_at {n : Nat} (h : n < (ends l).length) : (ends l).getD n [] = (ends l)[n] := by rw [List.getD_eq_getElem?_getD, List.getElem?_eq_getElem h]; rfl
theorem szs_auto (hE : Ends l (ends l)) (hl : l.length ≤ 1000) (hN : (ends l).length ≤ 100000) : Szs (auto l) (HtE l) (SzE l) := by
  have hg : ∀ m ∈ ends l, (grp m).length ≤ 1000 := fun m hm => Nat.le_trans (grp_len m) (Nat.le_trans (hE.len m hm) hl)
  refine ⟨⟨by rw [auto_len]; exact hE.pos, by rw [auto_len]; omega, fun x hx => ?_, fun x hx a ha => ?_⟩, fun n hn a ha => ?_, fun n hn => ?_, fun n hn => ?_⟩
  · obtain ⟨n, hn, rfl⟩ := List.getElem_of_mem hx
    rw [auto_len] at hn
    rw [auto_at l n hn]
    simp only [node, List.length_map]
    have := hg _ (List.getElem_mem hn)
    omega
  · obtain ⟨n, hn, rfl⟩ := List.getElem_of_mem hx
    rw [auto_len] at hn
    rw [auto_at l n hn] at ha
    simp only [node, List.mem_map] at ha
    obtain ⟨b, hb, rfl⟩ := ha
    have h1 := List.idxOf_lt_length_iff.2 (hE.kids _ (List.getElem_mem hn) b hb)
    rw [auto_len]
    simp only
    omega
  · rw [auto_len] at hn
    rw [auto_arcs l n hn] at ha
    simp only [List.mem_map] at ha
    obtain ⟨b, hb, rfl⟩ := ha
    have hm := List.getElem_mem hn
    have hk := hE.kids _ hm b hb
    unfold HtE
    simp only [Int.toNat_natCast]
    rw [getD_idx hk, getD_at hn]
    have hup := hE.up _ hm
    have e := (grp_up hup).2.1 b hb
    obtain ⟨u, hu⟩ := List.exists_mem_of_ne_nil _ (hE.ne _ hk)
    rw [e, mem_aft] at hu
    have h0 := mx_le hu
    simp at h0
    refine mx_lt (by omega) fun v hv => ?_
    rw [e, mem_aft] at hv
    have := mx_le hv
    simp at this
    omega
  · have hn2 := hn
    rw [auto_len] at hn
    unfold SzE
    rw [auto_arcs l n hn, getD_at hn, List.map_map]
    have hm := List.getElem_mem hn
    have e1 : (auto l)[n].1 = fin (ends l)[n] := by rw [auto_at l n hn]; rfl
    rw [e1, size_split (hE.up _ hm)]
    congr 1
    congr 1
    refine List.map_congr_left fun b hb => ?_
    simp only [Function.comp, Int.toNat_natCast]
    rw [getD_idx (hE.kids _ hm b hb)]
  · rw [auto_len] at hn
    unfold SzE
    rw [getD_at hn]
    have := hE.len _ (List.getElem_mem hn)
    omega
theorem met_auto (hE : Ends l (ends l)) : Met (auto l) := by
  intro P h0 hP n hn
  rw [auto_len] at hn
  have key := hE.all (fun m => m ∈ ends l ∧ P ((ends l).idxOf m)) ⟨root_in hE, by rw [root_idx hE]; exact h0⟩ (fun m hm hp a ha => by
    refine ⟨hE.kids m hm a ha, ?_⟩
    have h1 := List.idxOf_lt_length_iff.2 hm
    have h2 := hP _ (by rw [auto_len]; exact h1) hp.2 (a.1, ((ends l).idxOf a.2 : Int)) (by rw [arcs_idx hm]; exact List.mem_map.2 ⟨a, ha, rfl⟩)
    simpa using h2)
  have h3 := (key _ (List.getElem_mem hn)).2
  rwa [idx_at hE.nodup n hn] at h3
theorem count_auto (hE : Ends l (ends l)) (s : W) : cntO (SzE l) (lead (auto l) 0 s) = cnt l s := by
  rw [lead_auto hE, ← aftS_cnt]
  by_cases h : aftS s l = []
  · rw [if_pos h, h]; rfl
  · rw [if_neg h]
    unfold cntO SzE
    simp only
    rw [getD_idx (aftS_in hE s l (root_in hE) h)]
theorem sz_root (hE : Ends l (ends l)) : SzE l 0 = l.length := by
  have h := count_auto hE []
  rw [← aftS_cnt] at h
  unfold lead cntO at h
  exact h
end
/-- where a word stands among groups -/
theorem idx_map (c : UInt8) (s : W) (L : List W) : (L.map (c :: ·)).idxOf (c :: s) = L.idxOf s := by
  induction L with
  | nil => rfl
  | cons a L ih =>
    rw [List.map_cons, List.idxOf_cons, List.idxOf_cons, ih]
    by_cases h : a = s
    · subst h; simp
    · have h1 : (a == s) = false := by simpa using h
      have h2 : ((c :: a) == (c :: s)) = false := by simpa using h
      rw [h1, h2]
theorem idx_unG {g : List (UInt8 × List W)} {k : Nat} (hk : k < g.length) {c : UInt8} {L : List W} (e : g[k] = (c, L)) (hd : ∀ j (h : j < g.length), j < k → g[j].1 ≠ c) (s : W) (hs : s ∈ L) : (unG g).idxOf (c :: s) = ((g.take k).map fun a => a.2.length).sum + L.idxOf s := by
  induction g generalizing k with
  | nil => simp at hk
  | cons a g ih =>
    rw [unG_cons]
    cases k with
    | zero =>
      simp only [List.getElem_cons_zero] at e
      subst e
      rw [List.idxOf_append, if_pos (List.mem_map.2 ⟨s, hs, rfl⟩), idx_map]
      simp
    | succ k =>
      have h0 : a.1 ≠ c := hd 0 (by simp) (by omega)
      have hn : (c :: s) ∉ a.2.map (a.1 :: ·) := fun h => by
        obtain ⟨t, _, ht⟩ := List.mem_map.1 h
        injection ht with h1 _
        exact h0 h1
      rw [List.idxOf_append, if_neg hn, List.length_map, ih (k := k) (by simpa using hk) (by simpa using e) (fun j h hj => hd (j + 1) (by simpa using h) (by omega))]
      simp
      omega
/-- the word at a place among groups -/
theorem at_unG {S : Nat → Nat} {num : List W → Nat} : ∀ (g : List (UInt8 × List W)) (i : Nat), (∀ a ∈ g, S (num a.2) = a.2.length) → i < (unG g).length → ∃ x r, pick S (g.map fun a => (a.1, (num a.2 : Int))) i = some (x, r) ∧ ∃ h : x < g.length, ∃ h2 : r < g[x].2.length, (unG g)[i]? = some (g[x].1 :: g[x].2[r]) := by
  intro g
  induction g with
  | nil => intro i _ h; simp [unG] at h
  | cons a g ih =>
    intro i hS hi
    have ha := hS a (List.mem_cons_self ..)
    rw [List.map_cons]
    unfold pick
    simp only [Int.toNat_natCast]
    rw [ha]
    rw [unG_cons] at hi ⊢
    by_cases h : i < a.2.length
    · rw [if_pos h]
      exact ⟨0, i, rfl, by simp, h, by rw [List.getElem?_append_left (by simpa using h)]; simp [h]⟩
    · rw [if_neg h]
      rw [List.length_append, List.length_map] at hi
      obtain ⟨x, r, h1, h2, h3, h4⟩ := ih (i - a.2.length) (fun b hb => hS b (List.mem_cons_of_mem _ hb)) (by omega)
      rw [h1]
      exact ⟨x + 1, r, rfl, by simpa using h2, h3, by rw [List.getElem?_append_right (by simpa using h), List.length_map]; simpa using h4⟩
section
variable {l : List W}
theorem index_auto (hE : Ends l (ends l)) : ∀ (s : W) (m : List W), m ∈ ends l → s ∈ m → idxS (auto l) (SzE l) ((ends l).idxOf m) s = m.idxOf s := by
  intro s
  induction s with
  | nil =>
    intro m hm hs
    have h := (fin_iff (hE.up m hm)).2 hs
    cases m with
    | nil => cases hs
    | cons a m =>
      cases a with
      | nil => simp [idxS]
      | cons c t => simp [fin] at h
  | cons c s ih =>
    intro m hm hs
    have hup := hE.up m hm
    have hs2 : s ∈ aft c m := mem_aft.2 hs
    have hne : aft c m ≠ [] := fun e => by rw [e] at hs2; cases hs2
    have hin := aft_in hE hm hne
    rw [idxS_cons, fin_idx hm, step_idx hE hm, if_neg hne, arcs_idx hm]
    simp only [Option.getD_some]
    rw [ih _ hin hs2]
    rcases aix_grp (V := ends l) hup c with ⟨_, h⟩ | ⟨k, hk, h1, h2⟩
    · exact absurd h hne
    · have hb : befo (SzE l) ((grp m).map fun a => (a.1, ((ends l).idxOf a.2 : Int))) c = (((grp m).take k).map fun a => a.2.length).sum := by
        unfold befo
        rw [h1, ← List.map_take, List.map_map]
        congr 1
        refine List.map_congr_left fun b hb => ?_
        simp only [Function.comp, Int.toNat_natCast]
        unfold SzE
        rw [getD_idx (hE.kids m hm b (List.mem_of_mem_take hb))]
      rw [hb]
      have hd : ∀ j (h : j < (grp m).length), j < k → (grp m)[j].1 ≠ c := fun j hj hjk e => by
        have h3 := (List.pairwise_iff_getElem.1 (grp_up hup).1) j k hj hk hjk
        rw [h2, e] at h3
        exact UInt8.lt_irrefl _ h3
      have h3 := idx_unG hk h2 hd s hs2
      conv => rhs; rw [split_fin hup]
      split
      · rw [List.idxOf_append, if_neg (by simp), h3]
        simp; omega
      · rw [List.nil_append, h3]; omega
theorem at_auto (hE : Ends l (ends l)) : ∀ (f : Nat) (m : List W) (i : Nat), m ∈ ends l → mx m < f → ∀ hi : i < m.length, atF (auto l) (SzE l) f ((ends l).idxOf m) i = m[i] := by
  intro f
  induction f with
  | zero => intro m i _ h; omega
  | succ f ih =>
    intro m i hm hf hi
    have hup := hE.up m hm
    rw [atF_succ, fin_idx hm, arcs_idx hm]
    have hsp := split_fin hup
    have hS : ∀ a ∈ grp m, SzE l ((ends l).idxOf a.2) = a.2.length := fun a ha => by unfold SzE; rw [getD_idx (hE.kids m hm a ha)]
    have hgo : ∀ j, j < (unG (grp m)).length → (match pick (SzE l) ((grp m).map fun a => (a.1, ((ends l).idxOf a.2 : Int))) j with
        | none => []
        | some (x, r) => (((grp m).map fun a => (a.1, ((ends l).idxOf a.2 : Int))).getD x (0, 0)).1 :: atF (auto l) (SzE l) f (((grp m).map fun a => (a.1, ((ends l).idxOf a.2 : Int))).getD x (0, 0)).2.toNat r) = (unG (grp m)).getD j [] := by
      intro j hj
      obtain ⟨x, r, h1, h2, h3, h4⟩ := at_unG (S := SzE l) (num := fun m => (ends l).idxOf m) (grp m) j hS hj
      rw [h1]
      have hk := hE.kids m hm _ (List.getElem_mem h2)
      have e1 : ((grp m).map fun a => (a.1, ((ends l).idxOf a.2 : Int))).getD x (0, 0) = ((grp m)[x].1, ((ends l).idxOf (grp m)[x].2 : Int)) := by
        rw [List.getD_eq_getElem?_getD, List.getElem?_map, List.getElem?_eq_getElem h2]; rfl
      simp only [e1, Int.toNat_natCast]
      have hmx : mx (grp m)[x].2 < f := by
        have e2 := (grp_up hup).2.1 _ (List.getElem_mem h2)
        have h5 : ∀ v ∈ (grp m)[x].2, v.length < mx m := fun v hv => by
          rw [e2, mem_aft] at hv
          have := mx_le hv
          simp at this
          omega
        obtain ⟨u, hu⟩ := List.exists_mem_of_ne_nil _ (hE.ne _ hk)
        have h6 := h5 u hu
        have := mx_lt (by omega) h5
        omega
      rw [ih _ r hk hmx h3, List.getD_eq_getElem?_getD, h4]; rfl
    have hmi : m[i] = m.getD i [] := by rw [List.getD_eq_getElem?_getD, List.getElem?_eq_getElem hi]; rfl
    by_cases hfin : fin m = true
    · rw [if_pos hfin] at hsp
      by_cases h0 : i = 0
      · subst h0
        rw [if_pos ⟨hfin, rfl⟩, hmi]
        conv => rhs; rw [hsp]
        rfl
      · rw [if_neg (fun h => h0 h.2), if_pos hfin]
        have hl : m.length = 1 + (unG (grp m)).length := by
          conv => lhs; rw [hsp]
          rw [List.length_append]; rfl
        refine (hgo (i - 1) (by omega)).trans ?_
        rw [hmi]
        conv => rhs; rw [hsp]
        obtain ⟨j, rfl⟩ : ∃ j, i = j + 1 := ⟨i - 1, by omega⟩
        rfl
    · rw [if_neg hfin] at hsp
      rw [if_neg (fun h => hfin h.1), if_neg hfin]
      have hl : m.length = (unG (grp m)).length := by
        conv => lhs; rw [hsp]
        rfl
      refine (hgo i (by omega)).trans ?_
      rw [hmi]
      conv => rhs; rw [hsp]
      rfl
end
end Go.Proofs.YtmmihcophkipoaaDoor
