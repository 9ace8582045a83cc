/-
  Plain: the dictionaries that the laws make.
-/
import Derived.Test.YtmmihcophkipoaaDoorD35
namespace Go.Proofs.YtmmihcophkipoaaDoor
set_option linter.unusedVariables false
set_option linter.unusedSimpArgs false
theorem mem_ins {l : List W} {x y : W} : y ∈ ins l x ↔ y = x ∨ y ∈ l := by
  unfold ins
  by_cases h : x ∈ l
  · rw [if_pos h]
    exact ⟨.inr, fun e => e.elim (fun e => e ▸ h) id⟩
  · rw [if_neg h]
    have e := List.takeWhile_append_dropWhile (p := (bl · x)) (l := l)
    rw [List.mem_append, List.mem_cons]
    constructor
    · rintro (h | rfl | h)
      · exact .inr (by rw [← e]; exact List.mem_append_left _ h)
      · exact .inl rfl
      · exact .inr (by rw [← e]; exact List.mem_append_right _ h)
    · rintro (rfl | h)
      · exact .inr (.inl rfl)
      · rw [← e] at h
        rcases List.mem_append.1 h with h | h
        · exact .inl h
        · exact .inr (.inr h)
theorem up_ins {l : List W} (hu : Up l) (x : W) : Up (ins l x) := by
  unfold ins
  by_cases h : x ∈ l
  · rw [if_pos h]; exact hu
  · rw [if_neg h]
    have e := List.takeWhile_append_dropWhile (p := (bl · x)) (l := l)
    have ht : ∀ a ∈ l.takeWhile (bl · x), bl a x = true := fun a ha => List.all_eq_true.1 (List.all_takeWhile (p := (bl · x)) (l := l)) a ha
    have hu2 : Up (l.takeWhile (bl · x) ++ l.dropWhile (bl · x)) := by rw [e]; exact hu
    obtain ⟨u1, u2, u3⟩ := List.pairwise_append.1 hu2
    have hd : ∀ a ∈ l.dropWhile (bl · x), bl x a = true := by
      cases hD : l.dropWhile (bl · x) with
      | nil => intro a ha; cases ha
      | cons b D =>
        have hb : bl b x = false := by
          have := List.head?_dropWhile_not (bl · x) l
          rw [hD] at this
          simpa using this
        have hbl : b ∈ l := by rw [← e, hD]; simp
        have hxb : bl x b = true := by
          rcases bl_tri x b with h1 | h1 | h1
          · exact h1
          · exact absurd (h1 ▸ hbl) h
          · rw [hb] at h1; cases h1
        intro a ha
        rcases List.mem_cons.1 ha with rfl | ha
        · exact hxb
        · rw [hD] at u2
          exact bl_trans hxb ((List.pairwise_cons.1 u2).1 a ha)
    refine List.pairwise_append.2 ⟨u1, List.pairwise_cons.2 ⟨hd, u2⟩, fun a ha b hb => ?_⟩
    rcases List.mem_cons.1 hb with rfl | hb
    · exact ht a ha
    · exact bl_trans (ht a ha) (hd b hb)
def w4 (u : W) : Prop := word u = true ∧ u.length ≤ 4
theorem abc_plain (i : Nat) : plain1 (abc i) = true := by
  unfold abc
  match i with
  | 0 => decide
  | 1 => decide
  | 2 => decide
  | 3 => decide
  | i + 4 => simp only [List.getD_eq_getElem?_getD]; simp; decide
theorem w4_mk (b : List UInt8) : w4 (mkword b) := by
  unfold mkword w4
  by_cases h : mkw b = []
  · rw [if_pos h]; exact ⟨by decide, by decide⟩
  · rw [if_neg h]
    have h1 : (mkw b).length ≤ 4 := by unfold mkw; rw [List.length_map, List.length_take]; omega
    have h2 : 1 ≤ (mkw b).length := List.length_pos_iff.2 h
    have h3 : (mkw b).all plain1 = true := List.all_eq_true.2 fun c hc => by
      unfold mkw at hc
      obtain ⟨d, _, rfl⟩ := List.mem_map.1 hc
      exact abc_plain _
    refine ⟨?_, h1⟩
    unfold word
    simp only [Bool.and_eq_true, decide_eq_true_eq]
    exact ⟨⟨h2, by omega⟩, h3⟩
/-- a small list of words -/
structure Sw (l : List W) : Prop where
  up : Up l
  w : ∀ u ∈ l, w4 u
theorem Sw.nil : Sw [] := ⟨List.Pairwise.nil, fun u h => by cases h⟩
theorem Sw.ins {l : List W} (h : Sw l) {x : W} (hx : w4 x) : Sw (ins l x) := ⟨up_ins h.up x, fun u hu => (mem_ins.1 hu).elim (fun e => e ▸ hx) (h.w u)⟩
theorem Sw.dict {l : List W} (h : Sw l) (h1 : 1 ≤ l.length) (h2 : l.length ≤ 200) : dict l = true := by
  unfold Go.Proofs.YtmmihcophkipoaaDoor.dict
  simp only [Bool.and_eq_true, decide_eq_true_eq]
  exact ⟨⟨⟨List.all_eq_true.2 fun u hu => (h.w u hu).1, (upB_iff l).2 h.up⟩, h1⟩, h2⟩
theorem sw_grow (ll : List (List UInt8)) : Sw (grow ll) := by
  unfold grow
  have key : ∀ (ll : List (List UInt8)) (o : List W), Sw o → Sw (ll.foldl (fun o b => ins o (mkword b)) o) := by
    intro ll
    induction ll with
    | nil => intro o h; exact h
    | cons b ll ih => intro o h; exact ih _ (h.ins (w4_mk b))
  exact key ll [] Sw.nil
theorem sw_made (ll : List (List UInt8)) (n : Nat) : Sw (made ll n) := by
  unfold made
  split
  · exact ⟨List.pairwise_singleton _ _, fun u hu => by rw [List.mem_singleton.1 hu]; exact ⟨by decide, by decide⟩⟩
  · exact sw_grow _
theorem made_pos (ll : List (List UInt8)) (n : Nat) : 1 ≤ (made ll n).length := by
  unfold made
  split
  · decide
  · rename_i h; exact List.length_pos_iff.2 h
theorem made_len (ll : List (List UInt8)) (n : Nat) (hn : 1 ≤ n) : (made ll n).length ≤ n := by
  unfold made
  split
  · simpa using hn
  · exact grow_len ll n
theorem made_dict (ll : List (List UInt8)) (n : Nat) (h1 : 1 ≤ n) (hn : n ≤ 200) : dict (made ll n) = true :=
  (sw_made ll n).dict (made_pos ll n) (Nat.le_trans (made_len ll n h1) hn)
theorem plain_ascii {c : UInt8} (h : plain1 c = true) : c.toNat < 128 := by
  unfold plain1 at h
  simp only [Bool.or_eq_true, Bool.and_eq_true, decide_eq_true_eq, UInt8.le_iff_toNat_le] at h
  have e2 : (122 : UInt8).toNat = 122 := rfl
  have e4 : (90 : UInt8).toNat = 90 := rfl
  have e6 : (57 : UInt8).toNat = 57 := rfl
  omega
theorem w4.ascii {u : W} (h : w4 u) : ∀ c ∈ u, c.toNat < 128 := fun c hc => by
  have := h.1
  unfold word at this
  simp only [Bool.and_eq_true] at this
  exact plain_ascii (List.all_eq_true.1 this.2 c hc)
theorem Sw.small {l : List W} (h : Sw l) : ∀ u ∈ l, u.length ≤ 4 := fun u hu => (h.w u hu).2
theorem idxW {V : List W} (hn : V.Nodup) (n : Nat) (h : n < V.length) : V.idxOf V[n] = n := by
  have h1 := List.idxOf_lt_length_iff.2 (List.getElem_mem h)
  have e := List.getElem_idxOf h1
  have hp := List.pairwise_iff_getElem.1 hn
  rcases Nat.lt_trichotomy (V.idxOf V[n]) n with k | k | k
  · exact absurd e (hp _ _ h1 h k)
  · exact k
  · exact absurd e.symm (hp _ _ h h1 k)
theorem wix_get {l : List W} (hu : Up l) {n : Nat} (h : n < l.length) : wix l l[n] = n := by
  unfold wix
  rw [if_pos (List.getElem_mem h)]
  rw [idxW hu.nodup n h]
end Go.Proofs.YtmmihcophkipoaaDoor
