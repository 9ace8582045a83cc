/-
  Plain facts on increasing lists of words, and on what follows a byte in them. No program in sight.
-/
import GoSem.Op.String
namespace Go.Proofs.YtmmihcophkipoaaDoor
set_option linter.unusedVariables false
set_option linter.unusedSimpArgs false
abbrev W := List UInt8
/-- a comes ahead of b -/
abbrev bl (a b : W) : Bool := Op.bytesLess a b
theorem bl_nil (a : W) : bl a [] = false := by unfold bl Op.bytesLess; rfl
theorem bl_nil_cons (b : UInt8) (y : W) : bl [] (b :: y) = true := by unfold bl Op.bytesLess; rfl
theorem bl_cons (a b : UInt8) (x y : W) : bl (a :: x) (b :: y) = (decide (a < b) || (a == b && bl x y)) := by unfold bl; rw [Op.bytesLess]
theorem bl_same (a : UInt8) (x y : W) : bl (a :: x) (a :: y) = bl x y := by rw [bl_cons]; simp
theorem bl_irrefl (a : W) : bl a a = false := by
  induction a with
  | nil => rfl
  | cons c a ih => rw [bl_same]; exact ih
theorem u8_lt_trans {a b c : UInt8} (h : a < b) (k : b < c) : a < c := by
  rw [UInt8.lt_iff_toNat_lt] at *; omega
theorem bl_trans {a b c : W} (h : bl a b = true) (k : bl b c = true) : bl a c = true := by
  induction a generalizing b c with
  | nil => cases c with
    | nil => rw [bl_nil] at k; cases k
    | cons z c => rfl
  | cons x a ih =>
    cases b with
    | nil => rw [bl_nil] at h; cases h
    | cons y b =>
      cases c with
      | nil => rw [bl_nil] at k; cases k
      | cons z c =>
        rw [bl_cons] at *
        simp only [Bool.or_eq_true, decide_eq_true_eq, Bool.and_eq_true, beq_iff_eq] at *
        rcases h with h | ⟨rfl, h⟩ <;> rcases k with k | ⟨rfl, k⟩
        · exact .inl (u8_lt_trans h k)
        · exact .inl h
        · exact .inl k
        · exact .inr ⟨rfl, ih h k⟩
theorem bl_asymm {a b : W} (h : bl a b = true) : bl b a = false := by
  cases hb : bl b a with
  | false => rfl
  | true => have := bl_trans h hb; rw [bl_irrefl] at this; cases this
theorem u8_tri (a b : UInt8) : a < b ∨ a = b ∨ b < a := by
  rw [UInt8.lt_iff_toNat_lt, UInt8.lt_iff_toNat_lt, ← UInt8.toNat_inj]; omega
theorem bl_tri (a b : W) : bl a b = true ∨ a = b ∨ bl b a = true := by
  induction a generalizing b with
  | nil => cases b with
    | nil => exact .inr (.inl rfl)
    | cons y b => exact .inl rfl
  | cons x a ih =>
    cases b with
    | nil => exact .inr (.inr rfl)
    | cons y b =>
      rw [bl_cons, bl_cons]
      simp only [Bool.or_eq_true, decide_eq_true_eq, Bool.and_eq_true, beq_iff_eq]
      rcases u8_tri x y with h | rfl | h
      · exact .inl (.inl h)
      · rcases ih b with h | rfl | h
        · exact .inl (.inr ⟨rfl, h⟩)
        · exact .inr (.inl rfl)
        · exact .inr (.inr (.inr ⟨rfl, h⟩))
      · exact .inr (.inr (.inl h))
theorem bl_head {a b : UInt8} {x y : W} (h : bl (a :: x) (b :: y) = true) : a < b ∨ (a = b ∧ bl x y = true) := by
  rw [bl_cons] at h
  simpa using h
/-- strictly increasing -/
def Up (l : List W) : Prop := l.Pairwise fun a b => bl a b = true
theorem Up.nodup {l : List W} (h : Up l) : l.Nodup := h.imp fun {a b} hab e => by rw [e, bl_irrefl] at hab; cases hab
theorem Up.tail {a : W} {l : List W} (h : Up (a :: l)) : Up l := (List.pairwise_cons.1 h).2
theorem Up.sub {l m : List W} (h : Up m) (s : l.Sublist m) : Up l := List.Pairwise.sublist s h
theorem Up.head {a : W} {l : List W} (h : Up (a :: l)) : ∀ b ∈ l, bl a b = true := (List.pairwise_cons.1 h).1
/-- two increasing lists with the same words are equal -/
theorem Up.ext {l m : List W} (h : Up l) (k : Up m) (e : ∀ w, w ∈ l ↔ w ∈ m) : l = m := by
  induction l generalizing m with
  | nil =>
    cases m with
    | nil => rfl
    | cons b m => have := (e b).2 (List.mem_cons_self ..); cases this
  | cons a l ih =>
    cases m with
    | nil => have := (e a).1 (List.mem_cons_self ..); cases this
    | cons b m =>
      have hab : a = b := by
        have h1 := (e a).1 (List.mem_cons_self ..)
        have h2 := (e b).2 (List.mem_cons_self ..)
        rcases List.mem_cons.1 h1 with h1 | h1
        · exact h1
        · rcases List.mem_cons.1 h2 with h2 | h2
          · exact h2.symm
          · have x := k.head a h1
            have y := h.head b h2
            have := bl_trans x y
            rw [bl_irrefl] at this; cases this
      subst hab
      rw [ih h.tail k.tail (fun w => ?_)]
      have hw := e w
      simp only [List.mem_cons] at hw
      constructor
      · intro hm
        rcases hw.1 (.inr hm) with rfl | h'
        · have := h.head w hm; rw [bl_irrefl] at this; cases this
        · exact h'
      · intro hm
        rcases hw.2 (.inr hm) with rfl | h'
        · have := k.head w hm; rw [bl_irrefl] at this; cases this
        · exact h'
/-- what follows a byte -/
def cut1 (c : UInt8) : W → Option W
  | x :: t => if x = c then some t else none
  | [] => none
theorem cut1_some {c : UInt8} {w t : W} : cut1 c w = some t ↔ w = c :: t := by
  cases w with
  | nil => simp [cut1]
  | cons x w =>
    simp only [cut1]
    by_cases h : x = c
    · subst h; simp
    · rw [if_neg h]; simp [h]
def aft (c : UInt8) (l : List W) : List W := l.filterMap (cut1 c)
theorem mem_aft {c : UInt8} {l : List W} {t : W} : t ∈ aft c l ↔ c :: t ∈ l := by
  unfold aft
  rw [List.mem_filterMap]
  constructor
  · rintro ⟨w, hw, h⟩
    rw [cut1_some] at h
    subst h; exact hw
  · intro h
    exact ⟨_, h, cut1_some.2 rfl⟩
theorem up_aft {c : UInt8} {l : List W} (h : Up l) : Up (aft c l) := by
  unfold aft Up
  refine List.Pairwise.filterMap _ ?_ h
  intro a a' haa b hb b' hb'
  rw [cut1_some] at hb hb'
  subst hb hb'
  rwa [bl_same] at haa
def fin (l : List W) : Bool := match l with
  | [] :: _ => true
  | _ => false
theorem fin_iff {l : List W} (h : Up l) : fin l = true ↔ [] ∈ l := by
  cases l with
  | nil => simp [fin]
  | cons a l =>
    cases a with
    | nil => simp [fin]
    | cons c t =>
      simp only [fin, List.mem_cons, reduceCtorEq, false_or, Bool.false_eq_true, false_iff]
      intro hm
      have := h.head [] hm
      rw [bl_nil] at this; cases this
/-- the groups of equal first bytes -/
def cons1 (w : W) (g : List (UInt8 × List W)) : List (UInt8 × List W) := match w with
  | [] => g
  | c :: t => match g with
    | (c', l) :: g' => if c = c' then (c, t :: l) :: g' else (c, [t]) :: (c', l) :: g'
    | [] => [(c, [t])]
def grp (l : List W) : List (UInt8 × List W) := l.foldr cons1 []
theorem grp_cons (w : W) (l : List W) : grp (w :: l) = cons1 w (grp l) := rfl
theorem grp_ne {l : List W} : ∀ a ∈ grp l, a.2 ≠ [] := by
  induction l with
  | nil => intro a h; cases h
  | cons w l ih =>
    intro a h
    rw [grp_cons] at h
    unfold cons1 at h
    split at h
    · exact ih a h
    · split at h
      · rename_i e
        split at h
        · rcases List.mem_cons.1 h with rfl | h
          · simp
          · exact ih a (by rw [e]; exact List.mem_cons_of_mem _ h)
        · rcases List.mem_cons.1 h with rfl | h
          · simp
          · exact ih a (by rw [e]; exact h)
      · rcases List.mem_cons.1 h with rfl | h
        · simp
        · cases h
/-- the groups of an increasing list: increasing, and each is what follows its byte -/
theorem grp_up {l : List W} (h : Up l) : (grp l).Pairwise (fun a b => a.1 < b.1) ∧ (∀ a ∈ grp l, a.2 = aft a.1 l) ∧ (∀ c, aft c l ≠ [] → ∃ a ∈ grp l, a.1 = c) ∧ (∀ a ∈ grp l, ∃ t, a.1 :: t ∈ l) := by
  induction l with
  | nil => exact ⟨List.Pairwise.nil, (fun a h => by cases h), (fun c h => absurd rfl h), (fun a h => by cases h)⟩
  | cons w l ih =>
    obtain ⟨i1, i2, i3, i4⟩ := ih h.tail
    cases w with
    | nil =>
      have e : ∀ c, aft c ([] :: l) = aft c l := fun c => rfl
      refine ⟨i1, fun a ha => by rw [e]; exact i2 a ha, fun c hc => by rw [e] at hc; exact i3 c hc, fun a ha => ?_⟩
      obtain ⟨t, ht⟩ := i4 a ha
      exact ⟨t, List.mem_cons_of_mem _ ht⟩
    | cons c t =>
      have e1 : aft c ((c :: t) :: l) = t :: aft c l := by simp [aft, cut1]
      have e2 : ∀ c', c' ≠ c → aft c' ((c :: t) :: l) = aft c' l := fun c' hc => by simp [aft, cut1, Ne.symm hc]
      have hge : ∀ a ∈ grp l, c ≤ a.1 := fun a ha => by
        obtain ⟨t', ht'⟩ := i4 a ha
        have := bl_head (h.head _ ht')
        rcases this with h1 | ⟨h1, _⟩
        · exact UInt8.le_of_lt h1
        · rw [h1]; exact UInt8.le_refl _
      rw [grp_cons]
      unfold cons1
      dsimp only
      split
      · rename_i c' m g' eg
        rw [eg] at i1 i2 i3 i4 hge
        obtain ⟨p1, p2⟩ := List.pairwise_cons.1 i1
        split
        · rename_i hcc
          subst hcc
          refine ⟨List.pairwise_cons.2 ⟨p1, p2⟩, fun a ha => ?_, fun d hd => ?_, fun a ha => ?_⟩
          · rcases List.mem_cons.1 ha with rfl | ha
            · rw [e1]; have := i2 (c, m) (List.mem_cons_self ..); simp only at this ⊢; rw [this]
            · rw [e2 a.1 (fun e => by have := p1 a ha; simp only at this; rw [e] at this; exact absurd this (UInt8.lt_irrefl _))]
              exact i2 a (List.mem_cons_of_mem _ ha)
          · by_cases hdc : d = c
            · exact ⟨_, List.mem_cons_self .., hdc.symm⟩
            · rw [e2 d hdc] at hd
              obtain ⟨a, ha, hb⟩ := i3 d hd
              rcases List.mem_cons.1 ha with rfl | ha
              · exact ⟨_, List.mem_cons_self .., hb⟩
              · exact ⟨a, List.mem_cons_of_mem _ ha, hb⟩
          · rcases List.mem_cons.1 ha with rfl | ha
            · exact ⟨t, List.mem_cons_self ..⟩
            · obtain ⟨t', ht'⟩ := i4 a (List.mem_cons_of_mem _ ha)
              exact ⟨t', List.mem_cons_of_mem _ ht'⟩
        · rename_i hcc
          have hlt : c < c' := by
            have := hge _ (List.mem_cons_self ..)
            simp only at this
            rcases u8_tri c c' with h1 | h1 | h1
            · exact h1
            · exact absurd h1 hcc
            · exact absurd h1 (UInt8.not_lt.2 this)
          have hall : ∀ a ∈ (c', m) :: g', c < a.1 := fun a ha => by
            rcases List.mem_cons.1 ha with rfl | ha
            · exact hlt
            · exact u8_lt_trans hlt (p1 a ha)
          have hnone : aft c l = [] := Classical.byContradiction fun hne => by
            obtain ⟨a, ha, hb⟩ := i3 c hne
            have := hall a ha
            rw [hb] at this
            exact UInt8.lt_irrefl _ this
          refine ⟨List.pairwise_cons.2 ⟨hall, i1⟩, fun a ha => ?_, fun d hd => ?_, fun a ha => ?_⟩
          · rcases List.mem_cons.1 ha with rfl | ha
            · rw [e1, hnone]
            · rw [e2 a.1 (fun e => by have := hall a ha; rw [e] at this; exact UInt8.lt_irrefl _ this)]
              exact i2 a ha
          · by_cases hdc : d = c
            · exact ⟨_, List.mem_cons_self .., hdc.symm⟩
            · rw [e2 d hdc] at hd
              obtain ⟨a, ha, hb⟩ := i3 d hd
              exact ⟨a, List.mem_cons_of_mem _ ha, hb⟩
          · rcases List.mem_cons.1 ha with rfl | ha
            · exact ⟨t, List.mem_cons_self ..⟩
            · obtain ⟨t', ht'⟩ := i4 a ha
              exact ⟨t', List.mem_cons_of_mem _ ht'⟩
      · rename_i eg
        rw [eg] at i3
        have hnone : ∀ d, aft d l = [] := fun d => Classical.byContradiction fun hne => by
          obtain ⟨a, ha, _⟩ := i3 d hne
          cases ha
        refine ⟨List.pairwise_singleton _ _, fun a ha => ?_, fun d hd => ?_, fun a ha => ?_⟩
        · rw [List.mem_singleton.1 ha, e1, hnone]
        · by_cases hdc : d = c
          · exact ⟨_, List.mem_cons_self .., hdc.symm⟩
          · rw [e2 d hdc, hnone] at hd; exact absurd rfl hd
        · rw [List.mem_singleton.1 ha]; exact ⟨t, List.mem_cons_self ..⟩
end Go.Proofs.YtmmihcophkipoaaDoor
