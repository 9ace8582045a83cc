/-
  A second rule for a region that draws its order: the operations that touch the world form a chain (each is ahead of the next): they are walked exactly, in the text's order; every other operation only reads, and is shown at each world that is later (by a relation of the walker's choice) than the world behind the last operation of the chain that is ahead of it. Nothing is said of any program.
-/
import Derived.Test.YtmmihcophkipoaaDoorPhase
namespace Go.Proofs.YtmmihcophkipoaaDoor
set_option linter.unusedVariables false
set_option linter.unusedSimpArgs false
section
variable {P : Program} {ops : Array Oper} {k : Nat}

def Ch (P : Program) (ops : Array Oper) (Q : Exit → Act → World → Prop) (E : World → World → Prop) (ch : Nat → Bool) (k : Nat) (W0 : World) : Nat → Nat → List (Nat × World) → Act → World → Prop
  | 0, _, H, a, w => wpList P ops Q (ops.toList.drop k) a w
  | n + 1, i, H, a, w => ∃ o, ops[i]? = some o ∧
    match ch i with
    | true => OpAt P ops o a w fun v w' => E w w' ∧ Ch P ops Q E ch k W0 n (i + 1) ((i, w') :: H) (a.put o.dst v) w'
    | false => ∃ c, (∀ w2, E W0 w2 → (∀ p ∈ H, ahead ops i p.1 = true → E p.2 w2) → PureAt P ops o a w2 c) ∧ Ch P ops Q E ch k W0 n (i + 1) H (a.put o.dst c) w

/-- what stands while the first k are under way -/
structure UnderC (P : Program) (ops : Array Oper) (Q : Exit → Act → World → Prop) (E : World → World → Prop) (ch : Nat → Bool) (k : Nat) (W0 : World) (a0 : Act) (L : Nat → Prop) (vals : Nat → Value) (a : Act) (w : World)
    (m : Nat) (H : List (Nat × World)) (am : Act) (valsm : Nat → Value) : Prop where
  ext : E W0 w
  fills : Fills ops k a0 L vals a
  closed : ∀ (i : Nat) (o : Oper), i < k → L i → ops[i]? = some o → ∀ e ∈ o.after, Region.binds .any e = true → L e.on
  mle : m ≤ k
  fillsm : Fills ops k a0 (fun j => j < m) valsm am
  agree : ∀ j, j < m → L j → valsm j = vals j
  chd : ∀ j, j < m → ch j = true → L j
  chu : ∀ j, m ≤ j → j < k → ch j = true → ¬ L j
  past : ∀ p ∈ H, E p.2 w
  phase : Ch P ops Q E ch k W0 (k - m) m H am w
  pdone : ∀ (j : Nat) (o : Oper), j < k → L j → ch j = false → ops[j]? = some o → ∀ w', E w w' → PureAt P ops o a w' (vals j)
  pund : ∀ (j : Nat) (o : Oper), j < m → ¬ L j → ops[j]? = some o → ∀ w', E w w' → PureAt P ops o am w' (valsm j)

section
variable {Q : Exit → Act → World → Prop} {E : World → World → Prop} {ch : Nat → Bool} {W0 : World} {a0 : Act}

theorem traverseC (ok : PhaseOk ops k) (hE0 : ∀ w, E w w) (hEt : ∀ a b c, E a b → E b c → E a c)
    {L : Nat → Prop} {vals : Nat → Value} {a : Act} {w : World} {m : Nat} {H : List (Nat × World)} {am : Act} {valsm : Nat → Value} (un : UnderC P ops Q E ch k W0 a0 L vals a w m H am valsm) :
    ∀ d, m + d ≤ k → ∃ (vals' : Nat → Value) (w' : World) (H' : List (Nat × World)) (ai : Act),
      (∀ j, L j → vals' j = vals j) ∧ (∀ j, j < m → vals' j = valsm j) ∧ E w w' ∧ Fills ops k a0 (fun j => j < m + d) vals' ai ∧
      (∀ p ∈ H', E p.2 w') ∧ (∀ p ∈ H', p ∈ H ∨ (m ≤ p.1 ∧ p.1 < m + d ∧ ch p.1 = true)) ∧ ((∀ j, m ≤ j → j < m + d → ch j = false) → w' = w ∧ H' = H) ∧
      (∀ (j : Nat) (o : Oper), m ≤ j → j < m + d → ¬ L j → ops[j]? = some o → (∀ j', m ≤ j' → j' < m + d → ch j' = false) → ∀ w2, E w w2 → PureAt P ops o ai w2 (vals' j)) ∧
      Ch P ops Q E ch k W0 (k - (m + d)) (m + d) H' ai w' := by
  intro d
  induction d with
  | zero =>
    intro hd
    refine ⟨fun j => if j < m then valsm j else vals j, w, H, am, fun j hl => ?_, fun j hj => if_pos hj, hE0 w, ?_, un.past, fun p hp => .inl hp, fun _ => ⟨rfl, rfl⟩, fun j o h1 h2 => by omega, un.phase⟩
    · show (if j < m then valsm j else vals j) = vals j
      by_cases hj : j < m
      · rw [if_pos hj]; exact un.agree j hj hl
      · rw [if_neg hj]
    · exact ⟨un.fillsm.size, un.fillsm.defers, fun i o t hi hl ho ht hs => by rw [if_pos (show i < m from hl)]; exact un.fillsm.done i o t hi hl ho ht hs, un.fillsm.rest⟩
  | succ d ih =>
    intro hd
    obtain ⟨vals', w', H', ai, hag, hagm, hE, hfl, hH, hHn, hno, hpu, hp⟩ := ih (by omega)
    have hkm : k - (m + d) = (k - (m + (d + 1))) + 1 := by omega
    rw [hkm] at hp
    unfold Ch at hp
    obtain ⟨o, ho, hp⟩ := hp
    have hlt : m + d < k := by omega
    have put : ∀ v, (¬ L (m + d) ∨ v = vals' (m + d)) → Fills ops k a0 (fun j => j < m + (d + 1)) (upd vals' (m + d) v) (ai.put o.dst v) := fun v _ =>
      hfl.put ok hlt ho (fun j _ => by omega) (upd_same _ _ _) (fun j _ hj => upd_other _ _ (by omega))
    have still : ∀ v (j : Nat) (oj : Oper), m ≤ j → j < m + d → ops[j]? = some oj → Agree ops oj ai (ai.put o.dst v) := fun v j oj h1 h2 hoj =>
      hfl.agree ok (hfl.put ok (L' := fun j => j < m + (d + 1)) (vals' := upd vals' (m + d) v) hlt ho (fun j _ => by omega) (upd_same _ _ _) (fun j _ hj => upd_other _ _ (by omega))) (by omega) hoj fun l hl ha => by
        have := ahead_lt ok j (by omega) l hl ha
        exact ⟨by omega, by omega, (upd_other _ _ (by omega)).symm⟩
    cases hc : ch (m + d) with
    | true =>
      rw [hc] at hp
      have hnl := un.chu (m + d) (by omega) hlt hc
      obtain ⟨v, w2, hE2, hp2⟩ := hp.2.ex
      refine ⟨upd vals' (m + d) v, w2, (m + d, w2) :: H', ai.put o.dst v, fun j hj => by rw [upd_other _ _ (ne_in hnl hj)]; exact hag j hj, fun j hj => by rw [upd_other _ _ (by omega)]; exact hagm j hj, hEt _ _ _ hE hE2, put v (.inl hnl), ?_, ?_, ?_, ?_, hp2⟩
      · intro p hp3
        rcases List.mem_cons.1 hp3 with rfl | h
        · exact hE0 _
        · exact hEt _ _ _ (hH p h) hE2
      · intro p hp3
        rcases List.mem_cons.1 hp3 with rfl | h
        · exact .inr ⟨by simp, by simp, hc⟩
        · rcases hHn p h with h | ⟨h1, h2, h3⟩
          · exact .inl h
          · exact .inr ⟨h1, by omega, h3⟩
      · intro hall; rw [hall (m + d) (by omega) (by omega)] at hc; cases hc
      · intro j oj _ _ _ _ hall; rw [hall (m + d) (by omega) (by omega)] at hc; cases hc
    | false =>
      rw [hc] at hp
      obtain ⟨c, hrun, hrest⟩ := hp
      have hW : E W0 w' := hEt _ _ _ un.ext hE
      by_cases hl : L (m + d)
      · have h1 := hrun w' hW fun p hpH _ => hH p hpH
        have h2 := un.pdone (m + d) o hlt hl hc ho w' hE
        have hagr : Agree ops o a ai := un.fills.agree ok hfl hlt ho fun j hj ha => by
          have hlj := closed_ahead ok un.closed (m + d) hlt hl j hj ha
          exact ⟨hlj, ahead_lt ok (m + d) hlt j hj ha, (hag j hlj).symm⟩
        have hcv : c = vals (m + d) := h1.det (h2.of_agree (ok.sel _ o ho) hagr)
        have hcv' : c = vals' (m + d) := hcv.trans (hag _ hl).symm
        have hupd : upd vals' (m + d) c = vals' := by
          funext j
          unfold upd
          split
          · rename_i e; rw [e, hcv']
          · rfl
        refine ⟨vals', w', H', ai.put o.dst c, hag, hagm, hE, by have := put c (.inr hcv'); rwa [hupd] at this, hH, ?_, ?_, ?_, hrest⟩
        · intro p h
          rcases hHn p h with h | ⟨h1, h2, h3⟩
          · exact .inl h
          · exact .inr ⟨h1, by omega, h3⟩
        · exact fun hall => hno fun j h1 h2 => hall j h1 (by omega)
        · intro j oj h1 h2 hnl hoj hall w2 hE2
          have hjm : j ≠ m + d := by rintro rfl; exact hnl hl
          exact (hpu j oj h1 (by omega) hnl hoj (fun j' h1 h2 => hall j' h1 (by omega)) w2 hE2).of_agree (ok.sel j oj hoj) (still c j oj h1 (by omega) hoj)
      · refine ⟨upd vals' (m + d) c, w', H', ai.put o.dst c, fun j hj => by rw [upd_other _ _ (ne_in hl hj)]; exact hag j hj, fun j hj => by rw [upd_other _ _ (by omega)]; exact hagm j hj, hE, put c (.inl hl), hH, ?_, ?_, ?_, hrest⟩
        · intro p h
          rcases hHn p h with h | ⟨h1, h2, h3⟩
          · exact .inl h
          · exact .inr ⟨h1, by omega, h3⟩
        · exact fun hall => hno fun j h1 h2 => hall j h1 (by omega)
        · intro j oj h1 h2 hnl hoj hall w2 hE2
          by_cases hjm : j = m + d
          · subst hjm
            have : oj = o := Option.some.inj (hoj.symm.trans ho)
            subst this
            rw [upd_same]
            obtain ⟨rfl, rfl⟩ := hno fun j h1 h2 => hall j h1 (by omega)
            refine (hrun w2 (hEt _ _ _ un.ext hE2) fun p hpH _ => hEt _ _ _ (un.past p hpH) hE2).of_agree (ok.sel _ oj hoj) ?_
            exact hfl.agree ok (put c (.inl hl)) hlt hoj fun l hl' ha => by
              have := ahead_lt ok (m + d) hlt l hl' ha
              exact ⟨by omega, by omega, (upd_other _ _ (by omega)).symm⟩
          · rw [upd_other _ _ hjm]
            exact (hpu j oj h1 (by omega) hnl hoj (fun j' h1 h2 => hall j' h1 (by omega)) w2 hE2).of_agree (ok.sel j oj hoj) (still c j oj h1 (by omega) hoj)

/-- an operation whose value is fixed: the value, and that all stands behind it -/
theorem underC_pure (ok : PhaseOk ops k) (hE0 : ∀ w, E w w) (hEt : ∀ a b c, E a b → E b c → E a c)
    {L L' : Nat → Prop} {vals : Nat → Value} {a : Act} {w : World} {m : Nat} {H : List (Nat × World)} {am : Act} {valsm : Nat → Value} (un : UnderC P ops Q E ch k W0 a0 L vals a w m H am valsm)
    {i : Nat} {o : Oper} (hi : i < k) (ho : ops[i]? = some o) (hnl : ¬ L i) (hr : ∀ e ∈ o.after, Region.binds .any e = true → L e.on) (hL : ∀ j, L' j ↔ L j ∨ j = i)
    (hci : ch i = false) : ∃ c, (∀ w2, E w w2 → PureAt P ops o a w2 c) ∧ ∃ vals', UnderC P ops Q E ch k W0 a0 L' vals' (a.put o.dst c) w m H am valsm := by
  have hpre := ready_ahead ok un.closed hi ho hr
  have hsub : ∀ j, L j → L' j := fun j h => (hL j).2 (Or.inl h)
  have hclosed : ∀ (j : Nat) (oj : Oper), j < k → L' j → ops[j]? = some oj → ∀ e ∈ oj.after, Region.binds .any e = true → L' e.on := by
    intro j oj hj hl hoj e he hb
    rcases (hL j).1 hl with h | h
    · exact hsub _ (un.closed j oj hj h hoj e he hb)
    · subst h
      have : oj = o := Option.some.inj (hoj.symm.trans ho)
      subst this
      exact hsub _ (hr e he hb)
  have behind : ∀ v, Fills ops k a0 L' (upd vals i v) (a.put o.dst v) := fun v =>
    un.fills.put ok hi ho (fun j _ => hL j) (upd_same _ _ _) (fun j _ hj => upd_other _ _ (ne_in hnl hj))
  have still : ∀ v j oj, j < k → L' j → ops[j]? = some oj → Agree ops oj a (a.put o.dst v) := fun v j oj hj hl hoj => by
    refine un.fills.agree ok (behind v) hj hoj fun l hl' ha => ?_
    have hlj : L l := by
      rcases (hL j).1 hl with h | h
      · exact closed_ahead ok un.closed j hj h l hl' ha
      · subst h; exact hpre l hl' ha
    exact ⟨hlj, hsub l hlj, (upd_other _ _ (ne_in hnl hlj)).symm⟩
  have key : ∃ c, (∀ w2, E w w2 → PureAt P ops o a w2 c) ∧ (i < m → valsm i = c) := by
    rcases Nat.lt_or_ge i m with him | him
    · refine ⟨valsm i, fun w2 hE2 => (un.pund i o him hnl ho w2 hE2).of_agree (ok.sel i o ho) ?_, fun _ => rfl⟩
      exact un.fillsm.agree ok un.fills hi ho fun j hj ha => by
        have := ahead_lt ok i hi j hj ha
        exact ⟨by omega, hpre j hj ha, un.agree j (by omega) (hpre j hj ha)⟩
    · obtain ⟨vals', w', H', ai, hag, _, hE, hfl, hH, hHn, _, _, hp⟩ := traverseC ok hE0 hEt un (i - m) (by omega)
      have e : m + (i - m) = i := by omega
      rw [e] at hfl hHn hp
      have hki : k - i = (k - (i + 1)) + 1 := by omega
      rw [hki] at hp
      unfold Ch at hp
      obtain ⟨o', ho', hp⟩ := hp
      have : o' = o := Option.some.inj (ho'.symm.trans ho)
      subst this
      rw [hci] at hp
      obtain ⟨c, hrun, _⟩ := hp
      refine ⟨c, fun w2 hE2 => (hrun w2 (hEt _ _ _ un.ext hE2) fun p hpH ha => ?_).of_agree (ok.sel i o' ho) ?_, fun h => by omega⟩
      · rcases hHn p hpH with h | ⟨h1, h2, h3⟩
        · exact hEt _ _ _ (un.past p h) hE2
        · exact absurd (hpre p.1 (by omega) ha) (un.chu p.1 h1 (by omega) h3)
      · exact hfl.agree ok un.fills hi ho fun j hj ha => ⟨ahead_lt ok i hi j hj ha, hpre j hj ha, hag j (hpre j hj ha)⟩
  obtain ⟨c, key, hcm⟩ := key
  refine ⟨c, key, upd vals i c, ?_⟩
  exact
    { ext := un.ext, fills := behind c, closed := hclosed, mle := un.mle, fillsm := un.fillsm
      agree := fun j hj hl => by
        by_cases hji : j = i
        · subst hji; rw [upd_same]; exact hcm hj
        · rw [upd_other _ _ hji]; exact un.agree j hj (((hL j).1 hl).resolve_right hji)
      chd := fun j hj hc => hsub j (un.chd j hj hc)
      chu := fun j hj hjk hc hl => by
        rcases (hL j).1 hl with h | h
        · exact un.chu j hj hjk hc h
        · subst h; rw [hci] at hc; cases hc
      past := un.past, phase := un.phase
      pdone := fun j oj hj hl hc hoj w3 hE3 => by
        rcases (hL j).1 hl with h | h
        · rw [upd_other _ _ (ne_in hnl h)]
          exact (un.pdone j oj hj h hc hoj w3 hE3).of_agree (ok.sel j oj hoj) (still c j oj hj hl hoj)
        · subst h
          have : oj = o := Option.some.inj (hoj.symm.trans ho)
          subst this
          rw [upd_same]
          exact (key w3 hE3).of_agree (ok.sel j oj hoj) (still c j oj hj hl hoj)
      pund := fun j oj hj hnl' hoj w3 hE3 => un.pund j oj hj (fun h => hnl' (hsub j h)) hoj w3 hE3 }

/-- one operation that may come up: what it comes to, and that all stands behind it -/
theorem underC_step (ok : PhaseOk ops k) (hE0 : ∀ w, E w w) (hEt : ∀ a b c, E a b → E b c → E a c) (hchain : ∀ i j, j < i → i < k → ch i = true → ch j = true → ahead ops i j = true)
    {L L' : Nat → Prop} {vals : Nat → Value} {a : Act} {w : World} {m : Nat} {H : List (Nat × World)} {am : Act} {valsm : Nat → Value} (un : UnderC P ops Q E ch k W0 a0 L vals a w m H am valsm)
    {i : Nat} {o : Oper} (hi : i < k) (ho : ops[i]? = some o) (hnl : ¬ L i) (hr : ∀ e ∈ o.after, Region.binds .any e = true → L e.on) (hL : ∀ j, L' j ↔ L j ∨ j = i)
    {K : Act → World → Prop} (hK : ∀ vals' a' w' m' H' am' valsm', UnderC P ops Q E ch k W0 a0 L' vals' a' w' m' H' am' valsm' → K a' w') : wpOp P ops Q i K a w := by
  cases hci : ch i with
  | false =>
    obtain ⟨c, key, vals'', un'⟩ := underC_pure ok hE0 hEt un hi ho hnl hr hL hci
    have next : K (a.put o.dst c) w := hK vals'' _ w _ _ _ _ un'
    unfold wpOp
    simp only [ho]
    rcases key w (hE0 w) with ⟨hw, hv | ⟨hv, rfl⟩⟩ | ⟨hw, rfl⟩
    · rw [if_pos hw]; left; unfold Oper.wp; rw [hv]; exact next
    · rw [if_pos hw]; left; unfold Oper.wp; rw [hv]; exact next
    · rw [if_neg (by rw [hw]; simp)]; exact next
  | true =>
    have hpre := ready_ahead ok un.closed hi ho hr
    have hsub : ∀ j, L j → L' j := fun j h => (hL j).2 (Or.inl h)
    have him : m ≤ i := by
      rcases Nat.lt_or_ge i m with h | h
      · exact absurd (un.chd i h hci) hnl
      · exact h
    have hnoch : ∀ j, m ≤ j → j < i → ch j = false := fun j h1 h2 => by
      cases hcj : ch j with
      | false => rfl
      | true => exact absurd (hpre j (by omega) (hchain i j h2 hi hci hcj)) (un.chu j h1 (by omega) hcj)
    obtain ⟨vals', w', H', ai, hag, hagm, hE, hfl, hH, hHn, hno, hpu, hp⟩ := traverseC ok hE0 hEt un (i - m) (by omega)
    have hmi : m + (i - m) = i := by omega
    rw [hmi] at hfl hHn hp hno hpu
    obtain ⟨rfl, rfl⟩ := hno fun j h1 h2 => hnoch j h1 h2
    have hki : k - i = (k - (i + 1)) + 1 := by omega
    rw [hki] at hp
    unfold Ch at hp
    obtain ⟨o', ho', hp⟩ := hp
    have : o' = o := Option.some.inj (ho'.symm.trans ho)
    subst this
    rw [hci] at hp
    have hagr : Agree ops o' ai a := hfl.agree ok un.fills hi ho fun j hj ha => ⟨ahead_lt ok i hi j hj ha, hpre j hj ha, hag j (hpre j hj ha)⟩
    have hclosed : ∀ (j : Nat) (oj : Oper), j < k → L' j → ops[j]? = some oj → ∀ e ∈ oj.after, Region.binds .any e = true → L' e.on := by
      intro j oj hj hl hoj e he hb
      rcases (hL j).1 hl with h | h
      · exact hsub _ (un.closed j oj hj h hoj e he hb)
      · subst h
        have : oj = o' := Option.some.inj (hoj.symm.trans ho)
        subst this
        exact hsub _ (hr e he hb)
    have behind : ∀ v, Fills ops k a0 L' (upd vals i v) (a.put o'.dst v) := fun v =>
      un.fills.put ok hi ho (fun j _ => hL j) (upd_same _ _ _) (fun j _ hj => upd_other _ _ (ne_in hnl hj))
    have still : ∀ v j oj, j < k → L' j → ops[j]? = some oj → Agree ops oj a (a.put o'.dst v) := fun v j oj hj hl hoj => by
      refine un.fills.agree ok (behind v) hj hoj fun l hl' ha => ?_
      have hlj : L l := by
        rcases (hL j).1 hl with h | h
        · exact closed_ahead ok un.closed j hj h l hl' ha
        · subst h; exact hpre l hl' ha
      exact ⟨hlj, hsub l hlj, (upd_other _ _ (ne_in hnl hlj)).symm⟩
    have behindm : ∀ v, Fills ops k a0 (fun j => j < i + 1) (upd vals' i v) (ai.put o'.dst v) := fun v =>
      hfl.put ok hi ho (fun j _ => by omega) (upd_same _ _ _) (fun j _ hj => upd_other _ _ (by omega))
    unfold wpOp
    simp only [ho]
    obtain ⟨hw, hop⟩ := hp.of_agree (ok.sel i o' ho) hagr
    rw [if_pos hw]
    left
    unfold Oper.wp
    refine hop.upon fun v w2 ⟨hE2, hph⟩ => hK (upd vals i v) _ w2 (i + 1) ((i, w2) :: H') (ai.put o'.dst v) (upd vals' i v) ?_
    exact
      { ext := hEt _ _ _ un.ext hE2, fills := behind v, closed := hclosed, mle := by omega, fillsm := behindm v
        agree := fun j hj hl => by
          by_cases hji : j = i
          · subst hji; rw [upd_same, upd_same]
          · rw [upd_other _ _ hji, upd_other _ _ hji]; exact hag j (((hL j).1 hl).resolve_right hji)
        chd := fun j hj hc => by
          by_cases hji : j = i
          · exact (hL j).2 (.inr hji)
          · exact hsub j (hpre j (by omega) (hchain i j (by omega) hi hci hc))
        chu := fun j hj hjk hc hl => by
          rcases (hL j).1 hl with h | h
          · exact un.chu j (by omega) hjk hc h
          · omega
        past := fun p hp3 => by
          rcases List.mem_cons.1 hp3 with rfl | h
          · exact hE0 _
          · exact hEt _ _ _ (hH p h) hE2
        phase := hph
        pdone := fun j oj hj hl hc hoj w3 hE3 => by
          rcases (hL j).1 hl with h | h
          · rw [upd_other _ _ (ne_in hnl h)]
            exact (un.pdone j oj hj h hc hoj w3 (hEt _ _ _ hE2 hE3)).of_agree (ok.sel j oj hoj) (still v j oj hj hl hoj)
          · subst h; rw [hci] at hc; cases hc
        pund := fun j oj hj hnl' hoj w3 hE3 => by
          have hnlj : ¬ L j := fun h => hnl' (hsub j h)
          have hji : j ≠ i := fun h => hnl' ((hL j).2 (.inr h))
          rw [upd_other _ _ hji]
          rcases Nat.lt_or_ge j m with hjm | hjm
          · rw [hagm j hjm]
            refine (un.pund j oj hjm hnlj hoj w3 (hEt _ _ _ hE2 hE3)).of_agree (ok.sel j oj hoj) ?_
            exact un.fillsm.agree ok (behindm v) (by omega) hoj fun l hl ha => by
              have := ahead_lt ok j (by omega) l hl ha
              exact ⟨by omega, by omega, by rw [upd_other _ _ (by omega)]; exact (hagm l (by omega)).symm⟩
          · refine (hpu j oj hjm (by omega) hnlj hoj (fun j' h1 h2 => hnoch j' h1 h2) w3 (hEt _ _ _ hE2 hE3)).of_agree (ok.sel j oj hoj) ?_
            exact hfl.agree ok (behindm v) (by omega) hoj fun l hl ha => by
              have := ahead_lt ok j (by omega) l hl ha
              exact ⟨by omega, by omega, (upd_other _ _ (by omega)).symm⟩ }
theorem chain_any (hQ : ∀ c a d v w, Q (.panic c) (a.put d v) w → Q (.panic c) a w) (ok : PhaseOk ops k) (hE0 : ∀ w, E w w) (hEt : ∀ a b c, E a b → E b c → E a c) (hchain : ∀ i j, j < i → i < k → ch i = true → ch j = true → ahead ops i j = true)
    (hflow : ∀ i o, i < k → ops[i]? = some o → isFlow o = true → ch i = false) : ∀ (m : Nat) (listed : Array Bool) (vals : Nat → Value) (a : Act) (w : World) (mm : Nat) (HH : List (Nat × World)) (am : Act) (valsm : Nat → Value),
      listed.size = ops.size → (∀ t, k ≤ t → t < ops.size → listed.getD t true = false) → (List.range k).countP (fun i => !listed.getD i false) = m →
      UnderC P ops Q E ch k W0 a0 (fun i => listed.getD i false = true) vals a w mm HH am valsm → wpAny P .any ops Q (m + (ops.size - k)) listed a w := by
  intro m
  induction m with
  | zero =>
    intro listed vals a w mm HH am valsm hsz htail hcnt un
    have hall : ∀ i, i < k → listed.getD i false = true := fun i hi => by
      have := List.countP_eq_zero.1 hcnt i (List.mem_range.2 hi)
      simpa using this
    obtain ⟨vals', w', H', ai, hag, _, hE, hfl, hH, hHn, hno, _, hp⟩ := traverseC ok hE0 hEt un (k - mm) (by have := un.mle; omega)
    have hmi : mm + (k - mm) = k := by have := un.mle; omega
    rw [hmi] at hfl hp hno
    obtain ⟨rfl, rfl⟩ := hno fun j h1 h2 => by
      cases hcj : ch j with
      | false => rfl
      | true => exact absurd (hall j h2) (un.chu j h1 h2 hcj)
    rw [Nat.sub_self] at hp
    have hfl2 : Fills ops k a0 (fun i => listed.getD i false = true) vals ai :=
      ⟨hfl.size, hfl.defers, fun i o d hi hl ho hd hs => by rw [hfl.done i o d hi hi ho hd hs, hag i hl], fun t ht => hfl.rest t fun i o hi _ ho => ht i o hi (hall i hi) ho⟩
    have e : a = ai := un.fills.unique hfl2
    subst e
    have hwl : wpList P ops Q (ops.toList.drop k) a w' := hp
    have el : listed = (Array.replicate k true) ++ (Array.replicate (ops.size - k) false) := by
      have hle := ok.le
      apply Array.ext
      · simp [hsz]; omega
      · intro i h1 h2
        rcases Nat.lt_or_ge i k with hi | hi
        · have := hall i hi
          simp only [Array.getD_eq_getD_getElem?, Array.getElem?_eq_getElem h1, Option.getD_some] at this
          rw [Array.getElem_append_left (by simpa using hi)]
          simpa using this
        · have := htail i hi (by omega)
          simp only [Array.getD_eq_getD_getElem?, Array.getElem?_eq_getElem h1, Option.getD_some] at this
          rw [Array.getElem_append_right (by simpa using hi)]
          simpa using this
    have hlen : (ops.toList.drop k).length = ops.size - k := by simp
    rw [Nat.zero_add, ← hlen]
    refine wpAny_of_seq _ k listed a w' (fun j => by simp) ?_ hwl
    rw [hlen, el]
    exact ok.seq
  | succ m ih =>
    intro listed vals a w mm HH am valsm hsz htail hcnt un
    have hpos : ∃ i, i < k ∧ listed.getD i false = false := by
      have : 0 < (List.range k).countP (fun i => !listed.getD i false) := by omega
      obtain ⟨i, hi, h⟩ := List.countP_pos_iff.1 this
      exact ⟨i, List.mem_range.1 hi, by simpa using h⟩
    have hnot : ∀ i, listed.getD i true = false → listed.getD i false = false := fun i h => getD_both h
    have hleast : ∃ i, i < k ∧ listed.getD i false = false ∧ i ∈ Region.ready .any ops listed := by
      -- the least operation that has not come up
      have hex : ∃ i, (i < k ∧ listed.getD i false = false) ∧ ∀ j, j < i → ¬ (j < k ∧ listed.getD j false = false) := by
        obtain ⟨i, hi⟩ := hpos
        induction i using Nat.strongRecOn with
        | _ i ihi =>
          by_cases h : ∃ j, j < i ∧ (j < k ∧ listed.getD j false = false)
          · obtain ⟨j, hj, hj2⟩ := h
            exact ihi j hj hj2
          · exact ⟨i, hi, fun j hj h' => h ⟨j, hj, h'⟩⟩
      obtain ⟨i, ⟨hi, hif⟩, hmin⟩ := hex
      have hisz : i < ops.size := Nat.lt_of_lt_of_le hi ok.le
      have hin : i ∈ Region.ready .any ops listed := by
        rw [mem_ready]
        refine ⟨getD_in (by omega) hif, ops[i], Array.getElem?_eq_getElem hisz, fun e he hb => ?_⟩
        have hlo := ok.low i _ hi (Array.getElem?_eq_getElem hisz) e he hb
        have := hmin e.on hlo
        cases hl : listed.getD e.on false with
        | true => rfl
        | false => exact absurd ⟨by omega, hl⟩ this
      exact ⟨i, hi, hif, hin⟩
    have hsome : Region.ready .any ops listed ≠ [] := by
      obtain ⟨i, _, _, hin⟩ := hleast
      intro h
      rw [h] at hin
      cases hin
    have efuel : m + 1 + (ops.size - k) = (m + (ops.size - k)) + 1 := by omega
    rw [efuel]
    have hLset : ∀ i, i < k → ∀ j, (listed.setIfInBounds i true).getD j false = true ↔ listed.getD j false = true ∨ j = i := fun i hik j => by
      by_cases hji : j = i
      · subst hji
        have : j < listed.size := by have := ok.le; omega
        simp [this]
      · rw [getD_set_ne false (Ne.symm hji)]
        simp [hji]
    have next : ∀ i, i < k → listed.getD i false = false → ∀ vals' a' w' m' H' am' valsm', UnderC P ops Q E ch k W0 a0 (fun j => (listed.setIfInBounds i true).getD j false = true) vals' a' w' m' H' am' valsm' →
        wpAny P .any ops Q (m + (ops.size - k)) (listed.setIfInBounds i true) a' w' := fun i hik hif vals' a' w' m' H' am' valsm' un' => by
      refine ih _ vals' a' w' m' H' am' valsm' (by simp [hsz]) (fun t ht hts => ?_) ?_ un'
      · rw [getD_set_ne true (by omega)]
        exact htail t ht hts
      · have h1 := countP_set (p := fun j => !listed.getD j false) (p' := fun j => !(listed.setIfInBounds i true).getD j false) (i := i) (by simp [hif])
          (by have : i < listed.size := by have := ok.le; omega
              simp [this]) (fun j hj => by simp only [getD_set_ne false (Ne.symm hj)]) k hik
        omega
    by_cases hdry : ∃ j, j < k ∧ listed.getD j false = false ∧ ∃ oj, ops[j]? = some oj ∧ isFlow oj = false
    · have hlow : ∀ i ∈ Region.ready .any ops listed, i < k := by
        intro i hi
        obtain ⟨hun, o, ho, hr⟩ := mem_ready.1 hi
        rcases Nat.lt_or_ge i k with h | h
        · exact h
        · exfalso
          obtain ⟨j, hj, hjf, oj, hoj, hfl⟩ := hdry
          have hisz : i < ops.size := (Array.getElem?_eq_some_iff.1 ho).1
          have ha := ok.tail i j oj h hisz hj hoj hfl
          obtain ⟨e, he, hb, hlo, hor⟩ := ok.step i o j ho ha (Nat.lt_of_lt_of_le hj ok.le)
          have hle := hr e he hb
          have hek : e.on < k := by
            rcases Nat.lt_or_ge e.on k with h' | h'
            · exact h'
            · have := htail e.on h' (by omega)
              rw [getD_both this] at hle
              cases hle
          rcases hor with h' | h'
          · rw [h', hjf] at hle; cases hle
          · have := closed_ahead ok un.closed e.on hek hle j hj h'
            rw [hjf] at this; cases this
      refine ⟨fun h => absurd h hsome, fun i hi => ?_⟩
      obtain ⟨hun, o, ho, hr⟩ := mem_ready.1 hi
      have hik := hlow i hi
      have hif := hnot i hun
      exact underC_step ok hE0 hEt hchain un hik ho (L' := fun j => (listed.setIfInBounds i true).getD j false = true) (by simp [hif]) hr (hLset i hik) (next i hik hif)
    · -- what is left of the first k only hands values on: the least one goes first
      obtain ⟨i, hik, hif, hin⟩ := hleast
      obtain ⟨hun, o, ho, hr⟩ := mem_ready.1 hin
      have hfl : isFlow o = true := by
        cases hf : isFlow o with
        | true => rfl
        | false => exact absurd ⟨i, hik, hif, o, ho, hf⟩ hdry
      cases hFi : ch i with
      | false =>
        obtain ⟨c, key, vals'', un'⟩ := underC_pure ok hE0 hEt un hik ho (L' := fun j => (listed.setIfInBounds i true).getD j false = true) (by simp [hif]) hr (hLset i hik) hFi
        exact wpAny_first ho (fun j o cs b hj => ok.sel j o hj cs b) (fun c' a' w' h => hQ c' a' _ _ w' h) _ listed a w (fun j oj hj hne hjun hno => ok.flow i j o oj hik ho hfl hne (by
          cases hah : ahead ops i j with
          | false => rfl
          | true =>
            have hjs : j < ops.size := (Array.getElem?_eq_some_iff.1 hj).1
            obtain ⟨e, he, hb, hlo, hor⟩ := ok.step i o j ho hah hjs
            have hjk : j < k := by
              rcases hor with h' | h'
              · omega
              · have hlow2 : ∀ x, x < k → ahead ops x j = true → j < k := by
                  intro x
                  induction x using Nat.strongRecOn with
                  | _ x ihx =>
                    intro hxk hax
                    obtain ⟨e', he', hb', hlo', hor'⟩ := ok.step x _ j (Array.getElem?_eq_getElem (Nat.lt_of_lt_of_le hxk ok.le)) hax hjs
                    rcases hor' with h'' | h''
                    · omega
                    · exact ihx e'.on hlo' (by omega) h''
                exact hlow2 e.on (by omega) h'
            have := ready_ahead ok un.closed hik ho hr j hjk hah
            rw [getD_both hjun] at this
            cases this) hj hno) hin (flow_indep hfl (key w (hE0 w))) (next i hik hif _ _ _ _ _ _ _ un')
      | true =>
        exact absurd hFi (by rw [hflow i o hik ho hfl]; simp)


/-- THE RULE -/
theorem wp_region_chain {id : Nat} {a : Act} {w : World} (hm : P.follows .mixedOrders = true) (k : Nat) (E : World → World → Prop) (ch : Nat → Bool) (hok : phaseOk ops k = true) (hQ : ∀ c a d v w, Q (.panic c) (a.put d v) w → Q (.panic c) a w)
    (hchain : ∀ i j, j < i → i < k → ch i = true → ch j = true → ahead ops i j = true) (hflow : ∀ i o, i < k → ops[i]? = some o → isFlow o = true → ch i = false) (hE0 : ∀ w, E w w) (hEt : ∀ a b c, E a b → E b c → E a c)
    (hph : Ch P ops Q E ch k w.drew k 0 [] a w.drew) : (Code.region id ops true).wp P Q a w := by
  have ok := PhaseOk.of hok
  refine wp_region_any hm ?_
  have hz : ∀ i, (Array.replicate ops.size false).getD i false = false := getD_replicate_false ops.size
  have h := chain_any (W0 := w.drew) (a0 := a) hQ ok hE0 hEt hchain hflow k (Array.replicate ops.size false) (fun _ => undef) a w.drew 0 [] a (fun _ => undef) (by simp) (fun t _ ht => by simp [ht])
    (by
      have : (List.range k).countP (fun i => !(Array.replicate ops.size false).getD i false) = (List.range k).length := List.countP_eq_length.2 fun i _ => by simp only [hz i]; rfl
      rw [this, List.length_range])
    { ext := hE0 _, fills := Fills.start a _ (fun i _ => by simp [hz i]), closed := fun i _ _ hl => by rw [hz i] at hl; cases hl
      mle := Nat.zero_le _, fillsm := Fills.start a _ (fun i _ h => by omega), agree := fun j h => by omega, chd := fun j h => by omega
      chu := fun j _ _ _ hl => by rw [hz j] at hl; cases hl
      past := fun p h => by cases h
      phase := hph
      pdone := fun i _ _ hl => by rw [hz i] at hl; cases hl
      pund := fun j _ h => by omega }
  have e : k + (ops.size - k) = ops.size := by have := ok.le; omega
  rw [e] at h
  exact h
/-- the same, over the list of the operations that are left -/
def ChL (P : Program) (ops : Array Oper) (Q : Exit → Act → World → Prop) (E : World → World → Prop) (ch : List Nat) (W0 : World) (T : List Oper) : List Oper → Nat → List (Nat × World) → Act → World → Prop
  | [], _, H, a, w => wpList P ops Q T a w
  | o :: rest, i, H, a, w =>
    match ch.contains i with
    | true => OpAt P ops o a w fun v w' => E w w' ∧ ChL P ops Q E ch W0 T rest (i + 1) ((i, w') :: H) (a.put o.dst v) w'
    | false => ∃ c, (∀ w2, E W0 w2 → (∀ p ∈ H, ahead ops i p.1 = true → E p.2 w2) → PureAt P ops o a w2 c) ∧ ChL P ops Q E ch W0 T rest (i + 1) H (a.put o.dst c) w
theorem chain_of_list {ch : List Nat} : ∀ (n i : Nat) (H : List (Nat × World)) (a : Act) (w : World), i + n = k → k ≤ ops.size →
    ChL P ops Q E ch W0 (ops.toList.drop k) ((ops.toList.drop i).take n) i H a w → Ch P ops Q E (fun i => ch.contains i) k W0 n i H a w
  | 0, i, H, a, w, _, _, h => by
    rw [List.take_zero] at h
    exact h
  | n + 1, i, H, a, w, hi, hk, h => by
    have hlt : i < ops.size := by omega
    have e : (ops.toList.drop i).take (n + 1) = ops[i] :: (ops.toList.drop (i + 1)).take n := by
      rw [List.drop_eq_getElem_cons (by simpa using hlt), List.take_succ_cons]
      simp
    rw [e] at h
    unfold ChL at h
    unfold Ch
    refine ⟨ops[i], Array.getElem?_eq_getElem hlt, ?_⟩
    cases hF : ch.contains i with
    | false =>
      rw [hF] at h
      obtain ⟨c, h1, h2⟩ := h
      exact ⟨c, h1, chain_of_list n (i + 1) H _ w (by omega) hk h2⟩
    | true =>
      rw [hF] at h
      exact OpAt.mono h fun v w' ⟨h1, h2⟩ => ⟨h1, chain_of_list n (i + 1) _ _ w' (by omega) hk h2⟩
def chainOk (ops : Array Oper) (k : Nat) (ch : List Nat) : Bool :=
  (ch.all fun i => ch.all fun j => !(decide (j < i)) || ahead ops i j) && ch.all fun i => ((ops[i]?).map fun o => !isFlow o).getD true
theorem wp_region_chain2 {l : List Oper} {id : Nat} {a : Act} {w : World} (hm : P.follows .mixedOrders = true) (k : Nat) (E : World → World → Prop) (ch : List Nat) (hok : phaseOk l.toArray k = true) (hch : chainOk l.toArray k ch = true) (hQ : ∀ c a d v w, Q (.panic c) (a.put d v) w → Q (.panic c) a w)
    (hE0 : ∀ w, E w w) (hEt : ∀ a b c, E a b → E b c → E a c)
    (hph : ChL P l.toArray Q E ch w.drew (l.drop k) (l.take k) 0 [] a w.drew) : (Code.region id l.toArray true).wp P Q a w := by
  unfold chainOk at hch
  rw [Bool.and_eq_true] at hch
  refine wp_region_chain hm k E (fun i => ch.contains i) hok hQ (fun i j hj hi h1 h2 => ?_) (fun i o hi ho hf => ?_) hE0 hEt (chain_of_list k 0 [] a _ (by omega) (PhaseOk.of hok).le (by simpa using hph))
  · have := List.all_eq_true.1 (List.all_eq_true.1 hch.1 i (by simpa using h1)) j (by simpa using h2)
    simpa [hj] using this
  · cases hc : ch.contains i with
    | false => rfl
    | true =>
      have := List.all_eq_true.1 hch.2 i (by simpa using hc)
      simp [ho, hf] at this
end
section
variable {Q : Exit → Act → World → Prop} {E : World → World → Prop} {ch : List Nat} {W0 : World} {T : List Oper}
theorem ch_end {i : Nat} {H : List (Nat × World)} {a : Act} {w : World} (h : wpList P ops Q T a w) : ChL P ops Q E ch W0 T [] i H a w := h
theorem ch_pure {i i' : Nat} {H : List (Nat × World)} {a a' : Act} {w : World} {o : Oper} {rest : List Oper} (hF : ch.contains i = false) (hi : i + 1 = i') (c : Value)
    (h : ∀ w2, E W0 w2 → (∀ p ∈ H, ahead ops i p.1 = true → E p.2 w2) → PureAt P ops o a w2 c) (ha : a.put o.dst c = a') (hr : ChL P ops Q E ch W0 T rest i' H a' w) :
    ChL P ops Q E ch W0 T (o :: rest) i H a w := by
  subst hi ha
  unfold ChL
  rw [hF]
  exact ⟨c, h, hr⟩
theorem ch_op {i i' : Nat} {H : List (Nat × World)} {a : Act} {w : World} {o : Oper} {rest : List Oper} (hF : ch.contains i = true) (hi : i + 1 = i')
    (h : OpAt P ops o a w fun v w' => E w w' ∧ ChL P ops Q E ch W0 T rest i' ((i, w') :: H) (a.put o.dst v) w') :
    ChL P ops Q E ch W0 T (o :: rest) i H a w := by
  subst hi
  unfold ChL
  rw [hF]
  exact h
end
end
end Go.Proofs.YtmmihcophkipoaaDoor
