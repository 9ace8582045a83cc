/-
  A region that draws its order, walked once in the order of the text. The first k operations may come in any order that their edges allow; the rest follow in the text's order. Each of the first k is shown at an arbitrary later world: its value is fixed there (a read, a sum), or a stable fact on it is told (a call, a new block). Nothing is said of any program.
-/
import Derived.Orders
import Derived.StillTail
import Derived.Tactics
namespace Go.Proofs.YtmmihcophkipoaaDoor
set_option linter.unusedVariables false
set_option linter.unusedSimpArgs false

section
variable {P : Program} {ops : Array Oper}

/-- what an operation's run comes to: a value and a world of which R holds -/
def opVal (P : Program) (R : Value → World → Prop) : Result Next → Prop
  | .ok (.value v) w' => R v w'
  | .ok .skip w' => R undef w'
  | .ok (.enter f args) w' => Calls P f args w' fun e w'' => ∃ v, e = .returned v ∧ R v w''
  | _ => False
@[go_sem] theorem opVal_value (R : Value → World → Prop) (v : Value) (w : World) : opVal P R (.ok (.value v) w) = R v w := rfl
@[go_sem] theorem opVal_skip (R : Value → World → Prop) (w : World) : opVal P R (.ok .skip w) = R undef w := rfl
@[go_sem] theorem opVal_enter (R : Value → World → Prop) (f : FuncId) (args : Array Value) (w : World) : opVal P R (.ok (.enter f args) w) = Calls P f args w fun e w'' => ∃ v, e = .returned v ∧ R v w'' := rfl
theorem opVal.ex {R : Value → World → Prop} {r : Result Next} (h : opVal P R r) : ∃ v w', R v w' := by
  cases r with
  | ok n w' =>
    cases n <;> simp only [opVal] at h
    case value v => exact ⟨v, w', h⟩
    case skip => exact ⟨undef, w', h⟩
    case enter f args =>
      obtain ⟨e, w'', fr, ⟨v, _, hR⟩, _⟩ := h []
      exact ⟨v, w'', hR⟩
  | halt x w' => simp only [opVal] at h
theorem opVal.upon {R : Value → World → Prop} {r : Result Next} (h : opVal P R r) {o : Oper} {a : Act} {K : Act → World → Prop} {Q : Exit → Act → World → Prop} (hK : ∀ v w', R v w' → K (a.put o.dst v) w') : o.upon P a K Q r := by
  cases r with
  | ok n w' =>
    cases n <;> simp only [opVal] at h <;> simp only [Oper.upon]
    case value v => exact hK _ _ h
    case skip => exact hK _ _ h
    case enter f args => exact Calls.mono h fun e w'' ⟨v, he, hR⟩ => by subst he; exact hK _ _ hR
  | halt x w' => simp only [opVal] at h

/-- operation o yields c and leaves the world as it is -/
def PureAt (P : Program) (ops : Array Oper) (o : Oper) (a : Act) (w : World) (c : Value) : Prop :=
  (Region.wanted o (yielded ops a.tmps) = true ∧ ((execOp a.eval o).run P w = .ok (.value c) w ∨ ((execOp a.eval o).run P w = .ok .skip w ∧ c = undef))) ∨
  (Region.wanted o (yielded ops a.tmps) = false ∧ c = undef)
/-- operation o comes to a value and a world of which R holds -/
def OpAt (P : Program) (ops : Array Oper) (o : Oper) (a : Act) (w : World) (R : Value → World → Prop) : Prop :=
  Region.wanted o (yielded ops a.tmps) = true ∧ opVal P R ((execOp a.eval o).run P w)

theorem PureAt.det {o : Oper} {a : Act} {w : World} {c d : Value} (h : PureAt P ops o a w c) (k : PureAt P ops o a w d) : c = d := by
  unfold PureAt at h k
  rcases h with ⟨h0, h1 | ⟨h1, rfl⟩⟩ | ⟨h0, rfl⟩ <;> rcases k with ⟨k0, k1 | ⟨k1, rfl⟩⟩ | ⟨k0, rfl⟩
  · rw [h1] at k1; injection k1 with k1; injection k1
  · rw [h1] at k1; injection k1 with k1; cases k1
  · rw [h0] at k0; cases k0
  · rw [h1] at k1; injection k1 with k1; cases k1
  · rfl
  · rfl
  · rw [h0] at k0; cases k0
  · rfl
  · rfl

/-- two frames agree on all that operation o looks at -/
def Agree (ops : Array Oper) (o : Oper) (a a' : Act) : Prop := ∀ t ∈ o.looksAt ops, a.tmps[t]? = a'.tmps[t]?
theorem Agree.exec {o : Oper} {a a' : Act} (hs : ∀ cs b, o.op ≠ .select cs b) (h : Agree ops o a a') : execOp a.eval o = execOp a'.eval o :=
  execOp_congr o hs fun x hx => by
    cases x with
    | tmp t =>
      have ht : t ∈ o.looksAt ops := List.mem_append_left _ (List.mem_filterMap.2 ⟨.tmp t, by simpa using hx, rfl⟩)
      have := h t ht
      simp only [Act.eval, Array.getD_eq_getD_getElem?, this]
    | const v => rfl
    | global g => rfl
    | func f => rfl
theorem Agree.wants {o : Oper} {a a' : Act} (h : Agree ops o a a') : Region.wanted o (yielded ops a.tmps) = Region.wanted o (yielded ops a'.tmps) := by
  unfold Region.wanted
  cases hg : o.guard with
  | none => rfl
  | some gw =>
    obtain ⟨g, want⟩ := gw
    have hy : yielded ops a.tmps g = yielded ops a'.tmps g := by
      unfold yielded
      cases ht : (ops[g]?).bind (·.dst) with
      | none => rfl
      | some t =>
        have hm : t ∈ o.looksAt ops := List.mem_append_right _ (by simp [hg, ht])
        have := h t hm
        simp only [Option.bind_some, this]
    simp only [hy]
theorem PureAt.of_agree {o : Oper} {a a' : Act} {w : World} {c : Value} (hs : ∀ cs b, o.op ≠ .select cs b) (h : Agree ops o a a') (k : PureAt P ops o a w c) : PureAt P ops o a' w c := by
  unfold PureAt at *
  rw [← h.exec hs, ← h.wants]
  exact k
theorem OpAt.of_agree {o : Oper} {a a' : Act} {w : World} {R : Value → World → Prop} (hs : ∀ cs b, o.op ≠ .select cs b) (h : Agree ops o a a') (k : OpAt P ops o a w R) : OpAt P ops o a' w R := by
  unfold OpAt at *
  rw [← h.exec hs, ← h.wants]
  exact k
theorem Agree.symm {o : Oper} {a a' : Act} (h : Agree ops o a a') : Agree ops o a' a := fun t ht => (h t ht).symm

abbrev Facts := Nat → Option (Value → World → Prop)

/-- what the region's first k operations ask, one by one in the text's order -/
def Phase (P : Program) (ops : Array Oper) (Q : Exit → Act → World → Prop) (E : World → World → Prop) (Fu : Facts) (D : Nat → Nat → Bool) (pre : Nat → Nat → Bool) (k : Nat) (W0 : World) : Nat → Nat → List (Nat × Value × (World → Prop)) → Act → Prop
  | 0, _, G, a => ∀ w, E W0 w → (∀ p ∈ G, p.2.2 w) → wpList P ops Q (ops.toList.drop k) a w
  | n + 1, i, G, a => ∃ o, ops[i]? = some o ∧
    match Fu i with
    | none => ∃ c, (∀ w, E W0 w → (∀ p ∈ G, pre i p.1 = true → p.2.2 w) → PureAt P ops o a w c) ∧ Phase P ops Q E Fu D pre k W0 n (i + 1) G (a.put o.dst c)
    | some F => (∀ w, E W0 w → (∀ p ∈ G, pre i p.1 = true → p.2.2 w) → OpAt P ops o a w fun v w' => E w w' ∧ F v w' ∧ ∀ j, D i j = true → ∀ Fj, Fu j = some Fj → ∀ u, Fj u w → v ≠ u) ∧
        ∀ v, (∃ w, E W0 w ∧ F v w) → (∀ p ∈ G, D i p.1 = true → v ≠ p.2.1) → Phase P ops Q E Fu D pre k W0 n (i + 1) ((i, v, F v) :: G) (a.put o.dst v)

section
variable {Q : Exit → Act → World → Prop} {E : World → World → Prop} {Fu : Facts} {D : Nat → Nat → Bool} {pre : Nat → Nat → Bool} {k : Nat} {W0 : World}
def noD : Nat → Nat → Bool := fun _ _ => false
theorem phase_end {i : Nat} {G : List (Nat × Value × (World → Prop))} {a : Act} (h : ∀ w, E W0 w → (∀ p ∈ G, p.2.2 w) → wpList P ops Q (ops.toList.drop k) a w) : Phase P ops Q E Fu D pre k W0 0 i G a := h
theorem phase_pure {n i : Nat} {G : List (Nat × Value × (World → Prop))} {a : Act} {o : Oper} (hF : Fu i = none) (ho : ops[i]? = some o) (c : Value)
    (h : ∀ w, E W0 w → (∀ p ∈ G, pre i p.1 = true → p.2.2 w) → PureAt P ops o a w c) (hr : Phase P ops Q E Fu D pre k W0 n (i + 1) G (a.put o.dst c)) :
    Phase P ops Q E Fu D pre k W0 (n + 1) i G a := by
  unfold Phase
  refine ⟨o, ho, ?_⟩
  rw [hF]
  exact ⟨c, h, hr⟩
/-- with what tells the values of several such operations apart -/
theorem phase_opD {n i : Nat} {G : List (Nat × Value × (World → Prop))} {a : Act} {o : Oper} {F : Value → World → Prop} (hF : Fu i = some F) (ho : ops[i]? = some o)
    (h : ∀ w, E W0 w → (∀ p ∈ G, pre i p.1 = true → p.2.2 w) → OpAt P ops o a w fun v w' => E w w' ∧ F v w' ∧ ∀ j, D i j = true → ∀ Fj, Fu j = some Fj → ∀ u, Fj u w → v ≠ u)
    (hr : ∀ v, (∃ w, E W0 w ∧ F v w) → (∀ p ∈ G, D i p.1 = true → v ≠ p.2.1) → Phase P ops Q E Fu D pre k W0 n (i + 1) ((i, v, F v) :: G) (a.put o.dst v)) :
    Phase P ops Q E Fu D pre k W0 (n + 1) i G a := by
  unfold Phase
  refine ⟨o, ho, ?_⟩
  rw [hF]
  exact ⟨h, hr⟩
theorem opVal.mono {R R' : Value → World → Prop} {r : Result Next} (h : opVal P R r) (k : ∀ v w, R v w → R' v w) : opVal P R' r := by
  cases r with
  | ok n w' =>
    cases n <;> simp only [opVal] at h ⊢
    case value v => exact k _ _ h
    case skip => exact k _ _ h
    case enter f args => exact Calls.mono h fun e w'' ⟨v, he, hR⟩ => ⟨v, he, k _ _ hR⟩
  | halt x w' => simp only [opVal] at h
theorem OpAt.mono {o : Oper} {a : Act} {w : World} {R R' : Value → World → Prop} (h : OpAt P ops o a w R) (k : ∀ v w, R v w → R' v w) : OpAt P ops o a w R' := ⟨h.1, h.2.mono k⟩
theorem phase_op {n i : Nat} {G : List (Nat × Value × (World → Prop))} {a : Act} {o : Oper} {F : Value → World → Prop} (hF : Fu i = some F) (ho : ops[i]? = some o)
    (h : ∀ w, E W0 w → (∀ p ∈ G, pre i p.1 = true → p.2.2 w) → OpAt P ops o a w fun v w' => E w w' ∧ F v w')
    (hr : ∀ v, (∃ w, E W0 w ∧ F v w) → Phase P ops Q E Fu noD pre k W0 n (i + 1) ((i, v, F v) :: G) (a.put o.dst v)) :
    Phase P ops Q E Fu noD pre k W0 (n + 1) i G a :=
  phase_opD hF ho (fun w hw hG => (h w hw hG).mono fun v w' hh => ⟨hh.1, hh.2, fun j hj => by cases hj⟩) (fun v hv _ => hr v hv)
end

/-- operations that only hand values on -/
def isFlow (o : Oper) : Bool := o.guard.isNone && (match o.op with | .move _ | .assign _ | .extract _ _ => true | _ => false)
theorem flow_indep {o : Oper} (hf : isFlow o = true) {a : Act} {w : World} {c : Value} (h : PureAt P ops o a w c) : Yields P ops o c a := by
  unfold isFlow at hf
  simp only [Bool.and_eq_true] at hf
  have hg : o.guard = none := by simpa using hf.1
  have hw : Region.wanted o (yielded ops a.tmps) = true := by simp [Region.wanted, hg]
  refine Or.inl ⟨hw, ?_⟩
  rcases h with ⟨_, h⟩ | ⟨h, _⟩
  · obtain ⟨dst, op, type, pos, after, guard⟩ := o
    intro w'
    cases op with
    | move x =>
      simp only [execOp, Sem.run_pure] at h ⊢
      rcases h with h | ⟨h, _⟩
      · injection h with h
        rw [h]
      · injection h with h
        cases h
    | assign x =>
      simp only [execOp, Sem.run_pure] at h ⊢
      rcases h with h | ⟨h, _⟩
      · injection h with h
        rw [h]
      · injection h with h
        cases h
    | extract tp ix =>
      simp only [execOp, Instr.extract] at h ⊢
      generalize a.eval tp = v at h ⊢
      cases v with
      | tuple vs =>
        cases hx : vs[ix]? with
        | none => simp [hx, stuck] at h
        | some u =>
          simp [hx] at h ⊢
          exact h
      | _ => simp [stuck] at h
    | _ => simp at hf
  · rw [hw] at h
    cases h

/-- j comes ahead of i in every order -/
def ahead (ops : Array Oper) (i j : Nat) : Bool := ((Region.before ops).getD i 0).testBit j
/-- the look at the region's form: by the kernel -/
def phaseOk (ops : Array Oper) (k : Nat) : Bool :=
  decide (k ≤ ops.size) &&
  (List.range ops.size).all (fun i => match ops[i]? with
    | none => false
    | some o => (!(match o.op with | .select .. => true | _ => false)) &&
      (decide (k ≤ i) || o.after.all fun e => !Region.binds .any e || decide (e.on < i)) &&
      (List.range ops.size).all fun j => !ahead ops i j || (o.after.any fun e => Region.binds .any e && decide (e.on < i) && (e.on == j || ahead ops e.on j))) &&
  (List.range k).all (fun i => match ops[i]? with
    | none => false
    | some o => (List.range k).all fun j => match ops[j]? with
      | none => false
      | some oj => match oj.dst with
        | none => true
        | some d => (!(o.looksAt ops).contains d || ahead ops i j) && (decide (i = j) || o.dst != some d)) &&
  ((List.range ops.size).all fun t => decide (t < k) || (List.range k).all fun j => ahead ops t j || ((ops[j]?).map isFlow).getD false) &&
  ((List.range k).all fun i => match ops[i]? with
    | none => true
    | some o => !isFlow o || (List.range ops.size).all fun j => decide (j = i) || ahead ops i j || (match ops[j]? with
      | none => true
      | some oj => (oj.after.any fun e => Region.binds .any e && e.on == i) || o.apart ops oj)) &&
  Region.seqB .any ops (ops.size - k) k ((Array.replicate k true) ++ (Array.replicate (ops.size - k) false))

structure PhaseOk (ops : Array Oper) (k : Nat) : Prop where
  le : k ≤ ops.size
  sel : ∀ (i : Nat) (o : Oper), ops[i]? = some o → ∀ cs b, o.op ≠ Op.select cs b
  low : ∀ (i : Nat) (o : Oper), i < k → ops[i]? = some o → ∀ e ∈ o.after, Region.binds .any e = true → e.on < i
  step : ∀ (i : Nat) (o : Oper) (j : Nat), ops[i]? = some o → ahead ops i j = true → j < ops.size → ∃ e ∈ o.after, Region.binds .any e = true ∧ e.on < i ∧ (e.on = j ∨ ahead ops e.on j = true)
  look : ∀ (i j : Nat) (o oj : Oper) (d : Tmp), i < k → j < k → ops[i]? = some o → ops[j]? = some oj → oj.dst = some d → d ∈ o.looksAt ops → ahead ops i j = true
  apart : ∀ (i j : Nat) (o oj : Oper) (d : Tmp), i < k → j < k → ops[i]? = some o → ops[j]? = some oj → oj.dst = some d → i ≠ j → o.dst ≠ some d
  tail : ∀ (t j : Nat) (o : Oper), k ≤ t → t < ops.size → j < k → ops[j]? = some o → isFlow o = false → ahead ops t j = true
  flow : ∀ (i j : Nat) (o oj : Oper), i < k → ops[i]? = some o → isFlow o = true → j ≠ i → ahead ops i j = false → ops[j]? = some oj → (∀ e ∈ oj.after, Region.binds .any e = true → e.on ≠ i) → o.apart ops oj = true
  seq : Region.seqB .any ops (ops.size - k) k ((Array.replicate k true) ++ (Array.replicate (ops.size - k) false)) = true

theorem PhaseOk.of {k : Nat} (h : phaseOk ops k = true) : PhaseOk ops k := by
  unfold phaseOk at h
  simp only [Bool.and_eq_true] at h
  obtain ⟨⟨⟨⟨⟨h1, h2⟩, h3⟩, h4⟩, h6⟩, h5⟩ := h
  have look2 : ∀ i o, ops[i]? = some o → i < ops.size := fun i o ho => (Array.getElem?_eq_some_iff.1 ho).1
  refine ⟨of_decide_eq_true h1, ?_, ?_, ?_, ?_, ?_, ?_, ?_, h5⟩
  · intro i o ho cs b hsel
    have := List.all_eq_true.1 h2 i (List.mem_range.2 (look2 i o ho))
    simp only [ho, hsel] at this
    simp at this
  · intro i o hi ho e he hb
    have := List.all_eq_true.1 h2 i (List.mem_range.2 (look2 i o ho))
    simp only [ho, Bool.and_eq_true, Bool.or_eq_true, decide_eq_true_eq] at this
    rcases this.1.2 with h | h
    · omega
    · have := Array.all_eq_true'.1 h e he
      simpa [hb] using this
  · intro i o j ho ha hj
    have := List.all_eq_true.1 h2 i (List.mem_range.2 (look2 i o ho))
    simp only [ho, Bool.and_eq_true] at this
    have h6 := List.all_eq_true.1 this.2 j (List.mem_range.2 hj)
    simp only [ha, Bool.not_true, Bool.false_or] at h6
    obtain ⟨e, he, hb⟩ := Array.any_eq_true'.1 h6
    simp only [Bool.and_eq_true, Bool.or_eq_true, decide_eq_true_eq, beq_iff_eq] at hb
    exact ⟨e, he, hb.1.1, hb.1.2, hb.2⟩
  · intro i j o oj d hi hj ho hoj hd hm
    have := List.all_eq_true.1 h3 i (List.mem_range.2 hi)
    simp only [ho] at this
    have := List.all_eq_true.1 this j (List.mem_range.2 hj)
    simp only [hoj, hd, Bool.and_eq_true, Bool.or_eq_true] at this
    rcases this.1 with h | h
    · simp [hm] at h
    · exact h
  · intro i j o oj d hi hj ho hoj hd hne
    have := List.all_eq_true.1 h3 i (List.mem_range.2 hi)
    simp only [ho] at this
    have := List.all_eq_true.1 this j (List.mem_range.2 hj)
    simp only [hoj, hd, Bool.and_eq_true, Bool.or_eq_true, decide_eq_true_eq, bne_iff_ne] at this
    rcases this.2 with h | h
    · exact absurd h hne
    · exact h
  · intro t j o ht hts hj ho hf
    have := List.all_eq_true.1 h4 t (List.mem_range.2 hts)
    simp only [Bool.or_eq_true, decide_eq_true_eq] at this
    rcases this with h | h
    · omega
    · have := List.all_eq_true.1 h j (List.mem_range.2 hj)
      simpa [ho, hf] using this
  · intro i j o oj hi ho hf hne hah hoj hno
    have := List.all_eq_true.1 h6 i (List.mem_range.2 hi)
    simp only [ho, hf, Bool.not_true, Bool.false_or] at this
    have := List.all_eq_true.1 this j (List.mem_range.2 (look2 j oj hoj))
    simp only [hoj, Bool.or_eq_true, decide_eq_true_eq, hah, Bool.false_eq_true, or_false] at this
    rcases this with h | h | h
    · exact absurd h hne
    · obtain ⟨e, he, hb⟩ := Array.any_eq_true'.1 h
      simp only [Bool.and_eq_true, beq_iff_eq] at hb
      exact absurd hb.2 (hno e he hb.1)
    · exact h
end

section
variable {P : Program} {ops : Array Oper} {k : Nat}

def upd (vals : Nat → Value) (i : Nat) (v : Value) : Nat → Value := fun j => if j = i then v else vals j
theorem ne_in {L : Nat → Prop} {i j : Nat} (h : ¬ L i) (hj : L j) : j ≠ i := by
  rintro rfl
  exact h hj
theorem upd_same (vals : Nat → Value) (i : Nat) (v : Value) : upd vals i v i = v := by simp [upd]
theorem upd_other (vals : Nat → Value) {i j : Nat} (v : Value) (h : j ≠ i) : upd vals i v j = vals j := by simp [upd, h]

/-- the frame a is a0 with the values of the operations in L laid in -/
structure Fills (ops : Array Oper) (k : Nat) (a0 : Act) (L : Nat → Prop) (vals : Nat → Value) (a : Act) : Prop where
  size : a.tmps.size = a0.tmps.size
  defers : a.defers = a0.defers
  done : ∀ (i : Nat) (o : Oper) (d : Tmp), i < k → L i → ops[i]? = some o → o.dst = some d → d < a0.tmps.size → a.tmps[d]? = some (vals i)
  rest : ∀ (t : Tmp), (∀ (i : Nat) (o : Oper), i < k → L i → ops[i]? = some o → o.dst ≠ some t) → a.tmps[t]? = a0.tmps[t]?

theorem Fills.start (a0 : Act) (vals : Nat → Value) {L : Nat → Prop} (hL : ∀ i, i < k → ¬ L i) : Fills ops k a0 L vals a0 :=
  ⟨rfl, rfl, fun i _ _ hi hl => absurd hl (hL i hi), fun _ _ => rfl⟩

theorem put_size (a : Act) (d : Option Tmp) (v : Value) : (a.put d v).tmps.size = a.tmps.size := by cases d <;> simp [Act.put]
theorem put_defers (a : Act) (d : Option Tmp) (v : Value) : (a.put d v).defers = a.defers := by cases d <;> rfl
theorem put_at (a : Act) (d : Tmp) (v : Value) (h : d < a.tmps.size) : (a.put (some d) v).tmps[d]? = some v := by simp [Act.put, h]
theorem put_off (a : Act) (d : Option Tmp) (v : Value) (t : Tmp) (h : d ≠ some t) : (a.put d v).tmps[t]? = a.tmps[t]? := by
  cases d with
  | none => rfl
  | some e =>
    have : e ≠ t := fun he => h (by rw [he])
    simp [Act.put, Array.getElem?_setIfInBounds_ne this]

theorem Fills.put (ok : PhaseOk ops k) {a0 a : Act} {L L' : Nat → Prop} {vals vals' : Nat → Value} (h : Fills ops k a0 L vals a) {i : Nat} {o : Oper} (hi : i < k) (ho : ops[i]? = some o) {v : Value}
    (hL : ∀ j, j < k → (L' j ↔ L j ∨ j = i)) (hv : vals' i = v) (hvs : ∀ j, j < k → L j → vals' j = vals j) : Fills ops k a0 L' vals' (a.put o.dst v) := by
  refine ⟨by rw [put_size, h.size], by rw [put_defers, h.defers], ?_, ?_⟩
  · intro j oj d hj hl hoj hd hsz
    by_cases hji : j = i
    · subst hji
      have : oj = o := Option.some.inj (hoj.symm.trans ho)
      subst this
      rw [hd, put_at _ _ _ (by rw [h.size]; exact hsz), hv]
    · have hl' : L j := by rcases (hL j hj).1 hl with h' | h'; exact h'; exact absurd h' hji
      rw [put_off _ _ _ _ (ok.apart i j o oj d hi hj ho hoj hd (Ne.symm hji)), h.done j oj d hj hl' hoj hd hsz, hvs j hj hl']
  · intro t ht
    have h1 : o.dst ≠ some t := ht i o hi ((hL i hi).2 (Or.inr rfl)) ho
    rw [put_off _ _ _ _ h1]
    exact h.rest t fun j oj hj hl hoj => ht j oj hj ((hL j hj).2 (Or.inl hl)) hoj

theorem Fills.agree (ok : PhaseOk ops k) {a0 a a' : Act} {L L' : Nat → Prop} {vals vals' : Nat → Value} (h : Fills ops k a0 L vals a) (h' : Fills ops k a0 L' vals' a') {i : Nat} {o : Oper} (hi : i < k) (ho : ops[i]? = some o)
    (hp : ∀ j, j < k → ahead ops i j = true → L j ∧ L' j ∧ vals j = vals' j) : Agree ops o a a' := by
  intro t ht
  by_cases hw : ∃ j oj, j < k ∧ ops[j]? = some oj ∧ oj.dst = some t
  · obtain ⟨j, oj, hj, hoj, hd⟩ := hw
    obtain ⟨l1, l2, e⟩ := hp j hj (ok.look i j o oj t hi hj ho hoj hd ht)
    rcases Nat.lt_or_ge t a0.tmps.size with hs | hs
    · rw [h.done j oj t hj l1 hoj hd hs, h'.done j oj t hj l2 hoj hd hs, e]
    · rw [Array.getElem?_eq_none (by rw [h.size]; exact hs), Array.getElem?_eq_none (by rw [h'.size]; exact hs)]
  · have hn : ∀ (L : Nat → Prop) (j : Nat) (oj : Oper), j < k → L j → ops[j]? = some oj → oj.dst ≠ some t := fun L j oj hj _ hoj hd => hw ⟨j, oj, hj, hoj, hd⟩
    rw [h.rest t (hn L), h'.rest t (hn L')]

theorem Fills.unique {a0 a a' : Act} {L : Nat → Prop} {vals : Nat → Value} (h : Fills ops k a0 L vals a) (h' : Fills ops k a0 L vals a') : a = a' := by
  obtain ⟨tm, df⟩ := a
  obtain ⟨tm', df'⟩ := a'
  have e1 : df = df' := h.defers.trans h'.defers.symm
  have e2 : tm = tm' := by
    apply Array.ext_getElem?
    intro t
    by_cases hw : ∃ j oj, j < k ∧ L j ∧ ops[j]? = some oj ∧ oj.dst = some t
    · obtain ⟨j, oj, hj, hl, hoj, hd⟩ := hw
      rcases Nat.lt_or_ge t a0.tmps.size with hs | hs
      · exact (h.done j oj t hj hl hoj hd hs).trans (h'.done j oj t hj hl hoj hd hs).symm
      · have s1 := h.size
        have s2 := h'.size
        rw [Array.getElem?_eq_none (by simp only at s1; omega), Array.getElem?_eq_none (by simp only at s2; omega)]
    · have hn : ∀ (j : Nat) (oj : Oper), j < k → L j → ops[j]? = some oj → oj.dst ≠ some t := fun j oj hj hl hoj hd => hw ⟨j, oj, hj, hl, hoj, hd⟩
      exact (h.rest t hn).trans (h'.rest t hn).symm
  rw [e1, e2]

theorem closed_ahead (ok : PhaseOk ops k) {L : Nat → Prop} (hcl : ∀ (i : Nat) (o : Oper), i < k → L i → ops[i]? = some o → ∀ e ∈ o.after, Region.binds .any e = true → L e.on) :
    ∀ (i : Nat), i < k → L i → ∀ j, j < k → ahead ops i j = true → L j := by
  intro i
  induction i using Nat.strongRecOn with
  | _ i ih =>
    intro hi hl j hj ha
    have hlt : i < ops.size := Nat.lt_of_lt_of_le hi ok.le
    have ho : ops[i]? = some ops[i] := Array.getElem?_eq_getElem hlt
    obtain ⟨e, he, hb, hlo, hor⟩ := ok.step i _ j ho ha (Nat.lt_of_lt_of_le hj ok.le)
    have hle := hcl i _ hi hl ho e he hb
    rcases hor with h | h
    · rw [← h]; exact hle
    · exact ih e.on hlo (by omega) hle j hj h

theorem ready_ahead (ok : PhaseOk ops k) {L : Nat → Prop} (hcl : ∀ (i : Nat) (o : Oper), i < k → L i → ops[i]? = some o → ∀ e ∈ o.after, Region.binds .any e = true → L e.on)
    {i : Nat} {o : Oper} (hi : i < k) (ho : ops[i]? = some o) (hr : ∀ e ∈ o.after, Region.binds .any e = true → L e.on) : ∀ j, j < k → ahead ops i j = true → L j := by
  intro j hj ha
  obtain ⟨e, he, hb, hlo, hor⟩ := ok.step i o j ho ha (Nat.lt_of_lt_of_le hj ok.le)
  rcases hor with h | h
  · rw [← h]; exact hr e he hb
  · exact closed_ahead ok hcl e.on (by omega) (hr e he hb) j hj h

theorem ahead_lt (ok : PhaseOk ops k) : ∀ i, i < k → ∀ j, j < k → ahead ops i j = true → j < i := by
  intro i
  induction i using Nat.strongRecOn with
  | _ i ih =>
    intro hi j hj ha
    have ho : ops[i]? = some (ops[i]'(Nat.lt_of_lt_of_le hi ok.le)) := Array.getElem?_eq_getElem _
    obtain ⟨e, he, hb, hlo, hor⟩ := ok.step i _ j ho ha (Nat.lt_of_lt_of_le hj ok.le)
    rcases hor with h | h
    · omega
    · have := ih e.on hlo (by omega) j hj h
      omega

/-- what stands while the first k are under way -/
structure Under (P : Program) (ops : Array Oper) (k : Nat) (E : World → World → Prop) (Fu : Facts) (D : Nat → Nat → Bool) (W0 : World) (a0 : Act) (L : Nat → Prop) (vals : Nat → Value) (a : Act) (w : World) : Prop where
  ext : E W0 w
  fills : Fills ops k a0 L vals a
  closed : ∀ (i : Nat) (o : Oper), i < k → L i → ops[i]? = some o → ∀ e ∈ o.after, Region.binds .any e = true → L e.on
  facts : ∀ (j : Nat) (F : Value → World → Prop), j < k → L j → Fu j = some F → F (vals j) w
  pures : ∀ (j : Nat) (o : Oper), j < k → L j → Fu j = none → ops[j]? = some o → ∀ w', E w w' → PureAt P ops o a w' (vals j)
  apart : ∀ (i j : Nat), i < k → j < k → L i → L j → i ≠ j → (Fu i).isSome = true → (Fu j).isSome = true → D i j = true → vals i ≠ vals j

section
variable {Q : Exit → Act → World → Prop} {E : World → World → Prop} {Fu : Facts} {D : Nat → Nat → Bool} {W0 : World} {a0 : Act}

/-- the walk of the text, carried on to its m-th operation, at some world later than w -/
theorem traverse (ok : PhaseOk ops k) (hE0 : ∀ w, E w w) (hEt : ∀ a b c, E a b → E b c → E a c) (hst : ∀ i F, Fu i = some F → ∀ v w w', E w w' → F v w → F v w') (hsym : ∀ i j, D i j = true → D j i = true)
    (hph : Phase P ops Q E Fu D (ahead ops) k W0 k 0 [] a0) {L : Nat → Prop} {vals : Nat → Value} {a : Act} {w : World} (un : Under P ops k E Fu D W0 a0 L vals a w) :
    ∀ m, m ≤ k → ∃ (vals' : Nat → Value) (w' : World) (G : List (Nat × Value × (World → Prop))) (am : Act),
      (∀ j, L j → vals' j = vals j) ∧ E w w' ∧ Fills ops k a0 (fun j => j < m) vals' am ∧
      (∀ p ∈ G, ∃ j F, p = (j, vals' j, F (vals' j)) ∧ Fu j = some F ∧ j < m) ∧ (∀ (j : Nat) F, j < m ∨ (j < k ∧ L j) → Fu j = some F → F (vals' j) w') ∧
      (∀ (i j : Nat), i < m ∨ (i < k ∧ L i) → j < m ∨ (j < k ∧ L j) → i ≠ j → (Fu i).isSome = true → (Fu j).isSome = true → D i j = true → vals' i ≠ vals' j) ∧
      Phase P ops Q E Fu D (ahead ops) k W0 (k - m) m G am := by
  intro m
  induction m with
  | zero =>
    intro _
    refine ⟨vals, w, [], a0, fun _ _ => rfl, hE0 w, Fills.start a0 vals (fun i _ => by simp), by simp, fun j F h hF => ?_, fun i j hi hj hne hFi hFj hD => ?_, hph⟩
    · rcases h with h | h
      · omega
      · exact un.facts j F h.1 h.2 hF
    · rcases hi with h | h
      · omega
      · rcases hj with h' | h'
        · omega
        · exact un.apart i j h.1 h'.1 h.2 h'.2 hne hFi hFj hD
  | succ m ih =>
    intro hm
    obtain ⟨vals', w', G, am, hag, hE, hfl, hG, hfa, hap, hp⟩ := ih (by omega)
    have hkm : k - m = (k - (m + 1)) + 1 := by omega
    rw [hkm] at hp
    unfold Phase at hp
    obtain ⟨o, ho, hp⟩ := hp
    have hW : E W0 w' := hEt _ _ _ un.ext hE
    have hGw : ∀ p ∈ G, p.2.2 w' := fun p hpG => by
      obtain ⟨j, F, rfl, hF, hj⟩ := hG p hpG
      exact hfa j F (Or.inl hj) hF
    cases hFm : Fu m with
    | none =>
      rw [hFm] at hp
      obtain ⟨c, hrun, hrest⟩ := hp
      by_cases hl : L m
      · have h1 := hrun w' hW fun p hpG _ => hGw p hpG
        have h2 := un.pures m o (by omega) hl hFm ho w' hE
        have hagr : Agree ops o a am := un.fills.agree ok hfl (by omega) ho fun j hj ha => by
          have hlj := closed_ahead ok un.closed m (by omega) hl j hj ha
          exact ⟨hlj, ahead_lt ok m (by omega) j hj ha, (hag j hlj).symm⟩
        have hc : c = vals m := h1.det (h2.of_agree (ok.sel m o ho) hagr)
        refine ⟨vals', w', G, am.put o.dst c, hag, hE, ?_, ?_, ?_, ?_, hrest⟩
        · exact hfl.put ok (by omega) ho (fun j _ => by omega) (by rw [hag m hl, hc]) (fun _ _ _ => rfl)
        · intro p hpG
          obtain ⟨j, F, e, hF, hj⟩ := hG p hpG
          exact ⟨j, F, e, hF, by omega⟩
        · intro j F hj hF
          by_cases hjm : j = m
          · subst hjm; rw [hFm] at hF; cases hF
          · exact hfa j F (by rcases hj with h | h; left; omega; right; exact h) hF
        · intro i j hi hj hne hFi hFj hD
          have him : i ≠ m := by rintro rfl; rw [hFm] at hFi; cases hFi
          have hjm : j ≠ m := by rintro rfl; rw [hFm] at hFj; cases hFj
          exact hap i j (by rcases hi with h | h; left; omega; right; exact h) (by rcases hj with h | h; left; omega; right; exact h) hne hFi hFj hD
      · refine ⟨upd vals' m c, w', G, am.put o.dst c, ?_, hE, ?_, ?_, ?_, ?_, hrest⟩
        · intro j hj
          rw [upd_other _ _ (ne_in hl hj)]
          exact hag j hj
        · exact hfl.put ok (by omega) ho (fun j _ => by omega) (upd_same _ _ _) (fun j _ hj => upd_other _ _ (by omega))
        · intro p hpG
          obtain ⟨j, F, e, hF, hj⟩ := hG p hpG
          exact ⟨j, F, by rw [upd_other _ _ (by omega)]; exact e, hF, by omega⟩
        · intro j F hj hF
          by_cases hjm : j = m
          · subst hjm; rw [hFm] at hF; cases hF
          · rw [upd_other _ _ hjm]
            exact hfa j F (by rcases hj with h | h; left; omega; right; exact h) hF
        · intro i j hi hj hne hFi hFj hD
          have him : i ≠ m := by rintro rfl; rw [hFm] at hFi; cases hFi
          have hjm : j ≠ m := by rintro rfl; rw [hFm] at hFj; cases hFj
          rw [upd_other _ _ him, upd_other _ _ hjm]
          exact hap i j (by rcases hi with h | h; left; omega; right; exact h) (by rcases hj with h | h; left; omega; right; exact h) hne hFi hFj hD
    | some Fm =>
      rw [hFm] at hp
      obtain ⟨hrun, hrest⟩ := hp
      have hsome : (Fu m).isSome = true := by rw [hFm]; rfl
      by_cases hl : L m
      · have hv : Fm (vals m) w' := hst m Fm hFm _ _ _ hE (un.facts m Fm (by omega) hl hFm)
        have hold : ∀ j, j < m + 1 ∨ (j < k ∧ L j) → j < m ∨ (j < k ∧ L j) := fun j hj => by
          by_cases hjm : j = m
          · subst hjm; exact Or.inr ⟨by omega, hl⟩
          · rcases hj with h | h
            · left; omega
            · exact Or.inr h
        refine ⟨vals', w', (m, vals m, Fm (vals m)) :: G, am.put o.dst (vals m), hag, hE, ?_, ?_, ?_, ?_, hrest (vals m) ⟨w', hW, hv⟩ ?_⟩
        · exact hfl.put ok (by omega) ho (fun j _ => by omega) (hag m hl) (fun _ _ _ => rfl)
        · intro p hpG
          rcases List.mem_cons.1 hpG with h | h
          · exact ⟨m, Fm, by rw [h, hag m hl], hFm, by omega⟩
          · obtain ⟨j, F, e, hF, hj⟩ := hG p h
            exact ⟨j, F, e, hF, by omega⟩
        · intro j F hj hF
          exact hfa j F (hold j hj) hF
        · intro i j hi hj hne hFi hFj hD
          exact hap i j (hold i hi) (hold j hj) hne hFi hFj hD
        · intro p hpG hD
          obtain ⟨j, F, rfl, hF, hj⟩ := hG p hpG
          have := hap m j (Or.inr ⟨by omega, hl⟩) (Or.inl hj) (by omega) hsome (by rw [hF]; rfl) hD
          rw [hag m hl] at this
          exact this
      · obtain ⟨v, w2, hE2, hFv, hDv⟩ := (hrun w' hW fun p hpG _ => hGw p hpG).2.ex
        have hold : ∀ j, j ≠ m → j < m + 1 ∨ (j < k ∧ L j) → j < m ∨ (j < k ∧ L j) := fun j hjm hj => by
          rcases hj with h | h
          · left; omega
          · exact Or.inr h
        have hnew : ∀ j, j ≠ m → j < m ∨ (j < k ∧ L j) → (Fu j).isSome = true → D m j = true → v ≠ vals' j := fun j hjm hj hFj hD => by
          obtain ⟨Fj, hFj⟩ := Option.isSome_iff_exists.1 hFj
          exact hDv j hD Fj hFj _ (hfa j Fj hj hFj)
        refine ⟨upd vals' m v, w2, (m, v, Fm v) :: G, am.put o.dst v, ?_, hEt _ _ _ hE hE2, ?_, ?_, ?_, ?_, hrest v ⟨w2, hEt _ _ _ hW hE2, hFv⟩ ?_⟩
        · intro j hj
          rw [upd_other _ _ (ne_in hl hj)]
          exact hag j hj
        · exact hfl.put ok (by omega) ho (fun j _ => by omega) (upd_same _ _ _) (fun j _ hj => upd_other _ _ (by omega))
        · intro p hpG
          rcases List.mem_cons.1 hpG with h | h
          · exact ⟨m, Fm, by rw [h, upd_same], hFm, by omega⟩
          · obtain ⟨j, F, e, hF, hj⟩ := hG p h
            exact ⟨j, F, by rw [upd_other _ _ (by omega)]; exact e, hF, by omega⟩
        · intro j F hj hF
          by_cases hjm : j = m
          · subst hjm
            have : F = Fm := Option.some.inj (hF.symm.trans hFm)
            subst this
            rw [upd_same]; exact hFv
          · rw [upd_other _ _ hjm]
            exact hst j F hF _ _ _ hE2 (hfa j F (hold j hjm hj) hF)
        · intro i j hi hj hne hFi hFj hD
          by_cases him : i = m
          · subst him
            rw [upd_same, upd_other _ _ (Ne.symm hne)]
            exact hnew j (Ne.symm hne) (hold j (Ne.symm hne) hj) hFj hD
          · by_cases hjm : j = m
            · subst hjm
              rw [upd_same, upd_other _ _ hne]
              exact Ne.symm (hnew i hne (hold i hne hi) hFi (hsym _ _ hD))
            · rw [upd_other _ _ him, upd_other _ _ hjm]
              exact hap i j (hold i him hi) (hold j hjm hj) hne hFi hFj hD
        · intro p hpG hD
          obtain ⟨j, F, rfl, hF, hj⟩ := hG p hpG
          exact hnew j (by omega) (Or.inl hj) (by rw [hF]; rfl) hD

/-- an operation whose value is fixed: the value, and that all stands behind it -/
theorem under_pure (ok : PhaseOk ops k) (hE0 : ∀ w, E w w) (hEt : ∀ a b c, E a b → E b c → E a c) (hst : ∀ i F, Fu i = some F → ∀ v w w', E w w' → F v w → F v w') (hsym : ∀ i j, D i j = true → D j i = true)
    (hph : Phase P ops Q E Fu D (ahead ops) k W0 k 0 [] a0) {L L' : Nat → Prop} {vals : Nat → Value} {a : Act} {w : World} (un : Under P ops k E Fu D W0 a0 L vals a w)
    {i : Nat} {o : Oper} (hi : i < k) (ho : ops[i]? = some o) (hnl : ¬ L i) (hr : ∀ e ∈ o.after, Region.binds .any e = true → L e.on) (hL : ∀ j, L' j ↔ L j ∨ j = i)
    (hFi : Fu i = none) : ∃ c, (∀ w2, E w w2 → PureAt P ops o a w2 c) ∧ ∃ vals', Under P ops k E Fu D W0 a0 L' vals' (a.put o.dst c) w := by
  obtain ⟨vals', w', G, ai, hag, hE, hfl, hG, hfa, _, hp⟩ := traverse ok hE0 hEt hst hsym hph un i (by omega)
  have hpre := ready_ahead ok un.closed hi ho hr
  have hki : k - i = (k - (i + 1)) + 1 := by omega
  rw [hki] at hp
  unfold Phase at hp
  obtain ⟨o', ho', hp⟩ := hp
  have : o' = o := Option.some.inj (ho'.symm.trans ho)
  subst this
  have hagr : Agree ops o' ai a := hfl.agree ok un.fills hi ho fun j hj ha => ⟨ahead_lt ok i hi j hj ha, hpre j hj ha, hag j (hpre j hj ha)⟩
  have hGw : ∀ w2, E w w2 → ∀ p ∈ G, ahead ops i p.1 = true → p.2.2 w2 := fun w2 hE2 p hpG ha => by
    obtain ⟨j, F, rfl, hF, hj⟩ := hG p hpG
    have hlj := hpre j (by omega) ha
    show F (vals' j) w2
    rw [hag j hlj]
    exact hst j F hF _ _ _ hE2 (un.facts j F (by omega) hlj hF)
  have hsub : ∀ j, L j → L' j := fun j h => (hL j).2 (Or.inl h)
  have hclosed : ∀ (j : Nat) (oj : Oper), j < k → L' j → ops[j]? = some oj → ∀ e ∈ oj.after, Region.binds .any e = true → L' e.on := by
    intro j oj hj hl hoj e he hb
    rcases (hL j).1 hl with h | h
    · exact hsub _ (un.closed j oj hj h hoj e he hb)
    · subst h
      have : oj = o' := Option.some.inj (hoj.symm.trans ho)
      subst this
      exact hsub _ (hr e he hb)
  -- the frame behind the operation
  have behind : ∀ v, Fills ops k a0 L' (upd vals i v) (a.put o'.dst v) := fun v =>
    un.fills.put ok hi ho (fun j _ => hL j) (upd_same _ _ _) (fun j _ hj => upd_other _ _ (ne_in hnl hj))
  have still : ∀ v j oj, j < k → L' j → ops[j]? = some oj → Agree ops oj a (a.put o'.dst v) := fun v j oj hj hl hoj => by
    refine un.fills.agree ok (behind v) hj hoj fun l hl' ha => ?_
    have hlj : L l := by
      rcases (hL j).1 hl with h | h
      · exact closed_ahead ok un.closed j hj h l hl' ha
      · subst h; exact hpre l hl' ha
    exact ⟨hlj, hsub l hlj, (upd_other _ _ (ne_in hnl hlj)).symm⟩
  have pures : ∀ v w2, E w w2 → ∀ (j : Nat) (oj : Oper), j < k → L j → Fu j = none → ops[j]? = some oj → ∀ w3, E w2 w3 → PureAt P ops oj (a.put o'.dst v) w3 (upd vals i v j) := fun v w2 hE2 j oj hj hl hF hoj w3 hE3 => by
    rw [upd_other _ _ (ne_in hnl hl)]
    exact (un.pures j oj hj hl hF hoj w3 (hEt _ _ _ hE2 hE3)).of_agree (ok.sel j oj hoj) (still v j oj hj (hsub j hl) hoj)
  have facts : ∀ v w2, E w w2 → ∀ (j : Nat) F, j < k → L j → Fu j = some F → F (upd vals i v j) w2 := fun v w2 hE2 j F hj hl hF => by
    rw [upd_other _ _ (ne_in hnl hl)]
    exact hst j F hF _ _ _ hE2 (un.facts j F hj hl hF)
  rw [hFi] at hp
  obtain ⟨c, hrun, _⟩ := hp
  have key : ∀ w2, E w w2 → PureAt P ops o' a w2 c := fun w2 hE2 => (hrun w2 (hEt _ _ _ un.ext hE2) (hGw w2 hE2)).of_agree (ok.sel i o' ho) hagr
  refine ⟨c, key, upd vals i c, ?_⟩
  exact
      { ext := un.ext, fills := behind c, closed := hclosed
        facts := fun j F hj hl hF => by
          rcases (hL j).1 hl with h | h
          · exact facts c w (hE0 w) j F hj h hF
          · subst h; rw [hFi] at hF; cases hF
        pures := fun j oj hj hl hF hoj w3 hE3 => by
          rcases (hL j).1 hl with h | h
          · exact pures c w (hE0 w) j oj hj h hF hoj w3 hE3
          · subst h
            have : oj = o' := Option.some.inj (hoj.symm.trans ho)
            subst this
            rw [upd_same]
            exact (key w3 hE3).of_agree (ok.sel j oj hoj) (still c j oj hj hl hoj)
        apart := fun x y hx hy hlx hly hne hFx hFy hD => by
          have hxi : x ≠ i := by rintro rfl; rw [hFi] at hFx; cases hFx
          have hyi : y ≠ i := by rintro rfl; rw [hFi] at hFy; cases hFy
          rw [upd_other _ _ hxi, upd_other _ _ hyi]
          exact un.apart x y hx hy (((hL x).1 hlx).resolve_right hxi) (((hL y).1 hly).resolve_right hyi) hne hFx hFy hD }

/-- one operation that may come up: what it comes to, and that all stands behind it -/
theorem under_step (ok : PhaseOk ops k) (hE0 : ∀ w, E w w) (hEt : ∀ a b c, E a b → E b c → E a c) (hst : ∀ i F, Fu i = some F → ∀ v w w', E w w' → F v w → F v w') (hsym : ∀ i j, D i j = true → D j i = true)
    (hph : Phase P ops Q E Fu D (ahead ops) k W0 k 0 [] a0) {L L' : Nat → Prop} {vals : Nat → Value} {a : Act} {w : World} (un : Under P ops k E Fu D W0 a0 L vals a w)
    {i : Nat} {o : Oper} (hi : i < k) (ho : ops[i]? = some o) (hnl : ¬ L i) (hr : ∀ e ∈ o.after, Region.binds .any e = true → L e.on) (hL : ∀ j, L' j ↔ L j ∨ j = i)
    {K : Act → World → Prop} (hK : ∀ vals' a' w', Under P ops k E Fu D W0 a0 L' vals' a' w' → K a' w') : wpOp P ops Q i K a w := by
  cases hFi : Fu i with
  | none =>
    obtain ⟨c, key, vals'', un'⟩ := under_pure ok hE0 hEt hst hsym hph un hi ho hnl hr hL hFi
    have next : K (a.put o.dst c) w := hK vals'' _ w un'
    unfold wpOp
    simp only [ho]
    rcases key w (hE0 w) with ⟨hw, hv | ⟨hv, rfl⟩⟩ | ⟨hw, rfl⟩
    · rw [if_pos hw]; left; unfold Oper.wp; rw [hv]; exact next
    · rw [if_pos hw]; left; unfold Oper.wp; rw [hv]; exact next
    · rw [if_neg (by rw [hw]; simp)]; exact next
  | some F =>
    obtain ⟨vals', w', G, ai, hag, hE, hfl, hG, hfa, _, hp⟩ := traverse ok hE0 hEt hst hsym hph un i (by omega)
    have hpre := ready_ahead ok un.closed hi ho hr
    have hki : k - i = (k - (i + 1)) + 1 := by omega
    rw [hki] at hp
    unfold Phase at hp
    obtain ⟨o', ho', hp⟩ := hp
    have : o' = o := Option.some.inj (ho'.symm.trans ho)
    subst this
    have hagr : Agree ops o' ai a := hfl.agree ok un.fills hi ho fun j hj ha => ⟨ahead_lt ok i hi j hj ha, hpre j hj ha, hag j (hpre j hj ha)⟩
    have hGw : ∀ w2, E w w2 → ∀ p ∈ G, ahead ops i p.1 = true → p.2.2 w2 := fun w2 hE2 p hpG ha => by
      obtain ⟨j, F, rfl, hF, hj⟩ := hG p hpG
      have hlj := hpre j (by omega) ha
      show F (vals' j) w2
      rw [hag j hlj]
      exact hst j F hF _ _ _ hE2 (un.facts j F (by omega) hlj hF)
    have hsub : ∀ j, L j → L' j := fun j h => (hL j).2 (Or.inl h)
    have hclosed : ∀ (j : Nat) (oj : Oper), j < k → L' j → ops[j]? = some oj → ∀ e ∈ oj.after, Region.binds .any e = true → L' e.on := by
      intro j oj hj hl hoj e he hb
      rcases (hL j).1 hl with h | h
      · exact hsub _ (un.closed j oj hj h hoj e he hb)
      · subst h
        have : oj = o' := Option.some.inj (hoj.symm.trans ho)
        subst this
        exact hsub _ (hr e he hb)
    -- the frame behind the operation
    have behind : ∀ v, Fills ops k a0 L' (upd vals i v) (a.put o'.dst v) := fun v =>
      un.fills.put ok hi ho (fun j _ => hL j) (upd_same _ _ _) (fun j _ hj => upd_other _ _ (ne_in hnl hj))
    have still : ∀ v j oj, j < k → L' j → ops[j]? = some oj → Agree ops oj a (a.put o'.dst v) := fun v j oj hj hl hoj => by
      refine un.fills.agree ok (behind v) hj hoj fun l hl' ha => ?_
      have hlj : L l := by
        rcases (hL j).1 hl with h | h
        · exact closed_ahead ok un.closed j hj h l hl' ha
        · subst h; exact hpre l hl' ha
      exact ⟨hlj, hsub l hlj, (upd_other _ _ (ne_in hnl hlj)).symm⟩
    have pures : ∀ v w2, E w w2 → ∀ (j : Nat) (oj : Oper), j < k → L j → Fu j = none → ops[j]? = some oj → ∀ w3, E w2 w3 → PureAt P ops oj (a.put o'.dst v) w3 (upd vals i v j) := fun v w2 hE2 j oj hj hl hF hoj w3 hE3 => by
      rw [upd_other _ _ (ne_in hnl hl)]
      exact (un.pures j oj hj hl hF hoj w3 (hEt _ _ _ hE2 hE3)).of_agree (ok.sel j oj hoj) (still v j oj hj (hsub j hl) hoj)
    have facts : ∀ v w2, E w w2 → ∀ (j : Nat) F, j < k → L j → Fu j = some F → F (upd vals i v j) w2 := fun v w2 hE2 j F hj hl hF => by
      rw [upd_other _ _ (ne_in hnl hl)]
      exact hst j F hF _ _ _ hE2 (un.facts j F hj hl hF)
    rw [hFi] at hp
    obtain ⟨hrun, _⟩ := hp
    unfold wpOp
    simp only [ho]
    obtain ⟨hw, hop⟩ := (hrun w un.ext (hGw w (hE0 w))).of_agree (ok.sel i o' ho) hagr
    rw [if_pos hw]
    left
    unfold Oper.wp
    refine hop.upon fun v w2 ⟨hE2, hFv, hDv⟩ => hK (upd vals i v) _ w2 ?_
    have hnew : ∀ y, y < k → y ≠ i → L' y → (Fu y).isSome = true → D i y = true → v ≠ vals y := fun y hy hyi hly hFy hD => by
      obtain ⟨Fy, hFy⟩ := Option.isSome_iff_exists.1 hFy
      exact hDv y hD Fy hFy _ (un.facts y Fy hy (((hL y).1 hly).resolve_right hyi) hFy)
    exact
      { ext := hEt _ _ _ un.ext hE2, fills := behind v, closed := hclosed
        facts := fun j F' hj hl hF => by
          rcases (hL j).1 hl with h | h
          · exact facts v w2 hE2 j F' hj h hF
          · subst h
            have : F' = F := Option.some.inj (hF.symm.trans hFi)
            subst this
            rw [upd_same]; exact hFv
        pures := fun j oj hj hl hF hoj w3 hE3 => by
          rcases (hL j).1 hl with h | h
          · exact pures v w2 hE2 j oj hj h hF hoj w3 hE3
          · subst h; rw [hFi] at hF; cases hF
        apart := fun x y hx hy hlx hly hne hFx hFy hD => by
          by_cases hxi : x = i
          · subst hxi
            rw [upd_same, upd_other _ _ (Ne.symm hne)]
            exact hnew y hy (Ne.symm hne) hly hFy hD
          · by_cases hyi : y = i
            · subst hyi
              rw [upd_same, upd_other _ _ hne]
              exact Ne.symm (hnew x hx hne hlx hFx (hsym _ _ hD))
            · rw [upd_other _ _ hxi, upd_other _ _ hyi]
              exact un.apart x y hx hy (((hL x).1 hlx).resolve_right hxi) (((hL y).1 hly).resolve_right hyi) hne hFx hFy hD }

theorem countP_set {p p' : Nat → Bool} {i : Nat} (hp : p i = true) (hp' : p' i = false) (hne : ∀ j, j ≠ i → p' j = p j) : ∀ n, i < n → (List.range n).countP p = (List.range n).countP p' + 1 := by
  have base : ∀ n, n ≤ i → (List.range n).countP p = (List.range n).countP p' := by
    intro n hn
    apply List.countP_congr
    intro j hj
    rw [hne j (by have := List.mem_range.1 hj; omega)]
  intro n
  induction n with
  | zero => intro h; omega
  | succ n ih =>
    intro h
    rw [List.range_succ, List.countP_append, List.countP_append]
    by_cases hin : i = n
    · subst hin
      rw [base i (Nat.le_refl _)]
      simp [hp, hp']
    · rw [ih (by omega)]
      simp only [List.countP_cons, List.countP_nil, hne n (Ne.symm hin)]
      omega

theorem phase_any (hQ : ∀ c a d v w, Q (.panic c) (a.put d v) w → Q (.panic c) a w) (ok : PhaseOk ops k) (hE0 : ∀ w, E w w) (hEt : ∀ a b c, E a b → E b c → E a c) (hst : ∀ i F, Fu i = some F → ∀ v w w', E w w' → F v w → F v w') (hsym : ∀ i j, D i j = true → D j i = true)
    (hflow : ∀ i o, i < k → ops[i]? = some o → isFlow o = true → Fu i = none) (hph : Phase P ops Q E Fu D (ahead ops) k W0 k 0 [] a0) : ∀ (m : Nat) (listed : Array Bool) (vals : Nat → Value) (a : Act) (w : World),
      listed.size = ops.size → (∀ t, k ≤ t → t < ops.size → listed.getD t true = false) → (List.range k).countP (fun i => !listed.getD i false) = m →
      Under P ops k E Fu D W0 a0 (fun i => listed.getD i false = true) vals a w → wpAny P .any ops Q (m + (ops.size - k)) listed a w := by
  intro m
  induction m with
  | zero =>
    intro listed vals a w hsz htail hcnt un
    have hall : ∀ i, i < k → listed.getD i false = true := fun i hi => by
      have := List.countP_eq_zero.1 hcnt i (List.mem_range.2 hi)
      simpa using this
    obtain ⟨vals', w', G, am, hag, hE, hfl, hG, hfa, _, hp⟩ := traverse ok hE0 hEt hst hsym hph un k (Nat.le_refl _)
    rw [Nat.sub_self] at hp
    have hfl2 : Fills ops k a0 (fun i => listed.getD i false = true) vals am :=
      ⟨hfl.size, hfl.defers, fun i o d hi hl ho hd hs => by rw [hfl.done i o d hi hi ho hd hs, hag i hl], fun t ht => hfl.rest t fun i o hi _ ho => ht i o hi (hall i hi) ho⟩
    have e : a = am := un.fills.unique hfl2
    subst e
    have hwl : wpList P ops Q (ops.toList.drop k) a w := hp w un.ext fun p hpG => by
      obtain ⟨j, F, rfl, hF, hj⟩ := hG p hpG
      show F (vals' j) w
      rw [hag j (hall j hj)]
      exact un.facts j F hj (hall j hj) hF
    have el : listed = (Array.replicate k true) ++ (Array.replicate (ops.size - k) false) := by
      have hle := ok.le
      apply Array.ext
      · simp [hsz]; omega
      · intro i h1 h2
        rcases Nat.lt_or_ge i k with hi | hi
        · have := hall i hi
          simp only [Array.getD_eq_getD_getElem?, Array.getElem?_eq_getElem h1, Option.getD_some] at this
          rw [Array.getElem_append_left (by simpa using hi)]
          simpa using this
        · have := htail i hi (by omega)
          simp only [Array.getD_eq_getD_getElem?, Array.getElem?_eq_getElem h1, Option.getD_some] at this
          rw [Array.getElem_append_right (by simpa using hi)]
          simpa using this
    have hlen : (ops.toList.drop k).length = ops.size - k := by simp
    rw [Nat.zero_add, ← hlen]
    refine wpAny_of_seq _ k listed a w (fun j => by simp) ?_ hwl
    rw [hlen, el]
    exact ok.seq
  | succ m ih =>
    intro listed vals a w hsz htail hcnt un
    have hpos : ∃ i, i < k ∧ listed.getD i false = false := by
      have : 0 < (List.range k).countP (fun i => !listed.getD i false) := by omega
      obtain ⟨i, hi, h⟩ := List.countP_pos_iff.1 this
      exact ⟨i, List.mem_range.1 hi, by simpa using h⟩
    have hnot : ∀ i, listed.getD i true = false → listed.getD i false = false := fun i h => getD_both h
    have hleast : ∃ i, i < k ∧ listed.getD i false = false ∧ i ∈ Region.ready .any ops listed := by
      -- the least operation that has not come up
      have hex : ∃ i, (i < k ∧ listed.getD i false = false) ∧ ∀ j, j < i → ¬ (j < k ∧ listed.getD j false = false) := by
        obtain ⟨i, hi⟩ := hpos
        induction i using Nat.strongRecOn with
        | _ i ihi =>
          by_cases h : ∃ j, j < i ∧ (j < k ∧ listed.getD j false = false)
          · obtain ⟨j, hj, hj2⟩ := h
            exact ihi j hj hj2
          · exact ⟨i, hi, fun j hj h' => h ⟨j, hj, h'⟩⟩
      obtain ⟨i, ⟨hi, hif⟩, hmin⟩ := hex
      have hisz : i < ops.size := Nat.lt_of_lt_of_le hi ok.le
      have hin : i ∈ Region.ready .any ops listed := by
        rw [mem_ready]
        refine ⟨getD_in (by omega) hif, ops[i], Array.getElem?_eq_getElem hisz, fun e he hb => ?_⟩
        have hlo := ok.low i _ hi (Array.getElem?_eq_getElem hisz) e he hb
        have := hmin e.on hlo
        cases hl : listed.getD e.on false with
        | true => rfl
        | false => exact absurd ⟨by omega, hl⟩ this
      exact ⟨i, hi, hif, hin⟩
    have hsome : Region.ready .any ops listed ≠ [] := by
      obtain ⟨i, _, _, hin⟩ := hleast
      intro h
      rw [h] at hin
      cases hin
    have efuel : m + 1 + (ops.size - k) = (m + (ops.size - k)) + 1 := by omega
    rw [efuel]
    have hLset : ∀ i, i < k → ∀ j, (listed.setIfInBounds i true).getD j false = true ↔ listed.getD j false = true ∨ j = i := fun i hik j => by
      by_cases hji : j = i
      · subst hji
        have : j < listed.size := by have := ok.le; omega
        simp [this]
      · rw [getD_set_ne false (Ne.symm hji)]
        simp [hji]
    have next : ∀ i, i < k → listed.getD i false = false → ∀ vals' a' w', Under P ops k E Fu D W0 a0 (fun j => (listed.setIfInBounds i true).getD j false = true) vals' a' w' →
        wpAny P .any ops Q (m + (ops.size - k)) (listed.setIfInBounds i true) a' w' := fun i hik hif vals' a' w' un' => by
      refine ih _ vals' a' w' (by simp [hsz]) (fun t ht hts => ?_) ?_ un'
      · rw [getD_set_ne true (by omega)]
        exact htail t ht hts
      · have h1 := countP_set (p := fun j => !listed.getD j false) (p' := fun j => !(listed.setIfInBounds i true).getD j false) (i := i) (by simp [hif])
          (by have : i < listed.size := by have := ok.le; omega
              simp [this]) (fun j hj => by simp only [getD_set_ne false (Ne.symm hj)]) k hik
        omega
    by_cases hdry : ∃ j, j < k ∧ listed.getD j false = false ∧ ∃ oj, ops[j]? = some oj ∧ isFlow oj = false
    · have hlow : ∀ i ∈ Region.ready .any ops listed, i < k := by
        intro i hi
        obtain ⟨hun, o, ho, hr⟩ := mem_ready.1 hi
        rcases Nat.lt_or_ge i k with h | h
        · exact h
        · exfalso
          obtain ⟨j, hj, hjf, oj, hoj, hfl⟩ := hdry
          have hisz : i < ops.size := (Array.getElem?_eq_some_iff.1 ho).1
          have ha := ok.tail i j oj h hisz hj hoj hfl
          obtain ⟨e, he, hb, hlo, hor⟩ := ok.step i o j ho ha (Nat.lt_of_lt_of_le hj ok.le)
          have hle := hr e he hb
          have hek : e.on < k := by
            rcases Nat.lt_or_ge e.on k with h' | h'
            · exact h'
            · have := htail e.on h' (by omega)
              rw [getD_both this] at hle
              cases hle
          rcases hor with h' | h'
          · rw [h', hjf] at hle; cases hle
          · have := closed_ahead ok un.closed e.on hek hle j hj h'
            rw [hjf] at this; cases this
      refine ⟨fun h => absurd h hsome, fun i hi => ?_⟩
      obtain ⟨hun, o, ho, hr⟩ := mem_ready.1 hi
      have hik := hlow i hi
      have hif := hnot i hun
      exact under_step ok hE0 hEt hst hsym hph un hik ho (L' := fun j => (listed.setIfInBounds i true).getD j false = true) (by simp [hif]) hr (hLset i hik) (next i hik hif)
    · -- what is left of the first k only hands values on: the least one goes first
      obtain ⟨i, hik, hif, hin⟩ := hleast
      obtain ⟨hun, o, ho, hr⟩ := mem_ready.1 hin
      have hfl : isFlow o = true := by
        cases hf : isFlow o with
        | true => rfl
        | false => exact absurd ⟨i, hik, hif, o, ho, hf⟩ hdry
      cases hFi : Fu i with
      | none =>
        obtain ⟨c, key, vals'', un'⟩ := under_pure ok hE0 hEt hst hsym hph un hik ho (L' := fun j => (listed.setIfInBounds i true).getD j false = true) (by simp [hif]) hr (hLset i hik) hFi
        exact wpAny_first ho (fun j o cs b hj => ok.sel j o hj cs b) (fun c' a' w' h => hQ c' a' _ _ w' h) _ listed a w (fun j oj hj hne hjun hno => ok.flow i j o oj hik ho hfl hne (by
          cases hah : ahead ops i j with
          | false => rfl
          | true =>
            have hjs : j < ops.size := (Array.getElem?_eq_some_iff.1 hj).1
            obtain ⟨e, he, hb, hlo, hor⟩ := ok.step i o j ho hah hjs
            have hjk : j < k := by
              rcases hor with h' | h'
              · omega
              · have hlow2 : ∀ x, x < k → ahead ops x j = true → j < k := by
                  intro x
                  induction x using Nat.strongRecOn with
                  | _ x ihx =>
                    intro hxk hax
                    obtain ⟨e', he', hb', hlo', hor'⟩ := ok.step x _ j (Array.getElem?_eq_getElem (Nat.lt_of_lt_of_le hxk ok.le)) hax hjs
                    rcases hor' with h'' | h''
                    · omega
                    · exact ihx e'.on hlo' (by omega) h''
                exact hlow2 e.on (by omega) h'
            have := ready_ahead ok un.closed hik ho hr j hjk hah
            rw [getD_both hjun] at this
            cases this) hj hno) hin (flow_indep hfl (key w (hE0 w))) (next i hik hif _ _ _ un')
      | some F =>
        exact absurd hFi (by rw [hflow i o hik ho hfl]; simp)

/-- THE RULE -/
theorem wp_region_phaseD {id : Nat} {a : Act} {w : World} (hm : P.follows .mixedOrders = true) (k : Nat) (E : World → World → Prop) (Fu : Facts) (D : Nat → Nat → Bool) (hok : phaseOk ops k = true) (hQ : ∀ c a d v w, Q (.panic c) (a.put d v) w → Q (.panic c) a w)
    (hflow : ∀ i o, i < k → ops[i]? = some o → isFlow o = true → Fu i = none) (hE0 : ∀ w, E w w) (hEt : ∀ a b c, E a b → E b c → E a c) (hst : ∀ i F, Fu i = some F → ∀ v w w', E w w' → F v w → F v w') (hsym : ∀ i j, D i j = true → D j i = true)
    (hph : Phase P ops Q E Fu D (ahead ops) k w.drew k 0 [] a) : (Code.region id ops true).wp P Q a w := by
  have ok := PhaseOk.of hok
  refine wp_region_any hm ?_
  have hz : ∀ i, (Array.replicate ops.size false).getD i false = false := getD_replicate_false ops.size
  have h := phase_any (W0 := w.drew) hQ ok hE0 hEt hst hsym hflow hph k (Array.replicate ops.size false) (fun _ => undef) a w.drew (by simp) (fun t _ ht => by simp [ht])
    (by
      have : (List.range k).countP (fun i => !(Array.replicate ops.size false).getD i false) = (List.range k).length := List.countP_eq_length.2 fun i _ => by simp only [hz i]; rfl
      rw [this, List.length_range])
    { ext := hE0 _, fills := Fills.start a _ (fun i _ => by simp [hz i]), closed := fun i _ _ hl => by rw [hz i] at hl; cases hl
      facts := fun i _ _ hl => by rw [hz i] at hl; cases hl
      pures := fun i _ _ hl => by rw [hz i] at hl; cases hl
      apart := fun i _ _ _ hl => by rw [hz i] at hl; cases hl }
  have e : k + (ops.size - k) = ops.size := by have := ok.le; omega
  rw [e] at h
  exact h
theorem wp_region_phase {id : Nat} {a : Act} {w : World} (hm : P.follows .mixedOrders = true) (k : Nat) (E : World → World → Prop) (Fu : Facts) (hok : phaseOk ops k = true) (hQ : ∀ c a d v w, Q (.panic c) (a.put d v) w → Q (.panic c) a w)
    (hflow : ∀ i o, i < k → ops[i]? = some o → isFlow o = true → Fu i = none) (hE0 : ∀ w, E w w) (hEt : ∀ a b c, E a b → E b c → E a c) (hst : ∀ i F, Fu i = some F → ∀ v w w', E w w' → F v w → F v w')
    (hph : Phase P ops Q E Fu noD (ahead ops) k w.drew k 0 [] a) : (Code.region id ops true).wp P Q a w :=
  wp_region_phaseD hm k E Fu noD hok hQ hflow hE0 hEt hst (fun _ _ h => by cases h) hph

def factsOf (l : List (Nat × (Value → World → Prop))) : Facts := fun i => List.lookup i l
def factsFit (ops : Array Oper) (ns : List Nat) : Bool := ns.all fun i => ((ops[i]?).map fun o => !isFlow o).getD true
theorem factsFit.spec {l : List (Nat × (Value → World → Prop))} (h : factsFit ops (l.map (·.1)) = true) : ∀ i o, ops[i]? = some o → isFlow o = true → factsOf l i = none := by
  intro i o ho hf
  unfold factsOf
  rw [List.lookup_eq_none_iff]
  intro p hp
  have := List.all_eq_true.1 h p.1 (List.mem_map.2 ⟨p, hp, rfl⟩)
  by_cases e : i = p.1
  · subst e
    simp [ho, hf] at this
  · simpa using e
/-- all these facts are stable -/
def AllStable (E : World → World → Prop) : List (Nat × (Value → World → Prop)) → Prop
  | [] => True
  | p :: r => (∀ v w w', E w w' → p.2 v w → p.2 v w') ∧ AllStable E r
theorem AllStable.get {E : World → World → Prop} : ∀ {l : List (Nat × (Value → World → Prop))}, AllStable E l → ∀ i F, factsOf l i = some F → ∀ v w w', E w w' → F v w → F v w'
  | [], _, i, F, h => by cases h
  | (j, G) :: r, ⟨h1, h2⟩, i, F, h => by
    unfold factsOf at h
    rw [List.lookup_cons] at h
    split at h
    · injection h with h
      subst h
      exact h1
    · exact h2.get i F h
theorem wp_region_facts {id : Nat} {a : Act} {w : World} (hm : P.follows .mixedOrders = true) (k : Nat) (E : World → World → Prop) (Fl : List (Nat × (Value → World → Prop))) (hok : phaseOk ops k = true) (hQ : ∀ c a d v w, Q (.panic c) (a.put d v) w → Q (.panic c) a w) (hfit : factsFit ops (Fl.map (·.1)) = true)
    (hE0 : ∀ w, E w w) (hEt : ∀ a b c, E a b → E b c → E a c) (hst : AllStable E Fl)
    (hph : Phase P ops Q E (factsOf Fl) noD (ahead ops) k w.drew k 0 [] a) : (Code.region id ops true).wp P Q a w :=
  wp_region_phase hm k E _ hok hQ (fun i o _ => factsFit.spec hfit i o) hE0 hEt hst.get hph
/-- the numbers in ds: their values differ from each other -/
def distinct (ds : List Nat) : Nat → Nat → Bool := fun i j => ds.contains i && ds.contains j && i != j
theorem wp_region_factsD {id : Nat} {a : Act} {w : World} (hm : P.follows .mixedOrders = true) (k : Nat) (E : World → World → Prop) (Fl : List (Nat × (Value → World → Prop))) (ds : List Nat) (hok : phaseOk ops k = true) (hQ : ∀ c a d v w, Q (.panic c) (a.put d v) w → Q (.panic c) a w) (hfit : factsFit ops (Fl.map (·.1)) = true)
    (hE0 : ∀ w, E w w) (hEt : ∀ a b c, E a b → E b c → E a c) (hst : AllStable E Fl)
    (hph : Phase P ops Q E (factsOf Fl) (distinct ds) (ahead ops) k w.drew k 0 [] a) : (Code.region id ops true).wp P Q a w :=
  wp_region_phaseD hm k E _ _ hok hQ (fun i o _ => factsFit.spec hfit i o) hE0 hEt hst.get (fun i j h => by
    unfold distinct at h ⊢
    simp only [Bool.and_eq_true, bne_iff_ne] at h ⊢
    exact ⟨⟨h.1.2, h.1.1⟩, Ne.symm h.2⟩) hph
end
theorem pureAt_plain {o : Oper} {a : Act} {w : World} {c : Value} (hg : o.guard = none) (h : (execOp a.eval o).run P w = .ok (.value c) w) : PureAt P ops o a w c :=
  Or.inl ⟨by simp [Region.wanted, hg], Or.inl h⟩
theorem pureAt_skip {o : Oper} {a : Act} {w : World} (hg : o.guard = none) (h : (execOp a.eval o).run P w = .ok .skip w) : PureAt P ops o a w undef :=
  Or.inl ⟨by simp [Region.wanted, hg], Or.inr ⟨h, rfl⟩⟩
theorem pureAt_on {o : Oper} {a : Act} {w : World} {c : Value} (hg : Region.wanted o (yielded ops a.tmps) = true) (h : (execOp a.eval o).run P w = .ok (.value c) w) : PureAt P ops o a w c :=
  Or.inl ⟨hg, Or.inl h⟩
theorem pureAt_off {o : Oper} {a : Act} {w : World} (hg : Region.wanted o (yielded ops a.tmps) = false) : PureAt P ops o a w undef := Or.inr ⟨hg, rfl⟩
theorem opAt_plain {o : Oper} {a : Act} {w : World} {R : Value → World → Prop} (hg : o.guard = none) (h : opVal P R ((execOp a.eval o).run P w)) : OpAt P ops o a w R :=
  ⟨by simp [Region.wanted, hg], h⟩
theorem opAt_on {o : Oper} {a : Act} {w : World} {R : Value → World → Prop} (hg : Region.wanted o (yielded ops a.tmps) = true) (h : opVal P R ((execOp a.eval o).run P w)) : OpAt P ops o a w R := ⟨hg, h⟩

/-- the same, over the list of the operations that are left: ht is the whole -/
def PhaseL (P : Program) (ops : Array Oper) (Q : Exit → Act → World → Prop) (E : World → World → Prop) (Fu : Facts) (D : Nat → Nat → Bool) (W0 : World) (T : List Oper) : List Oper → Nat → List (Nat × Value × (World → Prop)) → Act → Prop
  | [], _, G, a => ∀ w, E W0 w → (∀ p ∈ G, p.2.2 w) → wpList P ops Q T a w
  | o :: rest, i, G, a =>
    match Fu i with
    | none => ∃ c, (∀ w, E W0 w → (∀ p ∈ G, ahead ops i p.1 = true → p.2.2 w) → PureAt P ops o a w c) ∧ PhaseL P ops Q E Fu D W0 T rest (i + 1) G (a.put o.dst c)
    | some F => (∀ w, E W0 w → (∀ p ∈ G, ahead ops i p.1 = true → p.2.2 w) → OpAt P ops o a w fun v w' => E w w' ∧ F v w' ∧ ∀ j, D i j = true → ∀ Fj, Fu j = some Fj → ∀ u, Fj u w → v ≠ u) ∧
        ∀ v, (∃ w, E W0 w ∧ F v w) → (∀ p ∈ G, D i p.1 = true → v ≠ p.2.1) → PhaseL P ops Q E Fu D W0 T rest (i + 1) ((i, v, F v) :: G) (a.put o.dst v)
theorem phase_of_list {Q : Exit → Act → World → Prop} {E : World → World → Prop} {Fu : Facts} {D : Nat → Nat → Bool} {k : Nat} {W0 : World} : ∀ (n i : Nat) (G : List (Nat × Value × (World → Prop))) (a : Act), i + n = k → k ≤ ops.size →
    PhaseL P ops Q E Fu D W0 (ops.toList.drop k) ((ops.toList.drop i).take n) i G a → Phase P ops Q E Fu D (ahead ops) k W0 n i G a
  | 0, i, G, a, _, _, h => by
    rw [List.take_zero] at h
    exact h
  | n + 1, i, G, a, hi, hk, h => by
    have hlt : i < ops.size := by omega
    have e : (ops.toList.drop i).take (n + 1) = ops[i] :: (ops.toList.drop (i + 1)).take n := by
      rw [List.drop_eq_getElem_cons (by simpa using hlt), List.take_succ_cons]
      simp
    rw [e] at h
    unfold PhaseL at h
    unfold Phase
    refine ⟨ops[i], Array.getElem?_eq_getElem hlt, ?_⟩
    cases hF : Fu i with
    | none =>
      rw [hF] at h
      obtain ⟨c, h1, h2⟩ := h
      exact ⟨c, h1, phase_of_list n (i + 1) G _ (by omega) hk h2⟩
    | some F =>
      rw [hF] at h
      obtain ⟨h1, h2⟩ := h
      exact ⟨h1, fun v hv hd => phase_of_list n (i + 1) _ _ (by omega) hk (h2 v hv hd)⟩

section
variable {Q : Exit → Act → World → Prop} {E : World → World → Prop} {Fu : Facts} {D : Nat → Nat → Bool} {W0 : World} {T : List Oper}
theorem ph_end {i : Nat} {G : List (Nat × Value × (World → Prop))} {a : Act} (h : ∀ w, E W0 w → (∀ p ∈ G, p.2.2 w) → wpList P ops Q T a w) : PhaseL P ops Q E Fu D W0 T [] i G a := h
theorem ph_pure {i i' : Nat} {G : List (Nat × Value × (World → Prop))} {a a' : Act} {o : Oper} {rest : List Oper} (hF : Fu i = none) (hi : i + 1 = i') (c : Value)
    (h : ∀ w, E W0 w → (∀ p ∈ G, ahead ops i p.1 = true → p.2.2 w) → PureAt P ops o a w c) (ha : a.put o.dst c = a') (hr : PhaseL P ops Q E Fu D W0 T rest i' G a') :
    PhaseL P ops Q E Fu D W0 T (o :: rest) i G a := by
  subst hi ha
  unfold PhaseL
  rw [hF]
  exact ⟨c, h, hr⟩
theorem ph_opD {i i' : Nat} {G : List (Nat × Value × (World → Prop))} {a : Act} {o : Oper} {rest : List Oper} {F : Value → World → Prop} (hF : Fu i = some F) (hi : i + 1 = i')
    (h : ∀ w, E W0 w → (∀ p ∈ G, ahead ops i p.1 = true → p.2.2 w) → OpAt P ops o a w fun v w' => E w w' ∧ F v w' ∧ ∀ j, D i j = true → ∀ Fj, Fu j = some Fj → ∀ u, Fj u w → v ≠ u)
    (hr : ∀ v, (∃ w, E W0 w ∧ F v w) → (∀ p ∈ G, D i p.1 = true → v ≠ p.2.1) → PhaseL P ops Q E Fu D W0 T rest i' ((i, v, F v) :: G) (a.put o.dst v)) :
    PhaseL P ops Q E Fu D W0 T (o :: rest) i G a := by
  subst hi
  unfold PhaseL
  rw [hF]
  exact ⟨h, hr⟩
theorem ph_op {i i' : Nat} {G : List (Nat × Value × (World → Prop))} {a : Act} {o : Oper} {rest : List Oper} {F : Value → World → Prop} (hF : Fu i = some F) (hi : i + 1 = i')
    (h : ∀ w, E W0 w → (∀ p ∈ G, ahead ops i p.1 = true → p.2.2 w) → OpAt P ops o a w fun v w' => E w w' ∧ F v w')
    (hr : ∀ v, (∃ w, E W0 w ∧ F v w) → PhaseL P ops Q E Fu noD W0 T rest i' ((i, v, F v) :: G) (a.put o.dst v)) :
    PhaseL P ops Q E Fu noD W0 T (o :: rest) i G a :=
  ph_opD hF hi (fun w hw hG => (h w hw hG).mono fun v w' hh => ⟨hh.1, hh.2, fun j hj => by cases hj⟩) (fun v hv _ => hr v hv)

theorem wp_region_list2 {l : List Oper} {id : Nat} {a : Act} {w : World} (hm : P.follows .mixedOrders = true) (k : Nat) (E : World → World → Prop) (Fl : List (Nat × (Value → World → Prop))) (hok : phaseOk l.toArray k = true) (hQ : ∀ c a d v w, Q (.panic c) (a.put d v) w → Q (.panic c) a w) (hfit : factsFit l.toArray (Fl.map (·.1)) = true)
    (hE0 : ∀ w, E w w) (hEt : ∀ a b c, E a b → E b c → E a c) (hst : AllStable E Fl)
    (hph : PhaseL P l.toArray Q E (factsOf Fl) noD w.drew (l.drop k) (l.take k) 0 [] a) : (Code.region id l.toArray true).wp P Q a w :=
  wp_region_facts hm k E Fl hok hQ hfit hE0 hEt hst (phase_of_list k 0 [] a (by omega) (PhaseOk.of hok).le (by simpa using hph))
theorem wp_region_list2D {l : List Oper} {id : Nat} {a : Act} {w : World} (hm : P.follows .mixedOrders = true) (k : Nat) (E : World → World → Prop) (Fl : List (Nat × (Value → World → Prop))) (ds : List Nat) (hok : phaseOk l.toArray k = true) (hQ : ∀ c a d v w, Q (.panic c) (a.put d v) w → Q (.panic c) a w) (hfit : factsFit l.toArray (Fl.map (·.1)) = true)
    (hE0 : ∀ w, E w w) (hEt : ∀ a b c, E a b → E b c → E a c) (hst : AllStable E Fl)
    (hph : PhaseL P l.toArray Q E (factsOf Fl) (distinct ds) w.drew (l.drop k) (l.take k) 0 [] a) : (Code.region id l.toArray true).wp P Q a w :=
  wp_region_factsD hm k E Fl ds hok hQ hfit hE0 hEt hst (phase_of_list k 0 [] a (by omega) (PhaseOk.of hok).le (by simpa using hph))
end
end
end Go.Proofs.YtmmihcophkipoaaDoor
