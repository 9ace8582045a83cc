/-
  Maps from texts to blocks, and from blocks to numbers, in memory. Said for maps that only ever get new keys.
-/
import Derived.Test.YtmmihcophkipoaaDoorD22
import Derived.Test.YtmmihcophkipoaaDoorSh
import Derived.LaidEqlPtr
import Derived.WideKeyElems
namespace Go.Proofs.YtmmihcophkipoaaDoor
open Go.ChangeShapes Go.WideShapes Go.ChangeAt Go.RowKit
set_option linter.unusedVariables false
set_option linter.unusedSimpArgs false
theorem Tb.kp {S : Nat → Prop} {w w' : World} (h : Tb w) (k : Kp S w w') (h0 : ¬ S 0) : Tb w' := h.of_block (k.block 0 h.lt h0)
theorem Tb.ext {w w' : World} (h : Tb w) (k : Ext w w') : Tb w' := h.of_block (k.block 0 h.lt)
/-- block b is a map with the entries L, in the order in which they came -/
def Mp (w : World) (b : Nat) (L : List (Value × Value)) : Prop := ∃ es clock, w.heap[b]? = some (.map es clock) ∧ es.toList.map (fun e => (e.key, e.val)) = L
theorem Mp.lt {w : World} {b : Nat} {L : List (Value × Value)} (h : Mp w b L) : b < w.heap.size := by
  obtain ⟨es, clock, h1, _⟩ := h
  exact (Array.getElem?_eq_some_iff.1 h1).1
theorem Mp.of_block {w w' : World} {b : Nat} {L : List (Value × Value)} (h : Mp w b L) (hb : w'.heap[b]? = w.heap[b]?) : Mp w' b L := by
  obtain ⟨es, clock, h1, h2⟩ := h
  exact ⟨es, clock, hb.trans h1, h2⟩
theorem Mp.kp {S : Nat → Prop} {w w' : World} {b : Nat} {L : List (Value × Value)} (h : Mp w b L) (k : Kp S w w') (hs : ¬ S b) : Mp w' b L := h.of_block (k.block b h.lt hs)
theorem Mp.ext {w w' : World} {b : Nat} {L : List (Value × Value)} (h : Mp w b L) (k : Ext w w') : Mp w' b L := h.of_block (k.block b h.lt)
theorem Mp.nil (w : World) : Mp (w.alloc (.map #[] 0)) w.heap.size [] := ⟨#[], 0, heap_alloc_new w _, rfl⟩
theorem Mp.not_cells {w : World} {b : Nat} {L : List (Value × Value)} (h : Mp w b L) {cs : Array Value} {e : TypeId} {fr : Nat × Nat} (k : w.heap[b]? = some (.cells cs e fr)) : False := by
  obtain ⟨es, clock, h1, _⟩ := h
  rw [h1] at k; cases k
theorem ba_eq (a b : ByteArray) : (a == b) = decide (a = b) := by
  obtain ⟨a⟩ := a
  obtain ⟨b⟩ := b
  have h : ((⟨a⟩ : ByteArray) == ⟨b⟩) = (a == b) := rfl
  rw [h]
  by_cases e : a = b
  · subst e; simp
  · rw [decide_eq_false (fun k => e (by injection k))]
    exact beq_false_of_ne e
open Classical in
/-- where a value stands among the keys -/
noncomputable def asc (k : Value) : List (Value × Value) → Nat → Option (Nat × Value)
  | [], _ => none
  | e :: L, i => if e.1 = k then some (i, e.2) else asc k L (i + 1)
section
variable {P : Program} {w : World}
/-- what a key's type must bear for a search among these keys -/
def Findable (P : Program) (kt : TypeId) (k : Value) (w : World) (L : List (Value × Value)) : Prop := ∀ es : List MapEntry, es.map (fun e => (e.key, e.val)) = L → (Instr.findKey kt k es).run P w = .ok (asc k L 0) w
theorem Mp.lookup {t kt et : TypeId} {b : Nat} {L : List (Value × Value)} {k z : Value} (h : Mp w b L) (ht : P.underlying t = some (.map kt et)) (hz : (zeroValue et).run P w = .ok z w)
    (hc : ∀ e, (Instr.checkKey e 10000 kt k).run P w = .ok () w) (hf : Findable P kt k w L) (ok : Bool) :
    (Instr.lookup t (.map (some b)) k ok).run P w = .ok (match asc k L 0 with
      | some (_, v) => if ok = true then .tuple #[v, .bool true] else v
      | none => if ok = true then .tuple #[z, .bool false] else z) w := by
  obtain ⟨es, clock, h1, h2⟩ := h
  have hf2 := hf es.toList h2
  have hgo : (getObj b).run P w = .ok (.map es clock) w := by simp [getObj, Sem.run, h1]
  cases hr : asc k L 0 with
  | none =>
    rw [hr] at hf2
    simp only [Instr.lookup, Sem.run_bind, run_underlying ht, Result.andThen_ok, hgo, hc, hf2, hz, Sem.run_pure]
  | some r =>
    obtain ⟨i, v⟩ := r
    rw [hr] at hf2
    simp only [Instr.lookup, Sem.run_bind, run_underlying ht, Result.andThen_ok, hgo, hc, hf2, hz, Sem.run_pure]
theorem Mp.put {t kt et : TypeId} {b : Nat} {L : List (Value × Value)} {k v : Value} (h : Mp w b L) (ht : P.underlying t = some (.map kt et))
    (hc : ∀ e, (Instr.checkKey e 10000 kt k).run P w = .ok () w) (hf : Findable P kt k w L) (hn : asc k L 0 = none) :
    ∃ w', (Instr.mapUpdate t (.map (some b)) k v).run P w = .ok () w' ∧ Mp w' b (L ++ [(k, v)]) ∧ Kp (· = b) w w' := by
  have hlt := h.lt
  obtain ⟨es, clock, h1, h2⟩ := h
  have hf2 := hf es.toList h2
  rw [hn] at hf2
  have hgo : (getObj b).run P w = .ok (.map es clock) w := by simp [getObj, Sem.run, h1]
  have hso : ∀ o, (setObj b o).run P w = .ok () { w with heap := w.heap.setIfInBounds b o } := fun o => by simp [setObj, Sem.run, h1]
  refine ⟨{ w with heap := w.heap.setIfInBounds b (.map (es.push { key := k, val := v, born := clock }) (clock + 1)) }, ?_, ⟨es.push { key := k, val := v, born := clock }, clock + 1, by simp [hlt], by simp [h2]⟩, ⟨rfl, rfl, rfl, by simp, fun i hi hs => by
    simp only
    rw [Array.getElem?_setIfInBounds_ne (Ne.symm hs)]⟩⟩
  simp only [Instr.mapUpdate, Sem.run_bind, run_underlying ht, Result.andThen_ok, hgo, hc, hf2, hso]
end
theorem find_str {kt : TypeId} (hu : Tryd.prog.underlying kt = some .string) (k : W) : ∀ (L : List (W × Value)) (w : World), Findable Tryd.prog kt (.string (bs k)) w (L.map fun a => (.string (bs a.1), a.2)) := by
  intro L w es he
  have key : ∀ (L : List (W × Value)) (es : List MapEntry) (i : Nat), es.map (fun e => (e.key, e.val)) = (L.map fun a => (Value.string (bs a.1), a.2)) → Instr.findNow .string (.string (bs k)) es i = some (asc (.string (bs k)) (L.map fun a => (Value.string (bs a.1), a.2)) i) := by
    intro L
    induction L with
    | nil => intro es i h; cases es with
      | nil => rfl
      | cons e es => simp at h
    | cons a L ih =>
      intro es i h
      cases es with
      | nil => simp at h
      | cons e es =>
        simp only [List.map_cons, List.cons.injEq, Prod.mk.injEq] at h
        obtain ⟨⟨h1, h2⟩, h3⟩ := h
        simp only [Instr.findNow, h1, Instr.sameNow, List.map_cons, asc]
        by_cases e1 : k = a.1
        · subst e1
          rw [ba_eq, decide_eq_true rfl, if_pos rfl, h2]
        · have hb : ((bs k) == (bs a.1)) = false := by rw [ba_eq]; exact decide_eq_false fun h => e1 (bs_inj h)
          have hne : ¬ (Value.string (bs a.1) = .string (bs k)) := fun h => e1 (bs_inj (Value.string.inj h).symm)
          rw [hb, if_neg hne]
          exact ih es (i + 1) h3
  simp only [Instr.findKey, Sem.run_bind, run_underlying hu, Result.andThen_ok, key L es 0 he, Sem.run_pure]
theorem check_str {kt : TypeId} (hu : Tryd.prog.underlying kt = some .string) (k : W) (w : World) (e : Bool) : (Instr.checkKey e 10000 kt (.string (bs k))).run Tryd.prog w = .ok () w := by
  have h : ∀ n : Nat, (Instr.checkKey e (n + 1) kt (.string (bs k))).run Tryd.prog w = .ok () w := fun n => by simp [Instr.checkKey, run_underlying hu]
  have e2 : (10000 : Nat) = 9999 + 1 := rfl
  rw [e2]
  exact h 9999
theorem find_ptr {kt et : TypeId} {j : TypeInfo} (hu : Tryd.prog.underlying kt = some (.pointer et)) (hi : Tryd.prog.info? et = some j) (hj : j.size ≠ 0) (w : World) (t : TypeId) (p : Nat) (hp : ∃ cs, Blk w p t cs) (L : List (Nat × Value)) (hL : ∀ a ∈ L, ∃ cs, Blk w a.1 t cs) :
    Findable Tryd.prog kt (.pointer (some ⟨p, 0, none⟩)) w (L.map fun a => (.pointer (some ⟨a.1, 0, none⟩), a.2)) := by
  intro es he
  obtain ⟨cs, hp⟩ := hp
  have key : ∀ (L : List (Nat × Value)) (es : List MapEntry) (i : Nat), (∀ a ∈ L, ∃ cs, Blk w a.1 t cs) → es.map (fun e => (e.key, e.val)) = (L.map fun a => (Value.pointer (some ⟨a.1, 0, none⟩), a.2)) → (Instr.findAsking kt (.pointer (some ⟨p, 0, none⟩)) es i).run Tryd.prog w = .ok (asc (.pointer (some ⟨p, 0, none⟩)) (L.map fun a => (Value.pointer (some ⟨a.1, 0, none⟩), a.2)) i) w := by
    intro L
    induction L with
    | nil => intro es i _ h; cases es with
      | nil => rfl
      | cons e es => simp at h
    | cons a L ih =>
      intro es i hL h
      cases es with
      | nil => simp at h
      | cons e es =>
        simp only [List.map_cons, List.cons.injEq, Prod.mk.injEq] at h
        obtain ⟨⟨h1, h2⟩, h3⟩ := h
        have ih2 := ih es (i + 1) (fun b hb => hL b (List.mem_cons_of_mem _ hb)) h3
        obtain ⟨cs', ha⟩ := hL a (List.mem_cons_self ..)
        by_cases e1 : p = a.1
        · have he : (Op.equal kt (.pointer (some ⟨p, 0, none⟩)) e.key).run Tryd.prog w = .ok true w := by
            rw [h1, ← e1]
            have h : ∀ d : Nat, (Op.equalIn (d + 1) kt (.pointer (some ⟨p, 0, none⟩)) (.pointer (some ⟨p, 0, none⟩))).run Tryd.prog w = .ok true w := fun d => by
              simp [Op.equalIn, run_underlying hu, sizeOf, typeInfo, hi, run_sameAddr_same]
            exact h 9999
          simp only [Instr.findAsking, Sem.run_bind, he, Result.andThen_ok, List.map_cons, asc]
          rw [if_pos (show Value.pointer (some ⟨a.1, 0, none⟩) = .pointer (some ⟨p, 0, none⟩) by rw [e1])]
          simp [h2, Sem.run_pure]
        · have he : (Op.equal kt (.pointer (some ⟨p, 0, none⟩)) e.key).run Tryd.prog w = .ok false w := by
            rw [h1]
            have hne : (⟨p, 0, none⟩ : Addr) ≠ ⟨a.1, 0, none⟩ := fun h => e1 (by injection h)
            have h : ∀ d : Nat, (Op.equalIn (d + 1) kt (.pointer (some ⟨p, 0, none⟩)) (.pointer (some ⟨a.1, 0, none⟩))).run Tryd.prog w = .ok false w := fun d => by
              simp [Op.equalIn, run_underlying hu, sizeOf, typeInfo, hi, hj, run_sameAddr_other w hne hp ha]
            exact h 9999
          simp only [Instr.findAsking, Sem.run_bind, he, Result.andThen_ok, List.map_cons, asc]
          have hne : ¬ (Value.pointer (some ⟨a.1, 0, none⟩) = .pointer (some ⟨p, 0, none⟩)) := fun h => e1 (congrArg Addr.block (Option.some.inj (Value.pointer.inj h))).symm
          rw [if_neg hne]
          simpa using ih2
  cases es with
  | nil =>
    have : L = [] := by cases L with
      | nil => rfl
      | cons a L => simp at he
    subst this
    simp [Instr.findKey, Sem.run_bind, run_underlying hu, Instr.findNow, asc]
  | cons e es =>
    have hk : Instr.findNow (.pointer et) (.pointer (some ⟨p, 0, none⟩)) (e :: es) 0 = none := by simp [Instr.findNow, Instr.sameNow]
    simp only [Instr.findKey, Sem.run_bind, run_underlying hu, Result.andThen_ok, hk]
    exact key L (e :: es) 0 hL he
theorem check_ptr {kt et : TypeId} (hu : Tryd.prog.underlying kt = some (.pointer et)) (p : Option Addr) (w : World) (e : Bool) : (Instr.checkKey e 10000 kt (.pointer p)).run Tryd.prog w = .ok () w := by
  have h : ∀ n : Nat, (Instr.checkKey e (n + 1) kt (.pointer p)).run Tryd.prog w = .ok () w := fun n => by simp [Instr.checkKey, run_underlying hu]
  have e2 : (10000 : Nat) = 9999 + 1 := rfl
  rw [e2]
  exact h 9999
theorem asc_none {k : Value} : ∀ {L : List (Value × Value)} {i : Nat}, (∀ e ∈ L, e.1 ≠ k) → asc k L i = none
  | [], _, _ => rfl
  | e :: L, i, h => by
    unfold asc
    rw [if_neg (h e (List.mem_cons_self ..))]
    exact asc_none fun a ha => h a (List.mem_cons_of_mem _ ha)
theorem asc_at {k : Value} : ∀ {L : List (Value × Value)} {i j : Nat} (hj : j < L.length), L[j].1 = k → (∀ m (hm : m < j), L[m].1 ≠ k) → asc k L i = some (i + j, L[j].2)
  | [], _, _, hj, _, _ => by simp at hj
  | e :: L, i, 0, hj, h, _ => by
    unfold asc
    rw [if_pos (by simpa using h)]; rfl
  | e :: L, i, j + 1, hj, h, hn => by
    unfold asc
    rw [if_neg (by simpa using hn 0 (by omega)), asc_at (j := j) (by simpa using hj) (by simpa using h) (fun m hm => by simpa using hn (m + 1) (by omega))]
    simp; omega
end Go.Proofs.YtmmihcophkipoaaDoor
