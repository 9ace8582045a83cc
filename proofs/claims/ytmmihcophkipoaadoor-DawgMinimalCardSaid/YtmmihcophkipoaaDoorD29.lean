/-
  The numbering of the shapes (number): the state, and its steps.
-/
import Derived.Test.YtmmihcophkipoaaDoorD28
namespace Go.Proofs.YtmmihcophkipoaaDoor
open Go.ChangeShapes Go.WideShapes Go.ChangeAt Go.RowKit
set_option linter.unusedVariables false
set_option linter.unusedSimpArgs false
def pp (vs : List (List W)) (ps : List Nat) (m : List W) : Nat := ps.getD (vs.idxOf m) 0
def atl (vs : List (List W)) (ps : List Nat) (us : List (List W)) : List (Nat × Value) := us.zipIdx.map fun a => (pp vs ps a.1, .int .i64 a.2)
def atm (vs : List (List W)) (ps : List Nat) (us : List (List W)) : List (Value × Value) := (atl vs ps us).map fun a => (.pointer (some ⟨a.1, 0, none⟩), a.2)
section
variable {Z Z' S : Nat → Prop} {w w' : World} {vs us : List (List W)} {ps qs : List Nat} {l m : List W} {p i : Nat}
/-- the finished shapes, over changes to rows of other types -/
theorem Shp.typed (h : Shp Z w vs ps) (k : Kp S w w') (hS : ∀ (b : Nat) cs t fr, w.heap[b]? = some (.cells cs t fr) → S b → t ≠ 133 ∧ t ≠ 5 ∧ t ≠ 88) : Shp Z w' vs ps := by
  refine ⟨h.len, h.nodup, fun i hi => ?_⟩
  obtain ⟨⟨A, a, B, b, h1, h2, h3, h4, h5, h6, h7, h8, h9⟩, c1, c2, c3, c4⟩ := h.each i hi
  exact ⟨⟨A, a, B, b, h1.kp k (fun e => (hS _ _ _ _ h1 e).1 rfl), h2.kpa (by decide) k (fun ad ha cs fr hc e => (hS _ _ _ _ hc e).2.1 rfl), h3.kpa (by decide) k (fun ad ha cs fr hc e => (hS _ _ _ _ hc e).2.2 rfl), h4, h5, h6, h7, fun ad ha => ⟨Nat.lt_of_lt_of_le (h8 ad ha).1 k.size, (h8 ad ha).2⟩, fun ad ha => ⟨Nat.lt_of_lt_of_le (h9 ad ha).1 k.size, (h9 ad ha).2⟩⟩, c1, c2, c3, c4⟩
theorem Shp.blk (h : Shp Z w vs ps) (hm : m ∈ vs) : ∃ cs, Blk w (pp vs ps m) 133 cs := by
  obtain ⟨A, a, B, b, h1, _⟩ := (h.at_ hm).ex
  exact ⟨_, h1⟩
theorem Shp.inj (h : Shp Z w vs ps) (hl : l ∈ vs) (hm : m ∈ vs) (e : pp vs ps l = pp vs ps m) : l = m := by
  obtain ⟨A, a, B, b, h1, _⟩ := (h.at_ hl).ex
  obtain ⟨A', a', B', b', h2, _⟩ := (h.at_ hm).ex
  unfold pp at e
  rw [e] at h1
  unfold Blk at h1 h2
  rw [h1] at h2
  have h3 : (#[Value.bool (fin l), .slice A (grp l).length a, .slice B (grp l).length b, .string (bs (Lib.decDigits (vs.idxOf l)))] : Array Value) = #[.bool (fin m), .slice A' (grp m).length a', .slice B' (grp m).length b', .string (bs (Lib.decDigits (vs.idxOf m)))] := by
    injection h2 with h2
    injection h2
  have h4 := congrArg (fun a : Array Value => a[3]?) h3
  simp only [List.getElem?_toArray, List.getElem?_cons_succ, List.getElem?_cons_zero, Option.some.injEq] at h4
  have h5 := dec_inj (bs_inj (Value.string.inj h4))
  have k1 := List.getElem_idxOf (List.idxOf_lt_length_iff.2 hl)
  have k2 := List.getElem_idxOf (List.idxOf_lt_length_iff.2 hm)
  rw [← k1, ← k2]
  congr 1
theorem atl_len : (atl vs ps us).length = us.length := by simp [atl]
theorem atm_len : (atm vs ps us).length = us.length := by simp [atm, atl]
theorem atm_at (j : Nat) (hj : j < us.length) : (atm vs ps us)[j]'(by rw [atm_len]; exact hj) = (.pointer (some ⟨pp vs ps us[j], 0, none⟩), .int .i64 j) := by simp [atm, atl]
theorem atm_push : atm vs ps (us ++ [l]) = atm vs ps us ++ [(.pointer (some ⟨pp vs ps l, 0, none⟩), .int .i64 us.length)] := by
  simp [atm, atl, List.zipIdx_append]
theorem ptr_ne {a b : Nat} (h : Value.pointer (some ⟨a, 0, none⟩) = .pointer (some ⟨b, 0, none⟩)) : a = b := congrArg Addr.block (Option.some.inj (Value.pointer.inj h))
theorem asc_met (h : Shp Z w vs ps) (hs : ∀ m ∈ us, m ∈ vs) (hm : m ∈ us) : asc (.pointer (some ⟨pp vs ps m, 0, none⟩)) (atm vs ps us) 0 = some (us.idxOf m, .int .i64 (us.idxOf m : Nat)) := by
  have h1 := List.idxOf_lt_length_iff.2 hm
  have h2 : us[us.idxOf m] = m := List.getElem_idxOf h1
  have h3 := atm_at (vs := vs) (ps := ps) _ h1
  rw [asc_at (j := us.idxOf m) (by rw [atm_len]; exact h1)]
  · rw [h3]; simp
  · rw [h3, h2]
  · intro j hj
    rw [atm_at j (by omega)]
    intro e
    have e2 := h.inj (hs _ (List.getElem_mem (by omega))) (hs _ hm) (ptr_ne e)
    have := List.not_of_lt_findIdx (p := fun y => y == m) (xs := us) (i := j) hj
    simp [e2] at this
theorem asc_new (h : Shp Z w vs ps) (hs : ∀ m ∈ us, m ∈ vs) (hv : m ∈ vs) (hm : m ∉ us) : asc (.pointer (some ⟨pp vs ps m, 0, none⟩)) (atm vs ps us) 0 = none := by
  refine asc_none fun e he hh => ?_
  obtain ⟨j, hj, rfl⟩ := List.getElem_of_mem he
  have hj2 : j < us.length := by rw [atm_len] at hj; exact hj
  rw [atm_at j hj2] at hh
  have e2 := h.inj (hs _ (List.getElem_mem hj2)) hv (ptr_ne hh)
  exact hm (e2 ▸ List.getElem_mem hj2)
end
theorem shp_size : ∃ j, Tryd.prog.info? 133 = some j ∧ j.size ≠ 0 := by
  have h : (Tryd.prog.info? 133).map (fun i => i.size) = some 5 ∨ True := .inr trivial
  obtain ⟨j, hj⟩ : ∃ j, Tryd.prog.info? 133 = some j := by
    have h1 : (Tryd.prog.info? 133).isSome = true := by kernel_rfl
    exact Option.isSome_iff_exists.1 h1
  have h2 : (Tryd.prog.info? 133).map (fun i => decide (i.size ≠ 0)) = some true := by kernel_rfl
  rw [hj] at h2
  exact ⟨j, hj, by simpa using h2⟩
structure Nu (Z : Nat → Prop) (ab base : Nat) (vs : List (List W)) (ps : List Nat) (us : List (List W)) (opn : Nat → Prop) (dv : Value) (dcs : List Value) (w : World) : Prop where
  D : w.ownsRow base 44 2 dv us.length dcs
  N : Nds Z w us opn dcs
  M : Mp w ab (atm vs ps us)
  H : Shp (fun _ => False) w vs ps
  sub : ∀ m ∈ us, m ∈ vs
section
variable {Z Z' S : Nat → Prop} {ab base : Nat} {w w' : World} {vs us : List (List W)} {ps : List Nat} {opn : Nat → Prop} {dv : Value} {dcs : List Value} {l m : List W}
theorem Nu.kp (h : Nu Z ab base vs ps us opn dv dcs w) (k : Kp S w w') (hd : ∀ g, dv.ownBlock = some g → ¬ S g) (hab : ¬ S ab) (hS : ∀ (b : Nat) cs t fr, w.heap[b]? = some (.cells cs t fr) → S b → t ≠ 133 ∧ t ≠ 5 ∧ t ≠ 88 ∧ (t = 49 → Z b)) : Nu Z ab base vs ps us opn dv dcs w' :=
  ⟨own_kp h.D k hd, h.N.kp k (fun b cs fr hb e => (hS b cs 49 fr hb e).2.2.2 rfl), h.M.kp k hab, h.H.typed k (fun b cs t fr hb e => ⟨(hS b cs t fr hb e).1, (hS b cs t fr hb e).2.1, (hS b cs t fr hb e).2.2.1⟩), h.sub⟩
theorem Nu.ext (h : Nu Z ab base vs ps us opn dv dcs w) (hE : Ext w w') : Nu Z ab base vs ps us opn dv dcs w' :=
  h.kp (Kp.of_ext (S := fun _ => False) hE) (fun _ _ e => e) (fun e => e) (fun _ _ _ _ _ e => e.elim)
theorem Nu.mono (h : Nu Z ab base vs ps us opn dv dcs w) (hz : ∀ b, b < w.heap.size → Z' b → Z b) : Nu Z' ab base vs ps us opn dv dcs w := ⟨h.D, h.N.mono hz, h.M, h.H, h.sub⟩
theorem Nu.not_ab (h : Nu Z ab base vs ps us opn dv dcs w) {b : Nat} {cs : Array Value} {t : TypeId} {fr : Nat × Nat} (hb : w.heap[b]? = some (.cells cs t fr)) : b ≠ ab := fun e => h.M.not_cells (e ▸ hb)
/-- the question whether a set has been met -/
theorem Nu.find (h : Nu Z ab base vs ps us opn dv dcs w) (hm : m ∈ vs) : Findable Tryd.prog 88 (.pointer (some ⟨pp vs ps m, 0, none⟩)) w (atm vs ps us) := by
  obtain ⟨j, hj, hjs⟩ := shp_size
  refine find_ptr Tryd.underlying88 hj hjs w 133 _ (h.H.blk hm) (atl vs ps us) fun a ha => ?_
  simp only [atl, List.mem_map] at ha
  obtain ⟨⟨m', i⟩, hm', rfl⟩ := ha
  exact h.H.blk (h.sub _ (List.fst_mem_of_mem_zipIdx hm'))
theorem Nu.look (h : Nu Z ab base vs ps us opn dv dcs w) (hm : m ∈ us) (ok : Bool) : (Instr.lookup 92 (.map (some ab)) (.pointer (some ⟨pp vs ps m, 0, none⟩)) ok).run Tryd.prog w = .ok (if ok = true then .tuple #[.int .i64 (us.idxOf m : Nat), .bool true] else .int .i64 (us.idxOf m : Nat)) w := by
  have h1 := h.M.lookup (P := Tryd.prog) Tryd.underlying92 (z := .int .i64 0) (k := .pointer (some ⟨pp vs ps m, 0, none⟩)) (Tryd.zeroValue3 w) (fun e => check_ptr Tryd.underlying88 _ w e) (h.find (h.sub _ hm)) ok
  rw [asc_met h.H h.sub hm] at h1
  exact h1
theorem Nu.look0 (h : Nu Z ab base vs ps us opn dv dcs w) (hv : m ∈ vs) (hm : m ∉ us) : (Instr.lookup 92 (.map (some ab)) (.pointer (some ⟨pp vs ps m, 0, none⟩)) true).run Tryd.prog w = .ok (.tuple #[.int .i64 0, .bool false]) w := by
  have h1 := h.M.lookup (P := Tryd.prog) Tryd.underlying92 (z := .int .i64 0) (k := .pointer (some ⟨pp vs ps m, 0, none⟩)) (Tryd.zeroValue3 w) (fun e => check_ptr Tryd.underlying88 _ w e) (h.find hv) true
  rw [asc_new h.H h.sub hv hm] at h1
  exact h1
end
/-- a set is met: the map's store, and the new node -/
theorem Nu.put {Z : Nat → Prop} {ab base : Nat} {vs us : List (List W)} {ps : List Nat} {opn : Nat → Prop} {dv : Value} {dcs : List Value} {l : List W} {w : World} (h : Nu Z ab base vs ps us opn dv dcs w) (hv : l ∈ vs) (hn : l ∉ us) :
    ∃ w1, (Instr.mapUpdate 92 (.map (some ab)) (.pointer (some ⟨pp vs ps l, 0, none⟩)) (.int .i64 us.length)).run Tryd.prog w = .ok () w1 ∧ Mp w1 ab (atm vs ps (us ++ [l])) ∧ Kp (· = ab) w w1 := by
  obtain ⟨w1, h1, h2, h3⟩ := h.M.put (P := Tryd.prog) Tryd.underlying92 (k := .pointer (some ⟨pp vs ps l, 0, none⟩)) (v := .int .i64 us.length) (fun e => check_ptr Tryd.underlying88 _ w e) (h.find hv) (asc_new h.H h.sub hv hn)
  exact ⟨w1, h1, by rw [atm_push]; exact h2, h3⟩
theorem Nu.add {Z : Nat → Prop} {ab base : Nat} {vs us : List (List W)} {ps : List Nat} {opn : Nat → Prop} {dv dv' : Value} {dcs : List Value} {l : List W} {w w1 w2 : World} {u v : Value} (h : Nu Z ab base vs ps us opn dv dcs w) (hv : l ∈ vs) (k1 : Kp (· = ab) w w1) (M1 : Mp w1 ab (atm vs ps (us ++ [l])))
    (hg : w1.grownBy w2 dv.ownBlock) (hD : w2.ownsRow base 44 2 dv' (us.length + 1) (dcs ++ [u, v])) : Nu Z ab base vs ps (us ++ [l]) (fun i => opn i ∨ i = us.length) dv' (dcs ++ [u, v]) w2 := by
  have hc : ∀ (b : Nat) cs t fr, w.heap[b]? = some (.cells cs t fr) → b ≠ ab := fun b cs t fr hb => h.not_ab hb
  have hD1 : w1.ownsRow base 44 2 dv us.length dcs := own_kp h.D k1 fun g hg' e => by
    obtain ⟨cs, hcc⟩ := own_cells h.D hg'.symm
    exact hc _ _ _ _ hcc e
  have k2 : Kp (fun b => some b = dv.ownBlock) w1 w2 := Kp.of_grown hg fun i e => e
  have H1 := h.H.typed k1 fun b cs t fr hb e => absurd e (hc b cs t fr hb)
  have N1 : Nds Z w1 us opn dcs := h.N.kp k1 fun b cs fr hb e => absurd e (hc _ _ _ _ hb)
  refine ⟨by rw [List.length_append]; exact hD, (N1.push (l := l) (own_len hD1)).kp k2 fun b cs fr hb e => ?_, M1.kp k2 fun e => ?_, H1.typed k2 fun b cs t fr hb e => ?_, fun m hm => ?_⟩
  · obtain ⟨ds, hd⟩ := own_cells hD1 e
    exact absurd rfl (typ_ne hb hd (by decide))
  · obtain ⟨ds, hd⟩ := own_cells hD1 e
    exact M1.not_cells hd
  · obtain ⟨ds, hd⟩ := own_cells hD1 e
    rw [hb] at hd
    injection hd with hd
    injection hd with _ h2
    subst h2
    decide
  · rcases List.mem_append.1 hm with hm | hm
    · exact h.sub m hm
    · rw [List.mem_singleton.1 hm]; exact hv
/-- a node is closed -/
theorem Nu.close {Z : Nat → Prop} {ab base n gd cap : Nat} {vs us : List (List W)} {ps : List Nat} {opn : Nat → Prop} {dcs : List Value} {f v : Value} {w : World} (h : Nu Z ab base vs ps us (fun i => opn i ∨ i = n) (.slice (some ⟨gd, 0, none⟩) us.length cap) dcs w) (hn : n < us.length) (hf : dcs[n * 2]? = some f) (hd : Nd Z w us us[n] f v) :
    Nu Z ab base vs ps us opn (.slice (some ⟨gd, 0, none⟩) us.length cap) (dcs.set (n * 2 + 1) v) (w.setCell ⟨gd, n * 2 + 1, none⟩ v) := by
  have kp : Kp (fun k => k = gd) w (w.setCell ⟨gd, n * 2 + 1, none⟩ v) := Kp.of_set (S := fun k => k = gd) w _ v rfl
  obtain ⟨⟨cs, hc⟩, _⟩ := own_typ h.D (g := gd) rfl
  have e : (dcs.set (n * 2) f).set (n * 2 + 1) v = dcs.set (n * 2 + 1) v := by
    congr 1
    apply List.ext_getElem?
    intro i
    by_cases hi : i = n * 2
    · subst hi
      have hl : n * 2 < dcs.length := by have := own_len h.D; omega
      rw [List.getElem?_set_self hl, hf]
    · rw [List.getElem?_set_ne (Ne.symm hi)]
  have N2 := h.N.close (own_len h.D) hn hd
  rw [e] at N2
  refine ⟨own_put h.D (n * 2 + 1) (by omega) v, N2.kp kp fun b cs' fr hb e => absurd e (typ_ne hb hc (by decide)), h.M.kp kp (fun e => h.M.not_cells (e ▸ hc)), h.H.typed kp fun b cs' t fr hb e => ?_, h.sub⟩
  subst e
  rw [hb] at hc
  injection hc with hc
  injection hc with _ h2
  subst h2
  decide
end Go.Proofs.YtmmihcophkipoaaDoor
