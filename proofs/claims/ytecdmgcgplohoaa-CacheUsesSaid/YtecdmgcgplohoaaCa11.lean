import Derived.Test.YtecdmgcgplohoaaCa10
import Derived.Maps.AppendAt
namespace Go.Proofs.Ytecdmgcgplohoaa
open Go.ChangeShapes Go.WideShapes Go.ChangeAt Go.RowKit
set_option linter.unusedVariables false
set_option linter.unusedSimpArgs false
attribute [local go_sem] ba_beq ba_bne
/-- append of one element onto an own row: what turns, exactly -/
theorem run_app1 {P : Program} (w : World) (base : Nat) (t ty e : TypeId) (i : TypeInfo) (z : Value) (bytes : Nat) (ht : P.underlying t = some (.slice e)) (hi : P.info? e = some i) (hz : i.zero = some z)
    (hsize : i.size = 1) (hby : i.bytes = bytes) (hzs : z.cells.size = 1)
    (v : Value) (n : Nat) (xs : List Value) (hown : w.ownsRow base e 1 v n xs)
    (a : Addr) (c : Nat) (K : Value) (hK : w.cell? a = some K) (h1 : K.oneCell' = true)
    (h63 : n + 1 ≤ maxLen) (hbytes : (n + 1) * bytes ≤ 140737488355328) (hbase : base ≤ w.heap.size) :
    ∃ v' w', (Builtin.append_ #[t, t] ty #[v, .slice (some a) 1 c]).run P w = .ok v' w' ∧ w'.ownsRow base e 1 v' (n + 1) (xs ++ [K]) ∧
      ((∃ g cap cur cur', v = .slice (some ⟨g, 0, none⟩) n cap ∧ v' = .slice (some ⟨g, 0, none⟩) (n + 1) cap ∧ w.heap[g]? = some (.cells cur e (0, 0)) ∧ w'.heap[g]? = some (.cells cur' e (0, 0)) ∧ cur'.size = cur.size ∧
          (∀ j, j ≠ n → cur'[j]? = cur[j]?) ∧ cur'[n]? = some K ∧ w.grownBy w' (some g)) ∨
       (Ext w w' ∧ v'.ownBlock = some w.heap.size)) := by
  have hcells : ∀ j u, [K][j]? = some u → w.cell? (a.add j) = some u := by
    intro j u hu
    cases j with
    | zero => simp at hu; subst hu; exact hK
    | succ j => simp at hu
  have hone : ∀ u ∈ [K], u.oneCell' = true := by intro u hu; simp at hu; subst hu; exact h1
  rcases hown.2 with ⟨rfl, rfl⟩ | ⟨g, cap, cur, rfl, hbg, hg, hnc, hcm, hcs, htake⟩
  · have hx : xs = [] := List.eq_nil_of_length_eq_zero (by simpa using hown.1)
    subst hx
    obtain ⟨v', w', hrun, h2, h3, _, h5⟩ := run_append_own_at (P := P) w base t ty e i z 1 bytes ht hi hz hsize hby hzs (by omega) _ 0 [] hown a 1 c [K] rfl hcells hone h63 hbytes hbase
    refine ⟨v', w', hrun, h2, .inr ⟨⟨h3.os, h3.tape, h3.output, h3.size, fun k hk => h3.block k hk (by simp [Value.ownBlock])⟩, ?_⟩⟩
    rcases h5 with h5 | h5
    · rcases h2.2 with ⟨h, _⟩ | ⟨g, cap, cur, rfl, _⟩
      · omega
      · simp [Value.ownBlock] at h5
    · exact h5
  · by_cases hroom : n + 1 ≤ cap
    · have hfit : n * i.size + [K].length ≤ cur.size := by rw [hsize, hcs]; simp; omega
      have hr := run_append_room (P := P) w t ty e i ht hi g n cap cur hg a 1 c [K] (by rw [hsize]; rfl) hcells hone hroom hfit
      have hh := setRow_heap w g cur (cur.toList.take (n * i.size) ++ [K] ++ cur.toList.drop (n * i.size + [K].length)).toArray e (0, 0) hg
      have hn : n < cur.size := by rw [hcs]; omega
      have hlx : xs.length = n := by have := hown.1; simpa using this
      have hcur' : ∀ j, (cur.toList.take (n * i.size) ++ [K] ++ cur.toList.drop (n * i.size + [K].length)).toArray[j]? = if j = n then some K else cur[j]? := by
        intro j
        rw [hsize]
        simp only [Nat.mul_one, List.length_cons, List.length_nil, Nat.zero_add, List.getElem?_toArray, List.append_assoc]
        by_cases e1 : j < n
        · rw [List.getElem?_append_left (by rw [List.length_take, Array.length_toList]; omega), if_neg (by omega), List.getElem?_take, if_pos e1, Array.getElem?_toList]
        · by_cases e2 : j = n
          · subst e2
            rw [List.getElem?_append_right (by rw [List.length_take]; omega), if_pos rfl, List.length_take, Array.length_toList, show j - min j cur.size = 0 by omega]
            rfl
          · rw [List.getElem?_append_right (by rw [List.length_take]; omega), if_neg e2, List.length_take, Array.length_toList, show j - min n cur.size = (j - n - 1) + 1 by omega]
            simp only [List.cons_append, List.nil_append, List.getElem?_cons_succ, List.getElem?_drop, Array.getElem?_toList]
            congr 1
            omega
      have hsz : (cur.toList.take (n * i.size) ++ [K] ++ cur.toList.drop (n * i.size + [K].length)).toArray.size = cur.size := by
        rw [hsize]; simp only [List.size_toArray, List.length_append, List.length_take, List.length_drop, Array.length_toList, List.length_cons, List.length_nil]; omega
      generalize (cur.toList.take (n * i.size) ++ [K] ++ cur.toList.drop (n * i.size + [K].length)).toArray = cur' at *
      refine ⟨_, _, hr, ⟨by rw [List.length_append, hlx]; simp, .inr ⟨g, cap, cur', rfl, hbg, hh, hroom, hcm, by rw [hsz, hcs], ?_⟩⟩, .inl ⟨g, cap, cur, cur', rfl, rfl, hg, hh, hsz, fun j hj => by rw [hcur' j, if_neg hj], by rw [hcur' n, if_pos rfl], ⟨rfl, rfl, rfl, by simp, fun k _ hk => setRow_other w g k _ (fun e => hk (by rw [e]))⟩⟩⟩
      apply List.ext_getElem?
      intro j
      rw [List.getElem?_take, Nat.mul_one, Array.getElem?_toList, hcur' j]
      have hx : ∀ j, j < n → cur[j]? = xs[j]? := fun j hj => by rw [← htake, List.getElem?_take, if_pos (by omega), Array.getElem?_toList]
      by_cases e1 : j < n
      · rw [if_pos (by omega), if_neg (by omega), hx j e1, List.getElem?_append_left (by omega)]
      · by_cases e2 : j = n
        · subst e2
          rw [if_pos (by omega), if_pos rfl, List.getElem?_append_right (by omega), hlx]; simp
        · rw [if_neg (by omega), List.getElem?_eq_none (by rw [List.length_append, hlx]; simp; omega)]
    · obtain ⟨v', w', hrun, h2, h3, _, h5⟩ := run_append_own_at (P := P) w base t ty e i z 1 bytes ht hi hz hsize hby hzs (by omega) _ n xs hown a 1 c [K] rfl hcells hone h63 hbytes hbase
      have holds : ∀ j u, xs[j]? = some u → w.cell? ((⟨g, 0, none⟩ : Addr).add j) = some u := hown.cells (g := g) rfl
      have hr := run_append_grow (P := P) w t ty e i z ht hi hz ⟨g, 0, none⟩ n cap xs (by rw [hsize]; exact hown.1) holds a 1 c [K] (by rw [hsize]; rfl) hcells (by omega) (by simp only [maxLen] at h63; omega) (growslice_fits (by omega) (by rw [hby]; exact hbytes))
      rw [hr] at hrun
      injection hrun with e1 e2
      subst e1 e2
      exact ⟨_, _, hr, h2, .inr ⟨⟨rfl, rfl, rfl, by simp, fun k hk => heap_alloc_old w.drew _ hk⟩, rfl⟩⟩
end Go.Proofs.Ytecdmgcgplohoaa
