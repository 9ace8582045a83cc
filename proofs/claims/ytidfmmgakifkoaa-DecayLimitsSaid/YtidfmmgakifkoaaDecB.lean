/-
  Contracts of decay.Add and decay.Sum: what each call hands back, in every world.
-/
import Derived.Test.YtidfmmgakifkoaaDec
namespace Go.Proofs.Ytidfmmgakifkoaa
open Go.ChangeShapes Go.WideShapes Go.ChangeAt Go.RowKit
set_option linter.unusedVariables false
set_option linter.unusedSimpArgs false

theorem add_yes (t v x n : Int) (w : World) (ht0 : 0 ≤ t) (ht : t ≤ 10000) (h0 : 0 ≤ v) (h1 : v ≤ 1073741824) (h2 : t ≤ x) (h3 : x ≤ 10000) (h4 : 0 ≤ n) (h5 : n ≤ 1073741824) :
    Calls Try.prog 14 #[.agg #[.int .i64 t, .int .i64 v], .int .i64 x, .int .i64 n] w fun e w' => e = .returned (.tuple #[.agg #[.int .i64 x, .int .i64 (tot [hv v (x - t).toNat, n])], .int .i64 0]) ∧ Below w.heap.size w w' := by
  have h4' : ¬ n < 0 := by omega
  have h5' : ¬ 1073741824 < n := by omega
  have hv1 := hv_nonneg v (x - t).toNat h0
  have hv2 := hv_le v (x - t).toNat h0
  go_enter Try.func14, Try.ntmps14
  go_wp2_with (first
    | (go_at_call 12; refine (at_yes t v x _ ht0 ht h0 h1 h2 h3).mono ?_; rintro e w1 ⟨rfl, hb⟩; obtain ⟨hc, hf⟩ := bcell hb; have hz : w.heap.size + 1 < w1.heap.size := by (have := hb.size; simp at this; omega))
    | (go_at_call 22; refine (total_any _ _ _ 3 [hv v (x - t).toNat, n] _ (Rd.new w1 3 1 2 #[.int .i64 (hv v (x - t).toNat), .int .i64 n] (0, 0) rfl) (by simp; omega) (by omega)).mono ?_; rintro e w2 ⟨rfl, rfl⟩))
  have hb1 : Below w.heap.size w w1 := Below.trans (by go_grown) (hb.mono (by simp; omega))
  refine bodyPost_ret (v := .tuple #[.agg #[.int .i64 _, .int .i64 _], .int .i64 _]) (by first | (simp [results, Try.results14, go_sem, hc]; done) | (simp [results, Try.results14, go_sem, hc, hz]; done)) rfl ⟨rfl, ?_⟩
  go_grown
theorem add_arg (t v x n : Int) (w : World) (h4 : n < 0 ∨ 1073741824 < n) :
    Calls Try.prog 14 #[.agg #[.int .i64 t, .int .i64 v], .int .i64 x, .int .i64 n] w fun e w' => e = .returned (.tuple #[.agg #[.int .i64 0, .int .i64 0], .int .i64 1]) ∧ Below w.heap.size w w' := by
  by_cases h : n < 0
  · clear h4
    go_enter Try.func14, Try.ntmps14
    go_wp2
    go_returns
    exact ⟨rfl, by go_grown⟩
  · have h5 : 1073741824 < n := by omega
    clear h4
    go_enter Try.func14, Try.ntmps14
    go_wp2
    go_returns
    exact ⟨rfl, by go_grown⟩
theorem add_epoch (t v x n : Int) (w : World) (h2 : x < t ∨ 10000 < x) (h4 : 0 ≤ n) (h5 : n ≤ 1073741824) :
    Calls Try.prog 14 #[.agg #[.int .i64 t, .int .i64 v], .int .i64 x, .int .i64 n] w fun e w' => e = .returned (.tuple #[.agg #[.int .i64 0, .int .i64 0], .int .i64 120]) ∧ Below w.heap.size w w' := by
  have h4' : ¬ n < 0 := by omega
  have h5' : ¬ 1073741824 < n := by omega
  go_enter Try.func14, Try.ntmps14
  go_wp2_with (first
    | (go_at_call 12; refine (at_no t v x _ h2).mono ?_; rintro e w1 ⟨rfl, hb⟩; obtain ⟨hc, hf⟩ := bcell hb; have hz : w.heap.size + 1 < w1.heap.size := by (have := hb.size; simp at this; omega)))
  have hb1 : Below w.heap.size w w1 := Below.trans (by go_grown) (hb.mono (by simp; omega))
  refine bodyPost_ret (v := .tuple #[.agg #[.int .i64 _, .int .i64 _], .int .i64 _]) (by first | (simp [results, Try.results14, go_sem, hc]; done) | (simp [results, Try.results14, go_sem, hc, hz]; done)) rfl ⟨rfl, ?_⟩
  go_grown
/-- the cells of a list of tallies -/
def tcells (l : List (Int × Int)) : List Value := l.flatMap fun p => [.int .i64 p.1, .int .i64 p.2]
theorem tcells_len (l : List (Int × Int)) : (tcells l).length = l.length * 2 := by
  induction l with
  | nil => rfl
  | cons a l ih => simp only [tcells, List.flatMap_cons, List.length_append, List.length_cons, List.length_nil] at *; omega
theorem tcells_at (l : List (Int × Int)) (k : Nat) (h : k < l.length) : (tcells l)[k * 2]? = some (.int .i64 l[k].1) ∧ (tcells l)[k * 2 + 1]? = some (.int .i64 l[k].2) := by
  induction l generalizing k with
  | nil => simp at h
  | cons a l ih =>
    cases k with
    | zero => simp [tcells]
    | succ k =>
      have := ih k (by simpa using h)
      simp only [tcells, List.flatMap_cons] at *
      have e1 : (k + 1) * 2 = k * 2 + 1 + 1 := by omega
      rw [e1]
      simpa using this
theorem int_info : (Try.prog.info? 3).map (fun i => (i.zero, i.size, i.bytes)) = some (some (.int .i64 0), 1, 8) := by kernel_rfl
theorem sum_yes (A : Option Addr) (n c : Nat) (ty : TypeId) (l : List (Int × Int)) (x : Int) (w : World) (hr : Rd w ty 2 A n (tcells l)) (hn : n ≤ 1000) (hx : x ≤ 10000)
    (hl : ∀ p ∈ l, 0 ≤ p.1 ∧ p.1 ≤ x ∧ 0 ≤ p.2 ∧ p.2 ≤ 1073741824) :
    Calls Try.prog 19 #[.slice A n c, .int .i64 x] w fun e w' => e = .returned (.tuple #[.int .i64 (tot (l.map fun p => hv p.2 (x - p.1).toNat)), .int .i64 0]) ∧ Below w.heap.size w w' := by
  have hlen : l.length = n := by have := hr.len; rw [tcells_len] at this; omega
  have HN := Lib.hid hlen; clear hlen
  have HL := Lib.hid hl; clear hl
  obtain ⟨i0, hi0, hz0, hz1, hz2⟩ := info_parts int_info
  go_enter Try.func19, Try.ntmps19
  go_wp2_with fail
  go_loopw [6, 18] (fun v i wr => ∃ k : Nat, k ≤ n ∧ i = .int .i64 k ∧ wr.ownsRow w.heap.size 3 1 v k ((l.take k).map fun p => .int .i64 (hv p.2 (x - p.1).toNat)) ∧ Below w.heap.size w wr) (fun _ i _ => n - (intOf i).toNat)
  case atStart => exact ⟨0, by omega, rfl, World.ownsRow_nil _ _ _ _, Below.refl _ _⟩
  case round =>
    obtain ⟨k, hk, rfl, hown, hbw⟩ := hrel
    by_cases hlt : k < n
    · have hkl : k < l.length := by rw [HN.out]; exact hlt
      obtain ⟨q0, q1⟩ := tcells_at l k hkl
      obtain ⟨ad, rfl, hadb, c0, c1⟩ := (hr.below hbw (Nat.le_refl _)).two hlt q0 q1
      obtain ⟨p0, p1, p2, p3⟩ := HL.out l[k] (List.getElem_mem hkl)
      clear q0 q1
      generalize hq : l[k] = q at *
      have HQ := Lib.hid hq; clear hq
      obtain ⟨t, v⟩ := q
      simp only at p0 p1 p2 p3 c0 c1
      have hbase : w.heap.size ≤ wr.heap.size := hbw.size
      have hv1 := hv_nonneg v (x - t).toNat p2
      have hv2 := hv_le v (x - t).toNat p2
      have hnext : ((l.take (k + 1)).map fun p => Value.int .i64 (hv p.2 (x - p.1).toNat)) = ((l.take k).map fun p => Value.int .i64 (hv p.2 (x - p.1).toNat)) ++ [.int .i64 (hv v (x - t).toNat)] := by
        rw [take_snoc l k hkl, List.map_append, HQ.out]; rfl
      have HX := Lib.hid hnext; clear hnext
      go_wp2_with fail
      refine (at_yes t v x _ p0 (by omega) p2 p3 p1 hx).mono ?_
      rintro e w1 ⟨rfl, hb⟩
      have hb1 : Below wr.heap.size wr w1 := Below.trans (by go_grown) (hb.mono (by simp))
      have hb2 : Below w.heap.size w w1 := hbw.trans (hb1.mono hbase)
      have hown1 := own_below hown hb1 (Nat.le_refl _)
      have hsz2 := hb2.size
      obtain ⟨hc, hf⟩ := bcell hb
      clear hb hb1 hown
      go_wp2_with (at_builtin; apply halt_here)
      apply go_on
      refine wpList_app rfl _ _ 56 rfl w.heap.size 3 i0 (.int .i64 0) 1 8 Try.underlying56 hi0 hz0 hz1 hz2 rfl (by decide) _ _ _ rfl (hown1.alloc _) 3 _ 1 1 _ rfl (rd_one w1 3 _) (by simp [Value.oneCell']) (by simp only [maxLen]; omega) (by omega) (by have := hb2.size; simp; omega) ?_
      intro v' w2 hown2 hg2 hv2' hbb
      have hb3 : Below w.heap.size w w2 := Below.trans (by go_grown) hbb
      rw [← HX.out] at hown2
      clear hg2 hbb hc hf hown1
      go_wp2
      go_roundw
      case rel => exact ⟨k + 1, by omega, by go_num, hown2, hb3⟩
      case measure => simp [intOf]; omega
    · have hfin : ((l.take k).map fun p => Value.int .i64 (hv p.2 (x - p.1).toNat)) = (l.map fun p => hv p.2 (x - p.1).toNat).map (Value.int .i64) := by
        rw [List.take_of_length_le (by rw [HN.out]; omega), List.map_map]; rfl
      rw [hfin] at hown
      clear hfin
      obtain ⟨A', c', rfl, hrd, _, _⟩ := own_form hown
      go_wp2_with fail
      refine (total_any _ _ _ _ _ _ hrd ?_ (by omega)).mono ?_
      · intro z hz
        obtain ⟨p, hp, rfl⟩ := List.mem_map.1 hz
        obtain ⟨p0, p1, p2, p3⟩ := HL.out p hp
        have := hv_le p.2 (x - p.1).toNat p2
        exact ⟨hv_nonneg _ _ p2, by omega⟩
      rintro e w1 ⟨rfl, rfl⟩
      go_wp2
      go_returns
      exact ⟨rfl, hbw⟩
theorem sum_no (A : Option Addr) (n c : Nat) (ty : TypeId) (l : List (Int × Int)) (x : Int) (w : World) (hr : Rd w ty 2 A n (tcells l)) (hn : n ≤ 1000) (hx : x ≤ 10000)
    (hl : ∀ p ∈ l, 0 ≤ p.1 ∧ p.1 ≤ 10000 ∧ 0 ≤ p.2 ∧ p.2 ≤ 1073741824) (hb : ∃ p ∈ l, x < p.1) :
    Calls Try.prog 19 #[.slice A n c, .int .i64 x] w fun e w' => e = .returned (.tuple #[.int .i64 0, .int .i64 120]) ∧ Below w.heap.size w w' := by
  have hlen : l.length = n := by have := hr.len; rw [tcells_len] at this; omega
  have HN := Lib.hid hlen; clear hlen
  have HL := Lib.hid hl; clear hl
  have HB := Lib.hid hb; clear hb
  obtain ⟨i0, hi0, hz0, hz1, hz2⟩ := info_parts int_info
  go_enter Try.func19, Try.ntmps19
  go_wp2_with fail
  go_loopw [6, 18] (fun v i wr => ∃ k : Nat, k ≤ n ∧ i = .int .i64 k ∧ wr.ownsRow w.heap.size 3 1 v k ((l.take k).map fun p => .int .i64 (hv p.2 (x - p.1).toNat)) ∧ Below w.heap.size w wr ∧ ∀ p ∈ l.take k, p.1 ≤ x) (fun _ i _ => n - (intOf i).toNat)
  case atStart => exact ⟨0, by omega, rfl, World.ownsRow_nil _ _ _ _, Below.refl _ _, by simp⟩
  case round =>
    obtain ⟨k, hk, rfl, hown, hbw, hpast⟩ := hrel
    have HP := Lib.hid hpast; clear hpast
    by_cases hlt : k < n
    · have hkl : k < l.length := by rw [HN.out]; exact hlt
      obtain ⟨q0, q1⟩ := tcells_at l k hkl
      obtain ⟨ad, rfl, hadb, c0, c1⟩ := (hr.below hbw (Nat.le_refl _)).two hlt q0 q1
      obtain ⟨p0, p1, p2, p3⟩ := HL.out l[k] (List.getElem_mem hkl)
      clear q0 q1
      generalize hq : l[k] = q at *
      have HQ := Lib.hid hq; clear hq
      obtain ⟨t, v⟩ := q
      simp only at p0 p1 p2 p3 c0 c1
      have hbase : w.heap.size ≤ wr.heap.size := hbw.size
      have hv1 := hv_nonneg v (x - t).toNat p2
      have hv2 := hv_le v (x - t).toNat p2
      by_cases hle : t ≤ x
      · have hnext : ((l.take (k + 1)).map fun p => Value.int .i64 (hv p.2 (x - p.1).toNat)) = ((l.take k).map fun p => Value.int .i64 (hv p.2 (x - p.1).toNat)) ++ [.int .i64 (hv v (x - t).toNat)] := by
          rw [take_snoc l k hkl, List.map_append, HQ.out]; rfl
        have HX := Lib.hid hnext; clear hnext
        go_wp2_with fail
        refine (at_yes t v x _ p0 p1 p2 p3 hle hx).mono ?_
        rintro e w1 ⟨rfl, hb⟩
        have hb1 : Below wr.heap.size wr w1 := Below.trans (by go_grown) (hb.mono (by simp))
        have hb2 : Below w.heap.size w w1 := hbw.trans (hb1.mono hbase)
        have hown1 := own_below hown hb1 (Nat.le_refl _)
        have hsz2 := hb2.size
        obtain ⟨hc, hf⟩ := bcell hb
        clear hb hb1 hown
        go_wp2_with (at_builtin; apply halt_here)
        apply go_on
        refine wpList_app rfl _ _ 56 rfl w.heap.size 3 i0 (.int .i64 0) 1 8 Try.underlying56 hi0 hz0 hz1 hz2 rfl (by decide) _ _ _ rfl (hown1.alloc _) 3 _ 1 1 _ rfl (rd_one w1 3 _) (by simp [Value.oneCell']) (by simp only [maxLen]; omega) (by omega) (by have := hb2.size; simp; omega) ?_
        intro v' w2 hown2 hg2 hv2' hbb
        have hb3 : Below w.heap.size w w2 := Below.trans (by go_grown) hbb
        rw [← HX.out] at hown2
        clear hg2 hbb hc hf hown1
        go_wp2
        go_roundw
        case rel => exact ⟨k + 1, by omega, by go_num, hown2, hb3, fun p hp => by
            rw [take_snoc l k hkl, List.mem_append] at hp
            rcases hp with hp | hp
            · exact HP.out p hp
            · obtain rfl : p = l[k] := by simpa using hp
              rw [HQ.out]; exact hle⟩
        case measure => simp [intOf]; omega
      · have hlt2 : x < t := by omega
        clear hle
        go_wp2_with fail
        refine (at_no t v x _ (Or.inl hlt2)).mono ?_
        rintro e w1 ⟨rfl, hb⟩
        have hb1 : Below wr.heap.size wr w1 := Below.trans (by go_grown) (hb.mono (by simp))
        have hb2 : Below w.heap.size w w1 := hbw.trans (hb1.mono hbase)
        clear hb hb1
        go_wp2
        go_returns
        exact ⟨rfl, hb2⟩
    · exfalso
      obtain ⟨p, hp, hlt2⟩ := HB.out
      have := HP.out p (by rw [List.take_of_length_le (by rw [HN.out]; omega)]; exact hp)
      omega
theorem sum_big (A : Option Addr) (n c : Nat) (x : Int) (w : World) (hn : 1000 < n) (hm : n ≤ 9223372036854775807) :
    Calls Try.prog 19 #[.slice A n c, .int .i64 x] w fun e w' => e = .returned (.tuple #[.int .i64 0, .int .i64 1]) ∧ w = w' := by
  go_enter Try.func19, Try.ntmps19
  go_wp2
  go_returns
  exact ⟨rfl, rfl⟩
theorem sum_late (A : Option Addr) (n c : Nat) (x : Int) (w : World) (hn : n ≤ 1000) (hx : 10000 < x) :
    Calls Try.prog 19 #[.slice A n c, .int .i64 x] w fun e w' => e = .returned (.tuple #[.int .i64 0, .int .i64 120]) ∧ w = w' := by
  go_enter Try.func19, Try.ntmps19
  go_wp2
  go_returns
  exact ⟨rfl, rfl⟩
end Go.Proofs.Ytidfmmgakifkoaa
