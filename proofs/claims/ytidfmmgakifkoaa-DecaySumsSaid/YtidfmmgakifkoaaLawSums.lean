/-
  DecaySums: for every list of pairs and two bytes the law returns true and its arguments read as before. No condition.
-/
import Derived.Test.YtidfmmgakifkoaaDecS
import Derived.Test.YtidfmmgakifkoaaFrame
import Derived.Test.YtidfmmgakifkoaaPhase
import Derived.Deep.QuietTactic
import Derived.BigQuiet
namespace Go.Proofs.Ytidfmmgakifkoaa
open Go.ChangeShapes Go.WideShapes Go.ChangeAt Go.RowKit
set_option linter.unusedVariables false
set_option linter.unusedSimpArgs false

def ucells (l : List (Int × Int)) : List Value := l.flatMap fun p => [.int .u16 p.1, .int .u16 p.2]
theorem ucells_len (l : List (Int × Int)) : (ucells l).length = l.length * 2 := by
  induction l with
  | nil => rfl
  | cons a l ih => simp only [ucells, List.flatMap_cons, List.length_append, List.length_cons, List.length_nil] at *; omega
theorem ucells_at (l : List (Int × Int)) (k : Nat) (h : k < l.length) : (ucells l)[k * 2]? = some (.int .u16 l[k].1) ∧ (ucells l)[k * 2 + 1]? = some (.int .u16 l[k].2) := by
  induction l generalizing k with
  | nil => simp at h
  | cons a l ih =>
    cases k with
    | zero => simp [ucells]
    | succ k =>
      have := ih k (by simpa using h)
      simp only [ucells, List.flatMap_cons] at *
      have e1 : (k + 1) * 2 = k * 2 + 1 + 1 := by omega
      rw [e1]
      simpa using this
theorem tcells_append (l m : List (Int × Int)) : tcells (l ++ m) = tcells l ++ tcells m := by simp [tcells]
theorem tcells_one (l : List (Int × Int)) : ∀ u ∈ tcells l, u.oneCell' = true := by
  intro u hu
  simp only [tcells, List.mem_flatMap] at hu
  obtain ⟨p, _, hu⟩ := hu
  simp at hu
  rcases hu with rfl | rfl <;> rfl
/-- what the reference makes of a list of pairs -/
def tal (l : List (Int × Int)) : List (Int × Int) := (l.take 12).map fun p => (p.1 % 21, p.2)
theorem tal_info : (Try.prog.info? 26).map (fun i => (i.zero, i.size, i.bytes)) = some (some (.agg #[.int .i64 0, .int .i64 0]), 2, 16) := by kernel_rfl
set_option maxHeartbeats 1000000 in
set_option maxRecDepth 100000 in
theorem some_any (A : Option Addr) (n c : Nat) (l : List (Int × Int)) (w : World) (hr : Rd w 0 2 A n (ucells l)) (hn : n ≤ maxLen) (hl : ∀ p ∈ l, 0 ≤ p.1 ∧ p.1 ≤ 65535 ∧ 0 ≤ p.2 ∧ p.2 ≤ 65535) :
    Calls Try.prog 18 #[.slice A n c, .int .i64 12] w fun e w' => ∃ v, e = .returned v ∧ Sl 26 2 (tal l).length (tcells (tal l)) v w' ∧ Below w.heap.size w w' := by
  have hlen : l.length = n := by have := hr.len; rw [ucells_len] at this; omega
  have HN := Lib.hid hlen; clear hlen
  have HL := Lib.hid hl; clear hl
  unfold maxLen at hn
  obtain ⟨i0, hi0, hz0, hz1, hz2⟩ := info_parts tal_info
  go_enter Try.func18, Try.ntmps18
  go_wp2_with fail
  go_loopw [5, 6] (fun v i wr => ∃ k : Nat, k ≤ n ∧ k ≤ 12 ∧ i = .int .i64 k ∧ wr.ownsRow w.heap.size 26 2 v k (tcells ((l.take k).map fun p => (p.1 % 21, p.2))) ∧ Below w.heap.size w wr) (fun _ i _ => 20 - (intOf i).toNat)
  case atStart =>
    refine ⟨0, by omega, by omega, rfl, ?_, by go_grown⟩
    simpa [tcells] using World.ownsRow_made (base := w.heap.size) (e := 26) (size := 2) w #[] 0 (Nat.le_refl _) (by simp [maxLen]) (by simp)
  case round =>
    obtain ⟨k, hk, hk12, rfl, hown, hbw⟩ := hrel
    by_cases hlt : k < n ∧ k < 12
    · obtain ⟨hlt, hlt12⟩ := hlt
      have hkl : k < l.length := by rw [HN.out]; exact hlt
      obtain ⟨q0, q1⟩ := ucells_at l k hkl
      obtain ⟨p0, p1, p2, p3⟩ := HL.out l[k] (List.getElem_mem hkl)
      have hnext : tcells ((l.take (k + 1)).map fun p => (p.1 % 21, p.2)) = tcells ((l.take k).map fun p => (p.1 % 21, p.2)) ++ [.int .i64 (l[k].1 % 21), .int .i64 l[k].2] := by
        rw [take_snoc l k hkl, List.map_append, tcells_append]; rfl
      have hr2 := (hr.below hbw (Nat.le_refl _))
      obtain ⟨ad, rfl, hadb, _⟩ := hr2.cells (by omega)
      have hc : ∀ W, Ext wr.drew W → W.cell? (ad.add (k * 2)) = some (.int .u16 l[k].1) ∧ W.cell? ⟨(ad.add (k * 2)).block, (ad.add (k * 2)).off + 1, none⟩ = some (.int .u16 l[k].2) := fun W hE => by
        obtain ⟨ad', e, _, h1, h2⟩ := ((hr2.drew).ext hE).two hlt q0 q1
        injection e with e
        subst e
        exact ⟨h1, h2⟩
      have HX := Lib.hid hnext; have HC := Lib.hid hc
      clear hnext hc q0 q1 hr2
      generalize l[k] = pq at *
      obtain ⟨a, b⟩ := pq
      simp only at p0 p1 p2 p3
      have hlt' : (k : Int) < (n : Int) := by omega
      have hlt12' : (k : Int) < 12 := by omega
      go_wp2_with fail
      refine wp_region_list2 (by kernel_rfl) 16 Ext [(15, Sl 26 2 1 [.int .i64 (a % 21), .int .i64 b])] (by kernel_rfl) (fun _ _ d _ _ h => by cases d <;> exact h) rfl Ext.refl (fun _ _ _ => Ext.trans) ⟨fun _ _ _ => Sl.ext, trivial⟩ ?_
      simp only [List.take_succ_cons, List.take_zero, List.take_nil, List.drop_succ_cons, List.drop_zero, List.drop_nil]
      iterate 15
        refine ph_pure (a' := ?_) rfl rfl ?_ (fun w9 hE hG => pureAt_plain rfl ?_) ?_ ?_
        rotate_left 2
        · clear hG; obtain ⟨c0, c1⟩ := HC.out w9 hE; (go_simp; try go_bits); rfl
        · go_simp; rfl
      refine ph_op rfl rfl (fun w9 hE hG => opAt_plain rfl ?_) (fun v hv => ?_)
      · clear hG; obtain ⟨c0, c1⟩ := HC.out w9 hE; (go_simp; try go_bits)
        exact ⟨Ext.alloc _ _, _, _, rfl, Rd.newAt _ _ rfl 26 2 1 #[.int .i64 (a % 21), .int .i64 b] (0, 0) _ rfl rfl, Nat.le_refl _, by simp [maxLen]⟩
      obtain ⟨_, _, A1, c1', rfl, _, _, _⟩ := hv
      go_simp
      refine ph_end (fun w9 hE hG => ?_)
      simp only [List.forall_mem_cons] at hG
      obtain ⟨_, hrd, _, _⟩ := hG.1.at_
      have L9 := hbw.drew.trans (hE.below.mono hbw.size)
      have O9 := own_below (own_drewN hown 1) hE (Nat.le_refl _)
      clear hE hG hown HC
      go_wp2_with (at_builtin; apply halt_here)
      apply go_on
      refine wpList_app rfl _ _ 44 rfl w.heap.size 26 i0 _ 2 16 Try.underlying44 hi0 hz0 hz1 hz2 rfl (by decide) _ _ _ rfl O9 26 _ 1 _ _ rfl hrd (by simp [Value.oneCell']) (by simp only [maxLen]; omega) (by omega) L9.size ?_
      intro v' w8 hown2 _ _ hbb
      have hb3 := L9.trans hbb
      rw [← HX.out] at hown2
      clear hbb L9 O9 hbw
      go_wp2
      go_roundw
      case rel => exact ⟨k + 1, by omega, by omega, by go_num, hown2, hb3⟩
      case measure => simp only [intOf]; omega
    · have hfin : tcells ((l.take k).map fun p => (p.1 % 21, p.2)) = tcells (tal l) ∧ k = (tal l).length := by
        have hlen := HN.out
        have : l.take k = l.take 12 := by
          by_cases h : k = 12
          · rw [h]
          · rw [List.take_of_length_le (by omega), List.take_of_length_le (by omega)]
        rw [this]
        refine ⟨rfl, ?_⟩
        simp only [tal, List.length_map, List.length_take]
        omega
      have HF := Lib.hid hfin; clear hfin
      obtain ⟨A', c', rfl, hrd, hc1, hc2⟩ := own_form hown
      have hpost : Sl 26 2 (tal l).length (tcells (tal l)) (.slice A' k c') wr := by
        have e1 := HF.out.1
        have e2 := HF.out.2
        rw [e1] at hrd
        rw [← e2]
        exact ⟨A', c', rfl, hrd, hc1, hc2⟩
      have HP := Lib.hid hpost; clear hpost hrd hown
      by_cases h1 : (k : Int) < n
      · have h2 : ¬ (k : Int) < 12 := by omega
        clear hlt
        go_wp2
        go_ret
        exact ⟨_, rfl, HP.out, hbw⟩
      · clear hlt
        go_wp2
        go_ret
        exact ⟨_, rfl, HP.out, hbw⟩
theorem tal_len (l : List (Int × Int)) : (tal l).length ≤ 12 := by simp only [tal, List.length_map, List.length_take]; omega
theorem tal_in (l : List (Int × Int)) (hl : ∀ p ∈ l, 0 ≤ p.1 ∧ p.1 ≤ 65535 ∧ 0 ≤ p.2 ∧ p.2 ≤ 65535) : ∀ p ∈ tal l, 0 ≤ p.1 ∧ p.1 ≤ 20 ∧ 0 ≤ p.2 ∧ p.2 ≤ 65535 := by
  intro p hp
  simp only [tal, List.mem_map] at hp
  obtain ⟨q, hq, rfl⟩ := hp
  have := hl q (List.mem_of_mem_take hq)
  simp only
  omega
theorem tcells_take (l : List (Int × Int)) (k : Nat) : (tcells l).take (k * 2) = tcells (l.take k) := by
  induction l generalizing k with
  | nil => simp [tcells]
  | cons a l ih =>
    cases k with
    | zero => simp [tcells]
    | succ k =>
      have h := ih k
      have e : (k + 1) * 2 = k * 2 + 1 + 1 := by omega
      simp only [tcells, List.flatMap_cons, List.take_succ_cons, e, List.cons_append, List.nil_append] at *
      rw [h]
theorem tcells_drop (l : List (Int × Int)) (k : Nat) : (tcells l).drop (k * 2) = tcells (l.drop k) := by
  induction l generalizing k with
  | nil => simp [tcells]
  | cons a l ih =>
    cases k with
    | zero => simp [tcells]
    | succ k =>
      have h := ih k
      have e : (k + 1) * 2 = k * 2 + 1 + 1 := by omega
      simp only [tcells, List.flatMap_cons, List.drop_succ_cons, e, List.cons_append, List.nil_append] at *
      rw [h]
theorem hv_plus (a b : Int) (k : Nat) : hv a k + hv b k ≤ hv (a + b) k ∧ hv (a + b) k ≤ hv a k + hv b k + 1 := by
  induction k with
  | zero => simp only [hv_zero]; omega
  | succ k ih => simp only [hv_succ]; omega
theorem hv_none (k : Nat) : hv 0 k = 0 := by
  induction k with
  | zero => rw [hv_zero]
  | succ k ih => rw [hv_succ, ih]; rfl
theorem hv_sum (l : List Int) (k : Nat) : (l.map (hv · k)).sum ≤ hv l.sum k ∧ (hv l.sum k < (l.map (hv · k)).sum + l.length ∨ l = []) := by
  induction l with
  | nil => simp [hv_none]
  | cons a l ih =>
    have h := hv_plus a l.sum k
    simp only [List.map_cons, List.sum_cons, List.length_cons] at *
    rcases ih.2 with h2 | rfl
    · exact ⟨by omega, .inl (by omega)⟩
    · have h3 := hv_none k
      refine ⟨by omega, .inl ?_⟩
      simp only [List.map_nil, List.sum_nil, List.length_nil, Int.add_zero] at *
      omega
theorem sum_small (l : List Int) (m : Int) (h : ∀ x ∈ l, 0 ≤ x ∧ x ≤ m) : 0 ≤ l.sum ∧ l.sum ≤ l.length * m := by
  induction l with
  | nil => simp
  | cons a l ih =>
    have h1 := ih fun x hx => h x (by simp [hx])
    have h2 := h a (by simp)
    simp only [List.sum_cons, List.length_cons]
    have e : ((l.length + 1 : Nat) : Int) * m = l.length * m + m := by rw [Int.natCast_add]; rw [Int.add_mul]; omega
    rw [e]
    omega
theorem tot_small (l : List Int) (h : ∀ x ∈ l, 0 ≤ x ∧ x ≤ 65535) (hn : l.length ≤ 12) : tot l = l.sum := by
  rw [tot_eq l fun x hx => (h x hx).1]
  have := (sum_small l 65535 h).2
  omega
theorem sum_app (a b : List Int) : (a ++ b).sum = a.sum + b.sum := by
  induction a with
  | nil => simp
  | cons x a ih => simp only [List.cons_append, List.sum_cons, ih]; omega
/-- the law: turning the list, parting it, and summing before -/
theorem sums_law (L : List (Int × Int)) (k : Nat) (x : Int) (hL : ∀ p ∈ L, 0 ≤ p.1 ∧ p.1 ≤ 20 ∧ 0 ≤ p.2 ∧ p.2 ≤ 65535) (hn : L.length ≤ 12) (hx : 20 ≤ x) (hx2 : x < 40) :
    tot (L.map fun p => hv p.2 (x - p.1).toNat) = tot ((L.drop k ++ L.take k).map fun p => hv p.2 (x - p.1).toNat) ∧
    tot (L.map fun p => hv p.2 (x - p.1).toNat) = tot ((L.take k).map fun p => hv p.2 (x - p.1).toNat) + tot ((L.drop k).map fun p => hv p.2 (x - p.1).toNat) ∧
    tot (L.map fun p => hv p.2 (x - p.1).toNat) ≤ hv (tot (L.map fun p => hv p.2 (20 - p.1).toNat)) (x - 20).toNat ∧
    (hv (tot (L.map fun p => hv p.2 (20 - p.1).toNat)) (x - 20).toNat < tot (L.map fun p => hv p.2 (x - p.1).toNat) + L.length ∨ L.length = 0 ∧ hv (tot (L.map fun p => hv p.2 (20 - p.1).toNat)) (x - 20).toNat = 0) ∧
    (0 ≤ tot (L.map fun p => hv p.2 (20 - p.1).toNat) ∧ tot (L.map fun p => hv p.2 (20 - p.1).toNat) ≤ 1000000) ∧
    (0 ≤ tot (L.map fun p => hv p.2 (x - p.1).toNat) ∧ tot (L.map fun p => hv p.2 (x - p.1).toNat) ≤ 1000000) := by
  have hv1 : ∀ (y : Int) (M : List (Int × Int)), (∀ p ∈ M, p ∈ L) → ∀ v ∈ M.map (fun p => hv p.2 (y - p.1).toNat), 0 ≤ v ∧ v ≤ 65535 := by
    intro y M hM v hv'
    simp only [List.mem_map] at hv'
    obtain ⟨p, hp, rfl⟩ := hv'
    have h := hL p (hM p hp)
    have h1 := hv_nonneg p.2 (y - p.1).toNat h.2.2.1
    have h2 := hv_le p.2 (y - p.1).toNat h.2.2.1
    omega
  have mt : ∀ p ∈ L.take k, p ∈ L := fun p hp => List.mem_of_mem_take hp
  have md : ∀ p ∈ L.drop k, p ∈ L := fun p hp => List.mem_of_mem_drop hp
  have ma : ∀ p ∈ L.drop k ++ L.take k, p ∈ L := fun p hp => by
    rcases List.mem_append.1 hp with h | h
    · exact md p h
    · exact mt p h
  have e1 := tot_small _ (hv1 x L fun _ h => h) (by simpa using hn)
  have e2 := tot_small _ (hv1 x _ ma) (by simp; omega)
  have e3 := tot_small _ (hv1 x _ mt) (by simp; omega)
  have e4 := tot_small _ (hv1 x _ md) (by simp; omega)
  have e5 := tot_small _ (hv1 20 L fun _ h => h) (by simpa using hn)
  have s1 := sum_small _ _ (hv1 x L fun _ h => h)
  have s5 := sum_small _ _ (hv1 20 L fun _ h => h)
  have hsplit : (L.map fun p => hv p.2 (x - p.1).toNat).sum = ((L.take k).map fun p => hv p.2 (x - p.1).toNat).sum + ((L.drop k).map fun p => hv p.2 (x - p.1).toNat).sum := by
    rw [← sum_app, ← List.map_append, List.take_append_drop]
  have hcomp : (L.map fun p => hv p.2 (x - p.1).toNat) = (L.map fun p => hv p.2 (20 - p.1).toNat).map (hv · (x - 20).toNat) := by
    rw [List.map_map]
    apply List.map_congr_left
    intro p hp
    have h := hL p hp
    simp only [Function.comp]
    rw [hv_add]
    congr 1
    omega
  have hs := hv_sum (L.map fun p => hv p.2 (20 - p.1).toNat) (x - 20).toNat
  rw [← hcomp] at hs
  have e2' : ((L.drop k ++ L.take k).map fun p => hv p.2 (x - p.1).toNat).sum = ((L.take k).map fun p => hv p.2 (x - p.1).toNat).sum + ((L.drop k).map fun p => hv p.2 (x - p.1).toNat).sum := by
    rw [List.map_append, sum_app]; omega
  simp only [List.length_map] at s1 s5 hs
  rw [e1, e2, e3, e4, e5, e2', ← hsplit]
  refine ⟨rfl, rfl, hs.1, ?_, by omega, by omega⟩
  rcases hs.2 with h | h
  · exact .inl h
  · refine .inr ?_
    have : L = [] := by simpa using h
    subst this
    simp [hv_none]
theorem sums_law2 (L : List (Int × Int)) (k : Nat) (x : Int) (hL : ∀ p ∈ L, 0 ≤ p.1 ∧ p.1 ≤ 20 ∧ 0 ≤ p.2 ∧ p.2 ≤ 65535) (hn : L.length ≤ 12) (hx : 20 ≤ x) (hx2 : x < 40) :
    ∃ a b d s u, tot (L.map fun p => hv p.2 (x - p.1).toNat) = a ∧ tot ((L.drop k ++ L.take k).map fun p => hv p.2 (x - p.1).toNat) = a ∧ tot ((L.take k).map fun p => hv p.2 (x - p.1).toNat) = b ∧
      tot ((L.drop k).map fun p => hv p.2 (x - p.1).toNat) = d ∧ tot (L.map fun p => hv p.2 (20 - p.1).toNat) = s ∧ hv s (x - 20).toNat = u ∧ a = b + d ∧ a ≤ u ∧ (u < a + L.length ∨ L.length = 0 ∧ u = 0) ∧ 0 ≤ s ∧ s ≤ 1000000 ∧ 0 ≤ a ∧ a ≤ 1000000 := by
  obtain ⟨h1, h2, h3, h4, h5, h6⟩ := sums_law L k x hL hn hx hx2
  exact ⟨_, _, _, _, _, rfl, h1.symm, rfl, rfl, rfl, rfl, h2, h3, h4, h5.1, h5.2, h6.1, h6.2⟩
set_option maxHeartbeats 1000000 in
set_option maxRecDepth 100000 in
theorem sums_walk (A : Option Addr) (n c : Nat) (l : List (Int × Int)) (x y : Int) (w : World) (hr : Rd w 0 2 A n (ucells l)) (hn : n ≤ maxLen) (hl : ∀ p ∈ l, 0 ≤ p.1 ∧ p.1 ≤ 65535 ∧ 0 ≤ p.2 ∧ p.2 ≤ 65535)
    (hx0 : 0 ≤ x) (hx1 : x ≤ 255) (hy0 : 0 ≤ y) (hy1 : y ≤ 255) :
    Calls Try.prog 7 #[.slice A n c, .agg #[.int .u8 x, .int .u8 y]] w fun e w' => e = .returned (.bool true) ∧ Below w.heap.size w w' := by
  go_enter Try.func7, Try.ntmps7
  go_wp2_with fail
  refine (sanity_any _).mono ?_
  rintro e w1 ⟨rfl, hb⟩
  have W1 := (Blk.new w 36 #[.int .u8 x, .int .u8 y]).below hb (Nat.le_refl _)
  have L1 : Below w.heap.size w w1 := Below.trans (by go_grown) (hb.mono (by (try simp); (try omega)))
  have hz1 := L1.size
  clear hb 
  obtain ⟨wc0, wc1, wc2, wc3⟩ := W1.f2
  go_wp2_with fail
  have hr1 : Rd w1 0 2 A n (ucells l) := hr.below L1 (Nat.le_refl _)
  refine (some_any A n c l _ hr1 hn hl).mono ?_
  rintro e w2 ⟨v, rfl, hsl, hb⟩
  have W2 := (W1).below hb (Nat.le_refl _)
  have L2 : Below w.heap.size w w2 := Below.trans (by go_grown) (hb.mono (by (try simp); (try omega)))
  have hz2 := L2.size
  clear hb W1 wc0 wc1 wc2 wc3 L1 hz1
  obtain ⟨wc0, wc1, wc2, wc3⟩ := W2.f2
  obtain ⟨A1, c1, rfl, hrd, hc1, hc2⟩ := hsl
  have hm := tal_len l
  have hT := tal_in l hl
  generalize hL : tal l = L at *
  have HL := Lib.hid hL; clear hL hr1
  have HT := Lib.hid hT; clear hT
  unfold maxLen at hc2
  obtain ⟨i0, hi0, hz0, hz1, hz2⟩ := info_parts tal_info
  obtain ⟨k, hk⟩ : ∃ k : Nat, x % (↑L.length + 1) = (k : Int) := ⟨(x % (↑L.length + 1)).toNat, by have := Int.emod_nonneg x (b := ↑L.length + 1) (by omega); omega⟩
  have hk1 : k ≤ L.length := by have := Int.emod_lt_of_pos x (b := ↑L.length + 1) (by omega); omega
  have htk := hrd.take hk1
  have hct := hrd.cut hk1 hc1
  rw [tcells_drop] at hct
  rw [tcells_take] at htk
  obtain ⟨a, b, d, s, u, ea, eb, ec, ed, es, eu, hsum, hle, hlt, hs0, hs1, ha0, ha1⟩ := sums_law2 L k (20 + y % 20) HT.out hm (by omega) (by omega)
  have EA := Lib.hid ea; have EB := Lib.hid eb; have EC := Lib.hid ec; have ED := Lib.hid ed; have ES := Lib.hid es; have EU := Lib.hid eu
  clear ea eb ec ed es eu
  go_wp2_with (at_builtin; apply halt_here)
  all_goals first
    | rw [if_pos (by assumption)] at hct
    | rw [if_neg (by assumption)] at hct
  all_goals apply go_on
  all_goals (
    refine wpList_app rfl _ _ 44 rfl w2.heap.size 26 i0 _ 2 16 Try.underlying44 hi0 hz0 hz1 hz2 rfl (by decide) _ _ _ rfl (World.ownsRow_made w2 #[] 0 (Nat.le_refl _) (by simp [maxLen]) (by simp)) 26 _ _ _ _ rfl (hct.alloc _) (tcells_one _) (by simp only [maxLen]; omega) (by omega) (by simp) ?_
    intro v8 w8 hown8 _ _ hb8
    have L8 : Below w2.heap.size w2 w8 := Below.trans (by go_grown) hb8
    clear hb8
    go_wp2_with (at_builtin; apply halt_here)
    apply go_on
    refine wpList_app rfl _ _ 44 rfl w2.heap.size 26 i0 _ 2 16 Try.underlying44 hi0 hz0 hz1 hz2 rfl (by decide) _ _ _ rfl hown8 26 _ k _ _ rfl (htk.below L8 (Nat.le_refl _)) (tcells_one _) (by simp only [maxLen]; omega) (by omega) L8.size ?_
    intro v9 w9 hown9 _ _ hb9
    have L9 := L8.trans hb9
    have hs9 := L9.size
    clear hb9 L8 hown8
    have hrd9 := hrd.below L9 (Nat.le_refl _)
    have htk9 := htk.below L9 (Nat.le_refl _)
    have hct9 := hct.below L9 (Nat.le_refl _)
    have WW := W2.below L9 (Nat.le_refl _)
    clear wc0 wc1 wc2 W2 hrd htk hct
    obtain ⟨wc0, wc1, wc2, _⟩ := WW.f2
    obtain ⟨A9, c9, rfl, hr9, hc9, hm9⟩ := own_form hown9
    have hr9' : Rd w9 26 2 A9 L.length (tcells (L.drop k ++ L.take k)) := by
      have e : 0 + (L.length - k) + k = L.length := by omega
      rw [e] at hr9
      simpa [tcells_append] using hr9
    have e9 : 0 + (L.length - k) + k = L.length := by omega
    rw [e9] at hc9 ⊢
    clear hr9 hown9
    go_wp2_with fail
    go_quiet (fail)
    go_wp2_with fail
    refine (sum_lit A1 _ L.length 26 L (20 + y % 20) a _ (hrd9.drewN _) EA.out (by omega) (fun p hp => by have h0 := HT.out p hp; omega)).mono ?_
    rintro e w10 ⟨rfl, hb⟩
    have L10 : Below w2.heap.size w2 w10 := Below.trans (below_drewN L9 _) (hb.mono (by (try simp); (try omega)))
    have hrd10 := (hrd9.drewN nq).below hb (Nat.le_refl _)
    have htk10 := (htk9.drewN nq).below hb (Nat.le_refl _)
    have hct10 := (hct9.drewN nq).below hb (Nat.le_refl _)
    have hr910 := (hr9'.drewN nq).below hb (Nat.le_refl _)
    have hs10 := L10.size
    clear hb hrd9 htk9 hct9 hr9' L9 hs9
    go_wp2_with fail
    refine (sum_lit A9 _ L.length 26 (L.drop k ++ L.take k) (20 + y % 20) a _ hr910 EB.out (by omega) (fun p hp => by have h0 := HT.out p (by rcases List.mem_append.1 hp with h | h; exact List.mem_of_mem_drop h; exact List.mem_of_mem_take h); omega)).mono ?_
    rintro e w11 ⟨rfl, hb⟩
    have L11 : Below w2.heap.size w2 w11 := Below.trans L10 (hb.mono (by omega))
    have hs11 := L11.size
    have hrd11 := hrd10.below hb (Nat.le_refl _)
    have htk11 := htk10.below hb (Nat.le_refl _)
    have hct11 := hct10.below hb (Nat.le_refl _)
    have hr911 := hr910.below hb (Nat.le_refl _)
    clear hb hrd10 htk10 hct10 hr910 L10 hs10
    go_wp2_with fail
    refine (sum_lit A1 _ k 26 (L.take k) (20 + y % 20) b _ htk11 EC.out (by omega) (fun p hp => by have h0 := HT.out p (List.mem_of_mem_take hp); omega)).mono ?_
    rintro e w12 ⟨rfl, hb⟩
    have L12 : Below w2.heap.size w2 w12 := Below.trans L11 (hb.mono (by omega))
    have hs12 := L12.size
    have hrd12 := hrd11.below hb (Nat.le_refl _)
    have htk12 := htk11.below hb (Nat.le_refl _)
    have hct12 := hct11.below hb (Nat.le_refl _)
    have hr912 := hr911.below hb (Nat.le_refl _)
    clear hb hrd11 htk11 hct11 hr911 L11 hs11
    go_wp2_with fail
    refine (sum_lit _ _ (L.length - k) 26 (L.drop k) (20 + y % 20) d _ hct12 ED.out (by omega) (fun p hp => by have h0 := HT.out p (List.mem_of_mem_drop hp); omega)).mono ?_
    rintro e w13 ⟨rfl, hb⟩
    have L13 : Below w2.heap.size w2 w13 := Below.trans L12 (hb.mono (by omega))
    have hs13 := L13.size
    have hrd13 := hrd12.below hb (Nat.le_refl _)
    have htk13 := htk12.below hb (Nat.le_refl _)
    have hct13 := hct12.below hb (Nat.le_refl _)
    have hr913 := hr912.below hb (Nat.le_refl _)
    clear hb hrd12 htk12 hct12 hr912 L12 hs12
    go_wp2_with fail
    refine (sum_lit A1 _ L.length 26 L 20 s _ hrd13 ES.out (by omega) (fun p hp => by have h0 := HT.out p hp; omega)).mono ?_
    rintro e w14 ⟨rfl, hb⟩
    have L14 : Below w2.heap.size w2 w14 := Below.trans L13 (hb.mono (by omega))
    have hs14 := L14.size
    have hrd14 := hrd13.below hb (Nat.le_refl _)
    have htk14 := htk13.below hb (Nat.le_refl _)
    have hct14 := hct13.below hb (Nat.le_refl _)
    have hr914 := hr913.below hb (Nat.le_refl _)
    clear hb hrd13 htk13 hct13 hr913 L13 hs13
    go_wp2_with fail
    refine (at_lit 20 s (20 + y % 20) u _ EU.out (by omega)).mono ?_
    rintro e w15 ⟨rfl, hb⟩
    have L15 : Below w.heap.size w w15 := L2.trans ((Below.trans L14 (hb.mono (by (try simp); (try omega)))).mono L2.size)
    clear hb L14 L2
    by_cases hL0 : L.length = 0
    · have hu : u = 0 := by omega
      have ho : b + d = 0 := by omega
      go_wp2
      go_ret
      exact ⟨by first | rfl | (simp [hu, ho]; done), L15⟩
    · go_wp2
      go_ret
      exact ⟨rfl, L15⟩)

set_option maxRecDepth 100000 in
theorem decaySums_lifted (os : Os) (started : os.Started) (H : Type) (enc : TypeId × Value → H) :
    ReturnsInHanded {} Try.checked os 7 .any (Rows.decaySumsSpec.pre6 enc Try.prog Try.f7 Rows.decaySumsRow.domain false) (Rows.decaySumsSpec.post enc Try.prog Try.f7 false true false false) := by
  refine returnsInHanded_of_change (C := Try.checked) own started (by kernel_rfl) Try.func7
    (ChangeSpec.witness6 (enc := enc) (C := Try.checked) false ⟨#[], #[.slice none 0 0, .agg #[.int .u8 0, .int .u8 0]], []⟩ 8 (by kernel_rfl) (by kernel_rfl) (by kernel_rfl) (by kernel_rfl)) ?_
  intro W base args ds gs before hval0 hW hcnd _
  have hval : ∀ (j : Nat) t v, Try.f7.params[j]? = some t → args[j]? = some v → Value.okWide Try.prog W .any base t v := hval0
  have hW' := hW
  obtain ⟨p, q, hA0, hV, rfl, hfz, hnd⟩ := hW
  have hA : DataW.TrodAll enc Try.prog W 0 (fun _ => true) true Try.f7.params.toList args.toList ds p := hA0
  rw [Try.params7] at hA hval
  obtain ⟨v0, vs0, d0, ds0, p0, q0, hargs, rfl, rfl, h0, r0⟩ := trodAll_cons hA
  obtain ⟨v1, vs1, d1, ds1, p1, q1, rfl, rfl, rfl, h1, r1⟩ := trodAll_cons r0
  obtain ⟨rfl, rfl, rfl⟩ := trodAll_nil r1
  obtain rfl : args = #[v0, v1] := by cases args; simp_all
  obtain ⟨rfl, rfl⟩ := trodVars_none hV
  obtain ⟨A0, n0, c0, els0, rfl, hnc0, hcm0, hrd0, hel0⟩ := open_slice_rd (e := 50) (sz := 2) Try.underlying43 (by kernel_rfl) (by omega) (hval 0 43 v0 rfl rfl) h0
  obtain ⟨l0, hl10, hl20, hl30⟩ := list_of els0 (fun p : Int × Int => [.int .u16 p.1, .int .u16 p.2]) (fun p => 0 ≤ p.1 ∧ p.1 ≤ 65535 ∧ 0 ≤ p.2 ∧ p.2 ≤ 65535) n0 (fun i hi => by
    obtain ⟨_, fuel, x, hx⟩ := hel0 i hi
    obtain ⟨a, b, hab, wa, wb⟩ := trod_arr2 (k := .u16) Try.underlying50 Try.underlying49 (by kernel_rfl) (by kernel_rfl) hx
    have ha : 0 ≤ a ∧ a ≤ 65535 := by simpa [Lit.wf, IntKind.min, IntKind.max, IntKind.signed, IntKind.bits] using wa
    have hb : 0 ≤ b ∧ b ≤ 65535 := by simpa [Lit.wf, IntKind.min, IntKind.max, IntKind.signed, IntKind.bits] using wb
    exact ⟨(a, b), hab, ha.1, ha.2, hb.1, hb.2⟩)
  rw [hl20] at hrd0
  obtain ⟨ns1, rfl, ln1, hw1⟩ := open_intarr (k := .u8) Try.underlying36 Try.underlying5 (by kernel_rfl) (by kernel_rfl) (hval 1 36 v1 rfl rfl) h1
  obtain ⟨a1x, a1y, rfl⟩ := list2 ln1
  have ba1x : 0 ≤ a1x ∧ a1x ≤ 255 := by simpa [Lit.wf, IntKind.min, IntKind.max, IntKind.signed, IntKind.bits] using hw1 a1x (by simp)
  have ba1y : 0 ≤ a1y ∧ a1y ≤ 255 := by simpa [Lit.wf, IntKind.min, IntKind.max, IntKind.signed, IntKind.bits] using hw1 a1y (by simp)
  clear hA0 hval0
  refine (sums_walk A0 n0 c0 l0 a1x a1y W hrd0 (Nat.le_trans hnc0 hcm0) hl30 ba1x.1 ba1x.2 ba1y.1 ba1y.2).mono fun e W' ⟨he, hg⟩ => ?_
  subst he
  exact ⟨_, rfl, law_post laidOut (by kernel_rfl) rfl hW' (fun _ _ _ => (trodAll_cons_mk (shut_bool Try.underlying4 _) trodAll_mk0)) (fun _ => ⟨rfl, rfl⟩) hg⟩

theorem decaySums_over : Rows.decaySumsRow.holds Try.pinned (OpenSpec.ofChange Rows.decaySumsSpec) :=
  OpenClaim.holds_of_wide 7 Try.f7 rfl rfl rfl rfl rfl rfl rfl ⟨rfl, rfl, rfl, rfl, rfl⟩ rfl rfl rfl rfl rfl (by kernel_rfl) Try.func7 (by kernel_rfl)
    (of_decide_eq_true (by kernel_rfl)) (by unfold Func.isWrapper; first | (rw [if_pos (by decide +kernel)]; kernel_rfl) | (rw [if_neg (by decide +kernel)]; exact ⟨rfl, rfl⟩))
    (fun os started H enc _ => decaySums_lifted os started H enc)
theorem decaySums_proved : Rows.DecaySumsSaid := decaySums_over
end Go.Proofs.Ytidfmmgakifkoaa
