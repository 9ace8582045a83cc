/-
  DawgSpoilt.
-/
import Derived.Test.YtmmihcophkipoaaDoorSan
import Derived.Test.YtmmihcophkipoaaDoorD36
namespace Go.Proofs.YtmmihcophkipoaaDoor
open Go.ChangeShapes Go.WideShapes Go.ChangeAt Go.RowKit
set_option linter.unusedVariables false
set_option linter.unusedSimpArgs false
/-- the nodes of an automaton, as cells, their rows of arcs typed -/
def Nt (w : World) (d : Au) (cs : List Value) : Prop := ∀ i (h : i < d.length), ∃ a c, cs[i * 2]? = some (.bool d[i].1) ∧ cs[i * 2 + 1]? = some (.slice a d[i].2.length c) ∧ Rd w 49 2 a d[i].2.length (acells d[i].2) ∧ d[i].2.length ≤ c ∧ c ≤ maxLen
def Dt (w : World) (A : Option Addr) (d : Au) : Prop := ∃ cs : List Value, Rd w 44 2 A d.length cs ∧ Nt w d cs
theorem Nds.dt {Z : Nat → Prop} {w : World} {V : List (List W)} {dcs : List Value} {A : Option Addr} (h : Nds Z w V (fun _ => False) dcs) (hr : Rd w 44 2 A V.length dcs) : Dt w A (V.map (node V)) := by
  refine ⟨dcs, by rw [List.length_map]; exact hr, fun i hi => ?_⟩
  rw [List.length_map] at hi
  obtain ⟨f, v, h1, h2, a, c, rfl, rfl, h3, h4, h5, _⟩ := h i hi (fun e => e)
  have e : (V.map (node V))[i]'(by rw [List.length_map]; exact hi) = node V V[i] := by simp
  rw [e]
  have e2 : (node V V[i]).2.length = (grp V[i]).length := by simp [node]
  exact ⟨a, c, h1, by rw [e2]; exact h2, by rw [e2]; exact h3, by rw [e2]; exact h4, h5⟩
set_option maxHeartbeats 2000000 in
set_option maxRecDepth 100000 in
theorem of_t (l : List W) (hs : Sh 22 l) (hu : Up l) (hne : l ≠ []) (hby : ∀ u ∈ l, ∀ b ∈ u, 33 ≤ b.toNat ∧ b.toNat < 127) (hl : l.length ≤ 1000) (hN : (ends l).length ≤ 100000) (w : World) (A : Option Addr) (c : Nat) (hr : Rd w 9 1 A l.length (sv l)) (hc1 : l.length ≤ c) (hc2 : c ≤ maxLen) :
    Calls Tryd.prog 22 #[.slice A l.length c] w fun e w' => ∃ A' c', e = .returned (.slice A' (auto l).length c') ∧ (auto l).length ≤ c' ∧ c' ≤ maxLen ∧ Dt w' A' (auto l) ∧ Ext w w' := by
  go_enter Tryd.func22, Tryd.ntmps22
  go_wp2_with fail
  have hSt : St (fun _ => False) w.heap.size w.heap.size [] (fun _ => False) (.slice none 0 0) (.slice none 0 0) (w.alloc (Obj.cells #[.slice none 0 0, .slice none 0 0] 95)) :=
    ⟨Blk.new w 95 _, ⟨[], World.ownsRow_nil _ _ _ _, fun i h => absurd h (by simp)⟩, ⟨[], World.ownsRow_nil _ _ _ _, fun i h => absurd h (by simp)⟩⟩
  refine (node_any w.heap.size w.heap.size (Nat.le_refl _) 22 (fun _ => False) l [] (fun _ => False) _ _ A c _ hs hu hne hby hl hN (hr.alloc _) hc1 hc2 hSt (by simp) (fun _ h => h.elim)).mono ?_
  rintro e w1 ⟨rfl, dv, rv, hS, hK, _, _⟩
  have hE : Ext w w1 := Below.trans (Ext.alloc w _) ((hK.below (B := w.heap.size) (by simp) (fun i h => by rcases h with h | h | h; exact Nat.le_of_eq h.symm; cases h; cases h)))
  change St _ _ _ (ends l) _ _ _ _ at hS
  obtain ⟨x0, x1, x2, x3⟩ := hS.X.f2
  obtain ⟨dcs, D, N⟩ := hS.D
  obtain ⟨Ad, cd, rfl, rd, h1, h2⟩ := own_form D
  have hd := N.dt rd
  have hlen : (auto l).length = (ends l).length := by unfold auto; rw [List.length_map]
  have HD : Hid (Dt w1 Ad (auto l)) := Lib.hid hd
  have HL := Lib.hid hlen
  clear hlen
  go_wp2
  go_ret
  exact ⟨Ad, cd, by rw [HL.out]; rfl, by rw [HL.out]; exact h1, h2, HD.out, hE⟩

theorem Dt.ext {w w' : World} {A : Option Addr} {d : Au} (h : Dt w A d) (hE : Ext w w') : Dt w' A d := by
  obtain ⟨cs, h1, h2⟩ := h
  refine ⟨cs, h1.ext hE, fun i hi => ?_⟩
  obtain ⟨a, c, k1, k2, k3, k4⟩ := h2 i hi
  exact ⟨a, c, k1, k2, k3.ext hE, k4⟩
/-- what the changed automaton reads as: node n has the mark b and the arcs al -/
def chg (d : Au) (n : Nat) (b : Bool) (al : List (UInt8 × Int)) : Au := d.set n (b, al)
theorem chg_len (d : Au) (n : Nat) (b : Bool) (al : List (UInt8 × Int)) : (chg d n b al).length = d.length := List.length_set
theorem chg_arcs {d : Au} {n : Nat} {b : Bool} {al : List (UInt8 × Int)} {k : Nat} (h : ∀ x ∈ d, x.2.length ≤ k) (hal : al.length ≤ k) : ∀ x ∈ chg d n b al, x.2.length ≤ k := by
  intro x hx
  rcases List.mem_or_eq_of_mem_set hx with h1 | rfl
  · exact h x h1
  · exact hal
theorem dw_chg {w w' : World} {d : Au} {cs : List Value} {g cap n base : Nat} {b : Bool} {al : List (UInt8 × Int)} {a : Option Addr} {c : Nat} {S : Nat → Prop} (hN : Nt w d cs) (hn : n < d.length) (hl : cs.length = d.length * 2)
    (hK : Kp S w w') (hS : ∀ (i : Nat) cur fr, w.heap[i]? = some (.cells cur 49 fr) → ¬ S i)
    (hO : w'.ownsRow base 44 2 (.slice (some ⟨g, 0, none⟩) d.length cap) d.length ((cs.set (n * 2) (.bool b)).set (n * 2 + 1) (.slice a al.length c)))
    (ha : Rd w' 0 2 a al.length (acells al)) (hc1 : al.length ≤ c) (hc2 : c ≤ maxLen) : Dw w' (some ⟨g, 0, none⟩) (chg d n b al) := by
  refine ⟨_, by rw [chg_len]; exact (Rd.of_own hO).untyped, fun i hi0 => ?_⟩
  have hi : i < d.length := by rw [← chg_len d n b al]; exact hi0
  by_cases e : i = n
  · subst e
    have e1 : (chg d i b al)[i]'hi0 = (b, al) := by simp [chg]
    rw [e1]
    refine ⟨a, c, ?_, ?_, ha, hc1, hc2⟩
    · rw [List.getElem?_set_ne (by omega), List.getElem?_set_self (by omega)]
    · rw [List.getElem?_set_self (by rw [List.length_set]; omega)]
  · have e1 : (chg d n b al)[i]'hi0 = d[i] := by simp [chg, List.getElem_set, Ne.symm e]
    rw [e1]
    obtain ⟨a', c', k1, k2, k3, k4, k5⟩ := hN i hi
    refine ⟨a', c', ?_, ?_, (k3.kp (by decide) hK hS).untyped, k4, k5⟩
    · rw [List.getElem?_set_ne (by omega), List.getElem?_set_ne (by omega)]; exact k1
    · rw [List.getElem?_set_ne (by omega), List.getElem?_set_ne (by omega)]; exact k2

theorem Ext.trans' {a b c : World} {B : Nat} (h : Ext a b) (k : Below B b c) (hB : a.heap.size ≤ B) : Ext a c := Below.trans h (Below.mono k hB)
theorem own_node {w : World} {base n : Nat} {xs : List Value} {v : Value} (h : w.ownsRow base 44 2 v n xs) (hn : 0 < n) : ∃ g cap, v = .slice (some ⟨g, 0, none⟩) n cap ∧ base ≤ g ∧ (∃ cur, w.heap[g]? = some (.cells cur 44 (0, 0))) ∧ n ≤ cap ∧ cap ≤ maxLen := by
  rcases h.2 with ⟨_, rfl⟩ | ⟨g, cap, cur, e1, e2, e3, e4, e5, _⟩
  · omega
  · exact ⟨g, cap, e1, e2, ⟨cur, e3⟩, e4, e5⟩
theorem Nt.one {w : World} {d : Au} {cs : List Value} (h : Nt w d cs) (hl : cs.length = d.length * 2) : ∀ u ∈ cs, u.oneCell' = true := by
  intro u hu
  obtain ⟨j, hj, rfl⟩ := List.getElem_of_mem hu
  obtain ⟨a, c, k1, k2, _⟩ := h (j / 2) (by omega)
  rcases Nat.mod_two_eq_zero_or_one j with e | e
  · have e2 : j / 2 * 2 = j := by omega
    rw [e2, List.getElem?_eq_getElem hj] at k1
    injection k1 with k1; rw [k1]; rfl
  · have e2 : j / 2 * 2 + 1 = j := by omega
    rw [e2, List.getElem?_eq_getElem hj] at k2
    injection k2 with k2; rw [k2]; rfl
theorem dw_chg_k {w w' : World} {d : Au} {cs : List Value} {g cap n base k : Nat} {b : Bool} {al : List (UInt8 × Int)} {a : Option Addr} {c : Nat} {S : Nat → Prop} (hk : al.length = k) (hN : Nt w d cs) (hn : n < d.length) (hl : cs.length = d.length * 2)
    (hK : Kp S w w') (hS : ∀ (i : Nat) cur fr, w.heap[i]? = some (.cells cur 49 fr) → ¬ S i)
    (hO : w'.ownsRow base 44 2 (.slice (some ⟨g, 0, none⟩) d.length cap) d.length ((cs.set (n * 2) (.bool b)).set (n * 2 + 1) (.slice a k c)))
    (ha : Rd w' 0 2 a k (acells al)) (hc1 : k ≤ c) (hc2 : c ≤ maxLen) : Dw w' (some ⟨g, 0, none⟩) (chg d n b al) := by
  subst hk
  exact dw_chg hN hn hl hK hS hO ha hc1 hc2
theorem dict_arcs2 {l : List W} (h : dict l = true) : ∀ x ∈ auto l, x.2.length ≤ 200 := by
  intro x hx
  obtain ⟨_, _, _, _, h5⟩ := dict_parts h
  have hE := dict_ends h
  unfold auto at hx
  obtain ⟨m, hm, rfl⟩ := List.mem_map.1 hx
  have h1 := grp_len m
  have h2 := hE.len m hm
  have h3 : (node (ends l) m).2.length = (grp m).length := by simp [node]
  omega
theorem set_same {cs : List Value} {i : Nat} {v : Value} (h : cs[i]? = some v) : cs.set i v = cs := by
  apply List.ext_getElem?
  intro j
  by_cases e : i = j
  · subst e
    rw [List.getElem?_set_self (List.getElem?_eq_some_iff.1 h).1, h]
  · rw [List.getElem?_set_ne e]
theorem pvalid_k (A : Option Addr) (c k : Nat) (d : Au) (hk : d.length = k) (hdl : k ≤ 1000000) (hal : ∀ x ∈ d, x.2.length ≤ 1000000) (w : World) (hd : Dw w A d) (hT : Tb w) :
    Calls Tryd.prog 23 #[.slice A k c] w fun e w' => e = .returned (.bool (validB d)) ∧ Ext w w' := by
  subst hk
  have := pvalid_any d hdl hal w A c hd hT
  rwa [progV_eq] at this
theorem rvalid_k (A : Option Addr) (c k : Nat) (d : Au) (hk : d.length = k) (hdl : k ≤ 1000000) (hal : ∀ x ∈ d, x.2.length ≤ 1000000) (w : World) (hd : Dw w A d) :
    Calls Tryd.prog 34 #[.slice A k c] w fun e w' => e = .returned (.bool (validB d)) ∧ Ext w w' := by
  subst hk
  exact rvalid_any d hdl hal w A c hd
theorem acells_cons (a : UInt8 × Int) (l : List (UInt8 × Int)) : acells (a :: l) = .int .u8 a.1.toNat :: .int .i64 a.2 :: acells l := rfl
theorem acells_to (l : List (UInt8 × Int)) (z : Int) : ∀ (m : Nat) (h : m < l.length), (acells l).set (m * 2 + 1) (.int .i64 z) = acells (l.set m (l[m].1, z)) := by
  induction l with
  | nil => intro m h; simp at h
  | cons a l ih =>
    intro m h
    cases m with
    | zero => rw [acells_cons]; rfl
    | succ m =>
      have := ih m (by simpa using h)
      rw [acells_cons, show (m + 1) * 2 + 1 = (m * 2 + 1) + 1 + 1 by omega, List.set_cons_succ, List.set_cons_succ, this]
      rfl
theorem acells_c (l : List (UInt8 × Int)) (b : UInt8) : ∀ (m : Nat) (h : m < l.length), (acells l).set (m * 2) (.int .u8 b.toNat) = acells (l.set m (b, l[m].2)) := by
  induction l with
  | nil => intro m h; simp at h
  | cons a l ih =>
    intro m h
    cases m with
    | zero => rw [acells_cons]; rfl
    | succ m =>
      have := ih m (by simpa using h)
      rw [acells_cons, show (m + 1) * 2 = (m * 2) + 1 + 1 by omega, List.set_cons_succ, List.set_cons_succ, this]
      rfl
theorem own_arc {w : World} {base n : Nat} {xs : List Value} {v : Value} (h : w.ownsRow base 49 2 v n xs) (hn : 0 < n) : ∃ g cap, v = .slice (some ⟨g, 0, none⟩) n cap ∧ base ≤ g := by
  rcases h.2 with ⟨_, rfl⟩ | ⟨g, cap, cur, e1, e2, _⟩
  · omega
  · exact ⟨g, cap, e1, e2⟩
attribute [local go_sem] bs_beq bs_bne bs_less bs_size
set_option maxHeartbeats 40000000 in
set_option maxRecDepth 100000 in
theorem spoilt_walk (A A2 : Option Addr) (c c2 : Nat) (ll : List (List UInt8)) (x : Au) (a0 a1 a2 a3 : Int) (w : World) (hT : Tb w) (hr : Bss w A ll) (hl : ll.length ≤ maxLen) (hx : Dw w A2 x) (hxc : x.length ≤ c2) (hcm : c2 ≤ maxLen)
    (h0 : -128 ≤ a0 ∧ a0 ≤ 127) (h1 : -128 ≤ a1 ∧ a1 ≤ 127) (h2 : -128 ≤ a2 ∧ a2 ≤ 127) (h3 : -128 ≤ a3 ∧ a3 ≤ 127) (hxw : ∀ y ∈ x, ∀ a ∈ y.2, (Lit.int .i64 a.2).wf = true) :
    Calls Tryd.prog 8 #[.slice A ll.length c, .slice A2 x.length c2, .agg #[.int .i8 a0, .int .i8 a1, .int .i8 a2, .int .i8 a3]] w fun e w' => e = .returned (.bool true) ∧ Ext w w' := by
  go_enter Tryd.func8, Tryd.ntmps8
  go_wp2_with fail
  have X0 : Ext w (w.alloc (Obj.cells #[.int .i8 a0, .int .i8 a1, .int .i8 a2, .int .i8 a3] 59)) := Ext.alloc _ _
  have hbx := Blk.new w 59 #[.int .i8 a0, .int .i8 a1, .int .i8 a2, .int .i8 a3]
  refine (sanity_any _ (hT.ext X0)).mono ?_
  rintro e w1 ⟨rfl, X1⟩
  have hbx1 := hbx.ext X1
  have X1' := X0.trans X1
  have hsz : w.heap.size < w1.heap.size := by have := X1.le; simp at this; omega
  clear X0 X1 hbx
  by_cases h6 : x.length ≤ 6
  · have h6' : ¬ ((6 : Int) < x.length) := by omega
    have hx1 := hx.ext X1'
    go_wp2_with fail
    go_loopw [8] (fun i wr => ∃ k : Nat, k ≤ x.length ∧ i = .int .i64 k ∧ (∀ j (h : j < x.length), j < k → x[j].2.length ≤ 4) ∧ wr = w1) (fun i _ => 1000 - (intOf i).toNat)
    case atStart => exact ⟨0, by omega, by go_num, fun j _ h => absurd h (by omega), rfl⟩
    case round =>
      obtain ⟨k, hk, rfl, hsm, rfl⟩ := hrel
      by_cases hlt : k < x.length
      · have hlt' : (k : Int) < x.length := by omega
        obtain ⟨ad, a, ca, e1, hb, d0, d1, _⟩ := hx1.at_ hlt
        subst e1
        by_cases h4 : x[k].2.length ≤ 4
        · have h4' : ¬ ((4 : Int) < x[k].2.length) := by omega
          have HS := Lib.hid (show ∀ j (h : j < x.length), j < k + 1 → x[j].2.length ≤ 4 from fun j hj hk' => by
            by_cases e : j = k
            · subst e; exact h4
            · exact hsm j hj (by omega))
          clear hsm
          go_wp2
          exact ⟨⟨k + 1, by omega, by go_num, HS.out, trivial⟩, by simp only [intOf]; omega⟩
        · have h4' : (4 : Int) < x[k].2.length := by omega
          clear hsm
          go_wp2
          go_ret
          exact ⟨rfl, X1'⟩
      · obtain rfl : k = x.length := by omega
        have hall : ∀ y ∈ x, y.2.length ≤ 1000000 := fun y hy => by
          obtain ⟨j, hj, rfl⟩ := List.getElem_of_mem hy
          have := hsm j hj hj; omega
        clear hsm hlt hk
        have hn : ¬ ((x.length : Int) < x.length) := by omega
        go_wp2_with fail
        refine (made_t A c 8 ll _ ((hr.ext X1').ext (Ext.alloc _ _)) hl (by omega)).mono ?_
        rintro e w2 ⟨v, rfl, hV, X2⟩
        have hd := made_dict ll 8 (by omega) (by omega)
        generalize made ll 8 = l at *
        obtain ⟨B, d, rfl, hB, hd1, hd2⟩ := hV
        obtain ⟨p1, p2, p3, p4, p5⟩ := dict_parts hd
        have hen := ends_len hd
        go_wp2_with fail
        refine (of_t l p1 p2 p3 p4 (by omega) (by omega) _ B d hB hd1 hd2).mono ?_
        rintro e w3 ⟨D, dc, rfl, hdc, hdm, hD, X3⟩
        have hal : (auto l).length ≤ 4001 := dict_alen hd
        have hap : 0 < (auto l).length := dict_apos hd
        have harc := dict_arcs hd
        have hfine := (dict_szs hd).fine
        have hla2 := dict_arcs2 hd
        generalize auto l = au at *
        have X13 : Ext wr w3 := ((Ext.alloc _ _).trans X2).trans X3
        have O0 : w3.ownsRow wr.heap.size 44 2 (.slice (some ⟨wr.heap.size, 0, none⟩) 0 0) 0 [] := own_below (World.ownsRow_made (base := wr.heap.size) (e := 44) (size := 2) wr #[] 0 (Nat.le_refl _) (by simp [maxLen]) (by simp)) (X2.trans X3) (Nat.le_refl _)
        obtain ⟨cs, hcs, hN⟩ := hD
        clear X2 X3 hB p1 p2 p3 p4 p5 hen hd
        go_wp2_with (at_builtin; apply halt_here)
        apply go_on
        obtain ⟨i0, hi0, hz0, hz1, hz2⟩ := info_parts node_info
        refine wpList_app rfl _ _ 28 rfl wr.heap.size 44 i0 _ 2 32 Tryd.underlying28 hi0 hz0 hz1 hz2 rfl (by decide) _ 0 [] rfl O0 44 _ _ _ cs rfl hcs (hN.one hcs.1) (by simp only [maxLen]; omega) (by omega) X13.le ?_
        intro v1 w4 O4 hg4 hq4 hb4
        rw [List.nil_append, Nat.zero_add] at O4
        have hg4' : w3.grownBy w4 (some wr.heap.size) := hg4
        obtain ⟨⟨cur0, hcur0⟩, _⟩ := own_typ O0 (show (Value.slice (some ⟨wr.heap.size, 0, none⟩) 0 0).ownBlock = some wr.heap.size from rfl)
        have K4 : Kp (fun i => i = wr.heap.size) w3 w4 := Kp.of_grown hg4' (fun i e => by injection e)
        have N4 : Nt w4 au cs := fun i hi => by
          obtain ⟨a, c, k1, k2, k3, k4⟩ := hN i hi
          refine ⟨a, c, k1, k2, k3.kp (by decide) K4 (fun b cur fr hb e => ?_), k4⟩
          subst e
          rw [hcur0] at hb
          injection hb with hb
          injection hb with _ hb
          cases hb
        have X14 : Ext w w4 := (X1'.trans X13).trans' hb4 (Nat.le_of_lt hsz)
        have hbx4 := hbx1.low (B := wr.heap.size) ((X13.below).trans hb4) hsz
        have hx4 := hx.ext X14
        obtain ⟨g, cap, rfl, hgb, ⟨cur, hcur⟩, hg1, hg2⟩ := own_node O4 hap
        have hcl : cs.length = au.length * 2 := hcs.1
        clear hi0 hz0 hz1 hz2 hg4 hq4 hb4 hg4' hcur0 K4 O0 hN hcs X1' X13 hbx1 hx1
        obtain ⟨q0, q1, q2, q3, _⟩ := hbx4.f4
        have hap' : (au.length : Int) ≠ 0 := by omega
        obtain ⟨n, hn1, hn2⟩ : ∃ n : Nat, a0 % 256 % (au.length : Int) = n ∧ n < au.length := by
          have := Int.emod_nonneg (a0 % 256) hap'
          have h2 := Int.emod_lt_of_pos (a0 % 256) (show (0 : Int) < au.length by omega)
          exact ⟨(a0 % 256 % (au.length : Int)).toNat, by omega, by omega⟩
        have hn1t : (a0 % 256).tmod (au.length : Int) = n := by rw [Int.tmod_eq_emod_of_nonneg (by omega)]; exact hn1
        obtain ⟨j, hj1, hj2⟩ : ∃ j : Nat, a1 % 256 % 4 = j ∧ j < 4 := ⟨(a1 % 256 % 4).toNat, by omega, by omega⟩
        have hj1t : (a1 % 256).tmod 4 = j := by rw [Int.tmod_eq_emod_of_nonneg (by omega)]; exact hj1
        have hnl : (n : Int) < au.length := by omega
        obtain ⟨an, cn, k1, k2, k3, k4, k5⟩ := N4 n hn2
        have c0 := (O4.cellAt (n * 2) (by omega)).trans k1
        have c1 := (O4.cellAt (n * 2 + 1) (by omega)).trans k2
        obtain ⟨fb, hfb⟩ : ∃ fb, au[n].1 = fb := ⟨_, rfl⟩
        have hto := hfine.to au[n] (List.getElem_mem hn2)
        have hla := hla2 au[n] (List.getElem_mem hn2)
        obtain ⟨al, hal2⟩ : ∃ al, au[n].2 = al := ⟨_, rfl⟩
        rw [hfb] at k1 c0
        rw [hal2] at k2 k3 k4 c1 hto hla
        clear hfb hal2 hfine
        have hgl : g < w4.heap.size := (Array.getElem?_eq_some_iff.1 hcur).1
        have OA0 : (w4.alloc (Obj.cells #[] 49)).ownsRow w4.heap.size 49 2 (.slice (some ⟨w4.heap.size, 0, none⟩) 0 0) 0 [] := World.ownsRow_made (base := w4.heap.size) (e := 49) (size := 2) w4 #[] 0 (Nat.le_refl _) (by simp [maxLen]) (by simp)
        go_wp2_with (at_builtin; apply halt_here)
        apply go_on
        obtain ⟨i0, hi0, hz0, hz1, hz2⟩ := info_parts arc_info
        refine wpList_app rfl _ _ 42 rfl w4.heap.size 49 i0 _ 2 16 Tryd.underlying42 hi0 hz0 hz1 hz2 rfl (by decide) _ 0 [] rfl OA0 49 _ _ _ (acells al) rfl (k3.alloc _) (acells_one al) (by simp only [maxLen]; omega) (by omega) (by simp) ?_
        intro av w5 OA hg5 hq5 hb5
        rw [List.nil_append, Nat.zero_add] at OA
        have X45 : Ext w4 w5 := (Ext.alloc w4 (Obj.cells #[] 49)).trans' hb5 (Nat.le_refl _)
        have O5 := own_below O4 X45 (Nat.le_refl _)
        have X15 := X14.trans X45
        have hbx5 := hbx4.ext X45
        have HK : Kp (fun i => i = g ∨ w4.heap.size ≤ i) w4 w5 := Kp.of_ext X45
        have c0' := (O5.cellAt (n * 2) (by omega)).trans k1
        have c1' := (O5.cellAt (n * 2 + 1) (by omega)).trans k2
        clear hi0 hz0 hz1 hz2 hg5 hq5 hb5 OA0 c0 c1 q0 q1 q2 q3 X14 O4
        obtain ⟨q0, q1, q2, q3, _⟩ := hbx5.f4
        have f0 := O5.frozenAt (n * 2)
        have f1 := O5.frozenAt (n * 2 + 1)
        obtain ⟨Aa, ca, rfl, hra, hca1, hca2⟩ := own_form OA
        have hKS : ∀ (i : Nat) cur' fr, w4.heap[i]? = some (.cells cur' 49 fr) → ¬ (i = g ∨ w4.heap.size ≤ i) := fun i cur' fr hb e => by
          rcases e with rfl | e
          · rw [hcur] at hb
            injection hb with hb
            injection hb with _ hb
            cases hb
          · have := (Array.getElem?_eq_some_iff.1 hb).1
            omega
        have hj : j = 0 ∨ j = 1 ∨ j = 2 ∨ j = 3 := by omega
        rcases hj with rfl | rfl | rfl | rfl
        · have O6 := own_put O5 (n * 2) (by omega) (.bool (!fb))
          have O7 := own_put O6 (n * 2 + 1) (by omega) (.slice Aa al.length ca)
          have K7 : Kp (fun i => i = g ∨ w4.heap.size ≤ i) w4 ((w5.setCell ⟨g, n * 2, none⟩ (.bool (!fb))).setCell ⟨g, n * 2 + 1, none⟩ (.slice Aa al.length ca)) :=
            Kp.trans (Kp.trans HK (Kp.of_set (S := fun i => i = g) _ _ _ rfl) (fun _ _ e => e) (fun _ _ e => .inl e)) (Kp.of_set (S := fun i => i = g) _ _ _ rfl) (fun _ _ e => e) (fun _ _ e => .inl e)
          have hra7 : Rd ((w5.setCell ⟨g, n * 2, none⟩ (.bool (!fb))).setCell ⟨g, n * 2 + 1, none⟩ (.slice Aa al.length ca)) 49 2 Aa al.length (acells al) := by
            have hcg : ∃ cur, w5.heap[g]? = some (.cells cur 44 (0, 0)) := (own_typ O5 rfl).1
            obtain ⟨cur5, hcg⟩ := hcg
            have hcg6 : ∃ cur, (w5.setCell ⟨g, n * 2, none⟩ (.bool (!fb))).heap[g]? = some (.cells cur 44 (0, 0)) := (own_typ O6 rfl).1
            obtain ⟨cur6, hcg6⟩ := hcg6
            exact (hra.set (by decide) hcg (by decide)).set (by decide) hcg6 (by decide)
          have hD7 := dw_chg (b := !fb) (al := al) N4 hn2 hcl K7 hKS O7 hra7.untyped hca1 hca2
          have X57 : Ext w ((w5.setCell ⟨g, n * 2, none⟩ (.bool (!fb))).setCell ⟨g, n * 2 + 1, none⟩ (.slice Aa al.length ca)) := (X15.setCell (by show w.heap.size ≤ g; omega) _).setCell (by show w.heap.size ≤ g; omega) _
          go_wp2_with fail
          generalize hwf : (w5.setCell ⟨g, n * 2, none⟩ (.bool (!fb))).setCell ⟨g, n * 2 + 1, none⟩ (.slice Aa al.length ca) = wf at *
          have hcl7 := chg_len au n (!fb) al
          have har7 := chg_arcs (n := n) (b := (!fb)) (al := al) harc (by omega)
          generalize chg au n (!fb) al = dd at *
          clear O7 K7 hra7 hwf
          refine (pvalid_k _ cap _ dd hcl7 (by omega) har7 _ hD7 (hT.ext X57)).mono ?_
          rintro e wa ⟨rfl, XA⟩
          go_wp2_with fail
          refine (rvalid_k _ cap _ dd hcl7 (by omega) har7 _ (hD7.ext XA)).mono ?_
          rintro e wb ⟨rfl, XB⟩
          have XAB := XA.trans XB
          have X5B := X57.trans XAB
          go_wp2_with fail
          refine (pvalid_k _ c2 _ x rfl (by omega) hall _ (hx.ext X5B) (hT.ext X5B)).mono ?_
          rintro e wc ⟨rfl, XC⟩
          have X5C := X5B.trans XC
          go_wp2_with fail
          refine (rvalid_k _ c2 _ x rfl (by omega) hall _ (hx.ext X5C)).mono ?_
          rintro e wd ⟨rfl, XD⟩
          go_wp2
          go_ret
          exact ⟨rfl, X5C.trans XD⟩
        · by_cases hle0 : al.length = 0
          · obtain rfl : al = [] := List.length_eq_zero_iff.1 hle0
            have O7 := own_put O5 (n * 2 + 1) (by omega) (.slice Aa 0 ca)
            have K7 : Kp (fun i => i = g ∨ w4.heap.size ≤ i) w4 (w5.setCell ⟨g, n * 2 + 1, none⟩ (.slice Aa 0 ca)) :=
              Kp.trans HK (Kp.of_set (S := fun i => i = g) _ _ _ rfl) (fun _ _ e => e) (fun _ _ e => .inl e)
            have hra7 : Rd (w5.setCell ⟨g, n * 2 + 1, none⟩ (.slice Aa 0 ca)) 49 2 Aa 0 (acells []) := by
              obtain ⟨cur6, hcg6⟩ := (own_typ O5 rfl).1
              exact hra.set (by decide) hcg6 (by decide)
            have hD7 := dw_chg_k (b := fb) (al := []) rfl N4 hn2 hcl K7 hKS (by rw [set_same k1]; exact O7) hra7.untyped (Nat.zero_le _) hca2
            have X57 : Ext w (w5.setCell ⟨g, n * 2 + 1, none⟩ (.slice Aa 0 ca)) := X15.setCell (by show w.heap.size ≤ g; omega) _
            have f1 := O5.frozenAt (n * 2 + 1)
            have c1n := (O5.cellAt (n * 2 + 1) (by omega)).trans k2
            go_wp2_with fail
            generalize hwf : w5.setCell ⟨g, n * 2 + 1, none⟩ (.slice Aa 0 ca) = wf at *
            have hcl7 := chg_len au n fb ([] : List (UInt8 × Int))
            have har7 := chg_arcs (n := n) (b := fb) (al := ([] : List (UInt8 × Int))) harc (by simp)
            generalize chg au n fb ([] : List (UInt8 × Int)) = dd at *
            clear O7 K7 hra7 hwf
            refine (pvalid_k _ cap _ dd hcl7 (by omega) har7 _ hD7 (hT.ext X57)).mono ?_
            rintro e wa ⟨rfl, XA⟩
            go_wp2_with fail
            refine (rvalid_k _ cap _ dd hcl7 (by omega) har7 _ (hD7.ext XA)).mono ?_
            rintro e wb ⟨rfl, XB⟩
            have XAB := XA.trans XB
            have X5B := X57.trans XAB
            go_wp2_with fail
            refine (pvalid_k _ c2 _ x rfl (by omega) hall _ (hx.ext X5B) (hT.ext X5B)).mono ?_
            rintro e wc ⟨rfl, XC⟩
            have X5C := X5B.trans XC
            go_wp2_with fail
            refine (rvalid_k _ c2 _ x rfl (by omega) hall _ (hx.ext X5C)).mono ?_
            rintro e wd ⟨rfl, XD⟩
            go_wp2
            go_ret
            exact ⟨rfl, X5C.trans XD⟩
          · have hz : (0 : Int) < al.length := by omega
            obtain ⟨g2, cap2, e2, hg2b⟩ := own_arc OA (by omega)
            injection e2 with e2 e3 e4
            subst e2 e4
            have hal0 : (al.length : Int) ≠ 0 := by omega
            obtain ⟨m, hm1, hm2⟩ : ∃ m : Nat, a2 % 256 % (al.length : Int) = m ∧ m < al.length := by
              have := Int.emod_nonneg (a2 % 256) hal0
              have h2 := Int.emod_lt_of_pos (a2 % 256) hz
              exact ⟨(a2 % 256 % (al.length : Int)).toNat, by omega, by omega⟩
            have hm1t : (a2 % 256).tmod (al.length : Int) = m := by rw [Int.tmod_eq_emod_of_nonneg (by omega)]; exact hm1
            have hml : (m : Int) < al.length := by omega
            obtain ⟨ka, kb⟩ := acells_at al m hm2
            have hto2 := hto al[m] (List.getElem_mem hm2)
            have ht3 : -2 ≤ a3.tmod 3 ∧ a3.tmod 3 ≤ 2 := by
              have h1 := Int.lt_tmod_of_pos a3 (show (0 : Int) < 3 by omega)
              have h2 := Int.tmod_lt_of_pos a3 (show (0 : Int) < 3 by omega)
              omega
            clear f0 f1 c0' c1'
            go_wp2_with fail
            clear q0 q1 q2 q3
            have hc0 : ∀ W : World, Ext w5.drew W → W.cell? ⟨g2, m * 2 + 1, none⟩ = some (.int .i64 al[m].2) ∧ W.cell? ⟨w.heap.size, 2, none⟩ = some (.int .i8 a2) ∧ W.cell? ⟨w.heap.size, 3, none⟩ = some (.int .i8 a3) ∧ True := fun W hE => by
              have OW := own_below OA (Ext.drew.trans hE) (Nat.le_refl _)
              obtain ⟨_, _, b2, b3, _⟩ := (hbx5.ext (Ext.drew.trans hE)).f4
              exact ⟨(OW.cellAt _ (by omega)).trans kb, b2, b3, trivial⟩
            have HC := Lib.hid hc0; clear hc0
            refine wp_region_list2 (by kernel_rfl) 18 Ext [] (by kernel_rfl) (fun _ _ d _ _ h => by cases d <;> exact h) rfl Ext.refl (fun _ _ _ => Ext.trans) trivial ?_
            simp only [List.take_succ_cons, List.take_zero, List.take_nil, List.drop_succ_cons, List.drop_zero, List.drop_nil]
            iterate 18
              refine ph_pure (a' := ?_) rfl rfl ?_ (fun w6 hE hG => pureAt_plain rfl ?_) ?_ ?_
              rotate_left 2
              · clear hG; obtain ⟨ha1, hb2, hb3, _⟩ := HC.out w6 hE; (go_simp; try go_bits); rfl
              · go_simp; rfl
            refine ph_end (fun w6 hE hG => ?_)
            have hXr : Ext w5 w6 := Ext.drew.trans hE
            clear hE hG HC
            have OA6 := own_below OA hXr (Nat.le_refl _)
            have O6a := own_below O5 hXr (Nat.le_refl _)
            have c2n := (OA6.cellAt (m * 2 + 1) (by omega)).trans kb
            have f2 := OA6.frozenAt (m * 2 + 1)
            have OB := own_put OA6 (m * 2 + 1) (by omega) (.int .i64 (al[m].2 + a3.tmod 3))
            rw [acells_to al _ m hm2] at OB
            have hlB : (al.set m (al[m].1, al[m].2 + a3.tmod 3)).length = al.length := List.length_set
            have hraB := Rd.of_own OB
            have O6 := own_keep (w' := w6.setCell ⟨g2, m * 2 + 1, none⟩ (.int .i64 (al[m].2 + a3.tmod 3))) O6a (fun g' hg' _ _ => by
              injection hg' with hg'
              subst hg'
              exact Below.heap_setCell w6 _ _ _ (Nat.ne_of_lt (Nat.lt_of_lt_of_le hgl hg2b)))
            have K6 : Kp (fun i => i = g ∨ w4.heap.size ≤ i) w4 (w6.setCell ⟨g2, m * 2 + 1, none⟩ (.int .i64 (al[m].2 + a3.tmod 3))) := Kp.trans (Kp.trans HK (Kp.of_ext (S := fun _ => False) hXr) (fun _ _ e => e) (fun _ _ e => e.elim)) (Kp.of_set (S := fun i => w4.heap.size ≤ i) _ _ _ hg2b) (fun _ _ e => e) (fun _ _ e => .inr e)
            have X6 : Ext w (w6.setCell ⟨g2, m * 2 + 1, none⟩ (.int .i64 (al[m].2 + a3.tmod 3))) := (X15.trans hXr).setCell (by show w.heap.size ≤ g2; have := X15.le; have := HK.size; omega) _
            have hlaB : (al.set m (al[m].1, al[m].2 + a3.tmod 3)).length ≤ 1000000 := by rw [hlB]; omega
            have O7 := own_put O6 (n * 2 + 1) (by omega) (.slice (some ⟨g2, 0, none⟩) al.length ca)
            have K7 : Kp (fun i => i = g ∨ w4.heap.size ≤ i) w4 ((w6.setCell ⟨g2, m * 2 + 1, none⟩ (.int .i64 (al[m].2 + a3.tmod 3))).setCell ⟨g, n * 2 + 1, none⟩ (.slice (some ⟨g2, 0, none⟩) al.length ca)) :=
              Kp.trans K6 (Kp.of_set (S := fun i => i = g) _ _ _ rfl) (fun _ _ e => e) (fun _ _ e => .inl e)
            have hra7 : Rd ((w6.setCell ⟨g2, m * 2 + 1, none⟩ (.int .i64 (al[m].2 + a3.tmod 3))).setCell ⟨g, n * 2 + 1, none⟩ (.slice (some ⟨g2, 0, none⟩) al.length ca)) 49 2 (some ⟨g2, 0, none⟩) al.length (acells (al.set m (al[m].1, al[m].2 + a3.tmod 3))) := by
              obtain ⟨cur6, hcg6⟩ := (own_typ O6 rfl).1
              exact hraB.set (by decide) hcg6 (by decide)
            have hD7 := dw_chg_k (b := fb) (al := (al.set m (al[m].1, al[m].2 + a3.tmod 3))) hlB N4 hn2 hcl K7 hKS (by rw [set_same k1]; exact O7) hra7.untyped hca1 hca2
            have X57 : Ext w ((w6.setCell ⟨g2, m * 2 + 1, none⟩ (.int .i64 (al[m].2 + a3.tmod 3))).setCell ⟨g, n * 2 + 1, none⟩ (.slice (some ⟨g2, 0, none⟩) al.length ca)) := X6.setCell (by show w.heap.size ≤ g; omega) _
            have f1 := O6.frozenAt (n * 2 + 1)
            have c1n := (O6.cellAt (n * 2 + 1) (by omega)).trans k2
            go_wp2_with fail
            generalize hwf : (w6.setCell ⟨g2, m * 2 + 1, none⟩ (.int .i64 (al[m].2 + a3.tmod 3))).setCell ⟨g, n * 2 + 1, none⟩ (.slice (some ⟨g2, 0, none⟩) al.length ca) = wf at *
            have hcl7 := chg_len au n fb (al.set m (al[m].1, al[m].2 + a3.tmod 3))
            have har7 := chg_arcs (n := n) (b := fb) (al := (al.set m (al[m].1, al[m].2 + a3.tmod 3))) harc (by omega)
            generalize chg au n fb (al.set m (al[m].1, al[m].2 + a3.tmod 3)) = dd at *
            clear O7 K7 hra7 hwf
            refine (pvalid_k _ cap _ dd hcl7 (by omega) har7 _ hD7 (hT.ext X57)).mono ?_
            rintro e wa ⟨rfl, XA⟩
            go_wp2_with fail
            refine (rvalid_k _ cap _ dd hcl7 (by omega) har7 _ (hD7.ext XA)).mono ?_
            rintro e wb ⟨rfl, XB⟩
            have XAB := XA.trans XB
            have X5B := X57.trans XAB
            go_wp2_with fail
            refine (pvalid_k _ c2 _ x rfl (by omega) hall _ (hx.ext X5B) (hT.ext X5B)).mono ?_
            rintro e wc ⟨rfl, XC⟩
            have X5C := X5B.trans XC
            go_wp2_with fail
            refine (rvalid_k _ c2 _ x rfl (by omega) hall _ (hx.ext X5C)).mono ?_
            rintro e wd ⟨rfl, XD⟩
            go_wp2
            go_ret
            exact ⟨rfl, X5C.trans XD⟩
        · by_cases hle0 : al.length = 0
          · obtain rfl : al = [] := List.length_eq_zero_iff.1 hle0
            have O7 := own_put O5 (n * 2 + 1) (by omega) (.slice Aa 0 ca)
            have K7 : Kp (fun i => i = g ∨ w4.heap.size ≤ i) w4 (w5.setCell ⟨g, n * 2 + 1, none⟩ (.slice Aa 0 ca)) :=
              Kp.trans HK (Kp.of_set (S := fun i => i = g) _ _ _ rfl) (fun _ _ e => e) (fun _ _ e => .inl e)
            have hra7 : Rd (w5.setCell ⟨g, n * 2 + 1, none⟩ (.slice Aa 0 ca)) 49 2 Aa 0 (acells []) := by
              obtain ⟨cur6, hcg6⟩ := (own_typ O5 rfl).1
              exact hra.set (by decide) hcg6 (by decide)
            have hD7 := dw_chg_k (b := fb) (al := []) rfl N4 hn2 hcl K7 hKS (by rw [set_same k1]; exact O7) hra7.untyped (Nat.zero_le _) hca2
            have X57 : Ext w (w5.setCell ⟨g, n * 2 + 1, none⟩ (.slice Aa 0 ca)) := X15.setCell (by show w.heap.size ≤ g; omega) _
            have f1 := O5.frozenAt (n * 2 + 1)
            have c1n := (O5.cellAt (n * 2 + 1) (by omega)).trans k2
            go_wp2_with fail
            generalize hwf : w5.setCell ⟨g, n * 2 + 1, none⟩ (.slice Aa 0 ca) = wf at *
            have hcl7 := chg_len au n fb ([] : List (UInt8 × Int))
            have har7 := chg_arcs (n := n) (b := fb) (al := ([] : List (UInt8 × Int))) harc (by simp)
            generalize chg au n fb ([] : List (UInt8 × Int)) = dd at *
            clear O7 K7 hra7 hwf
            refine (pvalid_k _ cap _ dd hcl7 (by omega) har7 _ hD7 (hT.ext X57)).mono ?_
            rintro e wa ⟨rfl, XA⟩
            go_wp2_with fail
            refine (rvalid_k _ cap _ dd hcl7 (by omega) har7 _ (hD7.ext XA)).mono ?_
            rintro e wb ⟨rfl, XB⟩
            have XAB := XA.trans XB
            have X5B := X57.trans XAB
            go_wp2_with fail
            refine (pvalid_k _ c2 _ x rfl (by omega) hall _ (hx.ext X5B) (hT.ext X5B)).mono ?_
            rintro e wc ⟨rfl, XC⟩
            have X5C := X5B.trans XC
            go_wp2_with fail
            refine (rvalid_k _ c2 _ x rfl (by omega) hall _ (hx.ext X5C)).mono ?_
            rintro e wd ⟨rfl, XD⟩
            go_wp2
            go_ret
            exact ⟨rfl, X5C.trans XD⟩
          · have hz : (0 : Int) < al.length := by omega
            obtain ⟨g2, cap2, e2, hg2b⟩ := own_arc OA (by omega)
            injection e2 with e2 e3 e4
            subst e2 e4
            have hal0 : (al.length : Int) ≠ 0 := by omega
            obtain ⟨m, hm1, hm2⟩ : ∃ m : Nat, a2 % 256 % (al.length : Int) = m ∧ m < al.length := by
              have := Int.emod_nonneg (a2 % 256) hal0
              have h2 := Int.emod_lt_of_pos (a2 % 256) hz
              exact ⟨(a2 % 256 % (al.length : Int)).toNat, by omega, by omega⟩
            have hm1t : (a2 % 256).tmod (al.length : Int) = m := by rw [Int.tmod_eq_emod_of_nonneg (by omega)]; exact hm1
            have hml : (m : Int) < al.length := by omega
            obtain ⟨ka, kb⟩ := acells_at al m hm2
            obtain ⟨nb, hnb⟩ : ∃ nb : UInt8, ((al[m].1.toNat : Int) + a3 % 256) % 256 = nb.toNat := ⟨UInt8.ofNat (((al[m].1.toNat : Int) + a3 % 256) % 256).toNat, by rw [UInt8.toNat_ofNat']; omega⟩
            clear f0 f1 c0' c1'
            go_wp2_with fail
            clear q0 q1 q2 q3
            have hc0 : ∀ W : World, Ext w5.drew W → W.cell? ⟨g2, m * 2, none⟩ = some (.int .u8 al[m].1.toNat) ∧ W.cell? ⟨w.heap.size, 2, none⟩ = some (.int .i8 a2) ∧ W.cell? ⟨w.heap.size, 3, none⟩ = some (.int .i8 a3) ∧ True := fun W hE => by
              have OW := own_below OA (Ext.drew.trans hE) (Nat.le_refl _)
              obtain ⟨_, _, b2, b3, _⟩ := (hbx5.ext (Ext.drew.trans hE)).f4
              exact ⟨(OW.cellAt _ (by omega)).trans ka, b2, b3, trivial⟩
            have HC := Lib.hid hc0; clear hc0
            refine wp_region_list2 (by kernel_rfl) 17 Ext [] (by kernel_rfl) (fun _ _ d _ _ h => by cases d <;> exact h) rfl Ext.refl (fun _ _ _ => Ext.trans) trivial ?_
            simp only [List.take_succ_cons, List.take_zero, List.take_nil, List.drop_succ_cons, List.drop_zero, List.drop_nil]
            iterate 17
              refine ph_pure (a' := ?_) rfl rfl ?_ (fun w6 hE hG => pureAt_plain rfl ?_) ?_ ?_
              rotate_left 2
              · clear hG; obtain ⟨ha1, hb2, hb3, _⟩ := HC.out w6 hE; (go_simp; try go_bits); rfl
              · go_simp; rfl
            refine ph_end (fun w6 hE hG => ?_)
            have hXr : Ext w5 w6 := Ext.drew.trans hE
            clear hE hG HC
            have OA6 := own_below OA hXr (Nat.le_refl _)
            have O6a := own_below O5 hXr (Nat.le_refl _)
            have c2n := (OA6.cellAt (m * 2) (by omega)).trans ka
            have f2 := OA6.frozenAt (m * 2)
            have OB := own_put OA6 (m * 2) (by omega) (.int .u8 (nb.toNat : Int))
            rw [acells_c al _ m hm2] at OB
            have hlB : (al.set m (nb, al[m].2)).length = al.length := List.length_set
            have hraB := Rd.of_own OB
            have O6 := own_keep (w' := w6.setCell ⟨g2, m * 2, none⟩ (.int .u8 (nb.toNat : Int))) O6a (fun g' hg' _ _ => by
              injection hg' with hg'
              subst hg'
              exact Below.heap_setCell w6 _ _ _ (Nat.ne_of_lt (Nat.lt_of_lt_of_le hgl hg2b)))
            have K6 : Kp (fun i => i = g ∨ w4.heap.size ≤ i) w4 (w6.setCell ⟨g2, m * 2, none⟩ (.int .u8 (nb.toNat : Int))) := Kp.trans (Kp.trans HK (Kp.of_ext (S := fun _ => False) hXr) (fun _ _ e => e) (fun _ _ e => e.elim)) (Kp.of_set (S := fun i => w4.heap.size ≤ i) _ _ _ hg2b) (fun _ _ e => e) (fun _ _ e => .inr e)
            have X6 : Ext w (w6.setCell ⟨g2, m * 2, none⟩ (.int .u8 (nb.toNat : Int))) := (X15.trans hXr).setCell (by show w.heap.size ≤ g2; have := X15.le; have := HK.size; omega) _
            have hlaB : (al.set m (nb, al[m].2)).length ≤ 1000000 := by rw [hlB]; omega
            have O7 := own_put O6 (n * 2 + 1) (by omega) (.slice (some ⟨g2, 0, none⟩) al.length ca)
            have K7 : Kp (fun i => i = g ∨ w4.heap.size ≤ i) w4 ((w6.setCell ⟨g2, m * 2, none⟩ (.int .u8 (nb.toNat : Int))).setCell ⟨g, n * 2 + 1, none⟩ (.slice (some ⟨g2, 0, none⟩) al.length ca)) :=
              Kp.trans K6 (Kp.of_set (S := fun i => i = g) _ _ _ rfl) (fun _ _ e => e) (fun _ _ e => .inl e)
            have hra7 : Rd ((w6.setCell ⟨g2, m * 2, none⟩ (.int .u8 (nb.toNat : Int))).setCell ⟨g, n * 2 + 1, none⟩ (.slice (some ⟨g2, 0, none⟩) al.length ca)) 49 2 (some ⟨g2, 0, none⟩) al.length (acells (al.set m (nb, al[m].2))) := by
              obtain ⟨cur6, hcg6⟩ := (own_typ O6 rfl).1
              exact hraB.set (by decide) hcg6 (by decide)
            have hD7 := dw_chg_k (b := fb) (al := (al.set m (nb, al[m].2))) hlB N4 hn2 hcl K7 hKS (by rw [set_same k1]; exact O7) hra7.untyped hca1 hca2
            have X57 : Ext w ((w6.setCell ⟨g2, m * 2, none⟩ (.int .u8 (nb.toNat : Int))).setCell ⟨g, n * 2 + 1, none⟩ (.slice (some ⟨g2, 0, none⟩) al.length ca)) := X6.setCell (by show w.heap.size ≤ g; omega) _
            have f1 := O6.frozenAt (n * 2 + 1)
            have c1n := (O6.cellAt (n * 2 + 1) (by omega)).trans k2
            go_wp2_with fail
            generalize hwf : (w6.setCell ⟨g2, m * 2, none⟩ (.int .u8 (nb.toNat : Int))).setCell ⟨g, n * 2 + 1, none⟩ (.slice (some ⟨g2, 0, none⟩) al.length ca) = wf at *
            have hcl7 := chg_len au n fb (al.set m (nb, al[m].2))
            have har7 := chg_arcs (n := n) (b := fb) (al := (al.set m (nb, al[m].2))) harc (by omega)
            generalize chg au n fb (al.set m (nb, al[m].2)) = dd at *
            clear O7 K7 hra7 hwf
            refine (pvalid_k _ cap _ dd hcl7 (by omega) har7 _ hD7 (hT.ext X57)).mono ?_
            rintro e wa ⟨rfl, XA⟩
            go_wp2_with fail
            refine (rvalid_k _ cap _ dd hcl7 (by omega) har7 _ (hD7.ext XA)).mono ?_
            rintro e wb ⟨rfl, XB⟩
            have XAB := XA.trans XB
            have X5B := X57.trans XAB
            go_wp2_with fail
            refine (pvalid_k _ c2 _ x rfl (by omega) hall _ (hx.ext X5B) (hT.ext X5B)).mono ?_
            rintro e wc ⟨rfl, XC⟩
            have X5C := X5B.trans XC
            go_wp2_with fail
            refine (rvalid_k _ c2 _ x rfl (by omega) hall _ (hx.ext X5C)).mono ?_
            rintro e wd ⟨rfl, XD⟩
            go_wp2
            go_ret
            exact ⟨rfl, X5C.trans XD⟩
        · have nb0 : 0 ≤ a2 % 256 ∧ a2 % 256 < 256 := by omega
          obtain ⟨nb, hnb⟩ : ∃ nb : UInt8, (nb.toNat : Int) = a2 % 256 := ⟨UInt8.ofNat (a2 % 256).toNat, by rw [UInt8.toNat_ofNat']; omega⟩
          clear f0 f1 c0' c1'
          go_wp2_with (at_builtin; apply halt_here)
          apply go_on
          obtain ⟨i1, hi0, hz0, hz1, hz2⟩ := info_parts arc_info
          have hle5 := X45.le
          refine wpList_app rfl _ _ 42 rfl w4.heap.size 49 i1 _ 2 16 Tryd.underlying42 hi0 hz0 hz1 hz2 rfl (by decide) _ al.length (acells al) rfl (own_alloc OA _) 49 _ 1 _ (acells [(nb, a3)]) rfl (Rd.newAt w5 _ rfl 49 2 1 #[.int .u8 (a2 % 256), .int .i64 a3] (0, 0) _ (by rw [← hnb]; rfl) rfl) (acells_one _) (by simp only [maxLen]; omega) (by omega) (by simp; omega) ?_
          intro av w6 OB hg6 hq6 hb6
          have eB : acells al ++ acells [(nb, a3)] = acells (al ++ [(nb, a3)]) := by unfold acells; rw [List.flatMap_append]
          rw [eB] at OB
          have hlB : (al ++ [(nb, a3)]).length = al.length + 1 := by simp
          obtain ⟨Ab, cb, rfl, hrb, hcb1, hcb2⟩ := own_form OB
          rw [← hlB] at hrb hcb1 ⊢
          have hlaB : (al ++ [(nb, a3)]).length ≤ 1000000 := by rw [hlB]; omega
          clear hlB
          generalize al ++ [(nb, a3)] = bl2 at *
          have hb56 : Below w4.heap.size w5 w6 := ((Below.refl _ _).alloc (by omega) (Obj.cells #[.int .u8 (a2 % 256), .int .i64 a3] 49)).trans hb6
          have K6 : Kp (fun i => i = g ∨ w4.heap.size ≤ i) w4 w6 := Kp.trans HK (S2 := fun i => w4.heap.size ≤ i) ⟨hb56.os, hb56.tape, hb56.output, hb56.size, fun i hi hs => hb56.block i (by omega)⟩ (fun _ _ e => e) (fun _ _ e => .inr e)
          have O6 := own_keep (w' := w6) O5 (fun g' hg' _ _ => by
            injection hg' with hg'
            subst hg'
            exact hb56.block _ hgl)
          have X6 : Ext w w6 := X15.trans' hb56 (by omega)
          clear hi0 hz0 hz1 hz2 hg6 hq6 hb6 OB eB
          have O7 := own_put O6 (n * 2 + 1) (by omega) (.slice Ab bl2.length cb)
          have K7 : Kp (fun i => i = g ∨ w4.heap.size ≤ i) w4 (w6.setCell ⟨g, n * 2 + 1, none⟩ (.slice Ab bl2.length cb)) :=
            Kp.trans K6 (Kp.of_set (S := fun i => i = g) _ _ _ rfl) (fun _ _ e => e) (fun _ _ e => .inl e)
          have hra7 : Rd (w6.setCell ⟨g, n * 2 + 1, none⟩ (.slice Ab bl2.length cb)) 49 2 Ab bl2.length (acells bl2) := by
            obtain ⟨cur6, hcg6⟩ := (own_typ O6 rfl).1
            exact hrb.set (by decide) hcg6 (by decide)
          have hD7 := dw_chg (b := fb) (al := bl2) N4 hn2 hcl K7 hKS (by rw [set_same k1]; exact O7) hra7.untyped hcb1 hcb2
          have X57 : Ext w (w6.setCell ⟨g, n * 2 + 1, none⟩ (.slice Ab bl2.length cb)) := X6.setCell (by show w.heap.size ≤ g; omega) _
          have f1 := O6.frozenAt (n * 2 + 1)
          have c1n := (O6.cellAt (n * 2 + 1) (by omega)).trans k2
          go_wp2_with fail
          generalize hwf : w6.setCell ⟨g, n * 2 + 1, none⟩ (.slice Ab bl2.length cb) = wf at *
          have hcl7 := chg_len au n fb bl2
          have har7 := chg_arcs (n := n) (b := fb) (al := bl2) harc hlaB
          generalize chg au n fb bl2 = dd at *
          clear O7 K7 hra7 hwf
          refine (pvalid_k _ cap _ dd hcl7 (by omega) har7 _ hD7 (hT.ext X57)).mono ?_
          rintro e wa ⟨rfl, XA⟩
          go_wp2_with fail
          refine (rvalid_k _ cap _ dd hcl7 (by omega) har7 _ (hD7.ext XA)).mono ?_
          rintro e wb ⟨rfl, XB⟩
          have XAB := XA.trans XB
          have X5B := X57.trans XAB
          go_wp2_with fail
          refine (pvalid_k _ c2 _ x rfl (by omega) hall _ (hx.ext X5B) (hT.ext X5B)).mono ?_
          rintro e wc ⟨rfl, XC⟩
          have X5C := X5B.trans XC
          go_wp2_with fail
          refine (rvalid_k _ c2 _ x rfl (by omega) hall _ (hx.ext X5C)).mono ?_
          rintro e wd ⟨rfl, XD⟩
          go_wp2
          go_ret
          exact ⟨rfl, X5C.trans XD⟩
  · have h6' : (6 : Int) < x.length := by omega
    go_wp2
    go_ret
    exact ⟨rfl, X1'⟩
end Go.Proofs.YtmmihcophkipoaaDoor
