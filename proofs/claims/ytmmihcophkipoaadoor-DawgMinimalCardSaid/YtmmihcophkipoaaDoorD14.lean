import Derived.Test.YtmmihcophkipoaaDoorD13
import Derived.Laws.BytesString
import Derived.Lib.ConvBytes
namespace Go.Proofs.YtmmihcophkipoaaDoor
open Go.ChangeShapes Go.WideShapes Go.ChangeAt Go.RowKit
set_option linter.unusedVariables false
set_option linter.unusedSimpArgs false
attribute [local go_sem] bs_beq bs_bne bs_less bs_size bs_extract
/-- the arc under which the i-th word lies, and what is left of i -/
def pick (S : Nat → Nat) : List (UInt8 × Int) → Nat → Option (Nat × Nat)
  | [], _ => none
  | a :: l, i => if i < S a.2.toNat then some (0, i) else (pick S l (i - S a.2.toNat)).map fun p => (p.1 + 1, p.2)
def atF (d : Au) (S : Nat → Nat) : Nat → Nat → Nat → W
  | 0, _, _ => []
  | f + 1, n, i => if (d.getD n (false, [])).1 = true ∧ i = 0 then [] else
    match pick S (arcsOf d n) (if (d.getD n (false, [])).1 = true then i - 1 else i) with
    | none => []
    | some (x, r) => ((arcsOf d n).getD x (0, 0)).1 :: atF d S f ((arcsOf d n).getD x (0, 0)).2.toNat r
theorem pick_lt (S : Nat → Nat) : ∀ (l : List (UInt8 × Int)) (i : Nat), i < (l.map fun a => S a.2.toNat).sum → ∃ x r, pick S l i = some (x, r) ∧ ∃ h : x < l.length, r < S l[x].2.toNat ∧ i = ((l.take x).map fun a => S a.2.toNat).sum + r := by
  intro l
  induction l with
  | nil => intro i h; simp at h
  | cons a l ih =>
    intro i h
    unfold pick
    by_cases hi : i < S a.2.toNat
    · rw [if_pos hi]; exact ⟨0, i, rfl, by simp, by simpa using hi, by simp⟩
    · rw [if_neg hi]
      rw [List.map_cons, List.sum_cons] at h
      obtain ⟨x, r, h1, h2, h3, h4⟩ := ih (i - S a.2.toNat) (by omega)
      refine ⟨x + 1, r, by rw [h1]; rfl, by simpa using h2, by simpa using h3, ?_⟩
      rw [List.take_succ_cons, List.map_cons, List.sum_cons]; omega
/-- a row of bytes of the call's own -/
def Ob (base : Nat) (l : List UInt8) (v : Value) (w : World) : Prop := w.ownsRow base 5 1 v l.length (bv l)
theorem bv_append (l m : List UInt8) : bv (l ++ m) = bv l ++ bv m := by simp [bv]
theorem bv_one (l : List UInt8) : ∀ u ∈ bv l, u.oneCell' = true := by
  intro u hu
  simp only [bv, List.mem_map] at hu
  obtain ⟨w, _, rfl⟩ := hu
  rfl
theorem Ob.none (w : World) (base : Nat) : Ob base [] (.slice .none 0 0) w := World.ownsRow_nil _ _ _ _
theorem Ob.alloc {base : Nat} {l : List UInt8} {v : Value} {w : World} (h : Ob base l v w) (o : Obj) : Ob base l v (w.alloc o) := own_alloc h o
theorem Ob.ext {base : Nat} {l : List UInt8} {v : Value} {w w' : World} (h : Ob base l v w) (hE : Ext w w') : Ob base l v w' := own_below h hE (Nat.le_refl _)
theorem u8_info : (Tryd.prog.info? 5).map (fun i => (i.zero, i.size, i.bytes)) = some (some (.int .u8 0), 1, 1) := by kernel_rfl
theorem wp_app_byte {w : World} {ops : Array Oper} {rest : List Oper} {o : Oper} {a : Act} {Q : Exit → Act → World → Prop} (hgd : o.guard = none) (s x : Operand)
    (ho : o.op = .call { callee := .builtin .append, args := #[s, x], argTypes := #[23, 23] }) (base : Nat) (l : List UInt8) (v : Value) (hs : a.eval s = v) (hO : Ob base l v w)
    (B : Option Addr) (m d : Nat) (news : List UInt8) (e' : TypeId) (hm : m = news.length) (hx : a.eval x = .slice B m d) (hr : Rd w e' 1 B m (bv news)) (hb : base ≤ w.heap.size) (hlen : l.length + news.length ≤ 10000000)
    (K : ∀ v' w', Ob base (l ++ news) v' w' → w.grownBy w' v.ownBlock → (v'.ownBlock = v.ownBlock ∨ v'.ownBlock = some w.heap.size) → Below base w w' → wpList Tryd.prog ops Q rest (a.put o.dst v') w') : wpList Tryd.prog ops Q (o :: rest) a w := by
  subst hm
  obtain ⟨i0, hi0, hz0, hz1, hz2⟩ := info_parts u8_info
  refine wpList_app hgd s x 23 ho base 5 i0 _ 1 1 Tryd.underlying23 hi0 hz0 hz1 hz2 rfl (by decide) v l.length (bv l) hs hO e' B news.length d (bv news) hx hr (bv_one _) (by simp only [maxLen]; omega) (by omega) hb ?_
  intro v' w' h1 h2 h3 h4
  refine K v' w' ?_ h2 h3 h4
  unfold Ob
  rw [List.length_append, bv_append]
  exact h1
theorem fold_push (l : List UInt8) : ∀ s : BA, ((l.map fun c => ((c.toNat : Nat) : Int)).foldl (fun r n => r.push (UInt8.ofNat n.toNat)) s) = s ++ bs l := by
  induction l with
  | nil => intro s; simp [bs]; apply bytes_inj; simp
  | cons c l ih =>
    intro s
    simp only [List.map_cons, List.foldl_cons]
    rw [ih]
    have : UInt8.ofNat (((c.toNat : Nat) : Int).toNat) = c := by simp
    rw [this]
    apply bytes_inj
    simp [bs]
theorem conv_bytes {w : World} {A : Option Addr} {e : TypeId} (c : Nat) (l : List UInt8) (h : Rd w e 1 A l.length (bv l)) : (convert 23 9 (.slice A l.length c)).run Tryd.prog w = .ok (.string (bs l)) w := by
  rw [run_convert_bytes_string w 23 9 5 A l.length c Tryd.underlying23 Tryd.underlying5 Tryd.underlying9]
  cases l with
  | nil =>
    rcases A with _ | a
    · simp [Conv.bytesToString, Sem.run_pure]; rfl
    · have := run_bytesToString (P := Tryd.prog) w a 0 c [] (by simp [loadCells, loadCellsFrom, Sem.run_pure])
      simp only [List.length_nil]
      rw [this]; rfl
  | cons x t =>
    obtain ⟨ad, rfl, hb, hc⟩ := h.cells (by simp)
    have := run_bytesToString (P := Tryd.prog) w ad (x :: t).length c ((x :: t).map fun c => ((c.toNat : Nat) : Int)) (by
      have h2 := run_loadCells_list (P := Tryd.prog) (w := w) ad (bv (x :: t)) hc
      have e1 : (bv (x :: t)).length = (x :: t).length := by simp [bv]
      rw [e1] at h2
      rw [h2]
      simp [bv])
    rw [this, fold_push]
    simp
theorem atF_succ (d : Au) (S : Nat → Nat) (f n i : Nat) : atF d S (f + 1) n i = if (d.getD n (false, [])).1 = true ∧ i = 0 then [] else
    match pick S (arcsOf d n) (if (d.getD n (false, [])).1 = true then i - 1 else i) with
    | none => []
    | some (x, r) => ((arcsOf d n).getD x (0, 0)).1 :: atF d S f ((arcsOf d n).getD x (0, 0)).2.toNat r := rfl
theorem atF_fuel {d : Au} {h S : Nat → Nat} (hS : Szs d h S) : ∀ (f g n i : Nat), n < d.length → i < S n → h n < f → h n < g → atF d S f n i = atF d S g n i := by
  intro f
  induction f with
  | zero => intro g n i _ _ h1; omega
  | succ f ih =>
    intro g n i hn hi h1 h2
    obtain ⟨g, rfl⟩ : ∃ g', g = g' + 1 := ⟨g - 1, by omega⟩
    rw [atF_succ, atF_succ]
    split
    · rfl
    · rename_i hne
      have hs := hS.sum n hn
      have hf := Dw.fin hn
      rw [hf] at hne ⊢
      have hlt : (if d[n].1 = true then i - 1 else i) < ((arcsOf d n).map fun a => S a.2.toNat).sum := by
        split
        · rename_i ht; rw [if_pos ht] at hs; have : i ≠ 0 := fun e => hne ⟨ht, e⟩; omega
        · rename_i ht; rw [if_neg ht] at hs; omega
      obtain ⟨x, r, hp, hx, hr, _⟩ := pick_lt S _ _ hlt
      rw [hp]
      simp only
      congr 1
      have hm : (arcsOf d n)[x] ∈ arcsOf d n := List.getElem_mem hx
      have hrk := hS.rank n hn _ hm
      have hto : (arcsOf d n)[x].2.toNat < d.length := by
        have := hS.fine.to _ (List.getElem_mem hn) (arcsOf d n)[x] (by rw [← arcsOf_at hn]; exact hm)
        omega
      have e : (arcsOf d n).getD x (0, 0) = (arcsOf d n)[x] := by simp [hx]
      rw [e]
      exact ih g _ r hto hr (by omega) (by omega)
def atR (d : Au) (h S : Nat → Nat) (i : Int) : W × Int := if 0 ≤ i ∧ i < S 0 then (atF d S (h 0 + 1) 0 i.toNat, 0) else ([], 90)
set_option maxHeartbeats 4000000 in
set_option maxRecDepth 100000 in
theorem at9_any (A : Option Addr) (c : Nat) (d : Au) (h S : Nat → Nat) (hS : Szs d h S) (hM : Met d) (hh : h 0 ≤ 1000) (i : Int) (w : World) (hd : Dw w A d) :
    Calls Tryd.prog 32 #[.slice A d.length c, .int .i64 i] w fun e w' => e = .returned (.tuple #[.string (bs (atR d h S i).1), .int .i64 (atR d h S i).2]) ∧ Ext w w' := by
  have hdl := hS.fine.le
  have hdn := hS.fine.ne
  obtain ⟨R, hR⟩ : ∃ R, atR d h S i = R := ⟨_, rfl⟩
  rw [hR]
  have HR := Lib.hid hR
  clear hR
  go_enter Tryd.func32, Tryd.ntmps32
  go_wp2_with fail
  refine (sizes_any A c d h S hS hM _ hd).mono ?_
  rintro e w1 ⟨p, cs, rfl, P, hall, hX⟩
  have hc0 := (P.cell 0).trans (hall 0 hdn)
  have HA := Lib.hid hall
  have hd1 := hd.ext hX
  have hd0 : (0 : Int) < d.length := by omega
  clear hall
  by_cases hi0 : 0 ≤ i
  · have hi0' : ¬ i < 0 := by omega
    by_cases hi1 : i < S 0
    · have hi1' : ¬ (S 0 : Int) ≤ i := by omega
      obtain ⟨n0, hn0⟩ : ∃ n0 : Nat, i = n0 := ⟨i.toNat, by omega⟩
      have HR2 : Hid (R = (atF d S (h 0 + 1) 0 n0, 0)) := Lib.hid (by rw [← HR.out]; unfold atR; rw [if_pos ⟨hi0, hi1⟩, hn0]; rfl)
      subst hn0
      have hi2 : n0 < S 0 := by omega
      have hdd1 : decide (S 0 ≤ n0) = false := decide_eq_false (by omega)
      have hdd2 : decide ((n0 : Int) < 0) = false := decide_eq_false (by omega)
      go_wp2_with fail
      have O0 := Ob.none w1 w1.heap.size
      go_loopw [1, 7, 8] (fun iv wv av wr => ∃ (i a : Nat) (pre : W), iv = .int .i64 i ∧ av = .int .i64 a ∧ a < d.length ∧ i < S a ∧ pre ++ atF d S (h a + 1) a i = R.1 ∧ pre.length + h a ≤ h 0 ∧ Ob w1.heap.size pre wv wr ∧ Below w1.heap.size w1 wr) (fun _ _ av _ => h (intOf av).toNat)
      case atStart => exact ⟨n0, 0, [], rfl, rfl, hdn, hi2, by rw [HR2.out]; rfl, by simp, O0, Below.refl _ _⟩
      case round =>
        clear O0 hc0 hi0 hi0' hi1 hi1' hi2
        obtain ⟨i, a, pre, rfl, rfl, had, hia, hpre, hpl, O, hbw⟩ := hrel
        have hia0 := hS.le a had
        obtain ⟨Aw, cw, rfl, Rw, hw1, hw2⟩ := own_form O
        have hcv := conv_bytes cw pre Rw
        have had' : (a : Int) < d.length := by omega
        obtain ⟨ad, ab, c2, e1, hab, g0, g1, ra0, hc1, hc2⟩ := hd1.at_ had
        subst e1
        have ra : Rd w1 0 2 ab d[a].2.length (acells d[a].2) := ra0
        replace g0 := cell_ext (w' := wr) hbw hab g0
        replace g1 := cell_ext (w' := wr) hbw (p := ⟨(ad.add (a * 2)).block, (ad.add (a * 2)).off + 1, none⟩) hab g1
        replace hab := Nat.lt_of_lt_of_le hab hbw.size
        have hal := hS.fine.arcs _ (List.getElem_mem had)
        have hao := arcsOf_at had
        have hTO := hS.fine.to _ (List.getElem_mem had)
        have hRK := hS.rank a had
        have hSUM := hS.sum a had
        have hfin := Dw.fin had
        have hatf := atF_succ d S (h a) a i
        rw [hao] at hRK hSUM hatf
        rw [hfin] at hatf
        obtain ⟨f, hf⟩ : ∃ f, d[a].1 = f := ⟨_, rfl⟩
        obtain ⟨l, hl⟩ : ∃ l, d[a].2 = l := ⟨_, rfl⟩
        rw [hl] at hTO hRK hSUM hatf hal g1 ra hc1
        rw [hf] at hSUM hatf g0
        clear hao hfin ra0 hl hf
        have HTO := Lib.hid hTO
        have HRK := Lib.hid hRK
        clear hTO hRK
        by_cases hz : f = true ∧ i = 0
        · rw [if_pos hz] at hatf
          obtain ⟨rfl, rfl⟩ := hz
          have HFIN : Hid (R = (pre, 0)) := Lib.hid (by
            have h2 := HR2.out
            rw [hatf, List.append_nil] at hpre
            rw [h2] at hpre ⊢
            simp only at hpre
            rw [← hpre])
          clear hpre hatf hSUM hw1 hw2 Rw
          go_wp2
          go_ret2
          exact ⟨by rw [HFIN.out]; rfl, Below.trans hX (hbw.mono hX.size)⟩
        · rw [if_neg hz] at hatf
          obtain ⟨i1, hi1⟩ : ∃ i1, (if f = true then i - 1 else i) = i1 := ⟨_, rfl⟩
          rw [hi1] at hatf
          have hlt1 : i1 < (l.map fun a => S a.2.toNat).sum := by
            rw [← hi1]
            cases f
            · simp at hSUM ⊢; omega
            · have : i ≠ 0 := fun e => hz ⟨rfl, e⟩
              simp at hSUM ⊢; omega
          have hi1le : i1 ≤ 1000000 := by rw [← hi1]; split <;> omega
          obtain ⟨j, r, hp, hjl, hr, hpk⟩ := pick_lt S l i1 hlt1
          rw [hp] at hatf
          simp only at hatf
          have HAT : Hid (∀ hx : j < l.length, atF d S (h a + 1) a i = l[j].1 :: atF d S (h a) l[j].2.toNat r) := Lib.hid (fun hx => by rw [hatf]; simp [hx])
          have HRL : Hid (∀ hx : j < l.length, r < S l[j].2.toNat) := Lib.hid (fun _ => hr)
          have HPK := Lib.hid hpk
          have HPRE := Lib.hid hpre
          clear hatf hr hpk hpre hp hlt1 hSUM Rw hcv
          cases f
          · have e1 : i1 = i := by rw [← hi1]; simp
            clear hi1 hz
            subst e1
            go_wp2_with fail
            go_loopw [1, 7, 8, 39] (fun iv v av ix wr => ∃ x I : Nat, x ≤ j ∧ iv = .int .i64 I ∧ v = .slice Aw pre.length cw ∧ av = .int .i64 a ∧ ix = .int .i64 x ∧ i1 = ((l.take x).map fun a => S a.2.toNat).sum + I ∧ Ob w1.heap.size pre (.slice Aw pre.length cw) wr ∧ Below w1.heap.size w1 wr) (fun _ _ _ ix _ => 1000001 - (intOf ix).toNat)
            case atStart => exact ⟨0, i1, by omega, rfl, rfl, rfl, rfl, by simp, O, hbw⟩
            case round =>
              clear g0 g1 hab O hbw
              obtain ⟨x, I, hx, rfl, rfl, rfl, rfl, hI, O, hbw⟩ := hrel
              have hxl : x < l.length := by omega
              have hxl' : (x : Int) < l.length := by omega
              obtain ⟨q0, q1⟩ := acells_at l x hxl
              obtain ⟨pd, e1, pb, c0, c1⟩ := (ra.below hbw (Nat.le_refl _)).twob hxl q0 q1
              subst e1
              clear q0 q1
              have hsn := sum_take_snoc l S x hxl
              have hto := HTO.out _ (List.getElem_mem hxl)
              have hP4 := P.below hbw (Nat.le_refl _)
              have hplt := hP4.lt
              by_cases hxj : x = j
              · subst hxj
                have HST := Lib.hid (HAT.out hxl)
                have hrr : I = r ∧ r < S l[x].2.toNat ∧ h l[x].2.toNat < h a := ⟨by have := HPK.out; omega, HRL.out hxl, HRK.out _ (List.getElem_mem hxl)⟩
                obtain ⟨rfl, hrl, hrk⟩ := hrr
                clear hI hsn
                generalize l[x] = y at *
                obtain ⟨yc, yt⟩ := y
                simp only at c0 c1 hto HST hrl hrk
                have hyt : ((yt.toNat : Nat) : Int) = yt := Int.toNat_of_nonneg hto.1
                obtain ⟨yn, hyn⟩ : ∃ yn, yt.toNat = yn := ⟨_, rfl⟩
                rw [hyn] at HST hrl hrk hyt
                subst hyt
                clear hyn
                have hyn' : yn < d.length := by omega
                have hcc := (hP4.cell yn).trans (HA.out yn hyn')
                have hn0 : (0 : Int) ≤ yn := by omega
                have hlt1 : (I : Int) < S yn := by omega
                have hsle := hS.le yn hyn'
                go_wp2_with (at_builtin; apply halt_here)
                apply go_on
                have hlw := hbw.size
                refine wp_app_byte rfl _ _ rfl w1.heap.size pre _ rfl ((O.alloc _).alloc _) _ _ _ [yc] 5 rfl rfl (Rd.newAt _ _ (by simp) 5 1 1 #[.int .u8 yc.toNat] (0, 0) _ rfl rfl) (by simp; omega) (by simp; omega) ?_
                intro v' w8 O2 hg8 _ hbb
                have hb8 := ((hbw.alloc hbw.size (Obj.cells #[.int .u8 yc.toNat, .int .i64 yn] 49)).alloc (by simp; omega) (Obj.cells #[.int .u8 yc.toNat] 5)).trans hbb
                have X8 := ((Blk.new wr 49 #[.int .u8 yc.toNat, .int .i64 yn]).alloc (Obj.cells #[.int .u8 yc.toNat] 5)).grown hg8 (fun e => by have := (O.lt _ e).2; omega)
                obtain ⟨x0, x1, x2, x3⟩ := X8.f2
                clear hg8 hbb X8
                go_wp2
                refine ⟨⟨I, yn, pre ++ [yc], rfl, rfl, hyn', hrl, ?_, by simp; omega, O2, hb8⟩, ?_⟩
                · rw [← HPRE.out, HST.out, List.append_assoc]
                  congr 1
                  show yc :: _ = yc :: _
                  rw [atF_fuel hS (h a) (h yn + 1) yn I hyn' hrl hrk (by omega)]; rfl
                · simp only [intOf, Int.toNat_natCast]
                  exact hrk
              · have hle : ((l.take (x + 1)).map fun a => S a.2.toNat).sum ≤ ((l.take j).map fun a => S a.2.toNat).sum := by
                  have := sum_take_le (l.take j) S (x + 1)
                  rwa [List.take_take, Nat.min_eq_left (by omega)] at this
                have hge : S l[x].2.toNat ≤ I := by have := HPK.out; omega
                have HI := Lib.hid (show i1 = ((l.take (x + 1)).map fun a => S a.2.toNat).sum + (I - S l[x].2.toNat) by omega)
                have hI1 : I ≤ 1000000 := by have := hi1le; omega
                clear hI hsn hle
                generalize l[x] = y at *
                obtain ⟨yc, yt⟩ := y
                simp only at c0 c1 hto hge HI
                have hyt : ((yt.toNat : Nat) : Int) = yt := Int.toNat_of_nonneg hto.1
                obtain ⟨yn, hyn⟩ : ∃ yn, yt.toNat = yn := ⟨_, rfl⟩
                rw [hyn] at hge hyt HI
                subst hyt
                clear hyn
                have hyn' : yn < d.length := by omega
                have hcc := (hP4.cell yn).trans (HA.out yn hyn')
                have hn0 : (0 : Int) ≤ yn := by omega
                have hge1 : ¬ (I : Int) < S yn := by omega
                have hge2 : ¬ I < S yn := by omega
                have hsle := hS.le yn hyn'
                go_wp2
                exact ⟨⟨x + 1, I - S yn, by omega, by congr 1; omega, rfl, rfl, by go_num, HI.out, O.alloc _, hbw.alloc hbw.size _⟩, by simp only [intOf]; omega⟩
          · have hz2 : i ≠ 0 := fun e => hz ⟨rfl, e⟩
            have e1 : i = i1 + 1 := by rw [← hi1]; simp; omega
            clear hi1 hz
            subst e1
            have hq1 : ((((i1 + 1 : Nat)) : Int) == 0) = false := beq_eq_false_iff_ne.2 (by omega)
            have hq2 : ¬ ((((i1 + 1 : Nat)) : Int) = 0) := by omega
            have hq3 : ((i1 + 1 : Nat) : Int) = (i1 : Int) + 1 := by omega
            go_wp2_with fail
            go_loopw [1, 7, 8, 39] (fun iv v av ix wr => ∃ x I : Nat, x ≤ j ∧ iv = .int .i64 I ∧ v = .slice Aw pre.length cw ∧ av = .int .i64 a ∧ ix = .int .i64 x ∧ i1 = ((l.take x).map fun a => S a.2.toNat).sum + I ∧ Ob w1.heap.size pre (.slice Aw pre.length cw) wr ∧ Below w1.heap.size w1 wr) (fun _ _ _ ix _ => 1000001 - (intOf ix).toNat)
            case atStart => exact ⟨0, i1, by omega, by go_num, rfl, rfl, rfl, by simp, O, hbw⟩
            case round =>
              clear g0 g1 hab O hbw
              obtain ⟨x, I, hx, rfl, rfl, rfl, rfl, hI, O, hbw⟩ := hrel
              have hxl : x < l.length := by omega
              have hxl' : (x : Int) < l.length := by omega
              obtain ⟨q0, q1⟩ := acells_at l x hxl
              obtain ⟨pd, e1, pb, c0, c1⟩ := (ra.below hbw (Nat.le_refl _)).twob hxl q0 q1
              subst e1
              clear q0 q1
              have hsn := sum_take_snoc l S x hxl
              have hto := HTO.out _ (List.getElem_mem hxl)
              have hP4 := P.below hbw (Nat.le_refl _)
              have hplt := hP4.lt
              by_cases hxj : x = j
              · subst hxj
                have HST := Lib.hid (HAT.out hxl)
                have hrr : I = r ∧ r < S l[x].2.toNat ∧ h l[x].2.toNat < h a := ⟨by have := HPK.out; omega, HRL.out hxl, HRK.out _ (List.getElem_mem hxl)⟩
                obtain ⟨rfl, hrl, hrk⟩ := hrr
                clear hI hsn
                generalize l[x] = y at *
                obtain ⟨yc, yt⟩ := y
                simp only at c0 c1 hto HST hrl hrk
                have hyt : ((yt.toNat : Nat) : Int) = yt := Int.toNat_of_nonneg hto.1
                obtain ⟨yn, hyn⟩ : ∃ yn, yt.toNat = yn := ⟨_, rfl⟩
                rw [hyn] at HST hrl hrk hyt
                subst hyt
                clear hyn
                have hyn' : yn < d.length := by omega
                have hcc := (hP4.cell yn).trans (HA.out yn hyn')
                have hn0 : (0 : Int) ≤ yn := by omega
                have hlt1 : (I : Int) < S yn := by omega
                have hsle := hS.le yn hyn'
                go_wp2_with (at_builtin; apply halt_here)
                apply go_on
                have hlw := hbw.size
                refine wp_app_byte rfl _ _ rfl w1.heap.size pre _ rfl ((O.alloc _).alloc _) _ _ _ [yc] 5 rfl rfl (Rd.newAt _ _ (by simp) 5 1 1 #[.int .u8 yc.toNat] (0, 0) _ rfl rfl) (by simp; omega) (by simp; omega) ?_
                intro v' w8 O2 hg8 _ hbb
                have hb8 := ((hbw.alloc hbw.size (Obj.cells #[.int .u8 yc.toNat, .int .i64 yn] 49)).alloc (by simp; omega) (Obj.cells #[.int .u8 yc.toNat] 5)).trans hbb
                have X8 := ((Blk.new wr 49 #[.int .u8 yc.toNat, .int .i64 yn]).alloc (Obj.cells #[.int .u8 yc.toNat] 5)).grown hg8 (fun e => by have := (O.lt _ e).2; omega)
                obtain ⟨x0, x1, x2, x3⟩ := X8.f2
                clear hg8 hbb X8
                go_wp2
                refine ⟨⟨I, yn, pre ++ [yc], rfl, rfl, hyn', hrl, ?_, by simp; omega, O2, hb8⟩, ?_⟩
                · rw [← HPRE.out, HST.out, List.append_assoc]
                  congr 1
                  show yc :: _ = yc :: _
                  rw [atF_fuel hS (h a) (h yn + 1) yn I hyn' hrl hrk (by omega)]; rfl
                · simp only [intOf, Int.toNat_natCast]
                  exact hrk
              · have hle : ((l.take (x + 1)).map fun a => S a.2.toNat).sum ≤ ((l.take j).map fun a => S a.2.toNat).sum := by
                  have := sum_take_le (l.take j) S (x + 1)
                  rwa [List.take_take, Nat.min_eq_left (by omega)] at this
                have hge : S l[x].2.toNat ≤ I := by have := HPK.out; omega
                have HI := Lib.hid (show i1 = ((l.take (x + 1)).map fun a => S a.2.toNat).sum + (I - S l[x].2.toNat) by omega)
                have hI1 : I ≤ 1000000 := by have := hi1le; omega
                clear hI hsn hle
                generalize l[x] = y at *
                obtain ⟨yc, yt⟩ := y
                simp only at c0 c1 hto hge HI
                have hyt : ((yt.toNat : Nat) : Int) = yt := Int.toNat_of_nonneg hto.1
                obtain ⟨yn, hyn⟩ : ∃ yn, yt.toNat = yn := ⟨_, rfl⟩
                rw [hyn] at hge hyt HI
                subst hyt
                clear hyn
                have hyn' : yn < d.length := by omega
                have hcc := (hP4.cell yn).trans (HA.out yn hyn')
                have hn0 : (0 : Int) ≤ yn := by omega
                have hge1 : ¬ (I : Int) < S yn := by omega
                have hge2 : ¬ I < S yn := by omega
                have hsle := hS.le yn hyn'
                go_wp2
                exact ⟨⟨x + 1, I - S yn, by omega, by congr 1; omega, rfl, rfl, by go_num, HI.out, O.alloc _, hbw.alloc hbw.size _⟩, by simp only [intOf]; omega⟩
    · have HR2 : Hid (R = ([], 90)) := Lib.hid (by rw [← HR.out]; unfold atR; rw [if_neg (by omega)])
      have hi1' : (S 0 : Int) ≤ i := by omega
      go_wp2
      go_ret2
      exact ⟨by rw [HR2.out]; rfl, hX⟩
  · have HR2 : Hid (R = ([], 90)) := Lib.hid (by rw [← HR.out]; unfold atR; rw [if_neg (by omega)])
    have hi0' : i < 0 := by omega
    go_wp2
    go_ret2
    exact ⟨by rw [HR2.out]; rfl, hX⟩
end Go.Proofs.YtmmihcophkipoaaDoor
