import Derived.Test.YtecdmgcgplohoaaCaFrame
namespace Go.Proofs.Ytecdmgcgplohoaa
open Go.ChangeShapes Go.WideShapes Go.ChangeAt Go.RowKit
set_option linter.unusedVariables false
set_option linter.unusedSimpArgs false
attribute [local go_sem] ba_beq ba_bne
theorem Ca.alloc {room : Int} {l : List En} {V : Value} {w : World} (h : Ca w room l V) (o : Obj) : Ca (w.alloc o) room l V := h.ext (Ext.alloc _ _)
theorem Ca.drew {room : Int} {l : List En} {V : Value} {w : World} (h : Ca w room l V) : Ca w.drew room l V := h.below (Below.refl _ _).drew (Nat.le_refl _)
theorem Ca.form {room : Int} {l : List En} {V : Value} {w : World} (h : Ca w room l V) : ∃ A a B b, V = .agg #[.int .i64 room, .slice A l.length a, .slice B l.length b] := by
  obtain ⟨A, a, B, b, e, _⟩ := h.ex
  exact ⟨A, a, B, b, e⟩
theorem agg3_inj {r p q p' q' : Value} (h : Value.agg #[r, p, q] = .agg #[r, p', q']) : p = p' ∧ q = q' := by
  injection h with h
  simpa using h
theorem Ca.form2 {room : Int} {l : List En} {p q : Value} {w : World} (h : Ca w room l (.agg #[.int .i64 room, p, q])) : ∃ A a B b, p = .slice A l.length a ∧ q = .slice B l.length b := by
  obtain ⟨A, a, B, b, e⟩ := h.form
  obtain ⟨h1, h2⟩ := agg3_inj e
  exact ⟨A, a, B, b, h1, h2⟩
theorem pstep_eq {room : Int} {l : List En} (g : Good room l) (s : St) : pstep room l s = rstep room l s := by
  unfold pstep rstep
  rw [drop_same g]
theorem step_good {room : Int} {l : List En} {V : Value} (s : St) (w : World) (hV : Ca w room l V) (g : Good room l) (hr0 : 0 ≤ room) (hr1 : room ≤ 40) (ho : s.ok) :
    Calls Try.prog 20 #[V, .agg #[.int .u8 s.wh, .int .u8 s.k, .int .u8 s.v, .bool s.lg]] w fun e w' => ∃ V', e = .returned V' ∧ Ca w' room (rstep room l s) V' ∧ Below w.heap.size w w' := by
  have hs := g.sm (by omega)
  rw [← pstep_eq g]
  exact pstep_any room l V s w hV hs.1 (by omega) g.nd ho
theorem right_good {room : Int} {l : List En} {V : Value} (w : World) (hV : Ca w room l V) (g : Good room l) (hr0 : 0 ≤ room) (hr1 : room ≤ 40) :
    Calls Try.prog 21 #[V] w fun e w' => e = .returned (.bool true) ∧ Below w.heap.size w w' :=
  right_yes room l V w hV (g.sm (by omega)).1 g.nd hr0 hr1 g.fits
theorem app_copy {w : World} {A B : Option Addr} {m d : Nat} {news : List Value} (hA : Rd w 9 1 A 0 []) (hx : Rd w 9 1 B m news) (hm : m ≤ 1000) :
    ∃ A' c' w', (Builtin.append_ #[24, 24] 24 #[.slice A 0 0, .slice B m d]).run Try.prog w = .ok (.slice A' m c') w' ∧ Ext w w' ∧ Rd w' 9 1 A' m news ∧ m ≤ c' ∧ c' ≤ maxLen := by
  obtain ⟨i0, hi0, hz0, hz1, hz2⟩ := info_parts str_info
  obtain ⟨A', c', w', h1, h2, h3, h4, h5⟩ := run_app_full (P := Try.prog) w 24 24 9 i0 _ 1 16 Try.underlying24 hi0 hz0 hz1 hz2 (by decide) (by decide) hA (fun _ => rfl) hx (by simp only [maxLen]; omega) (by omega) (d := d)
  rw [Nat.zero_add] at h1 h3 h4
  exact ⟨A', c', w', h1, h2, h3, h4, h5⟩
end Go.Proofs.Ytecdmgcgplohoaa
