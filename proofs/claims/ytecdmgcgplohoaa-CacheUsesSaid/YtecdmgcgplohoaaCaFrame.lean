/-
  The arguments of the laws of this seat, opened: a list of steps, and one step. They hold in every world.
-/
import Derived.Test.YtecdmgcgplohoaaCa19
namespace Go.Proofs.Ytecdmgcgplohoaa
open Go.ChangeShapes Go.WideShapes Go.ChangeAt Go.RowKit
set_option linter.unusedVariables false
set_option linter.unusedSimpArgs false
theorem raw_cells {H : Type} {enc : TypeId × Value → H} {w : World} {base : Nat} {spare : Nat → Bool} {held : Bool} {fuel : Nat} {cs : List Value} {x : DataW H × List MemPlace}
    (h : DataW.trod enc Try.prog w base spare held fuel 31 cs = some x) : ∃ s : St, cs = s.cells ∧ s.ok := by
  obtain ⟨xs, m, _, _, hl, hxl, hf⟩ := DataW.trod_struct Try.underlying31 h
  have hc : Try.prog.cellsOf 31 = 4 := by kernel_rfl
  rw [hc] at hl
  obtain ⟨u0, u1, u2, u3, rfl⟩ := list4 hl
  obtain ⟨y0, y1, y2, y3, rfl⟩ := list4 hxl
  have c5 : Try.prog.cellsOf 5 = 1 := by kernel_rfl
  have c4 : Try.prog.cellsOf 4 = 1 := by kernel_rfl
  have h0 : DataW.trod enc Try.prog w base spare held m 5 (List.take (Try.prog.cellsOf 5) (List.drop 0 [u0, u1, u2, u3])) = some y0 := hf 0 _ rfl
  rw [c5] at h0
  have h1 : DataW.trod enc Try.prog w base spare held m 5 (List.take (Try.prog.cellsOf 5) (List.drop 1 [u0, u1, u2, u3])) = some y1 := hf 1 _ rfl
  rw [c5] at h1
  have h2 : DataW.trod enc Try.prog w base spare held m 5 (List.take (Try.prog.cellsOf 5) (List.drop 2 [u0, u1, u2, u3])) = some y2 := hf 2 _ rfl
  rw [c5] at h2
  have h3 : DataW.trod enc Try.prog w base spare held m 4 (List.take (Try.prog.cellsOf 4) (List.drop 3 [u0, u1, u2, u3])) = some y3 := hf 3 _ rfl
  rw [c4] at h3
  obtain ⟨a, ha, _, wa⟩ := DataW.trod_int Try.underlying5 h0
  obtain ⟨b, hb, _, wb⟩ := DataW.trod_int Try.underlying5 h1
  obtain ⟨c, hc', _, wc⟩ := DataW.trod_int Try.underlying5 h2
  obtain ⟨d, hd, _⟩ := DataW.trod_bool Try.underlying4 h3
  simp at ha hb hc' hd
  subst ha hb hc' hd
  simp [Lit.wf, IntKind.min, IntKind.max, IntKind.signed, IntKind.bits] at wa wb wc
  exact ⟨⟨a, b, c, d⟩, rfl, wa, wb, wc⟩
theorem open_raws {H : Type} {enc : TypeId × Value → H} {w : World} {r : Reach} {b0 base : Nat} {spare : Nat → Bool} {held : Bool} {v : Value} {d : DataW H} {p : List MemPlace}
    (hv : Value.okWide Try.prog w r b0 22 v) (h : DataW.Trod enc Try.prog w base spare held 22 v d p) :
    ∃ (A : Option Addr) (n c : Nat) (ss : List St), v = .slice A n c ∧ n ≤ maxLen ∧ Rd w 0 4 A n (scells ss) ∧ ∀ s ∈ ss, s.ok := by
  obtain ⟨A, n, c, els, rfl, hnc, hcm, hrd, hel⟩ := open_slice_rd (e := 31) (sz := 4) Try.underlying22 (by kernel_rfl) (by omega) hv h
  obtain ⟨l, hl1, hl2, hl3⟩ := list_of els St.cells St.ok n (fun i hi => by
    obtain ⟨_, fuel, x, hx⟩ := hel i hi
    exact raw_cells hx)
  rw [hl2] at hrd
  exact ⟨A, n, c, l, rfl, by omega, hrd, hl3⟩
theorem open_raw {H : Type} {enc : TypeId × Value → H} {w : World} {r : Reach} {b0 base : Nat} {spare : Nat → Bool} {held : Bool} {v : Value} {d : DataW H} {p : List MemPlace}
    (hv : Value.okWide Try.prog w r b0 31 v) (h : DataW.Trod enc Try.prog w base spare held 31 v d p) :
    ∃ s : St, v = .agg #[.int .u8 s.wh, .int .u8 s.k, .int .u8 s.v, .bool s.lg] ∧ s.ok := by
  unfold Value.okWide at hv
  rw [Try.underlying31] at hv
  obtain ⟨cs, rfl, _, _⟩ := hv
  obtain ⟨fuel, hf⟩ := h
  obtain ⟨s, hs, ho⟩ := raw_cells hf
  refine ⟨s, ?_, ho⟩
  have : cs.toList = s.cells := hs
  congr 1
  exact Array.toList_inj.1 this
end Go.Proofs.Ytecdmgcgplohoaa
