/- A law's argument opened: a cut. Conditions: none. -/
import Derived.Test.YthbabdjicplooaaOpenB
import Derived.Test.YthbabdjicplooaaProg
import Derived.Deep.Strs
namespace Go.Proofs.Ythbabdjicplooaa
open Go.ChangeShapes Go.WideShapes Go.ChangeAt Go.RowKit

set_option maxRecDepth 100000 in
/-- A cut that came in. -/
theorem open_cut {H : Type} {enc : TypeId × Value → H} {w W : World} {r : Reach} {base b0 : Nat} {spare : Nat → Bool} {held : Bool} {v : Value} {d : DataW H} {p : List MemPlace}
    (hv : Value.okWide Try.prog W r b0 24 v) (h : DataW.Trod enc Try.prog w base spare held 24 v d p) :
    ∃ A len cap, ∃ l : List Bool, ∃ torn nb : Int, v = .agg #[.slice A len cap, .int .i64 torn, .int .i64 nb] ∧ l.length = len ∧ Rd w 1 A len (l.map Value.bool) := by
  obtain ⟨cs, rfl, hsz⟩ := okWide_struct Try.underlying24 hv
  obtain ⟨fuel, hf⟩ := h
  obtain ⟨y0, y1, y2, n, -, hl, h0, h1, h2⟩ := Go.Deep.trod_struct3 Try.underlying24 hf
  rw [show Try.prog.cellsOf 24 = 3 from by kernel_rfl] at hsz
  obtain ⟨cs⟩ := cs
  match cs, hsz with
  | [c0, c1, c2], _ =>
    rw [show Try.prog.cellsOf 22 = 1 from by kernel_rfl] at h0
    rw [show Try.prog.cellsOf 3 = 1 from by kernel_rfl] at h1 h2
    obtain ⟨torn, e1, -, -⟩ := DataW.trod_int Try.underlying3 h1
    obtain ⟨nb, e2, -, -⟩ := DataW.trod_int Try.underlying3 h2
    simp [Value.cells] at e1 e2 h0
    subst e1; subst e2
    have hs : ∃ A len cap, c0 = .slice A len cap := by
      rcases DataW.trod_slice Try.underlying22 h0 with ⟨hcs, _⟩ | ⟨a, len', cap', elems, rest, m, _, hcs, _⟩
      · simp at hcs; exact ⟨_, _, _, hcs⟩
      · simp at hcs; exact ⟨_, _, _, hcs⟩
    obtain ⟨A, len, cap, rfl⟩ := hs
    obtain ⟨A', len', cap', l, he, -, -, hll, hrd⟩ := open_bools_rd Try.underlying22 Try.underlying4 (by kernel_rfl) (v := .slice A len cap) ⟨A, len, cap, rfl⟩ ⟨n, by simpa [Value.cells] using h0⟩
    cases he
    exact ⟨A, len, cap, l, torn, nb, rfl, hll, hrd⟩
end Go.Proofs.Ythbabdjicplooaa
