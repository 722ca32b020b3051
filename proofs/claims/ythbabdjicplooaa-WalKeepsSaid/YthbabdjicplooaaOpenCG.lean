/- A law's arguments opened: slices of bytes and of booleans. Conditions: none. -/
import Derived.Test.YthbabdjicplooaaOpen
import Derived.Test.YthbabdjicplooaaProg
import Derived.Deep.Strs
namespace Go.Proofs.Ythbabdjicplooaa
open Go.ChangeShapes Go.WideShapes Go.ChangeAt Go.RowKit

theorem open_bytes_rd {H : Type} {enc : TypeId × Value → H} {P : Program} {w : World} {base : Nat} {spare : Nat → Bool} {held : Bool} {t e : TypeId} (ht : P.underlying t = some (.slice e)) (he : P.underlying e = some (.int .u8)) (hk : P.cellsOf e = 1)
    {v : Value} {d : DataW H} {p : List MemPlace} (hv : ∃ A len cap, v = .slice A len cap) (h : DataW.Trod enc P w base spare held t v d p) :
    ∃ A len cap, ∃ l : List Int, v = .slice A len cap ∧ len ≤ cap ∧ cap ≤ maxLen ∧ l.length = len ∧ Rd w 1 A len (l.map (Value.int .u8)) ∧ (∀ x ∈ l, 0 ≤ x ∧ x ≤ 255) := by
  obtain ⟨A, len, cap, C, rfl, h1, h2, h3, h4, h5, _⟩ := open_rd ht hk (by omega) hv h
  have : ∃ l : List Int, C.flatten = l.map (Value.int .u8) ∧ l.length = C.length ∧ ∀ x ∈ l, 0 ≤ x ∧ x ≤ 255 := by
    clear h3 h4
    induction C with
    | nil => exact ⟨[], rfl, rfl, by simp⟩
    | cons c C ih =>
      obtain ⟨l, g1, g2, g3⟩ := ih (fun c hc => h5 c (by simp [hc]))
      obtain ⟨_, fuel, x, hx⟩ := h5 c (by simp)
      obtain ⟨n, rfl, _, hw⟩ := DataW.trod_int he hx
      refine ⟨n :: l, by simp [g1], by simp [g2], ?_⟩
      intro y hy
      rcases List.mem_cons.1 hy with rfl | hy
      · simp [Lit.wf, IntKind.min, IntKind.max, IntKind.signed, IntKind.bits] at hw; omega
      · exact g3 y hy
  obtain ⟨l, g1, g2, g3⟩ := this
  exact ⟨A, len, cap, l, rfl, h1, h2, g2.trans h3, by rw [← g1]; exact h4, g3⟩

theorem open_bools_rd {H : Type} {enc : TypeId × Value → H} {P : Program} {w : World} {base : Nat} {spare : Nat → Bool} {held : Bool} {t e : TypeId} (ht : P.underlying t = some (.slice e)) (he : P.underlying e = some .bool) (hk : P.cellsOf e = 1)
    {v : Value} {d : DataW H} {p : List MemPlace} (hv : ∃ A len cap, v = .slice A len cap) (h : DataW.Trod enc P w base spare held t v d p) :
    ∃ A len cap, ∃ l : List Bool, v = .slice A len cap ∧ len ≤ cap ∧ cap ≤ maxLen ∧ l.length = len ∧ Rd w 1 A len (l.map Value.bool) := by
  obtain ⟨A, len, cap, C, rfl, h1, h2, h3, h4, h5, _⟩ := open_rd ht hk (by omega) hv h
  have : ∃ l : List Bool, C.flatten = l.map Value.bool ∧ l.length = C.length := by
    clear h3 h4
    induction C with
    | nil => exact ⟨[], rfl, rfl⟩
    | cons c C ih =>
      obtain ⟨l, g1, g2⟩ := ih (fun c hc => h5 c (by simp [hc]))
      obtain ⟨_, fuel, x, hx⟩ := h5 c (by simp)
      obtain ⟨b, rfl, _⟩ := DataW.trod_bool he hx
      exact ⟨b :: l, by simp [g1], by simp [g2]⟩
  obtain ⟨l, g1, g2⟩ := this
  exact ⟨A, len, cap, l, rfl, h1, h2, g2.trans h3, by rw [← g1]; exact h4⟩
end Go.Proofs.Ythbabdjicplooaa

/- A law's argument opened: a cut. Conditions: none. -/
namespace Go.Proofs.Ythbabdjicplooaa
open Go.ChangeShapes Go.WideShapes Go.ChangeAt Go.RowKit

set_option maxRecDepth 100000 in
/-- A cut that came in. -/
theorem open_cut {H : Type} {enc : TypeId × Value → H} {w W : World} {r : Reach} {base b0 : Nat} {spare : Nat → Bool} {held : Bool} {v : Value} {d : DataW H} {p : List MemPlace}
    (hv : Value.okWide Try.prog W r b0 24 v) (h : DataW.Trod enc Try.prog w base spare held 24 v d p) :
    ∃ A len cap, ∃ l : List Bool, ∃ torn nb : Int, v = .agg #[.slice A len cap, .int .i64 torn, .int .i64 nb] ∧ l.length = len ∧ Rd w 1 A len (l.map Value.bool) := by
  obtain ⟨cs, rfl, hsz⟩ := okWide_struct Try.underlying24 hv
  obtain ⟨fuel, hf⟩ := h
  obtain ⟨y0, y1, y2, n, -, hl, h0, h1, h2⟩ := Go.Deep.trod_struct3 Try.underlying24 hf
  rw [show Try.prog.cellsOf 24 = 3 from by kernel_rfl] at hsz
  obtain ⟨cs⟩ := cs
  match cs, hsz with
  | [c0, c1, c2], _ =>
    rw [show Try.prog.cellsOf 22 = 1 from by kernel_rfl] at h0
    rw [show Try.prog.cellsOf 3 = 1 from by kernel_rfl] at h1 h2
    obtain ⟨torn, e1, -, -⟩ := DataW.trod_int Try.underlying3 h1
    obtain ⟨nb, e2, -, -⟩ := DataW.trod_int Try.underlying3 h2
    simp [Value.cells] at e1 e2 h0
    subst e1; subst e2
    have hs : ∃ A len cap, c0 = .slice A len cap := by
      rcases DataW.trod_slice Try.underlying22 h0 with ⟨hcs, _⟩ | ⟨a, len', cap', elems, rest, m, _, hcs, _⟩
      · simp at hcs; exact ⟨_, _, _, hcs⟩
      · simp at hcs; exact ⟨_, _, _, hcs⟩
    obtain ⟨A, len, cap, rfl⟩ := hs
    obtain ⟨A', len', cap', l, he, -, -, hll, hrd⟩ := open_bools_rd Try.underlying22 Try.underlying4 (by kernel_rfl) (v := .slice A len cap) ⟨A, len, cap, rfl⟩ ⟨n, by simpa [Value.cells] using h0⟩
    cases he
    exact ⟨A, len, cap, l, torn, nb, rfl, hll, hrd⟩
end Go.Proofs.Ythbabdjicplooaa
