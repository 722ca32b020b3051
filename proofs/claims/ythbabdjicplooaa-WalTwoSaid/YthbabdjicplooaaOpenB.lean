/- A law's arguments opened: slices of bytes and of booleans. Conditions: none. -/
import Derived.Test.YthbabdjicplooaaOpen
namespace Go.Proofs.Ythbabdjicplooaa
open Go.ChangeShapes Go.WideShapes Go.ChangeAt Go.RowKit

theorem open_bytes_rd {H : Type} {enc : TypeId × Value → H} {P : Program} {w : World} {base : Nat} {spare : Nat → Bool} {held : Bool} {t e : TypeId} (ht : P.underlying t = some (.slice e)) (he : P.underlying e = some (.int .u8)) (hk : P.cellsOf e = 1)
    {v : Value} {d : DataW H} {p : List MemPlace} (hv : ∃ A len cap, v = .slice A len cap) (h : DataW.Trod enc P w base spare held t v d p) :
    ∃ A len cap, ∃ l : List Int, v = .slice A len cap ∧ len ≤ cap ∧ cap ≤ maxLen ∧ l.length = len ∧ Rd w 1 A len (l.map (Value.int .u8)) ∧ (∀ x ∈ l, 0 ≤ x ∧ x ≤ 255) := by
  obtain ⟨A, len, cap, C, rfl, h1, h2, h3, h4, h5, _⟩ := open_rd ht hk (by omega) hv h
  have : ∃ l : List Int, C.flatten = l.map (Value.int .u8) ∧ l.length = C.length ∧ ∀ x ∈ l, 0 ≤ x ∧ x ≤ 255 := by
    clear h3 h4
    induction C with
    | nil => exact ⟨[], rfl, rfl, by simp⟩
    | cons c C ih =>
      obtain ⟨l, g1, g2, g3⟩ := ih (fun c hc => h5 c (by simp [hc]))
      obtain ⟨_, fuel, x, hx⟩ := h5 c (by simp)
      obtain ⟨n, rfl, _, hw⟩ := DataW.trod_int he hx
      refine ⟨n :: l, by simp [g1], by simp [g2], ?_⟩
      intro y hy
      rcases List.mem_cons.1 hy with rfl | hy
      · simp [Lit.wf, IntKind.min, IntKind.max, IntKind.signed, IntKind.bits] at hw; omega
      · exact g3 y hy
  obtain ⟨l, g1, g2, g3⟩ := this
  exact ⟨A, len, cap, l, rfl, h1, h2, g2.trans h3, by rw [← g1]; exact h4, g3⟩

theorem open_bools_rd {H : Type} {enc : TypeId × Value → H} {P : Program} {w : World} {base : Nat} {spare : Nat → Bool} {held : Bool} {t e : TypeId} (ht : P.underlying t = some (.slice e)) (he : P.underlying e = some .bool) (hk : P.cellsOf e = 1)
    {v : Value} {d : DataW H} {p : List MemPlace} (hv : ∃ A len cap, v = .slice A len cap) (h : DataW.Trod enc P w base spare held t v d p) :
    ∃ A len cap, ∃ l : List Bool, v = .slice A len cap ∧ len ≤ cap ∧ cap ≤ maxLen ∧ l.length = len ∧ Rd w 1 A len (l.map Value.bool) := by
  obtain ⟨A, len, cap, C, rfl, h1, h2, h3, h4, h5, _⟩ := open_rd ht hk (by omega) hv h
  have : ∃ l : List Bool, C.flatten = l.map Value.bool ∧ l.length = C.length := by
    clear h3 h4
    induction C with
    | nil => exact ⟨[], rfl, rfl⟩
    | cons c C ih =>
      obtain ⟨l, g1, g2⟩ := ih (fun c hc => h5 c (by simp [hc]))
      obtain ⟨_, fuel, x, hx⟩ := h5 c (by simp)
      obtain ⟨b, rfl, _⟩ := DataW.trod_bool he hx
      exact ⟨b :: l, by simp [g1], by simp [g2]⟩
  obtain ⟨l, g1, g2⟩ := this
  exact ⟨A, len, cap, l, rfl, h1, h2, g2.trans h3, by rw [← g1]; exact h4⟩
end Go.Proofs.Ythbabdjicplooaa
