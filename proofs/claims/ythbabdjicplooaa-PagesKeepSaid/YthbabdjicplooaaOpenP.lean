/- A law's argument opened: a slice of the calls that are asked for, each with its cut. Conditions: none. -/
import Derived.Test.YthbabdjicplooaaMapG
import Derived.Test.YthbabdjicplooaaPagesKeepWalk
namespace Go.Proofs.Ythbabdjicplooaa
open Go.ChangeShapes Go.WideShapes Go.ChangeAt Go.RowKit

theorem trod_struct6p {H : Type} {enc : TypeId × Value → H} {P : Program} {w : World} {base : Nat} {spare : Nat → Bool} {held : Bool} {t : TypeId} {f0 f1 f2 f3 f4 f5 : Field} {fuel : Nat} {cs : List Value} {x : DataW H × List MemPlace} (ht : P.underlying t = some (.struct #[f0, f1, f2, f3, f4, f5])) (h : DataW.trod enc P w base spare held fuel t cs = some x) :
    ∃ y0 y1 y2 y3 y4 y5 n, cs.length = P.cellsOf t ∧ DataW.trod enc P w base spare held n f0.type ((cs.drop f0.offset).take (P.cellsOf f0.type)) = some y0 ∧
      DataW.trod enc P w base spare held n f1.type ((cs.drop f1.offset).take (P.cellsOf f1.type)) = some y1 ∧ DataW.trod enc P w base spare held n f2.type ((cs.drop f2.offset).take (P.cellsOf f2.type)) = some y2 ∧
      DataW.trod enc P w base spare held n f3.type ((cs.drop f3.offset).take (P.cellsOf f3.type)) = some y3 ∧ DataW.trod enc P w base spare held n f4.type ((cs.drop f4.offset).take (P.cellsOf f4.type)) = some y4 ∧
      DataW.trod enc P w base spare held n f5.type ((cs.drop f5.offset).take (P.cellsOf f5.type)) = some y5 := by
  obtain ⟨xs, n, _, rfl, hl, hlen, hf⟩ := DataW.trod_struct ht h
  match xs, hlen with
  | [y0, y1, y2, y3, y4, y5], _ => exact ⟨y0, y1, y2, y3, y4, y5, n, hl, by simpa using hf 0 f0 rfl, by simpa using hf 1 f1 rfl, by simpa using hf 2 f2 rfl, by simpa using hf 3 f3 rfl, by simpa using hf 4 f4 rfl, by simpa using hf 5 f5 rfl⟩

theorem slice_form {H : Type} {enc : TypeId × Value → H} {P : Program} {w : World} {base : Nat} {spare : Nat → Bool} {held : Bool} {t e : TypeId} {fuel : Nat} {v : Value} {x : DataW H × List MemPlace} (ht : P.underlying t = some (.slice e)) (h : DataW.trod enc P w base spare held fuel t [v] = some x) : ∃ A len cap, v = .slice A len cap := by
  rcases DataW.trod_slice ht h with ⟨hcs, _⟩ | ⟨a, len', cap', elems, rest, m, _, hcs, _⟩
  · simp at hcs; exact ⟨_, _, _, hcs⟩
  · simp at hcs; exact ⟨_, _, _, hcs⟩

set_option maxRecDepth 100000 in
theorem askp_cell {H : Type} {enc : TypeId × Value → H} {w : World} {base : Nat} {spare : Nat → Bool} {held : Bool} {c : List Value} {fuel : Nat} {x : DataW H × List MemPlace} (hc : c.length = 8)
    (hx : DataW.trod enc Try.prog w base spare held fuel 105 c = some x) :
    ∃ a : AskP, c = cellsKp a ∧ a.again ≤ 9223372036854775807 ∧ (0 ≤ a.fill ∧ a.fill ≤ 255) ∧ Rd w 1 a.An a.nn (ints a.ns) ∧ Rd w 1 a.A a.nk (a.keep.map Value.bool) := by
  obtain ⟨y0, y1, y2, y3, y4, y5, m, -, h0, h1, h2, h3, h4, h5⟩ := trod_struct6p Try.underlying105 hx
  rw [show Try.prog.cellsOf 3 = 1 from by kernel_rfl] at h0 h1 h2
  rw [show Try.prog.cellsOf 47 = 1 from by kernel_rfl] at h3
  rw [show Try.prog.cellsOf 5 = 1 from by kernel_rfl] at h4
  rw [show Try.prog.cellsOf 24 = 3 from by kernel_rfl] at h5
  match c, hc with
  | [c0, c1, c2, c3, c4, c5, c6, c7], _ =>
    obtain ⟨n0, e0, -, -⟩ := DataW.trod_int Try.underlying3 h0
    obtain ⟨n1, e1, -, -⟩ := DataW.trod_int Try.underlying3 h1
    obtain ⟨n2, e2, -, w2⟩ := DataW.trod_int Try.underlying3 h2
    obtain ⟨n4, e4, -, w4⟩ := DataW.trod_int Try.underlying5 h4
    simp at e0 e1 e2 e4 h3
    subst e0; subst e1; subst e2; subst e4
    obtain ⟨An, nn, cn, rfl⟩ := slice_form Try.underlying47 h3
    obtain ⟨An', nn', cn', ns, he, -, -, -, hrdn, -, -⟩ := open_ints_rd Try.underlying47 Try.underlying3 (by kernel_rfl) (v := .slice An nn cn) ⟨An, nn, cn, rfl⟩ ⟨m, by simpa [Value.cells] using h3⟩
    cases he
    obtain ⟨z0, z1, z2, n, -, -, k0, k1, k2⟩ := Go.Deep.trod_struct3 Try.underlying24 h5
    rw [show Try.prog.cellsOf 22 = 1 from by kernel_rfl] at k0
    rw [show Try.prog.cellsOf 3 = 1 from by kernel_rfl] at k1 k2
    obtain ⟨torn, e6, -, -⟩ := DataW.trod_int Try.underlying3 k1
    obtain ⟨nb, e7, -, -⟩ := DataW.trod_int Try.underlying3 k2
    simp at e6 e7 k0
    subst e6; subst e7
    obtain ⟨A, len, cap, rfl⟩ := slice_form Try.underlying22 k0
    obtain ⟨A', len', cap', l, he, -, -, hll, hrd⟩ := open_bools_rd Try.underlying22 Try.underlying4 (by kernel_rfl) (v := .slice A len cap) ⟨A, len, cap, rfl⟩ ⟨n, by simpa [Value.cells] using k0⟩
    cases he
    refine ⟨⟨n0, n1, n2, An, nn, cn, ns, n4, A, len, cap, l, torn, nb⟩, rfl, ?_, ?_, hrdn, hrd⟩
    · simp [Lit.wf, IntKind.min, IntKind.max, IntKind.signed, IntKind.bits] at w2; dsimp only; omega
    · simp [Lit.wf, IntKind.min, IntKind.max, IntKind.signed, IntKind.bits] at w4; dsimp only; omega

theorem asksP_open {H : Type} {enc : TypeId × Value → H} {w : World} {base : Nat} {spare : Nat → Bool} {held : Bool} : ∀ C : List (List Value),
    (∀ c ∈ C, c.length = 8 ∧ ∃ fuel x, DataW.trod enc Try.prog w base spare held fuel 105 c = some x) → ∃ L : List AskP, C.flatten = flatKp L ∧ L.length = C.length ∧
      ∀ a ∈ L, a.again ≤ 9223372036854775807 ∧ (0 ≤ a.fill ∧ a.fill ≤ 255) ∧ Rd w 1 a.An a.nn (ints a.ns) ∧ Rd w 1 a.A a.nk (a.keep.map Value.bool)
  | [], _ => ⟨[], rfl, rfl, by simp⟩
  | c :: C, h => by
    obtain ⟨L, g1, g2, g3⟩ := asksP_open C (fun c hc => h c (by simp [hc]))
    obtain ⟨hc, fuel, x, hx⟩ := h c (by simp)
    obtain ⟨a, rfl, ha⟩ := askp_cell hc hx
    refine ⟨a :: L, by rw [List.flatten_cons, g1]; rfl, by simp [g2], ?_⟩
    intro y hy
    rcases List.mem_cons.1 hy with rfl | hy
    · exact ha
    · exact g3 y hy
end Go.Proofs.Ythbabdjicplooaa
