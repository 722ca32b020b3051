/- FairServes: whose turn it is, and what is taken, is as the document says: for every argument the call returns true, the arguments read as they did and nothing that was there has changed. Conditions: none. -/
import Derived.Test.YtcgpmenknloagaaOpen
import Derived.Test.YtcgpmenknloagaaFairServesWalk
import Derived.SizedLaws
namespace Go.Proofs.Ytcgpmenknloagaa
open Go.ChangeShapes Go.WideShapes Go.ChangeAt Go.RowKit

theorem structs_lane {H : Type} {enc : TypeId × Value → H} {w : World} {base : Nat} {spare : Nat → Bool} {held : Bool} : ∀ C : List (List Value),
    (∀ c ∈ C, c.length = 3 ∧ ∃ fuel x, DataW.trod enc Try.prog w base spare held fuel 63 c = some x) → ∃ L : List (Lane), C.flatten = flatL L ∧ L.length = C.length ∧ ∀ x ∈ L, (-9223372036854775808 ≤ x.1 ∧ x.1 ≤ 9223372036854775807) ∧ (-9223372036854775808 ≤ x.2.1 ∧ x.2.1 ≤ 9223372036854775807) ∧ (-9223372036854775808 ≤ x.2.2 ∧ x.2.2 ≤ 9223372036854775807)
  | [], _ => ⟨[], rfl, rfl, by simp⟩
  | c :: C, h => by
    obtain ⟨L, g1, g2, g3⟩ := structs_lane C (fun c hc => h c (by simp [hc]))
    obtain ⟨hc, fuel, x, hx⟩ := h c (by simp)
    obtain ⟨y0, y1, y2, m, -, hl, hy0, hy1, hy2⟩ := Go.Deep.trod_struct3 Try.underlying63 hx
    rw [show Try.prog.cellsOf 3 = 1 from by kernel_rfl] at hy0 hy1 hy2
    obtain ⟨n0, e0, -, w0⟩ := DataW.trod_int Try.underlying3 hy0
    obtain ⟨n1, e1, -, w1⟩ := DataW.trod_int Try.underlying3 hy1
    obtain ⟨n2, e2, -, w2⟩ := DataW.trod_int Try.underlying3 hy2
    have hcc : c = [.int .i64 n0, .int .i64 n1, .int .i64 n2] := by
      match c, hc with
      | [z0, z1, z2], _ => simp at e0 e1 e2; simp [e0, e1, e2]
    subst hcc
    refine ⟨(n0, n1, n2) :: L, by rw [List.flatten_cons, g1]; rfl, by simp [g2], ?_⟩
    intro y hy
    rcases List.mem_cons.1 hy with rfl | hy
    · simp [Lit.wf, IntKind.min, IntKind.max, IntKind.signed, IntKind.bits] at w0 w1 w2; dsimp only; omega
    · exact g3 y hy

set_option maxRecDepth 100000 in
theorem fairServes_lifted (os : Os) (started : os.Started) (H : Type) (enc : TypeId × Value → H) :
    ReturnsInHanded {} Try.checked os 8 .any (Rows.fairServesSpec.pre6 enc Try.prog Try.f8 Rows.fairServesRow.domain false) (Rows.fairServesSpec.post enc Try.prog Try.f8 false true false false) := by
  refine returnsInHanded_of_change_sized (C := Try.checked) law_own started (by kernel_rfl) Try.func8
    (ChangeSpec.witness6 (enc := enc) (C := Try.checked) false ⟨#[], #[.slice none 0 0, .int .i64 0, .int .i64 0, .int .i64 0, .int .i64 0, .int .i64 0], []⟩ 8 (by kernel_rfl) (by kernel_rfl) (by kernel_rfl) (by kernel_rfl)) ?_
  intro W base args ds gs before hval0 hW _ hsz0 _
  have hsz : (DataW.weightsEach Try.prog (Try.f8.params.toList ++ Rows.fairServesSpec.plain.varTypes Try.prog) (ds ++ gs)).all (· ≤ reachBytes) = true := hsz0
  have hval : ∀ (j : Nat) t v, Try.f8.params[j]? = some t → args[j]? = some v → Value.okWide Try.prog W .any base t v := hval0
  clear hsz0 hval0
  have hW' := hW
  obtain ⟨p, q, hA0, hV, rfl, hfz, hnd⟩ := hW
  have hA : DataW.TrodAll enc Try.prog W 0 (fun _ => true) true Try.f8.params.toList args.toList ds p := hA0
  rw [Try.params8] at hA hval hsz
  obtain ⟨rfl, rfl⟩ := trodVars_none hV
  clear hA0 hfz hnd hV
  obtain ⟨v0, vs0, d0, ds0, p0, q0, hargs, rfl, rfl, h0, r0⟩ := trodAll_cons hA
  obtain ⟨v1, vs1, d1, ds1, p1, q1, rfl, rfl, rfl, h1, r1⟩ := trodAll_cons r0
  obtain ⟨v2, vs2, d2, ds2, p2, q2, rfl, rfl, rfl, h2, r2⟩ := trodAll_cons r1
  obtain ⟨v3, vs3, d3, ds3, p3, q3, rfl, rfl, rfl, h3, r3⟩ := trodAll_cons r2
  obtain ⟨v4, vs4, d4, ds4, p4, q4, rfl, rfl, rfl, h4, r4⟩ := trodAll_cons r3
  obtain ⟨v5, vs5, d5, ds5, p5, q5, rfl, rfl, rfl, h5, r5⟩ := trodAll_cons r4
  obtain ⟨rfl, rfl, rfl⟩ := trodAll_nil r5
  obtain ⟨args⟩ := args
  dsimp only at hargs
  subst hargs
  obtain ⟨A0, n0, c0, C0, rfl, ln0, lc0, hC0, rd0, el0, dd0⟩ := open_rd Try.underlying59 (show Try.prog.cellsOf 63 = 3 from by kernel_rfl) (by omega) (okWide_slice Try.underlying59 (hval 0 59 v0 rfl rfl)) h0
  obtain ⟨l0, fl0, ll0, wf0⟩ := structs_lane C0 el0
  rw [fl0] at rd0
  have sz0 : n0 * 24 ≤ 140737488351232 := by
    rcases dd0 with rfl | ⟨el, sp, rfl, hel⟩
    · omega
    · have := sized_slice hsz (j := 0) (t := 59) (e := 63) rfl rfl Try.underlying59
      rw [show Try.prog.bytesOf 63 = 24 from by kernel_rfl] at this
      unfold reachBytes at this
      omega
  obtain ⟨x1, rfl, rfl, rfl, wx1⟩ := open_int Try.underlying3 (hval 1 3 v1 rfl rfl) h1
  have bx1 : -9223372036854775808 ≤ x1 ∧ x1 ≤ 9223372036854775807 := by simp [Lit.wf, IntKind.min, IntKind.max, IntKind.signed, IntKind.bits] at wx1; omega
  obtain ⟨x2, rfl, rfl, rfl, wx2⟩ := open_int Try.underlying3 (hval 2 3 v2 rfl rfl) h2
  have bx2 : -9223372036854775808 ≤ x2 ∧ x2 ≤ 9223372036854775807 := by simp [Lit.wf, IntKind.min, IntKind.max, IntKind.signed, IntKind.bits] at wx2; omega
  obtain ⟨x3, rfl, rfl, rfl, wx3⟩ := open_int Try.underlying3 (hval 3 3 v3 rfl rfl) h3
  have bx3 : -9223372036854775808 ≤ x3 ∧ x3 ≤ 9223372036854775807 := by simp [Lit.wf, IntKind.min, IntKind.max, IntKind.signed, IntKind.bits] at wx3; omega
  obtain ⟨x4, rfl, rfl, rfl, wx4⟩ := open_int Try.underlying3 (hval 4 3 v4 rfl rfl) h4
  have bx4 : -9223372036854775808 ≤ x4 ∧ x4 ≤ 9223372036854775807 := by simp [Lit.wf, IntKind.min, IntKind.max, IntKind.signed, IntKind.bits] at wx4; omega
  obtain ⟨x5, rfl, rfl, rfl, wx5⟩ := open_int Try.underlying3 (hval 5 3 v5 rfl rfl) h5
  have bx5 : -9223372036854775808 ≤ x5 ∧ x5 ≤ 9223372036854775807 := by simp [Lit.wf, IntKind.min, IntKind.max, IntKind.signed, IntKind.bits] at wx5; omega
  refine (fairServes_any A0 n0 c0 l0 x1 x2 x3 x4 x5 (Sat.start W) (reads_old rd0) bx1).mono fun e W' ⟨he, hs, hg⟩ => ?_
  subst he
  exact ⟨_, rfl, law_post rfl rfl (by kernel_rfl) hW' rfl (hs.below hg)⟩

theorem fairServes_holds : Rows.FairServesSaid :=
  OpenClaim.holds_of_wide 8 Try.f8 rfl rfl rfl rfl rfl rfl rfl ⟨rfl, rfl, rfl, rfl, rfl⟩ rfl rfl rfl rfl rfl (by kernel_rfl) Try.func8 (by kernel_rfl)
    (of_decide_eq_true (by kernel_rfl)) (by unfold Func.isWrapper; rw [if_neg (of_decide_eq_false (by kernel_rfl))]; exact ⟨rfl, rfl⟩)
    (fun os started H enc _ => fairServes_lifted os started H enc)
#print axioms fairServes_holds
end Go.Proofs.Ytcgpmenknloagaa
