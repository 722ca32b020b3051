/- FairKept: lanes are new memory each time: for every argument the call returns true, the arguments read as they did and nothing that was there has changed. Conditions: none. -/
import Derived.Test.YtcgpmenknloagaaOpen
import Derived.Test.YtcgpmenknloagaaFairKeptWalk
import Derived.SizedLaws
namespace Go.Proofs.Ytcgpmenknloagaa
open Go.ChangeShapes Go.WideShapes Go.ChangeAt Go.RowKit

theorem structs_lane {H : Type} {enc : TypeId × Value → H} {w : World} {base : Nat} {spare : Nat → Bool} {held : Bool} : ∀ C : List (List Value),
    (∀ c ∈ C, c.length = 3 ∧ ∃ fuel x, DataW.trod enc Try.prog w base spare held fuel 63 c = some x) → ∃ L : List (Lane), C.flatten = flatL L ∧ L.length = C.length ∧ ∀ x ∈ L, (-9223372036854775808 ≤ x.1 ∧ x.1 ≤ 9223372036854775807) ∧ (-9223372036854775808 ≤ x.2.1 ∧ x.2.1 ≤ 9223372036854775807) ∧ (-9223372036854775808 ≤ x.2.2 ∧ x.2.2 ≤ 9223372036854775807)
  | [], _ => ⟨[], rfl, rfl, by simp⟩
  | c :: C, h => by
    obtain ⟨L, g1, g2, g3⟩ := structs_lane C (fun c hc => h c (by simp [hc]))
    obtain ⟨hc, fuel, x, hx⟩ := h c (by simp)
    obtain ⟨y0, y1, y2, m, -, hl, hy0, hy1, hy2⟩ := Go.Deep.trod_struct3 Try.underlying63 hx
    rw [show Try.prog.cellsOf 3 = 1 from by kernel_rfl] at hy0 hy1 hy2
    obtain ⟨n0, e0, -, w0⟩ := DataW.trod_int Try.underlying3 hy0
    obtain ⟨n1, e1, -, w1⟩ := DataW.trod_int Try.underlying3 hy1
    obtain ⟨n2, e2, -, w2⟩ := DataW.trod_int Try.underlying3 hy2
    have hcc : c = [.int .i64 n0, .int .i64 n1, .int .i64 n2] := by
      match c, hc with
      | [z0, z1, z2], _ => simp at e0 e1 e2; simp [e0, e1, e2]
    subst hcc
    refine ⟨(n0, n1, n2) :: L, by rw [List.flatten_cons, g1]; rfl, by simp [g2], ?_⟩
    intro y hy
    rcases List.mem_cons.1 hy with rfl | hy
    · simp [Lit.wf, IntKind.min, IntKind.max, IntKind.signed, IntKind.bits] at w0 w1 w2; dsimp only; omega
    · exact g3 y hy

set_option maxRecDepth 100000 in
theorem fairKept_lifted (os : Os) (started : os.Started) (H : Type) (enc : TypeId × Value → H) :
    ReturnsInHanded {} Try.checked os 11 .any (Rows.fairKeptSpec.pre6 enc Try.prog Try.f11 Rows.fairKeptRow.domain false) (Rows.fairKeptSpec.post enc Try.prog Try.f11 false true false false) := by
  refine returnsInHanded_of_change_sized (C := Try.checked) law_own started (by kernel_rfl) Try.func11
    (ChangeSpec.witness6 (enc := enc) (C := Try.checked) false ⟨#[], #[.slice none 0 0], []⟩ 8 (by kernel_rfl) (by kernel_rfl) (by kernel_rfl) (by kernel_rfl)) ?_
  intro W base args ds gs before hval0 hW _ hsz0 _
  have hsz : (DataW.weightsEach Try.prog (Try.f11.params.toList ++ Rows.fairKeptSpec.plain.varTypes Try.prog) (ds ++ gs)).all (· ≤ reachBytes) = true := hsz0
  have hval : ∀ (j : Nat) t v, Try.f11.params[j]? = some t → args[j]? = some v → Value.okWide Try.prog W .any base t v := hval0
  clear hsz0 hval0
  have hW' := hW
  obtain ⟨p, q, hA0, hV, rfl, hfz, hnd⟩ := hW
  have hA : DataW.TrodAll enc Try.prog W 0 (fun _ => true) true Try.f11.params.toList args.toList ds p := hA0
  rw [Try.params11] at hA hval hsz
  obtain ⟨rfl, rfl⟩ := trodVars_none hV
  clear hA0 hfz hnd hV
  obtain ⟨v0, vs0, d0, ds0, p0, q0, hargs, rfl, rfl, h0, r0⟩ := trodAll_cons hA
  obtain ⟨rfl, rfl, rfl⟩ := trodAll_nil r0
  obtain ⟨args⟩ := args
  dsimp only at hargs
  subst hargs
  obtain ⟨A0, n0, c0, C0, rfl, ln0, lc0, hC0, rd0, el0, dd0⟩ := open_rd Try.underlying59 (show Try.prog.cellsOf 63 = 3 from by kernel_rfl) (by omega) (okWide_slice Try.underlying59 (hval 0 59 v0 rfl rfl)) h0
  obtain ⟨l0, fl0, ll0, wf0⟩ := structs_lane C0 el0
  rw [fl0] at rd0
  have sz0 : n0 * 24 ≤ 140737488351232 := by
    rcases dd0 with rfl | ⟨el, sp, rfl, hel⟩
    · omega
    · have := sized_slice hsz (j := 0) (t := 59) (e := 63) rfl rfl Try.underlying59
      rw [show Try.prog.bytesOf 63 = 24 from by kernel_rfl] at this
      unfold reachBytes at this
      omega
  refine (fairKept_any A0 n0 c0 l0 (Sat.start W) (reads_old rd0)).mono fun e W' ⟨he, hs, hg⟩ => ?_
  subst he
  exact ⟨_, rfl, law_post rfl rfl (by kernel_rfl) hW' rfl (hs.below hg)⟩

theorem fairKept_holds : Rows.FairKeptSaid :=
  OpenClaim.holds_of_wide 11 Try.f11 rfl rfl rfl rfl rfl rfl rfl ⟨rfl, rfl, rfl, rfl, rfl⟩ rfl rfl rfl rfl rfl (by kernel_rfl) Try.func11 (by kernel_rfl)
    (of_decide_eq_true (by kernel_rfl)) (by unfold Func.isWrapper; rw [if_neg (of_decide_eq_false (by kernel_rfl))]; exact ⟨rfl, rfl⟩)
    (fun os started H enc _ => fairKept_lifted os started H enc)
#print axioms fairKept_holds
end Go.Proofs.Ytcgpmenknloagaa
