/- QueuePlays: what waits waits once, in its order, and comes out so, for any calls: for every argument the call returns true, the arguments read as they did and nothing that was there has changed. Conditions: none. -/
import Derived.Test.YtcgpmenknloagaaOpen
import Derived.Test.YtcgpmenknloagaaQueuePlaysWalk
import Derived.SizedLaws
namespace Go.Proofs.Ytcgpmenknloagaa
open Go.ChangeShapes Go.WideShapes Go.ChangeAt Go.RowKit

theorem structs_ask {H : Type} {enc : TypeId × Value → H} {w : World} {base : Nat} {spare : Nat → Bool} {held : Bool} : ∀ C : List (List Value),
    (∀ c ∈ C, c.length = 2 ∧ ∃ fuel x, DataW.trod enc Try.prog w base spare held fuel 48 c = some x) → ∃ L : List (Int × Int), C.flatten = flatAsk L ∧ L.length = C.length ∧ ∀ x ∈ L, (-9223372036854775808 ≤ x.1 ∧ x.1 ≤ 9223372036854775807) ∧ (-9223372036854775808 ≤ x.2 ∧ x.2 ≤ 9223372036854775807)
  | [], _ => ⟨[], rfl, rfl, by simp⟩
  | c :: C, h => by
    obtain ⟨L, g1, g2, g3⟩ := structs_ask C (fun c hc => h c (by simp [hc]))
    obtain ⟨hc, fuel, x, hx⟩ := h c (by simp)
    obtain ⟨y0, y1, m, -, hl, hy0, hy1⟩ := trod_struct2 Try.underlying48 hx
    rw [show Try.prog.cellsOf 3 = 1 from by kernel_rfl] at hy0 hy1
    obtain ⟨n0, e0, -, w0⟩ := DataW.trod_int Try.underlying3 hy0
    obtain ⟨n1, e1, -, w1⟩ := DataW.trod_int Try.underlying3 hy1
    have hcc : c = [.int .i64 n0, .int .i64 n1] := by
      match c, hc with
      | [z0, z1], _ => simp at e0 e1; simp [e0, e1]
    subst hcc
    refine ⟨(n0, n1) :: L, by rw [List.flatten_cons, g1]; rfl, by simp [g2], ?_⟩
    intro y hy
    rcases List.mem_cons.1 hy with rfl | hy
    · simp [Lit.wf, IntKind.min, IntKind.max, IntKind.signed, IntKind.bits] at w0 w1; dsimp only; omega
    · exact g3 y hy

set_option maxRecDepth 100000 in
theorem queuePlays_lifted (os : Os) (started : os.Started) (H : Type) (enc : TypeId × Value → H) :
    ReturnsInHanded {} Try.checked os 5 .any (Rows.queuePlaysSpec.pre6 enc Try.prog Try.f5 Rows.queuePlaysRow.domain false) (Rows.queuePlaysSpec.post enc Try.prog Try.f5 false true false false) := by
  refine returnsInHanded_of_change_sized (C := Try.checked) law_own started (by kernel_rfl) Try.func5
    (ChangeSpec.witness6 (enc := enc) (C := Try.checked) false ⟨#[], #[.slice none 0 0], []⟩ 8 (by kernel_rfl) (by kernel_rfl) (by kernel_rfl) (by kernel_rfl)) ?_
  intro W base args ds gs before hval0 hW _ hsz0 _
  have hsz : (DataW.weightsEach Try.prog (Try.f5.params.toList ++ Rows.queuePlaysSpec.plain.varTypes Try.prog) (ds ++ gs)).all (· ≤ reachBytes) = true := hsz0
  have hval : ∀ (j : Nat) t v, Try.f5.params[j]? = some t → args[j]? = some v → Value.okWide Try.prog W .any base t v := hval0
  clear hsz0 hval0
  have hW' := hW
  obtain ⟨p, q, hA0, hV, rfl, hfz, hnd⟩ := hW
  have hA : DataW.TrodAll enc Try.prog W 0 (fun _ => true) true Try.f5.params.toList args.toList ds p := hA0
  rw [Try.params5] at hA hval hsz
  obtain ⟨rfl, rfl⟩ := trodVars_none hV
  clear hA0 hfz hnd hV
  obtain ⟨v0, vs0, d0, ds0, p0, q0, hargs, rfl, rfl, h0, r0⟩ := trodAll_cons hA
  obtain ⟨rfl, rfl, rfl⟩ := trodAll_nil r0
  obtain ⟨args⟩ := args
  dsimp only at hargs
  subst hargs
  obtain ⟨A0, n0, c0, C0, rfl, ln0, lc0, hC0, rd0, el0, dd0⟩ := open_rd Try.underlying46 (show Try.prog.cellsOf 48 = 2 from by kernel_rfl) (by omega) (okWide_slice Try.underlying46 (hval 0 46 v0 rfl rfl)) h0
  obtain ⟨l0, fl0, ll0, wf0⟩ := structs_ask C0 el0
  rw [fl0] at rd0
  have sz0 : n0 * 16 ≤ 140737488351232 := by
    rcases dd0 with rfl | ⟨el, sp, rfl, hel⟩
    · omega
    · have := sized_slice hsz (j := 0) (t := 46) (e := 48) rfl rfl Try.underlying46
      rw [show Try.prog.bytesOf 48 = 16 from by kernel_rfl] at this
      unfold reachBytes at this
      omega
  refine (queuePlays_any A0 n0 c0 l0 (by omega) sz0 rd0 (fun x hx => (wf0 x hx).2)).mono fun e W' ⟨he, hs, hg⟩ => ?_
  subst he
  exact ⟨_, rfl, law_post rfl rfl (by kernel_rfl) hW' rfl (hs.below hg)⟩

theorem queuePlays_holds : Rows.QueuePlaysSaid :=
  OpenClaim.holds_of_wide 5 Try.f5 rfl rfl rfl rfl rfl rfl rfl ⟨rfl, rfl, rfl, rfl, rfl⟩ rfl rfl rfl rfl rfl (by kernel_rfl) Try.func5 (by kernel_rfl)
    (of_decide_eq_true (by kernel_rfl)) (by unfold Func.isWrapper; rw [if_neg (of_decide_eq_false (by kernel_rfl))]; exact ⟨rfl, rfl⟩)
    (fun os started H enc _ => queuePlays_lifted os started H enc)
#print axioms queuePlays_holds
end Go.Proofs.Ytcgpmenknloagaa
