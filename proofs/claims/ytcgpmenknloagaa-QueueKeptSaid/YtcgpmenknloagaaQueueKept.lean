/- QueueKept: lists are new memory each time: for every argument the call returns true, the arguments read as they did and nothing that was there has changed. Conditions: none. -/
import Derived.Test.YtcgpmenknloagaaOpen
import Derived.Test.YtcgpmenknloagaaQueueKeptWalk
import Derived.SizedLaws
namespace Go.Proofs.Ytcgpmenknloagaa
open Go.ChangeShapes Go.WideShapes Go.ChangeAt Go.RowKit

set_option maxRecDepth 100000 in
theorem queueKept_lifted (os : Os) (started : os.Started) (H : Type) (enc : TypeId × Value → H) :
    ReturnsInHanded {} Try.checked os 6 .any (Rows.queueKeptSpec.pre6 enc Try.prog Try.f6 Rows.queueKeptRow.domain false) (Rows.queueKeptSpec.post enc Try.prog Try.f6 false true false false) := by
  refine returnsInHanded_of_change_sized (C := Try.checked) law_own started (by kernel_rfl) Try.func6
    (ChangeSpec.witness6 (enc := enc) (C := Try.checked) false ⟨#[], #[.slice none 0 0], []⟩ 8 (by kernel_rfl) (by kernel_rfl) (by kernel_rfl) (by kernel_rfl)) ?_
  intro W base args ds gs before hval0 hW _ hsz0 _
  have hsz : (DataW.weightsEach Try.prog (Try.f6.params.toList ++ Rows.queueKeptSpec.plain.varTypes Try.prog) (ds ++ gs)).all (· ≤ reachBytes) = true := hsz0
  have hval : ∀ (j : Nat) t v, Try.f6.params[j]? = some t → args[j]? = some v → Value.okWide Try.prog W .any base t v := hval0
  clear hsz0 hval0
  have hW' := hW
  obtain ⟨p, q, hA0, hV, rfl, hfz, hnd⟩ := hW
  have hA : DataW.TrodAll enc Try.prog W 0 (fun _ => true) true Try.f6.params.toList args.toList ds p := hA0
  rw [Try.params6] at hA hval hsz
  obtain ⟨rfl, rfl⟩ := trodVars_none hV
  clear hA0 hfz hnd hV
  obtain ⟨v0, vs0, d0, ds0, p0, q0, hargs, rfl, rfl, h0, r0⟩ := trodAll_cons hA
  obtain ⟨rfl, rfl, rfl⟩ := trodAll_nil r0
  obtain ⟨args⟩ := args
  dsimp only at hargs
  subst hargs
  obtain ⟨A0, n0, c0, l0, rfl, ln0, lc0, ll0, rd0, wf0, dd0⟩ := open_ints_rd Try.underlying27 Try.underlying3 (by kernel_rfl) (okWide_slice Try.underlying27 (hval 0 27 v0 rfl rfl)) h0
  have sz0 : n0 * 8 ≤ 140737488351232 := by
    rcases dd0 with rfl | ⟨el, sp, rfl, hel⟩
    · omega
    · have := sized_slice hsz (j := 0) (t := 27) (e := 3) rfl rfl Try.underlying27
      rw [show Try.prog.bytesOf 3 = 8 from by kernel_rfl] at this
      unfold reachBytes at this
      omega
  refine (queueKept_any A0 n0 c0 l0 W rd0).mono fun e W' ⟨he, hs, hg⟩ => ?_
  subst he
  exact ⟨_, rfl, law_post rfl rfl (by kernel_rfl) hW' rfl (hs.below hg)⟩

theorem queueKept_holds : Rows.QueueKeptSaid :=
  OpenClaim.holds_of_wide 6 Try.f6 rfl rfl rfl rfl rfl rfl rfl ⟨rfl, rfl, rfl, rfl, rfl⟩ rfl rfl rfl rfl rfl (by kernel_rfl) Try.func6 (by kernel_rfl)
    (of_decide_eq_true (by kernel_rfl)) (by unfold Func.isWrapper; rw [if_neg (of_decide_eq_false (by kernel_rfl))]; exact ⟨rfl, rfl⟩)
    (fun os started H enc _ => queueKept_lifted os started H enc)
#print axioms queueKept_holds
end Go.Proofs.Ytcgpmenknloagaa
