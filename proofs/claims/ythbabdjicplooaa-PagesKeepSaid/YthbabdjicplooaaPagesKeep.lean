/- PagesKeep: pages that are put together are there together or not at all, whatever crashes come, also while they are opened again: for every argument the call returns true, the arguments read as they did and nothing that was there has changed. Conditions: none. -/
import Derived.Test.YthbabdjicplooaaOpenP
import Derived.Test.YthbabdjicplooaaPagesKeepWalk
import Derived.SizedLaws
namespace Go.Proofs.Ythbabdjicplooaa
open Go.ChangeShapes Go.WideShapes Go.ChangeAt Go.RowKit

set_option maxRecDepth 100000 in
theorem pagesKeep_lifted (os : Os) (started : os.Started) (H : Type) (enc : TypeId × Value → H) :
    ReturnsInHanded {} Try.checked os 19 .any (Rows.pagesKeepSpec.pre6 enc Try.prog Try.f19 Rows.pagesKeepRow.domain false) (Rows.pagesKeepSpec.post enc Try.prog Try.f19 false true false false) := by
  refine returnsInHanded_of_change_sized (C := Try.checked) law_own started (by kernel_rfl) Try.func19
    (ChangeSpec.witness6 (enc := enc) (C := Try.checked) false ⟨#[], #[.slice none 0 0], []⟩ 8 (by kernel_rfl) (by kernel_rfl) (by kernel_rfl) (by kernel_rfl)) ?_
  intro W base args ds gs before hval0 hW _ hsz0 _
  have hsz : (DataW.weightsEach Try.prog (Try.f19.params.toList ++ Rows.pagesKeepSpec.plain.varTypes Try.prog) (ds ++ gs)).all (· ≤ reachBytes) = true := hsz0
  have hval : ∀ (j : Nat) t v, Try.f19.params[j]? = some t → args[j]? = some v → Value.okWide Try.prog W .any base t v := hval0
  clear hsz0 hval0
  have hW' := hW
  obtain ⟨p, q, hA0, hV, rfl, hfz, hnd⟩ := hW
  have hA : DataW.TrodAll enc Try.prog W 0 (fun _ => true) true Try.f19.params.toList args.toList ds p := hA0
  rw [Try.params19] at hA hval hsz
  obtain ⟨rfl, rfl⟩ := trodVars_none hV
  clear hA0 hfz hnd hV
  obtain ⟨v0, vs0, d0, ds0, p0, q0, hargs, rfl, rfl, h0, r0⟩ := trodAll_cons hA
  obtain ⟨rfl, rfl, rfl⟩ := trodAll_nil r0
  obtain ⟨args⟩ := args
  dsimp only at hargs
  subst hargs
  obtain ⟨A0, n0, c0, C0, rfl, ln0, lc0, hC0, rd0, el0, dd0⟩ := open_rd Try.underlying102 (show Try.prog.cellsOf 105 = 8 from by kernel_rfl) (by omega) (okWide_slice Try.underlying102 (hval 0 102 v0 rfl rfl)) h0
  obtain ⟨l0, fl0, ll0, wf0⟩ := asksP_open C0 el0
  rw [fl0] at rd0
  refine (pagesKeep_any A0 n0 c0 l0 (Sat.start W) (reads_old rd0) (fun x hx => ⟨(wf0 x hx).1, (wf0 x hx).2.1, reads_old (wf0 x hx).2.2.1, reads_old (wf0 x hx).2.2.2⟩)).mono fun e W' ⟨he, hs, hg⟩ => ?_
  subst he
  exact ⟨_, rfl, law_post rfl rfl (by kernel_rfl) hW' rfl (hs.below hg)⟩

theorem pagesKeep_holds : Rows.PagesKeepSaid :=
  OpenClaim.holds_of_wide 19 Try.f19 rfl rfl rfl rfl rfl rfl rfl ⟨rfl, rfl, rfl, rfl, rfl⟩ rfl rfl rfl rfl rfl (by kernel_rfl) Try.func19 (by kernel_rfl)
    (of_decide_eq_true (by kernel_rfl)) (by unfold Func.isWrapper; rw [if_neg (of_decide_eq_false (by kernel_rfl))]; exact ⟨rfl, rfl⟩)
    (fun os started H enc _ => pagesKeep_lifted os started H enc)
#print axioms pagesKeep_holds
end Go.Proofs.Ythbabdjicplooaa
