/- WalTwo: two logs on one disk don't see one another: for every argument the call returns true, the arguments read as they did and nothing that was there has changed. Conditions: none. -/
import Derived.Test.YthbabdjicplooaaOpenB
import Derived.Test.YthbabdjicplooaaWalTwoWalk
import Derived.SizedLaws
namespace Go.Proofs.Ythbabdjicplooaa
open Go.ChangeShapes Go.WideShapes Go.ChangeAt Go.RowKit

set_option maxRecDepth 100000 in
theorem walTwo_lifted (os : Os) (started : os.Started) (H : Type) (enc : TypeId × Value → H) :
    ReturnsInHanded {} Try.checked os 11 .any (Rows.walTwoSpec.pre6 enc Try.prog Try.f11 Rows.walTwoRow.domain false) (Rows.walTwoSpec.post enc Try.prog Try.f11 false true false false) := by
  refine returnsInHanded_of_change_sized (C := Try.checked) law_own started (by kernel_rfl) Try.func11
    (ChangeSpec.witness6 (enc := enc) (C := Try.checked) false ⟨#[], #[.slice none 0 0, .slice none 0 0], []⟩ 8 (by kernel_rfl) (by kernel_rfl) (by kernel_rfl) (by kernel_rfl)) ?_
  intro W base args ds gs before hval0 hW _ hsz0 _
  have hsz : (DataW.weightsEach Try.prog (Try.f11.params.toList ++ Rows.walTwoSpec.plain.varTypes Try.prog) (ds ++ gs)).all (· ≤ reachBytes) = true := hsz0
  have hval : ∀ (j : Nat) t v, Try.f11.params[j]? = some t → args[j]? = some v → Value.okWide Try.prog W .any base t v := hval0
  clear hsz0 hval0
  have hW' := hW
  obtain ⟨p, q, hA0, hV, rfl, hfz, hnd⟩ := hW
  have hA : DataW.TrodAll enc Try.prog W 0 (fun _ => true) true Try.f11.params.toList args.toList ds p := hA0
  rw [Try.params11] at hA hval hsz
  obtain ⟨rfl, rfl⟩ := trodVars_none hV
  clear hA0 hfz hnd hV
  obtain ⟨v0, vs0, d0, ds0, p0, q0, hargs, rfl, rfl, h0, r0⟩ := trodAll_cons hA
  obtain ⟨v1, vs1, d1, ds1, p1, q1, rfl, rfl, rfl, h1, r1⟩ := trodAll_cons r0
  obtain ⟨rfl, rfl, rfl⟩ := trodAll_nil r1
  obtain ⟨args⟩ := args
  dsimp only at hargs
  subst hargs
  obtain ⟨A0, n0, c0, l0, rfl, ln0, lc0, ll0, rd0, wf0⟩ := open_bytes_rd Try.underlying30 Try.underlying5 (by kernel_rfl) (okWide_slice Try.underlying30 (hval 0 30 v0 rfl rfl)) h0
  obtain ⟨A1, n1, c1, l1, rfl, ln1, lc1, ll1, rd1, wf1⟩ := open_bytes_rd Try.underlying30 Try.underlying5 (by kernel_rfl) (okWide_slice Try.underlying30 (hval 1 30 v1 rfl rfl)) h1
  refine (walTwo_any A0 n0 c0 l0 A1 n1 c1 l1 (Sat.start W) (reads_old rd0) wf0 ln0 (reads_old rd1) wf1 ln1).mono fun e W' ⟨he, hs, hg⟩ => ?_
  subst he
  exact ⟨_, rfl, law_post rfl rfl (by kernel_rfl) hW' rfl (hs.below hg)⟩

theorem walTwo_holds : Rows.WalTwoSaid :=
  OpenClaim.holds_of_wide 11 Try.f11 rfl rfl rfl rfl rfl rfl rfl ⟨rfl, rfl, rfl, rfl, rfl⟩ rfl rfl rfl rfl rfl (by kernel_rfl) Try.func11 (by kernel_rfl)
    (of_decide_eq_true (by kernel_rfl)) (by unfold Func.isWrapper; rw [if_neg (of_decide_eq_false (by kernel_rfl))]; exact ⟨rfl, rfl⟩)
    (fun os started H enc _ => walTwo_lifted os started H enc)
#print axioms walTwo_holds
end Go.Proofs.Ythbabdjicplooaa
