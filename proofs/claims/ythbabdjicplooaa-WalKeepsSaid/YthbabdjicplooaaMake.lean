/- make of a slice as a step of the walk, over chunks. Conditions: none. -/
import Derived.Test.YthbabdjicplooaaCore
namespace Go.Proofs.Ythbabdjicplooaa
open Go.RowKit

theorem Sat.make {P : Program} {w : World} {F : List HP} (H : Sat w F) (t e : TypeId) (z : Value) (size bytes : Nat) (ht : P.underlying t = some (.slice e)) (hi : (P.info? e).map (fun i => (i.zero, i.size, i.bytes)) = some (some z, size, bytes))
    (kl kc : IntKind) (n : Nat) (hb : bytes * n ≤ 281474976710656) (hm : n ≤ maxLen) :
    ∃ w', (Instr.makeSlice t (.int kl (n : Int)) (.int kc (n : Int))).run P w = .ok (.slice (some ⟨w.heap.size, 0, none⟩) n n) w' ∧
      Sat w' (own e size (.slice (some ⟨w.heap.size, 0, none⟩) n n) n (madeCells z.cells (n * size)).toList :: F) ∧ Env w w' := by
  obtain ⟨i, h2, h3, h4, h5⟩ := info_parts hi
  obtain ⟨w', hrun, r1, r2⟩ := run_make_full (P := P) w 0 t e i z size ht h2 h3 h4 kl kc n (by rw [h5]; exact hb) hm (Nat.zero_le _)
  exact ⟨w', hrun, (H.own_nil e size).regrow r1 r2 (.inr rfl), (Env.refl w).grown r2⟩

theorem wpList_make_sat {P : Program} {w : World} {ops : Array Oper} {rest : List Oper} {o : Oper} {a : Act} {Q : Exit → Act → World → Prop} {F : List HP}
    (hg : o.guard = none) (l c : Operand) (t : TypeId) (hop : o.op = Op.makeSlice t l c) (H : Sat w F)
    (e : TypeId) (z : Value) (size bytes : Nat) (ht : P.underlying t = some (.slice e)) (hi : (P.info? e).map (fun i => (i.zero, i.size, i.bytes)) = some (some z, size, bytes))
    (kl kc : IntKind) (n : Nat) (hl : a.eval l = .int kl n) (hc : a.eval c = .int kc n) (hb : bytes * n ≤ 281474976710656) (hm : n ≤ maxLen)
    (hK : ∀ w', Sat w' (own e size (.slice (some ⟨w.heap.size, 0, none⟩) n n) n (madeCells z.cells (n * size)).toList :: F) → Env w w' → wpList P ops Q rest (a.put o.dst (.slice (some ⟨w.heap.size, 0, none⟩) n n)) w') :
    wpList P ops Q (o :: rest) a w := by
  refine wpList_plain hg fun K hK' => ?_
  obtain ⟨w', hrun, r1, r2⟩ := H.make t e z size bytes ht hi kl kc n hb hm
  unfold Oper.wp
  simp [execOp, hop, hl, hc, hrun, Result.andThen]
  exact hK' _ _ (hK w' r1 r2)
end Go.Proofs.Ythbabdjicplooaa
