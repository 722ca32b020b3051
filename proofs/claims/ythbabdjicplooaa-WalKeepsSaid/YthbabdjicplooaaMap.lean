/- Maps with integer keys, as chunks: lookup, update and clear over a list of pairs. Conditions: none. -/
import Derived.Test.YthbabdjicplooaaCore
import Derived.MapKept
import Derived.ChangeMaps5
namespace Go.Proofs.Ythbabdjicplooaa
open Go.RowKit

/-- A map's block: its entries, in some order, none twice looked for. -/
def imap (b : Nat) (m : List (Int × Value)) : HP := ⟨fun h S => S b ∧ ∃ es clock, h b = some (.map es clock) ∧ es.toList.map (fun e => (e.key, e.val)) = m.map (fun p => (Value.int .i64 p.1, p.2)),
  fun hS ⟨h1, es, clock, h2, h3⟩ => ⟨h1, es, clock, (hS _ h1).trans h2, h3⟩⟩
def mget : List (Int × Value) → Int → Option Value
  | [], _ => none
  | p :: m, a => if p.1 = a then some p.2 else mget m a
def mput : List (Int × Value) → Int → Value → List (Int × Value)
  | [], a, v => [(a, v)]
  | p :: m, a, v => if p.1 = a then (p.1, v) :: m else p :: mput m a v
theorem mget_mput (m : List (Int × Value)) (a : Int) (v : Value) (k : Int) : mget (mput m a v) k = if a = k then some v else mget m k := by
  induction m with
  | nil => simp [mput, mget]
  | cons p m ih =>
    simp only [mput]
    by_cases h : p.1 = a
    · simp only [h, if_true, mget]
      by_cases h2 : a = k <;> simp [h2]
    · simp only [h, if_false, mget, ih]
      by_cases h2 : p.1 = k
      · have : ¬ a = k := fun e => h (h2.trans e.symm)
        simp [h2, this]
      · simp [h2]

theorem modify_same {α : Type} {g g' : α → α} {e : α} : ∀ (l : List α) (j : Nat), l[j]? = some e → g e = g' e → l.modify j g = l.modify j g'
  | [], _, h, _ => by simp at h
  | x :: l, 0, h, hg => by simp at h; subst h; simp [List.modify, hg]
  | x :: l, j + 1, h, hg => by simp only [List.modify_succ_cons]; rw [modify_same l j (by simpa using h) hg]
theorem find_im (a : Int) (v : Value) : ∀ (es : List MapEntry) (m : List (Int × Value)) (i : Nat), es.map (fun e => (e.key, e.val)) = m.map (fun p => (Value.int .i64 p.1, p.2)) →
    (Instr.findNow (.int .i64) (.int .i64 a) es i = some none ∧ mget m a = none ∧ mput m a v = m ++ [(a, v)]) ∨
    ∃ j e, Instr.findNow (.int .i64) (.int .i64 a) es i = some (some (i + j, e.val)) ∧ es[j]? = some e ∧ e.key = .int .i64 a ∧ mget m a = some e.val ∧ (es.modify j fun e => { e with val := v }).map (fun e => (e.key, e.val)) = (mput m a v).map (fun p => (Value.int .i64 p.1, p.2))
  | [], m, i, h => by
    cases m with
    | nil => left; simp [Instr.findNow, mget, mput]
    | cons p m => simp at h
  | e :: es, m, i, h => by
    cases m with
    | nil => simp at h
    | cons p m =>
      simp only [List.map_cons, List.cons.injEq, Prod.mk.injEq] at h
      obtain ⟨⟨hk, hv⟩, ht⟩ := h
      by_cases hp : p.1 = a
      · right
        refine ⟨0, e, ?_, rfl, by rw [hk, hp], by simp [mget, hp, hv], ?_⟩
        · simp [Instr.findNow, hk, Instr.sameNow, hp, hv]
        · simp [mput, hp, List.modify, hk, ht]
      · have hbe : (a == p.1) = false := beq_eq_false_iff_ne.2 (fun e => hp e.symm)
        rcases find_im a v es m (i + 1) ht with ⟨h1, h2, h3⟩ | ⟨j, e', h1, h2, h3, h4, h5⟩
        · left
          refine ⟨?_, by simp [mget, hp, h2], by simp [mput, hp, h3]⟩
          simp [Instr.findNow, hk, Instr.sameNow, hbe, h1]
        · right
          refine ⟨j + 1, e', ?_, by simpa using h2, h3, by simp [mget, hp, h4], ?_⟩
          · simp [Instr.findNow, hk, Instr.sameNow, hbe, h1]; omega
          · simp only [List.modify_succ_cons, List.map_cons, mput, if_neg hp, h5, hk, hv]

theorem Sat.imap_get {w : World} {b : Nat} {m : List (Int × Value)} {F : List HP} (H : Sat w (imap b m :: F)) : ∃ es clock, w.heap[b]? = some (.map es clock) ∧ es.toList.map (fun e => (e.key, e.val)) = m.map (fun p => (Value.int .i64 p.1, p.2)) := by
  obtain ⟨_, _, _, _, _, h, _⟩ := H
  exact h.2
theorem Sat.imap_new {w : World} {F : List HP} (H : Sat w F) : Sat (w.alloc (.map #[] 0)) (imap w.heap.size [] :: F) :=
  (H.alloc (.map #[] 0)).imp fun _ h => ⟨h.1, #[], 0, h.2, rfl⟩
theorem Sat.imap_set {w : World} {b : Nat} {m : List (Int × Value)} {F : List HP} (H : Sat w (imap b m :: F)) (es : Array MapEntry) (clock : Nat) (m' : List (Int × Value)) (h : es.toList.map (fun e => (e.key, e.val)) = m'.map (fun p => (Value.int .i64 p.1, p.2))) :
    Sat { w with heap := w.heap.setIfInBounds b (.map es clock) } (imap b m' :: F) := by
  obtain ⟨es0, clock0, hb, _⟩ := H.imap_get
  have h1 := ChangeMaps.heap_setBlock_same hb (.map es clock)
  refine H.update (by simp) fun S1 hlt hs => ⟨S1, ⟨hs.1, es, clock, h1, h⟩, fun k hk => ⟨by have := hlt k hk; simpa using this, .inl hk⟩, fun k _ hne => ChangeMaps.heap_setBlock_other hb (.map es clock) (fun e => hne (by rw [e]; exact hs.1))⟩

section
variable {P : Program} {w : World} {b : Nat} {m : List (Int × Value)} {F : List HP}

theorem Sat.imap_look (H : Sat w (imap b m :: F)) {t k e : TypeId} (ht : P.underlying t = some (.map k e)) (hk : P.underlying k = some (.int .i64)) (z : Value) (hz : (zeroValue e).run P w = .ok z w) (a : Int) (c : Bool) :
    (Instr.lookup t (.map (some b)) (.int .i64 a) c).run P w = .ok (if c then .tuple #[(mget m a).getD z, .bool (mget m a).isSome] else (mget m a).getD z) w := by
  obtain ⟨es, clock, hb, hm⟩ := H.imap_get
  have hck := fun em => MapKept.run_checkKey (P := P) (w := w) (k := .int .i64 a) hk (by simp [MapKept.IsKey]) em 9999
  rcases find_im a z es.toList m 0 hm with ⟨h1, h2, -⟩ | ⟨j, e0, h1, -, -, h2, -⟩
  · have hf := MapKept.run_findKey (P := P) (w := w) hk h1
    rw [h2]
    cases c <;> simp [Instr.lookup, run_underlying ht, MapKept.run_getObj_map hb, hck, hf, hz, Result.andThen]
  · have hf := MapKept.run_findKey (P := P) (w := w) hk h1
    rw [h2]
    cases c <;> simp [Instr.lookup, run_underlying ht, MapKept.run_getObj_map hb, hck, hf, Result.andThen]

theorem Sat.imap_put (H : Sat w (imap b m :: F)) {t k e : TypeId} (ht : P.underlying t = some (.map k e)) (hk : P.underlying k = some (.int .i64)) (a : Int) (v : Value) :
    ∃ w', (Instr.mapUpdate t (.map (some b)) (.int .i64 a) v).run P w = .ok () w' ∧ Sat w' (imap b (mput m a v) :: F) ∧ Env w w' := by
  obtain ⟨es, clock, hb, hm⟩ := H.imap_get
  have hck := fun em => MapKept.run_checkKey (P := P) (w := w) (k := .int .i64 a) hk (by simp [MapKept.IsKey]) em 9999
  rcases find_im a v es.toList m 0 hm with ⟨h1, h2, h3⟩ | ⟨j, e0, h1, h2, h3, h4, h5⟩
  · have hf := MapKept.run_findKey (P := P) (w := w) hk h1
    refine ⟨_, by simp [Instr.mapUpdate, run_underlying ht, MapKept.run_getObj_map hb, hck, hf, Result.andThen, MapKept.run_setObj_map _ hb]; rfl, H.imap_set _ _ _ ?_, ⟨rfl, rfl, rfl, by simp⟩⟩
    rw [h3]; simp [hm]
  · have hf := MapKept.run_findKey (P := P) (w := w) hk h1
    have hj : es[j]? = some e0 := by simpa using h2
    refine ⟨_, by simp [Instr.mapUpdate, run_underlying ht, MapKept.run_getObj_map hb, hck, hf, hj, h3, Instr.keyThatStays, Instr.sameBits, Result.andThen, MapKept.run_setObj_map _ hb]; rfl, H.imap_set _ _ _ ?_, ⟨rfl, rfl, rfl, by simp⟩⟩
    rw [← h5, Array.toList_modify]
    congr 1
    exact modify_same _ _ h2 (by rw [h3])

theorem Sat.imap_clear (H : Sat w (imap b m :: F)) {t k e : TypeId} (ht : P.underlying t = some (.map k e)) :
    ∃ w', (∀ ty, (Builtin.clear_ #[t] ty #[.map (some b)]).run P w = .ok (.tuple #[]) w') ∧ Sat w' (imap b [] :: F) ∧ Env w w' := by
  obtain ⟨es, clock, hb, hm⟩ := H.imap_get
  exact ⟨_, fun ty => by simp [Builtin.clear_, run_underlying ht, MapKept.run_getObj_map hb, MapKept.run_setObj_map _ hb, Result.andThen], H.imap_set #[] clock [] rfl, ⟨rfl, rfl, rfl, by simp⟩⟩
end

/-- 'm[k] = v' as a step of the walk. -/
theorem wpList_put_sat {P : Program} {w : World} {ops : Array Oper} {rest : List Oper} {o : Oper} {a : Act} {Q : Exit → Act → World → Prop} {F : List HP}
    (hg : o.guard = none) (mm x v : Operand) (t : TypeId) (hop : o.op = Op.mapUpdate t mm x v) {k e : TypeId} (ht : P.underlying t = some (.map k e)) (hk : P.underlying k = some (.int .i64))
    {b : Nat} {m : List (Int × Value)} (H : Sat w (imap b m :: F)) (hm : a.eval mm = .map (some b)) (n : Int) (val : Value) (hx : a.eval x = .int .i64 n) (hv : a.eval v = val)
    (hK : ∀ w', Sat w' (imap b (mput m n val) :: F) → Env w w' → wpList P ops Q rest (a.put o.dst undef) w') : wpList P ops Q (o :: rest) a w := by
  refine wpList_plain hg fun K' hK' => ?_
  obtain ⟨w', hrun, r1, r2⟩ := H.imap_put ht hk n val
  unfold Oper.wp
  simp [execOp, hop, hm, hx, hv, hrun, Result.andThen]
  exact hK' _ _ (hK w' r1 r2)
end Go.Proofs.Ythbabdjicplooaa
