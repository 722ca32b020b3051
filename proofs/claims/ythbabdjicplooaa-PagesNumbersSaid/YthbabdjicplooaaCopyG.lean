/- What a law's row asks behind the call: the result is true, old memory is as it was, the arguments read as they did. Conditions: none. -/
import Derived.Test.YthbabdjicplooaaCore
import Derived.Test.YthbabdjicplooaaRows
import Derived.ProofKit
import Derived.OpenShut
import Derived.MapKept
import Derived.ChangeMaps5
import Derived.Laws.CopyOwn
namespace Go.Proofs.Ythbabdjicplooaa
open Go.ChangeShapes Go.WideShapes Go.ChangeAt Go.RowKit

theorem law_own : ownKnob Try.prog.godebug = none := by kernel_rfl
theorem law_laid : laidOutB Try.prog = true := by kernel_rfl

theorem trodAll_below {H : Type} {enc : TypeId × Value → H} {P : Program} (hl : laidOutB P = true) {W W' : World} (hb : Below W.heap.size W W') :
    ∀ {ts : List TypeId} {vs : List Value} {ds : List (DataW H)} {ps : List MemPlace}, (∀ t ∈ ts, P.readableRec t = true ∧ t < P.types.size) →
      DataW.TrodAll enc P W 0 (fun _ => true) true ts vs ds ps → (∀ x ∈ ps, x.block < W.heap.size) → DataW.TrodAll enc P W' 0 (fun b => decide (b < W.heap.size)) true ts vs ds ps
  | [], _, _, _, _, h, _ => by
    obtain ⟨rfl, rfl, rfl⟩ := trodAll_nil h
    exact trodAll_mk0
  | t :: ts, _, _, _, ht, h, hlt => by
    obtain ⟨v, vs', d, ds', p, q, rfl, rfl, rfl, h1, h2⟩ := trodAll_cons h
    refine trodAll_cons_mk (Below.trod hl (ht t (by simp)).1 (ht t (by simp)).2 h1 hb fun x hx => hlt x (by simp [hx])) (trodAll_below hl hb (fun t' ht' => ht t' (by simp [ht'])) h2 fun x hx => hlt x (by simp [hx]))

theorem law_post {H : Type} {enc : TypeId × Value → H} {f : Func} {s : ChangeSpec} {W W' : World} {args : Array Value} {ds : List (DataW H)} {p : List MemPlace}
    (hv : s.vars = []) (hr : f.resultTypes = #[4]) (hp : f.params.toList.all (fun t => Try.prog.readableRec t && decide (t < Try.prog.types.size)) = true)
    (hW : DataW.Whole enc Try.prog f.params.toList s.vars false W args.toList ds [] p)
    (hfn : s.fn H (ds ++ []) = { results := [.lit (.bool true)], args := ds })
    (hb : Below W.heap.size W W') : s.post enc Try.prog f false true false false W args (.bool true) W' := by
  have hlt := hW.lt
  obtain ⟨p', q, hA, hV, rfl, _, _⟩ := hW
  rw [hv] at hV
  obtain ⟨_, rfl⟩ := trodVars_none hV
  have hW2 : DataW.Whole enc Try.prog f.params.toList s.vars false W args.toList ds [] (p' ++ []) := ⟨p', [], hA, by rw [hv]; rfl, rfl, ‹_›, fun h => by cases h⟩
  refine ⟨ds, [], p' ++ [], [], p', [], hW2, ?_, ?_, ?_, hb.frame _, fun h => by cases h⟩
  · rw [hfn, hr]
    exact trodAll_mk1 (shut_bool Try.underlying4 _)
  · rw [hfn]
    refine trodAll_below law_laid hb (fun t ht => ?_) hA fun x hx => hlt x (by simp [hx])
    have := List.all_eq_true.1 hp t ht
    simpa using this
  · rw [hv, hfn]; rfl
end Go.Proofs.Ythbabdjicplooaa

/- Maps with integer keys, as chunks: lookup, update and clear over a list of pairs. Conditions: none. -/
namespace Go.Proofs.Ythbabdjicplooaa
open Go.RowKit

/-- A map's block: its entries, in some order, none twice looked for. -/
def imap (b : Nat) (m : List (Int × Value)) : HP := ⟨fun h S => S b ∧ ∃ es clock, h b = some (.map es clock) ∧ es.toList.map (fun e => (e.key, e.val)) = m.map (fun p => (Value.int .i64 p.1, p.2)),
  fun hS ⟨h1, es, clock, h2, h3⟩ => ⟨h1, es, clock, (hS _ h1).trans h2, h3⟩⟩
def mget : List (Int × Value) → Int → Option Value
  | [], _ => none
  | p :: m, a => if p.1 = a then some p.2 else mget m a
def mput : List (Int × Value) → Int → Value → List (Int × Value)
  | [], a, v => [(a, v)]
  | p :: m, a, v => if p.1 = a then (p.1, v) :: m else p :: mput m a v
theorem mget_mput (m : List (Int × Value)) (a : Int) (v : Value) (k : Int) : mget (mput m a v) k = if a = k then some v else mget m k := by
  induction m with
  | nil => simp [mput, mget]
  | cons p m ih =>
    simp only [mput]
    by_cases h : p.1 = a
    · simp only [h, if_true, mget]
      by_cases h2 : a = k <;> simp [h2]
    · simp only [h, if_false, mget, ih]
      by_cases h2 : p.1 = k
      · have : ¬ a = k := fun e => h (h2.trans e.symm)
        simp [h2, this]
      · simp [h2]

theorem modify_same {α : Type} {g g' : α → α} {e : α} : ∀ (l : List α) (j : Nat), l[j]? = some e → g e = g' e → l.modify j g = l.modify j g'
  | [], _, h, _ => by simp at h
  | x :: l, 0, h, hg => by simp at h; subst h; simp [List.modify, hg]
  | x :: l, j + 1, h, hg => by simp only [List.modify_succ_cons]; rw [modify_same l j (by simpa using h) hg]
theorem find_im (a : Int) (v : Value) : ∀ (es : List MapEntry) (m : List (Int × Value)) (i : Nat), es.map (fun e => (e.key, e.val)) = m.map (fun p => (Value.int .i64 p.1, p.2)) →
    (Instr.findNow (.int .i64) (.int .i64 a) es i = some none ∧ mget m a = none ∧ mput m a v = m ++ [(a, v)]) ∨
    ∃ j e, Instr.findNow (.int .i64) (.int .i64 a) es i = some (some (i + j, e.val)) ∧ es[j]? = some e ∧ e.key = .int .i64 a ∧ mget m a = some e.val ∧ (es.modify j fun e => { e with val := v }).map (fun e => (e.key, e.val)) = (mput m a v).map (fun p => (Value.int .i64 p.1, p.2))
  | [], m, i, h => by
    cases m with
    | nil => left; simp [Instr.findNow, mget, mput]
    | cons p m => simp at h
  | e :: es, m, i, h => by
    cases m with
    | nil => simp at h
    | cons p m =>
      simp only [List.map_cons, List.cons.injEq, Prod.mk.injEq] at h
      obtain ⟨⟨hk, hv⟩, ht⟩ := h
      by_cases hp : p.1 = a
      · right
        refine ⟨0, e, ?_, rfl, by rw [hk, hp], by simp [mget, hp, hv], ?_⟩
        · simp [Instr.findNow, hk, Instr.sameNow, hp, hv]
        · simp [mput, hp, List.modify, hk, ht]
      · have hbe : (a == p.1) = false := beq_eq_false_iff_ne.2 (fun e => hp e.symm)
        rcases find_im a v es m (i + 1) ht with ⟨h1, h2, h3⟩ | ⟨j, e', h1, h2, h3, h4, h5⟩
        · left
          refine ⟨?_, by simp [mget, hp, h2], by simp [mput, hp, h3]⟩
          simp [Instr.findNow, hk, Instr.sameNow, hbe, h1]
        · right
          refine ⟨j + 1, e', ?_, by simpa using h2, h3, by simp [mget, hp, h4], ?_⟩
          · simp [Instr.findNow, hk, Instr.sameNow, hbe, h1]; omega
          · simp only [List.modify_succ_cons, List.map_cons, mput, if_neg hp, h5, hk, hv]

theorem Sat.imap_get {w : World} {b : Nat} {m : List (Int × Value)} {F : List HP} (H : Sat w (imap b m :: F)) : ∃ es clock, w.heap[b]? = some (.map es clock) ∧ es.toList.map (fun e => (e.key, e.val)) = m.map (fun p => (Value.int .i64 p.1, p.2)) := by
  obtain ⟨_, _, _, _, _, h, _⟩ := H
  exact h.2
theorem Sat.imap_new {w : World} {F : List HP} (H : Sat w F) : Sat (w.alloc (.map #[] 0)) (imap w.heap.size [] :: F) :=
  (H.alloc (.map #[] 0)).imp fun _ h => ⟨h.1, #[], 0, h.2, rfl⟩
theorem Sat.imap_set {w : World} {b : Nat} {m : List (Int × Value)} {F : List HP} (H : Sat w (imap b m :: F)) (es : Array MapEntry) (clock : Nat) (m' : List (Int × Value)) (h : es.toList.map (fun e => (e.key, e.val)) = m'.map (fun p => (Value.int .i64 p.1, p.2))) :
    Sat { w with heap := w.heap.setIfInBounds b (.map es clock) } (imap b m' :: F) := by
  obtain ⟨es0, clock0, hb, _⟩ := H.imap_get
  have h1 := ChangeMaps.heap_setBlock_same hb (.map es clock)
  refine H.update (by simp) fun S1 hlt hs => ⟨S1, ⟨hs.1, es, clock, h1, h⟩, fun k hk => ⟨by have := hlt k hk; simpa using this, .inl hk⟩, fun k _ hne => ChangeMaps.heap_setBlock_other hb (.map es clock) (fun e => hne (by rw [e]; exact hs.1))⟩

section
variable {P : Program} {w : World} {b : Nat} {m : List (Int × Value)} {F : List HP}

theorem Sat.imap_look (H : Sat w (imap b m :: F)) {t k e : TypeId} (ht : P.underlying t = some (.map k e)) (hk : P.underlying k = some (.int .i64)) (z : Value) (hz : (zeroValue e).run P w = .ok z w) (a : Int) (c : Bool) :
    (Instr.lookup t (.map (some b)) (.int .i64 a) c).run P w = .ok (if c then .tuple #[(mget m a).getD z, .bool (mget m a).isSome] else (mget m a).getD z) w := by
  obtain ⟨es, clock, hb, hm⟩ := H.imap_get
  have hck := fun em => MapKept.run_checkKey (P := P) (w := w) (k := .int .i64 a) hk (by simp [MapKept.IsKey]) em 9999
  rcases find_im a z es.toList m 0 hm with ⟨h1, h2, -⟩ | ⟨j, e0, h1, -, -, h2, -⟩
  · have hf := MapKept.run_findKey (P := P) (w := w) hk h1
    rw [h2]
    cases c <;> simp [Instr.lookup, run_underlying ht, MapKept.run_getObj_map hb, hck, hf, hz, Result.andThen]
  · have hf := MapKept.run_findKey (P := P) (w := w) hk h1
    rw [h2]
    cases c <;> simp [Instr.lookup, run_underlying ht, MapKept.run_getObj_map hb, hck, hf, Result.andThen]

theorem Sat.imap_put (H : Sat w (imap b m :: F)) {t k e : TypeId} (ht : P.underlying t = some (.map k e)) (hk : P.underlying k = some (.int .i64)) (a : Int) (v : Value) :
    ∃ w', (Instr.mapUpdate t (.map (some b)) (.int .i64 a) v).run P w = .ok () w' ∧ Sat w' (imap b (mput m a v) :: F) ∧ Env w w' := by
  obtain ⟨es, clock, hb, hm⟩ := H.imap_get
  have hck := fun em => MapKept.run_checkKey (P := P) (w := w) (k := .int .i64 a) hk (by simp [MapKept.IsKey]) em 9999
  rcases find_im a v es.toList m 0 hm with ⟨h1, h2, h3⟩ | ⟨j, e0, h1, h2, h3, h4, h5⟩
  · have hf := MapKept.run_findKey (P := P) (w := w) hk h1
    refine ⟨_, by simp [Instr.mapUpdate, run_underlying ht, MapKept.run_getObj_map hb, hck, hf, Result.andThen, MapKept.run_setObj_map _ hb]; rfl, H.imap_set _ _ _ ?_, ⟨rfl, rfl, rfl, by simp⟩⟩
    rw [h3]; simp [hm]
  · have hf := MapKept.run_findKey (P := P) (w := w) hk h1
    have hj : es[j]? = some e0 := by simpa using h2
    refine ⟨_, by simp [Instr.mapUpdate, run_underlying ht, MapKept.run_getObj_map hb, hck, hf, hj, h3, Instr.keyThatStays, Instr.sameBits, Result.andThen, MapKept.run_setObj_map _ hb]; rfl, H.imap_set _ _ _ ?_, ⟨rfl, rfl, rfl, by simp⟩⟩
    rw [← h5, Array.toList_modify]
    congr 1
    exact modify_same _ _ h2 (by rw [h3])

theorem Sat.imap_clear (H : Sat w (imap b m :: F)) {t k e : TypeId} (ht : P.underlying t = some (.map k e)) :
    ∃ w', (∀ ty, (Builtin.clear_ #[t] ty #[.map (some b)]).run P w = .ok (.tuple #[]) w') ∧ Sat w' (imap b [] :: F) ∧ Env w w' := by
  obtain ⟨es, clock, hb, hm⟩ := H.imap_get
  exact ⟨_, fun ty => by simp [Builtin.clear_, run_underlying ht, MapKept.run_getObj_map hb, MapKept.run_setObj_map _ hb, Result.andThen], H.imap_set #[] clock [] rfl, ⟨rfl, rfl, rfl, by simp⟩⟩
end

/-- 'm[k] = v' as a step of the walk. -/
theorem wpList_put_sat {P : Program} {w : World} {ops : Array Oper} {rest : List Oper} {o : Oper} {a : Act} {Q : Exit → Act → World → Prop} {F : List HP}
    (hg : o.guard = none) (mm x v : Operand) (t : TypeId) (hop : o.op = Op.mapUpdate t mm x v) {k e : TypeId} (ht : P.underlying t = some (.map k e)) (hk : P.underlying k = some (.int .i64))
    {b : Nat} {m : List (Int × Value)} (H : Sat w (imap b m :: F)) (hm : a.eval mm = .map (some b)) (n : Int) (val : Value) (hx : a.eval x = .int .i64 n) (hv : a.eval v = val)
    (hK : ∀ w', Sat w' (imap b (mput m n val) :: F) → Env w w' → wpList P ops Q rest (a.put o.dst undef) w') : wpList P ops Q (o :: rest) a w := by
  refine wpList_plain hg fun K' hK' => ?_
  obtain ⟨w', hrun, r1, r2⟩ := H.imap_put ht hk n val
  unfold Oper.wp
  simp [execOp, hop, hm, hx, hv, hrun, Result.andThen]
  exact hK' _ _ (hK w' r1 r2)
end Go.Proofs.Ythbabdjicplooaa

/- make of a slice as a step of the walk, over chunks. Conditions: none. -/
namespace Go.Proofs.Ythbabdjicplooaa
open Go.RowKit

theorem Sat.make {P : Program} {w : World} {F : List HP} (H : Sat w F) (t e : TypeId) (z : Value) (size bytes : Nat) (ht : P.underlying t = some (.slice e)) (hi : (P.info? e).map (fun i => (i.zero, i.size, i.bytes)) = some (some z, size, bytes))
    (kl kc : IntKind) (n : Nat) (hb : bytes * n ≤ 281474976710656) (hm : n ≤ maxLen) :
    ∃ w', (Instr.makeSlice t (.int kl (n : Int)) (.int kc (n : Int))).run P w = .ok (.slice (some ⟨w.heap.size, 0, none⟩) n n) w' ∧
      Sat w' (own e size (.slice (some ⟨w.heap.size, 0, none⟩) n n) n (madeCells z.cells (n * size)).toList :: F) ∧ Env w w' := by
  obtain ⟨i, h2, h3, h4, h5⟩ := info_parts hi
  obtain ⟨w', hrun, r1, r2⟩ := run_make_full (P := P) w 0 t e i z size ht h2 h3 h4 kl kc n (by rw [h5]; exact hb) hm (Nat.zero_le _)
  exact ⟨w', hrun, (H.own_nil e size).regrow r1 r2 (.inr rfl), (Env.refl w).grown r2⟩

theorem wpList_make_sat {P : Program} {w : World} {ops : Array Oper} {rest : List Oper} {o : Oper} {a : Act} {Q : Exit → Act → World → Prop} {F : List HP}
    (hg : o.guard = none) (l c : Operand) (t : TypeId) (hop : o.op = Op.makeSlice t l c) (H : Sat w F)
    (e : TypeId) (z : Value) (size bytes : Nat) (ht : P.underlying t = some (.slice e)) (hi : (P.info? e).map (fun i => (i.zero, i.size, i.bytes)) = some (some z, size, bytes))
    (kl kc : IntKind) (n : Nat) (hl : a.eval l = .int kl n) (hc : a.eval c = .int kc n) (hb : bytes * n ≤ 281474976710656) (hm : n ≤ maxLen)
    (hK : ∀ w', Sat w' (own e size (.slice (some ⟨w.heap.size, 0, none⟩) n n) n (madeCells z.cells (n * size)).toList :: F) → Env w w' → wpList P ops Q rest (a.put o.dst (.slice (some ⟨w.heap.size, 0, none⟩) n n)) w') :
    wpList P ops Q (o :: rest) a w := by
  refine wpList_plain hg fun K hK' => ?_
  obtain ⟨w', hrun, r1, r2⟩ := H.make t e z size bytes ht hi kl kc n hb hm
  unfold Oper.wp
  simp [execOp, hop, hl, hc, hrun, Result.andThen]
  exact hK' _ _ (hK w' r1 r2)
end Go.Proofs.Ythbabdjicplooaa

/- copy onto a slice that owns its row, whatever the elements' size. Conditions: none. -/
namespace Go.Proofs.Ythbabdjicplooaa
open Go.RowKit

theorem run_copy_any {P : Program} (w : World) (dT sT ty elem : TypeId) (k g o dLen dCap sLen sCap : Nat) (dp sp : Option Addr) (cur : Array Value) (t : TypeId) (m : Nat) (cs : List Value)
    (hu : P.underlying dT = some (.slice elem)) (hs : (P.info? elem).map (·.size) = some k)
    (hg : w.heap[g]? = some (.cells cur t (0, 0))) (hm : m = Nat.min sLen dLen) (hd : 0 < m → dp = some ⟨g, o, none⟩) (hr : Rd w k sp m cs) (hfit : o + cs.length ≤ cur.size) (h1 : ∀ v ∈ cs, v.oneCell' = true) :
    (Builtin.copy_ #[dT, sT] ty #[.slice dp dLen dCap, .slice sp sLen sCap]).run P w =
      .ok (goInt m) (w.setRow g (splice cur.toList o cs).toArray) := by
  cases hq : P.info? elem with
  | none => simp [hq] at hs
  | some i =>
    have hi : i.size = k := by simpa [hq] using hs
    have hfc : (Builtin.firstCells i.size m (.slice sp sLen sCap)).run P w = .ok cs.toArray w := by
      cases sp with
      | none =>
        have : cs = [] := by
          cases cs with
          | nil => rfl
          | cons x xs => obtain ⟨b, off, h, _⟩ := hr.2 0 x rfl; cases h
        subst this; simp [Builtin.firstCells]
      | some a =>
        have := run_loadCells_list (P := P) w a cs (hr.src a rfl)
        rw [hr.1] at this
        rw [hi]; exact this
    simp only [Builtin.copy_, List.getElem?_toArray, List.getElem?_cons_zero, List.getElem?_cons_succ, Sem.run_bind, run_underlying hu, Result.andThen_ok, Builtin.lenOf, Sem.run_pure, sizeOf, typeInfo, ← hm]
    rcases Nat.eq_zero_or_pos m with h0 | h0
    · subst h0
      have : cs = [] := List.eq_nil_of_length_eq_zero (by simpa using hr.1)
      subst this
      have hsp : (splice cur.toList o []).toArray = cur := by simp [splice]
      rw [hsp, setRow_self w g cur t (0, 0) hg]
      cases dp <;> simp [storeCells, hq, hfc]
    · rw [hd h0]
      have hst := run_storeCells_at P g o t cs 0 cur w hg (by simpa using hfit) h1
      simp only [Nat.add_zero, List.append_assoc] at hst
      simp [hq, hfc, hst, splice]

/-- copy onto a row. -/
theorem wpList_copy_row {P : Program} {w : World} {ops : Array Oper} {rest : List Oper} {o : Oper} {a : Act} {Q : Exit → Act → World → Prop} {F : List HP}
    (hgd : o.guard = none) (d s : Operand) (dT sT : TypeId) (ho : o.op = .call { callee := .builtin .copy, args := #[d, s], argTypes := #[dT, sT] }) (elem : TypeId) (k : Nat)
    (hu : P.underlying dT = some (.slice elem)) (hsz : (P.info? elem).map (·.size) = some k) {g : Nat} {t : TypeId} {cur : Array Value} (H : Sat w (row g t cur :: F))
    (dp sp : Option Addr) (dLen dCap sLen sCap : Nat) (hd : a.eval d = .slice dp dLen dCap) (hs : a.eval s = .slice sp sLen sCap) (off m : Nat) (cs : List Value) (hm : m = Nat.min sLen dLen)
    (hpos : 0 < m → dp = some ⟨g, off, none⟩) (hr : Rd w k sp m cs) (hfit : off + cs.length ≤ cur.size) (h1 : ∀ v ∈ cs, v.oneCell' = true)
    (h : ∀ w', Sat w' (row g t (splice cur.toList off cs).toArray :: F) → Env w w' → wpList P ops Q rest (a.put o.dst (goInt m)) w') : wpList P ops Q (o :: rest) a w := by
  refine wpList_plain hgd fun K hK => ?_
  have hrun := run_copy_any (P := P) w dT sT o.type elem k g off dLen dCap sLen sCap dp sp cur t m cs hu hsz H.get hm hpos hr hfit h1
  unfold Oper.wp execOp
  simp only [ho, resolve, invoke, builtin, Sem.run_bind, Sem.run_pure, Result.andThen_ok, List.map_toArray, List.map_cons, List.map_nil, hd, hs, hrun]
  refine hK _ _ (h _ ?_ ⟨rfl, rfl, rfl, by simp [World.setRow]⟩)
  have hb := H.get
  refine H.update (by simp [World.setRow]) fun S1 hlt h => ⟨S1, ⟨h.1, setRow_heap w g _ _ t _ hb⟩, fun k hk => ⟨by have := hlt k hk; simpa [World.setRow] using this, .inl hk⟩, fun k _ hne => setRow_other w g k _ (fun e => hne (by rw [e]; exact h.1))⟩

/-- copy onto an owned slice, from element i on. -/
theorem wpList_copy_sat {P : Program} {w : World} {ops : Array Oper} {rest : List Oper} {o : Oper} {a : Act} {Q : Exit → Act → World → Prop} {F : List HP}
    (hgd : o.guard = none) (d s : Operand) (dT sT : TypeId) (ho : o.op = .call { callee := .builtin .copy, args := #[d, s], argTypes := #[dT, sT] }) (elem : TypeId) (k : Nat)
    (hu : P.underlying dT = some (.slice elem)) (hsz : (P.info? elem).map (·.size) = some k) {e : TypeId} {g n c : Nat} {xs : List Value} (H : Sat w (own e k (.slice (some ⟨g, 0, none⟩) n c) n xs :: F))
    (dp sp : Option Addr) (dLen dCap sLen sCap : Nat) (hd : a.eval d = .slice dp dLen dCap) (hs : a.eval s = .slice sp sLen sCap) (off m : Nat) (cs : List Value) (hm : m = Nat.min sLen dLen)
    (hpos : 0 < m → dp = some ⟨g, off, none⟩) (hr : Rd w k sp m cs) (hfit : off + cs.length ≤ xs.length) (h1 : ∀ v ∈ cs, v.oneCell' = true)
    (h : ∀ w', Sat w' (own e k (.slice (some ⟨g, 0, none⟩) n c) n (splice xs off cs) :: F) → Env w w' → wpList P ops Q rest (a.put o.dst (goInt m)) w') : wpList P ops Q (o :: rest) a w := by
  obtain ⟨S1, S2, a1, a2, a3, ⟨hl, hH⟩, a5⟩ := id H
  rcases hH with ⟨h, _⟩ | ⟨g', cap, cur, hv, hS, hg, hc, hmx, hcs, ht⟩
  · cases h
  · injection hv with hA _ hC
    injection hA with hA
    injection hA with hA _
    subst hA; subst hC
    have hnk := Nat.mul_le_mul_right k hc
    have H' : Sat w (row g e cur :: F) := ⟨S1, S2, a1, a2, a3, ⟨hS, hg⟩, a5⟩
    refine wpList_copy_row hgd d s dT sT ho elem k hu hsz H' dp sp dLen dCap sLen sCap hd hs off m cs hm hpos hr (by omega) h1 ?_
    intro w' G E
    have hcl : cur.toList.length = c * k := by rw [Array.length_toList]; exact hcs
    refine h w' (G.own_shut hc hmx ?_ ?_) E
    · have := length_splice cur.toList off cs (by omega)
      simpa [hcs] using this
    · simp only [splice]
      rw [← ht, List.take_append, List.take_append, List.length_take, Array.length_toList, List.take_take, List.take_take, List.drop_take]
      have hx : off + cs.length ≤ n * k := by omega
      have hcz : cur.size = c * k := hcs
      rw [show min (n * k) off = off by omega, show min off (n * k) = off by omega, show min off cur.size = off by omega, List.take_of_length_le (show cs.length ≤ n * k - off by omega), Nat.sub_sub]
/-- append at a step of a region that draws. -/
theorem step_append_sat {P : Program} {w : World} {ops : Array Oper} {o : Oper} {a : Act} {K : Act → World → Prop} {Q : Exit → Act → World → Prop} {E : Prop} {F : List HP}
    (hgd : o.guard = none) (s x : Operand) (t : TypeId) (ho : o.op = .call { callee := .builtin .append, args := #[s, x], argTypes := #[t, t] })
    {e : TypeId} {size : Nat} {v : Value} {n : Nat} {xs : List Value} (H : Sat w (own e size v n xs :: F)) (hs : a.eval s = v)
    (z : Value) (bytes : Nat) (ht : P.underlying t = some (.slice e)) (hi : (P.info? e).map (fun i => (i.zero, i.size, i.bytes)) = some (some z, size, bytes))
    (hzs : z.cells.size = size) (hsz : 0 < size) (A : Option Addr) (m c : Nat) (news : List Value) (hx : a.eval x = .slice A m c) (hA : A = none → m = 0) (hl : news.length = m * size)
    (hnews : ∀ a, A = some a → ∀ j u, news[j]? = some u → w.cell? (a.add j) = some u) (h1 : ∀ u ∈ news, u.oneCell' = true)
    (h63 : n + m ≤ maxLen) (hbytes : (n + m) * bytes ≤ 140737488355328)
    (h : ∀ v' w', Sat w' (own e size v' (n + m) (xs ++ news) :: F) → Env w w' → K (a.put o.dst v') w') :
    if Region.wanted o (yielded ops a.tmps) = true then Oper.wp P o a w K Q else E := by
  obtain ⟨v', w', hrun, h2, h3⟩ := H.append t o.type z bytes ht hi hzs hsz A m c news hA hl hnews h1 h63 hbytes
  have hw : Region.wanted o (yielded ops a.tmps) = true := by unfold Region.wanted; rw [hgd]
  rw [if_pos hw]
  unfold Oper.wp execOp
  simp only [ho, resolve, invoke, builtin, Sem.run_bind, Sem.run_pure, Result.andThen_ok, List.map_toArray, List.map_cons, List.map_nil, hs, hx, hrun]
  exact h v' w' h2 h3
/-- The cells of a row that was just made. -/
theorem lit_src (w : World) (cs : Array Value) (t : TypeId) (xs : List Value) (hx : cs.toList = xs) : ∀ a, some (⟨w.heap.size, 0, none⟩ : Addr) = some a → ∀ j u, xs[j]? = some u → (w.alloc (.cells cs t)).cell? (a.add j) = some u := by
  subst hx
  intro a ha j u hu
  cases ha
  have := ((Sat.start w).alloc (.cells cs t)).cell j
  have hj : (⟨w.heap.size, 0, none⟩ : Addr).add j = ⟨w.heap.size, j, none⟩ := by simp only [Addr.add, Nat.zero_add]; split <;> simp_all
  rw [hj, this]; simpa using hu
end Go.Proofs.Ythbabdjicplooaa
