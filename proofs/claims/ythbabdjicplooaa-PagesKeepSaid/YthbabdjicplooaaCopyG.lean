/- make of a slice as a step of the walk, over chunks. Conditions: none. -/
import Derived.Test.YthbabdjicplooaaCore
import Derived.Laws.CopyOwn
namespace Go.Proofs.Ythbabdjicplooaa
open Go.RowKit

theorem Sat.make {P : Program} {w : World} {F : List HP} (H : Sat w F) (t e : TypeId) (z : Value) (size bytes : Nat) (ht : P.underlying t = some (.slice e)) (hi : (P.info? e).map (fun i => (i.zero, i.size, i.bytes)) = some (some z, size, bytes))
    (kl kc : IntKind) (n : Nat) (hb : bytes * n ≤ 281474976710656) (hm : n ≤ maxLen) :
    ∃ w', (Instr.makeSlice t (.int kl (n : Int)) (.int kc (n : Int))).run P w = .ok (.slice (some ⟨w.heap.size, 0, none⟩) n n) w' ∧
      Sat w' (own e size (.slice (some ⟨w.heap.size, 0, none⟩) n n) n (madeCells z.cells (n * size)).toList :: F) ∧ Env w w' := by
  obtain ⟨i, h2, h3, h4, h5⟩ := info_parts hi
  obtain ⟨w', hrun, r1, r2⟩ := run_make_full (P := P) w 0 t e i z size ht h2 h3 h4 kl kc n (by rw [h5]; exact hb) hm (Nat.zero_le _)
  exact ⟨w', hrun, (H.own_nil e size).regrow r1 r2 (.inr rfl), (Env.refl w).grown r2⟩

theorem wpList_make_sat {P : Program} {w : World} {ops : Array Oper} {rest : List Oper} {o : Oper} {a : Act} {Q : Exit → Act → World → Prop} {F : List HP}
    (hg : o.guard = none) (l c : Operand) (t : TypeId) (hop : o.op = Op.makeSlice t l c) (H : Sat w F)
    (e : TypeId) (z : Value) (size bytes : Nat) (ht : P.underlying t = some (.slice e)) (hi : (P.info? e).map (fun i => (i.zero, i.size, i.bytes)) = some (some z, size, bytes))
    (kl kc : IntKind) (n : Nat) (hl : a.eval l = .int kl n) (hc : a.eval c = .int kc n) (hb : bytes * n ≤ 281474976710656) (hm : n ≤ maxLen)
    (hK : ∀ w', Sat w' (own e size (.slice (some ⟨w.heap.size, 0, none⟩) n n) n (madeCells z.cells (n * size)).toList :: F) → Env w w' → wpList P ops Q rest (a.put o.dst (.slice (some ⟨w.heap.size, 0, none⟩) n n)) w') :
    wpList P ops Q (o :: rest) a w := by
  refine wpList_plain hg fun K hK' => ?_
  obtain ⟨w', hrun, r1, r2⟩ := H.make t e z size bytes ht hi kl kc n hb hm
  unfold Oper.wp
  simp [execOp, hop, hl, hc, hrun, Result.andThen]
  exact hK' _ _ (hK w' r1 r2)
end Go.Proofs.Ythbabdjicplooaa

/- copy onto a slice that owns its row, whatever the elements' size. Conditions: none. -/
namespace Go.Proofs.Ythbabdjicplooaa
open Go.RowKit

theorem run_copy_any {P : Program} (w : World) (dT sT ty elem : TypeId) (k g o dLen dCap sLen sCap : Nat) (dp sp : Option Addr) (cur : Array Value) (t : TypeId) (m : Nat) (cs : List Value)
    (hu : P.underlying dT = some (.slice elem)) (hs : (P.info? elem).map (·.size) = some k)
    (hg : w.heap[g]? = some (.cells cur t (0, 0))) (hm : m = Nat.min sLen dLen) (hd : 0 < m → dp = some ⟨g, o, none⟩) (hr : Rd w k sp m cs) (hfit : o + cs.length ≤ cur.size) (h1 : ∀ v ∈ cs, v.oneCell' = true) :
    (Builtin.copy_ #[dT, sT] ty #[.slice dp dLen dCap, .slice sp sLen sCap]).run P w =
      .ok (goInt m) (w.setRow g (splice cur.toList o cs).toArray) := by
  cases hq : P.info? elem with
  | none => simp [hq] at hs
  | some i =>
    have hi : i.size = k := by simpa [hq] using hs
    have hfc : (Builtin.firstCells i.size m (.slice sp sLen sCap)).run P w = .ok cs.toArray w := by
      cases sp with
      | none =>
        have : cs = [] := by
          cases cs with
          | nil => rfl
          | cons x xs => obtain ⟨b, off, h, _⟩ := hr.2 0 x rfl; cases h
        subst this; simp [Builtin.firstCells]
      | some a =>
        have := run_loadCells_list (P := P) w a cs (hr.src a rfl)
        rw [hr.1] at this
        rw [hi]; exact this
    simp only [Builtin.copy_, List.getElem?_toArray, List.getElem?_cons_zero, List.getElem?_cons_succ, Sem.run_bind, run_underlying hu, Result.andThen_ok, Builtin.lenOf, Sem.run_pure, sizeOf, typeInfo, ← hm]
    rcases Nat.eq_zero_or_pos m with h0 | h0
    · subst h0
      have : cs = [] := List.eq_nil_of_length_eq_zero (by simpa using hr.1)
      subst this
      have hsp : (splice cur.toList o []).toArray = cur := by simp [splice]
      rw [hsp, setRow_self w g cur t (0, 0) hg]
      cases dp <;> simp [storeCells, hq, hfc]
    · rw [hd h0]
      have hst := run_storeCells_at P g o t cs 0 cur w hg (by simpa using hfit) h1
      simp only [Nat.add_zero, List.append_assoc] at hst
      simp [hq, hfc, hst, splice]

/-- copy onto a row. -/
theorem wpList_copy_row {P : Program} {w : World} {ops : Array Oper} {rest : List Oper} {o : Oper} {a : Act} {Q : Exit → Act → World → Prop} {F : List HP}
    (hgd : o.guard = none) (d s : Operand) (dT sT : TypeId) (ho : o.op = .call { callee := .builtin .copy, args := #[d, s], argTypes := #[dT, sT] }) (elem : TypeId) (k : Nat)
    (hu : P.underlying dT = some (.slice elem)) (hsz : (P.info? elem).map (·.size) = some k) {g : Nat} {t : TypeId} {cur : Array Value} (H : Sat w (row g t cur :: F))
    (dp sp : Option Addr) (dLen dCap sLen sCap : Nat) (hd : a.eval d = .slice dp dLen dCap) (hs : a.eval s = .slice sp sLen sCap) (off m : Nat) (cs : List Value) (hm : m = Nat.min sLen dLen)
    (hpos : 0 < m → dp = some ⟨g, off, none⟩) (hr : Rd w k sp m cs) (hfit : off + cs.length ≤ cur.size) (h1 : ∀ v ∈ cs, v.oneCell' = true)
    (h : ∀ w', Sat w' (row g t (splice cur.toList off cs).toArray :: F) → Env w w' → wpList P ops Q rest (a.put o.dst (goInt m)) w') : wpList P ops Q (o :: rest) a w := by
  refine wpList_plain hgd fun K hK => ?_
  have hrun := run_copy_any (P := P) w dT sT o.type elem k g off dLen dCap sLen sCap dp sp cur t m cs hu hsz H.get hm hpos hr hfit h1
  unfold Oper.wp execOp
  simp only [ho, resolve, invoke, builtin, Sem.run_bind, Sem.run_pure, Result.andThen_ok, List.map_toArray, List.map_cons, List.map_nil, hd, hs, hrun]
  refine hK _ _ (h _ ?_ ⟨rfl, rfl, rfl, by simp [World.setRow]⟩)
  have hb := H.get
  refine H.update (by simp [World.setRow]) fun S1 hlt h => ⟨S1, ⟨h.1, setRow_heap w g _ _ t _ hb⟩, fun k hk => ⟨by have := hlt k hk; simpa [World.setRow] using this, .inl hk⟩, fun k _ hne => setRow_other w g k _ (fun e => hne (by rw [e]; exact h.1))⟩

/-- copy onto an owned slice, from element i on. -/
theorem wpList_copy_sat {P : Program} {w : World} {ops : Array Oper} {rest : List Oper} {o : Oper} {a : Act} {Q : Exit → Act → World → Prop} {F : List HP}
    (hgd : o.guard = none) (d s : Operand) (dT sT : TypeId) (ho : o.op = .call { callee := .builtin .copy, args := #[d, s], argTypes := #[dT, sT] }) (elem : TypeId) (k : Nat)
    (hu : P.underlying dT = some (.slice elem)) (hsz : (P.info? elem).map (·.size) = some k) {e : TypeId} {g n c : Nat} {xs : List Value} (H : Sat w (own e k (.slice (some ⟨g, 0, none⟩) n c) n xs :: F))
    (dp sp : Option Addr) (dLen dCap sLen sCap : Nat) (hd : a.eval d = .slice dp dLen dCap) (hs : a.eval s = .slice sp sLen sCap) (off m : Nat) (cs : List Value) (hm : m = Nat.min sLen dLen)
    (hpos : 0 < m → dp = some ⟨g, off, none⟩) (hr : Rd w k sp m cs) (hfit : off + cs.length ≤ xs.length) (h1 : ∀ v ∈ cs, v.oneCell' = true)
    (h : ∀ w', Sat w' (own e k (.slice (some ⟨g, 0, none⟩) n c) n (splice xs off cs) :: F) → Env w w' → wpList P ops Q rest (a.put o.dst (goInt m)) w') : wpList P ops Q (o :: rest) a w := by
  obtain ⟨S1, S2, a1, a2, a3, ⟨hl, hH⟩, a5⟩ := id H
  rcases hH with ⟨h, _⟩ | ⟨g', cap, cur, hv, hS, hg, hc, hmx, hcs, ht⟩
  · cases h
  · injection hv with hA _ hC
    injection hA with hA
    injection hA with hA _
    subst hA; subst hC
    have hnk := Nat.mul_le_mul_right k hc
    have H' : Sat w (row g e cur :: F) := ⟨S1, S2, a1, a2, a3, ⟨hS, hg⟩, a5⟩
    refine wpList_copy_row hgd d s dT sT ho elem k hu hsz H' dp sp dLen dCap sLen sCap hd hs off m cs hm hpos hr (by omega) h1 ?_
    intro w' G E
    have hcl : cur.toList.length = c * k := by rw [Array.length_toList]; exact hcs
    refine h w' (G.own_shut hc hmx ?_ ?_) E
    · have := length_splice cur.toList off cs (by omega)
      simpa [hcs] using this
    · simp only [splice]
      rw [← ht, List.take_append, List.take_append, List.length_take, Array.length_toList, List.take_take, List.take_take, List.drop_take]
      have hx : off + cs.length ≤ n * k := by omega
      have hcz : cur.size = c * k := hcs
      rw [show min (n * k) off = off by omega, show min off (n * k) = off by omega, show min off cur.size = off by omega, List.take_of_length_le (show cs.length ≤ n * k - off by omega), Nat.sub_sub]
/-- append at a step of a region that draws. -/
theorem step_append_sat {P : Program} {w : World} {ops : Array Oper} {o : Oper} {a : Act} {K : Act → World → Prop} {Q : Exit → Act → World → Prop} {E : Prop} {F : List HP}
    (hgd : o.guard = none) (s x : Operand) (t : TypeId) (ho : o.op = .call { callee := .builtin .append, args := #[s, x], argTypes := #[t, t] })
    {e : TypeId} {size : Nat} {v : Value} {n : Nat} {xs : List Value} (H : Sat w (own e size v n xs :: F)) (hs : a.eval s = v)
    (z : Value) (bytes : Nat) (ht : P.underlying t = some (.slice e)) (hi : (P.info? e).map (fun i => (i.zero, i.size, i.bytes)) = some (some z, size, bytes))
    (hzs : z.cells.size = size) (hsz : 0 < size) (A : Option Addr) (m c : Nat) (news : List Value) (hx : a.eval x = .slice A m c) (hA : A = none → m = 0) (hl : news.length = m * size)
    (hnews : ∀ a, A = some a → ∀ j u, news[j]? = some u → w.cell? (a.add j) = some u) (h1 : ∀ u ∈ news, u.oneCell' = true)
    (h63 : n + m ≤ maxLen) (hbytes : (n + m) * bytes ≤ 140737488355328)
    (h : ∀ v' w', Sat w' (own e size v' (n + m) (xs ++ news) :: F) → Env w w' → K (a.put o.dst v') w') :
    if Region.wanted o (yielded ops a.tmps) = true then Oper.wp P o a w K Q else E := by
  obtain ⟨v', w', hrun, h2, h3⟩ := H.append t o.type z bytes ht hi hzs hsz A m c news hA hl hnews h1 h63 hbytes
  have hw : Region.wanted o (yielded ops a.tmps) = true := by unfold Region.wanted; rw [hgd]
  rw [if_pos hw]
  unfold Oper.wp execOp
  simp only [ho, resolve, invoke, builtin, Sem.run_bind, Sem.run_pure, Result.andThen_ok, List.map_toArray, List.map_cons, List.map_nil, hs, hx, hrun]
  exact h v' w' h2 h3
/-- The cells of a row that was just made. -/
theorem lit_src (w : World) (cs : Array Value) (t : TypeId) (xs : List Value) (hx : cs.toList = xs) : ∀ a, some (⟨w.heap.size, 0, none⟩ : Addr) = some a → ∀ j u, xs[j]? = some u → (w.alloc (.cells cs t)).cell? (a.add j) = some u := by
  subst hx
  intro a ha j u hu
  cases ha
  have := ((Sat.start w).alloc (.cells cs t)).cell j
  have hj : (⟨w.heap.size, 0, none⟩ : Addr).add j = ⟨w.heap.size, j, none⟩ := by simp only [Addr.add, Nat.zero_add]; split <;> simp_all
  rw [hj, this]; simpa using hu
end Go.Proofs.Ythbabdjicplooaa
