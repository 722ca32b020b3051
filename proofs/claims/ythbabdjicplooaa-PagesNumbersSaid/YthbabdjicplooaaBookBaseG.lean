/- Owned slices of one-cell elements that begin anywhere in their row. Conditions: none. -/
import Derived.Test.YthbabdjicplooaaCopyG
import Derived.ArgAppend
import Derived.Test.YthbabdjicplooaaSplitBG
namespace Go.Proofs.Ythbabdjicplooaa
open Go.RowKit

/-- A slice value that owns its row, wherever it begins in it: n elements of one cell. -/
def ownO (e : TypeId) (v : Value) (n : Nat) (xs : List Value) : HP :=
  ⟨fun h S => xs.length = n ∧ ((v = .slice none 0 0 ∧ n = 0) ∨
    ∃ g off cap cur, v = .slice (some ⟨g, off, none⟩) n cap ∧ S g ∧ h g = some (.cells cur e (0, 0)) ∧ n ≤ cap ∧ cap ≤ maxLen ∧ cur.size = off + cap ∧ (cur.toList.drop off).take n = xs),
   fun hS ⟨h0, h1⟩ => ⟨h0, h1.imp id fun ⟨g, off, cap, cur, a, b, c, d⟩ => ⟨g, off, cap, cur, a, b, (hS _ b).trans c, d⟩⟩⟩

theorem Sat.ownO_of {w : World} {e : TypeId} {v : Value} {n : Nat} {xs : List Value} {F : List HP} (H : Sat w (own e 1 v n xs :: F)) : Sat w (ownO e v n xs :: F) :=
  H.imp fun S ⟨h0, h1⟩ => ⟨by simpa using h0, h1.imp id fun ⟨g, cap, cur, a, b, c, d, f, i, j⟩ => ⟨g, 0, cap, cur, a, b, c, d, f, by simpa using i, by simpa using j⟩⟩
theorem Sat.ownO_nil {w : World} {F : List HP} (H : Sat w F) (e : TypeId) : Sat w (ownO e (.slice none 0 0) 0 [] :: F) := (H.own_nil e 1).ownO_of

/-- What it says of the world. -/
theorem Sat.ownsO {w : World} {e : TypeId} {v : Value} {n : Nat} {xs : List Value} {F : List HP} (H : Sat w (ownO e v n xs :: F)) :
    xs.length = n ∧ ((v = .slice none 0 0 ∧ n = 0) ∨ ∃ g off cap cur, v = .slice (some ⟨g, off, none⟩) n cap ∧ w.heap[g]? = some (.cells cur e (0, 0)) ∧ n ≤ cap ∧ cap ≤ maxLen ∧ cur.size = off + cap ∧ (cur.toList.drop off).take n = xs) := by
  obtain ⟨S1, S2, _, _, _, ⟨h0, h⟩, _⟩ := H
  exact ⟨h0, h.imp id fun ⟨g, off, cap, cur, a, _, c, d⟩ => ⟨g, off, cap, cur, a, c, d⟩⟩
theorem Sat.ownO_form {w : World} {e : TypeId} {v : Value} {n : Nat} {xs : List Value} {F : List HP} (H : Sat w (ownO e v n xs :: F)) :
    ∃ A c, v = .slice A n c ∧ n ≤ c ∧ c ≤ maxLen ∧ Rd w 1 A n xs := by
  obtain ⟨h0, h⟩ := H.ownsO
  rcases h with ⟨rfl, rfl⟩ | ⟨g, off, cap, cur, rfl, hg, hc, hm, hs, ht⟩
  · refine ⟨none, 0, rfl, Nat.le_refl _, by simp [maxLen], by simpa using h0, fun j u hu => ?_⟩
    have : xs = [] := List.eq_nil_of_length_eq_zero h0
    subst this; simp at hu
  · refine ⟨_, cap, rfl, hc, hm, by simpa using h0, fun j u hu => ⟨g, off, rfl, ?_⟩⟩
    rw [cell_of_row w g _ cur e (0, 0) hg]
    rw [← ht, List.getElem?_take] at hu
    split at hu
    · rw [List.getElem?_drop] at hu; simpa using hu
    · cases hu
theorem Sat.ownO_at {w : World} {e : TypeId} {A : Option Addr} {m c n : Nat} {xs : List Value} {F : List HP} (H : Sat w (ownO e (.slice A m c) n xs :: F)) : Rd w 1 A n xs ∧ m = n ∧ n ≤ c := by
  obtain ⟨A', c', h, h1, _, h2⟩ := H.ownO_form
  injection h with h3 h4 h5
  subst h3; subst h4; subst h5
  exact ⟨h2, rfl, h1⟩
theorem Sat.ownO_addr {w : World} {e : TypeId} {v : Value} {n : Nat} {xs : List Value} {F : List HP} (H : Sat w (ownO e v n xs :: F)) (hn : 0 < n) : ∃ g off c, v = .slice (some ⟨g, off, none⟩) n c ∧ n ≤ c := by
  rcases H.ownsO.2 with ⟨_, rfl⟩ | ⟨g, off, cap, cur, hv, _, hc, _⟩
  · omega
  · exact ⟨g, off, cap, hv, hc⟩
theorem Sat.ownO_cell {w : World} {e : TypeId} {g off n c : Nat} {xs : List Value} {F : List HP} (H : Sat w (ownO e (.slice (some ⟨g, off, none⟩) n c) n xs :: F)) (i : Nat) (u : Value) (hu : xs[i]? = some u) : w.cell? ⟨g, off + i, none⟩ = some u := by
  obtain ⟨b, o, hA, hc⟩ := H.ownO_at.1.2 i u hu
  injection hA with hA; injection hA with h1 h2; subst h1; subst h2
  exact hc
/-- The first element let go. -/
theorem Sat.ownO_tail {w : World} {e : TypeId} {g off n c : Nat} {x : Value} {xs : List Value} {F : List HP} (H : Sat w (ownO e (.slice (some ⟨g, off, none⟩) (n + 1) c) (n + 1) (x :: xs) :: F)) : Sat w (ownO e (.slice (some ⟨g, off + 1, none⟩) n (c - 1)) n xs :: F) :=
  H.imp fun S ⟨h0, h1⟩ => by
    rcases h1 with ⟨hb, _⟩ | ⟨g', off', cap, cur, hv, hS, hg, hc, hm, hs, ht⟩
    · cases hb
    · injection hv with h2 _ h4
      injection h2 with h2
      injection h2 with h2 h3
      subst h2; subst h3; subst h4
      refine ⟨by simpa using h0, .inr ⟨g, off + 1, c - 1, cur, rfl, hS, hg, by omega, by omega, by omega, ?_⟩⟩
      rw [← List.drop_drop]
      cases hd : cur.toList.drop off with
      | nil => rw [hd] at ht; simp at ht
      | cons y l =>
        rw [hd, List.take_succ_cons] at ht
        injection ht

/-- append onto it. -/
theorem Sat.appendO {P : Program} {w : World} {e : TypeId} {v : Value} {n : Nat} {xs : List Value} {F : List HP} (H : Sat w (ownO e v n xs :: F))
    (t ty : TypeId) (z : Value) (bytes : Nat) (ht : P.underlying t = some (.slice e)) (hi : (P.info? e).map (fun i => (i.zero, i.size, i.bytes)) = some (some z, 1, bytes))
    (hzs : z.cells.size = 1) (A : Addr) (m c : Nat) (news : List Value) (hl : news.length = m)
    (hnews : ∀ j u, news[j]? = some u → w.cell? (A.add j) = some u) (h1 : ∀ u ∈ news, u.oneCell' = true)
    (h63 : n + m ≤ maxLen) (hbytes : (n + m) * bytes ≤ 140737488355328) :
    ∃ v' w', (Builtin.append_ #[t, t] ty #[v, .slice (some A) m c]).run P w = .ok v' w' ∧ Sat w' (ownO e v' (n + m) (xs ++ news) :: F) ∧ Env w w' := by
  obtain ⟨hx, h⟩ := H.ownsO
  rcases h with ⟨rfl, rfl⟩ | ⟨g, off, cap, cur, rfl, hg, hc, hm, hcs, htk⟩
  · have hx0 : xs = [] := List.eq_nil_of_length_eq_zero hx
    subst hx0
    obtain ⟨v', w', h2, h3, h4⟩ := (H.tail.own_nil e 1).append t ty z bytes ht hi hzs (by omega) (some A) m c news (fun h => by cases h) (by simpa using hl) (fun a ha => by cases ha; exact hnews) h1 h63 hbytes
    exact ⟨v', w', h2, h3.ownO_of, h4⟩
  · obtain ⟨i, hi, hz, hs, hb⟩ := info_parts hi
    have hlen : (xs ++ news).length = n + m := by rw [List.length_append, hx, hl]
    by_cases hroom : n + m ≤ cap
    · have hfit : off + n + news.length ≤ cur.size := by omega
      have hfc := run_firstCells_some (P := P) w i.size m A m c news (by rw [hs]; omega) hnews
      have hst := run_storeCells_at P g (off + n) e news 0 cur w hg (by simpa using hfit) h1
      simp only [Nat.add_zero] at hst
      refine ⟨.slice (some ⟨g, off, none⟩) (n + m) cap, w.setRow g (cur.toList.take (off + n) ++ news ++ cur.toList.drop (off + n + news.length)).toArray, ?_, ?_, ⟨rfl, rfl, rfl, by simp⟩⟩
      · rw [hs] at hfc
        simp [Builtin.append_, run_underlying ht, sizeOf, typeInfo, hi, hs, Builtin.lenOf, hroom, hfc, Addr.add_lit, hst]
      · refine H.update (by simp) fun S1 hlt ⟨_, hh⟩ => ?_
        rcases hh with ⟨hb', _⟩ | ⟨g', off', cap', cur', hv, hS, hg', _⟩
        · cases hb'
        · injection hv with h2 _ h4
          injection h2 with h2
          injection h2 with h2 h3
          subst h2; subst h3; subst h4
          refine ⟨S1, ⟨hlen, .inr ⟨g, off, cap, _, rfl, hS, setRow_heap w g cur _ e _ hg, hroom, hm, ?_, ?_⟩⟩, fun k hk => ⟨by have := hlt k hk; simpa using this, .inl hk⟩, fun k _ hne => setRow_other w g k _ (fun e => hne (e ▸ hS))⟩
          · simp only [List.size_toArray, List.length_append, List.length_take, List.length_drop, Array.length_toList]
            omega
          · have e1 : (cur.toList.take (off + n)).drop off = xs := by rw [← htk, List.drop_take]; congr 1; omega
            have e2 : off ≤ (cur.toList.take (off + n)).length := by rw [List.length_take, Array.length_toList]; omega
            rw [List.append_assoc, List.drop_append_of_le_length e2, e1, ← List.append_assoc, ← hlen]
            exact List.take_left
    · obtain ⟨v', w', hrun, ho, hgr⟩ := run_append_arg_grows (P := P) w t ty e i z 1 bytes ht hi hz hs hb hzs (by omega) ⟨g, off, none⟩ n cap xs (by omega)
        (fun j u hu => by
          have := H.ownO_cell j u hu
          rw [Addr.add_lit]; exact this) A m c news (by omega) hnews (by omega) h63 hbytes
      refine ⟨v', w', hrun, ?_, (Env.refl w).grown hgr⟩
      refine H.update hgr.size fun S1 hlt _ => ?_
      rcases ho with ⟨h0, ⟨rfl, h00⟩ | ⟨g2, cap2, cur2, rfl, hbg, hg2, r1, r2, r3, r4⟩⟩
      · exact ⟨fun _ => False, ⟨hlen, .inl ⟨rfl, h00⟩⟩, fun _ h => h.elim, fun k hk _ => hgr.block k hk (by simp)⟩
      · refine ⟨fun k => k = g2, ⟨hlen, .inr ⟨g2, 0, cap2, cur2, rfl, rfl, hg2, r1, r2, by omega, by simpa using r4⟩⟩, ?_, fun k hk _ => hgr.block k hk (by simp)⟩
        rintro k rfl
        exact ⟨(Array.getElem?_eq_some_iff.1 hg2).1, .inr hbg⟩

theorem wpList_append_satO {P : Program} {w : World} {ops : Array Oper} {rest : List Oper} {o : Oper} {a : Act} {Q : Exit → Act → World → Prop} {F : List HP}
    (hgd : o.guard = none) (s x : Operand) (t : TypeId) (ho : o.op = .call { callee := .builtin .append, args := #[s, x], argTypes := #[t, t] })
    {e : TypeId} {v : Value} {n : Nat} {xs : List Value} (H : Sat w (ownO e v n xs :: F)) (hs : a.eval s = v)
    (z : Value) (bytes : Nat) (ht : P.underlying t = some (.slice e)) (hi : (P.info? e).map (fun i => (i.zero, i.size, i.bytes)) = some (some z, 1, bytes))
    (hzs : z.cells.size = 1) (A : Addr) (m c : Nat) (news : List Value) (hx : a.eval x = .slice (some A) m c) (hl : news.length = m)
    (hnews : ∀ j u, news[j]? = some u → w.cell? (A.add j) = some u) (h1 : ∀ u ∈ news, u.oneCell' = true)
    (h63 : n + m ≤ maxLen) (hbytes : (n + m) * bytes ≤ 140737488355328)
    (h : ∀ v' w', Sat w' (ownO e v' (n + m) (xs ++ news) :: F) → Env w w' → wpList P ops Q rest (a.put o.dst v') w') : wpList P ops Q (o :: rest) a w :=
  wpList_plain hgd fun K hK => by
    obtain ⟨v', w', hrun, h2, h3⟩ := H.appendO t o.type z bytes ht hi hzs A m c news hl hnews h1 h63 hbytes
    unfold Oper.wp execOp
    simp only [ho, resolve, invoke, builtin, Sem.run_bind, Sem.run_pure, Result.andThen_ok, List.map_toArray, List.map_cons, List.map_nil, hs, hx, hrun]
    exact hK _ _ (h v' w' h2 h3)
theorem step_append_satO {P : Program} {w : World} {ops : Array Oper} {o : Oper} {a : Act} {K : Act → World → Prop} {Q : Exit → Act → World → Prop} {E : Prop} {F : List HP}
    (hgd : o.guard = none) (s x : Operand) (t : TypeId) (ho : o.op = .call { callee := .builtin .append, args := #[s, x], argTypes := #[t, t] })
    {e : TypeId} {v : Value} {n : Nat} {xs : List Value} (H : Sat w (ownO e v n xs :: F)) (hs : a.eval s = v)
    (z : Value) (bytes : Nat) (ht : P.underlying t = some (.slice e)) (hi : (P.info? e).map (fun i => (i.zero, i.size, i.bytes)) = some (some z, 1, bytes))
    (hzs : z.cells.size = 1) (A : Addr) (m c : Nat) (news : List Value) (hx : a.eval x = .slice (some A) m c) (hl : news.length = m)
    (hnews : ∀ j u, news[j]? = some u → w.cell? (A.add j) = some u) (h1 : ∀ u ∈ news, u.oneCell' = true)
    (h63 : n + m ≤ maxLen) (hbytes : (n + m) * bytes ≤ 140737488355328)
    (h : ∀ v' w', Sat w' (ownO e v' (n + m) (xs ++ news) :: F) → Env w w' → K (a.put o.dst v') w') :
    if Region.wanted o (yielded ops a.tmps) = true then Oper.wp P o a w K Q else E := by
  obtain ⟨v', w', hrun, h2, h3⟩ := H.appendO t o.type z bytes ht hi hzs A m c news hl hnews h1 h63 hbytes
  have hw : Region.wanted o (yielded ops a.tmps) = true := by unfold Region.wanted; rw [hgd]
  rw [if_pos hw]
  unfold Oper.wp execOp
  simp only [ho, resolve, invoke, builtin, Sem.run_bind, Sem.run_pure, Result.andThen_ok, List.map_toArray, List.map_cons, List.map_nil, hs, hx, hrun]
  exact h v' w' h2 h3
end Go.Proofs.Ythbabdjicplooaa

/- The book of lists: what every element type shares. Conditions: none. -/
namespace Go.Proofs.Ythbabdjicplooaa
open Go.RowKit

theorem Sat.f5 {w : World} {A B C D E X : HP} {L : List HP} (H : Sat w (A :: B :: C :: D :: E :: X :: L)) : Sat w (X :: A :: B :: C :: D :: E :: L) := H.perm (List.perm_middle (l₁ := [A, B, C, D, E]))
theorem Sat.f6 {w : World} {A B C D E G X : HP} {L : List HP} (H : Sat w (A :: B :: C :: D :: E :: G :: X :: L)) : Sat w (X :: A :: B :: C :: D :: E :: G :: L) := H.perm (List.perm_middle (l₁ := [A, B, C, D, E, G]))
/-- A list that is kept: itself, its length, the copy, its cells. -/
structure Kp where
  v : Value
  n : Nat
  u : Value
  xs : List Value
structure Bk where
  vL : Value
  vW : Value
  items : List Kp
  held : Int
theorem Sat.all_snoc {w : World} {F : List HP} {A : HP} {L : List HP} (H : Sat w (A :: all L :: F)) : Sat w (all (L ++ [A]) :: F) := by
  have h1 := H.b1.open_all
  exact Sat.shut_all (L := L ++ [A]) (by rw [List.append_assoc]; exact h1)
theorem Sat.all_at {w : World} {F : List HP} {L : List HP} {A : HP} (H : Sat w (all L :: F)) (hA : A ∈ L) : Sat w (A :: F) := by
  obtain ⟨L1, L2, rfl⟩ := List.append_of_mem hA
  have h1 := H.open_all
  rw [List.append_assoc, List.cons_append] at h1
  have h2 : Sat w (A :: (L1 ++ (L2 ++ F))) := h1.perm List.perm_middle
  have drop : ∀ (L : List HP) (A : HP) (F : List HP), Sat w (A :: (L ++ F)) → Sat w (A :: F) := by
    intro L A F h
    induction L with
    | nil => exact h
    | cons x L ih => exact ih h.b1.tail
  exact drop _ _ _ (drop _ _ _ h2)
/-- Full, a list's row is its own in the spare room, too. -/
theorem Sat.own_full {w : World} {e : TypeId} {k : Nat} {A : Option Addr} {n c : Nat} {xs : List Value} {F : List HP} (H : Sat w (own e k (.slice A n c) n xs :: F)) : ∃ ys, Sat w (own e k (.slice A c c) c ys :: F) := by
  rcases Nat.eq_zero_or_pos n with h0 | h0
  · subst h0
    obtain ⟨h1, h⟩ := H.owns
    rcases h with ⟨hv, -⟩ | ⟨g, cap, cur, hv, -, -, -, -, -, -⟩
    · injection hv with h2 h3 h4
      subst h2; subst h4
      exact ⟨xs, H⟩
    · obtain ⟨S1, S2, a1, a2, a3, ⟨hl, hH⟩, a5⟩ := id H
      rcases hH with ⟨hb, _⟩ | ⟨g', cap', cur', hv', hS, hg, hc, hmx, hcs, ht⟩
      · rw [hv] at hb; cases hb
      · injection hv' with h2 _ h4
        subst h2; subst h4
        have H' : Sat w (row g' e cur' :: F) := ⟨S1, S2, a1, a2, a3, ⟨hS, hg⟩, a5⟩
        exact ⟨cur'.toList, H'.own_shut (Nat.le_refl _) hmx hcs (by rw [← hcs, Array.size_eq_length_toList, List.take_length])⟩
  · obtain ⟨g, cur, rfl, hc, hmx, hcs, ht, H'⟩ := H.own_open h0
    exact ⟨cur.toList, H'.own_shut (Nat.le_refl _) hmx hcs (by rw [← hcs, Array.size_eq_length_toList, List.take_length])⟩

def emp : HP := all []
theorem Sat.focus {w : World} {F : List HP} {L : List HP} {i : Nat} (hi : i < L.length) (H : Sat w (all L :: F)) : Sat w (L[i] :: all (L.set i emp) :: F) := by
  have h1 := H.open_all
  have e1 : L = L.take i ++ L[i] :: L.drop (i + 1) := by rw [List.getElem_cons_drop, List.take_append_drop]
  have e2 : L.set i emp = L.take i ++ emp :: L.drop (i + 1) := by rw [List.set_eq_take_append_cons_drop, if_pos hi]
  have h2 : Sat w (L.take i ++ L[i] :: (L.drop (i + 1) ++ F)) := by
    have h1' := h1
    rw [e1, List.append_assoc, List.cons_append] at h1'
    exact h1'
  have h3 : Sat w (L[i] :: (L.take i ++ (L.drop (i + 1) ++ F))) := h2.perm List.perm_middle
  have h4 : Sat w (emp :: L[i] :: (L.take i ++ (L.drop (i + 1) ++ F))) := Sat.shut_all (L := []) h3
  rw [e2]
  have h5 : Sat w ((L.take i ++ emp :: L.drop (i + 1)) ++ (L[i] :: F)) := by
    refine h4.perm ?_
    rw [List.append_assoc, List.cons_append]
    refine List.Perm.trans ?_ List.perm_middle.symm
    refine List.Perm.cons _ ?_
    rw [← List.append_assoc, ← List.append_assoc]
    exact List.perm_middle.symm
  exact (Sat.shut_all h5).b1
theorem Sat.unfocus {w : World} {F : List HP} {L : List HP} {i : Nat} {A : HP} (hi : i < L.length) (H : Sat w (A :: all (L.set i emp) :: F)) : Sat w (all (L.set i A) :: F) := by
  have e2 : L.set i emp = L.take i ++ emp :: L.drop (i + 1) := by rw [List.set_eq_take_append_cons_drop, if_pos hi]
  have e3 : L.set i A = L.take i ++ A :: L.drop (i + 1) := by rw [List.set_eq_take_append_cons_drop, if_pos hi]
  rw [e2] at H
  have h1 := H.b1.open_all
  rw [List.append_assoc, List.cons_append] at h1
  have h2 : Sat w (emp :: (L.take i ++ (L.drop (i + 1) ++ (A :: F)))) := h1.perm List.perm_middle
  have h3 := h2.tail
  rw [e3]
  refine Sat.shut_all (L := L.take i ++ A :: L.drop (i + 1)) ?_
  refine h3.perm ?_
  rw [List.append_assoc, List.cons_append]
  refine List.Perm.trans ?_ List.perm_middle.symm
  rw [← List.append_assoc, ← List.append_assoc]
  exact List.perm_middle
theorem Sat.all_tail {w : World} {F : List HP} {A : HP} {L : List HP} (H : Sat w (all (A :: L) :: F)) : Sat w (all L :: F) := Sat.shut_all H.open_all.tail
theorem Sat.only {w : World} {A : HP} {L : List HP} (h : Sat w (A :: L)) : Sat w [A] := by
  induction L with
  | nil => exact h
  | cons x L ih => exact ih h.b1.tail
/-- How many lists there are, read from the memory. -/
def lenAt (b : Nat) (w : World) : Nat := match w.cell? ⟨b, 0, none⟩ with
  | some (.slice _ n _) => n
  | _ => 0
def SubK (L L0 : List Kp) : Prop := L.length ≤ L0.length ∧ ∀ p ∈ L, p ∈ L0
theorem SubK.refl (L : List Kp) : SubK L L := ⟨Nat.le_refl _, fun _ h => h⟩
theorem SubK.tail {p : Kp} {L L0 : List Kp} (h : SubK (p :: L) L0) : SubK L L0 := ⟨by have := h.1; simp only [List.length_cons] at this; omega, fun q hq => h.2 q (List.mem_cons_of_mem _ hq)⟩
end Go.Proofs.Ythbabdjicplooaa
