/- Maps with integer keys that can be gone through: chunks, updates, the iterator. Conditions: none. -/
import Derived.Test.YthbabdjicplooaaMapG
import Derived.Maps.RangeRun
namespace Go.Proofs.Ythbabdjicplooaa
open Go.RowKit

/-- Entries in order, no key twice, no stamp twice, none from later than the clock. -/
structure MWf (es : Array MapEntry) (clock : Nat) (m : List (Int × Value)) : Prop where
  kv : es.toList.map (fun e => (e.key, e.val)) = m.map (fun p => (Value.int .i64 p.1, p.2))
  nd : (m.map (·.1)).Nodup
  born : (es.toList.map (·.born)).Nodup
  lt : ∀ e ∈ es.toList, e.born < clock
def jmap (b : Nat) (m : List (Int × Value)) : HP := ⟨fun h S => S b ∧ ∃ es clock, h b = some (.map es clock) ∧ MWf es clock m,
  fun hS ⟨h1, es, clock, h2, h3⟩ => ⟨h1, es, clock, (hS _ h1).trans h2, h3⟩⟩
theorem Sat.jmap_imap {w : World} {b : Nat} {m : List (Int × Value)} {F : List HP} (H : Sat w (jmap b m :: F)) : Sat w (imap b m :: F) :=
  H.imp fun _ ⟨h1, es, clock, h2, h3⟩ => ⟨h1, es, clock, h2, h3.kv⟩
theorem Sat.jmap_get {w : World} {b : Nat} {m : List (Int × Value)} {F : List HP} (H : Sat w (jmap b m :: F)) : ∃ es clock, w.heap[b]? = some (.map es clock) ∧ MWf es clock m := by
  obtain ⟨_, _, _, _, _, h, _⟩ := H
  exact h.2
theorem Sat.jmap_nd {w : World} {b : Nat} {m : List (Int × Value)} {F : List HP} (H : Sat w (jmap b m :: F)) : (m.map (·.1)).Nodup := by
  obtain ⟨es, clock, -, h⟩ := H.jmap_get
  exact h.nd
theorem Sat.jmap_new {w : World} {F : List HP} (H : Sat w F) : Sat (w.alloc (.map #[] 0)) (jmap w.heap.size [] :: F) :=
  (H.alloc (.map #[] 0)).imp fun _ h => ⟨h.1, #[], 0, h.2, ⟨rfl, List.nodup_nil, List.nodup_nil, fun e he => by cases he⟩⟩
theorem Sat.jmap_set {w : World} {b : Nat} {m : List (Int × Value)} {F : List HP} (H : Sat w (jmap b m :: F)) (es : Array MapEntry) (clock : Nat) (m' : List (Int × Value)) (h : MWf es clock m') :
    Sat { w with heap := w.heap.setIfInBounds b (.map es clock) } (jmap b m' :: F) := by
  obtain ⟨es0, clock0, hb, _⟩ := H.jmap_get
  have h1 := ChangeMaps.heap_setBlock_same hb (.map es clock)
  refine H.update (by simp) fun S1 hlt hs => ⟨S1, ⟨hs.1, es, clock, h1, h⟩, fun k hk => ⟨by have := hlt k hk; simpa using this, .inl hk⟩, fun k _ hne => ChangeMaps.heap_setBlock_other hb (.map es clock) (fun e => hne (by rw [e]; exact hs.1))⟩
theorem mput_keys (m : List (Int × Value)) (a : Int) (v : Value) : (mput m a v).map (·.1) = if a ∈ m.map (·.1) then m.map (·.1) else m.map (·.1) ++ [a] := by
  induction m with
  | nil => simp [mput]
  | cons p m ih =>
    simp only [mput]
    by_cases h : p.1 = a
    · simp [h]
    · rw [if_neg h, List.map_cons, ih]
      have : ¬ a = p.1 := fun e => h e.symm
      by_cases h2 : a ∈ m.map (·.1)
      · rw [if_pos h2, if_pos (by simp only [List.map_cons, List.mem_cons]; exact .inr h2), List.map_cons]
      · rw [if_neg h2, if_neg (by simp only [List.map_cons, List.mem_cons, not_or]; exact ⟨this, h2⟩), List.map_cons, List.cons_append]
theorem mput_nd {m : List (Int × Value)} (h : (m.map (·.1)).Nodup) (a : Int) (v : Value) : ((mput m a v).map (·.1)).Nodup := by
  rw [mput_keys]
  split
  · exact h
  · rename_i h1
    exact List.nodup_append.2 ⟨h, by simp, fun x hx y hy => by rw [List.mem_singleton.1 hy]; rintro rfl; exact h1 hx⟩
theorem mget_mem {m : List (Int × Value)} (h : (m.map (·.1)).Nodup) {p : Int × Value} (hp : p ∈ m) : mget m p.1 = some p.2 := by
  induction m with
  | nil => cases hp
  | cons q m ih =>
    rw [List.map_cons, List.nodup_cons] at h
    rw [mget]
    rcases List.mem_cons.1 hp with rfl | hp
    · rw [if_pos rfl]
    · rw [if_neg (fun e => h.1 (List.mem_map.2 ⟨p, hp, e.symm⟩))]
      exact ih h.2 hp
theorem mput_mem {m : List (Int × Value)} {a : Int} {v : Value} {q : Int × Value} (h : q ∈ mput m a v) : q ∈ m ∨ q = (a, v) := by
  induction m with
  | nil => exact .inr (List.mem_singleton.1 h)
  | cons p m ih =>
    rw [mput] at h
    split at h
    · rename_i h1
      rcases List.mem_cons.1 h with h | h
      · right; rw [h, h1]
      · exact .inl (List.mem_cons_of_mem _ h)
    · rcases List.mem_cons.1 h with h | h
      · left; rw [h]; exact List.mem_cons_self ..
      · exact (ih h).imp (List.mem_cons_of_mem _) id
theorem mget_none {m : List (Int × Value)} {k : Int} (h : ∀ p ∈ m, p.1 ≠ k) : mget m k = none := by
  induction m with
  | nil => rfl
  | cons q m ih => rw [mget, if_neg (h q (List.mem_cons_self ..))]; exact ih fun p hp => h p (List.mem_cons_of_mem _ hp)
theorem mget_some {m : List (Int × Value)} {k : Int} {v : Value} (h : mget m k = some v) : (k, v) ∈ m := by
  induction m with
  | nil => cases h
  | cons q m ih =>
    rw [mget] at h
    split at h
    · rename_i h1
      injection h with h
      subst h1; subst h; exact List.mem_cons_self ..
    · exact List.mem_cons_of_mem _ (ih h)

theorem modify_born : ∀ (l : List MapEntry) (j : Nat) (a : Int) (v : Value), (l.modify j fun e => { key := .int .i64 a, val := v, born := e.born }).map (·.born) = l.map (·.born)
  | [], _, _, _ => by simp
  | _ :: _, 0, _, _ => by simp [List.modify]
  | x :: l, j + 1, a, v => by simp only [List.modify_succ_cons, List.map_cons, modify_born l j a v]

section
variable {P : Program} {w : World} {b : Nat} {m : List (Int × Value)} {F : List HP}
theorem Sat.jmap_put (H : Sat w (jmap b m :: F)) {t k e : TypeId} (ht : P.underlying t = some (.map k e)) (hk : P.underlying k = some (.int .i64)) (a : Int) (v : Value) :
    ∃ w', (Instr.mapUpdate t (.map (some b)) (.int .i64 a) v).run P w = .ok () w' ∧ Sat w' (jmap b (mput m a v) :: F) ∧ Env w w' := by
  obtain ⟨es, clock, hb, hm⟩ := H.jmap_get
  have hck := fun em => MapKept.run_checkKey (P := P) (w := w) (k := .int .i64 a) hk (by simp [MapKept.IsKey]) em 9999
  rcases find_im a v es.toList m 0 hm.kv with ⟨h1, h2, h3⟩ | ⟨j, e0, h1, h2, h3, h4, h5⟩
  · have hf := MapKept.run_findKey (P := P) (w := w) hk h1
    refine ⟨_, by simp [Instr.mapUpdate, run_underlying ht, MapKept.run_getObj_map hb, hck, hf, Result.andThen, MapKept.run_setObj_map _ hb]; rfl, H.jmap_set _ _ _ ⟨?_, mput_nd hm.nd a v, ?_, ?_⟩, ⟨rfl, rfl, rfl, by simp⟩⟩
    · rw [h3]; simp [hm.kv]
    · simp only [Array.toList_push, List.map_append, List.map_cons, List.map_nil]
      refine List.nodup_append.2 ⟨hm.born, by simp, fun x hx y hy => ?_⟩
      obtain ⟨e1, he1, rfl⟩ := List.mem_map.1 hx
      have := hm.lt e1 he1
      rw [List.mem_singleton.1 hy]; omega
    · intro e1 he1
      simp only [Array.toList_push] at he1
      rcases List.mem_append.1 he1 with he1 | he1
      · have := hm.lt e1 he1; omega
      · rw [List.mem_singleton.1 he1]; simp
  · have hf := MapKept.run_findKey (P := P) (w := w) hk h1
    have hj : es[j]? = some e0 := by simpa using h2
    refine ⟨_, by simp [Instr.mapUpdate, run_underlying ht, MapKept.run_getObj_map hb, hck, hf, hj, h3, Instr.keyThatStays, Instr.sameBits, Result.andThen, MapKept.run_setObj_map _ hb]; rfl, H.jmap_set _ _ _ ⟨?_, mput_nd hm.nd a v, ?_, ?_⟩, ⟨rfl, rfl, rfl, by simp⟩⟩
    · rw [← h5, Array.toList_modify]
      congr 1
      exact modify_same _ _ h2 (by rw [h3])
    · rw [Array.toList_modify]
      rw [modify_born]
      exact hm.born
    · intro e1 he1
      rw [Array.toList_modify] at he1
      have : e1.born ∈ (es.toList).map (·.born) := by
        rw [← modify_born es.toList j a v]
        exact List.mem_map.2 ⟨e1, he1, rfl⟩
      obtain ⟨e2, he2, h8⟩ := List.mem_map.1 this
      have := hm.lt e2 he2
      omega
end

/-- A map that is being gone through, with its iterator: what is still to come, and which entry came last. -/
structure JIter (h : Hp) (r b : Nat) (m todo : List (Int × Value)) (last : Option (Int × Value)) (es : Array MapEntry) (clock since : Nat) (seen : Array Nat) (c0 : Nat) : Prop where
  map : h b = some (.map es clock)
  iter : h r = some (.mapIter (some b) since seen c0)
  wf : MWf es clock m
  hold : ∀ x ∈ es.toList, x.born < since
  hsc : since ≤ c0
  hcl : since ≤ clock
  todo : (leftOf es seen).toList.map (fun e => (e.key, e.val)) = todo.map (fun p => (Value.int .i64 p.1, p.2))
  last : ∀ p, last = some p → ∃ (e : MapEntry) (seen' : Array Nat), e ∈ es.toList ∧ seen = seen'.push e.born ∧ c0 = clock ∧ e.key = .int .i64 p.1 ∧ e.val = p.2
def jrange (r b : Nat) (m todo : List (Int × Value)) (last : Option (Int × Value)) : HP := ⟨fun h S => S r ∧ S b ∧ r ≠ b ∧ ∃ es clock since seen c0, JIter h r b m todo last es clock since seen c0,
  fun hS ⟨h1, h2, h0, es, clock, since, seen, c0, h3⟩ => ⟨h1, h2, h0, es, clock, since, seen, c0, ⟨(hS _ h2).trans h3.map, (hS _ h1).trans h3.iter, h3.wf, h3.hold, h3.hsc, h3.hcl, h3.todo, h3.last⟩⟩⟩
theorem Sat.jrange_get {w : World} {r b : Nat} {m todo : List (Int × Value)} {last : Option (Int × Value)} {F : List HP} (H : Sat w (jrange r b m todo last :: F)) : r ≠ b ∧ ∃ es clock since seen c0, JIter (hp w) r b m todo last es clock since seen c0 := by
  obtain ⟨_, _, _, _, _, h, _⟩ := H
  exact h.2.2
/-- Behind the loop the map is as it was. -/
theorem Sat.jrange_end {w : World} {r b : Nat} {m todo : List (Int × Value)} {last : Option (Int × Value)} {F : List HP} (H : Sat w (jrange r b m todo last :: F)) : Sat w (jmap b m :: F) :=
  H.imp fun _ ⟨_, h2, _, es, clock, _, _, _, h3⟩ => ⟨h2, es, clock, h3.map, h3.wf⟩
/-- How many entries are still to come, read off the world. -/
def jleft (r b : Nat) (w : World) : Nat := match w.heap[r]?, w.heap[b]? with
  | some (.mapIter _ _ seen _), some (.map es _) => (leftOf es seen).size
  | _, _ => 0
theorem Sat.jleft {w : World} {r b : Nat} {m todo : List (Int × Value)} {last : Option (Int × Value)} {F : List HP} (H : Sat w (jrange r b m todo last :: F)) : jleft r b w = todo.length := by
  obtain ⟨-, es, clock, since, seen, c0, hI⟩ := H.jrange_get
  have h1 : w.heap[r]? = some (.mapIter (some b) since seen c0) := hI.iter
  have h2 : w.heap[b]? = some (.map es clock) := hI.map
  have h3 := congrArg List.length hI.todo
  rw [List.length_map, List.length_map, Array.length_toList] at h3
  rw [← h3]
  simp only [Go.Proofs.Ythbabdjicplooaa.jleft, h1, h2]
theorem filter_lt {todo : List (Int × Value)} {p : Int × Value} (hp : p ∈ todo) : (todo.filter fun q => !(q.1 == p.1)).length < todo.length :=
  List.length_filter_lt_length_iff_exists.2 ⟨p, hp, by simp⟩
theorem filter_nd {todo : List (Int × Value)} (h : (todo.map (·.1)).Nodup) (p : Int × Value) : ((todo.filter fun q => !(q.1 == p.1)).map (·.1)).Nodup :=
  List.Sublist.nodup (List.Sublist.map _ List.filter_sublist) h
theorem jkv_eq {es : List MapEntry} {m : List (Int × Value)} (h : es.map (fun e => (e.key, e.val)) = m.map (fun p => (Value.int .i64 p.1, p.2))) {e : MapEntry} (he : e ∈ es) : ∃ p ∈ m, e.key = .int .i64 p.1 ∧ e.val = p.2 := by
  have : (e.key, e.val) ∈ m.map (fun p => (Value.int .i64 p.1, p.2)) := h ▸ List.mem_map.2 ⟨e, he, rfl⟩
  obtain ⟨p, hp, hq⟩ := List.mem_map.1 this
  injection hq with h1 h2
  exact ⟨p, hp, h1.symm, h2.symm⟩

section
variable {P : Program} {w : World} {b : Nat} {m : List (Int × Value)} {F : List HP}
theorem Sat.jrange_start (H : Sat w (jmap b m :: F)) {t k e : TypeId} (ht : P.underlying t = some (.map k e)) :
    ∃ r w', (Instr.range t (.map (some b))).run P w = .ok (.pointer (some ⟨r, 0, none⟩)) w' ∧ Sat w' (jrange r b m m none :: F) ∧ Env w w' := by
  obtain ⟨es, clock, hb, hm⟩ := H.jmap_get
  have hlt := (Array.getElem?_eq_some_iff.1 hb).1
  refine ⟨_, _, run_range_map w t k e b es clock ht hb, ?_, (Env.refl w).alloc _⟩
  have H1 := (H.alloc (.mapIter (some b) clock #[] clock)).b1
  obtain ⟨S1, S2, g1, g2, g3, ⟨g4, g5⟩, S3, S4, k1, k2, k3, ⟨k4, k5⟩, k6⟩ := H1
  refine ⟨fun x => S1 x ∨ S3 x, S4, fun x hx => hx.elim (g1 x) (fun h => g2 x (k1 x h)), fun x hx => g2 x (k2 x hx), fun x hx hx' => hx.elim (fun h => g3 x h (k2 x hx')) (fun h => k3 x h hx'), ⟨.inr k4, .inl g4, by omega, es, clock, clock, #[], clock, ⟨?_, k5, hm, hm.lt, Nat.le_refl _, Nat.le_refl _, ?_, (fun p hp => by cases hp)⟩⟩, k6⟩
  · show (w.alloc _).heap[b]? = _
    rw [heap_alloc_old w _ hlt]; exact hb
  · rw [show leftOf es #[] = es by unfold leftOf; simp]
    exact hm.kv
theorem filter_kv {es : List MapEntry} {todo : List (Int × Value)} (h : es.map (fun e => (e.key, e.val)) = todo.map (fun p => (Value.int .i64 p.1, p.2))) (hn : (todo.map (·.1)).Nodup) (hb : (es.map (·.born)).Nodup) {e : MapEntry} (he : e ∈ es) {p : Int × Value} (hk : e.key = .int .i64 p.1) :
    (es.filter fun x => !(x.born == e.born)).map (fun e => (e.key, e.val)) = (todo.filter fun q => !(q.1 == p.1)).map (fun p => (Value.int .i64 p.1, p.2)) := by
  induction es generalizing todo with
  | nil => cases he
  | cons x es ih =>
    cases todo with
    | nil => simp at h
    | cons q todo =>
      simp only [List.map_cons, List.cons.injEq, Prod.mk.injEq] at h
      rw [List.map_cons, List.nodup_cons] at hn hb
      obtain ⟨⟨h1, h2⟩, h3⟩ := h
      rcases List.mem_cons.1 he with rfl | he
      · have hq : q.1 = p.1 := by rw [hk] at h1; injection h1 with _ h1; exact h1.symm
        have e1 : es.filter (fun x => !(x.born == e.born)) = es := List.filter_eq_self.2 fun y hy => by
          have : ¬ y.born = e.born := fun e' => hb.1 (List.mem_map.2 ⟨y, hy, e'⟩)
          simp [this]
        have e2 : todo.filter (fun y => !(y.1 == p.1)) = todo := List.filter_eq_self.2 fun y hy => by
          have : ¬ y.1 = p.1 := fun e' => hn.1 (List.mem_map.2 ⟨y, hy, e'.trans hq.symm⟩)
          simp [this]
        rw [List.filter_cons_of_neg (by simp), List.filter_cons_of_neg (by simp [hq]), e1, e2, h3]
      · have hx : ¬ x.born = e.born := fun e' => hb.1 (List.mem_map.2 ⟨e, he, e'.symm⟩)
        have hq : ¬ q.1 = p.1 := fun e' => by
          obtain ⟨p', hp', h4, h5⟩ := jkv_eq h3 he
          rw [hk] at h4
          injection h4 with _ h4
          exact hn.1 (List.mem_map.2 ⟨p', hp', h4.symm.trans e'.symm⟩)
        rw [List.filter_cons_of_pos (by simp [hx]), List.filter_cons_of_pos (by simp [hq]), List.map_cons, List.map_cons, ih h3 hn.2 hb.2 he, h1, h2]
theorem left_push (es : Array MapEntry) (seen : Array Nat) (n : Nat) : (leftOf es (seen.push n)).toList = (leftOf es seen).toList.filter fun x => !(x.born == n) := by
  unfold leftOf
  rw [Array.toList_filter, Array.toList_filter, List.filter_filter]
  congr 1
  funext x
  rw [Array.contains_push]
  cases seen.contains x.born <;> simp [Bool.beq_eq_decide_eq]
theorem Sat.jrange_next {r : Nat} {todo : List (Int × Value)} {last : Option (Int × Value)} (H : Sat w (jrange r b m todo last :: F)) (ht : (todo.map (·.1)).Nodup) (ty : TypeId) :
    (todo = [] ∧ (Instr.next (.pointer (some ⟨r, 0, none⟩)) false ty).run P w = .ok (.tuple #[.bool false]) w) ∨
    ∃ p w', p ∈ todo ∧ p ∈ m ∧ (Instr.next (.pointer (some ⟨r, 0, none⟩)) false ty).run P w = .ok (.tuple #[.bool true, .int .i64 p.1, p.2]) w' ∧ Sat w' (jrange r b m (todo.filter fun q => !(q.1 == p.1)) (some p) :: F) ∧ Env w w' := by
  obtain ⟨hne, es, clock, since, seen, c0, hI⟩ := H.jrange_get
  rcases run_next_at (P := P) w ty r b since c0 seen es clock hI.iter hI.map hI.hold hI.hsc with ⟨h1, h2⟩ | ⟨e, he, w1, hw1, h2⟩
  · left
    have : (leftOf es seen).toList = [] := by rw [← List.length_eq_zero_iff]; simpa using h1
    have h3 := hI.todo
    rw [this] at h3
    exact ⟨(List.map_eq_nil_iff.1 h3.symm), h2⟩
  · right
    obtain ⟨p, hp, hk, hv⟩ := jkv_eq hI.todo he
    have hes : e ∈ es.toList := by
      have : e ∈ leftOf es seen := by simpa using he
      unfold leftOf at this
      rw [Array.mem_filter] at this
      simpa using this.1
    obtain ⟨p2, hp2, hk2, hv2⟩ := jkv_eq hI.wf.kv hes
    have hpp : p2 = p := by
      rw [hk] at hk2; injection hk2 with _ hk2
      exact Prod.ext hk2.symm (hv2.symm.trans hv)
    subst hpp
    refine ⟨p2, _, hp, hp2, by rw [h2, hk, hv], ?_, ?_⟩
    · have hI1 : Sat w1 (jrange r b m todo last :: F) := by rcases hw1 with rfl | rfl; exact H; exact H.drew
      have hheap : w1.heap = w.heap := by rcases hw1 with rfl | rfl <;> rfl
      have hr1 : w1.heap[r]? = some (.mapIter (some b) since seen c0) := by rw [hheap]; exact hI.iter
      have hb1 : w1.heap[b]? = some (.map es clock) := by rw [hheap]; exact hI.map
      refine hI1.update (by simp [ChangeMaps.setBlock]) fun S1 hlt hs => ⟨S1, ⟨hs.1, hs.2.1, hne, es, clock, since, seen.push e.born, clock, ⟨?_, ?_, hI.wf, hI.hold, hI.hcl, hI.hcl, ?_, ?_⟩⟩, fun k hk => ⟨by have := hlt k hk; simpa [ChangeMaps.setBlock] using this, .inl hk⟩, fun k _ hn => ?_⟩
      · show (ChangeMaps.setBlock w1 r _).heap[b]? = _
        simp [ChangeMaps.setBlock, Array.getElem?_setIfInBounds, hne, hb1]
      · show (ChangeMaps.setBlock w1 r _).heap[r]? = _
        have := (Array.getElem?_eq_some_iff.1 hr1).1
        simp [ChangeMaps.setBlock, Array.getElem?_setIfInBounds, this]
      · rw [left_push]
        refine filter_kv hI.todo ht ?_ he hk
        unfold leftOf
        rw [Array.toList_filter]
        exact List.Sublist.nodup (List.Sublist.map _ List.filter_sublist) hI.wf.born
      · intro p' hp'
        injection hp' with hp'
        subst hp'
        exact ⟨e, seen, hes, rfl, rfl, hk, hv⟩
      · show (ChangeMaps.setBlock w1 r _).heap[k]? = _
        have : ¬ r = k := fun e => hn (e ▸ hs.1)
        simp [ChangeMaps.setBlock, Array.getElem?_setIfInBounds, this]
    · rcases hw1 with rfl | rfl
      · exact ⟨rfl, rfl, rfl, by simp [ChangeMaps.setBlock]⟩
      · exact ⟨rfl, rfl, rfl, by simp [ChangeMaps.setBlock]⟩
theorem Sat.jrange_entry {r : Nat} {todo : List (Int × Value)} {p : Int × Value} (H : Sat w (jrange r b m todo (some p) :: F)) :
    (Instr.entry (.pointer (some ⟨r, 0, none⟩))).run P w = .ok (.tuple #[.int .i64 p.1, p.2]) w := by
  obtain ⟨hne, es, clock, since, seen, c0, hI⟩ := H.jrange_get
  obtain ⟨e, seen', he, rfl, rfl, hk, hv⟩ := hI.last p rfl
  have := run_entry_at (P := P) w r b since seen' es c0 e hI.iter hI.map he hI.wf.born
  rw [this, hk, hv]
end
end Go.Proofs.Ythbabdjicplooaa
