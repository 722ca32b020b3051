/- The disk as chunks: sectors that share their buffers with what is pending; has, goes, settle, Pending, Sectors, Stop and New. Conditions: none. -/
import Derived.Test.YthbabdjicplooaaCopyG
import Derived.Test.YthbabdjicplooaaOpen
import Derived.Test.YthbabdjicplooaaProg
import Derived.WalkMore
import Derived.Deep.CutBlock
import Derived.Deep.RegionHeld3
import Derived.BigRegion
namespace Go.Proofs.Ythbabdjicplooaa
open Go.RowKit

/-- Chunks by which a slice can be read. -/
def Reads (F : List HP) (k : Nat) (A : Option Addr) (n : Nat) (xs : List Value) : Prop := ∀ w, Sat w F → Rd w k A n xs
def bytes (xs : List Int) : List Value := xs.map (Value.int .u8)
theorem bytes_len (xs : List Int) : (bytes xs).length = xs.length := by simp [bytes]
theorem bytes_one (xs : List Int) : ∀ u ∈ bytes xs, u.oneCell' = true := by
  intro u hu
  obtain ⟨x, _, rfl⟩ := List.mem_map.1 hu
  rfl
def noughts : List Int := List.replicate 128 0
theorem noughts_len : noughts.length = 128 := by simp [noughts]

/-- A buffer: where it lies, what it holds. It is never written again. -/
abbrev Buf := Value × List Int
def pool (B : List Buf) : HP := all (B.map fun p => own 5 1 p.1 128 (bytes p.2))
def Good (B : List Buf) (p : Buf) : Prop := p = (.slice none 0 0, noughts) ∨ p ∈ B

/-- The disk as it lies in memory. -/
structure Raw where
  safe : List Buf
  last : List (Int × Value)
  pend : List (Nat × Buf)
  stops : Bool
  after : Nat
  vS : Value
  vP : Value
  mb : Nat
/-- The disk as it is meant. -/
structure Dsk where
  safe : List (List Int)
  pend : List (Nat × List Int)
  left : Option Nat
def Raw.abs (R : Raw) : Dsk := ⟨R.safe.map (·.2), R.pend.map (fun p => (p.1, p.2.2)), if R.stops then some R.after else none⟩
def lastP {α : Type} : List (Nat × α) → Nat → Option α
  | [], _ => none
  | p :: l, n => match lastP l n with
    | some x => some x
    | none => if p.1 = n then some p.2 else none
theorem lastP_snoc {α : Type} (l : List (Nat × α)) (n : Nat) (x : α) (k : Nat) : lastP (l ++ [(n, x)]) k = if n = k then some x else lastP l k := by
  induction l with
  | nil => simp [lastP]
  | cons p l ih =>
    simp only [List.cons_append, lastP, ih]
    by_cases h : n = k <;> simp [h]
theorem lastP_map {α β : Type} (f : α → β) (l : List (Nat × α)) (k : Nat) : lastP (l.map fun p => (p.1, f p.2)) k = (lastP l k).map f := by
  induction l with
  | nil => rfl
  | cons p l ih =>
    simp only [List.map_cons, lastP, ih]
    cases lastP l k with
    | some x => rfl
    | none => by_cases h : p.1 = k <;> simp [h]
theorem lastP_mem {α : Type} {l : List (Nat × α)} {k : Nat} {x : α} (h : lastP l k = some x) : (k, x) ∈ l := by
  induction l with
  | nil => cases h
  | cons p l ih =>
    simp only [lastP] at h
    cases hl : lastP l k with
    | some y => rw [hl] at h; cases h; exact List.mem_cons_of_mem _ (ih hl)
    | none =>
      rw [hl] at h
      by_cases hp : p.1 = k
      · simp only [hp, if_true, Option.some.injEq] at h
        subst h; subst hp; exact List.mem_cons_self
      · simp [hp] at h

structure Raw.Ok (R : Raw) (B : List Buf) : Prop where
  good : ∀ p ∈ R.safe, Good B p
  pgood : ∀ p ∈ R.pend, p.1 < R.safe.length ∧ p.2 ∈ B
  last : ∀ n : Int, mget R.last n = if n < 0 then none else (lastP R.pend n.toNat).map (·.1)
  after : R.after ≤ 9223372036854775807
  full : ∀ p ∈ B, p.2.length = 128
  some_ : R.safe.length ≤ 8192

def flatP (l : List (Nat × Buf)) : List Value := l.flatMap fun p => [.int .i64 p.1, p.2.1]
theorem flatP_len (l : List (Nat × Buf)) : (flatP l).length = l.length * 2 := by
  induction l with
  | nil => rfl
  | cons x l ih => simp only [flatP, List.flatMap_cons, List.length_append, List.length_cons, List.length_nil] at ih ⊢; omega
theorem flatP_get (l : List (Nat × Buf)) (k : Nat) (hk : k < l.length) : (flatP l)[k * 2]? = some (.int .i64 l[k].1) ∧ (flatP l)[k * 2 + 1]? = some l[k].2.1 := by
  induction l generalizing k with
  | nil => simp at hk
  | cons x l ih =>
    cases k with
    | zero => simp [flatP]
    | succ k =>
      have := ih k (by simpa using hk)
      simp only [flatP, List.flatMap_cons] at this ⊢
      refine ⟨?_, ?_⟩ <;> rw [List.getElem?_append_right (by simp; omega)]
      · simpa [Nat.add_mul] using this.1
      · simpa [Nat.add_mul] using this.2

def parts (d : Nat) (R : Raw) : List HP :=
  [row d 115 #[R.vS, .map (some R.mb), R.vP, .bool R.stops, .int .i64 R.after], own 30 1 R.vS R.safe.length (R.safe.map (·.1)), imap R.mb R.last, own 117 2 R.vP R.pend.length (flatP R.pend)]
def dk (d : Nat) (B : List Buf) (D : Dsk) : HP := ex fun R : Raw => all (fact (R.Ok B ∧ R.abs = D) :: parts d R)
theorem Sat.dk_open {w : World} {d : Nat} {B : List Buf} {D : Dsk} {F : List HP} (H : Sat w (dk d B D :: F)) : ∃ (safe : List Buf) (last : List (Int × Value)) (pend : List (Nat × Buf)) (stops : Bool) (after : Nat) (vS vP : Value) (mb : Nat),
    Hid ((⟨safe, last, pend, stops, after, vS, vP, mb⟩ : Raw).Ok B) ∧ Hid (D = ⟨safe.map (·.2), pend.map (fun p => (p.1, p.2.2)), if stops then some after else none⟩) ∧
    Sat w (row d 115 #[vS, .map (some mb), vP, .bool stops, .int .i64 after] :: own 30 1 vS safe.length (safe.map (·.1)) :: imap mb last :: own 117 2 vP pend.length (flatP pend) :: F) := by
  obtain ⟨⟨safe, last, pend, stops, after, vS, vP, mb⟩, H⟩ := H.open_ex
  have H := H.open_all
  have hf := Sat.get_fact H
  exact ⟨safe, last, pend, stops, after, vS, vP, mb, Lib.hid hf.1, Lib.hid hf.2.symm, H.tail⟩
theorem Sat.dk_shut {w : World} {d : Nat} {B : List Buf} {D : Dsk} {F : List HP} (R : Raw) (h1 : R.Ok B) (h2 : R.abs = D)
    (H : Sat w (row d 115 #[R.vS, .map (some R.mb), R.vP, .bool R.stops, .int .i64 R.after] :: own 30 1 R.vS R.safe.length (R.safe.map (·.1)) :: imap R.mb R.last :: own 117 2 R.vP R.pend.length (flatP R.pend) :: F)) : Sat w (dk d B D :: F) :=
  Sat.shut_ex R (Sat.shut_all (L := _ :: parts d R) (Sat.put_fact H ⟨h1, h2⟩))
/-- More buffers. -/
theorem Raw.Ok.more {R : Raw} {B B' : List Buf} (h : R.Ok B) (hB : ∀ p ∈ B, p ∈ B') (hf : ∀ p ∈ B', p.2.length = 128) : R.Ok B' :=
  ⟨fun p hp => (h.good p hp).imp id (hB p), fun p hp => ⟨(h.pgood p hp).1, hB _ (h.pgood p hp).2⟩, h.last, h.after, hf, h.some_⟩

theorem Sat.pool_new {w : World} {F : List HP} (H : Sat w F) : Sat w (pool [] :: F) := Sat.shut_all (L := []) H
theorem Sat.pool_add {w : World} {F : List HP} {B : List Buf} {v : Value} {xs : List Int} (H : Sat w (own 5 1 v 128 (bytes xs) :: pool B :: F)) : Sat w (pool ((v, xs) :: B) :: F) := by
  have h1 := H.b1.open_all
  have h2 : Sat w (all [own 5 1 v 128 (bytes xs)] :: pool B :: F) := Sat.shut_all (L := [_]) H
  exact Sat.shut_all (L := (((v, xs) :: B).map fun p => own 5 1 p.1 128 (bytes p.2))) (by
    simp only [List.map_cons, List.cons_append]
    exact h1.perm List.perm_middle)
theorem Sat.pool_at {w : World} {F : List HP} {B : List Buf} (H : Sat w (pool B :: F)) {p : Buf} (hp : p ∈ B) : Sat w (own 5 1 p.1 128 (bytes p.2) :: F) := by
  obtain ⟨B1, B2, rfl⟩ := List.append_of_mem hp
  have h1 := H.open_all
  rw [List.map_append, List.map_cons, List.append_assoc, List.cons_append] at h1
  have h2 : Sat w (own 5 1 p.1 128 (bytes p.2) :: (B1.map (fun p => own 5 1 p.1 128 (bytes p.2)) ++ (B2.map (fun p => own 5 1 p.1 128 (bytes p.2)) ++ F))) := h1.perm List.perm_middle
  generalize B1.map (fun p => own 5 1 p.1 128 (bytes p.2)) = L1 at h2
  generalize B2.map (fun p => own 5 1 p.1 128 (bytes p.2)) = L2 at h2
  have drop : ∀ (L : List HP) (A : HP) (F : List HP), Sat w (A :: (L ++ F)) → Sat w (A :: F) := by
    intro L A F h
    induction L with
    | nil => exact h
    | cons x L ih => exact ih h.b1.tail
  exact drop _ _ _ (drop _ _ _ h2)
/-- What a sector's bytes read as. -/
theorem Sat.pool_rd {w : World} {F : List HP} {B : List Buf} (H : Sat w (pool B :: F)) {v : Value} {xs : List Int} (hp : Good B (v, xs)) :
    (v = .slice none 0 0 ∧ xs = noughts) ∨ ∃ g c, v = .slice (some ⟨g, 0, none⟩) 128 c ∧ 128 ≤ c ∧ Rd w 1 (some ⟨g, 0, none⟩) 128 (bytes xs) := by
  rcases hp with h | h
  · cases h; exact .inl ⟨rfl, rfl⟩
  · right
    have h1 := H.pool_at h
    obtain ⟨g, c, rfl, hc⟩ := h1.own_addr (by omega)
    exact ⟨g, c, rfl, hc, h1.own_at.1⟩

set_option maxHeartbeats 400000 in
set_option maxRecDepth 100000 in
theorem has_any {w : World} {d : Nat} {B : List Buf} {D : Dsk} {F : List HP} (n : Int) (H : Sat w (dk d B D :: F)) :
    Calls Try.prog 66 #[.pointer (some ⟨d, 0, none⟩), .int .i64 n] w fun e w' => e = .returned (.bool (decide (0 ≤ n ∧ n < D.safe.length))) ∧ w = w' := by
  obtain ⟨safe, last, pend, stops, after, vS, vP, mb, hok, habs, H⟩ := H.dk_open
  have hl : D.safe.length = safe.length := by rw [habs.out]; simp
  rw [hl]
  clear hl
  have hc := H.cell 0
  have H2 := H.tail
  obtain ⟨A, c, rfl, -, -, -⟩ := H2.own_form
  go_enter Try.func66, Try.ntmps66
  by_cases h : 0 ≤ n
  · go_wp2_with fail
    go_ret
    exact ⟨by simp [h], rfl⟩
  · go_wp2_with fail
    go_ret
    exact ⟨by simp; omega, rfl⟩

set_option maxHeartbeats 400000 in
set_option maxRecDepth 100000 in
theorem pending_any {w : World} {d : Nat} {B : List Buf} {D : Dsk} {F : List HP} (H : Sat w (dk d B D :: F)) :
    Calls Try.prog 27 #[.pointer (some ⟨d, 0, none⟩)] w fun e w' => e = .returned (.int .i64 D.pend.length) ∧ w = w' := by
  obtain ⟨safe, last, pend, stops, after, vS, vP, mb, hok, habs, H⟩ := H.dk_open
  have hl : D.pend.length = pend.length := by rw [habs.out]; simp
  rw [hl]
  clear hl
  have hc := H.cell 2
  have H2 := H.b3
  obtain ⟨A, c, rfl, -, -, -⟩ := H2.own_form
  go_enter Try.func27, Try.ntmps27
  go_wp2_with fail
  go_ret
  exact ⟨rfl, rfl⟩

set_option maxHeartbeats 400000 in
set_option maxRecDepth 100000 in
theorem sectors_any {w : World} {d : Nat} {B : List Buf} {D : Dsk} {F : List HP} (H : Sat w (dk d B D :: F)) :
    Calls Try.prog 35 #[.pointer (some ⟨d, 0, none⟩)] w fun e w' => e = .returned (.int .i64 D.safe.length) ∧ w = w' := by
  obtain ⟨safe, last, pend, stops, after, vS, vP, mb, hok, habs, H⟩ := H.dk_open
  have hl : D.safe.length = safe.length := by rw [habs.out]; simp
  rw [hl]
  clear hl
  have hc := H.cell 0
  have H2 := H.tail
  obtain ⟨A, c, rfl, -, -, -⟩ := H2.own_form
  go_enter Try.func35, Try.ntmps35
  go_wp2_with fail
  go_ret
  exact ⟨rfl, rfl⟩

set_option maxHeartbeats 400000 in
set_option maxRecDepth 100000 in
theorem goes_no {w : World} {d : Nat} {B : List Buf} {D : Dsk} {F : List HP} (H : Sat w (dk d B D :: F)) (hl : D.left = some 0) :
    Calls Try.prog 67 #[.pointer (some ⟨d, 0, none⟩)] w fun e w' => e = .returned (.bool false) ∧ w = w' := by
  obtain ⟨safe, last, pend, stops, after, vS, vP, mb, hok, habs, H⟩ := H.dk_open
  rw [habs.out] at hl
  cases stops with
  | false => simp at hl
  | true =>
    simp at hl
    subst hl
    have hc := H.cell 3
    have hc4 := H.cell 4
    go_enter Try.func67, Try.ntmps67
    go_wp2_with fail
    go_ret
    exact ⟨rfl, rfl⟩

set_option maxHeartbeats 400000 in
set_option maxRecDepth 100000 in
theorem goes_yes {w : World} {d : Nat} {B : List Buf} {D : Dsk} {F : List HP} (H : Sat w (dk d B D :: F)) (hl : D.left ≠ some 0) :
    Calls Try.prog 67 #[.pointer (some ⟨d, 0, none⟩)] w fun e w' => e = .returned (.bool true) ∧ Sat w' (dk d B { D with left := D.left.map (· - 1) } :: F) ∧ Env w w' := by
  have H0 := Lib.hid H
  obtain ⟨safe, last, pend, stops, after, vS, vP, mb, hok, habs, H⟩ := H.dk_open
  rw [habs.out] at hl
  have hc := H.cell 3
  have hc4 := H.cell 4
  have hf4 := H.free 4
  cases stops with
  | false =>
    go_enter Try.func67, Try.ntmps67
    go_wp2_with fail
    go_ret
    refine ⟨rfl, ?_, Env.refl w⟩
    have := H0.out
    rw [habs.out] at this ⊢
    exact this
  | true =>
    simp at hl
    have h0 : ((after : Int) == 0) = false := by simp; omega
    have hk : after ≤ 9223372036854775807 := hok.out.after
    have e1 : IntKind.i64.wrap ((after : Int) - 1) = ((after - 1 : Nat) : Int) := by rw [IntWalk.i64_in _ (by omega)]; omega
    have hk1 := Lib.hid (show after - 1 ≤ 9223372036854775807 by omega)
    clear hk
    go_enter Try.func67, Try.ntmps67
    go_wp2_with fail
    go_ret
    refine ⟨rfl, ?_, (Env.refl w).set _ _⟩
    have H2 := H.set (i := 4) (.int .i64 ((after - 1 : Nat) : Int))
    exact Sat.dk_shut ⟨safe, last, pend, true, after - 1, vS, vP, mb⟩ ⟨hok.out.good, hok.out.pgood, hok.out.last, hk1.out, hok.out.full, hok.out.some_⟩ (by rw [habs.out]; rfl) (by simpa using H2)

set_option maxHeartbeats 400000 in
set_option maxRecDepth 100000 in
theorem settle_any {w : World} {d : Nat} {B : List Buf} {D : Dsk} {F : List HP} (H : Sat w (dk d B D :: F)) :
    Calls Try.prog 69 #[.pointer (some ⟨d, 0, none⟩)] w fun e w' => e = .returned (.tuple #[]) ∧ Sat w' (dk d B { D with pend := [] } :: F) ∧ Env w w' := by
  obtain ⟨safe, last, pend, stops, after, vS, vP, mb, hok, habs, H⟩ := H.dk_open
  have hc := H.cell 2
  have hf := H.free 2
  have H2 := H.set (i := 2) (.slice none 0 0)
  have hc1 := H2.cell 1
  obtain ⟨w3, hrun, H3, E3⟩ := (H2.b2).imap_clear (P := Try.prog) Try.underlying113
  go_enter Try.func69, Try.ntmps69
  go_wp2_with fail
  go_end0
  refine ⟨rfl, ?_, ((Env.refl w).set _ _).trans E3⟩
  have H4 := (H3.p2.b3.tail.own_nil 117 2).p3
  exact Sat.dk_shut ⟨safe, [], [], stops, after, vS, .slice none 0 0, mb⟩ ⟨hok.out.good, by simp, fun n => by simp [mget, lastP], hok.out.after, hok.out.full, hok.out.some_⟩ (by rw [habs.out]; rfl) (by simpa [flatP] using H4)

set_option maxHeartbeats 400000 in
set_option maxRecDepth 100000 in
theorem stop_any {w : World} {d : Nat} {B : List Buf} {D : Dsk} {F : List HP} (x : Int) (H : Sat w (dk d B D :: F)) (hx : x ≤ 9223372036854775807) :
    Calls Try.prog 33 #[.pointer (some ⟨d, 0, none⟩), .int .i64 x] w fun e w' => e = .returned (.tuple #[]) ∧ Sat w' (dk d B { D with left := some x.toNat } :: F) ∧ Env w w' := by
  obtain ⟨safe, last, pend, stops, after, vS, vP, mb, hok, habs, H⟩ := H.dk_open
  have hx' := Lib.hid (show x.toNat ≤ 9223372036854775807 by omega)
  clear hx
  obtain ⟨X, e1, r1⟩ : ∃ X : Int, (if x < 0 then (0 : Int) else x) = X ∧ X = (x.toNat : Int) := ⟨_, rfl, by split <;> omega⟩
  have hc := H.cell 3
  have hf := H.free 3
  have hc4 := H.cell 4
  have hf4 := H.free 4
  have R1 := Lib.hid r1
  clear r1
  go_enter Try.func33, Try.ntmps33
  go_wp2_with fail
  go_end0
  refine ⟨rfl, ?_, ((Env.refl w).set _ _).set _ _⟩
  have H2 := (H.set (i := 3) (.bool true)).set (i := 4) (.int .i64 X)
  exact Sat.dk_shut ⟨safe, last, pend, true, x.toNat, vS, vP, mb⟩ ⟨hok.out.good, hok.out.pgood, hok.out.last, hx'.out, hok.out.full, hok.out.some_⟩ (by rw [habs.out]; rfl) (by rw [R1.out] at H2 ⊢; exact H2)

theorem Try.info_bytes : (Try.prog.info? 30).map (fun i => (i.zero, i.size, i.bytes)) = some (some (.slice none 0 0), 1, 24) := by kernel_rfl
theorem Try.info_byte : (Try.prog.info? 5).map (fun i => (i.zero, i.size, i.bytes)) = some (some (.int .u8 0), 1, 1) := by kernel_rfl
def newD (n : Nat) : Dsk := ⟨List.replicate n noughts, [], none⟩

set_option maxHeartbeats 1000000 in
set_option maxRecDepth 100000 in
theorem new_any {w : World} {F : List HP} (n : Nat) (H : Sat w F) (h1 : 1 ≤ n) (h2 : n ≤ 8192) :
    Calls Try.prog 34 #[.int .i64 n] w fun e w' => ∃ d, e = .returned (.tuple #[.pointer (some ⟨d, 0, none⟩), .int .i64 0]) ∧ Sat w' (dk d [] (newD n) :: F) ∧ Env w w' := by
  have hmk := fun w => run_makeMap (P := Try.prog) 113 w
  go_enter Try.func34, Try.ntmps34
  go_wp2_with (at_make; go_must (refine wpList_make_sat rfl _ _ 39 rfl H 30 (.slice none 0 0) 1 24 Try.underlying39 Try.info_bytes _ _ n rfl rfl (by omega) (by simp only [maxLen]; omega) ?_); intro w2 H2 E2)
  go_ret2
  have H3 := H2.imap_new.alloc (.cells #[.slice (some ⟨w.heap.size, 0, none⟩) n n, .map (some w2.heap.size), .slice none 0 0, .bool false, .int .i64 0] 115)
  refine ⟨(w2.alloc (.map #[] 0)).heap.size, by simp, ?_, (E2.alloc _).alloc _⟩
  have H4 := (H3.own_nil 117 2).p3.b2.b1
  rw [show (madeCells (Value.slice none 0 0).cells (n * 1)).toList = List.replicate n (.slice none 0 0) by rw [Nat.mul_one]; exact toList_madeCells_one _ _] at H4
  refine Sat.dk_shut ⟨List.replicate n (.slice none 0 0, noughts), [], [], false, 0, .slice (some ⟨w.heap.size, 0, none⟩) n n, .slice none 0 0, w2.heap.size⟩ ⟨?_, by simp, fun k => by simp [mget, lastP], by simp, by simp, by simpa using h2⟩ (by simp [Raw.abs, newD]) ?_
  · intro p hp
    rw [List.mem_replicate] at hp
    exact .inl hp.2
  · simpa [flatP] using H4
end Go.Proofs.Ythbabdjicplooaa
