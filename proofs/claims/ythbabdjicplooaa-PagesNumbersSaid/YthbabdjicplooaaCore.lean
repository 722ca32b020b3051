/- A small separation logic over the model's worlds: what a list of chunks says of disjoint sets of blocks, and how it is kept by allocation, stores, draws and appends. Conditions: none. -/
import Derived.WalkKit
import Derived.WalkSpells
import Derived.WalkLawsBesides
import Derived.Maps.AppendAt
import Derived.Deep.Draws
import Derived.Lib.Hide
import Derived.Deep.DeepMust
namespace Go.Proofs.Ythbabdjicplooaa
open Go.RowKit

abbrev Hp := Nat → Option Obj
abbrev Bs := Nat → Prop
def hp (w : World) : Hp := fun k => w.heap[k]?
def below (w : World) : Bs := fun k => k < w.heap.size

structure HP where
  p : Hp → Bs → Prop
  loc : ∀ {h h' : Hp} {S : Bs}, (∀ k, S k → h' k = h k) → p h S → p h' S

def SatS (h : Hp) : List HP → Bs → Prop
  | [], _ => True
  | A :: L, S => ∃ S1 S2 : Bs, (∀ k, S1 k → S k) ∧ (∀ k, S2 k → S k) ∧ (∀ k, S1 k → ¬ S2 k) ∧ A.p h S1 ∧ SatS h L S2

def Sat (w : World) (L : List HP) : Prop := SatS (hp w) L (below w)

theorem SatS.mono {h : Hp} {L : List HP} {S S' : Bs} (hS : ∀ k, S k → S' k) (H : SatS h L S) : SatS h L S' := by
  cases L with
  | nil => trivial
  | cons A L =>
    obtain ⟨S1, S2, h1, h2, h3, h4, h5⟩ := H
    exact ⟨S1, S2, fun k hk => hS k (h1 k hk), fun k hk => hS k (h2 k hk), h3, h4, h5⟩

theorem SatS.loc {h h' : Hp} : ∀ {L : List HP} {S : Bs}, (∀ k, S k → h' k = h k) → SatS h L S → SatS h' L S
  | [], _, _, _ => trivial
  | A :: _, _, hS, ⟨S1, S2, h1, h2, h3, h4, h5⟩ =>
    ⟨S1, S2, h1, h2, h3, A.loc (fun k hk => hS k (h1 k hk)) h4, SatS.loc (fun k hk => hS k (h2 k hk)) h5⟩

theorem SatS.swap {h : Hp} {A B : HP} {L : List HP} {S : Bs} (H : SatS h (A :: B :: L) S) : SatS h (B :: A :: L) S := by
  obtain ⟨S1, S2, h1, h2, h3, h4, S3, S4, g1, g2, g3, g4, g5⟩ := H
  refine ⟨S3, fun k => S1 k ∨ S4 k, fun k hk => h2 k (g1 k hk), ?_, ?_, g4, S1, S4, fun k hk => .inl hk, fun k hk => .inr hk, fun k hk hk' => h3 k hk (g2 k hk'), h4, g5⟩
  · rintro k (hk | hk)
    · exact h1 k hk
    · exact h2 k (g2 k hk)
  · rintro k hk (hk' | hk')
    · exact h3 k hk' (g1 k hk)
    · exact g3 k hk hk'

theorem SatS.tail {h : Hp} {A : HP} {L : List HP} {S : Bs} (H : SatS h (A :: L) S) : SatS h L S := by
  obtain ⟨S1, S2, _, h2, _, _, h5⟩ := H
  exact h5.mono h2

theorem SatS.under {h : Hp} {A : HP} {L L' : List HP} {S : Bs} (hL : ∀ S, SatS h L S → SatS h L' S) (H : SatS h (A :: L) S) : SatS h (A :: L') S := by
  obtain ⟨S1, S2, h1, h2, h3, h4, h5⟩ := H
  exact ⟨S1, S2, h1, h2, h3, h4, hL _ h5⟩

theorem SatS.perm {h : Hp} {L L' : List HP} (hp : L.Perm L') : ∀ S, SatS h L S → SatS h L' S := by
  induction hp with
  | nil => exact fun _ H => H
  | cons A _ ih => exact fun S H => SatS.under ih H
  | swap A B L => exact fun S H => H.swap
  | trans _ _ ih1 ih2 => exact fun S H => ih2 S (ih1 S H)

theorem Sat.perm {w : World} {L L' : List HP} (H : Sat w L) (hp : L.Perm L') : Sat w L' := SatS.perm hp _ H
theorem Sat.swap {w : World} {A B : HP} {L : List HP} (H : Sat w (A :: B :: L)) : Sat w (B :: A :: L) := SatS.swap H
theorem Sat.tail {w : World} {A : HP} {L : List HP} (H : Sat w (A :: L)) : Sat w L := SatS.tail H

/-- A chunk brought to the front. -/
theorem Sat.b1 {w : World} {A B : HP} {L : List HP} (H : Sat w (A :: B :: L)) : Sat w (B :: A :: L) := SatS.swap H
theorem Sat.b2 {w : World} {A B C : HP} {L : List HP} (H : Sat w (A :: B :: C :: L)) : Sat w (C :: A :: B :: L) := (SatS.under (fun _ => SatS.swap) H).swap
theorem Sat.b3 {w : World} {A B C D : HP} {L : List HP} (H : Sat w (A :: B :: C :: D :: L)) : Sat w (D :: A :: B :: C :: L) :=
  (SatS.under (fun _ H => (SatS.under (fun _ => SatS.swap) H).swap) H).swap
theorem Sat.b4 {w : World} {A B C D E : HP} {L : List HP} (H : Sat w (A :: B :: C :: D :: E :: L)) : Sat w (E :: A :: B :: C :: D :: L) :=
  (SatS.under (fun _ H => (SatS.under (fun _ H => (SatS.under (fun _ => SatS.swap) H).swap) H).swap) H).swap
/-- The chunk in front put back. -/
theorem Sat.p2 {w : World} {A B C : HP} {L : List HP} (H : Sat w (C :: A :: B :: L)) : Sat w (A :: B :: C :: L) := SatS.under (fun _ => SatS.swap) (SatS.swap H)
theorem Sat.p3 {w : World} {A B C D : HP} {L : List HP} (H : Sat w (D :: A :: B :: C :: L)) : Sat w (A :: B :: C :: D :: L) :=
  SatS.under (fun _ H => SatS.under (fun _ => SatS.swap) (SatS.swap H)) (SatS.swap H)
theorem Sat.p4 {w : World} {A B C D E : HP} {L : List HP} (H : Sat w (E :: A :: B :: C :: D :: L)) : Sat w (A :: B :: C :: D :: E :: L) :=
  SatS.under (fun _ H => SatS.under (fun _ H => SatS.under (fun _ => SatS.swap) (SatS.swap H)) (SatS.swap H)) (SatS.swap H)

/-- One chunk weakened, all the rest as it was. -/
theorem Sat.imp {w : World} {A B : HP} {L : List HP} (H : Sat w (A :: L)) (hAB : ∀ S, A.p (hp w) S → B.p (hp w) S) : Sat w (B :: L) := by
  obtain ⟨S1, S2, h1, h2, h3, h4, h5⟩ := H
  exact ⟨S1, S2, h1, h2, h3, hAB _ h4, h5⟩

/-- Several chunks as one. -/
def all (L : List HP) : HP := ⟨fun h S => SatS h L S, fun hS H => SatS.loc hS H⟩
theorem SatS.append {h : Hp} : ∀ {L1 L2 : List HP} {S S1 S2 : Bs}, (∀ k, S1 k → S k) → (∀ k, S2 k → S k) → (∀ k, S1 k → ¬ S2 k) → SatS h L1 S1 → SatS h L2 S2 → SatS h (L1 ++ L2) S
  | [], _, _, _, _, _, h2, _, _, H2 => H2.mono h2
  | _ :: L1, _, _, _, S2, h1, h2, h3, ⟨T1, T2, g1, g2, g3, g4, g5⟩, H2 =>
    ⟨T1, fun k => T2 k ∨ S2 k, fun k hk => h1 k (g1 k hk), fun k hk => hk.elim (fun h => h1 k (g2 k h)) (h2 k), fun k hk hk' => hk'.elim (g3 k hk) (h3 k (g1 k hk)), g4,
      SatS.append (L1 := L1) (fun _ hk => .inl hk) (fun _ hk => .inr hk) (fun k hk => h3 k (g2 k hk)) g5 H2⟩
theorem SatS.unappend {h : Hp} : ∀ {L1 L2 : List HP} {S : Bs}, SatS h (L1 ++ L2) S → ∃ S1 S2 : Bs, (∀ k, S1 k → S k) ∧ (∀ k, S2 k → S k) ∧ (∀ k, S1 k → ¬ S2 k) ∧ SatS h L1 S1 ∧ SatS h L2 S2
  | [], _, S, H => ⟨fun _ => False, S, fun _ h => h.elim, fun _ h => h, fun _ h => h.elim, trivial, H⟩
  | A :: L1, L2, S, ⟨T1, T2, g1, g2, g3, g4, g5⟩ => by
    obtain ⟨S1, S2, h1, h2, h3, h4, h5⟩ := SatS.unappend (L1 := L1) g5
    refine ⟨fun k => T1 k ∨ S1 k, S2, fun k hk => hk.elim (g1 k) (fun h => g2 k (h1 k h)), fun k hk => g2 k (h2 k hk), fun k hk hk' => hk.elim (fun h => g3 k h (h2 k hk')) (fun h => h3 k h hk'), ⟨T1, S1, fun k h => .inl h, fun k h => .inr h, fun k hk hk' => g3 k hk (h1 k hk'), g4, h4⟩, h5⟩
theorem Sat.open_all {w : World} {L F : List HP} (H : Sat w (all L :: F)) : Sat w (L ++ F) := by
  obtain ⟨S1, S2, h1, h2, h3, h4, h5⟩ := H
  exact SatS.append h1 h2 h3 h4 h5
theorem Sat.shut_all {w : World} {L F : List HP} (H : Sat w (L ++ F)) : Sat w (all L :: F) := by
  obtain ⟨S1, S2, h1, h2, h3, h4, h5⟩ := SatS.unappend H
  exact ⟨S1, S2, h1, h2, h3, h4, h5⟩

def ex {α : Type} (f : α → HP) : HP := ⟨fun h S => ∃ a, (f a).p h S, fun hS ⟨a, H⟩ => ⟨a, (f a).loc hS H⟩⟩
theorem Sat.open_ex {α : Type} {f : α → HP} {w : World} {F : List HP} (H : Sat w (ex f :: F)) : ∃ a, Sat w (f a :: F) := by
  obtain ⟨S1, S2, h1, h2, h3, ⟨a, h4⟩, h5⟩ := H
  exact ⟨a, S1, S2, h1, h2, h3, h4, h5⟩
theorem Sat.shut_ex {α : Type} {f : α → HP} {w : World} {F : List HP} (a : α) (H : Sat w (f a :: F)) : Sat w (ex f :: F) :=
  H.imp fun _ h => ⟨a, h⟩

/-- A plain fact. -/
def fact (c : Prop) : HP := ⟨fun _ _ => c, fun _ h => h⟩
theorem Sat.get_fact {c : Prop} {w : World} {F : List HP} (H : Sat w (fact c :: F)) : c := by
  obtain ⟨_, _, _, _, _, h, _⟩ := H
  exact h
theorem Sat.put_fact {c : Prop} {w : World} {F : List HP} (H : Sat w F) (hc : c) : Sat w (fact c :: F) :=
  ⟨fun _ => False, below w, fun _ h => h.elim, fun _ h => h, fun _ h => h.elim, hc, H⟩

/-- One block, known whole. -/
def blk (b : Nat) (o : Obj) : HP := ⟨fun h S => S b ∧ h b = some o, fun hS ⟨h1, h2⟩ => ⟨h1, (hS _ h1).trans h2⟩⟩
/-- One row of cells, none of them frozen. -/
abbrev row (b : Nat) (t : TypeId) (cs : Array Value) : HP := blk b (.cells cs t (0, 0))

theorem Sat.get {w : World} {b : Nat} {o : Obj} {F : List HP} (H : Sat w (blk b o :: F)) : w.heap[b]? = some o := by
  obtain ⟨_, _, _, _, _, h, _⟩ := H
  exact h.2
theorem Sat.lt {w : World} {b : Nat} {o : Obj} {F : List HP} (H : Sat w (blk b o :: F)) : b < w.heap.size := (Array.getElem?_eq_some_iff.1 H.get).1
theorem Sat.cell {w : World} {b : Nat} {t : TypeId} {cs : Array Value} {F : List HP} (H : Sat w (row b t cs :: F)) (i : Nat) : w.cell? ⟨b, i, none⟩ = cs[i]? := cell_of_row w b i cs t (0, 0) H.get
theorem Sat.free {w : World} {b : Nat} {t : TypeId} {cs : Array Value} {F : List HP} (H : Sat w (row b t cs :: F)) (i : Nat) : w.frozen? ⟨b, i, none⟩ = false := frozen_of_row w b i cs t H.get

/-- The streams are as they were, no block has gone. -/
structure Env (w w' : World) : Prop where
  os : w'.os = w.os
  tape : w'.tape = w.tape
  output : w'.output = w.output
  size : w.heap.size ≤ w'.heap.size
theorem Env.refl (w : World) : Env w w := ⟨rfl, rfl, rfl, Nat.le_refl _⟩
theorem Env.trans {a b c : World} (h : Env a b) (k : Env b c) : Env a c := ⟨k.os.trans h.os, k.tape.trans h.tape, k.output.trans h.output, Nat.le_trans h.size k.size⟩
theorem Env.alloc {a w : World} (h : Env a w) (o : Obj) : Env a (w.alloc o) := h.trans ⟨rfl, rfl, rfl, by simp⟩
theorem Env.set {a w : World} (h : Env a w) (p : Addr) (v : Value) : Env a (w.setCell p v) := h.trans ⟨rfl, rfl, rfl, by simp⟩
theorem Env.drewN {a w : World} (h : Env a w) (n : Nat) : Env a (w.drewN n) := h.trans ⟨rfl, rfl, rfl, Nat.le_refl _⟩
theorem Env.drew {a w : World} (h : Env a w) : Env a w.drew := h.trans ⟨rfl, rfl, rfl, Nat.le_refl _⟩
theorem Env.grown {a w w' : World} {r : Option Nat} (h : Env a w) (g : w.grownBy w' r) : Env a w' := h.trans ⟨g.os, g.tape, g.output, g.size⟩

/-- THE FRAME RULE: a chunk is changed within its own blocks and new ones; all other chunks stay. -/
theorem Sat.update {w w' : World} {A A' : HP} {F : List HP} (H : Sat w (A :: F)) (hsz : w.heap.size ≤ w'.heap.size)
    (hA : ∀ S1 : Bs, (∀ k, S1 k → k < w.heap.size) → A.p (hp w) S1 →
      ∃ S1' : Bs, A'.p (hp w') S1' ∧ (∀ k, S1' k → k < w'.heap.size ∧ (S1 k ∨ w.heap.size ≤ k)) ∧ ∀ k, k < w.heap.size → ¬ S1 k → w'.heap[k]? = w.heap[k]?) : Sat w' (A' :: F) := by
  obtain ⟨S1, S2, h1, h2, h3, h4, h5⟩ := H
  obtain ⟨S1', g1, g2, g3⟩ := hA S1 h1 h4
  refine ⟨S1', S2, fun k hk => (g2 k hk).1, fun k hk => Nat.lt_of_lt_of_le (h2 k hk) hsz, fun k hk hk' => ?_, g1, h5.loc fun k hk => g3 k (h2 k hk) (fun hk' => h3 k hk' hk)⟩
  rcases (g2 k hk).2 with h | h
  · exact h3 k h hk'
  · have := h2 k hk'; exact absurd this (Nat.not_lt.2 h)

/-- New memory beside what is there. -/
theorem Sat.fresh {w w' : World} {A : HP} {F : List HP} (H : Sat w F) (hsz : w.heap.size ≤ w'.heap.size) (hold : ∀ k, k < w.heap.size → w'.heap[k]? = w.heap[k]?)
    (hA : A.p (hp w') fun k => w.heap.size ≤ k ∧ k < w'.heap.size) : Sat w' (A :: F) :=
  ⟨fun k => w.heap.size ≤ k ∧ k < w'.heap.size, below w, fun _ hk => hk.2, fun _ hk => Nat.lt_of_lt_of_le hk hsz, fun _ hk hk' => absurd hk' (Nat.not_lt.2 hk.1), hA, H.loc fun k hk => hold k hk⟩

theorem Sat.same {w w' : World} {F : List HP} (H : Sat w F) (hsz : w.heap.size ≤ w'.heap.size) (hold : ∀ k, k < w.heap.size → w'.heap[k]? = w.heap[k]?) : Sat w' F :=
  SatS.mono (fun _ hk => Nat.lt_of_lt_of_le hk hsz) (SatS.loc (fun k hk => hold k hk) H)

theorem Sat.alloc {w : World} {F : List HP} (H : Sat w F) (o : Obj) : Sat (w.alloc o) (blk w.heap.size o :: F) :=
  H.fresh (by simp) (fun _ hk => Below.heap_alloc w o _ hk) ⟨⟨Nat.le_refl _, by simp⟩, heap_alloc_new w o⟩
theorem Sat.alloc' {w : World} {F : List HP} (H : Sat w F) (o : Obj) : Sat (w.alloc o) F := (H.alloc o).tail
theorem Sat.drew {w : World} {F : List HP} (H : Sat w F) : Sat w.drew F := H
theorem Sat.drewN {w : World} {F : List HP} (H : Sat w F) (n : Nat) : Sat (w.drewN n) F := H.same (Nat.le_refl _) (fun _ _ => rfl)
theorem Sat.set {w : World} {b i : Nat} {t : TypeId} {cs : Array Value} {F : List HP} (H : Sat w (row b t cs :: F)) (v : Value) :
    Sat (w.setCell ⟨b, i, none⟩ v) (row b t (cs.setIfInBounds i v) :: F) := by
  have hb := H.get
  refine H.update (by simp) fun S1 _ h => ⟨S1, ⟨h.1, ?_⟩, fun k hk => ⟨?_, .inl hk⟩, fun _ _ hne => heap_setCell_other w _ _ v (fun e => hne (by rw [e]; exact h.1))⟩
  · show (w.setCell ⟨b, i, none⟩ v).heap[b]? = _
    simp [World.setCell, Array.getElem?_modify, hb]
  · have := ‹∀ k, S1 k → k < w.heap.size› k hk; simpa using this

/-- Memory as it was in W. -/
def old (W : World) : HP := ⟨fun h S => ∀ k, k < W.heap.size → S k ∧ h k = W.heap[k]?, fun hS H k hk => ⟨(H k hk).1, (hS k (H k hk).1).trans (H k hk).2⟩⟩
theorem Sat.start (W : World) : Sat W [old W] := ⟨below W, fun _ => False, fun _ h => h, fun _ h => h.elim, fun _ _ h => h.elim, fun _ hk => ⟨hk, rfl⟩, trivial⟩
theorem Sat.old_at {w W : World} {F : List HP} (H : Sat w (old W :: F)) (k : Nat) (hk : k < W.heap.size) : w.heap[k]? = W.heap[k]? := by
  obtain ⟨_, _, _, _, _, h, _⟩ := H
  exact (h k hk).2
theorem Sat.below {w W : World} {F : List HP} (H : Sat w (old W :: F)) (he : Env W w) : Below W.heap.size W w := ⟨he.os, he.tape, he.output, he.size, fun k hk => H.old_at k hk⟩

/-- A slice value that owns its row: n elements of 'size' cells. -/
def own (e : TypeId) (size : Nat) (v : Value) (n : Nat) (xs : List Value) : HP :=
  ⟨fun h S => xs.length = n * size ∧ ((v = .slice none 0 0 ∧ n = 0) ∨
    ∃ g cap cur, v = .slice (some ⟨g, 0, none⟩) n cap ∧ S g ∧ h g = some (.cells cur e (0, 0)) ∧ n ≤ cap ∧ cap ≤ maxLen ∧ cur.size = cap * size ∧ cur.toList.take (n * size) = xs),
   fun hS ⟨h0, h1⟩ => ⟨h0, h1.imp id fun ⟨g, cap, cur, a, b, c, d⟩ => ⟨g, cap, cur, a, b, (hS _ b).trans c, d⟩⟩⟩

theorem Sat.owns {w : World} {e : TypeId} {size : Nat} {v : Value} {n : Nat} {xs : List Value} {F : List HP} (H : Sat w (own e size v n xs :: F)) : w.ownsRow 0 e size v n xs := by
  obtain ⟨_, _, _, _, _, ⟨h0, h⟩, _⟩ := H
  exact ⟨h0, h.imp id fun ⟨g, cap, cur, a, _, c, d⟩ => ⟨g, cap, cur, a, Nat.zero_le _, c, d⟩⟩
theorem Sat.own_nil {w : World} {F : List HP} (H : Sat w F) (e : TypeId) (size : Nat) : Sat w (own e size (.slice none 0 0) 0 [] :: F) :=
  H.fresh (Nat.le_refl _) (fun _ _ => rfl) ⟨by simp, .inl ⟨rfl, rfl⟩⟩
/-- What is owned behind an operation that wrote that row alone, or made a new one. -/
theorem Sat.regrow {w w' : World} {e : TypeId} {size : Nat} {v v' : Value} {n n' : Nat} {xs xs' : List Value} {F : List HP} (H : Sat w (own e size v n xs :: F))
    (hown : w'.ownsRow 0 e size v' n' xs') (hg : w.grownBy w' v.ownBlock) (hat : v'.ownBlock = v.ownBlock ∨ v'.ownBlock = some w.heap.size) : Sat w' (own e size v' n' xs' :: F) := by
  refine H.update hg.size fun S1 hlt h => ?_
  have hkeep : ∀ k, k < w.heap.size → ¬ S1 k → w'.heap[k]? = w.heap[k]? := by
    intro k hk hne
    refine hg.block k hk fun e => ?_
    rcases h.2 with ⟨rfl, _⟩ | ⟨g, cap, cur, rfl, hS, _⟩
    · simp [Value.ownBlock] at e
    · simp [Value.ownBlock] at e; subst e; exact hne hS
  rcases hown with ⟨h0, ⟨rfl, rfl⟩ | ⟨g, cap, cur, rfl, _, hgg, r⟩⟩
  · exact ⟨fun _ => False, ⟨h0, .inl ⟨rfl, rfl⟩⟩, fun _ h => h.elim, hkeep⟩
  · refine ⟨fun k => k = g, ⟨h0, .inr ⟨g, cap, cur, rfl, rfl, hgg, r⟩⟩, ?_, hkeep⟩
    rintro k rfl
    refine ⟨(Array.getElem?_eq_some_iff.1 hgg).1, ?_⟩
    rcases hat with hat | hat
    · left
      rcases h.2 with ⟨rfl, _⟩ | ⟨g', cap', cur', rfl, hS, _⟩
      · simp [Value.ownBlock] at hat
      · simp [Value.ownBlock] at hat; subst hat; exact hS
    · right
      simp [Value.ownBlock] at hat; omega

/-- append onto an owned slice. -/
theorem Sat.append {P : Program} {w : World} {e : TypeId} {size : Nat} {v : Value} {n : Nat} {xs : List Value} {F : List HP} (H : Sat w (own e size v n xs :: F))
    (t ty : TypeId) (z : Value) (bytes : Nat) (ht : P.underlying t = some (.slice e)) (hi : (P.info? e).map (fun i => (i.zero, i.size, i.bytes)) = some (some z, size, bytes))
    (hzs : z.cells.size = size) (hsz : 0 < size) (A : Option Addr) (m c : Nat) (news : List Value) (hA : A = none → m = 0) (hl : news.length = m * size)
    (hnews : ∀ a, A = some a → ∀ j u, news[j]? = some u → w.cell? (a.add j) = some u) (h1 : ∀ u ∈ news, u.oneCell' = true)
    (h63 : n + m ≤ maxLen) (hbytes : (n + m) * bytes ≤ 140737488355328) :
    ∃ v' w', (Builtin.append_ #[t, t] ty #[v, .slice A m c]).run P w = .ok v' w' ∧ Sat w' (own e size v' (n + m) (xs ++ news) :: F) ∧ Env w w' := by
  obtain ⟨i, hi, hz, hs, hb⟩ := info_parts hi
  cases A with
  | none =>
    have hm := hA rfl
    subst hm
    have hn : news = [] := List.eq_nil_of_length_eq_zero (by simpa using hl)
    subst hn
    refine ⟨v, w, ?_, by simpa using H, Env.refl w⟩
    rcases H.owns.2 with ⟨rfl, rfl⟩ | ⟨g, cap, cur, rfl, _, _, hnc, _⟩
    · simp [Builtin.append_, run_underlying ht, sizeOf, typeInfo, hi, Builtin.lenOf, Builtin.firstCells]
    · simp [Builtin.append_, run_underlying ht, sizeOf, typeInfo, hi, Builtin.lenOf, Builtin.firstCells, hnc, storeCells]
  | some a =>
    obtain ⟨v', w', hrun, h2, h3, _, h5⟩ := run_append_own_at (P := P) w 0 t ty e i z size bytes ht hi hz hs hb hzs hsz v n xs H.owns a m c news hl (hnews a rfl) h1 h63 hbytes (Nat.zero_le _)
    exact ⟨v', w', hrun, H.regrow h2 h3 h5, (Env.refl w).grown h3⟩

/-- append onto an owned slice, as a step of the walk. -/
theorem wpList_append_sat {P : Program} {w : World} {ops : Array Oper} {rest : List Oper} {o : Oper} {a : Act} {Q : Exit → Act → World → Prop} {F : List HP}
    (hgd : o.guard = none) (s x : Operand) (t : TypeId) (ho : o.op = .call { callee := .builtin .append, args := #[s, x], argTypes := #[t, t] })
    {e : TypeId} {size : Nat} {v : Value} {n : Nat} {xs : List Value} (H : Sat w (own e size v n xs :: F)) (hs : a.eval s = v)
    (z : Value) (bytes : Nat) (ht : P.underlying t = some (.slice e)) (hi : (P.info? e).map (fun i => (i.zero, i.size, i.bytes)) = some (some z, size, bytes))
    (hzs : z.cells.size = size) (hsz : 0 < size) (A : Option Addr) (m c : Nat) (news : List Value) (hx : a.eval x = .slice A m c) (hA : A = none → m = 0) (hl : news.length = m * size)
    (hnews : ∀ a, A = some a → ∀ j u, news[j]? = some u → w.cell? (a.add j) = some u) (h1 : ∀ u ∈ news, u.oneCell' = true)
    (h63 : n + m ≤ maxLen) (hbytes : (n + m) * bytes ≤ 140737488355328)
    (h : ∀ v' w', Sat w' (own e size v' (n + m) (xs ++ news) :: F) → Env w w' → wpList P ops Q rest (a.put o.dst v') w') : wpList P ops Q (o :: rest) a w :=
  wpList_plain hgd fun K hK => by
    obtain ⟨v', w', hrun, h2, h3⟩ := H.append t o.type z bytes ht hi hzs hsz A m c news hA hl hnews h1 h63 hbytes
    unfold Oper.wp execOp
    simp only [ho, resolve, invoke, builtin, Sem.run_bind, Sem.run_pure, Result.andThen_ok, List.map_toArray, List.map_cons, List.map_nil, hs, hx, hrun]
    exact hK _ _ (h v' w' h2 h3)

/-- The row of a literal slice, new made. -/
theorem Sat.own_lit {w : World} {F : List HP} (H : Sat w F) (e : TypeId) (size : Nat) (cs : Array Value) (n : Nat) (hm : n ≤ maxLen) (hs : cs.size = n * size) :
    Sat (w.alloc (.cells cs e)) (own e size (.slice (some ⟨w.heap.size, 0, none⟩) n n) n cs.toList :: F) :=
  (H.alloc (.cells cs e)).imp fun S h => ⟨by simpa using hs, .inr ⟨w.heap.size, n, cs, rfl, h.1, h.2, Nat.le_refl _, hm, hs, by rw [← hs, Array.size_eq_length_toList, List.take_length]⟩⟩

theorem Sat.row_own {w : World} {F : List HP} {g : Nat} {e : TypeId} {cs : Array Value} (H : Sat w (row g e cs :: F)) (size n : Nat) (hm : n ≤ maxLen) (hs : cs.size = n * size) :
    Sat w (own e size (.slice (some ⟨g, 0, none⟩) n n) n cs.toList :: F) :=
  H.imp fun S h => ⟨by simpa using hs, .inr ⟨g, n, cs, rfl, h.1, h.2, Nat.le_refl _, hm, hs, by rw [← hs, Array.size_eq_length_toList, List.take_length]⟩⟩

/-- A slice that can be read: n elements of k cells. -/
def Rd (w : World) (k : Nat) (A : Option Addr) (n : Nat) (xs : List Value) : Prop :=
  xs.length = n * k ∧ ∀ j u, xs[j]? = some u → ∃ b off, A = some ⟨b, off, none⟩ ∧ w.cell? ⟨b, off + j, none⟩ = some u
theorem Rd.nil (w : World) (k : Nat) (A : Option Addr) : Rd w k A 0 [] := ⟨by simp, fun j u h => by simp at h⟩
theorem Rd.get {w : World} {k : Nat} {A : Option Addr} {n : Nat} {xs : List Value} (h : Rd w k A n xs) (hn : xs ≠ []) :
    ∃ b off, A = some ⟨b, off, none⟩ ∧ ∀ j u, xs[j]? = some u → w.cell? ⟨b, off + j, none⟩ = some u := by
  obtain ⟨x, l, rfl⟩ := List.exists_cons_of_ne_nil hn
  obtain ⟨b, off, hA, _⟩ := h.2 0 x rfl
  refine ⟨b, off, hA, fun j u hu => ?_⟩
  obtain ⟨b', off', hA', hc⟩ := h.2 j u hu
  rw [hA] at hA'
  injection hA' with hA'
  injection hA' with h1 h2
  subst h1; subst h2; exact hc
theorem Rd.take {w : World} {k : Nat} {A : Option Addr} {n : Nat} {xs : List Value} (h : Rd w k A n xs) {m : Nat} (hm : m ≤ n) : Rd w k A m (xs.take (m * k)) := by
  have := Nat.mul_le_mul_right k hm
  refine ⟨by rw [List.length_take, h.1]; omega, fun j u hu => h.2 j u ?_⟩
  rw [List.getElem?_take] at hu
  split at hu
  · exact hu
  · cases hu
theorem Rd.drop {w : World} {k : Nat} {A : Option Addr} {n : Nat} {xs : List Value} (h : Rd w k A n xs) {m c : Nat} (hm : m ≤ n) (hc : n ≤ c) :
    Rd w k (if c = m then A else A.map (·.add (m * k))) (n - m) (xs.drop (m * k)) := by
  refine ⟨by rw [List.length_drop, h.1, Nat.sub_mul], fun j u hu => ?_⟩
  rw [List.getElem?_drop] at hu
  obtain ⟨b, off, rfl, hcell⟩ := h.2 _ u hu
  have hlt := (List.getElem?_eq_some_iff.1 hu).1
  rw [h.1] at hlt
  have hne : c ≠ m := by
    rintro rfl
    have : n = c := by omega
    subst this; omega
  rw [if_neg hne]
  exact ⟨b, off + m * k, by simp [Addr.add_lit], by rw [← hcell, Nat.add_assoc]⟩
theorem Rd.keep {w w' : World} {k : Nat} {A : Option Addr} {n : Nat} {xs : List Value} (h : Rd w k A n xs) (hk : ∀ a u, w.cell? a = some u → w'.cell? a = some u) : Rd w' k A n xs :=
  ⟨h.1, fun j u hu => let ⟨b, off, hA, hc⟩ := h.2 j u hu; ⟨b, off, hA, hk _ _ hc⟩⟩
theorem cell_alloc {w : World} (o : Obj) (a : Addr) (u : Value) (h : w.cell? a = some u) : (w.alloc o).cell? a = some u := by
  rw [World.cell?_alloc_lt _ _ _ (block_lt_of_cell h)]; exact h
theorem Rd.alloc {w : World} {k : Nat} {A : Option Addr} {n : Nat} {xs : List Value} (h : Rd w k A n xs) (o : Obj) : Rd (w.alloc o) k A n xs := h.keep fun a u => cell_alloc o a u
theorem Rd.src {w : World} {k : Nat} {A : Option Addr} {n : Nat} {xs : List Value} (h : Rd w k A n xs) : ∀ a, A = some a → ∀ j u, xs[j]? = some u → w.cell? (a.add j) = some u := by
  intro a ha j u hu
  obtain ⟨b, off, hA, hc⟩ := h.2 j u hu
  rw [ha] at hA
  injection hA with hA
  subst hA
  rw [Addr.add_lit]; exact hc
theorem Rd.src_none {w : World} {k : Nat} {A : Option Addr} {n : Nat} {xs : List Value} (h : Rd w k A n xs) (hk : 0 < k) : A = none → n = 0 := by
  rintro rfl
  rcases Nat.eq_zero_or_pos n with h0 | h0
  · exact h0
  · have hp : 0 < n * k := Nat.mul_pos h0 hk
    have hlt : 0 < xs.length := by rw [h.1]; exact hp
    obtain ⟨b, off, hA, _⟩ := h.2 0 _ (List.getElem?_eq_getElem hlt)
    cases hA
theorem Rd.ne {w : World} {k : Nat} {A : Option Addr} {n : Nat} {xs : List Value} (h : Rd w k A n xs) (hk : 0 < k) (hn : 0 < n) : xs ≠ [] := by
  rintro rfl
  have := h.1
  have hp : 0 < n * k := Nat.mul_pos hn hk
  simp at this; omega

/-- What an owned slice reads as. -/
theorem Sat.own_form {w : World} {e : TypeId} {k : Nat} {v : Value} {xs : List Value} {n : Nat} {F : List HP} (H : Sat w (own e k v n xs :: F)) :
    ∃ A c, v = .slice A n c ∧ n ≤ c ∧ c ≤ maxLen ∧ Rd w k A n xs := by
  obtain ⟨h0, h⟩ := H.owns
  rcases h with ⟨rfl, rfl⟩ | ⟨g, cap, cur, rfl, _, hg, hc, hm, hs, ht⟩
  · refine ⟨none, 0, rfl, Nat.le_refl _, by simp [maxLen], h0, fun j u hu => ?_⟩
    have : xs = [] := List.eq_nil_of_length_eq_zero (by simpa using h0)
    subst this; simp at hu
  · refine ⟨_, cap, rfl, hc, hm, h0, fun j u hu => ⟨g, 0, rfl, ?_⟩⟩
    rw [cell_of_row w g _ cur e (0, 0) hg]
    rw [← ht, List.getElem?_take] at hu
    split at hu
    · simpa using hu
    · cases hu
theorem Sat.own_at {w : World} {e : TypeId} {k : Nat} {A : Option Addr} {m c : Nat} {xs : List Value} {n : Nat} {F : List HP} (H : Sat w (own e k (.slice A m c) n xs :: F)) :
    Rd w k A n xs ∧ m = n ∧ n ≤ c := by
  obtain ⟨A', c', h, h1, _, h2⟩ := H.own_form
  injection h with h3 h4 h5
  subst h3; subst h4; subst h5
  exact ⟨h2, rfl, h1⟩
/-- An owned slice that is not empty, as the row that it is; and back. -/
theorem Sat.own_open {w : World} {e : TypeId} {k : Nat} {A : Option Addr} {m c : Nat} {xs : List Value} {n : Nat} {F : List HP} (H : Sat w (own e k (.slice A m c) n xs :: F)) (hn : 0 < n) :
    ∃ g cur, A = some ⟨g, 0, none⟩ ∧ n ≤ c ∧ c ≤ maxLen ∧ cur.size = c * k ∧ cur.toList.take (n * k) = xs ∧ Sat w (row g e cur :: F) := by
  obtain ⟨S1, S2, h1, h2, h3, ⟨h0, h⟩, h5⟩ := H
  rcases h with ⟨_, rfl⟩ | ⟨g, cap, cur, hv, hS, hg, hc, hm, hs, ht⟩
  · omega
  · injection hv with hA hm' hc'
    subst hA; subst hm'; subst hc'
    exact ⟨g, cur, rfl, hc, hm, hs, ht, S1, S2, h1, h2, h3, ⟨hS, hg⟩, h5⟩
theorem Sat.own_shut {w : World} {e : TypeId} {g k n c : Nat} {cur : Array Value} {xs : List Value} {F : List HP} (H : Sat w (row g e cur :: F)) (hc : n ≤ c) (hm : c ≤ maxLen) (hs : cur.size = c * k) (ht : cur.toList.take (n * k) = xs) :
    Sat w (own e k (.slice (some ⟨g, 0, none⟩) n c) n xs :: F) :=
  H.imp fun S h => ⟨by have := Nat.mul_le_mul_right k hc; rw [← ht, List.length_take, Array.length_toList, hs]; omega, .inr ⟨g, c, cur, rfl, h.1, h.2, hc, hm, hs, ht⟩⟩
/-- A cell of an owned slice written. -/
theorem Sat.own_set {w : World} {e : TypeId} {g k n c i : Nat} {xs : List Value} {F : List HP} (H : Sat w (own e k (.slice (some ⟨g, 0, none⟩) n c) n xs :: F)) (hi : i < n * k) (v : Value) :
    Sat (w.setCell ⟨g, i, none⟩ v) (own e k (.slice (some ⟨g, 0, none⟩) n c) n (xs.set i v) :: F) := by
  have hn : 0 < n := by rcases Nat.eq_zero_or_pos n with h | h; · subst h; simp at hi
                        exact h
  obtain ⟨g', cur, hA, hc, hm, hs, ht, H'⟩ := H.own_open hn
  injection hA with hA; injection hA with hA _; subst hA
  refine (H'.set (i := i) v).own_shut hc hm (by simpa using hs) ?_
  rw [← ht, Array.toList_setIfInBounds, List.take_set]
theorem Sat.own_cell {w : World} {e : TypeId} {g k n c : Nat} {xs : List Value} {F : List HP} (H : Sat w (own e k (.slice (some ⟨g, 0, none⟩) n c) n xs :: F)) (i : Nat) (u : Value) (hu : xs[i]? = some u) : w.cell? ⟨g, i, none⟩ = some u := by
  obtain ⟨b, off, hA, hc⟩ := H.own_at.1.2 i u hu
  injection hA with hA; injection hA with h1 h2; subst h1; subst h2
  simpa using hc
theorem Sat.own_free {w : World} {e : TypeId} {g k n c : Nat} {xs : List Value} {F : List HP} (H : Sat w (own e k (.slice (some ⟨g, 0, none⟩) n c) n xs :: F)) (hn : 0 < n) (i : Nat) : w.frozen? ⟨g, i, none⟩ = false := by
  obtain ⟨g', cur, hA, hc, hm, hs, ht, H'⟩ := H.own_open hn
  injection hA with hA; injection hA with hA _; subst hA
  exact H'.free i
theorem Sat.own_addr {w : World} {e : TypeId} {k : Nat} {v : Value} {xs : List Value} {n : Nat} {F : List HP} (H : Sat w (own e k v n xs :: F)) (hn : 0 < n) : ∃ g c, v = .slice (some ⟨g, 0, none⟩) n c ∧ n ≤ c := by
  obtain ⟨A, c, rfl, hc, -, -⟩ := H.own_form
  obtain ⟨g, cur, rfl, -, -, -, -, -⟩ := H.own_open hn
  exact ⟨g, c, rfl, hc⟩
end Go.Proofs.Ythbabdjicplooaa
