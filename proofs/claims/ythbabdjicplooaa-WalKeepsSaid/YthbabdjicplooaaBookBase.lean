/- The book of lists: what every element type shares. Conditions: none. -/
import Derived.Test.YthbabdjicplooaaOwnO
import Derived.Test.YthbabdjicplooaaSplitB
namespace Go.Proofs.Ythbabdjicplooaa
open Go.RowKit

theorem Sat.f5 {w : World} {A B C D E X : HP} {L : List HP} (H : Sat w (A :: B :: C :: D :: E :: X :: L)) : Sat w (X :: A :: B :: C :: D :: E :: L) := H.perm (List.perm_middle (l₁ := [A, B, C, D, E]))
theorem Sat.f6 {w : World} {A B C D E G X : HP} {L : List HP} (H : Sat w (A :: B :: C :: D :: E :: G :: X :: L)) : Sat w (X :: A :: B :: C :: D :: E :: G :: L) := H.perm (List.perm_middle (l₁ := [A, B, C, D, E, G]))
/-- A list that is kept: itself, its length, the copy, its cells. -/
structure Kp where
  v : Value
  n : Nat
  u : Value
  xs : List Value
structure Bk where
  vL : Value
  vW : Value
  items : List Kp
  held : Int
theorem Sat.all_snoc {w : World} {F : List HP} {A : HP} {L : List HP} (H : Sat w (A :: all L :: F)) : Sat w (all (L ++ [A]) :: F) := by
  have h1 := H.b1.open_all
  exact Sat.shut_all (L := L ++ [A]) (by rw [List.append_assoc]; exact h1)
theorem Sat.all_at {w : World} {F : List HP} {L : List HP} {A : HP} (H : Sat w (all L :: F)) (hA : A ∈ L) : Sat w (A :: F) := by
  obtain ⟨L1, L2, rfl⟩ := List.append_of_mem hA
  have h1 := H.open_all
  rw [List.append_assoc, List.cons_append] at h1
  have h2 : Sat w (A :: (L1 ++ (L2 ++ F))) := h1.perm List.perm_middle
  have drop : ∀ (L : List HP) (A : HP) (F : List HP), Sat w (A :: (L ++ F)) → Sat w (A :: F) := by
    intro L A F h
    induction L with
    | nil => exact h
    | cons x L ih => exact ih h.b1.tail
  exact drop _ _ _ (drop _ _ _ h2)
/-- Full, a list's row is its own in the spare room, too. -/
theorem Sat.own_full {w : World} {e : TypeId} {k : Nat} {A : Option Addr} {n c : Nat} {xs : List Value} {F : List HP} (H : Sat w (own e k (.slice A n c) n xs :: F)) : ∃ ys, Sat w (own e k (.slice A c c) c ys :: F) := by
  rcases Nat.eq_zero_or_pos n with h0 | h0
  · subst h0
    obtain ⟨h1, h⟩ := H.owns
    rcases h with ⟨hv, -⟩ | ⟨g, cap, cur, hv, -, -, -, -, -, -⟩
    · injection hv with h2 h3 h4
      subst h2; subst h4
      exact ⟨xs, H⟩
    · obtain ⟨S1, S2, a1, a2, a3, ⟨hl, hH⟩, a5⟩ := id H
      rcases hH with ⟨hb, _⟩ | ⟨g', cap', cur', hv', hS, hg, hc, hmx, hcs, ht⟩
      · rw [hv] at hb; cases hb
      · injection hv' with h2 _ h4
        subst h2; subst h4
        have H' : Sat w (row g' e cur' :: F) := ⟨S1, S2, a1, a2, a3, ⟨hS, hg⟩, a5⟩
        exact ⟨cur'.toList, H'.own_shut (Nat.le_refl _) hmx hcs (by rw [← hcs, Array.size_eq_length_toList, List.take_length])⟩
  · obtain ⟨g, cur, rfl, hc, hmx, hcs, ht, H'⟩ := H.own_open h0
    exact ⟨cur.toList, H'.own_shut (Nat.le_refl _) hmx hcs (by rw [← hcs, Array.size_eq_length_toList, List.take_length])⟩

def emp : HP := all []
theorem Sat.focus {w : World} {F : List HP} {L : List HP} {i : Nat} (hi : i < L.length) (H : Sat w (all L :: F)) : Sat w (L[i] :: all (L.set i emp) :: F) := by
  have h1 := H.open_all
  have e1 : L = L.take i ++ L[i] :: L.drop (i + 1) := by rw [List.getElem_cons_drop, List.take_append_drop]
  have e2 : L.set i emp = L.take i ++ emp :: L.drop (i + 1) := by rw [List.set_eq_take_append_cons_drop, if_pos hi]
  have h2 : Sat w (L.take i ++ L[i] :: (L.drop (i + 1) ++ F)) := by
    have h1' := h1
    rw [e1, List.append_assoc, List.cons_append] at h1'
    exact h1'
  have h3 : Sat w (L[i] :: (L.take i ++ (L.drop (i + 1) ++ F))) := h2.perm List.perm_middle
  have h4 : Sat w (emp :: L[i] :: (L.take i ++ (L.drop (i + 1) ++ F))) := Sat.shut_all (L := []) h3
  rw [e2]
  have h5 : Sat w ((L.take i ++ emp :: L.drop (i + 1)) ++ (L[i] :: F)) := by
    refine h4.perm ?_
    rw [List.append_assoc, List.cons_append]
    refine List.Perm.trans ?_ List.perm_middle.symm
    refine List.Perm.cons _ ?_
    rw [← List.append_assoc, ← List.append_assoc]
    exact List.perm_middle.symm
  exact (Sat.shut_all h5).b1
theorem Sat.unfocus {w : World} {F : List HP} {L : List HP} {i : Nat} {A : HP} (hi : i < L.length) (H : Sat w (A :: all (L.set i emp) :: F)) : Sat w (all (L.set i A) :: F) := by
  have e2 : L.set i emp = L.take i ++ emp :: L.drop (i + 1) := by rw [List.set_eq_take_append_cons_drop, if_pos hi]
  have e3 : L.set i A = L.take i ++ A :: L.drop (i + 1) := by rw [List.set_eq_take_append_cons_drop, if_pos hi]
  rw [e2] at H
  have h1 := H.b1.open_all
  rw [List.append_assoc, List.cons_append] at h1
  have h2 : Sat w (emp :: (L.take i ++ (L.drop (i + 1) ++ (A :: F)))) := h1.perm List.perm_middle
  have h3 := h2.tail
  rw [e3]
  refine Sat.shut_all (L := L.take i ++ A :: L.drop (i + 1)) ?_
  refine h3.perm ?_
  rw [List.append_assoc, List.cons_append]
  refine List.Perm.trans ?_ List.perm_middle.symm
  rw [← List.append_assoc, ← List.append_assoc]
  exact List.perm_middle
theorem Sat.all_tail {w : World} {F : List HP} {A : HP} {L : List HP} (H : Sat w (all (A :: L) :: F)) : Sat w (all L :: F) := Sat.shut_all H.open_all.tail
theorem Sat.only {w : World} {A : HP} {L : List HP} (h : Sat w (A :: L)) : Sat w [A] := by
  induction L with
  | nil => exact h
  | cons x L ih => exact ih h.b1.tail
/-- How many lists there are, read from the memory. -/
def lenAt (b : Nat) (w : World) : Nat := match w.cell? ⟨b, 0, none⟩ with
  | some (.slice _ n _) => n
  | _ => 0
def SubK (L L0 : List Kp) : Prop := L.length ≤ L0.length ∧ ∀ p ∈ L, p ∈ L0
theorem SubK.refl (L : List Kp) : SubK L L := ⟨Nat.le_refl _, fun _ h => h⟩
theorem SubK.tail {p : Kp} {L L0 : List Kp} (h : SubK (p :: L) L0) : SubK L L0 := ⟨by have := h.1; simp only [List.length_cons] at this; omega, fun q hq => h.2 q (List.mem_cons_of_mem _ hq)⟩
end Go.Proofs.Ythbabdjicplooaa
