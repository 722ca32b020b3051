/- deponentbook.Bytes: a mark; the book's Apart. Conditions: fewer than 4000 lists. -/
import Derived.Test.YthbabdjicplooaaBookStays
namespace Go.Proofs.Ythbabdjicplooaa
open Go.RowKit

def markB (i j : Nat) : Int := if j % 3 = 0 then ((i : Int) + 1) % 256 else if j % 3 = 1 then ((i : Int) + 1) / 256 % 256 else ((i : Int) + 1) / 65536 % 256
set_option maxHeartbeats 1000000 in
set_option maxRecDepth 100000 in
theorem mark_any (i j : Nat) (w : World) (hi : i < 4294967296) (_ : j < 9223372036854775808) :
    Calls Try.prog 31 #[.int .i64 i, .int .i64 j] w fun e w' => e = .returned (.int .u8 (markB i j)) ∧ w = w' := by
  have hr : (j : Int).tmod 3 = ((j % 3 : Nat) : Int) := by rw [Int.tmod_eq_emod_of_nonneg (by omega)]; omega
  have h3 : j % 3 < 3 := Nat.mod_lt _ (by omega)
  unfold markB
  generalize j % 3 = r at hr h3 ⊢
  have hc : r = 0 ∨ r = 1 ∨ r = 2 := by omega
  go_enter Try.func31, Try.ntmps31
  rename_i hj
  clear hj
  rcases hc with rfl | rfl | rfl
  all_goals
    go_wp2_with fail
    go_ret
    exact ⟨rfl, rfl⟩

/-- Full, a list's row is its own in the spare room, too. -/
theorem Sat.own_full {w : World} {e : TypeId} {k : Nat} {A : Option Addr} {n c : Nat} {xs : List Value} {F : List HP} (H : Sat w (own e k (.slice A n c) n xs :: F)) : ∃ ys, Sat w (own e k (.slice A c c) c ys :: F) := by
  rcases Nat.eq_zero_or_pos n with h0 | h0
  · subst h0
    obtain ⟨h1, h⟩ := H.owns
    rcases h with ⟨hv, -⟩ | ⟨g, cap, cur, hv, -, -, -, -, -, -⟩
    · injection hv with h2 h3 h4
      subst h2; subst h4
      exact ⟨xs, H⟩
    · obtain ⟨S1, S2, a1, a2, a3, ⟨hl, hH⟩, a5⟩ := id H
      rcases hH with ⟨hb, _⟩ | ⟨g', cap', cur', hv', hS, hg, hc, hmx, hcs, ht⟩
      · rw [hv] at hb; cases hb
      · injection hv' with h2 _ h4
        subst h2; subst h4
        have H' : Sat w (row g' e cur' :: F) := ⟨S1, S2, a1, a2, a3, ⟨hS, hg⟩, a5⟩
        exact ⟨cur'.toList, H'.own_shut (Nat.le_refl _) hmx hcs (by rw [← hcs, Array.size_eq_length_toList, List.take_length])⟩
  · obtain ⟨g, cur, rfl, hc, hmx, hcs, ht, H'⟩ := H.own_open h0
    exact ⟨cur.toList, H'.own_shut (Nat.le_refl _) hmx hcs (by rw [← hcs, Array.size_eq_length_toList, List.take_length])⟩

def emp : HP := all []
theorem Sat.focus {w : World} {F : List HP} {L : List HP} {i : Nat} (hi : i < L.length) (H : Sat w (all L :: F)) : Sat w (L[i] :: all (L.set i emp) :: F) := by
  have h1 := H.open_all
  have e1 : L = L.take i ++ L[i] :: L.drop (i + 1) := by rw [List.getElem_cons_drop, List.take_append_drop]
  have e2 : L.set i emp = L.take i ++ emp :: L.drop (i + 1) := by rw [List.set_eq_take_append_cons_drop, if_pos hi]
  have h2 : Sat w (L.take i ++ L[i] :: (L.drop (i + 1) ++ F)) := by
    have h1' := h1
    rw [e1, List.append_assoc, List.cons_append] at h1'
    exact h1'
  have h3 : Sat w (L[i] :: (L.take i ++ (L.drop (i + 1) ++ F))) := h2.perm List.perm_middle
  have h4 : Sat w (emp :: L[i] :: (L.take i ++ (L.drop (i + 1) ++ F))) := Sat.shut_all (L := []) h3
  rw [e2]
  have h5 : Sat w ((L.take i ++ emp :: L.drop (i + 1)) ++ (L[i] :: F)) := by
    refine h4.perm ?_
    rw [List.append_assoc, List.cons_append]
    refine List.Perm.trans ?_ List.perm_middle.symm
    refine List.Perm.cons _ ?_
    rw [← List.append_assoc, ← List.append_assoc]
    exact List.perm_middle.symm
  exact (Sat.shut_all h5).b1
theorem Sat.unfocus {w : World} {F : List HP} {L : List HP} {i : Nat} {A : HP} (hi : i < L.length) (H : Sat w (A :: all (L.set i emp) :: F)) : Sat w (all (L.set i A) :: F) := by
  have e2 : L.set i emp = L.take i ++ emp :: L.drop (i + 1) := by rw [List.set_eq_take_append_cons_drop, if_pos hi]
  have e3 : L.set i A = L.take i ++ A :: L.drop (i + 1) := by rw [List.set_eq_take_append_cons_drop, if_pos hi]
  rw [e2] at H
  have h1 := H.b1.open_all
  rw [List.append_assoc, List.cons_append] at h1
  have h2 : Sat w (emp :: (L.take i ++ (L.drop (i + 1) ++ (A :: F)))) := h1.perm List.perm_middle
  have h3 := h2.tail
  rw [e3]
  refine Sat.shut_all (L := L.take i ++ A :: L.drop (i + 1)) ?_
  refine h3.perm ?_
  rw [List.append_assoc, List.cons_append]
  refine List.Perm.trans ?_ List.perm_middle.symm
  rw [← List.append_assoc, ← List.append_assoc]
  exact List.perm_middle
end Go.Proofs.Ythbabdjicplooaa
