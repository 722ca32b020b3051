/- Plain lanes: what fair.Serve and fair.Wait compute. Conditions: none. -/
import Derived.Test.YtcgpmenknloagaaCore
namespace Go.Proofs.Ytcgpmenknloagaa
open Go.RowKit

/-- A lane: weight, backlog, deficit. -/
abbrev Lane := Int × Int × Int
def flatL (l : List Lane) : List Value := l.flatMap fun x => [.int .i64 x.1, .int .i64 x.2.1, .int .i64 x.2.2]
theorem flatL_len (l : List Lane) : (flatL l).length = l.length * 3 := by
  induction l with
  | nil => rfl
  | cons x l ih => simp only [flatL, List.flatMap_cons, List.length_append, List.length_cons, List.length_nil] at ih ⊢; omega
theorem flatL_get (l : List Lane) (k : Nat) (hk : k < l.length) :
    (flatL l)[k * 3]? = some (.int .i64 l[k].1) ∧ (flatL l)[k * 3 + 1]? = some (.int .i64 l[k].2.1) ∧ (flatL l)[k * 3 + 2]? = some (.int .i64 l[k].2.2) := by
  induction l generalizing k with
  | nil => simp at hk
  | cons x l ih =>
    cases k with
    | zero => simp [flatL]
    | succ k =>
      have := ih k (by simpa using hk)
      simp only [flatL, List.flatMap_cons] at this ⊢
      refine ⟨?_, ?_, ?_⟩ <;> rw [List.getElem?_append_right (by simp; omega)]
      · simpa [Nat.add_mul] using this.1
      · simpa [Nat.add_mul] using this.2.1
      · simpa [Nat.add_mul] using this.2.2
theorem flatL_one (l : List Lane) : ∀ u ∈ flatL l, u.oneCell' = true := by
  intro u hu
  simp only [flatL, List.mem_flatMap] at hu
  obtain ⟨x, _, hx⟩ := hu
  simp at hx
  rcases hx with rfl | rfl | rfl <;> rfl
theorem flatL_set (l : List Lane) (k : Nat) (hk : k < l.length) (b d : Int) :
    ((flatL l).set (k * 3 + 1) (.int .i64 b)).set (k * 3 + 2) (.int .i64 d) = flatL (l.set k (l[k].1, b, d)) := by
  induction l generalizing k with
  | nil => simp at hk
  | cons x l ih =>
    cases k with
    | zero => simp [flatL]
    | succ k =>
      have := ih k (by simpa using hk)
      simp only [flatL, List.flatMap_cons, List.set_cons_succ, List.getElem_cons_succ] at this ⊢
      rw [← this]
      simp [Nat.add_mul]
theorem flatL_append (l m : List Lane) : flatL (l ++ m) = flatL l ++ flatL m := by simp [flatL]

def grows (w q : Int) : Int := min w 4 * min (max q 1) 2
def takes (q : Int) (x : Lane) : Int := max (min (x.2.2 + grows x.1 q) x.2.1) 0
def served (q : Int) (x : Lane) : Lane := (x.1, x.2.1 - takes q x, if x.2.1 - takes q x = 0 then 0 else x.2.2 + grows x.1 q - takes q x)
theorem grows_pos {w q : Int} (hw : 1 ≤ w) : 1 ≤ grows w q ∧ grows w q ≤ 8 := by
  unfold grows
  have h1 : min w 4 = 1 ∨ min w 4 = 2 ∨ min w 4 = 3 ∨ min w 4 = 4 := by omega
  have h2 : min (max q 1) 2 = 1 ∨ min (max q 1) 2 = 2 := by omega
  rcases h1 with h | h | h | h <;> rcases h2 with h' | h' <;> rw [h, h'] <;> omega
/-- Where the search begins. -/
def begins (len : Nat) (at_ : Int) : Nat := if at_ < 0 ∨ (len : Int) ≤ at_ then 0 else at_.toNat
/-- The lane at place s has its turn: the first that takes part, s + k places round. -/
def Turns (l : List Lane) (s k i : Nat) : Prop := k < l.length ∧ i = (s + k) % l.length ∧ (∃ h : i < l.length, 1 ≤ l[i].1) ∧ ∀ j, j < k → ∀ h : (s + j) % l.length < l.length, l[(s + j) % l.length].1 < 1
def Small (l : List Lane) : Prop := ∀ x ∈ l, (-1099511627776 ≤ x.1 ∧ x.1 ≤ 1099511627776) ∧ (-1099511627776 ≤ x.2.1 ∧ x.2.1 ≤ 1099511627776) ∧ (-1099511627776 ≤ x.2.2 ∧ x.2.2 ≤ 1099511627776)
theorem sets4 {α : Type} (x : List α) (a b : Nat) (hab : a ≠ b) {p p' q r : α} : (((x.set a p).set a p').set b q).set a r = (x.set b q).set a r := by
  rw [List.set_set, List.set_comm _ _ hab, List.set_set]
theorem sets3 {α : Type} (x : List α) (a b : Nat) (hab : a ≠ b) {p p' q : α} : ((x.set a p).set a p').set b q = (x.set b q).set a p' := by
  rw [List.set_set, List.set_comm _ _ hab]
end Go.Proofs.Ytcgpmenknloagaa
