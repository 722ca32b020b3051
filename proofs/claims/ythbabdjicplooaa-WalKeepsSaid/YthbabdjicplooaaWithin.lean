/- deponentbook.Within: a number brought into a range. Conditions: none. -/
import Derived.Test.YthbabdjicplooaaCore
import Derived.Test.YthbabdjicplooaaProg
namespace Go.Proofs.Ythbabdjicplooaa
open Go.RowKit

theorem ret_int' {k : IntKind} {a b : Int} (h : a = b) : Ending.returned (.int k a) = .returned (.int k b) := by rw [h]
def within (n lo hi : Int) : Int := lo + n % (hi - lo + 1)
theorem within_range (n : Int) {lo hi : Int} (h : lo ≤ hi) : lo ≤ within n lo hi ∧ within n lo hi ≤ hi := by
  unfold within
  have h1 := Int.emod_nonneg n (b := hi - lo + 1) (by omega)
  have h2 := Int.emod_lt_of_pos n (b := hi - lo + 1) (by omega)
  omega

set_option maxHeartbeats 1000000 in
theorem within_any (n lo hi : Int) (w : World) (hlo : -1099511627776 ≤ lo) (hlh : lo ≤ hi) (hhi : hi ≤ 1099511627776) :
    Calls Try.prog 32 #[.int .i64 n, .int .i64 lo, .int .i64 hi] w fun e w' => e = .returned (.int .i64 (within n lo hi)) ∧ w = w' := by
  obtain ⟨m, hm, r1⟩ : ∃ m : Int, hi - lo + 1 = m ∧ m = hi - lo + 1 := ⟨_, rfl, rfl⟩
  have hmr : 1 ≤ m ∧ m ≤ 2199023255553 := by omega
  obtain ⟨t, ht, r2⟩ : ∃ t : Int, n.tmod m = t ∧ t = n.tmod m := ⟨_, rfl, rfl⟩
  have htr : -m < t ∧ t < m := by
    rw [r2]
    exact ⟨Int.neg_lt_of_neg_lt (by have := Int.tmod_lt_of_pos (-n) (b := m) (by omega); rwa [Int.neg_tmod] at this), Int.tmod_lt_of_pos n (by omega)⟩
  have HW := Lib.hid (show within n lo hi = lo + (if t < 0 then t + m else t) by
    unfold within
    rw [← r1]
    have h1 : n % m = t % m := by
      rw [r2]
      conv => lhs; rw [← Int.tmod_add_mul_tdiv n m]
      rw [Int.add_mul_emod_self_left]
    rw [h1]
    split
    · rw [← Int.add_emod_right, Int.emod_eq_of_lt (by omega) (by omega)]
    · rw [Int.emod_eq_of_lt (by omega) (by omega)])
  clear r1 r2
  go_enter Try.func32, Try.ntmps32
  go_wp2
  all_goals
    go_ret
    refine ⟨ret_int' ?_, rfl⟩
    rw [HW.out]
    first
      | (rw [if_pos (by assumption)]; show lo + (t + hi - lo + 1) = _; omega)
      | (rw [if_neg (by omega)])

end Go.Proofs.Ythbabdjicplooaa
