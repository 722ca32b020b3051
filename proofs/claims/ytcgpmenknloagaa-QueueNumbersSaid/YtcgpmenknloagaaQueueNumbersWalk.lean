/- QueueNumbers answers true and keeps what was there. Conditions: none. -/
import Derived.Test.YtcgpmenknloagaaQueueLawA
import Derived.Test.YtcgpmenknloagaaQueueBook
namespace Go.Proofs.Ytcgpmenknloagaa
open Go.RowKit Go.WideShapes

def mul3 (k : Nat) : List Int := (List.range k).map fun i : Nat => (i : Int) * 3
theorem mul3_len (k : Nat) : (mul3 k).length = k := by simp [mul3]
theorem mul3_succ (k : Nat) : mul3 (k + 1) = mul3 k ++ [(k : Int) * 3] := by simp [mul3, List.range_succ]
theorem mul3_new (k : Nat) : idx (mul3 k) ((k : Int) * 3) < 0 := by
  rw [idx_miss]
  · omega
  · intro j hj
    simp [mul3] at hj ⊢
    omega
def qn1 : List Int := (mul3 64).drop 2
def qn2 : List Int := qn1 ++ [0]
theorem qn_a : idx (mul3 64) (-1) < 0 := by decide +kernel
theorem qn_b : 0 ≤ idx (mul3 64) 9 := by decide +kernel
theorem qn_b' : idx (mul3 64) 9 = 3 := by decide +kernel
theorem qn_c : idx qn1 0 < 0 := by decide +kernel
theorem qn_d : qn1.length = 62 := by decide +kernel
theorem qn_e : qn2.length = 63 := by decide +kernel
theorem qn_f : (mul3 64).take 2 = [0, 3] := by decide +kernel

set_option maxHeartbeats 2000000 in
set_option maxRecDepth 100000 in
theorem queueNumbers_any {w : World} {F : List HP} (H : Sat w F) :
    Calls Try.prog 3 #[] w fun e w' => e = .returned (.bool true) ∧ Sat w' F ∧ Env w w' := by
  go_enter Try.func3, Try.ntmps3
  go_wp2_with fail
  refine (new_int H).mono ?_
  rintro e w1 ⟨q, rfl, H1, E1⟩
  go_wp2_with fail
  go_loopw [2] (fun i wr => ∃ k : Nat, k ≤ 64 ∧ i = .int .i64 k ∧ Sat wr (queue_int q (mul3 k) :: F) ∧ Env w wr) (fun i _ => 64 - (intOf i).toNat)
  case atStart => exact ⟨0, by omega, rfl, H1, E1⟩
  case round =>
    obtain ⟨k, hk, rfl, H2, E2⟩ := hrel
    by_cases hlt : k < 64
    · go_wp2_with fail
      refine (push_new_int _ H2 (mul3_new k) (by rw [mul3_len]; exact hlt)).mono ?_
      rw [mul3_len, ← mul3_succ]
      rintro e w3 ⟨rfl, H3, E3⟩
      go_wp2_with fail
      go_roundw
      case rel => exact ⟨k + 1, by omega, by go_num, H3, E2.trans E3⟩
      case measure => simp [intOf]; omega
    · obtain rfl : k = 64 := by omega
      go_wp2_with fail
      refine (push_full_int _ H2 (by rw [mul3_len]; omega) qn_a (by rw [mul3_len]; omega)).mono ?_
      rintro e w3 ⟨rfl, rfl⟩
      go_wp2_with fail
      refine (push_met_int _ H2 (by rw [mul3_len]; omega) qn_b).mono ?_
      rw [qn_b']
      rintro e w3 ⟨rfl, rfl⟩
      go_wp2_with fail
      refine (take_int (-1) 0 H2 (by rw [mul3_len]; omega) (by omega) (by omega)).mono ?_
      rintro e w4 ⟨v4, rfl, H4, E4⟩
      obtain ⟨A4, c4, rfl, -, -, -⟩ := H4.own_form
      replace H4 : Sat w4 (queue_int q (mul3 64) :: F) := H4.tail
      go_wp2_with fail
      refine (take_int 2 2 H4 (by rw [mul3_len]; omega) (by omega) (by rw [mul3_len]; omega)).mono ?_
      rw [qn_f]
      rintro e w5 ⟨v5, rfl, H5, E5⟩
      obtain ⟨A5, c5, rfl, -, -, R5⟩ := H5.own_form
      replace H5 := H5.b1
      change Sat w5 (queue_int q qn1 :: _) at H5
      have HR5 := Lib.hid R5
      clear R5
      go_wp2_with fail
      refine (place_none_int 0 H5 (by rw [qn_d]; omega) qn_c).mono ?_
      rintro e w6 ⟨rfl, rfl⟩
      go_wp2_with fail
      refine (push_new_int 0 H5 qn_c (by rw [qn_d]; omega)).mono ?_
      rw [qn_d]
      rintro e w6 ⟨rfl, H6, E6⟩
      change Sat w6 (queue_int q qn2 :: _) at H6
      go_wp2_with fail
      have H7 := H6.alloc (.cells #[.int .i64 0, .int .i64 3] 3)
      refine (same_int A5 _ 2 c5 2 [0, 3] _ (by omega) H7.b2.own_at.1 (H7.row_own 1 2 (by simp [maxLen]) rfl).own_at.1).mono ?_
      rintro e w8 ⟨rfl, q8, rfl⟩
      have H8 := (H7.drewN q8).b1
      have E8 := (E6.alloc (.cells #[.int .i64 0, .int .i64 3] 3)).drewN q8
      go_wp2_with fail
      refine (len_int H8).mono ?_
      rw [qn_e]
      rintro e w9 ⟨rfl, rfl⟩
      go_wp2_with fail
      refine (take_int 99 63 H8 (by rw [qn_e]; omega) (by omega) (by rw [qn_e]; omega)).mono ?_
      rintro e w9 ⟨v9, rfl, H9, E9⟩
      obtain ⟨A9, c9, rfl, -, -, -⟩ := H9.own_form
      replace H9 := H9.tail
      rw [show qn2.drop 63 = [] from by decide +kernel] at H9
      go_wp2_with fail
      refine (len_int H9).mono ?_
      rintro e w10 ⟨rfl, rfl⟩
      go_wp2_with fail
      refine (known15 H9.tail.tail.tail).mono ?_
      rintro e w10 ⟨rfl, H10, E10⟩
      go_wp2_with fail
      go_ret
      exact ⟨rfl, H10, ((((((E2.trans E4).trans E5).trans E8).trans E9).trans E10))⟩
end Go.Proofs.Ytcgpmenknloagaa
