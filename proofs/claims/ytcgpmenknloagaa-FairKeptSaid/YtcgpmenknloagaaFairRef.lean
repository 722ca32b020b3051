/- deponentref16.in and Wait, and the books' Same, Roomy and Intact over lanes. Conditions: fewer than 2^32 lanes. -/
import Derived.Test.YtcgpmenknloagaaFairSmall
import Derived.Deep.CutBlock
namespace Go.Proofs.Ytcgpmenknloagaa
open Go.RowKit

def inr (n lo hi : Int) : Int := if n < lo then lo else if hi < n then hi else n
theorem inr_def {n lo hi : Int} (h : lo ≤ hi) : inr n lo hi = max lo (min n hi) := by unfold inr; split <;> (try split) <;> omega

set_option maxHeartbeats 400000 in
theorem in_any (n lo hi : Int) (w : World) :
    Calls Try.prog 54 #[.int .i64 n, .int .i64 lo, .int .i64 hi] w fun e w' => e = .returned (.int .i64 (inr n lo hi)) ∧ w = w' := by
  unfold inr
  go_enter Try.func54, Try.ntmps54
  by_cases h1 : n < lo
  · go_wp2_with fail
    go_ret
    exact ⟨rfl, rfl⟩
  · by_cases h2 : hi < n
    · go_wp2_with fail
      go_ret
      exact ⟨rfl, rfl⟩
    · go_wp2_with fail
      go_ret
      exact ⟨rfl, rfl⟩

theorem gr_mul {a b : Int} (ha : 1 ≤ a ∧ a ≤ 4) (hb : 1 ≤ b ∧ b ≤ 2) : 1 ≤ a * b ∧ a * b ≤ 8 := by
  have h1 : a = 1 ∨ a = 2 ∨ a = 3 ∨ a = 4 := by omega
  have h2 : b = 1 ∨ b = 2 := by omega
  rcases h1 with h | h | h | h <;> rcases h2 with h' | h' <;> rw [h, h'] <;> omega

set_option maxHeartbeats 1000000 in
theorem rwait_any (a wt q n : Int) (w : World) :
    Calls Try.prog 40 #[.int .i64 a, .int .i64 wt, .int .i64 q, .int .i64 n] w fun e w' => e = .returned (.int .i64 (waits a wt q n)) ∧ ∃ d, w' = w.drewN d := by
  obtain ⟨A2, e1, r1⟩ : ∃ X : Int, inr a 0 1048576 = X ∧ X = min (max a 0) 1048576 := ⟨_, rfl, by rw [inr_def (by omega)]; omega⟩
  obtain ⟨N2, e2, r2⟩ : ∃ X : Int, inr n 1 1048576 = X ∧ X = min (max n 1) 1048576 := ⟨_, rfl, by rw [inr_def (by omega)]; omega⟩
  obtain ⟨W2, e3, r3⟩ : ∃ X : Int, inr wt 1 4 = X ∧ X = min (max wt 1) 4 := ⟨_, rfl, by rw [inr_def (by omega)]; omega⟩
  obtain ⟨Q2, e4, r4⟩ : ∃ X : Int, inr q 1 2 = X ∧ X = min (max q 1) 2 := ⟨_, rfl, by rw [inr_def (by omega)]; omega⟩
  have hG := gr_mul (a := W2) (b := Q2) (by omega) (by omega)
  obtain ⟨G, e5, r5⟩ : ∃ X : Int, W2 * Q2 = X ∧ X = W2 * Q2 := ⟨_, rfl, rfl⟩
  rw [e5] at hG
  obtain ⟨D, e6, r6⟩ : ∃ D : Int, (A2 + G).tdiv G = D ∧ D = (A2 + 1 + G - 1) / G := ⟨_, rfl, by rw [show A2 + 1 + G - 1 = A2 + G by omega]; exact Int.tdiv_eq_ediv_of_nonneg (by omega)⟩
  have hD : 0 ≤ D ∧ D ≤ 1048584 := by
    rw [r6]
    refine ⟨Int.ediv_nonneg (by omega) (by omega), Int.le_trans (Int.ediv_le_self _ (by omega)) (by omega)⟩
  obtain ⟨R, e11, r11⟩ : ∃ R : Int, D * N2 = R ∧ R = D * N2 := ⟨_, rfl, rfl⟩
  have hN : 1 ≤ N2 ∧ N2 ≤ 1048576 := by omega
  have hA : 0 ≤ A2 ∧ A2 ≤ 1048576 := by omega
  have hR : 0 ≤ R ∧ R ≤ 1099522048000 := by
    rw [r11]
    refine ⟨Int.mul_nonneg (by omega) (by omega), ?_⟩
    have := Int.mul_le_mul hD.2 hN.2 (by omega) (by omega)
    omega
  have HW := Lib.hid (show R = waits a wt q n by unfold waits; rw [← r1, ← r2, ← r3, ← r4, ← r5, ← r6, ← r11])
  clear r1 r2 r3 r4 r5 r6 r11
  go_enter Try.func40, Try.ntmps40
  go_wp2_with fail
  refine (in_any a 0 1048576 _).mono ?_
  rintro e w2 ⟨rfl, rfl⟩
  rw [e1]
  go_wp2_with fail
  refine (in_any n 1 1048576 _).mono ?_
  rintro e w2 ⟨rfl, rfl⟩
  rw [e2]
  go_wp2_with fail
  refine (in_any wt 1 4 _).mono ?_
  rintro e w2 ⟨rfl, rfl⟩
  rw [e3]
  go_wp2_with fail
  refine (in_any q 1 2 _).mono ?_
  rintro e w2 ⟨rfl, rfl⟩
  rw [e4]
  go_wp2_with fail
  go_ret
  exact ⟨by rw [← HW.out]; rfl, 0, rfl⟩

set_option maxHeartbeats 1000000 in
/-- deponentbook.Same of two lists of lanes that read the same: true. -/
theorem same_lane (A B : Option Addr) (n c d : Nat) (l : List Lane) (w : World) (hsz : n < 4294967296) (hr1 : Rd w 3 A n (flatL l)) (hr2 : Rd w 3 B n (flatL l)) :
    Calls Try.prog 55 #[.slice A n c, .slice B n d] w fun e w' => e = .returned (.bool true) ∧ ∃ q, w' = w.drewN q := by
  have HN1 := Lib.hid (show n = l.length by have := hr1.1; rw [flatL_len] at this; omega)
  have HR1 := Lib.hid hr1
  have HR2 := Lib.hid hr2
  clear hr1 hr2
  go_enter Try.func55, Try.ntmps55
  go_wp2
  go_loopw [5] (fun i wr => ∃ k : Nat, k ≤ n ∧ i = .int .i64 k ∧ ∃ q, wr = w.drewN q) (fun i _ => n - (intOf i).toNat)
  case atStart => exact ⟨0, by omega, rfl, 0, rfl⟩
  case round =>
    obtain ⟨k, hk, rfl, q, rfl⟩ := hrel
    by_cases hlt : k < n
    · have hk1 : k < l.length := by have := HN1.out; omega
      obtain ⟨b1, o1, rfl⟩ := rd3_at HR1.out (by omega)
      obtain ⟨b2, o2, rfl⟩ := rd3_at HR2.out (by omega)
      obtain ⟨x, y, z, hlk⟩ : ∃ x y z, l[k] = (x, y, z) := ⟨_, _, _, rfl⟩
      obtain ⟨x1, x2, x3⟩ := rd3 HR1.out hk1 hlk
      obtain ⟨y1, y2, y3⟩ := rd3 HR2.out hk1 hlk
      clear hlk
      have hne := neLane x y z x y z
      go_wp2
      go_quiet (fail)
      go_wp2
      go_roundw
      case rel => exact ⟨k + 1, by omega, by go_num, _, rfl⟩
      case measure => simp [intOf]; omega
    · go_wp2
      go_ret
      exact ⟨rfl, _, rfl⟩
end Go.Proofs.Ytcgpmenknloagaa
