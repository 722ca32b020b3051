/- FairKept answers true and keeps what was there. Conditions: fewer than 2^32 lanes. -/
import Derived.Test.YtcgpmenknloagaaFairServesWalk
import Derived.Test.YtcgpmenknloagaaBooksLaneApart
namespace Go.Proofs.Ytcgpmenknloagaa
open Go.RowKit Go.WideShapes

def GoodL (m : Nat) (R : Bk) : Prop := R.items.length ≤ m ∧ ∀ p ∈ R.items, p.n < 4294967296 ∧ ∃ l : List Lane, p.xs = flatL l

set_option maxHeartbeats 4000000 in
set_option maxRecDepth 100000 in
theorem fairKept_any {w : World} {F : List HP} (A : Option Addr) (n c : Nat) (l : List Lane) (H : Sat w F) (hr : Reads F 3 A n (flatL l)) :
    Calls Try.prog 11 #[.slice A n c] w fun e w' => e = .returned (.bool true) ∧ Sat w' F ∧ Env w w' := by
  have HN := Lib.hid (show n = l.length by have := (hr w H).1; rw [flatL_len] at this; omega)
  have HR := Lib.hid hr
  clear hr
  go_enter Try.func11, Try.ntmps11
  go_wp2_with fail
  refine (small_any A n c l H HR.out).mono ?_
  rintro e w1 ⟨v1, rfl, H1, E1⟩
  obtain ⟨A1, c1, rfl, -, -, -⟩ := H1.own_form
  obtain ⟨m, hm⟩ : ∃ m, min n 20 = m := ⟨_, rfl⟩
  have hm20 : m ≤ 20 := by omega
  have HML := Lib.hid (show m = (smallL l).length by rw [smallL_len]; have := HN.out; omega)
  rw [hm] at H1 ⊢
  clear hm
  have HS := Lib.hid (smallL_small l)
  generalize smallL l = ls at H1 HML HS
  obtain ⟨ti, tk, tn, M, hM, hserve, -⟩ := serves_same ls HS.out m HML.out (by omega) 0 1 (by omega)
  have HM := Lib.hid hM
  have HV := Lib.hid hserve
  clear hM hserve
  have HQ := (H1.alloc (.cells #[.slice none 0 0, .slice none 0 0, .int .i64 0, .bool false] 82)).bk_new_lane
  have EQ := E1.alloc (.cells #[.slice none 0 0, .slice none 0 0, .int .i64 0, .bool false] 82)
  go_upto_region 3 with fail
  generalize w1.alloc (.cells #[.slice none 0 0, .slice none 0 0, .int .i64 0, .bool false] 82) = w2 at *
  generalize w1.heap.size = b at *
  have G0 := Lib.hid (show GoodL 0 ⟨.slice none 0 0, .slice none 0 0, [], 0⟩ from ⟨Nat.le_refl _, fun p hp => by cases hp⟩)
  generalize (⟨.slice none 0 0, .slice none 0 0, [], 0⟩ : Bk) = R0 at *
  clear H1 E1 H
  go_wp2_with fail
  go_loopw [4] (fun i wr => ∃ (k : Nat) (R : Bk), k ≤ 2 ∧ i = .int .i64 k ∧ Hid (GoodL k R) ∧ Sat wr (bk_lane b R :: own 63 3 (.slice A1 m c1) m (flatL ls) :: F) ∧ Env w wr) (fun i _ => 2 - (intOf i).toNat)
  case atStart => exact ⟨0, R0, by omega, rfl, G0, HQ, EQ⟩
  case round =>
    clear G0 HQ EQ
    obtain ⟨k, R, hk, rfl, HG, H2, E2⟩ := hrel
    by_cases hlt : k < 2
    · go_wp2_with fail
      refine (HV.out _ _ A1 c1 H2 (fun w h => h.b1.own_at.1)).mono ?_
      rintro e w3 ⟨v3, rfl, H3, E3⟩
      obtain ⟨A3, c3, rfl, -, -, -⟩ := H3.own_form
      go_wp2_with fail
      refine (keep_lane b R A3 m c3 (flatL M) (H3.alloc' _).b1 (flatL_one M) (by omega) (by have := HG.out.1; omega) HG.out.2 ⟨M, rfl⟩).mono ?_
      rintro e w4 ⟨rfl, R4, H4, E4, L4, X4⟩
      have G4 := Lib.hid (show GoodL (k + 1) R4 from ⟨by have := HG.out.1; omega, X4⟩)
      have E5 := ((E2.trans E3).alloc _).trans E4
      clear X4 L4 HG H2 H3 E2 E3 E4
      go_wp2_with fail
      go_roundw
      case rel => exact ⟨k + 1, R4, by omega, by go_num, G4, H4, E5⟩
      case measure => simp [intOf]; omega
    · obtain rfl : k = 2 := by omega
      go_wp2_with fail
      refine (apart_lane b R H2 (by have := HG.out.1; omega) HG.out.2).mono ?_
      rintro e w6 ⟨rfl, H6, E6⟩
      go_wp2_with fail
      refine (known16 H6.tail).mono ?_
      rintro e w7 ⟨rfl, H7, E7⟩
      go_wp2_with fail
      go_ret
      exact ⟨rfl, H7, (E2.trans E6).trans E7⟩
end Go.Proofs.Ytcgpmenknloagaa
