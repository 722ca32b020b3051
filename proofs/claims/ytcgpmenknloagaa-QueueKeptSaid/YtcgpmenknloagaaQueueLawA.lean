/- Chapter 15's runs: 'known' answers true and keeps what was there. Conditions: none. -/
import Derived.Test.YtcgpmenknloagaaQueue
namespace Go.Proofs.Ytcgpmenknloagaa
open Go.RowKit Go.WideShapes

def sa : ByteArray := ⟨#[97]⟩
def sb : ByteArray := ⟨#[98]⟩
theorem ia0 : idx [] sa < 0 := by decide
theorem ib1 : idx [sa] sb < 0 := by decide
theorem ia2 : 0 ≤ idx [sa, sb] sa := by decide
theorem ia2' : idx [sa, sb] sa = 0 := by decide
theorem ib3 : 0 ≤ idx [sb] sb := by decide
theorem ib3' : idx [sb] sb = 0 := by decide

set_option maxHeartbeats 1000000 in
theorem known15 {w : World} {F : List HP} (H : Sat w F) :
    Calls Try.prog 19 #[] w fun e w' => e = .returned (.bool true) ∧ Sat w' F ∧ Env w w' := by
  go_enter Try.func19, Try.ntmps19
  go_wp2_with fail
  refine (new_str H).mono ?_
  rintro e w1 ⟨q, rfl, H1, E1⟩
  go_wp2_with fail
  refine (push_new_str sa H1 ia0 (by decide)).mono ?_
  rintro e w2 ⟨rfl, H2, E2⟩
  go_wp2_with fail
  refine (push_new_str sb H2 ib1 (by decide)).mono ?_
  rintro e w3 ⟨rfl, H3, E3⟩
  go_wp2_with fail
  refine (push_met_str sa H3 (by decide) ia2).mono ?_
  rintro e w4 ⟨rfl, rfl⟩
  go_wp2_with fail
  refine (take_str 1 1 H3 (by decide) (by decide) (by decide)).mono ?_
  rintro e w5 ⟨v, rfl, H5, E5⟩
  obtain ⟨A, c, rfl, -, -, hr⟩ := H5.own_form
  obtain ⟨b, off, rfl, hc⟩ := hr.get (by simp)
  have hc0 := hc 0 (.string sa) rfl
  rw [Nat.add_zero] at hc0
  clear hc hr
  go_wp2_with fail
  refine (place_met_str sb H5.tail (by decide) ib3).mono ?_
  rintro e w6 ⟨rfl, rfl⟩
  have h1 := ia2'
  have h2 := ib3'
  have h3 : sa.toList = [97] := by rw [ByteArray.toList_eq]; rfl
  go_wp2_with fail
  go_ret
  exact ⟨rfl, H5.tail.tail, (((E1.trans E2).trans E3).trans E5)⟩

end Go.Proofs.Ytcgpmenknloagaa
