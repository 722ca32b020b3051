/- DiskNumbers: chapter 3's runs. Conditions: none. -/
import Derived.Test.YthbabdjicplooaaDiskKnown
namespace Go.Proofs.Ythbabdjicplooaa
open Go.RowKit Go.WideShapes

set_option maxHeartbeats 1000000 in
set_option maxRecDepth 100000 in
theorem new_no {w : World} {F : List HP} (n : Int) (_ : Sat w F) (h : n < 1 ∨ 8192 < n) :
    Calls Try.prog 34 #[.int .i64 n] w fun e w' => e = .returned (.tuple #[.pointer none, .int .i64 1]) ∧ w = w' := by
  go_enter Try.func34, Try.ntmps34
  rcases h with h | h
  · go_wp2_with fail
    go_ret2
    exact ⟨rfl, rfl⟩
  · have h2 : ¬ n < 1 := by omega
    go_wp2_with fail
    go_ret2
    exact ⟨rfl, rfl⟩

def nD1 : Dsk := (newD 3).write 0 (sectorL 1 128)
def nD2 : Dsk := nD1.flush
def nD3 : Dsk := nD2.write 0 (sectorL 5 128)
def nD4 : Dsk := nD3.crash [true] (-1) 0
def nD5 : Dsk := { nD4 with left := some (1 : Int).toNat }
def nD6 : Dsk := nD5.write 1 (sectorL 1 128)
def nD7 : Dsk := nD6.crash [] (-1) 0
theorem n_facts : (nD4.rd 0).getD 0 0 = 5 ∧ (nD4.rd 0).getD 1 0 = 6 ∧ (nD4.rd 0).getD 2 0 = 7 := by
  refine ⟨?_, ?_, ?_⟩ <;> kernel_rfl

set_option maxHeartbeats 4000000 in
set_option maxRecDepth 100000 in
theorem diskNumbers_any {w : World} {F : List HP} (H : Sat w F) :
    Calls Try.prog 7 #[] w fun e w' => e = .returned (.bool true) ∧ Sat w' F ∧ Env w w' := by
  have heq := eqTri
  have HK := Lib.hid n_facts
  go_enter Try.func7, Try.ntmps7
  go_wp2_with fail
  refine (new_no 0 H (by omega)).mono ?_
  rintro e w1 ⟨rfl, rfl⟩
  go_wp2_with fail
  refine (new_no 8193 H (by omega)).mono ?_
  rintro e w1 ⟨rfl, rfl⟩
  go_wp2_with fail
  refine (begun_any 3 H (by omega) (by omega)).mono ?_
  rintro e w1 ⟨d, rfl, H1, E1⟩
  go_wp2_with fail
  refine (dsectors H1).mono ?_
  rintro e w2 ⟨rfl, rfl⟩
  rw [show (newD 3).safe.length = 3 from rfl]
  go_wp2_with fail
  refine (dread_no 3 H1 (by decide)).mono ?_
  rintro e w2 ⟨rfl, rfl⟩
  go_wp2_with fail
  refine (sector_any 1 128 H1 (by omega) (by omega)).mono ?_
  rintro e w2 ⟨v2, rfl, H2, E2⟩
  obtain ⟨A2, c2, rfl, -, -, -⟩ := H2.own_form
  replace E2 := E1.trans E2
  go_wp2_with fail
  refine (dwrite_arg (-1) A2 128 c2 H2.b1 (by first | (left; decide) | (right; left; decide) | (right; right; decide)) (by decide)).mono ?_
  rintro e wx ⟨rfl, rfl⟩
  replace H2 := H2.tail
  go_wp2_with fail
  refine (dwrite_arg (0) none 0 0 H2 (by first | (left; decide) | (right; left; decide) | (right; right; decide)) (by decide)).mono ?_
  rintro e wx ⟨rfl, rfl⟩
  go_wp2_with fail
  refine (sector_any 1 128 H2 (by omega) (by omega)).mono ?_
  rintro e w3 ⟨v3, rfl, H3, E3⟩
  obtain ⟨A3, c3, rfl, -, -, -⟩ := H3.own_form
  replace E3 := E2.trans E3
  go_wp2_with fail
  refine (dwrite 0 A3 c3 (sectorL 1 128) H3.b1 (fun w H => H.own_at.1) (by decide) (by decide) (by decide)).mono ?_
  rintro e w4 ⟨rfl, H4, E4⟩
  replace E4 := E3.trans E4
  replace H4 := H4.b1.tail
  change Sat w4 (disk d nD1 :: F) at H4
  go_wp2_with fail
  refine (dflush H4 (by decide) (by decide)).mono ?_
  rintro e w5 ⟨rfl, H5, E5⟩
  replace E5 := E4.trans E5
  change Sat w5 (disk d nD2 :: F) at H5
  go_wp2_with fail
  refine (sector_any 5 128 H5 (by omega) (by omega)).mono ?_
  rintro e w6 ⟨v6, rfl, H6, E6⟩
  obtain ⟨A6, c6, rfl, -, -, -⟩ := H6.own_form
  replace E6 := E5.trans E6
  go_wp2_with fail
  refine (dwrite 0 A6 c6 (sectorL 5 128) H6.b1 (fun w H => H.own_at.1) (by decide) (by decide) (by decide)).mono ?_
  rintro e w7 ⟨rfl, H7, E7⟩
  replace E7 := E6.trans E7
  replace H7 := H7.b1.tail
  change Sat w7 (disk d nD3 :: F) at H7
  go_upto_region 12 with fail
  have HL := H7.own_lit 4 1 #[.bool true] 1 (by simp [maxLen]) rfl
  have EL := E7.alloc (.cells #[.bool true] 4)
  go_wp2_with fail
  generalize w7.alloc (.cells #[.bool true] 4) = wl at *
  generalize w7.heap.size = gl at *
  refine (dcrash (some ⟨gl, 0, none⟩) 1 1 [true] (-1) 0 HL.b1 (fun w H => H.own_at.1) (by decide)).mono ?_
  rintro e w8 ⟨rfl, H8, E8⟩
  replace E8 := EL.trans E8
  replace H8 := H8.b1.tail
  change Sat w8 (disk d nD4 :: F) at H8
  go_wp2_with fail
  refine (first_any 0 (D := nD4) H8 (by decide)).mono ?_
  rintro e w9 ⟨rfl, H9, E9⟩
  replace E9 := E8.trans E9
  rw [HK.out.1, HK.out.2.1, HK.out.2.2]
  go_upto_region 14 with fail
  have HB := H9.alloc (.cells #[.int .u8 5, .int .u8 6, .int .u8 7] 53)
  have EB := E9.alloc (.cells #[.int .u8 5, .int .u8 6, .int .u8 7] 53)
  generalize w9.alloc (.cells #[.int .u8 5, .int .u8 6, .int .u8 7] 53) = wb at *
  generalize w9.heap.size = tb at *
  go_wp2_with fail
  refine (dstop 1 HB.b1 (by omega)).mono ?_
  rintro e w10 ⟨rfl, H10, E10⟩
  replace E10 := EB.trans E10
  change Sat w10 (disk d nD5 :: _) at H10
  go_wp2_with fail
  refine (sector_any 1 128 H10 (by omega) (by omega)).mono ?_
  rintro e w11 ⟨v11, rfl, H11, E11⟩
  obtain ⟨A11, c11, rfl, -, -, -⟩ := H11.own_form
  replace E11 := E10.trans E11
  go_wp2_with fail
  refine (dwrite 1 A11 c11 (sectorL 1 128) H11.b1 (fun w H => H.own_at.1) (by decide) (by decide) (by decide)).mono ?_
  rintro e w12 ⟨rfl, H12, E12⟩
  replace E12 := E11.trans E12
  replace H12 := H12.b1.tail
  change Sat w12 (disk d nD6 :: _) at H12
  go_wp2_with fail
  refine (sector_any 2 128 H12 (by omega) (by omega)).mono ?_
  rintro e w13 ⟨v13, rfl, H13, E13⟩
  obtain ⟨A13, c13, rfl, -, -, -⟩ := H13.own_form
  replace E13 := E12.trans E13
  go_wp2_with fail
  refine (dwrite_stop 1 A13 c13 H13.b1 (by decide) (by decide)).mono ?_
  rintro e wx ⟨rfl, rfl⟩
  replace H13 := H13.tail
  go_wp2_with fail
  refine (dflush_stop H13 (by decide)).mono ?_
  rintro e wx ⟨rfl, rfl⟩
  go_wp2_with fail
  refine (dcrash none 0 0 [] (-1) 0 H13 (fun w _ => Rd.nil _ _ _) (by decide)).mono ?_
  rintro e w14 ⟨rfl, H14, E14⟩
  replace E14 := E13.trans E14
  change Sat w14 (disk d nD7 :: _) at H14
  go_wp2_with fail
  refine (sector_any 3 128 H14 (by omega) (by omega)).mono ?_
  rintro e w15 ⟨v15, rfl, H15, E15⟩
  obtain ⟨A15, c15, rfl, -, -, -⟩ := H15.own_form
  replace E15 := E14.trans E15
  go_wp2_with fail
  refine (dwrite 1 A15 c15 (sectorL 3 128) H15.b1 (fun w H => H.own_at.1) (by decide) (by decide) (by decide)).mono ?_
  rintro e w16 ⟨rfl, H16, E16⟩
  replace E16 := E15.trans E16
  replace H16 := H16.b1.tail
  have t0 := H16.b1.cell 0
  have t1 := H16.b1.cell 1
  have t2 := H16.b1.cell 2
  go_wp2_with fail
  refine (known3 H16.tail.tail).mono ?_
  rintro e w17 ⟨rfl, H17, E17⟩
  replace E17 := E16.trans E17
  go_wp2_with fail
  go_ret
  exact ⟨rfl, H17, E17⟩
end Go.Proofs.Ythbabdjicplooaa
