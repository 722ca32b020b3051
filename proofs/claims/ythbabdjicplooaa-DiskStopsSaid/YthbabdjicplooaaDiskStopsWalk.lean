/- DiskStops's walk: as many writes and flushes go as were said. Conditions: none. -/
import Derived.Test.YthbabdjicplooaaDiskKnown
import Derived.Test.YthbabdjicplooaaWithin
namespace Go.Proofs.Ythbabdjicplooaa
open Go.RowKit Go.WideShapes

set_option maxHeartbeats 4000000 in
set_option maxRecDepth 100000 in
theorem diskStops_any {w : World} {F : List HP} (af0 : Int) (A : Option Addr) (n c : Nat) (l : List Int) (H : Sat w F) (hr : Reads F 1 A n (l.map (Value.int .i64))) :
    Calls Try.prog 6 #[.int .i64 af0, .slice A n c] w fun e w' => e = .returned (.bool true) ∧ Sat w' F ∧ Env w w' := by
  have HN := Lib.hid (show n = l.length by have := (hr w H).1; simpa using this.symm)
  have HR := Lib.hid hr
  clear hr
  go_enter Try.func6, Try.ntmps6
  go_wp2_with fail
  refine (begun_any 2 H (by omega) (by omega)).mono ?_
  rintro e w1 ⟨d, rfl, H1, E1⟩
  go_wp2_with fail
  refine (within_any af0 0 9 _ (by omega) (by omega) (by omega)).mono ?_
  rintro e wx ⟨rfl, rfl⟩
  have hrg := within_range af0 (lo := 0) (hi := 9) (by omega)
  generalize within af0 0 9 = a0 at *
  obtain ⟨af, rfl⟩ := Int.eq_ofNat_of_zero_le hrg.1
  have haf : af ≤ 9 := by omega
  clear hrg
  go_wp2_with fail
  refine (dstop (af : Int) H1 (by omega)).mono ?_
  rintro e w2 ⟨rfl, H2, E2⟩
  replace E2 := E1.trans E2
  clear H1 E1 H
  have HD0 := Lib.hid (show ({ newD 2 with left := some (af : Int).toNat } : Dsk).safe.length = 2 ∧ ({ newD 2 with left := some (af : Int).toNat } : Dsk).left = some (af - 0) ∧ ({ newD 2 with left := some (af : Int).toNat } : Dsk).pend.length ≤ 0 from ⟨rfl, by simp, by simp [newD]⟩)
  generalize ({ newD 2 with left := some (af : Int).toNat } : Dsk) = D0 at *
  go_wp2_with fail
  go_loopw [7, 8] (fun dn i wr => ∃ (k m : Nat) (D : Dsk), k ≤ n ∧ k ≤ 30 ∧ i = .int .i64 k ∧ dn = .int .i64 m ∧ m ≤ af ∧ Hid (D.safe.length = 2 ∧ D.left = some (af - m) ∧ D.pend.length ≤ k) ∧ Sat wr (disk d D :: F) ∧ Env w wr) (fun _ i _ => 30 - (intOf i).toNat)
  case atStart => exact ⟨0, 0, D0, by omega, by omega, rfl, rfl, by omega, HD0.out, H2, E2⟩
  case round =>
    clear HD0 H2 E2
    obtain ⟨k, m, D, hk, hk2, rfl, rfl, hm, HD, H3, E3⟩ := hrel
    by_cases hlt : k < n
    · by_cases hlt2 : k < 30
      · have hkl : k < l.length := by have := HN.out; omega
        obtain ⟨b, off, rfl, hcell⟩ := (HR.out wr H3.tail).2 k (.int .i64 l[k]) (by simp [hkl])
        generalize l[k] = x at hcell
        go_wp2_with fail
        refine (within_any x 0 3 _ (by omega) (by omega) (by omega)).mono ?_
        rintro e wx ⟨rfl, rfl⟩
        have hrg := within_range x (lo := 0) (hi := 3) (by omega)
        generalize within x 0 3 = K at *
        clear hcell
        have hK : K = 0 ∨ K = 1 ∨ K = 2 ∨ K = 3 := by omega
        clear hrg
        rcases hK with rfl | rfl | rfl | rfl
        · by_cases hdn : m < af
          · go_wp2_with fail
            refine (sector_any 1 128 H3 (by omega) (by omega)).mono ?_
            rintro e w4 ⟨v4, rfl, H4, E4⟩
            obtain ⟨A4, c4, rfl, -, -, -⟩ := H4.own_form
            go_wp2_with fail
            refine (dwrite 1 A4 c4 (sectorL 1 128) H4.b1 (fun w H => H.own_at.1) (by rw [HD.out.1]; omega) (by rw [HD.out.2.1]; simp; omega) (by have := HD.out.2.2; omega)).mono ?_
            rintro e w5 ⟨rfl, H5, E5⟩
            have HD5 := Lib.hid (show (D.write 1 (sectorL 1 128)).safe.length = 2 ∧ (D.write 1 (sectorL 1 128)).left = some (af - (m + 1)) ∧ (D.write 1 (sectorL 1 128)).pend.length ≤ k + 1 from ⟨HD.out.1, by simp [Dsk.write, HD.out.2.1]; omega, by have := HD.out.2.2; simp [Dsk.write]; exact this⟩)
            have E6 := (E3.trans E4).trans E5
            have H6 := H5.b1.tail
            go_wp2_with fail
            go_roundw
            case rel => exact ⟨k + 1, m + 1, _, by omega, by omega, by go_num, by go_num, by omega, HD5.out, H6, E6⟩
            case measure => simp [intOf]; omega
          · go_wp2_with fail
            refine (sector_any 1 128 H3 (by omega) (by omega)).mono ?_
            rintro e w4 ⟨v4, rfl, H4, E4⟩
            obtain ⟨A4, c4, rfl, -, -, -⟩ := H4.own_form
            go_wp2_with fail
            refine (dwrite_stop 1 A4 c4 H4.b1 (by rw [HD.out.1]; omega) (by rw [HD.out.2.1]; simp; omega)).mono ?_
            rintro e w5 ⟨rfl, rfl⟩
            have E6 := E3.trans E4
            have H6 := H4.tail
            have HD6 := Lib.hid (show D.safe.length = 2 ∧ D.left = some (af - m) ∧ D.pend.length ≤ k + 1 from ⟨HD.out.1, HD.out.2.1, by have := HD.out.2.2; omega⟩)
            go_wp2_with fail
            go_roundw
            case rel => exact ⟨k + 1, m, D, by omega, by omega, by go_num, by go_num, by omega, HD6.out, H6, E6⟩
            case measure => simp [intOf]; omega
        · by_cases hdn : m < af
          · go_wp2_with fail
            refine (dflush H3 (by rw [HD.out.2.1]; simp; omega) (by have := HD.out.2.2; omega)).mono ?_
            rintro e w5 ⟨rfl, H5, E5⟩
            have HD5 := Lib.hid (show D.flush.safe.length = 2 ∧ D.flush.left = some (af - (m + 1)) ∧ D.flush.pend.length ≤ k + 1 from ⟨by simp [Dsk.flush, sets_len, HD.out.1], by simp [Dsk.flush, HD.out.2.1]; omega, by simp [Dsk.flush]⟩)
            have E6 := E3.trans E5
            go_wp2_with fail
            go_roundw
            case rel => exact ⟨k + 1, m + 1, _, by omega, by omega, by go_num, by go_num, by omega, HD5.out, H5, E6⟩
            case measure => simp [intOf]; omega
          · go_wp2_with fail
            refine (dflush_stop H3 (by rw [HD.out.2.1]; simp; omega)).mono ?_
            rintro e w5 ⟨rfl, rfl⟩
            have HD6 := Lib.hid (show D.safe.length = 2 ∧ D.left = some (af - m) ∧ D.pend.length ≤ k + 1 from ⟨HD.out.1, HD.out.2.1, by have := HD.out.2.2; omega⟩)
            go_wp2_with fail
            go_roundw
            case rel => exact ⟨k + 1, m, D, by omega, by omega, by go_num, by go_num, by omega, HD6.out, H3, E3⟩
            case measure => simp [intOf]; omega
        · have HD6 := Lib.hid (show D.safe.length = 2 ∧ D.left = some (af - m) ∧ D.pend.length ≤ k + 1 from ⟨HD.out.1, HD.out.2.1, by have := HD.out.2.2; omega⟩)
          go_wp2_with fail
          refine (dread 0 H3 (by rw [HD.out.1]; omega)).mono ?_
          rintro e w4 ⟨v4, rfl, H4, E4⟩
          have E6 := E3.trans E4
          have H6 := H4.tail
          go_wp2_with fail
          go_roundw
          case rel => exact ⟨k + 1, m, D, by omega, by omega, by go_num, by go_num, by omega, HD6.out, H6, E6⟩
          case measure => simp [intOf]; omega
        · have HD6 := Lib.hid (show D.safe.length = 2 ∧ D.left = some (af - m) ∧ D.pend.length ≤ k + 1 from ⟨HD.out.1, HD.out.2.1, by have := HD.out.2.2; omega⟩)
          go_wp2_with fail
          refine (dwrite_arg 5 none 0 0 H3 (by right; right; omega) (by omega)).mono ?_
          rintro e w4 ⟨rfl, rfl⟩
          go_wp2_with fail
          go_roundw
          case rel => exact ⟨k + 1, m, D, by omega, by omega, by go_num, by go_num, by omega, HD6.out, H3, E3⟩
          case measure => simp [intOf]; omega
      · obtain rfl : k = 30 := by omega
        go_wp2_with fail
        refine (dcrash none 0 0 [] (-1) 0 H3 (fun w _ => Rd.nil _ _ _) (by have := HD.out.2.2; omega)).mono ?_
        rintro e w4 ⟨rfl, H4, E4⟩
        have HC := Lib.hid (show (D.crash [] (-1) 0).safe.length = 2 ∧ (D.crash [] (-1) 0).left = none ∧ (D.crash [] (-1) 0).pend = [] from ⟨by simp [Dsk.crash, crashS_len, HD.out.1], rfl, rfl⟩)
        generalize D.crash [] (-1) 0 = Dc at *
        go_wp2_with fail
        refine (sector_any 1 128 H4 (by omega) (by omega)).mono ?_
        rintro e w5 ⟨v5, rfl, H5, E5⟩
        obtain ⟨A5, c5, rfl, -, -, -⟩ := H5.own_form
        go_wp2_with fail
        refine (dwrite 0 A5 c5 (sectorL 1 128) H5.b1 (fun w H => H.own_at.1) (by rw [HC.out.1]; omega) (by rw [HC.out.2.1]; simp) (by rw [HC.out.2.2]; simp)).mono ?_
        rintro e w6 ⟨rfl, H6, E6⟩
        go_wp2_with fail
        refine (dflush H6 (by simp [Dsk.write, HC.out.2.1]) (by simp [Dsk.write, HC.out.2.2])).mono ?_
        rintro e w7 ⟨rfl, H7, E7⟩
        go_wp2_with fail
        refine (known3 H7.tail.tail).mono ?_
        rintro e w8 ⟨rfl, H8, E8⟩
        go_wp2_with fail
        go_ret
        exact ⟨rfl, H8, ((((E3.trans E4).trans E5).trans E6).trans E7).trans E8⟩
    · obtain rfl : k = n := by omega
      go_wp2_with fail
      refine (dcrash none 0 0 [] (-1) 0 H3 (fun w _ => Rd.nil _ _ _) (by have := HD.out.2.2; omega)).mono ?_
      rintro e w4 ⟨rfl, H4, E4⟩
      have HC := Lib.hid (show (D.crash [] (-1) 0).safe.length = 2 ∧ (D.crash [] (-1) 0).left = none ∧ (D.crash [] (-1) 0).pend = [] from ⟨by simp [Dsk.crash, crashS_len, HD.out.1], rfl, rfl⟩)
      generalize D.crash [] (-1) 0 = Dc at *
      go_wp2_with fail
      refine (sector_any 1 128 H4 (by omega) (by omega)).mono ?_
      rintro e w5 ⟨v5, rfl, H5, E5⟩
      obtain ⟨A5, c5, rfl, -, -, -⟩ := H5.own_form
      go_wp2_with fail
      refine (dwrite 0 A5 c5 (sectorL 1 128) H5.b1 (fun w H => H.own_at.1) (by rw [HC.out.1]; omega) (by rw [HC.out.2.1]; simp) (by rw [HC.out.2.2]; simp)).mono ?_
      rintro e w6 ⟨rfl, H6, E6⟩
      go_wp2_with fail
      refine (dflush H6 (by simp [Dsk.write, HC.out.2.1]) (by simp [Dsk.write, HC.out.2.2])).mono ?_
      rintro e w7 ⟨rfl, H7, E7⟩
      go_wp2_with fail
      refine (known3 H7.tail.tail).mono ?_
      rintro e w8 ⟨rfl, H8, E8⟩
      go_wp2_with fail
      go_ret
      exact ⟨rfl, H8, ((((E3.trans E4).trans E5).trans E6).trans E7).trans E8⟩
end Go.Proofs.Ythbabdjicplooaa
