/- DiskPlays answers true and keeps what was there. Conditions: none. -/
import Derived.Test.YthbabdjicplooaaPlaysLib
namespace Go.Proofs.Ythbabdjicplooaa
open Go.RowKit

set_option maxHeartbeats 8000000 in
set_option maxRecDepth 100000 in
theorem diskPlays_any {w : World} {F : List HP} (s : Int) (A : Option Addr) (n c : Nat) (l : List AskV) (H : Sat w F) (hr : Reads F 7 A n (flatA l)) (hok : ∀ x ∈ l, AskOk F x) :
    Calls Try.prog 8 #[.int .i64 s, .slice A n c] w fun e w' => e = .returned (.bool true) ∧ Sat w' F ∧ Env w w' := by
  have HN := Lib.hid (show n = l.length by have := (hr w H).1; rw [flatA_len] at this; omega)
  have HR := Lib.hid hr
  have HOK := Lib.hid hok
  clear hr hok
  go_enter Try.func8, Try.ntmps8
  go_wp2_with fail
  refine (within_any s 0 7 _ (by omega) (by omega) (by omega)).mono ?_
  rintro e w' ⟨rfl, rfl⟩
  have hrg := within_range s (lo := 0) (hi := 7) (by omega)
  generalize within s 0 7 = a0 at *
  obtain ⟨N, hN⟩ : ∃ N : Nat, a0 + 1 = (N : Int) := ⟨(a0 + 1).toNat, by omega⟩
  have hN1 : 1 ≤ N ∧ N ≤ 8 := by omega
  have hw0 : IntKind.i64.wrap (a0 + 1) = (N : Int) := by rw [IntWalk.i64_in _ (by omega), hN]
  clear hN hrg
  go_wp2_with fail
  refine (begun_any N H (by omega) (by omega)).mono ?_
  rintro e w1 ⟨d0, rfl, H1, E1⟩
  go_wp2_with fail
  refine (rnew N H1 (by omega)).mono ?_
  rintro e w2 ⟨r, rfl, H2, E2⟩
  have E2' := E1.trans E2
  have H2' := H2.b1
  clear H H1 H2 E1 E2 hw0
  have HN1 := Lib.hid hN1
  have HD0 := Lib.hid (show (newD N).safe.length = N ∧ (newD N).pend.length ≤ 0 from ⟨by simp [newD], by simp [newD]⟩)
  generalize newD N = D0 at *
  clear hN1
  go_wp2_with fail
  go_loopw [5, 8] (fun pd i wr => ∃ (k d : Nat) (D : Dsk), k ≤ n ∧ k ≤ 40 ∧ i = .int .i64 k ∧ pd = .pointer (some ⟨d, 0, none⟩) ∧ Hid (D.safe.length = N ∧ D.pend.length ≤ k) ∧ Sat wr (disk d D :: rdisk r D :: F) ∧ Env w wr) (fun _ i _ => n - (intOf i).toNat)
  case atStart => exact ⟨0, d0, D0, by omega, by omega, rfl, rfl, HD0.out, H2', E2'⟩
  case round =>
    clear H2' E2' HD0
    obtain ⟨k, d, D, hk, hk4, rfl, rfl, HD, H3, E3⟩ := hrel
    by_cases hlt : k < n
    · by_cases hlt4 : k < 40
      · have hkl : k < l.length := by have := HN.out; omega
        have hk40 : (k : Int) < 40 := by omega
        have hd40 : decide ((k : Int) < 40) = true := by simp; omega
        obtain ⟨b, off, rfl, hcells⟩ := rdA (HR.out wr H3.tail.tail) hkl
        have hask := HOK.out _ (List.getElem_mem hkl)
        obtain ⟨kd, nn, sz, fl, AK, nk, ck, kp, tn, nb, hx⟩ : ∃ kd nn sz fl AK nk ck kp tn nb, l[k] = ⟨kd, nn, sz, fl, AK, nk, ck, kp, tn, nb⟩ := ⟨_, _, _, _, _, _, _, _, _, _, rfl⟩
        rw [hx] at hcells hask
        have z0 := hcells 0 _ rfl
        have z1 := hcells 1 _ rfl
        have z2 := hcells 2 _ rfl
        have z3 := hcells 3 _ rfl
        have z4 := hcells 4 _ rfl
        have z5 := hcells 5 _ rfl
        have z6 := hcells 6 _ rfl
        obtain ⟨hsz, hfl, hkeep⟩ := hask
        have HSZ := Lib.hid hsz
        have HFL := Lib.hid hfl
        have HKP := Lib.hid hkeep
        clear hcells hx hsz hfl hkeep hkl
        dsimp only at HSZ HFL HKP z0 z1 z2 z3 z4 z5 z6
        rw [Nat.add_zero] at z0
        go_upto_region 10 with fail
        have H4 := (H3.alloc (.cells #[.int .i64 kd, .int .i64 nn, .int .i64 sz, .int .u8 fl, .slice AK nk ck, .int .i64 tn, .int .i64 nb] 59)).p2
        have E4 := E3.alloc (.cells #[.int .i64 kd, .int .i64 nn, .int .i64 sz, .int .u8 fl, .slice AK nk ck, .int .i64 tn, .int .i64 nb] 59)
        generalize wr.alloc (.cells #[.int .i64 kd, .int .i64 nn, .int .i64 sz, .int .u8 fl, .slice AK nk ck, .int .i64 tn, .int .i64 nb] 59) = w4 at *
        generalize wr.heap.size = bx at *
        clear H3 E3 z0 z1 z2 z3 z4 z5 z6
        have x0 := H4.b2.cell 0
        go_upto_block 2 with fail
        go_cut [5, 10, 11, 12, 13, 14] from 43 to 149 (fun s5 _ _ _ _ _ wq => ∃ d2 D2, s5 = .pointer (some ⟨d2, 0, none⟩) ∧ Hid (D2.safe.length = N ∧ D2.pend.length ≤ k + 1) ∧ Sat wq (disk d2 D2 :: rdisk r D2 :: F) ∧ Env w wq)
        case first =>
          clear x0
          have x1 := H4.b2.cell 1
          have x2 := H4.b2.cell 2
          have x3 := H4.b2.cell 3
          have x4 := H4.b2.cell 4
          have x5 := H4.b2.cell 5
          have x6 := H4.b2.cell 6
          by_cases k1 : kd = 1
          · subst k1
            obtain ⟨m, hm⟩ : ∃ m : Nat, m = if sz < 0 then 127 else 128 := ⟨_, rfl⟩
            go_upto_if 47 with fail
            have HM := Lib.hid (show m ≤ 128 ∧ 127 ≤ m by rw [hm]; split <;> omega)
            go_cut [10] from 47 to 47 (fun s10 wq => s10 = .int .i64 m ∧ wq = w4)
            case first =>
              by_cases hneg : sz < 0
              · have e0 : (m : Int) = 127 := by rw [hm, if_pos hneg]; rfl
                go_wp2_with fail
                go_meet
                case rel => exact ⟨by rw [e0], rfl⟩
              · have e0 : (m : Int) = 128 := by rw [hm, if_neg hneg]; rfl
                go_wp2_with fail
                go_meet
                case rel => exact ⟨by rw [e0], rfl⟩
            case rest =>
            obtain ⟨rfl, hw⟩ := hcut
            rw [hw]
            clear hw wc hm
            have hmb : m ≤ 128 := HM.out.1
            as_aux_lemma =>
            go_wp2_with fail
            refine (sector_any fl m H4 HFL.out (by omega)).mono ?_
            rintro e w5 ⟨v5, rfl, H5, E5⟩
            obtain ⟨A5, c5, rfl, -, -, -⟩ := H5.own_form
            go_wp2_with fail
            refine (roomy_byte A5 m c5 (sectorL fl m) 165 H5 (fun w h => h.own_at.1) (by omega)).mono ?_
            rintro e w6 ⟨v6, rfl, H6, E6⟩
            obtain ⟨A6, c6, rfl, hc6, -, -⟩ := H6.own_form
            replace H6 := H6.b1.tail
            have E6' := (E4.trans E5).trans E6
            have hpd : D.pend.length < 4294967296 := by have := HD.out.2; omega
            have hm0 : (0 : Int) ≤ (m : Int) := by omega
            have hmc : (m : Int) ≤ (c6 : Int) := by omega
            have HTK := Lib.hid (show ∀ w F2, Sat w (own 5 1 (.slice A6 (m + 80) c6) (m + 80) (bytes (sectorL fl m ++ List.replicate 80 165)) :: F2) → Rd w 1 A6 m (bytes (sectorL fl m)) from fun w F2 h => by
              have := h.own_at.1.take (m := m) (by omega)
              rwa [Nat.mul_one, bytes, List.map_append, List.take_left' (by rw [List.length_map, sectorL_len])] at this)
            clear H4 H5 E4 E5 E6 x1 x2 x3 x4 x5 x6
            go_upto_region 16 with fail
            go_region_held3 (fun w' => w'.cell? ⟨bx, 1, none⟩ = some (.int .i64 nn)) (first | exact H6.drew.b3.cell 1 | exact H7.b3.cell 1) (first
              | (go_at_call 22; refine (dwrite_all nn A6 m c6 (sectorL fl m) H6.drew.b1 (fun w h => HTK.out w _ h) (by omega) hpd).mono ?_; rintro e w7 ⟨rfl, H7, E7⟩))
            have hec := wcode_is D nn m
            have HWL := Lib.hid (wnext_len D nn m (sectorL fl m))
            have HRW := Lib.hid (fun w F2 A c (h : Sat w (rdisk r D :: F2)) (hr : Reads F2 1 A m (bytes (sectorL fl m))) => rwrite_all nn A m c (sectorL fl m) h hr (by omega) hpd)
            have E7' := E6'.drew.trans E7
            generalize wnext D nn m (sectorL fl m) = D7 at *
            generalize wcode D nn m = ec at *
            clear H6 E6' E7
            go_upto_region 17 with fail
            go_region_held3 (fun w' => w'.cell? ⟨bx, 1, none⟩ = some (.int .i64 nn) ∧ w'.cell? ⟨bx, 3, none⟩ = some (.int .u8 fl)) (first | exact ⟨H7.drew.b3.cell 1, H7.drew.b3.cell 3⟩ | exact ⟨H8.b4.cell 1, H8.b4.cell 3⟩ | exact ⟨H9.b4.cell 1, H9.b4.cell 3⟩ | exact ⟨H10.b5.cell 1, H10.b5.cell 3⟩ | exact ⟨H11.b5.cell 1, H11.b5.cell 3⟩) (first
              | (go_at_call 23; refine (sector_any fl m H7.drew HFL.out (by omega)).mono ?_; rintro e w8 ⟨v8, rfl, H8, E8⟩; obtain ⟨A8, c8, rfl, -, -, -⟩ := H8.own_form)
              | (go_at_call 39; refine (HRW.out _ _ A8 c8 H8.b3 (fun w h => h.own_at.1)).mono ?_; rintro e w9 ⟨rfl, H9, E9⟩)
              | (go_at_call 23; refine (sector_any fl m H9 HFL.out (by omega)).mono ?_; rintro e w10 ⟨v10, rfl, H10, E10⟩; obtain ⟨A10, c10, rfl, -, -, -⟩ := H10.own_form)
              | (go_at_call 40; refine (intact_byte A6 A10 m (m + 80) c6 c10 (sectorL fl m) 165 rfl H10 (fun w h => h.b4.own_at.1) (fun w h => h.own_at.1) (by omega) (by omega)).mono ?_; rintro e w11 ⟨rfl, H11, E11⟩))
            clear hec HRW hmc hm0
            have H12 := H11.tail.b1.tail.b2.b2.b1.b3.tail
            have E12 := (((E7'.drew.trans E8).trans E9).trans E10).trans E11
            clear H7 H8 H9 H10 H11 E7' E8 E9 E10 E11
            go_wp2_with fail
            go_loopw [13] (fun i wq => ∃ (j : Nat) (zs : List Value), j ≤ m ∧ i = .int .i64 j ∧ Sat wq (own 5 1 (.slice A6 (m + 80) c6) (m + 80) zs :: disk d D7 :: rdisk r D7 :: F) ∧ Env w wq) (fun i _ => m - (intOf i).toNat)
            case atStart => exact ⟨0, _, by omega, rfl, H12, E12⟩
            case round =>
              clear H12 E12 HTK
              obtain ⟨j, zs, hj, rfl, H13, E13⟩ := hrel
              by_cases hjm : j < m
              · obtain ⟨g6, c6', hA6, -⟩ := H13.own_addr (by omega)
                cases hA6
                have hzl : j < zs.length := by have := H13.owns.1; omega
                have q0 := H13.own_cell j _ (List.getElem?_eq_getElem hzl)
                have q1 := H13.own_free (by omega) j
                generalize zs[j] = zo at q0
                have H14 := Lib.hid (H13.own_set (i := j) (by omega) (.int .u8 77))
                have E14 := Lib.hid (E13.set ⟨g6, j, none⟩ (.int .u8 77))
                have hj80 : (j : Int) < (m : Int) + 80 := by omega
                clear hzl
                go_wp2_with fail
                go_roundw
                case rel => exact ⟨j + 1, _, by omega, by go_num, H14.out, E14.out⟩
                case measure => simp [intOf]; omega
              · obtain rfl : j = m := by omega
                go_wp2_with fail
                go_meet
                case rel => exact ⟨d, D7, rfl, ⟨by rw [HWL.out.1]; exact HD.out.1, by have := HWL.out.2; have := HD.out.2; omega⟩, H13.tail, E13⟩
          · have hpd : D.pend.length < 4294967296 := by have := HD.out.2; omega
            by_cases k2 : kd = 2
            · subst k2
              as_aux_lemma =>
              go_wp2_with fail
              refine (dflush_all H4 hpd).mono ?_
              rintro e w5 ⟨rfl, H5, E5⟩
              go_wp2_with fail
              refine (rflush_all H5.b1 hpd).mono ?_
              rintro e w6 ⟨rfl, H6, E6⟩
              have HFL2 := Lib.hid (fnext_len D)
              generalize fcode D = ec at *
              have E7 := (E4.trans E5).trans E6
              have H7 := H6.b1.b2.tail
              clear H5 H6 E5 E6
              go_wp2_with fail
              go_meet
              case rel => exact ⟨d, fnext D, rfl, ⟨by rw [HFL2.out.1]; exact HD.out.1, by have := HFL2.out.2; have := HD.out.2; omega⟩, H7, E7⟩
            · by_cases k3 : kd = 3
              · subst k3
                as_aux_lemma =>
                go_wp2_with fail
                refine (dstop sz H4 HSZ.out.2).mono ?_
                rintro e w5 ⟨rfl, H5, E5⟩
                have y2 := H5.b2.cell 2
                clear x1 x2 x3 x4 x5 x6
                go_wp2_with fail
                refine (rstop sz H5.b1 HSZ.out.2).mono ?_
                rintro e w6 ⟨rfl, H6, E6⟩
                have E7 := (E4.trans E5).trans E6
                have H7 := H6.b1.b2.tail
                clear H5 H6 E5 E6
                go_wp2_with fail
                go_meet
                case rel => exact ⟨d, { D with left := some sz.toNat }, rfl, ⟨HD.out.1, show D.pend.length ≤ k + 1 by have := HD.out.2; omega⟩, H7, E7⟩
              · by_cases k4 : kd = 4
                · subst k4
                  as_aux_lemma =>
                  go_wp2_with fail
                  refine (dcrash AK nk ck kp tn nb H4 (fun w h => HKP.out w h.tail.tail) hpd).mono ?_
                  rintro e w5 ⟨rfl, H5, E5⟩
                  have y4 := H5.b2.cell 4
                  have y5 := H5.b2.cell 5
                  have y6 := H5.b2.cell 6
                  clear x1 x2 x3 x4 x5 x6
                  go_wp2_with fail
                  refine (rcrash AK nk ck kp tn nb H5.b1 (fun w h => HKP.out w h.tail.tail) hpd).mono ?_
                  rintro e w6 ⟨rfl, H6, E6⟩
                  have HCL := Lib.hid (crash_len D kp tn nb)
                  have E7 := (E4.trans E5).trans E6
                  have H7 := H6.b1.b2.tail
                  clear H5 H6 E5 E6
                  go_wp2_with fail
                  go_meet
                  case rel => exact ⟨d, _, rfl, ⟨by rw [HCL.out.1]; exact HD.out.1, by rw [HCL.out.2]; omega⟩, H7, E7⟩
                · by_cases k5 : kd = 5
                  · subst k5
                    as_aux_lemma =>
                    obtain ⟨B, H5⟩ := H4.disk_open
                    clear H4
                    go_wp2_with fail
                    refine (copy_any H5 hpd).mono ?_
                    rintro e w6 ⟨c2, rfl, H6, E6⟩
                    go_wp2_with fail
                    refine (alike_any H6.b1.p3 hpd (by rw [HD.out.1]; have := HN1.out; omega)).mono ?_
                    rintro e w7 ⟨rfl, H7, E7⟩
                    have E7' := (E4.trans E6).trans E7
                    have y2 := H7.b4.cell 2
                    clear x1 x2 x3 x4 x5 x6 H5 H6 E4 E6 E7
                    have hsl : 0 < D.safe.length := by rw [HD.out.1]; have := HN1.out; omega
                    have HCL := Lib.hid (crash_len D [] (-1) 0)
                    have hc1 : 0 < (D.crash [] (-1) 0).safe.length := by rw [HCL.out.1]; exact hsl
                    have hrd : ∀ L, Reads L 1 none 0 (([] : List Bool).map (Value.bool)) := fun L w h => Rd.nil _ _ _
                    have HC1 := Lib.hid hc1
                    have HRD := Lib.hid hrd
                    clear hsl hc1 hrd
                    by_cases he : sz.tmod 2 = 0
                    · have hb : (sz.tmod 2 == 0) = true := by simp [he]
                      go_wp2_with fail
                      refine (crash_any none 0 0 [] (-1) 0 H7.b1.b3 (HRD.out _) hpd).mono ?_
                      rintro e w8 ⟨rfl, B8, hB8, H8, E8⟩
                      go_wp2_with fail
                      refine (sector_any 99 128 H8 (by omega) (by omega)).mono ?_
                      rintro e w9 ⟨v9, rfl, H9, E9⟩
                      obtain ⟨A9, c9, rfl, -, -, -⟩ := H9.own_form
                      go_wp2_with fail
                      refine (write_ok 0 A9 c9 (sectorL 99 128) H9.b2.b2 (fun w h => h.own_at.1) HC1.out (by simp [Dsk.crash]) (by rw [HCL.out.2]; omega)).mono ?_
                      rintro e w10 ⟨rfl, B10, hB10, H10, E10⟩
                      have E11 := ((E7'.trans E8).trans E9).trans E10
                      have hfull := H10.dk_full
                      have H11 := ((H10.tail.b2.dk_more (fun p hp => hB10 p (hB8 p hp)) hfull).disk_shut).b1.tail.b2.tail
                      have H12 := Lib.hid H11
                      clear H7 H8 H9 H10 H11 hfull hB8 hB10 E8 E9 E10 HC1 HCL HRD
                      go_wp2_with fail
                      go_meet
                      case rel => exact ⟨c2, D, rfl, ⟨HD.out.1, by have := HD.out.2; omega⟩, H12.out, E11⟩
                    · have hb : (sz.tmod 2 == 0) = false := by simp [he]
                      go_wp2_with fail
                      refine (crash_any none 0 0 [] (-1) 0 H7 (HRD.out _) hpd).mono ?_
                      rintro e w8 ⟨rfl, B8, hB8, H8, E8⟩
                      go_wp2_with fail
                      refine (sector_any 99 128 H8 (by omega) (by omega)).mono ?_
                      rintro e w9 ⟨v9, rfl, H9, E9⟩
                      obtain ⟨A9, c9, rfl, -, -, -⟩ := H9.own_form
                      go_wp2_with fail
                      refine (write_ok 0 A9 c9 (sectorL 99 128) H9.b2.b2 (fun w h => h.own_at.1) HC1.out (by simp [Dsk.crash]) (by rw [HCL.out.2]; omega)).mono ?_
                      rintro e w10 ⟨rfl, B10, hB10, H10, E10⟩
                      have E11 := ((E7'.trans E8).trans E9).trans E10
                      have hfull := H10.dk_full
                      have H11 := ((H10.tail.b3.dk_more (fun p hp => hB10 p (hB8 p hp)) hfull).disk_shut).b1.tail.b2.tail
                      have H12 := Lib.hid H11
                      clear H7 H8 H9 H10 H11 hfull hB8 hB10 E8 E9 E10 HC1 HCL HRD
                      go_wp2_with fail
                      go_meet
                      case rel => exact ⟨d, D, rfl, ⟨HD.out.1, by have := HD.out.2; omega⟩, H12.out, E11⟩
                  · go_wp2_with fail
                    go_meet
                    case rel => exact ⟨d, D, rfl, ⟨HD.out.1, by have := HD.out.2; omega⟩, H4.b2.tail, E4⟩
        case rest =>
          obtain ⟨d2, D2, rfl, HD2, H5, E5⟩ := hcut
          clear x0 H4 E4 HSZ HFL HKP
          obtain ⟨B, H6⟩ := H5.disk_open
          go_wp2_with fail
          refine (alike_any H6 (by have := HD2.out.2; omega) (by rw [HD2.out.1]; have := HN1.out; omega)).mono ?_
          rintro e w7 ⟨rfl, H7, E7⟩
          have H8 := H7.disk_shut
          have E8 := E5.trans E7
          clear H5 H6 H7 E5 E7
          go_wp2_with fail
          go_roundw
          case rel => exact ⟨k + 1, d2, D2, by omega, by omega, by go_num, rfl, HD2.out, H8, E8⟩
          case measure => simp [intOf]; omega
      · have hd40 : decide ((k : Int) < 40) = false := by simp; omega
        go_wp2_with fail
        refine (known3 H3.tail.tail).mono ?_
        rintro e w5 ⟨rfl, H5, E5⟩
        go_wp2_with fail
        go_ret
        exact ⟨rfl, H5, E3.trans E5⟩
    · go_wp2_with fail
      refine (known3 H3.tail.tail).mono ?_
      rintro e w5 ⟨rfl, H5, E5⟩
      go_wp2_with fail
      go_ret
      exact ⟨rfl, H5, E3.trans E5⟩
end Go.Proofs.Ythbabdjicplooaa
