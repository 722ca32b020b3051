/- DiskOrder's walk. Conditions: none. -/
import Derived.Test.YthbabdjicplooaaDiskOrderPlain
namespace Go.Proofs.Ythbabdjicplooaa
open Go.RowKit Go.WideShapes

set_option maxHeartbeats 8000000 in
set_option maxRecDepth 100000 in
theorem diskOrder_any {w : World} {F : List HP} (A AK : Option Addr) (n c nk ck : Nat) (fs : List Int) (keep : List Bool) (H : Sat w F) (hr : Reads F 1 A n (bytes fs)) (hrk : Reads F 1 AK nk (keep.map Value.bool)) (hb : ∀ x ∈ fs, 0 ≤ x ∧ x ≤ 255) :
    Calls Try.prog 5 #[.slice A n c, .slice AK nk ck] w fun e w' => e = .returned (.bool true) ∧ Sat w' F ∧ Env w w' := by
  have HN := Lib.hid (show n = fs.length by have := (hr w H).1; simpa [bytes] using this.symm)
  have HKN := Lib.hid (show nk = keep.length by have := (hrk w H).1; simpa using this.symm)
  have HR := Lib.hid hr
  have HRK := Lib.hid hrk
  have HB := Lib.hid hb
  clear hr hrk hb
  go_enter Try.func5, Try.ntmps5
  go_wp2_with fail
  refine (begun_any 1 H (by omega) (by omega)).mono ?_
  rintro e w1 ⟨d, rfl, H1, E1⟩
  go_wp2_with fail
  refine (begun_any 1 H1 (by omega) (by omega)).mono ?_
  rintro e w2 ⟨d2, rfl, H2, E2⟩
  replace E2 := E1.trans E2
  change Sat w2 (disk d2 (ordD fs 0) :: disk d (ordD fs 0) :: F) at H2
  clear H H1 E1
  go_wp2_with fail
  go_loopw [9, 10, 11] (fun la so i wr => ∃ k : Nat, k ≤ n ∧ k ≤ 12 ∧ i = .int .i64 k ∧ la = .int .u8 ((lastK fs keep k).getD 0) ∧ so = .bool (lastK fs keep k).isSome ∧ Sat wr (disk d2 (ordD fs k) :: disk d (ordD fs k) :: F) ∧ Env w wr) (fun _ _ i _ => 12 - (intOf i).toNat)
  case atStart => exact ⟨0, by omega, by omega, rfl, rfl, rfl, H2, E2⟩
  case round =>
    clear H2 E2
    obtain ⟨k, hk, hk2, rfl, rfl, rfl, H3, E3⟩ := hrel
    by_cases hlt : k < n
    · by_cases hlt2 : k < 12
      · have hkl : k < fs.length := by have := HN.out; omega
        obtain ⟨b, off, rfl, hcell⟩ := (HR.out wr H3.tail.tail).2 k (.int .u8 fs[k]) (by simp [bytes, hkl])
        have hxb := HB.out fs[k] (List.getElem_mem hkl)
        have hblt := block_lt_of_cell hcell
        obtain ⟨x, hx⟩ : ∃ x, fs[k] = x := ⟨_, rfl⟩
        have HX := Lib.hid hx
        have HXG := Lib.hid (show fs.getD k 0 = x by simp [hkl, hx])
        rw [hx] at hcell hxb
        clear hx
        go_wp2_with fail
        refine (sector_any x 128 H3 hxb (by omega)).mono ?_
        rintro e w4 ⟨v4, rfl, H4, E4⟩
        obtain ⟨A4, c4, rfl, -, -, -⟩ := H4.own_form
        go_wp2_with fail
        refine (dwrite 0 A4 c4 (sectorL x 128) H4.b2 (fun w H => H.own_at.1) (by simp [ordD]) (by simp [ordD]) (by simp [ordD]; omega)).mono ?_
        rintro e w5 ⟨rfl, H5, E5⟩
        rw [← HX.out, ordD_write fs k hkl, HX.out] at H5
        replace H5 := H5.b1.tail.b1
        replace E5 := (E3.trans E4).trans E5
        obtain ⟨b', off', hbb, hcell5⟩ := (HR.out w5 H5.tail.tail).2 k (.int .u8 x) (by have := HX.out; simp [bytes, hkl, this])
        cases hbb
        clear H3 H4 E3 E4 hcell
        go_wp2_with fail
        refine (sector_any x 128 H5 hxb (by omega)).mono ?_
        rintro e w6 ⟨v6, rfl, H6, E6⟩
        obtain ⟨A6, c6, rfl, -, -, -⟩ := H6.own_form
        go_wp2_with fail
        refine (dwrite 0 A6 c6 (sectorL x 128) H6.b1 (fun w H => H.own_at.1) (by simp [ordD]) (by simp [ordD]) (by simp [ordD]; omega)).mono ?_
        rintro e w7 ⟨rfl, H7, E7⟩
        rw [← HX.out, ordD_write fs k hkl, HX.out] at H7
        replace H7 := H7.b1.tail
        replace E7 := (E5.trans E6).trans E7
        obtain ⟨b', off', hbb, hcell7⟩ := (HR.out w7 H7.tail.tail).2 k (.int .u8 x) (by have := HX.out; simp [bytes, hkl, this])
        cases hbb
        clear H5 H6 E5 E6 hcell5
        by_cases hkn : k < nk
        · have hkl2 : k < keep.length := by have := HKN.out; omega
          obtain ⟨bK, oK, rfl, hcK⟩ := (HRK.out w7 H7.tail.tail).2 k (.bool keep[k]) (by simp [hkl2])
          have HKG := Lib.hid (show keep.getD k false = keep[k] by simp [hkl2])
          generalize keep[k] = kb at hcK HKG
          cases kb with
          | true =>
            have HL := Lib.hid (show lastK fs keep (k + 1) = some x by rw [lastK, HKG.out, HXG.out]; rfl)
            go_wp2_with fail
            go_roundw
            case rel => exact ⟨k + 1, by omega, by omega, by go_num, by rw [HL.out]; rfl, by rw [HL.out]; rfl, H7, E7⟩
            case measure => simp [intOf]; omega
          | false =>
            have HL := Lib.hid (show lastK fs keep (k + 1) = lastK fs keep k by rw [lastK, HKG.out]; rfl)
            go_wp2_with fail
            go_roundw
            case rel => exact ⟨k + 1, by omega, by omega, by go_num, by rw [HL.out], by rw [HL.out], H7, E7⟩
            case measure => simp [intOf]; omega
        · have HKG := Lib.hid (show keep.getD k false = false by have := HKN.out; simp [List.getElem?_eq_none (show keep.length ≤ k by omega)])
          have HL := Lib.hid (show lastK fs keep (k + 1) = lastK fs keep k by rw [lastK, HKG.out]; rfl)
          go_wp2_with fail
          go_roundw
          case rel => exact ⟨k + 1, by omega, by omega, by go_num, by rw [HL.out], by rw [HL.out], H7, E7⟩
          case measure => simp [intOf]; omega
      · as_aux_lemma =>
        have HK12 := Lib.hid (show k = 12 by omega)
        have hk0 : 0 < k := by omega
        have hkf : k ≤ fs.length := by have := HN.out; omega
        have CR := Lib.hid (crash_rd fs keep k hkf)
        have FR := Lib.hid (flush_rd fs k hkf)
        have HLK := Lib.hid (show ∀ f, lastK fs keep k = some f → 0 ≤ f ∧ f ≤ 255 from fun f hf => lastK_mem HB.out k hkf f hf)
        generalize lastK fs keep k = lk at *
        go_wp2_with fail
        refine (dcrash AK nk ck keep (-1) 0 H3.b1 (fun w H => HRK.out w H.tail) (by simp [ordD]; omega)).mono ?_
        rintro e w4 ⟨rfl, H4, E4⟩
        replace E4 := E3.trans E4
        generalize (ordD fs k).crash keep (-1) 0 = Dc at *
        go_wp2_with fail
        refine (dread 0 H4 (by rw [CR.out.2]; omega)).mono ?_
        rintro e w5 ⟨v5, rfl, H5, E5⟩
        replace E5 := E4.trans E5
        rw [CR.out.1] at H5
        obtain ⟨A5, c5, rfl, -, -, -⟩ := H5.own_form
        clear H3 E3 H4 E4
        go_upto_if 84 with (at_make; go_must (refine wpList_make_sat rfl _ _ 30 rfl H5 5 (.int .u8 0) 1 1 Try.underlying30 Try.info_byte _ _ 128 rfl rfl (by omega) (by simp only [maxLen]; omega) ?_); intro w6 H6 E6; rw [made_byte] at H6)
        replace E6 := E5.trans E6
        go_cut [14] from 84 to 86 (fun s14 wr => ∃ A14 c14, s14 = .slice A14 128 c14 ∧ Sat wr (own 5 1 (.slice A14 128 c14) 128 (bytes (keptL lk)) :: own 5 1 (.slice A5 128 c5) 128 (bytes (keptL lk)) :: disk d Dc :: disk d2 (ordD fs k) :: F) ∧ Env w wr)
        case first =>
          rcases lk with _ | f
          · go_wp2_with fail
            go_meet
            case rel => exact ⟨_, _, rfl, H6, E6⟩
          · have hfb := HLK.out f rfl
            go_wp2_with fail
            refine (sector_any f 128 H6.tail hfb (by omega)).mono ?_
            rintro e w7 ⟨v7, rfl, H7, E7⟩
            obtain ⟨A7, c7, rfl, -, -, -⟩ := H7.own_form
            have E7' := E6.trans E7
            go_wp2_with fail
            go_meet
            case rel => exact ⟨_, _, rfl, H7, E7'⟩
        case rest =>
        clear H5 E5 H6 E6
        obtain ⟨A14, c14, rfl, H7, E7⟩ := hcut
        generalize keptL lk = KL at *
        have hcv1 := conv_rd (c := c14) H7.own_at.1 (by omega)
        have hcv2 := conv_rd (c := c5) H7.b1.own_at.1 (by omega)
        go_wp2_with fail
        refine (dflush H7.b3 (by simp [ordD]) (by simp [ordD]; omega)).mono ?_
        rintro e w8 ⟨rfl, H8, E8⟩
        replace E8 := E7.trans E8
        replace H8 : Sat w8 (disk d2 (ordE fs k) :: F) := H8.b1.tail.b1.tail.b1.tail
        clear H7 E7 hcv1 hcv2
        go_wp2_with fail
        refine (dpending H8).mono ?_
        rintro e wx ⟨rfl, rfl⟩
        rw [show (ordE fs k).pend.length = 0 from rfl]
        go_wp2_with fail
        refine (dcrash none 0 0 [] (-1) 0 H8 (fun w _ => Rd.nil _ _ _) (by rw [show (ordE fs k).pend.length = 0 from rfl]; omega)).mono ?_
        rintro e w9 ⟨rfl, H9, E9⟩
        replace E9 := E8.trans E9
        generalize (ordE fs k).crash [] (-1) 0 = De at *
        go_wp2_with fail
        refine (dread 0 H9 (by rw [FR.out.2]; omega)).mono ?_
        rintro e w10 ⟨v10, rfl, H10, E10⟩
        replace E10 := E9.trans E10
        rw [FR.out.1] at H10
        obtain ⟨A10, c10, rfl, -, -, -⟩ := H10.own_form
        clear H8 E8 H9 E9
        go_upto_if 116 with fail
        go_cut [17] from 115 to 116 (fun s17 wr => s17 = .int .i64 k ∧ wr = w10)
        case first =>
          go_wp2_with fail
          go_meet
          case rel => exact ⟨by rw [HK12.out]; rfl, rfl⟩
        case rest =>
        obtain ⟨rfl, hw⟩ := hcut
        rw [hw]
        clear hw wc
        obtain ⟨j, hj⟩ : ∃ j : Nat, k - 1 = j := ⟨_, rfl⟩
        have hjk : j < k := by omega
        have hjn : j < n := by omega
        have hwn : IntKind.i64.wrap ((k : Int) - 1) = (j : Int) := by rw [IntWalk.i64_in _ (by omega)]; omega
        rw [if_neg (show ¬ k = 0 by omega), hj] at H10
        obtain ⟨b, off, rfl, hcell⟩ := (HR.out w10 H10.tail.tail).2 j (.int .u8 (fs.getD j 0)) (by have := HN.out; simp [bytes, show j < fs.length by omega])
        have hyb := HB.out (fs.getD j 0) (by have := HN.out; rw [List.getD_eq_getElem?_getD, List.getElem?_eq_getElem (show j < fs.length by omega)]; exact List.getElem_mem _)
        have HY := Lib.hid (show ∀ w, Sat w F → w.cell? ⟨b, off + j, none⟩ = some (.int .u8 (fs.getD j 0)) from fun w h => by
          obtain ⟨b', off', h1, h2⟩ := (HR.out w h).2 j (.int .u8 (fs.getD j 0)) (by have := HN.out; simp [bytes, show j < fs.length by omega])
          cases h1; exact h2)
        generalize fs.getD j 0 = y at *
        have hcv10 := conv_rd (c := c10) H10.drew.own_at.1 (by omega)
        go_upto_region 28 with fail
        go_region_with (first
          | (go_at_call 23; refine (sector_any y 128 H10.drew hyb (by omega)).mono ?_; rintro e w11 ⟨v11, rfl, H11, E11⟩; obtain ⟨A11, c11, rfl, -, -, -⟩ := H11.own_form; have hcv11 := conv_rd (c := c11) H11.own_at.1 (by omega); have hcv12 := conv_rd (c := c10) H11.b1.own_at.1 (by omega))
          | (go_at_call 28; refine (known3 H11).mono ?_; rintro e w12 ⟨rfl, H12, E12⟩))
        all_goals
          go_wp2_with fail
          go_ret
          exact ⟨rfl, H12.tail.tail.tail, (E10.drew.trans E11).trans E12⟩
    · as_aux_lemma =>
      obtain rfl : k = n := by omega
      have hkf : k ≤ fs.length := by have := HN.out; omega
      have CR := Lib.hid (crash_rd fs keep k hkf)
      have FR := Lib.hid (flush_rd fs k hkf)
      have HLK := Lib.hid (show ∀ f, lastK fs keep k = some f → 0 ≤ f ∧ f ≤ 255 from fun f hf => lastK_mem HB.out k hkf f hf)
      generalize lastK fs keep k = lk at *
      go_wp2_with fail
      refine (dcrash AK nk ck keep (-1) 0 H3.b1 (fun w H => HRK.out w H.tail) (by simp [ordD]; omega)).mono ?_
      rintro e w4 ⟨rfl, H4, E4⟩
      replace E4 := E3.trans E4
      generalize (ordD fs k).crash keep (-1) 0 = Dc at *
      go_wp2_with fail
      refine (dread 0 H4 (by rw [CR.out.2]; omega)).mono ?_
      rintro e w5 ⟨v5, rfl, H5, E5⟩
      replace E5 := E4.trans E5
      rw [CR.out.1] at H5
      obtain ⟨A5, c5, rfl, -, -, -⟩ := H5.own_form
      clear H3 E3 H4 E4
      go_upto_if 84 with (at_make; go_must (refine wpList_make_sat rfl _ _ 30 rfl H5 5 (.int .u8 0) 1 1 Try.underlying30 Try.info_byte _ _ 128 rfl rfl (by omega) (by simp only [maxLen]; omega) ?_); intro w6 H6 E6; rw [made_byte] at H6)
      replace E6 := E5.trans E6
      go_cut [14] from 84 to 86 (fun s14 wr => ∃ A14 c14, s14 = .slice A14 128 c14 ∧ Sat wr (own 5 1 (.slice A14 128 c14) 128 (bytes (keptL lk)) :: own 5 1 (.slice A5 128 c5) 128 (bytes (keptL lk)) :: disk d Dc :: disk d2 (ordD fs k) :: F) ∧ Env w wr)
      case first =>
        rcases lk with _ | f
        · go_wp2_with fail
          go_meet
          case rel => exact ⟨_, _, rfl, H6, E6⟩
        · have hfb := HLK.out f rfl
          go_wp2_with fail
          refine (sector_any f 128 H6.tail hfb (by omega)).mono ?_
          rintro e w7 ⟨v7, rfl, H7, E7⟩
          obtain ⟨A7, c7, rfl, -, -, -⟩ := H7.own_form
          have E7' := E6.trans E7
          go_wp2_with fail
          go_meet
          case rel => exact ⟨_, _, rfl, H7, E7'⟩
      case rest =>
      clear H5 E5 H6 E6
      obtain ⟨A14, c14, rfl, H7, E7⟩ := hcut
      generalize keptL lk = KL at *
      have hcv1 := conv_rd (c := c14) H7.own_at.1 (by omega)
      have hcv2 := conv_rd (c := c5) H7.b1.own_at.1 (by omega)
      go_wp2_with fail
      refine (dflush H7.b3 (by simp [ordD]) (by simp [ordD]; omega)).mono ?_
      rintro e w8 ⟨rfl, H8, E8⟩
      replace E8 := E7.trans E8
      replace H8 : Sat w8 (disk d2 (ordE fs k) :: F) := H8.b1.tail.b1.tail.b1.tail
      clear H7 E7 hcv1 hcv2
      go_wp2_with fail
      refine (dpending H8).mono ?_
      rintro e wx ⟨rfl, rfl⟩
      rw [show (ordE fs k).pend.length = 0 from rfl]
      go_wp2_with fail
      refine (dcrash none 0 0 [] (-1) 0 H8 (fun w _ => Rd.nil _ _ _) (by rw [show (ordE fs k).pend.length = 0 from rfl]; omega)).mono ?_
      rintro e w9 ⟨rfl, H9, E9⟩
      replace E9 := E8.trans E9
      generalize (ordE fs k).crash [] (-1) 0 = De at *
      go_wp2_with fail
      refine (dread 0 H9 (by rw [FR.out.2]; omega)).mono ?_
      rintro e w10 ⟨v10, rfl, H10, E10⟩
      replace E10 := E9.trans E10
      rw [FR.out.1] at H10
      obtain ⟨A10, c10, rfl, -, -, -⟩ := H10.own_form
      clear H8 E8 H9 E9
      by_cases hn0 : k = 0
      · subst hn0
        go_wp2_with fail
        refine (known3 H10.tail.tail).mono ?_
        rintro e w11 ⟨rfl, H11, E11⟩
        go_wp2_with fail
        go_ret
        exact ⟨rfl, H11, E10.trans E11⟩
      · obtain ⟨j, hj⟩ : ∃ j : Nat, k - 1 = j := ⟨_, rfl⟩
        have hjk : j < k := by omega
        have hwn : IntKind.i64.wrap ((k : Int) - 1) = (j : Int) := by rw [IntWalk.i64_in _ (by omega)]; omega
        rw [if_neg (show ¬ k = 0 by omega), hj] at H10
        obtain ⟨b, off, rfl, hcell⟩ := (HR.out w10 H10.tail.tail).2 j (.int .u8 (fs.getD j 0)) (by have := HN.out; simp [bytes, show j < fs.length by omega])
        have hyb := HB.out (fs.getD j 0) (by have := HN.out; rw [List.getD_eq_getElem?_getD, List.getElem?_eq_getElem (show j < fs.length by omega)]; exact List.getElem_mem _)
        have HY := Lib.hid (show ∀ w, Sat w F → w.cell? ⟨b, off + j, none⟩ = some (.int .u8 (fs.getD j 0)) from fun w h => by
          obtain ⟨b', off', h1, h2⟩ := (HR.out w h).2 j (.int .u8 (fs.getD j 0)) (by have := HN.out; simp [bytes, show j < fs.length by omega])
          cases h1; exact h2)
        generalize fs.getD j 0 = y at *
        have hcv10 := conv_rd (c := c10) H10.drew.own_at.1 (by omega)
        go_upto_region 28 with fail
        go_region_with (first
          | (go_at_call 23; refine (sector_any y 128 H10.drew hyb (by omega)).mono ?_; rintro e w11 ⟨v11, rfl, H11, E11⟩; obtain ⟨A11, c11, rfl, -, -, -⟩ := H11.own_form; have hcv11 := conv_rd (c := c11) H11.own_at.1 (by omega); have hcv12 := conv_rd (c := c10) H11.b1.own_at.1 (by omega))
          | (go_at_call 28; refine (known3 H11).mono ?_; rintro e w12 ⟨rfl, H12, E12⟩))
        all_goals
          go_wp2_with fail
          go_ret
          exact ⟨rfl, H12.tail.tail.tail, (E10.drew.trans E11).trans E12⟩
end Go.Proofs.Ythbabdjicplooaa
