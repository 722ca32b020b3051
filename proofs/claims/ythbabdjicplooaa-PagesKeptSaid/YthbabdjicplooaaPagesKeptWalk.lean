/- PagesKept's walk. Conditions: none. -/
import Derived.Test.YthbabdjicplooaaPageM
namespace Go.Proofs.Ythbabdjicplooaa
open Go.RowKit

theorem Sat.ownB_one {w : World} {v : Value} {b : List Int} {F : List HP} (H : Sat w (ownB [(v, b)] :: F)) : Sat w (own 5 1 v b.length (bytes b) :: F) := H.open_all

set_option maxHeartbeats 8000000 in
set_option maxRecDepth 100000 in
theorem pagesKept_any {w : World} {F : List HP} (x : Int) (H : Sat w F) (hx : 0 ≤ x ∧ x ≤ 255) :
    Calls Try.prog 17 #[.int .u8 x] w fun e w' => e = .returned (.bool true) ∧ Sat w' F ∧ Env w w' := by
  have HX := Lib.hid hx
  clear hx
  go_enter Try.func17, Try.ntmps17
  go_wp2_with fail
  refine (begun5 H).mono ?_
  rintro e w2 ⟨d, s, p, D, rfl, hC, hl, H2, E2⟩
  have HC := Lib.hid hC
  have HL := Lib.hid hl
  clear hC hl H
  go_wp2_with fail
  refine (page5 x H2 HX.out).mono ?_
  rintro e w3 ⟨v3, rfl, H3, E3⟩
  obtain ⟨g3, c3, rfl, -⟩ := H3.own_addr (by omega)
  have H4 := H3.sheet_one (n := 5) (pageL_len x)
  have E4 := (E2.trans E3).alloc (.cells #[.int .i64 5, .slice (some ⟨g3, 0, none⟩) 1024 c3] 98)
  have HS := Lib.hid (shs_one (n := 5) (c := c3) (x := x) (A := some ⟨g3, 0, none⟩) (by omega))
  clear H2 E2 H3 E3
  go_wp2_with fail
  generalize w3.alloc (.cells #[.int .i64 5, .slice (some ⟨g3, 0, none⟩) 1024 c3] 98) = w4 at *
  refine (pput_fine _ 1 1 _ H4.b4.b4.b4 HS.out (by simp) HC.out HL.out (by omega)).mono ?_
  rintro e w5 ⟨D5, L5, rfl, hC5, hl5, H5, E5⟩
  have HC5 := Lib.hid hC5
  have E5' := E4.trans E5
  have H6 : Sat w5 (own 5 1 (.slice (some ⟨g3, 0, none⟩) 1024 c3) 1024 (bytes (pageL x)) :: sto s d p (D5.rd 7679) :: disk d D5 :: F) := by
    have h := (Sat.ownB_one (show Sat w5 (ownB [((.slice (some ⟨g3, 0, none⟩) 1024 c3 : Value), pageL x)] :: _) from H5.b4)).b2.tail
    rw [pageL_len] at h
    exact h.b3.tail
  clear hC5 hl5 H4 E4 H5 E5 HC HL HS
  generalize bytes (pageL x) = xs0 at H6
  go_wp2_with fail
  go_loopw [7] (fun i wr => ∃ (k : Nat) (xs : List Value), k ≤ 1024 ∧ i = .int .i64 k ∧ Sat wr (own 5 1 (.slice (some ⟨g3, 0, none⟩) 1024 c3) 1024 xs :: sto s d p (D5.rd 7679) :: disk d D5 :: F) ∧ Env w wr) (fun i _ => 1024 - (intOf i).toNat)
  case atStart => exact ⟨0, _, by omega, rfl, H6, E5'⟩
  case round =>
    clear H6 E5'
    obtain ⟨k, xs, hk, rfl, H6, E6⟩ := hrel
    by_cases hlt : k < 1024
    · have hxl : xs.length = 1024 := by have := H6.own_at.1.1; omega
      have hcell := H6.own_cell k xs[k] (List.getElem?_eq_getElem (by omega))
      generalize xs[k] = y at hcell
      have hfree := H6.own_free (by omega) k
      have H7 := Lib.hid (H6.own_set (i := k) (by omega) (.int .u8 9))
      have E7 := Lib.hid (E6.set ⟨g3, k, none⟩ (.int .u8 9))
      clear hxl
      go_wp2_with fail
      go_roundw
      case rel => exact ⟨k + 1, _, by omega, by go_num, H7.out, E7.out⟩
      case measure => simp [intOf]; omega
    · obtain rfl : k = 1024 := by omega
      have H7 := H6.tail
      clear hlt H6
      go_wp2_with fail
      refine (pread_fine (G := []) 5 (by omega) H7 HC5.out).mono ?_
      rintro e w8 ⟨v8, rfl, H8, E8⟩
      obtain ⟨g8, c8, rfl, -⟩ := H8.own_addr (by omega)
      rw [show updR zeroM [((5 : Int), .slice (some ⟨g3, 0, none⟩) 1024 c3, pageL x)] 5 = pageL x from rfl] at H8
      have E8' := E6.trans E8
      generalize bytes (pageL x) = xs0 at H8
      clear H7 E6 E8
      go_wp2_with fail
      go_loopw [10] (fun i wr => ∃ (k : Nat) (xs : List Value), k ≤ 1024 ∧ i = .int .i64 k ∧ Sat wr (own 5 1 (.slice (some ⟨g8, 0, none⟩) 1024 c8) 1024 xs :: sto s d p (D5.rd 7679) :: disk d D5 :: F) ∧ Env w wr) (fun i _ => 1024 - (intOf i).toNat)
      case atStart => exact ⟨0, _, by omega, rfl, H8, E8'⟩
      case round =>
        clear H8 E8'
        obtain ⟨k, xs, hk, rfl, H6, E6⟩ := hrel
        by_cases hlt : k < 1024
        · have hxl : xs.length = 1024 := by have := H6.own_at.1.1; omega
          have hcell := H6.own_cell k xs[k] (List.getElem?_eq_getElem (by omega))
          generalize xs[k] = y at hcell
          have hfree := H6.own_free (by omega) k
          have H7 := Lib.hid (H6.own_set (i := k) (by omega) (.int .u8 8))
          have E7 := Lib.hid (E6.set ⟨g8, k, none⟩ (.int .u8 8))
          clear hxl
          go_wp2_with fail
          go_roundw
          case rel => exact ⟨k + 1, _, by omega, by go_num, H7.out, E7.out⟩
          case measure => simp [intOf]; omega
        · obtain rfl : k = 1024 := by omega
          have H7 := H6.tail
          clear hlt H6
          go_wp2_with fail
          refine (pread_fine (G := []) 5 (by omega) H7 HC5.out).mono ?_
          rintro e w8 ⟨v8, rfl, H8, E8⟩
          obtain ⟨A8, c8, rfl, -, -, -⟩ := H8.own_form
          rw [show updR zeroM [((5 : Int), .slice (some ⟨g3, 0, none⟩) 1024 c3, pageL x)] 5 = pageL x from rfl] at H8
          have E8' := E6.trans E8
          clear H7 E6 E8
          go_upto_region 17 with fail
          obtain ⟨s1, hs1⟩ : ∃ s1, strOfNums (pageL x) = s1 := ⟨_, rfl⟩
          have KS := Lib.hid (fun (w : World) (G : List HP) (H : Sat w (own 5 1 (.slice A8 1024 c8) 1024 (bytes (pageL x)) :: G)) => show (convert 30 9 (.slice A8 1024 c8)).run Try.prog w = .ok (.string s1) w from hs1 ▸ conv_any H.own_at.1)
          have KC := Lib.hid hs1
          clear hs1
          have k0 := KS.out w8.drew _ H8.drew
          refine wp_region_held_drew (S := fun w' => (convert 30 9 (.slice A8 1024 c8)).run Try.prog w' = .ok (.string s1) w') (by kernel_rfl) k0 (fun hHeld => ?_)
          refine' wpAnyH_take (i := 0) (oi := _) (v := _) rfl (by kernel_rfl) (by kernel_rfl) (by kernel_rfl) (fun _ _ _ h => h) (Or.inl ⟨by rfl, ?hy0x1⟩) hHeld ?rest0x1
          case hy0x1 => (intro w' hSw; (try dsimp only at hSw); go_simp; try with_reducible rfl)
          simp only [List.getElem_toArray, List.getElem_cons_zero, List.getElem_cons_succ, Act.put, List.setIfInBounds_toArray, List.set_cons_zero, List.set_cons_succ]
          refine' wpAnyH_take (i := 1) (oi := _) (v := _) rfl (by kernel_rfl) (by kernel_rfl) (by kernel_rfl) (fun _ _ _ h => h) (Or.inl ⟨by rfl, ?hy1x2⟩) hHeld ?rest1x2
          case hy1x2 => (intro w' hSw; (try dsimp only at hSw); go_simp; try with_reducible rfl)
          simp only [List.getElem_toArray, List.getElem_cons_zero, List.getElem_cons_succ, Act.put, List.setIfInBounds_toArray, List.set_cons_zero, List.set_cons_succ]
          refine' wpAnyH_take (i := 2) (oi := _) (v := _) rfl (by kernel_rfl) (by kernel_rfl) (by kernel_rfl) (fun _ _ _ h => h) (Or.inl ⟨by rfl, ?hy2x3⟩) hHeld ?rest2x3
          case hy2x3 => (intro w' hSw; (try dsimp only at hSw); go_simp; try with_reducible rfl)
          simp only [List.getElem_toArray, List.getElem_cons_zero, List.getElem_cons_succ, Act.put, List.setIfInBounds_toArray, List.set_cons_zero, List.set_cons_succ]
          refine wpAnyH_ready (rs := [3]) (by kernel_rfl) (by simp) ?_
          refine AllReadyH.cons (o := _) rfl (fun K hK => ?_) AllReadyH.nil
          rw [if_pos (by rfl)]
          go_simp
          go_at_call 61
          refine (page5 x H8.drew HX.out).mono ?_
          rintro e w10 ⟨v10, rfl, H10, E10⟩
          obtain ⟨A10, c10, rfl, -, -, -⟩ := H10.own_form
          refine hK.out _ _ (KS.out _ _ H10.tail) (fun hHeld2 => ?_)
          clear hK K
          try simp only [List.getElem_toArray, List.getElem_cons_zero, List.getElem_cons_succ, Act.put, List.setIfInBounds_toArray, List.set_cons_zero, List.set_cons_succ]
          refine wpAnyH_ready (rs := [4]) (by kernel_rfl) (by simp) ?_
          refine AllReadyH.cons (o := _) rfl (fun K hK => ?_) AllReadyH.nil
          refine step_conv (by rfl) 30 9 (.tmp 59) rfl (.slice A10 1024 c10) (.string s1) rfl (KC.out ▸ conv_any H10.own_at.1) ?_
          refine hK.out _ _ hHeld2 (fun hHeld3 => ?_)
          clear hK K
          try simp only [List.getElem_toArray, List.getElem_cons_zero, List.getElem_cons_succ, Act.put, List.setIfInBounds_toArray, List.set_cons_zero, List.set_cons_succ]
          refine' wpAnyH_take (i := 5) (oi := _) (v := _) rfl (by kernel_rfl) (by kernel_rfl) (by kernel_rfl) (fun _ _ _ h => h) (Or.inl ⟨by rfl, ?hy5x4⟩) hHeld3 ?rest5x4
          case hy5x4 => (intro w' hSw; (try dsimp only at hSw); go_simp; try with_reducible rfl)
          simp only [List.getElem_toArray, List.getElem_cons_zero, List.getElem_cons_succ, Act.put, List.setIfInBounds_toArray, List.set_cons_zero, List.set_cons_succ]
          refine' wpAnyH_take (i := 6) (oi := _) (v := _) rfl (by kernel_rfl) (by kernel_rfl) (by kernel_rfl) (fun _ _ _ h => h) (Or.inl ⟨by rfl, ?hy6x5⟩) hHeld3 ?rest6x5
          case hy6x5 => (intro w' hSw; (try dsimp only at hSw); go_simp; try with_reducible rfl)
          simp only [List.getElem_toArray, List.getElem_cons_zero, List.getElem_cons_succ, Act.put, List.setIfInBounds_toArray, List.set_cons_zero, List.set_cons_succ]
          refine wpAnyH_ready (rs := [7]) (by kernel_rfl) (by simp) ?_
          refine AllReadyH.cons (o := _) rfl (fun K hK => ?_) AllReadyH.nil
          rw [if_pos (by rfl)]
          go_simp
          go_at_call 63
          refine (known5 H10).mono ?_
          rintro e w11 ⟨rfl, H11, E11⟩
          refine hK.out _ _ (KS.out _ _ H11.tail) (fun hHeld4 => ?_)
          clear hK K
          try simp only [List.getElem_toArray, List.getElem_cons_zero, List.getElem_cons_succ, Act.put, List.setIfInBounds_toArray, List.set_cons_zero, List.set_cons_succ]
          refine' wpAnyH_take (i := 8) (oi := _) (v := _) rfl (by kernel_rfl) (by kernel_rfl) (by kernel_rfl) (fun _ _ _ h => h) (Or.inl ⟨by rfl, ?hy8x6⟩) hHeld4 ?rest8x6
          case hy8x6 => (intro w' hSw; (try dsimp only at hSw); go_simp; try with_reducible rfl)
          simp only [List.getElem_toArray, List.getElem_cons_zero, List.getElem_cons_succ, Act.put, List.setIfInBounds_toArray, List.set_cons_zero, List.set_cons_succ]
          refine' wpAnyH_take (i := 9) (oi := _) (v := _) rfl (by kernel_rfl) (by kernel_rfl) (by kernel_rfl) (fun _ _ _ h => h) (Or.inl ⟨by rfl, ?hy9x7⟩) hHeld4 ?rest9x7
          case hy9x7 => (intro w' hSw; (try dsimp only at hSw); go_simp; try with_reducible rfl)
          simp only [List.getElem_toArray, List.getElem_cons_zero, List.getElem_cons_succ, Act.put, List.setIfInBounds_toArray, List.set_cons_zero, List.set_cons_succ]
          refine wpAnyH_done (by kernel_rfl) ?_ _
          have E12 := (E8'.drew.trans E10).trans E11
          have H12 := H11.tail.tail.tail.tail
          clear H8 H10 H11 E8' E10 E11 hHeld hHeld2 hHeld3 hHeld4 k0 KS KC
          go_wp2_with fail
          go_ret
          exact ⟨rfl, H12, E12⟩
end Go.Proofs.Ythbabdjicplooaa
