/- PagesStop's walk. Conditions: none. -/
import Derived.Test.YthbabdjicplooaaPageN
namespace Go.Proofs.Ythbabdjicplooaa
open Go.RowKit

set_option maxHeartbeats 16000000 in
set_option maxRecDepth 100000 in
theorem pagesStop_any {w : World} {F : List HP} (x0 a b : Int) (AK : Option Addr) (nk ck : Nat) (keep : List Bool) (torn nb : Int) (H : Sat w F) (hrk : Reads F 1 AK nk (keep.map Value.bool)) (ha : 0 ≤ a ∧ a ≤ 255) (hb : 0 ≤ b ∧ b ≤ 255) :
    Calls Try.prog 20 #[.int .i64 x0, .int .u8 a, .int .u8 b, .agg #[.slice AK nk ck, .int .i64 torn, .int .i64 nb]] w fun e w' => e = .returned (.bool true) ∧ Sat w' F ∧ Env w w' := by
  have HRK := Lib.hid hrk
  have HAB := Lib.hid (And.intro ha hb)
  clear hrk ha hb
  go_enter Try.func20, Try.ntmps20
  go_upto_region 1 with fail
  have H0 := H.alloc (.cells #[.slice AK nk ck, .int .i64 torn, .int .i64 nb] 24)
  have E0 := (Env.refl w).alloc (.cells #[.slice AK nk ck, .int .i64 torn, .int .i64 nb] 24)
  generalize w.alloc (.cells #[.slice AK nk ck, .int .i64 torn, .int .i64 nb] 24) = wa at *
  generalize w.heap.size = bx at *
  clear H
  go_wp2_with fail
  refine (begun5 H0).mono ?_
  rintro e w2 ⟨d, s, p, D, rfl, hC, hl, H2, E2⟩
  have HC := Lib.hid hC
  have HL := Lib.hid hl
  replace E2 := E0.trans E2
  clear hC hl H0 E0
  go_wp2_with fail
  refine (page5 1 H2 (by omega)).mono ?_
  rintro e w3 ⟨v3, rfl, H3, E3⟩
  obtain ⟨A3, c3, rfl, -, -, -⟩ := H3.own_form
  replace E3 := E2.trans E3
  clear H2 E2
  go_wp2_with fail
  refine (page5 2 H3 (by omega)).mono ?_
  rintro e w4 ⟨v4, rfl, H4, E4⟩
  obtain ⟨A4, c4, rfl, -, -, -⟩ := H4.own_form
  have H5 := H4.sheet_two (n := 1) (n2 := 400) (pageL_len 1) (pageL_len 2)
  have E5 := (E3.trans E4).alloc (.cells #[.int .i64 1, .slice A3 1024 c3, .int .i64 400, .slice A4 1024 c4] 98)
  have HS := Lib.hid (shs_two (n := 1) (n2 := 400) (c := c3) (c2 := c4) (x := 1) (x2 := 2) (A := A3) (A2 := A4) (by omega) (by omega) (by omega))
  clear H3 E3 H4 E4
  go_wp2_with fail
  generalize w4.alloc (.cells #[.int .i64 1, .slice A3 1024 c3, .int .i64 400, .slice A4 1024 c4] 98) = w5 at *
  refine (pput_fine _ 2 2 _ H5.b4.b4.b4 HS.out (by simp) HC.out HL.out (by omega)).mono ?_
  rintro e w6 ⟨D6, L6, rfl, hC6, hl6, H6, E6⟩
  have HM := Lib.hid (show updR zeroM [(((1 : Nat) : Int), .slice A3 1024 c3, pageL 1), (((400 : Nat) : Int), .slice A4 1024 c4, pageL 2)] 1 = pageL 1 ∧ updR zeroM [(((1 : Nat) : Int), .slice A3 1024 c3, pageL 1), (((400 : Nat) : Int), .slice A4 1024 c4, pageL 2)] 400 = pageL 2 from ⟨rfl, rfl⟩)
  generalize updR zeroM [(((1 : Nat) : Int), .slice A3 1024 c3, pageL 1), (((400 : Nat) : Int), .slice A4 1024 c4, pageL 2)] = m1 at *
  have HC6 := Lib.hid hC6
  have E6' := E5.trans E6
  have H6' := H6.b3.tail.b3.tail
  clear hC6 hl6 HC HL HS H5 E5 H6 E6
  go_wp2_with fail
  refine (within_any x0 0 60 _ (by omega) (by omega) (by omega)).mono ?_
  rintro e wq ⟨rfl, hwq⟩
  subst hwq
  obtain ⟨k, hk⟩ : ∃ k, within x0 0 60 = k := ⟨_, rfl⟩
  have HK := Lib.hid (show k ≤ 9223372036854775807 from by have := within_range x0 (lo := 0) (hi := 60) (by omega); omega)
  rw [hk]
  clear hk
  go_wp2_with fail
  refine (dstop k H6'.b2 HK.out).mono ?_
  rintro e w7 ⟨rfl, H7, E7⟩
  have HC7 := Lib.hid (HC6.out.stopped (some k.toNat))
  have H7' : Sat w7 (sto s d p ((⟨D6.safe, D6.pend, some k.toNat⟩ : Dsk).rd 7679) :: logc p d L6 :: disk d ⟨D6.safe, D6.pend, some k.toNat⟩ :: row bx 24 #[.slice AK nk ck, .int .i64 torn, .int .i64 nb] :: F) := H7.p2
  have HC7' := Lib.hid (show Clean ⟨D6.safe, D6.pend, some k.toNat⟩ L6 (1 + 1) m1 from HC7.out)
  generalize (⟨D6.safe, D6.pend, some k.toNat⟩ : Dsk) = D7 at *
  have E7' := E6'.trans E7
  clear HC6 HC7 H6' E6' H7 E7 HK
  go_wp2_with fail
  refine (page5 a H7' HAB.out.1).mono ?_
  rintro e w8 ⟨v8, rfl, H8, E8⟩
  obtain ⟨A8, c8, rfl, -, -, -⟩ := H8.own_form
  replace E8 := E7'.trans E8
  clear H7' E7'
  go_wp2_with fail
  refine (page5 b H8 HAB.out.2).mono ?_
  rintro e w9 ⟨v9, rfl, H9, E9⟩
  obtain ⟨A9, c9, rfl, -, -, -⟩ := H9.own_form
  have H10 := H9.sheet_two (n := 1) (n2 := 400) (pageL_len a) (pageL_len b)
  have E10 := (E8.trans E9).alloc (.cells #[.int .i64 1, .slice A8 1024 c8, .int .i64 400, .slice A9 1024 c9] 98)
  have HS := Lib.hid (shs_two (n := 1) (n2 := 400) (c := c8) (c2 := c9) (x := a) (x2 := b) (A := A8) (A2 := A9) (by omega) (by omega) (by omega))
  clear H8 E8 H9 E9
  go_wp2_with fail
  generalize w9.alloc (.cells #[.int .i64 1, .slice A8 1024 c8, .int .i64 400, .slice A9 1024 c9] 98) = w10 at *
  refine (pput_own _ 2 2 _ H10.b4.b4.b4 (fun q hq => (HS.out.ok q hq).inb) (by omega) HC7'.out (by omega)).mono ?_
  rintro e w11 ⟨r, S11, D11, L11, rfl, hP, H11, E11⟩
  have HN := Lib.hid (show ∀ m, updR m [(((1 : Nat) : Int), .slice A8 1024 c8, pageL a), (((400 : Nat) : Int), .slice A9 1024 c9, pageL b)] 1 = pageL a ∧ updR m [(((1 : Nat) : Int), .slice A8 1024 c8, pageL a), (((400 : Nat) : Int), .slice A9 1024 c9, pageL b)] 400 = pageL b from fun m => ⟨rfl, rfl⟩)
  have HW := Lib.hid (hP.put HS.out (by simp)).1
  have H12 := H11.tail.tail.b1.tail.b1.tail
  have E12 := E10.trans E11
  have HPN := Lib.hid HW.out.pend
  have y0 := H12.b1.cell 0
  have y1 := H12.b1.cell 1
  have y2 := H12.b1.cell 2
  obtain ⟨R2, hR2⟩ : ∃ R2 : List Sh, [(((1 : Nat) : Int), .slice A8 1024 c8, pageL a), (((400 : Nat) : Int), .slice A9 1024 c9, pageL b)] = R2 := ⟨_, rfl⟩
  have HN : Hid (∀ m, updR m R2 1 = pageL a ∧ updR m R2 400 = pageL b) := Lib.hid (by rw [← hR2]; exact fun m => ⟨rfl, rfl⟩)
  replace HS : Hid (Shs R2) := hR2 ▸ HS
  replace HW : Hid (PutW D7 D11 L11 (1 + 1) m1 R2 r) := hR2 ▸ HW
  have HA := Lib.hid (show ∃ m0 R0, After (D11.crash keep torn nb) (1 + 1 + 1) m0 R0 ∧ Shs R0 ∧ ∀ m', m' = m0 ∨ m' = updR m0 R0 → (m' 1 = pageL a ∧ m' 400 = pageL b) ∨ ((r != 0) = true ∧ m' 1 = pageL 1 ∧ m' 400 = pageL 2) from by
    have hc := HW.out.crash keep torn nb
    rcases HW.out.or with rfl | rfl
    · refine ⟨_, _, hc.2 rfl, Shs.nil, fun m' hm => .inl ?_⟩
      rcases hm with rfl | rfl
      · exact HN.out m1
      · exact HN.out m1
    · refine ⟨_, _, hc.1, HS.out, fun m' hm => ?_⟩
      rcases hm with rfl | rfl
      · exact .inr ⟨rfl, HM.out⟩
      · exact .inl (HN.out _))
  clear hR2 hP H11 E10 E11 H10 HM HN HS HW HC7'
  go_wp2_with fail
  refine (dcrash AK nk ck keep torn nb H12 (fun w h => HRK.out w h.tail) (by have := HPN.out; omega)).mono ?_
  rintro e w13 ⟨rfl, H13, E13⟩
  obtain ⟨m0, R0, hA0, hS0, hm0⟩ := HA.out
  have HA0 := Lib.hid hA0
  have HS0 := Lib.hid hS0
  have HM0 := Lib.hid hm0
  have HL13 := Lib.hid (show (D11.crash keep torn nb).left = none from rfl)
  generalize D11.crash keep torn nb = D13 at *
  have E13' := E12.trans E13
  have H13' := H13
  clear hA0 hS0 hm0 HA H12 E12 E13 y0 y1 y2 HPN H13
  go_wp2_with fail
  refine (popen_after H13' HA0.out HS0.out (by omega)).mono ?_
  rintro e w14 ⟨r14, s14, p14, D14, L14, m', hW, rfl, hS14, -, E14⟩
  obtain ⟨rfl, -⟩ := hW.fine HL13.out
  obtain ⟨hmm, hC14⟩ := hW.ok rfl
  have H14 := (hS14 rfl).b1.tail
  have HC14 := Lib.hid hC14
  have HXY := Lib.hid (HM0.out m' hmm)
  have E14' := E13'.trans E14
  rw [if_pos rfl]
  clear hW hS14 hmm hC14 H13' E13' E14 HM0 HA0 HS0 HL13 HRK
  go_wp2_with fail
  refine (pread_fine (G := []) 1 (by omega) H14 HC14.out).mono ?_
  rintro e w15 ⟨v15, rfl, H15, E15⟩
  obtain ⟨AX, cX, rfl, -, -, -⟩ := H15.own_form
  go_wp2_with fail
  refine (pread_fine (G := []) 400 (by omega) H15.b2.b2 HC14.out).mono ?_
  rintro e w16 ⟨v16, rfl, H16, E16⟩
  obtain ⟨AY, cY, rfl, -, -, -⟩ := H16.own_form
  have H17 := H16.b3.b2.tail.b2.tail.b2.tail
  have E17 := (E14'.trans E15).trans E16
  generalize m' 1 = X at *
  generalize m' 400 = Y at *
  clear H14 E14' H15 E15 H16 E16 HC14
  have HXB := Lib.hid (show InB X ∧ InB Y from by
    rcases HXY.out with ⟨rfl, rfl⟩ | ⟨-, rfl, rfl⟩
    · exact ⟨pageL_in _, pageL_in _⟩
    · exact ⟨pageL_in _, pageL_in _⟩)
  obtain ⟨sX, hsX⟩ : ∃ s1, strOfNums X = s1 := ⟨_, rfl⟩
  obtain ⟨sY, hsY⟩ : ∃ s1, strOfNums Y = s1 := ⟨_, rfl⟩
  have KS := Lib.hid (fun (w : World) (G : List HP) (H : Sat w (own 5 1 (.slice AX 1024 cX) 1024 (bytes X) :: own 5 1 (.slice AY 1024 cY) 1024 (bytes Y) :: G)) => show (convert 30 9 (.slice AX 1024 cX)).run Try.prog w = .ok (.string sX) w ∧ (convert 30 9 (.slice AY 1024 cY)).run Try.prog w = .ok (.string sY) w from ⟨hsX ▸ conv_any H.own_at.1, hsY ▸ conv_any H.tail.own_at.1⟩)
  have HSX := Lib.hid (And.intro hsX hsY)
  clear hsX hsY
  go_upto_region 12 with fail
  go_cut [19] from 75 to 86 (fun sd wr => sd = .bool (decide (X = pageL 1) && decide (Y = pageL 2)) ∧ Sat wr (own 5 1 (.slice AX 1024 cX) 1024 (bytes X) :: own 5 1 (.slice AY 1024 cY) 1024 (bytes Y) :: F) ∧ Env w wr)
  case first =>
    have k0 := KS.out w16.drew _ H17.drew
    obtain ⟨s1, hs1⟩ : ∃ s1, strOfNums (pageL 1) = s1 := ⟨_, rfl⟩
    obtain ⟨s2, hs2⟩ : ∃ s2, strOfNums (pageL 2) = s2 := ⟨_, rfl⟩
    have HQ1 := Lib.hid (show (sX.toList == s1.toList) = decide (X = pageL 1) from by rw [← hs1, ← HSX.out.1]; exact str_eq HXB.out.1 (pageL_in _))
    have HQ2 := Lib.hid (show (sY.toList == s2.toList) = decide (Y = pageL 2) from by rw [← hs2, ← HSX.out.2]; exact str_eq HXB.out.2 (pageL_in _))
    have KC := Lib.hid (And.intro hs1 hs2)
    clear hs1 hs2
    obtain ⟨q1, hq1⟩ : ∃ q1, decide (X = pageL 1) = q1 := ⟨_, rfl⟩
    obtain ⟨q2, hq2⟩ : ∃ q2, decide (Y = pageL 2) = q2 := ⟨_, rfl⟩
    rw [hq1] at HQ1
    rw [hq2] at HQ2
    have HD := Lib.hid (And.intro hq1 hq2)
    clear hq1 hq2
    refine wp_region_held_drew (S := fun w' => (convert 30 9 (.slice AX 1024 cX)).run Try.prog w' = .ok (.string sX) w' ∧ (convert 30 9 (.slice AY 1024 cY)).run Try.prog w' = .ok (.string sY) w') (by kernel_rfl) k0 (fun hHeld => ?_)
    refine' wpAnyH_take (i := 0) (oi := _) (v := _) rfl (by kernel_rfl) (by kernel_rfl) (by kernel_rfl) (fun _ _ _ h => h) (Or.inl ⟨by rfl, ?hy0x1⟩) hHeld ?rest0x1
    case hy0x1 => (intro w' hSw; (try dsimp only at hSw); go_simp; try with_reducible rfl)
    simp only [List.getElem_toArray, List.getElem_cons_zero, List.getElem_cons_succ, Act.put, List.setIfInBounds_toArray, List.set_cons_zero, List.set_cons_succ]
    refine' wpAnyH_take (i := 1) (oi := _) (v := _) rfl (by kernel_rfl) (by kernel_rfl) (by kernel_rfl) (fun _ _ _ h => h) (Or.inl ⟨by rfl, ?hy1x2⟩) hHeld ?rest1x2
    case hy1x2 => (intro w' hSw; (try dsimp only at hSw); go_simp; try with_reducible rfl)
    simp only [List.getElem_toArray, List.getElem_cons_zero, List.getElem_cons_succ, Act.put, List.setIfInBounds_toArray, List.set_cons_zero, List.set_cons_succ]
    refine wpAnyH_ready (rs := [2]) (by kernel_rfl) (by simp) ?_
    refine AllReadyH.cons (o := _) rfl (fun K hK => ?_) AllReadyH.nil
    rw [if_pos (by rfl)]
    go_simp
    go_at_call 61
    refine (page5 1 H17.drew (by omega)).mono ?_
    rintro e wp ⟨vp, rfl, Hp, Ep⟩
    obtain ⟨Ap, cp, rfl, -, -, -⟩ := Hp.own_form
    refine hK.out _ _ (KS.out _ _ Hp.tail) (fun hHeld2 => ?_)
    clear hK K
    try simp only [List.getElem_toArray, List.getElem_cons_zero, List.getElem_cons_succ, Act.put, List.setIfInBounds_toArray, List.set_cons_zero, List.set_cons_succ]
    refine wpAnyH_ready (rs := [3]) (by kernel_rfl) (by simp) ?_
    refine AllReadyH.cons (o := _) rfl (fun K hK => ?_) AllReadyH.nil
    refine step_conv (by rfl) 30 9 (.tmp 77) rfl (.slice Ap 1024 cp) (.string s1) rfl (KC.out.1 ▸ conv_any Hp.own_at.1) ?_
    refine hK.out _ _ hHeld2 (fun hHeld3 => ?_)
    clear hK K
    try simp only [List.getElem_toArray, List.getElem_cons_zero, List.getElem_cons_succ, Act.put, List.setIfInBounds_toArray, List.set_cons_zero, List.set_cons_succ]
    refine' wpAnyH_take (i := 4) (oi := _) (v := _) rfl (by kernel_rfl) (by kernel_rfl) (by kernel_rfl) (fun _ _ _ h => h) (Or.inl ⟨by rfl, ?hy4x3⟩) hHeld3 ?rest4x3
    case hy4x3 => (intro w' hSw; (try dsimp only at hSw); go_simp; try with_reducible rfl)
    simp only [List.getElem_toArray, List.getElem_cons_zero, List.getElem_cons_succ, Act.put, List.setIfInBounds_toArray, List.set_cons_zero, List.set_cons_succ]
    rw [HQ1.out]
    cases q1 with
    | false =>
      refine' wpAnyH_take (i := 5) (oi := _) (v := _) rfl (by kernel_rfl) (by kernel_rfl) (by kernel_rfl) (fun _ _ _ h => h) (Or.inl ⟨by rfl, ?hy5x4⟩) hHeld3 ?rest5x4
      case hy5x4 => (intro w' hSw; (try dsimp only at hSw); go_simp; try with_reducible rfl)
      simp only [List.getElem_toArray, List.getElem_cons_zero, List.getElem_cons_succ, Act.put, List.setIfInBounds_toArray, List.set_cons_zero, List.set_cons_succ]
      refine' wpAnyH_take (i := 6) (oi := _) (v := undef) rfl (by kernel_rfl) (by kernel_rfl) (by kernel_rfl) (fun _ _ _ h => h) (Or.inr ⟨by rfl, rfl⟩) hHeld3 ?rest6x5
      try simp only [List.getElem_toArray, List.getElem_cons_zero, List.getElem_cons_succ, Act.put, List.setIfInBounds_toArray, List.set_cons_zero, List.set_cons_succ]
      refine' wpAnyH_take (i := 7) (oi := _) (v := undef) rfl (by kernel_rfl) (by kernel_rfl) (by kernel_rfl) (fun _ _ _ h => h) (Or.inr ⟨by rfl, rfl⟩) hHeld3 ?rest7x6
      try simp only [List.getElem_toArray, List.getElem_cons_zero, List.getElem_cons_succ, Act.put, List.setIfInBounds_toArray, List.set_cons_zero, List.set_cons_succ]
      refine' wpAnyH_take (i := 8) (oi := _) (v := undef) rfl (by kernel_rfl) (by kernel_rfl) (by kernel_rfl) (fun _ _ _ h => h) (Or.inr ⟨by rfl, rfl⟩) hHeld3 ?rest8x7
      try simp only [List.getElem_toArray, List.getElem_cons_zero, List.getElem_cons_succ, Act.put, List.setIfInBounds_toArray, List.set_cons_zero, List.set_cons_succ]
      refine' wpAnyH_take (i := 9) (oi := _) (v := undef) rfl (by kernel_rfl) (by kernel_rfl) (by kernel_rfl) (fun _ _ _ h => h) (Or.inr ⟨by rfl, rfl⟩) hHeld3 ?rest9x8
      try simp only [List.getElem_toArray, List.getElem_cons_zero, List.getElem_cons_succ, Act.put, List.setIfInBounds_toArray, List.set_cons_zero, List.set_cons_succ]
      refine' wpAnyH_take (i := 10) (oi := _) (v := undef) rfl (by kernel_rfl) (by kernel_rfl) (by kernel_rfl) (fun _ _ _ h => h) (Or.inr ⟨by rfl, rfl⟩) hHeld3 ?rest10x9
      try simp only [List.getElem_toArray, List.getElem_cons_zero, List.getElem_cons_succ, Act.put, List.setIfInBounds_toArray, List.set_cons_zero, List.set_cons_succ]
      refine' wpAnyH_take (i := 11) (oi := _) (v := _) rfl (by kernel_rfl) (by kernel_rfl) (by kernel_rfl) (fun _ _ _ h => h) (Or.inl ⟨by rfl, ?hy11x10⟩) hHeld3 ?rest11x10
      case hy11x10 => (intro w' hSw; (try dsimp only at hSw); go_simp; try with_reducible rfl)
      simp only [List.getElem_toArray, List.getElem_cons_zero, List.getElem_cons_succ, Act.put, List.setIfInBounds_toArray, List.set_cons_zero, List.set_cons_succ]
      refine' wpAnyH_take (i := 12) (oi := _) (v := _) rfl (by kernel_rfl) (by kernel_rfl) (by kernel_rfl) (fun _ _ _ h => h) (Or.inl ⟨by rfl, ?hy12x11⟩) hHeld3 ?rest12x11
      case hy12x11 => (intro w' hSw; (try dsimp only at hSw); go_simp; try with_reducible rfl)
      simp only [List.getElem_toArray, List.getElem_cons_zero, List.getElem_cons_succ, Act.put, List.setIfInBounds_toArray, List.set_cons_zero, List.set_cons_succ]
      refine wpAnyH_done (by kernel_rfl) ?_ _
      go_wp2_with fail
      go_meet
      case rel => exact ⟨by rw [HD.out.1, HD.out.2]; rfl, Hp.tail, E17.drew.trans Ep⟩
    | true =>
      refine' wpAnyH_take (i := 5) (oi := _) (v := _) rfl (by kernel_rfl) (by kernel_rfl) (by kernel_rfl) (fun _ _ _ h => h) (Or.inl ⟨by rfl, ?hy5x12⟩) hHeld3 ?rest5x12
      case hy5x12 => (intro w' hSw; (try dsimp only at hSw); go_simp; try with_reducible rfl)
      simp only [List.getElem_toArray, List.getElem_cons_zero, List.getElem_cons_succ, Act.put, List.setIfInBounds_toArray, List.set_cons_zero, List.set_cons_succ]
      refine' wpAnyH_take (i := 6) (oi := _) (v := _) rfl (by kernel_rfl) (by kernel_rfl) (by kernel_rfl) (fun _ _ _ h => h) (Or.inl ⟨by rfl, ?hy6x13⟩) hHeld3 ?rest6x13
      case hy6x13 => (intro w' hSw; (try dsimp only at hSw); go_simp; try with_reducible rfl)
      simp only [List.getElem_toArray, List.getElem_cons_zero, List.getElem_cons_succ, Act.put, List.setIfInBounds_toArray, List.set_cons_zero, List.set_cons_succ]
      refine' wpAnyH_take (i := 7) (oi := _) (v := _) rfl (by kernel_rfl) (by kernel_rfl) (by kernel_rfl) (fun _ _ _ h => h) (Or.inl ⟨by rfl, ?hy7x14⟩) hHeld3 ?rest7x14
      case hy7x14 => (intro w' hSw; (try dsimp only at hSw); go_simp; try with_reducible rfl)
      simp only [List.getElem_toArray, List.getElem_cons_zero, List.getElem_cons_succ, Act.put, List.setIfInBounds_toArray, List.set_cons_zero, List.set_cons_succ]
      refine wpAnyH_ready (rs := [8]) (by kernel_rfl) (by simp) ?_
      refine AllReadyH.cons (o := _) rfl (fun K hK => ?_) AllReadyH.nil
      rw [if_pos (by rfl)]
      go_simp
      go_at_call 61
      refine (page5 2 Hp.tail (by omega)).mono ?_
      rintro e wz ⟨vz, rfl, Hz, Ez⟩
      obtain ⟨Az, cz, rfl, -, -, -⟩ := Hz.own_form
      refine hK.out _ _ (KS.out _ _ Hz.tail) (fun hHeld4 => ?_)
      clear hK K
      try simp only [List.getElem_toArray, List.getElem_cons_zero, List.getElem_cons_succ, Act.put, List.setIfInBounds_toArray, List.set_cons_zero, List.set_cons_succ]
      refine wpAnyH_ready (rs := [9]) (by kernel_rfl) (by simp) ?_
      refine AllReadyH.cons (o := _) rfl (fun K hK => ?_) AllReadyH.nil
      refine step_conv (by rfl) 30 9 (.tmp 83) rfl (.slice Az 1024 cz) (.string s2) rfl (KC.out.2 ▸ conv_any Hz.own_at.1) ?_
      refine hK.out _ _ hHeld4 (fun hHeld5 => ?_)
      clear hK K
      try simp only [List.getElem_toArray, List.getElem_cons_zero, List.getElem_cons_succ, Act.put, List.setIfInBounds_toArray, List.set_cons_zero, List.set_cons_succ]
      refine' wpAnyH_take (i := 10) (oi := _) (v := _) rfl (by kernel_rfl) (by kernel_rfl) (by kernel_rfl) (fun _ _ _ h => h) (Or.inl ⟨by rfl, ?hy10x15⟩) hHeld5 ?rest10x15
      case hy10x15 => (intro w' hSw; (try dsimp only at hSw); go_simp; try with_reducible rfl)
      simp only [List.getElem_toArray, List.getElem_cons_zero, List.getElem_cons_succ, Act.put, List.setIfInBounds_toArray, List.set_cons_zero, List.set_cons_succ]
      rw [HQ2.out]
      refine' wpAnyH_take (i := 11) (oi := _) (v := _) rfl (by kernel_rfl) (by kernel_rfl) (by kernel_rfl) (fun _ _ _ h => h) (Or.inl ⟨by rfl, ?hy11x16⟩) hHeld5 ?rest11x16
      case hy11x16 => (intro w' hSw; (try dsimp only at hSw); go_simp; try with_reducible rfl)
      simp only [List.getElem_toArray, List.getElem_cons_zero, List.getElem_cons_succ, Act.put, List.setIfInBounds_toArray, List.set_cons_zero, List.set_cons_succ]
      refine' wpAnyH_take (i := 12) (oi := _) (v := _) rfl (by kernel_rfl) (by kernel_rfl) (by kernel_rfl) (fun _ _ _ h => h) (Or.inl ⟨by rfl, ?hy12x17⟩) hHeld5 ?rest12x17
      case hy12x17 => (intro w' hSw; (try dsimp only at hSw); go_simp; try with_reducible rfl)
      simp only [List.getElem_toArray, List.getElem_cons_zero, List.getElem_cons_succ, Act.put, List.setIfInBounds_toArray, List.set_cons_zero, List.set_cons_succ]
      refine wpAnyH_done (by kernel_rfl) ?_ _
      go_wp2_with fail
      go_meet
      case rel => exact ⟨by rw [HD.out.1, HD.out.2]; rfl, Hz.tail, (E17.drew.trans Ep).trans Ez⟩
  case rest =>
  clear H17 E17
  obtain ⟨rfl, H18, E18⟩ := hcut
  go_upto_region 13 with fail
  go_cut [20] from 87 to 100 (fun sd wr => sd = .bool (decide (X = pageL a) && decide (Y = pageL b)) ∧ Sat wr (own 5 1 (.slice AX 1024 cX) 1024 (bytes X) :: own 5 1 (.slice AY 1024 cY) 1024 (bytes Y) :: F) ∧ Env w wr)
  case first =>
    have k0 := KS.out wc.drew _ H18.drew
    obtain ⟨s1, hs1⟩ : ∃ s1, strOfNums (pageL a) = s1 := ⟨_, rfl⟩
    obtain ⟨s2, hs2⟩ : ∃ s2, strOfNums (pageL b) = s2 := ⟨_, rfl⟩
    have HQ1 := Lib.hid (show (sX.toList == s1.toList) = decide (X = pageL a) from by rw [← hs1, ← HSX.out.1]; exact str_eq HXB.out.1 (pageL_in _))
    have HQ2 := Lib.hid (show (sY.toList == s2.toList) = decide (Y = pageL b) from by rw [← hs2, ← HSX.out.2]; exact str_eq HXB.out.2 (pageL_in _))
    have KC := Lib.hid (And.intro hs1 hs2)
    clear hs1 hs2
    obtain ⟨q1, hq1⟩ : ∃ q1, decide (X = pageL a) = q1 := ⟨_, rfl⟩
    obtain ⟨q2, hq2⟩ : ∃ q2, decide (Y = pageL b) = q2 := ⟨_, rfl⟩
    rw [hq1] at HQ1
    rw [hq2] at HQ2
    have HD := Lib.hid (And.intro hq1 hq2)
    clear hq1 hq2
    refine wp_region_held_drew (S := fun w' => (convert 30 9 (.slice AX 1024 cX)).run Try.prog w' = .ok (.string sX) w' ∧ (convert 30 9 (.slice AY 1024 cY)).run Try.prog w' = .ok (.string sY) w') (by kernel_rfl) k0 (fun hHeld => ?_)
    refine' wpAnyH_take (i := 0) (oi := _) (v := _) rfl (by kernel_rfl) (by kernel_rfl) (by kernel_rfl) (fun _ _ _ h => h) (Or.inl ⟨by rfl, ?hy0x18⟩) hHeld ?rest0x18
    case hy0x18 => (intro w' hSw; (try dsimp only at hSw); go_simp; try with_reducible rfl)
    simp only [List.getElem_toArray, List.getElem_cons_zero, List.getElem_cons_succ, Act.put, List.setIfInBounds_toArray, List.set_cons_zero, List.set_cons_succ]
    refine' wpAnyH_take (i := 1) (oi := _) (v := _) rfl (by kernel_rfl) (by kernel_rfl) (by kernel_rfl) (fun _ _ _ h => h) (Or.inl ⟨by rfl, ?hy1x19⟩) hHeld ?rest1x19
    case hy1x19 => (intro w' hSw; (try dsimp only at hSw); go_simp; try with_reducible rfl)
    simp only [List.getElem_toArray, List.getElem_cons_zero, List.getElem_cons_succ, Act.put, List.setIfInBounds_toArray, List.set_cons_zero, List.set_cons_succ]
    refine' wpAnyH_take (i := 2) (oi := _) (v := _) rfl (by kernel_rfl) (by kernel_rfl) (by kernel_rfl) (fun _ _ _ h => h) (Or.inl ⟨by rfl, ?hy2x20⟩) hHeld ?rest2x20
    case hy2x20 => (intro w' hSw; (try dsimp only at hSw); go_simp; try with_reducible rfl)
    simp only [List.getElem_toArray, List.getElem_cons_zero, List.getElem_cons_succ, Act.put, List.setIfInBounds_toArray, List.set_cons_zero, List.set_cons_succ]
    refine wpAnyH_ready (rs := [3]) (by kernel_rfl) (by simp) ?_
    refine AllReadyH.cons (o := _) rfl (fun K hK => ?_) AllReadyH.nil
    rw [if_pos (by rfl)]
    go_simp
    go_at_call 61
    refine (page5 a H18.drew HAB.out.1).mono ?_
    rintro e wp ⟨vp, rfl, Hp, Ep⟩
    obtain ⟨Ap, cp, rfl, -, -, -⟩ := Hp.own_form
    refine hK.out _ _ (KS.out _ _ Hp.tail) (fun hHeld2 => ?_)
    clear hK K
    try simp only [List.getElem_toArray, List.getElem_cons_zero, List.getElem_cons_succ, Act.put, List.setIfInBounds_toArray, List.set_cons_zero, List.set_cons_succ]
    refine wpAnyH_ready (rs := [4]) (by kernel_rfl) (by simp) ?_
    refine AllReadyH.cons (o := _) rfl (fun K hK => ?_) AllReadyH.nil
    refine step_conv (by rfl) 30 9 (.tmp 90) rfl (.slice Ap 1024 cp) (.string s1) rfl (KC.out.1 ▸ conv_any Hp.own_at.1) ?_
    refine hK.out _ _ hHeld2 (fun hHeld3 => ?_)
    clear hK K
    try simp only [List.getElem_toArray, List.getElem_cons_zero, List.getElem_cons_succ, Act.put, List.setIfInBounds_toArray, List.set_cons_zero, List.set_cons_succ]
    refine' wpAnyH_take (i := 5) (oi := _) (v := _) rfl (by kernel_rfl) (by kernel_rfl) (by kernel_rfl) (fun _ _ _ h => h) (Or.inl ⟨by rfl, ?hy5x21⟩) hHeld3 ?rest5x21
    case hy5x21 => (intro w' hSw; (try dsimp only at hSw); go_simp; try with_reducible rfl)
    simp only [List.getElem_toArray, List.getElem_cons_zero, List.getElem_cons_succ, Act.put, List.setIfInBounds_toArray, List.set_cons_zero, List.set_cons_succ]
    rw [HQ1.out]
    cases q1 with
    | false =>
      refine' wpAnyH_take (i := 6) (oi := _) (v := _) rfl (by kernel_rfl) (by kernel_rfl) (by kernel_rfl) (fun _ _ _ h => h) (Or.inl ⟨by rfl, ?hy6x22⟩) hHeld3 ?rest6x22
      case hy6x22 => (intro w' hSw; (try dsimp only at hSw); go_simp; try with_reducible rfl)
      simp only [List.getElem_toArray, List.getElem_cons_zero, List.getElem_cons_succ, Act.put, List.setIfInBounds_toArray, List.set_cons_zero, List.set_cons_succ]
      refine' wpAnyH_take (i := 7) (oi := _) (v := undef) rfl (by kernel_rfl) (by kernel_rfl) (by kernel_rfl) (fun _ _ _ h => h) (Or.inr ⟨by rfl, rfl⟩) hHeld3 ?rest7x23
      try simp only [List.getElem_toArray, List.getElem_cons_zero, List.getElem_cons_succ, Act.put, List.setIfInBounds_toArray, List.set_cons_zero, List.set_cons_succ]
      refine' wpAnyH_take (i := 8) (oi := _) (v := undef) rfl (by kernel_rfl) (by kernel_rfl) (by kernel_rfl) (fun _ _ _ h => h) (Or.inr ⟨by rfl, rfl⟩) hHeld3 ?rest8x24
      try simp only [List.getElem_toArray, List.getElem_cons_zero, List.getElem_cons_succ, Act.put, List.setIfInBounds_toArray, List.set_cons_zero, List.set_cons_succ]
      refine' wpAnyH_take (i := 9) (oi := _) (v := undef) rfl (by kernel_rfl) (by kernel_rfl) (by kernel_rfl) (fun _ _ _ h => h) (Or.inr ⟨by rfl, rfl⟩) hHeld3 ?rest9x25
      try simp only [List.getElem_toArray, List.getElem_cons_zero, List.getElem_cons_succ, Act.put, List.setIfInBounds_toArray, List.set_cons_zero, List.set_cons_succ]
      refine' wpAnyH_take (i := 10) (oi := _) (v := undef) rfl (by kernel_rfl) (by kernel_rfl) (by kernel_rfl) (fun _ _ _ h => h) (Or.inr ⟨by rfl, rfl⟩) hHeld3 ?rest10x26
      try simp only [List.getElem_toArray, List.getElem_cons_zero, List.getElem_cons_succ, Act.put, List.setIfInBounds_toArray, List.set_cons_zero, List.set_cons_succ]
      refine' wpAnyH_take (i := 11) (oi := _) (v := undef) rfl (by kernel_rfl) (by kernel_rfl) (by kernel_rfl) (fun _ _ _ h => h) (Or.inr ⟨by rfl, rfl⟩) hHeld3 ?rest11x27
      try simp only [List.getElem_toArray, List.getElem_cons_zero, List.getElem_cons_succ, Act.put, List.setIfInBounds_toArray, List.set_cons_zero, List.set_cons_succ]
      refine' wpAnyH_take (i := 12) (oi := _) (v := undef) rfl (by kernel_rfl) (by kernel_rfl) (by kernel_rfl) (fun _ _ _ h => h) (Or.inr ⟨by rfl, rfl⟩) hHeld3 ?rest12x28
      try simp only [List.getElem_toArray, List.getElem_cons_zero, List.getElem_cons_succ, Act.put, List.setIfInBounds_toArray, List.set_cons_zero, List.set_cons_succ]
      refine' wpAnyH_take (i := 13) (oi := _) (v := _) rfl (by kernel_rfl) (by kernel_rfl) (by kernel_rfl) (fun _ _ _ h => h) (Or.inl ⟨by rfl, ?hy13x29⟩) hHeld3 ?rest13x29
      case hy13x29 => (intro w' hSw; (try dsimp only at hSw); go_simp; try with_reducible rfl)
      simp only [List.getElem_toArray, List.getElem_cons_zero, List.getElem_cons_succ, Act.put, List.setIfInBounds_toArray, List.set_cons_zero, List.set_cons_succ]
      refine' wpAnyH_take (i := 14) (oi := _) (v := _) rfl (by kernel_rfl) (by kernel_rfl) (by kernel_rfl) (fun _ _ _ h => h) (Or.inl ⟨by rfl, ?hy14x30⟩) hHeld3 ?rest14x30
      case hy14x30 => (intro w' hSw; (try dsimp only at hSw); go_simp; try with_reducible rfl)
      simp only [List.getElem_toArray, List.getElem_cons_zero, List.getElem_cons_succ, Act.put, List.setIfInBounds_toArray, List.set_cons_zero, List.set_cons_succ]
      refine wpAnyH_done (by kernel_rfl) ?_ _
      go_wp2_with fail
      go_meet
      case rel => exact ⟨by rw [HD.out.1, HD.out.2]; rfl, Hp.tail, E18.drew.trans Ep⟩
    | true =>
      refine' wpAnyH_take (i := 6) (oi := _) (v := _) rfl (by kernel_rfl) (by kernel_rfl) (by kernel_rfl) (fun _ _ _ h => h) (Or.inl ⟨by rfl, ?hy6x31⟩) hHeld3 ?rest6x31
      case hy6x31 => (intro w' hSw; (try dsimp only at hSw); go_simp; try with_reducible rfl)
      simp only [List.getElem_toArray, List.getElem_cons_zero, List.getElem_cons_succ, Act.put, List.setIfInBounds_toArray, List.set_cons_zero, List.set_cons_succ]
      refine' wpAnyH_take (i := 7) (oi := _) (v := _) rfl (by kernel_rfl) (by kernel_rfl) (by kernel_rfl) (fun _ _ _ h => h) (Or.inl ⟨by rfl, ?hy7x32⟩) hHeld3 ?rest7x32
      case hy7x32 => (intro w' hSw; (try dsimp only at hSw); go_simp; try with_reducible rfl)
      simp only [List.getElem_toArray, List.getElem_cons_zero, List.getElem_cons_succ, Act.put, List.setIfInBounds_toArray, List.set_cons_zero, List.set_cons_succ]
      refine' wpAnyH_take (i := 8) (oi := _) (v := _) rfl (by kernel_rfl) (by kernel_rfl) (by kernel_rfl) (fun _ _ _ h => h) (Or.inl ⟨by rfl, ?hy8x33⟩) hHeld3 ?rest8x33
      case hy8x33 => (intro w' hSw; (try dsimp only at hSw); go_simp; try with_reducible rfl)
      simp only [List.getElem_toArray, List.getElem_cons_zero, List.getElem_cons_succ, Act.put, List.setIfInBounds_toArray, List.set_cons_zero, List.set_cons_succ]
      refine' wpAnyH_take (i := 9) (oi := _) (v := _) rfl (by kernel_rfl) (by kernel_rfl) (by kernel_rfl) (fun _ _ _ h => h) (Or.inl ⟨by rfl, ?hy9x34⟩) hHeld3 ?rest9x34
      case hy9x34 => (intro w' hSw; (try dsimp only at hSw); go_simp; try with_reducible rfl)
      simp only [List.getElem_toArray, List.getElem_cons_zero, List.getElem_cons_succ, Act.put, List.setIfInBounds_toArray, List.set_cons_zero, List.set_cons_succ]
      refine wpAnyH_ready (rs := [10]) (by kernel_rfl) (by simp) ?_
      refine AllReadyH.cons (o := _) rfl (fun K hK => ?_) AllReadyH.nil
      rw [if_pos (by rfl)]
      go_simp
      go_at_call 61
      refine (page5 b Hp.tail HAB.out.2).mono ?_
      rintro e wz ⟨vz, rfl, Hz, Ez⟩
      obtain ⟨Az, cz, rfl, -, -, -⟩ := Hz.own_form
      refine hK.out _ _ (KS.out _ _ Hz.tail) (fun hHeld4 => ?_)
      clear hK K
      try simp only [List.getElem_toArray, List.getElem_cons_zero, List.getElem_cons_succ, Act.put, List.setIfInBounds_toArray, List.set_cons_zero, List.set_cons_succ]
      refine wpAnyH_ready (rs := [11]) (by kernel_rfl) (by simp) ?_
      refine AllReadyH.cons (o := _) rfl (fun K hK => ?_) AllReadyH.nil
      refine step_conv (by rfl) 30 9 (.tmp 97) rfl (.slice Az 1024 cz) (.string s2) rfl (KC.out.2 ▸ conv_any Hz.own_at.1) ?_
      refine hK.out _ _ hHeld4 (fun hHeld5 => ?_)
      clear hK K
      try simp only [List.getElem_toArray, List.getElem_cons_zero, List.getElem_cons_succ, Act.put, List.setIfInBounds_toArray, List.set_cons_zero, List.set_cons_succ]
      refine' wpAnyH_take (i := 12) (oi := _) (v := _) rfl (by kernel_rfl) (by kernel_rfl) (by kernel_rfl) (fun _ _ _ h => h) (Or.inl ⟨by rfl, ?hy12x35⟩) hHeld5 ?rest12x35
      case hy12x35 => (intro w' hSw; (try dsimp only at hSw); go_simp; try with_reducible rfl)
      simp only [List.getElem_toArray, List.getElem_cons_zero, List.getElem_cons_succ, Act.put, List.setIfInBounds_toArray, List.set_cons_zero, List.set_cons_succ]
      rw [HQ2.out]
      refine' wpAnyH_take (i := 13) (oi := _) (v := _) rfl (by kernel_rfl) (by kernel_rfl) (by kernel_rfl) (fun _ _ _ h => h) (Or.inl ⟨by rfl, ?hy13x36⟩) hHeld5 ?rest13x36
      case hy13x36 => (intro w' hSw; (try dsimp only at hSw); go_simp; try with_reducible rfl)
      simp only [List.getElem_toArray, List.getElem_cons_zero, List.getElem_cons_succ, Act.put, List.setIfInBounds_toArray, List.set_cons_zero, List.set_cons_succ]
      refine' wpAnyH_take (i := 14) (oi := _) (v := _) rfl (by kernel_rfl) (by kernel_rfl) (by kernel_rfl) (fun _ _ _ h => h) (Or.inl ⟨by rfl, ?hy14x37⟩) hHeld5 ?rest14x37
      case hy14x37 => (intro w' hSw; (try dsimp only at hSw); go_simp; try with_reducible rfl)
      simp only [List.getElem_toArray, List.getElem_cons_zero, List.getElem_cons_succ, Act.put, List.setIfInBounds_toArray, List.set_cons_zero, List.set_cons_succ]
      refine wpAnyH_done (by kernel_rfl) ?_ _
      go_wp2_with fail
      go_meet
      case rel => exact ⟨by rw [HD.out.1, HD.out.2]; rfl, Hz.tail, (E18.drew.trans Ep).trans Ez⟩
  case rest =>
  clear H18 E18
  obtain ⟨rfl, H19, E19⟩ := hcut
  have H20 := H19.tail.tail
  rcases HXY.out with ⟨h1, h2⟩ | ⟨h0, h1, h2⟩
  · rw [decide_eq_true h1, decide_eq_true h2]
    generalize (decide (X = pageL 1) && decide (Y = pageL 2)) = q at *
    clear h1 h2 H19 KS HSX HXB
    go_wp2_with fail
    refine (known5 H20).mono ?_
    rintro e w21 ⟨rfl, H21, E21⟩
    go_wp2_with fail
    go_ret
    exact ⟨rfl, H21, E19.trans E21⟩
  · rw [decide_eq_true h1, decide_eq_true h2]
    generalize (decide (X = pageL a) && decide (Y = pageL b)) = q at *
    clear h1 h2 H19 KS HSX HXB
    cases q with
    | false =>
      go_wp2_with fail
      refine (known5 H20).mono ?_
      rintro e w21 ⟨rfl, H21, E21⟩
      go_wp2_with fail
      go_ret
      exact ⟨rfl, H21, E19.trans E21⟩
    | true =>
      go_wp2_with fail
      refine (known5 H20).mono ?_
      rintro e w21 ⟨rfl, H21, E21⟩
      go_wp2_with fail
      go_ret
      exact ⟨rfl, H21, E19.trans E21⟩
end Go.Proofs.Ythbabdjicplooaa
