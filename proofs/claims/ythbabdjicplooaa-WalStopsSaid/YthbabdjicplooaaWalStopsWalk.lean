/- WalStops' walk. Conditions: none. -/
import Derived.Test.YthbabdjicplooaaWalCrash
import Derived.Test.YthbabdjicplooaaSplitB
import Derived.Test.YthbabdjicplooaaDiskOrderPlain
namespace Go.Proofs.Ythbabdjicplooaa
open Go.RowKit

theorem Try.info_elbool : (Try.prog.info? 4).map (fun i => (i.zero, i.size, i.bytes)) = some (some (.bool false), 1, 1) := by kernel_rfl
theorem bools_one (l : List Bool) : ∀ u ∈ l.map Value.bool, u.oneCell' = true := fun u hu => by
  obtain ⟨b, -, rfl⟩ := List.mem_map.1 hu
  rfl
def recA : List Int := recordL 200 1
def logA : LogV := commitL (freshL 0 30) recA
/-- What is there behind a commit of b that was stopped. -/
structure Met (M : LogV) (b : List Int) (r : Int) : Prop where
  from_ : M.from_ = 0
  count : M.count = 30
  next : M.next ≤ 9
  inl : InL M.recs
  len : M.recs.length ≤ 2
  short : ∀ x ∈ M.recs, x.length < 4294967296
  ways : (decide (M.recs = [recA]) = true ∧ decide (M.recs = [recA, b]) = false ∧ r = 13) ∨ (decide (M.recs = [recA]) = false ∧ decide (M.recs = [recA, b]) = true ∧ r = 0) ∨ (decide (M.recs = [recA]) = false ∧ decide (M.recs = [recA, b]) = true ∧ r = 13)
theorem commitL_next (L : LogV) (b : List Int) : (commitL L b).next = L.next + partsN b.length := rfl
theorem recA_in : InB recA ∧ recA.length = 200 := ⟨recordL_inb _ _, recordL_len _ _⟩
theorem met_of {M : LogV} {b : List Int} {r : Int} (hb : InB b) (h0 : 0 < b.length) (h7 : b.length ≤ 701) (hr : r = 0 ∨ r = 13) (h : M = logA ∨ M = commitL logA b) (hr0 : r = 0 → M = commitL logA b) : Met M b r := by
  have hA := recA_in
  have hin : InL [recA] := fun x hx => by rw [List.mem_singleton.1 hx]; exact ⟨fun e => by rw [e] at hA; simp at hA, hA.1⟩
  have hin2 : InL [recA, b] := fun x hx => by
    rcases List.mem_cons.1 hx with rfl | hx
    · exact hin _ (List.mem_singleton.2 rfl)
    · rw [List.mem_singleton.1 hx]; exact ⟨fun e => by rw [e] at h0; simp at h0, hb⟩
  have hn1 : logA.next = 2 := by
    rw [show logA = commitL (freshL 0 30) recA from rfl, commitL_next, hA.2]; rfl
  by_cases hM : M = logA
  · have h13 : r = 13 := by
      rcases hr with h1 | h1
      · have h2 := hr0 h1
        rw [hM] at h2
        have := congrArg (fun L : LogV => L.recs.length) h2
        have : ([recA] : List (List Int)).length = ([recA, b] : List (List Int)).length := this
        simp at this
      · exact h1
    subst hM
    refine ⟨rfl, rfl, by omega, hin, by show 1 ≤ 2; omega, fun x hx => ?_, .inl ⟨decide_eq_true rfl, decide_eq_false (fun e => ?_), h13⟩⟩
    · have hx : x ∈ [recA] := hx
      rw [List.mem_singleton.1 hx, hA.2]; omega
    · have e : ([recA] : List (List Int)) = [recA, b] := e
      simp at e
  · have hM2 : M = commitL logA b := h.resolve_left hM
    subst hM2
    have hd : decide ((commitL logA b).recs = [recA]) = false := decide_eq_false fun e => by
      have e : ([recA, b] : List (List Int)) = [recA] := e
      simp at e
    have hd2 : decide ((commitL logA b).recs = [recA, b]) = true := decide_eq_true rfl
    refine ⟨rfl, rfl, ?_, hin2, by show 2 ≤ 2; omega, fun x hx => ?_, ?_⟩
    · show logA.next + partsN b.length ≤ 9
      rw [hn1]; unfold partsN; omega
    · have hx : x ∈ [recA, b] := hx
      rcases List.mem_cons.1 hx with rfl | hx
      · rw [hA.2]; omega
      · rw [List.mem_singleton.1 hx]; omega
    · rcases hr with h1 | h1
      · exact .inr (.inl ⟨hd, hd2, h1⟩)
      · exact .inr (.inr ⟨hd, hd2, h1⟩)

set_option maxHeartbeats 16000000 in
set_option maxRecDepth 100000 in
theorem walStops_any {w : World} {F : List HP} (x0 f x2 x3 x4 : Int) (hf : 0 ≤ f ∧ f ≤ 255) (H : Sat w F) :
    Calls Try.prog 14 #[.int .i64 x0, .int .u8 f, .int .i64 x2, .int .i64 x3, .int .i64 x4] w fun e w' => e = .returned (.bool true) ∧ Sat w' F ∧ Env w w' := by
  obtain ⟨s0, hs0⟩ := Int.eq_ofNat_of_zero_le (within_range x0 (lo := 0) (hi := 700) (by omega)).1
  have hs1 := (within_range x0 (lo := 0) (hi := 700) (by omega)).2
  obtain ⟨s, hs⟩ : ∃ s, s0 + 1 = s := ⟨_, rfl⟩
  have hsb : 1 ≤ s ∧ s ≤ 701 := by omega
  have hws : IntKind.i64.wrap ((s0 : Int) + 1) = (s : Int) := by rw [IntWalk.i64_in _ (by omega)]; omega
  have HS0 := Lib.hid hs0
  have HKP := Lib.hid (show ∃ kp, within x2 0 20 = kp from ⟨_, rfl⟩)
  clear hs0 hs1 hs
  obtain ⟨kp, hkp⟩ := HKP.out
  have HKP := Lib.hid hkp
  have HFB := Lib.hid hf
  clear hkp hf
  go_enter Try.func14, Try.ntmps14
  go_wp2_with fail
  refine (within_any x0 0 700 _ (by omega) (by omega) (by omega)).mono ?_
  rintro e w1 ⟨rfl, hw1⟩
  subst hw1
  rw [HS0.out]
  clear HS0
  go_wp2_with fail
  go_loopw [11, 12, 13, 14, 15, 16, 17, 18, 19, 20, 21, 22, 23] (fun i _ _ _ _ _ _ _ _ _ _ _ _ wr => ∃ k : Nat, k ≤ 20 ∧ i = .int .i64 k ∧ Sat wr F ∧ Env w wr) (fun i _ _ _ _ _ _ _ _ _ _ _ _ _ => 20 - (intOf i).toNat)
  case atStart => exact ⟨0, by omega, rfl, H, Env.refl w⟩
  case round =>
    clear H
    obtain ⟨k, hk, rfl, H1, E1⟩ := hrel
    by_cases hlt : k < 20
    · go_wp2_with fail
      refine (begun4 30 0 30 H1 (by omega) (by omega) (by omega)).mono ?_
      rintro e w2 ⟨d, p, D, rfl, hF, H2, E2⟩
      have HF := Lib.hid hF
      have HI := Lib.hid (hF.inv (by rw [newD_len]; omega) (by rw [newD_len]; omega) (by omega))
      have E2' := E1.trans E2
      clear hF H1 E1 E2
      go_wp2_with fail
      refine (record_any 200 1 H2 (by omega) (by omega)).mono ?_
      rintro e w3 ⟨v3, rfl, H3, E3⟩
      obtain ⟨A3, c3, rfl, hc3, -, -⟩ := H3.own_form
      have E3' := E2'.trans E3
      clear H2 E2' E3
      go_wp2_with fail
      refine (commit_fine A3 200 c3 recA HI.out HF.out.left H3.b2.b2 (fun w h => h.own_at.1) hc3 (by rw [recA_in.2]; omega) recA_in.1 (by rw [recA_in.2]; show 200 ≤ (30 - 2 - 0) * 107; omega)).mono ?_
      rintro e w4 ⟨rfl, D4, hI4, -, -, H4, E4⟩
      have HI4 := Lib.hid (show Inv D4 logA from hI4)
      have H4' : Sat w4 (disk d D4 :: logc p d logA :: F) := H4.b2.tail.b1
      have E4' := E3'.trans E4
      clear H3 hc3 E3' H4 E4 hI4 HI HF
      go_wp2_with fail
      refine (dstop k H4' (by omega)).mono ?_
      rintro e w5 ⟨rfl, H5, E5⟩
      have HI5 := Lib.hid (HI4.out.stopped (some (k : Int).toNat))
      generalize ({ D4 with left := some (k : Int).toNat } : Dsk) = D5 at *
      have E5' := E4'.trans E5
      clear H4' E4' E5 HI4
      go_wp2_with fail
      refine (record_any s f H5 HFB.out (by omega)).mono ?_
      rintro e w6 ⟨v6, rfl, H6, E6⟩
      obtain ⟨A6, c6, rfl, hc6, -, -⟩ := H6.own_form
      have E6' := E5'.trans E6
      have HB := Lib.hid (show InB (recordL s f) ∧ (recordL s f).length = s from ⟨recordL_inb _ _, recordL_len _ _⟩)
      generalize recordL s f = b at *
      clear H5 E5' E6
      go_wp2_with fail
      refine (commit_may A6 s c6 b HI5.out H6.b1.b2 (fun w h => h.own_at.1) hc6 (by rw [HB.out.2]; omega) HB.out.1 (by rw [HB.out.2]; show s ≤ (30 - 2 - (0 + partsN recA.length)) * 107; rw [recA_in.2]; show s ≤ (30 - 2 - (0 + 2)) * 107; omega)).mono ?_
      rintro e w7 ⟨r, D7, rfl, hW, H7, E7⟩
      have HW := Lib.hid hW
      have HP7 := Lib.hid hW.pend
      have H7' := H7.tail
      have E7' := E6'.trans E7
      clear H6 hc6 E6' H7 E7 hW HI5
      go_upto_region 12 with fail
      have H8 := H7'.alloc (.cells #[.slice none 0 0, .int .i64 0, .int .i64 0] 24)
      have H8 := H7'.alloc (.cells #[.slice none 0 0, .int .i64 x3, .int .i64 x4] 24)
      have E8 := E7'.alloc (.cells #[.slice none 0 0, .int .i64 x3, .int .i64 x4] 24)
      go_upto_region 12 with fail
      generalize w7.alloc (.cells #[.slice none 0 0, .int .i64 x3, .int .i64 x4] 24) = w8 at *
      generalize w7.heap.size = bx at *
      clear H7' E7'
      go_wp2_with fail
      go_loopw [18] (fun s18 wr => ∃ (j : Nat) (AK : Option Addr) (ck : Nat) (bs : List Bool), j ≤ 20 ∧ s18 = .int .i64 j ∧ Sat wr (row bx 24 #[.slice AK j ck, .int .i64 x3, .int .i64 x4] :: own 4 1 (.slice AK j ck) j (bs.map Value.bool) :: disk d D7 :: own 5 1 (.slice A6 s c6) s (bytes b) :: F) ∧ Env w wr) (fun i _ => 20 - (intOf i).toNat)
      case atStart => exact ⟨0, none, 0, [], by omega, rfl, (H8.own_nil 4 1).b1, E8⟩
      case round =>
        clear H8 E8
        obtain ⟨j, AK, ck, bs, hj, rfl, H9, E9⟩ := hrel
        by_cases hlj : j < 20
        · go_upto_region 15 with fail
          have hb0 : wr.drew.cell? ⟨bx, 0, none⟩ = some (.slice AK j ck) := H9.drew.cell 0
          obtain ⟨q, hq⟩ : ∃ q, decide ((j : Int) < kp) = q := ⟨_, rfl⟩
          refine region_aside2 (fun w' => w'.cell? ⟨bx, 0, none⟩ = some (.slice AK j ck)) 9 _ (by kernel_rfl) rfl rfl rfl (by kernel_rfl) (by kernel_rfl) hb0 (fun hHeld => ?_)
          simp only [setAside, List.setIfInBounds_toArray, List.set_cons_zero, List.set_cons_succ]
          refine' wpAnyH_take (i := 0) (oi := _) (v := _) rfl (by kernel_rfl) (by kernel_rfl) (by kernel_rfl) (fun _ _ _ h => h) (Or.inl ⟨by rfl, ?hy0⟩) hHeld ?rest0
          case hy0 => (intro w' hSw; (try dsimp only at hSw); go_simp; try with_reducible rfl)
          simp only [List.getElem_toArray, List.getElem_cons_zero, List.getElem_cons_succ, Act.put, List.setIfInBounds_toArray, List.set_cons_zero, List.set_cons_succ]
          refine' wpAnyH_take (i := 1) (oi := _) (v := _) rfl (by kernel_rfl) (by kernel_rfl) (by kernel_rfl) (fun _ _ _ h => h) (Or.inl ⟨by rfl, ?hy1⟩) hHeld ?rest1
          case hy1 => (intro w' hSw; (try dsimp only at hSw); go_simp; try with_reducible rfl)
          simp only [List.getElem_toArray, List.getElem_cons_zero, List.getElem_cons_succ, Act.put, List.setIfInBounds_toArray, List.set_cons_zero, List.set_cons_succ]
          refine' wpAnyH_take (i := 2) (oi := _) (v := _) rfl (by kernel_rfl) (by kernel_rfl) (by kernel_rfl) (fun _ _ _ h => h) (Or.inl ⟨by rfl, ?hy2⟩) hHeld ?rest2
          case hy2 => (intro w' hSw; (try dsimp only at hSw); go_simp; try with_reducible rfl)
          simp only [List.getElem_toArray, List.getElem_cons_zero, List.getElem_cons_succ, Act.put, List.setIfInBounds_toArray, List.set_cons_zero, List.set_cons_succ]
          refine' wpAnyH_take (i := 3) (oi := _) (v := _) rfl (by kernel_rfl) (by kernel_rfl) (by kernel_rfl) (fun _ _ _ h => h) (Or.inl ⟨by rfl, ?hy3⟩) hHeld ?rest3
          case hy3 => (intro w' hSw; (try dsimp only at hSw); go_simp; try with_reducible rfl)
          simp only [List.getElem_toArray, List.getElem_cons_zero, List.getElem_cons_succ, Act.put, List.setIfInBounds_toArray, List.set_cons_zero, List.set_cons_succ]
          refine wpAnyH_ready (rs := [4]) (by kernel_rfl) (by simp) ?_
          refine AllReadyH.cons (o := _) rfl (fun K hK => ?_) AllReadyH.nil
          rw [if_pos (by rfl)]
          go_simp
          go_at_call 32
          refine (within_any x2 0 20 _ (by omega) (by omega) (by omega)).mono ?_
          rintro e wq ⟨rfl, hwq⟩
          subst hwq
          rw [HKP.out]
          refine hK.out _ _ hHeld (fun hHeld2 => ?_)
          clear hK K
          try simp only [List.getElem_toArray, List.getElem_cons_zero, List.getElem_cons_succ, Act.put, List.setIfInBounds_toArray, List.set_cons_zero, List.set_cons_succ]
          refine' wpAnyH_take (i := 5) (oi := _) (v := _) rfl (by kernel_rfl) (by kernel_rfl) (by kernel_rfl) (fun _ _ _ h => h) (Or.inl ⟨by rfl, ?hy5⟩) hHeld2 ?rest5
          case hy5 => (intro w' hSw; (try dsimp only at hSw); go_simp; try with_reducible rfl)
          simp only [List.getElem_toArray, List.getElem_cons_zero, List.getElem_cons_succ, Act.put, List.setIfInBounds_toArray, List.set_cons_zero, List.set_cons_succ]
          refine wpAnyH_ready (rs := [6]) (by kernel_rfl) (by simp) ?_
          refine AllReadyH.cons (o := _) rfl (fun K hK => ?_) AllReadyH.nil
          rw [if_pos (by rfl)]
          go_simp
          have H10 := H9.drew.b1.alloc' (.cells #[.bool q] 4)
          refine hK.out _ _ (H10.b1.cell 0) (fun hHeld3 => ?_)
          clear hK K
          try simp only [List.getElem_toArray, List.getElem_cons_zero, List.getElem_cons_succ, Act.put, List.setIfInBounds_toArray, List.set_cons_zero, List.set_cons_succ]
          refine wpAnyH_ready (rs := [7]) (by kernel_rfl) (by simp) ?_
          refine AllReadyH.cons (o := _) rfl (fun K hK => ?_) AllReadyH.nil
          refine step_append_sat rfl (.tmp 61) (.tmp 66) 22 rfl H10 rfl _ 1 Try.underlying22 Try.info_elbool rfl (by omega) _ _ _ [.bool q] rfl (fun h => by cases h) rfl (lit_src _ _ _ _ rfl) (by simp [Value.oneCell']) (by simp only [maxLen]; omega) (by omega) ?_
          intro v11 w11 H11 E11
          obtain ⟨A11, c11, rfl, -, -, -⟩ := H11.own_form
          refine hK.out _ _ (H11.b1.cell 0) (fun hHeld4 => ?_)
          clear hK K
          try simp only [List.getElem_toArray, List.getElem_cons_zero, List.getElem_cons_succ, Act.put, List.setIfInBounds_toArray, List.set_cons_zero, List.set_cons_succ]
          refine' wpAnyH_take (i := 8) (oi := _) (v := _) rfl (by kernel_rfl) (by kernel_rfl) (by kernel_rfl) (fun _ _ _ h => h) (Or.inl ⟨by rfl, ?hy8⟩) hHeld4 ?rest8
          case hy8 => (intro w' hSw; (try dsimp only at hSw); go_simp; try with_reducible rfl)
          simp only [List.getElem_toArray, List.getElem_cons_zero, List.getElem_cons_succ, Act.put, List.setIfInBounds_toArray, List.set_cons_zero, List.set_cons_succ]
          refine' wpAnyH_take (i := 9) (oi := _) (v := _) rfl (by kernel_rfl) (by kernel_rfl) (by kernel_rfl) (fun _ _ _ h => h) (Or.inl ⟨by rfl, ?hy9⟩) hHeld4 ?rest9
          case hy9 => (intro w' hSw; (try dsimp only at hSw); go_simp; try with_reducible rfl)
          try simp only [List.getElem_toArray, List.getElem_cons_zero, List.getElem_cons_succ, Act.put, List.setIfInBounds_toArray, List.set_cons_zero, List.set_cons_succ]
          refine wpAnyH_done (by kernel_rfl) ?_ _
          show Oper.wp _ _ _ _ _ _
          have c0 := H11.b1.cell 0
          have f0 := H11.b1.free 0
          have H12 := H11.b1.set (i := 0) (.slice A11 (j + 1) c11)
          have E12 := ((E9.drew.alloc (.cells #[.bool q] 4)).trans E11).set ⟨bx, 0, none⟩ (.slice A11 (j + 1) c11)
          rw [show bs.map Value.bool ++ [Value.bool q] = (bs ++ [q]).map Value.bool by simp] at H12
          go_simp
          generalize w11.setCell ⟨bx, 0, none⟩ (.slice A11 (j + 1) c11) = wy at *
          clear c0 f0 hb0 hHeld hHeld2 hHeld3 hHeld4 H9 E9 H10 H11 E11 hq
          go_wp2_with fail
          go_roundw
          case rel => exact ⟨j + 1, A11, c11, bs ++ [q], by omega, by go_num, H12, E12⟩
          case measure => simp [intOf]; omega
        · obtain rfl : j = 20 := by omega
          have y0 := H9.cell 0
          have y1 := H9.cell 1
          have y2 := H9.cell 2
          go_wp2_with fail
          refine (dcrash AK 20 ck bs x3 x4 H9.b2 (fun w h => h.b1.own_at.1) (by have := HP7.out; omega)).mono ?_
          rintro e w10 ⟨rfl, H10, E10⟩
          obtain ⟨M, hM1, hM2, hM3, -⟩ := HW.out.crash bs x3 x4
          have HM := Lib.hid (met_of HB.out.1 (by rw [HB.out.2]; omega) (by rw [HB.out.2]; omega) HW.out.or hM1 hM2)
          have HI := Lib.hid hM3
          have HDL := Lib.hid (show (D7.crash bs x3 x4).left = none from rfl)
          generalize D7.crash bs x3 x4 = D10 at *
          have H11 := H10.b3.b1.b2.tail.b2.tail
          have E11 := E9.trans E10
          clear H9 E9 H10 E10 y0 y1 y2 HW hM1 hM2 hM3 HP7
          go_wp2_with fail
          refine (open_at 0 30 HI.out HM.out.from_ HM.out.count H11).mono ?_
          rintro e w12 ⟨p12, rfl, H12, E12⟩
          have E12' := E11.trans E12
          clear H11 E11 E12
          go_wp2_with fail
          refine (records_log H12 HI.out.ok HM.out.short).mono ?_
          rintro e w13 ⟨v13, rfl, H13, E13⟩
          obtain ⟨A13, c13, rfl⟩ := H13.recL_form
          have E13' := E12'.trans E13
          obtain ⟨rl, hrl⟩ : ∃ rl, M.recs.length = rl := ⟨_, rfl⟩
          have HRL := Lib.hid (show M.recs.length = rl ∧ rl ≤ 2 from ⟨hrl, hrl ▸ HM.out.len⟩)
          rw [hrl] at H13 ⊢
          clear H12 E12' E13 hrl
          go_wp2_with fail
          refine (record_any 200 1 H13 (by omega) (by omega)).mono ?_
          rintro e w14 ⟨v14, rfl, H14, E14⟩
          obtain ⟨A14, c14, rfl, hc14, -, -⟩ := H14.own_form
          have E14' := E13'.trans E14
          clear H13 E13' E14
          go_wp2_with fail
          have H15 := H14.alloc (.cells #[.slice A14 200 c14] 30)
          have E15 := E14'.alloc (.cells #[.slice A14 200 c14] 30)
          generalize w14.alloc (.cells #[.slice A14 200 c14] 30) = w15 at *
          generalize w14.heap.size = g15 at *
          have hA := recA_in
          have hinA : InL [recA] := fun x hx => by rw [List.mem_singleton.1 hx]; exact ⟨fun e => by rw [e] at hA; simp at hA, hA.1⟩
          have hinB : InL [recA, b] := fun x hx => by
            rcases List.mem_cons.1 hx with rfl | hx
            · exact hinA _ (List.mem_singleton.2 rfl)
            · rw [List.mem_singleton.1 hx]; exact ⟨fun e => by have := HB.out.2; rw [e] at this; simp at this; omega, HB.out.1⟩
          have HIN := Lib.hid (And.intro hinA hinB)
          clear hA hinA hinB H14 E14'
          refine (same_any (.slice A13 rl c13) (.slice (some ⟨g15, 0, none⟩) 1 1) M.recs [recA] w15 H15.b2.recL_rd (H15.blk_rdB [((.slice A14 200 c14 : Value), recA)] (fun q hq => by rw [List.mem_singleton.1 hq]; exact ⟨_, _, by rw [recA_in.2], by rw [recA_in.2]; exact hc14, by rw [recA_in.2]; exact H15.b1.own_at.1⟩)) (by have := HRL.out; omega) HM.out.inl HIN.out.1).mono ?_
          rintro e w16 ⟨rfl, q16, rfl⟩
          have H16 := (H15.tail.tail).drewN q16
          have E16 := E15.drewN q16
          generalize w15.drewN q16 = w16 at *
          clear H15 E15
          obtain ⟨q1, hq1⟩ : ∃ q, decide (M.recs = [recA]) = q := ⟨_, rfl⟩
          rw [hq1]
          go_wp2_with fail
          refine (record_any 200 1 H16 (by omega) (by omega)).mono ?_
          rintro e w17 ⟨v17, rfl, H17, E17⟩
          obtain ⟨A17, c17, rfl, hc17, -, -⟩ := H17.own_form
          have E17' := E16.trans E17
          clear H16 E16 E17
          go_wp2_with fail
          have H18 := H17.alloc (.cells #[.slice A17 200 c17, .slice A6 s c6] 30)
          have E18 := E17'.alloc (.cells #[.slice A17 200 c17, .slice A6 s c6] 30)
          generalize w17.alloc (.cells #[.slice A17 200 c17, .slice A6 s c6] 30) = w18 at *
          generalize w17.heap.size = g18 at *
          clear H17 E17'
          refine (same_any (.slice A13 rl c13) (.slice (some ⟨g18, 0, none⟩) 2 2) M.recs [recA, b] w18 H18.b2.recL_rd (H18.blk_rdB [((.slice A17 200 c17 : Value), recA), ((.slice A6 s c6 : Value), b)] (fun q hq => by
            rcases List.mem_cons.1 hq with rfl | hq
            · exact ⟨_, _, by rw [recA_in.2], by rw [recA_in.2]; exact hc17, by rw [recA_in.2]; exact H18.b1.own_at.1⟩
            · rw [List.mem_singleton.1 hq]; exact ⟨_, _, by rw [HB.out.2], by rw [HB.out.2]; exact H18.b5.own_at.2.2, by rw [HB.out.2]; exact H18.b5.own_at.1⟩)) (by have := HRL.out; omega) HM.out.inl HIN.out.2).mono ?_
          rintro e w19 ⟨rfl, q19, rfl⟩
          have H19 := (H18.tail.tail).drewN q19
          have E19 := E18.drewN q19
          generalize w18.drewN q19 = w19 at *
          clear H18 E18 HIN
          obtain ⟨q2, hq2⟩ : ∃ q, decide (M.recs = [recA, b]) = q := ⟨_, rfl⟩
          rw [hq2]
          have hnx := HM.out.next
          have hct := HM.out.count
          have HRM := Lib.hid (show 2 ≤ roomL M by unfold roomL; omega)
          have HSH := Lib.hid (show ∀ x ∈ (commitL M [111, 110]).recs, x.length < 4294967296 from fun x hx => by
            have hx : x ∈ M.recs ++ [[111, 110]] := hx
            rcases List.mem_append.1 hx with hx | hx
            · exact HM.out.short x hx
            · rw [List.mem_singleton.1 hx]; decide)
          have HRL2 := Lib.hid (show (commitL M [111, 110]).recs.length = rl + 1 from by
            show (M.recs ++ [[111, 110]]).length = _
            rw [List.length_append, HRL.out.1]; rfl)
          have hrl2 := HRL.out.2
          have hwr : IntKind.i64.wrap ((rl : Int) + 1) = ((rl + 1 : Nat) : Int) := by rw [IntWalk.i64_in _ (by omega)]; rfl
          have ways := HM.out.ways
          rw [hq1, hq2] at ways
          clear hnx hct hq1 hq2
          obtain ⟨rl2, hrl2'⟩ : ∃ m, rl + 1 = m := ⟨_, rfl⟩
          rw [hrl2'] at hwr HRL2
          clear hrl2' hrl2 HRL
          have kc := fun (w : World) (C : Array Value) (n c : Nat) => Lib.run_convert_bytes_const (P := Try.prog) w 30 5 C n c Try.underlying30 Try.underlying5
          rcases ways with ⟨rfl, rfl, rfl⟩ | ⟨rfl, rfl, rfl⟩ | ⟨rfl, rfl, rfl⟩
          all_goals
            go_wp2_with fail
            clear kc
            have H20 := (H19.alloc (.cells #[.int .u8 111, .int .u8 110] 5 (2, 3))).b3.b3
            have E20 := E19.alloc (.cells #[.int .u8 111, .int .u8 110] 5 (2, 3))
            generalize w19.alloc (.cells #[.int .u8 111, .int .u8 110] 5 (2, 3)) = w20 at *
            generalize w19.heap.size = g20 at *
            clear H19 E19
            refine (commit_fine (some ⟨g20, 0, none⟩) 2 2 [111, 110] HI.out HDL.out H20 (fun w h => h.blk_rd [111, 110]) (by omega) (by decide) (fun x hx => by simp at hx; omega) HRM.out).mono ?_
            rintro e w21 ⟨rfl, D21, hI21, -, -, H21, E21⟩
            have HI21 := Lib.hid hI21
            have E21' := E20.trans E21
            clear H20 E20 E21 hI21
            go_wp2_with fail
            refine (records_log H21 HI21.out.ok HSH.out).mono ?_
            rintro e w22 ⟨v22, rfl, H22, E22⟩
            obtain ⟨A22, c22, rfl⟩ := H22.recL_form
            rw [HRL2.out]
            have H23 := H22.tail.tail.tail.tail.tail.tail
            have E23 := E21'.trans E22
            clear H21 E21' H22 E22
            go_wp2_with fail
            go_roundw
            case rel => exact ⟨k + 1, by omega, by go_num, H23, E23⟩
            case measure => simp [intOf]; omega
    · obtain rfl : k = 20 := by omega
      go_wp2_with fail
      refine (known4 H1).mono ?_
      rintro e w2 ⟨rfl, H2, E2⟩
      go_wp2_with fail
      go_ret
      exact ⟨rfl, H2, E1.trans E2⟩
end Go.Proofs.Ythbabdjicplooaa
