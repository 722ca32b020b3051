/- fair.Serve where a lane takes part. Conditions: small numbers, fewer than 2^32 lanes. -/
import Derived.Test.YtcgpmenknloagaaFair
import Derived.Deep.Cut
namespace Go.Proofs.Ytcgpmenknloagaa
open Go.RowKit Go.WideShapes

set_option maxHeartbeats 4000000 in
set_option maxRecDepth 100000 in
theorem serve_hit {w : World} {F : List HP} (A : Option Addr) (n c : Nat) (l : List Lane) (at_ q : Int) (H : Sat w F) (hr : Reads F 3 A n (flatL l)) (hsz : n < 4294967296)
    (hat : -9223372036854775808 ≤ at_ ∧ at_ ≤ 9223372036854775807) (hs : Small l) (m i : Nat) (hn : n = l.length) (hi : i < l.length) (ht : Turns l (begins n at_) m i) :
    Calls Try.prog 32 #[.slice A n c, .int .i64 at_, .int .i64 q] w fun e w' => ∃ v, e = .returned (.tuple #[.agg #[.int .i64 i, .int .i64 (takes q l[i]), .int .i64 (((i + 1) % n : Nat) : Int)], v]) ∧
      Sat w' (own 63 3 v n (flatL (l.set i (served q l[i]))) :: F) ∧ Env w w' := by
  have HN := Lib.hid hn
  have HR := Lib.hid hr
  have HS := Lib.hid hs
  clear hr hs hn
  obtain ⟨s, hs⟩ : ∃ s, s = begins n at_ := ⟨_, rfl⟩
  have hcase : (at_ < 0 ∧ s = 0) ∨ (0 ≤ at_ ∧ (n : Int) ≤ at_ ∧ s = 0) ∨ ((s : Int) = at_ ∧ s < n) := by
    subst hs; unfold begins
    by_cases h : at_ < 0 ∨ (n : Int) ≤ at_
    · rw [if_pos h]; omega
    · rw [if_neg h]; omega
  rw [← hs] at ht
  clear hs
  have HTn := Lib.hid ht
  have hm : m < n := by rw [HN.out]; exact ht.1
  clear ht
  have hx := HS.out _ (List.getElem_mem hi)
  have hwt1 : 1 ≤ l[i].1 := by obtain ⟨h, h'⟩ := HTn.out.2.2.1; exact h'
  have hin : i < n := by have := HN.out; omega
  obtain ⟨X, hX⟩ : ∃ X, l[i].1 = X := ⟨_, rfl⟩
  obtain ⟨Y, hY⟩ : ∃ Y, l[i].2.1 = Y := ⟨_, rfl⟩
  obtain ⟨Z, hZ⟩ : ∃ Z, l[i].2.2 = Z := ⟨_, rfl⟩
  have hli : l[i] = (X, Y, Z) := by rw [← hX, ← hY, ← hZ]
  rw [hX] at hwt1 hx
  rw [hY] at hx
  rw [hZ] at hx
  have HL := Lib.hid (show l[i].1 = X ∧ l[i] = (X, Y, Z) from ⟨hX, hli⟩)
  clear hX hY hZ
  rw [hli]
  clear hli
  obtain ⟨G1, e1, r1⟩ : ∃ G1 : Int, (if 4 < X then (4 : Int) else X) = G1 ∧ G1 = min X 4 := ⟨_, rfl, by split <;> omega⟩
  obtain ⟨M, e2, r2⟩ : ∃ M : Int, (if q < 1 then (1 : Int) else q) = M ∧ M = max q 1 := ⟨_, rfl, by split <;> omega⟩
  obtain ⟨G2, e3, r3⟩ : ∃ G2 : Int, (if 2 < M then (2 : Int) else M) = G2 ∧ G2 = min M 2 := ⟨_, rfl, by split <;> omega⟩
  obtain ⟨gr, e4, hgr⟩ : ∃ gr, G1 * G2 = gr ∧ gr = grows X q := ⟨_, rfl, by unfold grows; rw [← r2, ← r1, ← r3]⟩
  have hgr2 := grows_pos (q := q) hwt1
  rw [← hgr] at hgr2
  obtain ⟨T1, e5, r5⟩ : ∃ T1 : Int, (if Y < Z + gr then Y else Z + gr) = T1 ∧ T1 = min (Z + gr) Y := ⟨_, rfl, by split <;> omega⟩
  obtain ⟨T, e6, r6⟩ : ∃ T : Int, (if T1 < 0 then (0 : Int) else T1) = T ∧ T = max T1 0 := ⟨_, rfl, by split <;> omega⟩
  have HTK := Lib.hid (show T = takes q (X, Y, Z) by unfold takes; rw [← hgr, r6, r5])
  have hTr : 0 ≤ T ∧ T ≤ 1099511627800 := by omega
  clear r1 r2 r3 r5 r6
  have H5 := Lib.hid e5
  have H6 := Lib.hid e6
  clear e5 e6
  have HGR := Lib.hid hgr
  clear hgr
  go_enter Try.func32, Try.ntmps32
  go_wp2_with fail
  go_step3
  go_wp2_with fail
  refine (clone_lane A n c _ (H.alloc _) ((HR.out w H).alloc _) (flatL_one l) hsz).mono ?_
  rintro e w1 ⟨v, rfl, H1, E1⟩
  have HT := H1.tail.cell
  have HT0 := HT 0
  have HT1 := HT 1
  have HT2 := HT 2
  have HF0 := H1.tail.free 0
  have HF1 := H1.tail.free 1
  have HF2 := H1.tail.free 2
  clear HT
  obtain ⟨g, cv, rfl, hcv⟩ := H1.own_addr (by omega)
  have hg := flatL_get l i hi
  rw [HL.out.2] at hg
  have hc0 := H1.own_cell _ _ hg.1
  have hc1' := H1.own_cell _ _ hg.2.1
  have hc2' := H1.own_cell _ _ hg.2.2
  have hf1 := H1.own_free (by omega) (i * 3 + 1)
  have hf2 := H1.own_free (by omega) (i * 3 + 2)
  have HG := Lib.hid hg
  clear hg
  rcases hcase with ⟨hc1, rfl⟩ | ⟨hc1, hc2, rfl⟩ | ⟨rfl, hc2⟩
  · go_wp2_with fail
    go_step3
    go_wp2_with fail
    go_loop [9, 27] (fun nn i => nn = .int .i64 (-1) ∧ ∃ k : Nat, k ≤ m ∧ i = .int .i64 k) (fun _ i => n - (intOf i).toNat)
    case atStart => exact ⟨rfl, 0, by omega, rfl⟩
    case round =>
      obtain ⟨rfl, k, hk, rfl⟩ := hrel
      have hi0 : k % n < n := Nat.mod_lt _ (by omega)
      have hi1 : 0 ≤ (k : Int) % n := Int.emod_nonneg _ (by omega)
      have hi2 : (k : Int) % n < n := Int.emod_lt_of_pos _ (by omega)
      have hil : k % n < l.length := by have := HN.out; omega
      obtain ⟨b, off, rfl, hcell⟩ := (HR.out w1 H1.tail.tail).2 _ _ (flatL_get l _ hil).1
      by_cases hlt : k < m
      · have hwt : l[k % n].1 < 1 := by
          have := HTn.out.2.2.2 k hlt
          simp only [← HN.out, Nat.zero_add] at this
          exact this hi0
        generalize l[k % n].1 = wt at hcell hwt
        go_wp2_with fail
        go_round
        case rel => exact ⟨rfl, k + 1, by omega, by go_num⟩
        case measure => simp [intOf]; omega
      · obtain rfl : k = m := by omega
        have hki : k % n = i := by have := HTn.out.2.1; rw [← HN.out, Nat.zero_add] at this; exact this.symm
        have hki' : (k : Int) % n = (i : Int) := by rw [← hki]; simp
        have hce : l[k % n].1 = X := by simp only [hki]; exact HL.out.1
        rw [hce, hki] at hcell
        clear hce
        by_cases hb : Y - T = 0
        · have hb1 : (Y - T == 0) = true := by simp [hb]
          have HB := Lib.hid hb
          clear hb
          go_upto_region 16 with (fail)
          clear e1 e2 e3 e4
          go_wp2_with fail
          have e5 := H5.out
          have e6 := H6.out
          go_quiet (fail)
          clear e5 e6
          go_upto_region 20 with (fail)
          have HA := (H1.own_set (i := i * 3 + 2) (by omega) (.int .i64 (Z + gr))).drewN nq
          have EA := ((E1.set ⟨g, i * 3 + 2, none⟩ (.int .i64 (Z + gr))).drewN nq)
          have ca1 : ((w1.setCell ⟨g, i * 3 + 2, none⟩ (.int .i64 (Z + gr))).drewN nq).cell? ⟨g, i * 3 + 1, none⟩ = some (.int .i64 Y) := HA.own_cell _ _ (by rw [List.getElem?_set_ne (by omega)]; exact HG.out.2.1)
          have ca2 : ((w1.setCell ⟨g, i * 3 + 2, none⟩ (.int .i64 (Z + gr))).drewN nq).cell? ⟨g, i * 3 + 2, none⟩ = some (.int .i64 (Z + gr)) := HA.own_cell _ _ (by rw [List.getElem?_set_self]; rw [flatL_len]; omega)
          have fa1 := HA.own_free (by omega) (i * 3 + 1)
          have fa2 := HA.own_free (by omega) (i * 3 + 2)
          have ta0 := HA.tail.cell 0
          have ta1 := HA.tail.cell 1
          have ta2 := HA.tail.cell 2
          have tf0 := HA.tail.free 0
          have tf1 := HA.tail.free 1
          have tf2 := HA.tail.free 2
          generalize (w1.setCell ⟨g, i * 3 + 2, none⟩ (.int .i64 (Z + gr))).drewN nq = w2 at *
          clear hc0 hc1' hc2' hf1 hf2 HT0 HT1 HT2 HF0 HF1 HF2 hcell hi0 hi1 hi2 hki hki'
          rename_i hz1 hz2 hz3 hz4 hz5
          clear hz1 hz2 hz3 hat
          go_upto_region 24 with (fail)
          have HB2 := ((HA.own_set (i := i * 3 + 2) (by omega) (.int .i64 (Z + gr - T))).own_set (i := i * 3 + 1) (by omega) (.int .i64 (Y - T))).own_set (i := i * 3 + 2) (by omega) (.int .i64 0)
          have EB := ((EA.set ⟨g, i * 3 + 2, none⟩ (.int .i64 (Z + gr - T))).set ⟨g, i * 3 + 1, none⟩ (.int .i64 (Y - T))).set ⟨g, i * 3 + 2, none⟩ (.int .i64 0)
          have tb0 := HB2.tail.cell 0
          have tb1 := HB2.tail.cell 1
          have tb2 := HB2.tail.cell 2
          have tg0 := HB2.tail.free 0
          have tg1 := HB2.tail.free 1
          have tg2 := HB2.tail.free 2
          generalize ((w2.setCell ⟨g, i * 3 + 2, none⟩ (.int .i64 (Z + gr - T))).setCell ⟨g, i * 3 + 1, none⟩ (.int .i64 (Y - T))).setCell ⟨g, i * 3 + 2, none⟩ (.int .i64 0) = w3 at *
          clear ta0 ta1 ta2 tf0 tf1 tf2 ca1 ca2 fa1 fa2
          go_wp2_with fail
          have HZ := (((HB2.b1.set (i := 0) (.int .i64 i)).set (i := 1) (.int .i64 T)).set (i := 2) (.int .i64 (((i : Int) + 1) % n)))
          try rw [Exit.noGoto_ret]
          refine bodyPost_ret (ret_turn (by simpa using HZ) _ rfl) rfl ⟨.slice (some ⟨g, 0, none⟩) n cv, by rw [← HTK.out]; simp, ?_, (((((Env.refl w).alloc _).trans EB).set _ _).set _ _).set _ _⟩
          have hfl := flatL_set l i hi (Y - T) 0
          have hset : l.set i (served q (X, Y, Z)) = l.set i (l[i].1, Y - T, 0) := by
            rw [show l[i].1 = X from HL.out.1]; congr 1; unfold served; rw [← HTK.out, ← HGR.out]; rw [if_pos HB.out]
          rw [hset, ← hfl]
          exact by have := HZ.tail; rwa [sets4 _ _ _ (by omega)] at this
        · have hb1 : (Y - T == 0) = false := by simp [hb]
          have HB := Lib.hid hb
          clear hb
          go_upto_region 16 with (fail)
          clear e1 e2 e3 e4
          go_wp2_with fail
          have e5 := H5.out
          have e6 := H6.out
          go_quiet (fail)
          clear e5 e6
          go_upto_region 20 with (fail)
          have HA := (H1.own_set (i := i * 3 + 2) (by omega) (.int .i64 (Z + gr))).drewN nq
          have EA := ((E1.set ⟨g, i * 3 + 2, none⟩ (.int .i64 (Z + gr))).drewN nq)
          have ca1 : ((w1.setCell ⟨g, i * 3 + 2, none⟩ (.int .i64 (Z + gr))).drewN nq).cell? ⟨g, i * 3 + 1, none⟩ = some (.int .i64 Y) := HA.own_cell _ _ (by rw [List.getElem?_set_ne (by omega)]; exact HG.out.2.1)
          have ca2 : ((w1.setCell ⟨g, i * 3 + 2, none⟩ (.int .i64 (Z + gr))).drewN nq).cell? ⟨g, i * 3 + 2, none⟩ = some (.int .i64 (Z + gr)) := HA.own_cell _ _ (by rw [List.getElem?_set_self]; rw [flatL_len]; omega)
          have fa1 := HA.own_free (by omega) (i * 3 + 1)
          have fa2 := HA.own_free (by omega) (i * 3 + 2)
          have ta0 := HA.tail.cell 0
          have ta1 := HA.tail.cell 1
          have ta2 := HA.tail.cell 2
          have tf0 := HA.tail.free 0
          have tf1 := HA.tail.free 1
          have tf2 := HA.tail.free 2
          generalize (w1.setCell ⟨g, i * 3 + 2, none⟩ (.int .i64 (Z + gr))).drewN nq = w2 at *
          clear hc0 hc1' hc2' hf1 hf2 HT0 HT1 HT2 HF0 HF1 HF2 hcell hi0 hi1 hi2 hki hki'
          rename_i hz1 hz2 hz3 hz4 hz5
          clear hz1 hz2 hz3 hat
          go_upto_region 24 with (fail)
          have HB2 := (HA.own_set (i := i * 3 + 2) (by omega) (.int .i64 (Z + gr - T))).own_set (i := i * 3 + 1) (by omega) (.int .i64 (Y - T))
          have EB := (EA.set ⟨g, i * 3 + 2, none⟩ (.int .i64 (Z + gr - T))).set ⟨g, i * 3 + 1, none⟩ (.int .i64 (Y - T))
          have tb0 := HB2.tail.cell 0
          have tb1 := HB2.tail.cell 1
          have tb2 := HB2.tail.cell 2
          have tg0 := HB2.tail.free 0
          have tg1 := HB2.tail.free 1
          have tg2 := HB2.tail.free 2
          generalize (w2.setCell ⟨g, i * 3 + 2, none⟩ (.int .i64 (Z + gr - T))).setCell ⟨g, i * 3 + 1, none⟩ (.int .i64 (Y - T)) = w3 at *
          clear ta0 ta1 ta2 tf0 tf1 tf2 ca1 ca2 fa1 fa2
          go_wp2_with fail
          have HZ := (((HB2.b1.set (i := 0) (.int .i64 i)).set (i := 1) (.int .i64 T)).set (i := 2) (.int .i64 (((i : Int) + 1) % n)))
          try rw [Exit.noGoto_ret]
          refine bodyPost_ret (ret_turn (by simpa using HZ) _ rfl) rfl ⟨.slice (some ⟨g, 0, none⟩) n cv, by rw [← HTK.out]; simp, ?_, (((((Env.refl w).alloc _).trans EB).set _ _).set _ _).set _ _⟩
          have hfl := flatL_set l i hi (Y - T) (Z + gr - T)
          have hset : l.set i (served q (X, Y, Z)) = l.set i (l[i].1, Y - T, (Z + gr - T)) := by
            rw [show l[i].1 = X from HL.out.1]; congr 1; unfold served; rw [← HTK.out, ← HGR.out]; rw [if_neg HB.out]
          rw [hset, ← hfl]
          exact by have := HZ.tail; rwa [sets3 _ _ _ (by omega)] at this
  · go_wp2_with fail
    go_step3
    go_wp2_with fail
    go_loop [9, 27] (fun nn i => nn = .int .i64 (-1) ∧ ∃ k : Nat, k ≤ m ∧ i = .int .i64 k) (fun _ i => n - (intOf i).toNat)
    case atStart => exact ⟨rfl, 0, by omega, rfl⟩
    case round =>
      obtain ⟨rfl, k, hk, rfl⟩ := hrel
      have hi0 : k % n < n := Nat.mod_lt _ (by omega)
      have hi1 : 0 ≤ (k : Int) % n := Int.emod_nonneg _ (by omega)
      have hi2 : (k : Int) % n < n := Int.emod_lt_of_pos _ (by omega)
      have hil : k % n < l.length := by have := HN.out; omega
      obtain ⟨b, off, rfl, hcell⟩ := (HR.out w1 H1.tail.tail).2 _ _ (flatL_get l _ hil).1
      by_cases hlt : k < m
      · have hwt : l[k % n].1 < 1 := by
          have := HTn.out.2.2.2 k hlt
          simp only [← HN.out, Nat.zero_add] at this
          exact this hi0
        generalize l[k % n].1 = wt at hcell hwt
        go_wp2_with fail
        go_round
        case rel => exact ⟨rfl, k + 1, by omega, by go_num⟩
        case measure => simp [intOf]; omega
      · obtain rfl : k = m := by omega
        have hki : k % n = i := by have := HTn.out.2.1; rw [← HN.out, Nat.zero_add] at this; exact this.symm
        have hki' : (k : Int) % n = (i : Int) := by rw [← hki]; simp
        have hce : l[k % n].1 = X := by simp only [hki]; exact HL.out.1
        rw [hce, hki] at hcell
        clear hce
        by_cases hb : Y - T = 0
        · have hb1 : (Y - T == 0) = true := by simp [hb]
          have HB := Lib.hid hb
          clear hb
          go_upto_region 16 with (fail)
          clear e1 e2 e3 e4
          go_wp2_with fail
          have e5 := H5.out
          have e6 := H6.out
          go_quiet (fail)
          clear e5 e6
          go_upto_region 20 with (fail)
          have HA := (H1.own_set (i := i * 3 + 2) (by omega) (.int .i64 (Z + gr))).drewN nq
          have EA := ((E1.set ⟨g, i * 3 + 2, none⟩ (.int .i64 (Z + gr))).drewN nq)
          have ca1 : ((w1.setCell ⟨g, i * 3 + 2, none⟩ (.int .i64 (Z + gr))).drewN nq).cell? ⟨g, i * 3 + 1, none⟩ = some (.int .i64 Y) := HA.own_cell _ _ (by rw [List.getElem?_set_ne (by omega)]; exact HG.out.2.1)
          have ca2 : ((w1.setCell ⟨g, i * 3 + 2, none⟩ (.int .i64 (Z + gr))).drewN nq).cell? ⟨g, i * 3 + 2, none⟩ = some (.int .i64 (Z + gr)) := HA.own_cell _ _ (by rw [List.getElem?_set_self]; rw [flatL_len]; omega)
          have fa1 := HA.own_free (by omega) (i * 3 + 1)
          have fa2 := HA.own_free (by omega) (i * 3 + 2)
          have ta0 := HA.tail.cell 0
          have ta1 := HA.tail.cell 1
          have ta2 := HA.tail.cell 2
          have tf0 := HA.tail.free 0
          have tf1 := HA.tail.free 1
          have tf2 := HA.tail.free 2
          generalize (w1.setCell ⟨g, i * 3 + 2, none⟩ (.int .i64 (Z + gr))).drewN nq = w2 at *
          clear hc0 hc1' hc2' hf1 hf2 HT0 HT1 HT2 HF0 HF1 HF2 hcell hi0 hi1 hi2 hki hki'
          rename_i hz1 hz2 hz3 hz4 hz5
          clear hz1 hz2 hz3 hat
          go_upto_region 24 with (fail)
          have HB2 := ((HA.own_set (i := i * 3 + 2) (by omega) (.int .i64 (Z + gr - T))).own_set (i := i * 3 + 1) (by omega) (.int .i64 (Y - T))).own_set (i := i * 3 + 2) (by omega) (.int .i64 0)
          have EB := ((EA.set ⟨g, i * 3 + 2, none⟩ (.int .i64 (Z + gr - T))).set ⟨g, i * 3 + 1, none⟩ (.int .i64 (Y - T))).set ⟨g, i * 3 + 2, none⟩ (.int .i64 0)
          have tb0 := HB2.tail.cell 0
          have tb1 := HB2.tail.cell 1
          have tb2 := HB2.tail.cell 2
          have tg0 := HB2.tail.free 0
          have tg1 := HB2.tail.free 1
          have tg2 := HB2.tail.free 2
          generalize ((w2.setCell ⟨g, i * 3 + 2, none⟩ (.int .i64 (Z + gr - T))).setCell ⟨g, i * 3 + 1, none⟩ (.int .i64 (Y - T))).setCell ⟨g, i * 3 + 2, none⟩ (.int .i64 0) = w3 at *
          clear ta0 ta1 ta2 tf0 tf1 tf2 ca1 ca2 fa1 fa2
          go_wp2_with fail
          have HZ := (((HB2.b1.set (i := 0) (.int .i64 i)).set (i := 1) (.int .i64 T)).set (i := 2) (.int .i64 (((i : Int) + 1) % n)))
          try rw [Exit.noGoto_ret]
          refine bodyPost_ret (ret_turn (by simpa using HZ) _ rfl) rfl ⟨.slice (some ⟨g, 0, none⟩) n cv, by rw [← HTK.out]; simp, ?_, (((((Env.refl w).alloc _).trans EB).set _ _).set _ _).set _ _⟩
          have hfl := flatL_set l i hi (Y - T) 0
          have hset : l.set i (served q (X, Y, Z)) = l.set i (l[i].1, Y - T, 0) := by
            rw [show l[i].1 = X from HL.out.1]; congr 1; unfold served; rw [← HTK.out, ← HGR.out]; rw [if_pos HB.out]
          rw [hset, ← hfl]
          exact by have := HZ.tail; rwa [sets4 _ _ _ (by omega)] at this
        · have hb1 : (Y - T == 0) = false := by simp [hb]
          have HB := Lib.hid hb
          clear hb
          go_upto_region 16 with (fail)
          clear e1 e2 e3 e4
          go_wp2_with fail
          have e5 := H5.out
          have e6 := H6.out
          go_quiet (fail)
          clear e5 e6
          go_upto_region 20 with (fail)
          have HA := (H1.own_set (i := i * 3 + 2) (by omega) (.int .i64 (Z + gr))).drewN nq
          have EA := ((E1.set ⟨g, i * 3 + 2, none⟩ (.int .i64 (Z + gr))).drewN nq)
          have ca1 : ((w1.setCell ⟨g, i * 3 + 2, none⟩ (.int .i64 (Z + gr))).drewN nq).cell? ⟨g, i * 3 + 1, none⟩ = some (.int .i64 Y) := HA.own_cell _ _ (by rw [List.getElem?_set_ne (by omega)]; exact HG.out.2.1)
          have ca2 : ((w1.setCell ⟨g, i * 3 + 2, none⟩ (.int .i64 (Z + gr))).drewN nq).cell? ⟨g, i * 3 + 2, none⟩ = some (.int .i64 (Z + gr)) := HA.own_cell _ _ (by rw [List.getElem?_set_self]; rw [flatL_len]; omega)
          have fa1 := HA.own_free (by omega) (i * 3 + 1)
          have fa2 := HA.own_free (by omega) (i * 3 + 2)
          have ta0 := HA.tail.cell 0
          have ta1 := HA.tail.cell 1
          have ta2 := HA.tail.cell 2
          have tf0 := HA.tail.free 0
          have tf1 := HA.tail.free 1
          have tf2 := HA.tail.free 2
          generalize (w1.setCell ⟨g, i * 3 + 2, none⟩ (.int .i64 (Z + gr))).drewN nq = w2 at *
          clear hc0 hc1' hc2' hf1 hf2 HT0 HT1 HT2 HF0 HF1 HF2 hcell hi0 hi1 hi2 hki hki'
          rename_i hz1 hz2 hz3 hz4 hz5
          clear hz1 hz2 hz3 hat
          go_upto_region 24 with (fail)
          have HB2 := (HA.own_set (i := i * 3 + 2) (by omega) (.int .i64 (Z + gr - T))).own_set (i := i * 3 + 1) (by omega) (.int .i64 (Y - T))
          have EB := (EA.set ⟨g, i * 3 + 2, none⟩ (.int .i64 (Z + gr - T))).set ⟨g, i * 3 + 1, none⟩ (.int .i64 (Y - T))
          have tb0 := HB2.tail.cell 0
          have tb1 := HB2.tail.cell 1
          have tb2 := HB2.tail.cell 2
          have tg0 := HB2.tail.free 0
          have tg1 := HB2.tail.free 1
          have tg2 := HB2.tail.free 2
          generalize (w2.setCell ⟨g, i * 3 + 2, none⟩ (.int .i64 (Z + gr - T))).setCell ⟨g, i * 3 + 1, none⟩ (.int .i64 (Y - T)) = w3 at *
          clear ta0 ta1 ta2 tf0 tf1 tf2 ca1 ca2 fa1 fa2
          go_wp2_with fail
          have HZ := (((HB2.b1.set (i := 0) (.int .i64 i)).set (i := 1) (.int .i64 T)).set (i := 2) (.int .i64 (((i : Int) + 1) % n)))
          try rw [Exit.noGoto_ret]
          refine bodyPost_ret (ret_turn (by simpa using HZ) _ rfl) rfl ⟨.slice (some ⟨g, 0, none⟩) n cv, by rw [← HTK.out]; simp, ?_, (((((Env.refl w).alloc _).trans EB).set _ _).set _ _).set _ _⟩
          have hfl := flatL_set l i hi (Y - T) (Z + gr - T)
          have hset : l.set i (served q (X, Y, Z)) = l.set i (l[i].1, Y - T, (Z + gr - T)) := by
            rw [show l[i].1 = X from HL.out.1]; congr 1; unfold served; rw [← HTK.out, ← HGR.out]; rw [if_neg HB.out]
          rw [hset, ← hfl]
          exact by have := HZ.tail; rwa [sets3 _ _ _ (by omega)] at this
  · go_wp2_with fail
    go_step3
    go_wp2_with fail
    go_loop [9, 27] (fun nn i => nn = .int .i64 (-1) ∧ ∃ k : Nat, k ≤ m ∧ i = .int .i64 k) (fun _ i => n - (intOf i).toNat)
    case atStart => exact ⟨rfl, 0, by omega, rfl⟩
    case round =>
      obtain ⟨rfl, k, hk, rfl⟩ := hrel
      have hi0 : (s + k) % n < n := Nat.mod_lt _ (by omega)
      have hi1 : 0 ≤ ((s : Int) + k) % n := Int.emod_nonneg _ (by omega)
      have hi2 : ((s : Int) + k) % n < n := Int.emod_lt_of_pos _ (by omega)
      have hil : (s + k) % n < l.length := by have := HN.out; omega
      obtain ⟨b, off, rfl, hcell⟩ := (HR.out w1 H1.tail.tail).2 _ _ (flatL_get l _ hil).1
      by_cases hlt : k < m
      · have hwt : l[(s + k) % n].1 < 1 := by
          have := HTn.out.2.2.2 k hlt
          simp only [← HN.out] at this
          exact this hi0
        generalize l[(s + k) % n].1 = wt at hcell hwt
        go_wp2_with fail
        go_round
        case rel => exact ⟨rfl, k + 1, by omega, by go_num⟩
        case measure => simp [intOf]; omega
      · obtain rfl : k = m := by omega
        have hki : (s + k) % n = i := by have := HTn.out.2.1; rw [← HN.out] at this; exact this.symm
        have hki' : ((s : Int) + k) % n = (i : Int) := by rw [← hki]; simp
        have hce : l[(s + k) % n].1 = X := by simp only [hki]; exact HL.out.1
        rw [hce, hki] at hcell
        clear hce
        by_cases hb : Y - T = 0
        · have hb1 : (Y - T == 0) = true := by simp [hb]
          have HB := Lib.hid hb
          clear hb
          go_upto_region 16 with (fail)
          clear e1 e2 e3 e4
          go_wp2_with fail
          have e5 := H5.out
          have e6 := H6.out
          go_quiet (fail)
          clear e5 e6
          go_upto_region 20 with (fail)
          have HA := (H1.own_set (i := i * 3 + 2) (by omega) (.int .i64 (Z + gr))).drewN nq
          have EA := ((E1.set ⟨g, i * 3 + 2, none⟩ (.int .i64 (Z + gr))).drewN nq)
          have ca1 : ((w1.setCell ⟨g, i * 3 + 2, none⟩ (.int .i64 (Z + gr))).drewN nq).cell? ⟨g, i * 3 + 1, none⟩ = some (.int .i64 Y) := HA.own_cell _ _ (by rw [List.getElem?_set_ne (by omega)]; exact HG.out.2.1)
          have ca2 : ((w1.setCell ⟨g, i * 3 + 2, none⟩ (.int .i64 (Z + gr))).drewN nq).cell? ⟨g, i * 3 + 2, none⟩ = some (.int .i64 (Z + gr)) := HA.own_cell _ _ (by rw [List.getElem?_set_self]; rw [flatL_len]; omega)
          have fa1 := HA.own_free (by omega) (i * 3 + 1)
          have fa2 := HA.own_free (by omega) (i * 3 + 2)
          have ta0 := HA.tail.cell 0
          have ta1 := HA.tail.cell 1
          have ta2 := HA.tail.cell 2
          have tf0 := HA.tail.free 0
          have tf1 := HA.tail.free 1
          have tf2 := HA.tail.free 2
          generalize (w1.setCell ⟨g, i * 3 + 2, none⟩ (.int .i64 (Z + gr))).drewN nq = w2 at *
          clear hc0 hc1' hc2' hf1 hf2 HT0 HT1 HT2 HF0 HF1 HF2 hcell hi0 hi1 hi2 hki hki'
          rename_i hz1 hz2 hz3 hz4 hz5
          clear hz1 hz2 hz3 hat
          go_upto_region 24 with (fail)
          have HB2 := ((HA.own_set (i := i * 3 + 2) (by omega) (.int .i64 (Z + gr - T))).own_set (i := i * 3 + 1) (by omega) (.int .i64 (Y - T))).own_set (i := i * 3 + 2) (by omega) (.int .i64 0)
          have EB := ((EA.set ⟨g, i * 3 + 2, none⟩ (.int .i64 (Z + gr - T))).set ⟨g, i * 3 + 1, none⟩ (.int .i64 (Y - T))).set ⟨g, i * 3 + 2, none⟩ (.int .i64 0)
          have tb0 := HB2.tail.cell 0
          have tb1 := HB2.tail.cell 1
          have tb2 := HB2.tail.cell 2
          have tg0 := HB2.tail.free 0
          have tg1 := HB2.tail.free 1
          have tg2 := HB2.tail.free 2
          generalize ((w2.setCell ⟨g, i * 3 + 2, none⟩ (.int .i64 (Z + gr - T))).setCell ⟨g, i * 3 + 1, none⟩ (.int .i64 (Y - T))).setCell ⟨g, i * 3 + 2, none⟩ (.int .i64 0) = w3 at *
          clear ta0 ta1 ta2 tf0 tf1 tf2 ca1 ca2 fa1 fa2
          go_wp2_with fail
          have HZ := (((HB2.b1.set (i := 0) (.int .i64 i)).set (i := 1) (.int .i64 T)).set (i := 2) (.int .i64 (((i : Int) + 1) % n)))
          try rw [Exit.noGoto_ret]
          refine bodyPost_ret (ret_turn (by simpa using HZ) _ rfl) rfl ⟨.slice (some ⟨g, 0, none⟩) n cv, by rw [← HTK.out]; simp, ?_, (((((Env.refl w).alloc _).trans EB).set _ _).set _ _).set _ _⟩
          have hfl := flatL_set l i hi (Y - T) 0
          have hset : l.set i (served q (X, Y, Z)) = l.set i (l[i].1, Y - T, 0) := by
            rw [show l[i].1 = X from HL.out.1]; congr 1; unfold served; rw [← HTK.out, ← HGR.out]; rw [if_pos HB.out]
          rw [hset, ← hfl]
          exact by have := HZ.tail; rwa [sets4 _ _ _ (by omega)] at this
        · have hb1 : (Y - T == 0) = false := by simp [hb]
          have HB := Lib.hid hb
          clear hb
          go_upto_region 16 with (fail)
          clear e1 e2 e3 e4
          go_wp2_with fail
          have e5 := H5.out
          have e6 := H6.out
          go_quiet (fail)
          clear e5 e6
          go_upto_region 20 with (fail)
          have HA := (H1.own_set (i := i * 3 + 2) (by omega) (.int .i64 (Z + gr))).drewN nq
          have EA := ((E1.set ⟨g, i * 3 + 2, none⟩ (.int .i64 (Z + gr))).drewN nq)
          have ca1 : ((w1.setCell ⟨g, i * 3 + 2, none⟩ (.int .i64 (Z + gr))).drewN nq).cell? ⟨g, i * 3 + 1, none⟩ = some (.int .i64 Y) := HA.own_cell _ _ (by rw [List.getElem?_set_ne (by omega)]; exact HG.out.2.1)
          have ca2 : ((w1.setCell ⟨g, i * 3 + 2, none⟩ (.int .i64 (Z + gr))).drewN nq).cell? ⟨g, i * 3 + 2, none⟩ = some (.int .i64 (Z + gr)) := HA.own_cell _ _ (by rw [List.getElem?_set_self]; rw [flatL_len]; omega)
          have fa1 := HA.own_free (by omega) (i * 3 + 1)
          have fa2 := HA.own_free (by omega) (i * 3 + 2)
          have ta0 := HA.tail.cell 0
          have ta1 := HA.tail.cell 1
          have ta2 := HA.tail.cell 2
          have tf0 := HA.tail.free 0
          have tf1 := HA.tail.free 1
          have tf2 := HA.tail.free 2
          generalize (w1.setCell ⟨g, i * 3 + 2, none⟩ (.int .i64 (Z + gr))).drewN nq = w2 at *
          clear hc0 hc1' hc2' hf1 hf2 HT0 HT1 HT2 HF0 HF1 HF2 hcell hi0 hi1 hi2 hki hki'
          rename_i hz1 hz2 hz3 hz4 hz5
          clear hz1 hz2 hz3 hat
          go_upto_region 24 with (fail)
          have HB2 := (HA.own_set (i := i * 3 + 2) (by omega) (.int .i64 (Z + gr - T))).own_set (i := i * 3 + 1) (by omega) (.int .i64 (Y - T))
          have EB := (EA.set ⟨g, i * 3 + 2, none⟩ (.int .i64 (Z + gr - T))).set ⟨g, i * 3 + 1, none⟩ (.int .i64 (Y - T))
          have tb0 := HB2.tail.cell 0
          have tb1 := HB2.tail.cell 1
          have tb2 := HB2.tail.cell 2
          have tg0 := HB2.tail.free 0
          have tg1 := HB2.tail.free 1
          have tg2 := HB2.tail.free 2
          generalize (w2.setCell ⟨g, i * 3 + 2, none⟩ (.int .i64 (Z + gr - T))).setCell ⟨g, i * 3 + 1, none⟩ (.int .i64 (Y - T)) = w3 at *
          clear ta0 ta1 ta2 tf0 tf1 tf2 ca1 ca2 fa1 fa2
          go_wp2_with fail
          have HZ := (((HB2.b1.set (i := 0) (.int .i64 i)).set (i := 1) (.int .i64 T)).set (i := 2) (.int .i64 (((i : Int) + 1) % n)))
          try rw [Exit.noGoto_ret]
          refine bodyPost_ret (ret_turn (by simpa using HZ) _ rfl) rfl ⟨.slice (some ⟨g, 0, none⟩) n cv, by rw [← HTK.out]; simp, ?_, (((((Env.refl w).alloc _).trans EB).set _ _).set _ _).set _ _⟩
          have hfl := flatL_set l i hi (Y - T) (Z + gr - T)
          have hset : l.set i (served q (X, Y, Z)) = l.set i (l[i].1, Y - T, (Z + gr - T)) := by
            rw [show l[i].1 = X from HL.out.1]; congr 1; unfold served; rw [← HTK.out, ← HGR.out]; rw [if_neg HB.out]
          rw [hset, ← hfl]
          exact by have := HZ.tail; rwa [sets3 _ _ _ (by omega)] at this


end Go.Proofs.Ytcgpmenknloagaa
