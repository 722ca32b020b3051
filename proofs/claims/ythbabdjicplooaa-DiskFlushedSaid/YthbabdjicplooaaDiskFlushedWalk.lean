/- DiskFlushed's walk: what was flushed is there after any crash. Conditions: none. -/
import Derived.Test.YthbabdjicplooaaDiskOrderPlain
namespace Go.Proofs.Ythbabdjicplooaa
open Go.RowKit Go.WideShapes

/-- How many bytes of the pending write a crash keeps. -/
def keptN (keep : List Bool) (torn nb : Int) : Nat := if keep.getD 0 false then 128 else if torn = 0 then (min nb 128).toNat else 0
def flD (a b : Int) : Dsk := (((newD 2).write 0 (sectorL a 128)).flush).write 1 (sectorL b 128)
theorem flD_eq (a b : Int) : flD a b = ⟨[sectorL a 128, noughts], [(1, sectorL b 128)], none⟩ := rfl
theorem keptN_le (keep : List Bool) (torn nb : Int) : keptN keep torn nb ≤ 128 := by unfold keptN; split <;> (try split) <;> omega
theorem flD_crash (a b : Int) (keep : List Bool) (torn nb : Int) : ((flD a b).crash keep torn nb).rd 0 = sectorL a 128 ∧ ((flD a b).crash keep torn nb).rd 1 = tornL noughts (sectorL b 128) (keptN keep torn nb) ∧ ((flD a b).crash keep torn nb).safe.length = 2 ∧ ((flD a b).crash keep torn nb).pend = [] := by
  rw [flD_eq]
  have hS : crashS keep torn (min nb 128).toNat [sectorL a 128, noughts] [(1, sectorL b 128)] 1 = [sectorL a 128, tornL noughts (sectorL b 128) (keptN keep torn nb)] := by
    simp only [crashS, List.getElem?_cons_zero, keptN]
    by_cases hk : keep.getD 0 false = true
    · simp only [hk, if_true, List.set_cons_succ, List.set_cons_zero]
      rw [tornL, List.take_of_length_le (by rw [sectorL_len]; exact Nat.le_refl _), List.drop_of_length_le (by rw [noughts_len]; exact Nat.le_refl _), List.append_nil]
    · simp only [hk, Bool.false_eq_true, if_false]
      by_cases ht : torn = 0
      · subst ht
        simp only [Int.natCast_zero, if_true, List.set_cons_succ, List.set_cons_zero]
        rfl
      · have : ¬ ((0 : Nat) : Int) = torn := fun h => ht (by omega)
        simp only [this, ht, if_false]
        rfl
  refine ⟨?_, ?_, ?_, rfl⟩
  · simp only [Dsk.rd, Dsk.crash, lastP, Option.getD_none, List.length_cons, List.length_nil]
    rw [hS]; rfl
  · simp only [Dsk.rd, Dsk.crash, lastP, Option.getD_none, List.length_cons, List.length_nil]
    rw [hS]; rfl
  · simp only [Dsk.crash, List.length_cons, List.length_nil]
    rw [hS]; rfl
theorem torn_get (b : Int) (m i : Nat) (hm : m ≤ 128) (hi : i < 128) : (tornL noughts (sectorL b 128) m).getD i 0 = if i < m then (sectorL b 128).getD i 0 else 0 := by
  have h1 : (List.take m (sectorL b 128)).length = m := by rw [List.length_take, sectorL_len]; omega
  rw [tornL, List.getD_eq_getElem?_getD, List.getElem?_append, h1]
  by_cases h : i < m
  · rw [if_pos h, if_pos h, List.getElem?_take, if_pos h, List.getD_eq_getElem?_getD]
  · rw [if_neg h, if_neg h, List.getElem?_drop, noughts, List.getElem?_replicate, if_pos (by omega)]; rfl
theorem torn_len (b : Int) (m : Nat) (hm : m ≤ 128) : (tornL noughts (sectorL b 128) m).length = 128 := by
  rw [tornL, List.length_append, List.length_take, List.length_drop, sectorL_len, noughts_len]; omega
theorem bytes_at {xs : List Int} {i : Nat} (h : i < xs.length) : (bytes xs)[i]? = some (.int .u8 (xs.getD i 0)) := by simp [bytes, h]

set_option maxHeartbeats 8000000 in
set_option maxRecDepth 100000 in
theorem diskFlushed_any {w : World} {F : List HP} (a b : Int) (AK : Option Addr) (nk ck : Nat) (keep : List Bool) (torn nb : Int) (H : Sat w F) (hrk : Reads F 1 AK nk (keep.map Value.bool)) (ha : 0 ≤ a ∧ a ≤ 255) (hb : 0 ≤ b ∧ b ≤ 255) :
    Calls Try.prog 3 #[.int .u8 a, .int .u8 b, .agg #[.slice AK nk ck, .int .i64 torn, .int .i64 nb]] w fun e w' => e = .returned (.bool true) ∧ Sat w' F ∧ Env w w' := by
  have HKN := Lib.hid (show nk = keep.length by have := (hrk w H).1; simpa using this.symm)
  have HRK := Lib.hid hrk
  clear hrk
  go_enter Try.func3, Try.ntmps3
  go_upto_region 1 with fail
  have H0 := H.alloc (.cells #[.slice AK nk ck, .int .i64 torn, .int .i64 nb] 24)
  have E0 := (Env.refl w).alloc (.cells #[.slice AK nk ck, .int .i64 torn, .int .i64 nb] 24)
  generalize w.alloc (.cells #[.slice AK nk ck, .int .i64 torn, .int .i64 nb] 24) = wa at *
  generalize w.heap.size = bx at *
  clear H
  go_wp2_with fail
  refine (begun_any 2 H0 (by omega) (by omega)).mono ?_
  rintro e w1 ⟨d, rfl, H1, E1⟩
  replace E1 := E0.trans E1
  go_wp2_with fail
  refine (sector_any a 128 H1 ha (by omega)).mono ?_
  rintro e w2 ⟨v2, rfl, H2, E2⟩
  obtain ⟨A2, c2, rfl, -, -, -⟩ := H2.own_form
  go_wp2_with fail
  refine (dwrite 0 A2 c2 (sectorL a 128) H2.b1 (fun w H => H.own_at.1) (by decide) (by decide) (by decide)).mono ?_
  rintro e w3 ⟨rfl, H3, E3⟩
  replace E3 := (E1.trans E2).trans E3
  replace H3 := H3.b1.tail
  go_wp2_with fail
  refine (dflush H3 (by simp [Dsk.write, newD]) (by simp [Dsk.write, newD])).mono ?_
  rintro e w4 ⟨rfl, H4, E4⟩
  replace E4 := E3.trans E4
  clear H0 H1 H2 H3 E0 E1 E2 E3
  go_wp2_with fail
  refine (sector_any b 128 H4 hb (by omega)).mono ?_
  rintro e w5 ⟨v5, rfl, H5, E5⟩
  obtain ⟨A5, c5, rfl, -, -, -⟩ := H5.own_form
  go_wp2_with fail
  refine (dwrite 1 A5 c5 (sectorL b 128) H5.b1 (fun w H => H.own_at.1) (by simp [Dsk.flush, Dsk.write, newD, sets_len]) (by simp [Dsk.flush, Dsk.write, newD]) (by simp [Dsk.flush])).mono ?_
  rintro e w6 ⟨rfl, H6, E6⟩
  replace E6 := (E4.trans E5).trans E6
  replace H6 := H6.b1.tail
  change Sat w6 (disk d (flD a b) :: _) at H6
  have b0 := H6.b1.cell 0
  have b1 := H6.b1.cell 1
  have b2 := H6.b1.cell 2
  clear H4 H5 E4 E5
  go_wp2_with fail
  refine (dcrash AK nk ck keep torn nb H6 (fun w H => HRK.out w H.tail) (by simp [flD_eq])).mono ?_
  rintro e w7 ⟨rfl, H7, E7⟩
  replace E7 := E6.trans E7
  have HC := Lib.hid (flD_crash a b keep torn nb)
  generalize (flD a b).crash keep torn nb = D at *
  clear b0 b1 b2 H6 E6
  go_wp2_with fail
  refine (dread 0 H7 (by rw [HC.out.2.2.1]; omega)).mono ?_
  rintro e w8 ⟨v8, rfl, H8, E8⟩
  replace E8 := E7.trans E8
  rw [HC.out.1] at H8
  obtain ⟨A8, c8, rfl, -, -, -⟩ := H8.own_form
  go_wp2_with fail
  refine (dread 1 H8.b1 (by rw [HC.out.2.2.1]; omega)).mono ?_
  rintro e w9 ⟨v9, rfl, H9, E9⟩
  replace E9 := E8.trans E9
  rw [HC.out.2.1] at H9
  obtain ⟨m, hm⟩ : ∃ m, keptN keep torn nb = m := ⟨_, rfl⟩
  have hm128 : m ≤ 128 := by rw [← hm]; exact keptN_le _ _ _
  have HKM := Lib.hid (show keep.getD 0 false = true → m = 128 from fun h => by rw [← hm, keptN, if_pos h])
  rw [hm] at H9
  clear hm H7 H8 E7 E8
  obtain ⟨g9, c9, rfl, -⟩ := H9.own_addr (by omega)
  have hcv := conv_rd (c := c8) H9.drew.b2.own_at.1 (by omega)
  go_upto_region 7 with fail
  go_cut [64] from 54 to 64 (fun s64 wr => s64 = .bool false ∧ Sat wr (own 5 1 (.slice (some ⟨g9, 0, none⟩) 128 c9) 128 (bytes (tornL noughts (sectorL b 128) m)) :: disk d D :: own 5 1 (.slice A8 128 c8) 128 (bytes (sectorL a 128)) :: row bx 24 #[.slice AK nk ck, .int .i64 torn, .int .i64 nb] :: F) ∧ Env w wr)
  case first =>
    go_region_with (first
      | (go_at_call 23; refine (sector_any a 128 H9.drew ha (by omega)).mono ?_; rintro e w10 ⟨v10, rfl, H10, E10⟩; obtain ⟨A10, c10, rfl, -, -, -⟩ := H10.own_form; have hcv10 := conv_rd (c := c10) H10.own_at.1 (by omega); have hcv8 := conv_rd (c := c8) H10.b3.own_at.1 (by omega)))
    all_goals
      go_wp2_with fail
      go_meet
      case rel => exact ⟨rfl, H10.tail, E9.drew.trans E10⟩
  case rest =>
  clear hcv H9 E9
  obtain ⟨rfl, H10, E10⟩ := hcut
  go_wp2_with fail
  obtain ⟨Y, hY⟩ : ∃ Y, tornL noughts (sectorL b 128) m = Y := ⟨_, rfl⟩
  have HYL := Lib.hid (show Y.length = 128 by rw [← hY]; exact torn_len b m hm128)
  have HYG := Lib.hid (show ∀ i, i < 128 → Y.getD i 0 = if i < m then (sectorL b 128).getD i 0 else 0 from fun i hi => by rw [← hY]; exact torn_get b m i hm128 hi)
  rw [hY] at H10
  clear hY
  go_loopw [13] (fun nn wr => ∃ k : Nat, k ≤ 128 ∧ nn = .int .i64 k ∧ Sat wr (own 5 1 (.slice (some ⟨g9, 0, none⟩) 128 c9) 128 (bytes Y) :: disk d D :: own 5 1 (.slice A8 128 c8) 128 (bytes (sectorL a 128)) :: row bx 24 #[.slice AK nk ck, .int .i64 torn, .int .i64 nb] :: F) ∧ Env w wr) (fun nn _ => 128 - (intOf nn).toNat)
  case atStart => exact ⟨0, by omega, rfl, H10, E10⟩
  case round =>
    clear H10 E10
    obtain ⟨k, hk, rfl, H11, E11⟩ := hrel
    obtain ⟨pq, hpq⟩ : ∃ pq, (decide (k < 128) && (Y.getD k 0 == (sectorL b 128).getD k 0)) = pq := ⟨_, rfl⟩
    go_upto_region 10 with fail
    go_cut [78] from 65 to 78 (fun s78 wr => s78 = .bool pq ∧ Sat wr (own 5 1 (.slice (some ⟨g9, 0, none⟩) 128 c9) 128 (bytes Y) :: disk d D :: own 5 1 (.slice A8 128 c8) 128 (bytes (sectorL a 128)) :: row bx 24 #[.slice AK nk ck, .int .i64 torn, .int .i64 nb] :: F) ∧ Env w wr)
    case first =>
      by_cases hlt : k < 128
      · rw [decide_eq_true hlt, Bool.true_and] at hpq
        have hy := H11.drew.own_cell k _ (bytes_at (by rw [HYL.out]; exact hlt))
        obtain ⟨p, hp⟩ : ∃ p, Y.getD k 0 = p := ⟨_, rfl⟩
        obtain ⟨q, hq⟩ : ∃ q, (sectorL b 128).getD k 0 = q := ⟨_, rfl⟩
        rw [hp] at hy hpq
        rw [hq] at hpq
        have HP := Lib.hid hp
        have HQ := Lib.hid hq
        clear hp hq
        have hki : (k : Int) < 128 := by omega
        refine wp_region_held_drew (S := fun w' => w'.cell? ⟨g9, k, none⟩ = some (.int .u8 p)) (by kernel_rfl) hy (fun hHeld => ?_)
        refine' wpAnyH_take (i := 0) (oi := _) (v := _) rfl (by kernel_rfl) (by kernel_rfl) (by kernel_rfl) (fun _ _ _ h => h) (Or.inl ⟨by rfl, ?hy0⟩) hHeld ?rest0
        case hy0 => (intro w' hSw; (try dsimp only at hSw); go_simp; try with_reducible rfl)
        simp only [List.getElem_toArray, List.getElem_cons_zero, Act.put, List.setIfInBounds_toArray, List.set_cons_zero, List.set_cons_succ]
        refine' wpAnyH_take (i := 1) (oi := _) (v := _) rfl (by kernel_rfl) (by kernel_rfl) (by kernel_rfl) (fun _ _ _ h => h) (Or.inl ⟨by rfl, ?hy1⟩) hHeld ?rest1
        case hy1 => (intro w' hSw; (try dsimp only at hSw); go_simp; try with_reducible rfl)
        simp only [List.getElem_toArray, List.getElem_cons_zero, List.getElem_cons_succ, Act.put, List.setIfInBounds_toArray, List.set_cons_zero, List.set_cons_succ]
        refine' wpAnyH_take (i := 2) (oi := _) (v := _) rfl (by kernel_rfl) (by kernel_rfl) (by kernel_rfl) (fun _ _ _ h => h) (Or.inl ⟨by rfl, ?hy2⟩) hHeld ?rest2
        case hy2 => (intro w' hSw; (try dsimp only at hSw); go_simp; try with_reducible rfl)
        simp only [List.getElem_toArray, List.getElem_cons_zero, List.getElem_cons_succ, Act.put, List.setIfInBounds_toArray, List.set_cons_zero, List.set_cons_succ]
        refine' wpAnyH_take (i := 3) (oi := _) (v := _) rfl (by kernel_rfl) (by kernel_rfl) (by kernel_rfl) (fun _ _ _ h => h) (Or.inl ⟨by rfl, ?hy3⟩) hHeld ?rest3
        case hy3 => (intro w' hSw; (try dsimp only at hSw); go_simp; try with_reducible rfl)
        simp only [List.getElem_toArray, List.getElem_cons_zero, List.getElem_cons_succ, Act.put, List.setIfInBounds_toArray, List.set_cons_zero, List.set_cons_succ]
        refine' wpAnyH_take (i := 4) (oi := _) (v := _) rfl (by kernel_rfl) (by kernel_rfl) (by kernel_rfl) (fun _ _ _ h => h) (Or.inl ⟨by rfl, ?hy4⟩) hHeld ?rest4
        case hy4 => (intro w' hSw; (try dsimp only at hSw); go_simp; try with_reducible rfl)
        simp only [List.getElem_toArray, List.getElem_cons_zero, List.getElem_cons_succ, Act.put, List.setIfInBounds_toArray, List.set_cons_zero, List.set_cons_succ]
        refine' wpAnyH_take (i := 5) (oi := _) (v := _) rfl (by kernel_rfl) (by kernel_rfl) (by kernel_rfl) (fun _ _ _ h => h) (Or.inl ⟨by rfl, ?hy5⟩) hHeld ?rest5
        case hy5 => (intro w' hSw; (try dsimp only at hSw); go_simp; try with_reducible rfl)
        simp only [List.getElem_toArray, List.getElem_cons_zero, List.getElem_cons_succ, Act.put, List.setIfInBounds_toArray, List.set_cons_zero, List.set_cons_succ]
        refine' wpAnyH_take (i := 6) (oi := _) (v := _) rfl (by kernel_rfl) (by kernel_rfl) (by kernel_rfl) (fun _ _ _ h => h) (Or.inl ⟨by rfl, ?hy6⟩) hHeld ?rest6
        case hy6 => (intro w' hSw; (try dsimp only at hSw); go_simp; try with_reducible rfl)
        simp only [List.getElem_toArray, List.getElem_cons_zero, List.getElem_cons_succ, Act.put, List.setIfInBounds_toArray, List.set_cons_zero, List.set_cons_succ]
        refine' wpAnyH_take (i := 7) (oi := _) (v := _) rfl (by kernel_rfl) (by kernel_rfl) (by kernel_rfl) (fun _ _ _ h => h) (Or.inl ⟨by rfl, ?hy7⟩) hHeld ?rest7
        case hy7 => (intro w' hSw; (try dsimp only at hSw); go_simp; try with_reducible rfl)
        simp only [List.getElem_toArray, List.getElem_cons_zero, List.getElem_cons_succ, Act.put, List.setIfInBounds_toArray, List.set_cons_zero, List.set_cons_succ]
        refine' wpAnyH_take (i := 9) (oi := _) (v := _) rfl (by kernel_rfl) (by kernel_rfl) (by kernel_rfl) (fun _ _ _ h => h) (Or.inl ⟨by rfl, ?hy9⟩) hHeld ?rest9
        case hy9 => (intro w' hSw; (try dsimp only at hSw); go_simp; try with_reducible rfl)
        simp only [List.getElem_toArray, List.getElem_cons_zero, List.getElem_cons_succ, Act.put, List.setIfInBounds_toArray, List.set_cons_zero, List.set_cons_succ]
        refine wpAnyH_ready (rs := [8]) (by kernel_rfl) (by simp) ?_
        refine AllReadyH.cons (o := _) rfl (fun K hK => ?_) AllReadyH.nil
        rw [if_pos (by rfl)]
        go_simp
        go_at_call 23
        refine (sector_any b 128 H11.drew hb (by omega)).mono ?_
        rintro e w12 ⟨v12, rfl, H12, E12⟩
        obtain ⟨g12, c12, rfl, -⟩ := H12.own_addr (by omega)
        have hy12 := H12.b1.own_cell k _ (bytes_at (by rw [HYL.out]; exact hlt))
        have hz12 := H12.own_cell k _ (bytes_at (by rw [sectorL_len]; exact hlt))
        rw [HP.out] at hy12
        rw [HQ.out] at hz12
        refine hK.out _ _ hy12 (fun hHeld2 => ?_)
        clear hK K
        refine' wpAnyH_take (i := 10) (oi := _) (v := _) rfl (by kernel_rfl) (by kernel_rfl) (by kernel_rfl) (fun _ _ _ h => h) (Or.inl ⟨by rfl, ?hy10⟩) hHeld2 ?rest10
        case hy10 => (intro w' hSw; (try dsimp only at hSw); go_simp; try with_reducible rfl)
        simp only [List.getElem_toArray, List.getElem_cons_zero, List.getElem_cons_succ, Act.put, List.setIfInBounds_toArray, List.set_cons_zero, List.set_cons_succ]
        refine wpAnyH_ready (rs := [11]) (by kernel_rfl) (by simp) ?_
        refine AllReadyH.cons (o := _) rfl (fun K hK => ?_) AllReadyH.nil
        rw [if_pos (by rfl)]
        go_simp
        refine hK.out _ _ hy12 (fun hHeld3 => ?_)
        clear hK K
        refine' wpAnyH_take (i := 12) (oi := _) (v := _) rfl (by kernel_rfl) (by kernel_rfl) (by kernel_rfl) (fun _ _ _ h => h) (Or.inl ⟨by rfl, ?hy12⟩) hHeld3 ?rest12
        case hy12 => (intro w' hSw; (try dsimp only at hSw); go_simp; try with_reducible rfl)
        simp only [List.getElem_toArray, List.getElem_cons_zero, List.getElem_cons_succ, Act.put, List.setIfInBounds_toArray, List.set_cons_zero, List.set_cons_succ]
        refine' wpAnyH_take (i := 13) (oi := _) (v := _) rfl (by kernel_rfl) (by kernel_rfl) (by kernel_rfl) (fun _ _ _ h => h) (Or.inl ⟨by rfl, ?hy13⟩) hHeld3 ?rest13
        case hy13 => (intro w' hSw; (try dsimp only at hSw); go_simp; try with_reducible rfl)
        simp only [List.getElem_toArray, List.getElem_cons_zero, List.getElem_cons_succ, Act.put, List.setIfInBounds_toArray, List.set_cons_zero, List.set_cons_succ]
        refine wpAnyH_done (by kernel_rfl) ?_ _
        go_wp2_with fail
        go_meet
        case rel => exact ⟨by rw [← hpq], H12.tail, E11.drew.trans E12⟩
      · obtain rfl : k = 128 := by omega
        have hpf : pq = false := by rw [← hpq]; rfl
        subst hpf
        clear hpq
        have hki : ¬ (128 : Int) < 128 := by omega
        have H12 := H11.drew
        have E12 := E11.drew
        go_region
        go_wp2_with fail
        go_meet
        case rel => exact ⟨rfl, H12, E12⟩
    case rest =>
    clear H11 E11
    obtain ⟨rfl, H13, E13⟩ := hcut
    cases pq with
    | true =>
      have hlt : k < 128 := by
        apply Classical.byContradiction
        intro h
        rw [decide_eq_false h] at hpq
        cases hpq
      clear hpq
      go_wp2_with fail
      go_roundw
      case rel => exact ⟨k + 1, by omega, by go_num, H13, E13⟩
      case measure => simp [intOf]; omega
    | false =>
      have hmk : m ≤ k := by
        apply Classical.byContradiction
        intro h
        rw [decide_eq_true (show k < 128 by omega), HYG.out k (by omega), if_pos (by omega)] at hpq
        simp at hpq
      clear hpq
      go_wp2_with fail
      go_loopw [14] (fun ii wr => ∃ i : Nat, k ≤ i ∧ i ≤ 128 ∧ ii = .int .i64 i ∧ Sat wr (own 5 1 (.slice (some ⟨g9, 0, none⟩) 128 c9) 128 (bytes Y) :: disk d D :: own 5 1 (.slice A8 128 c8) 128 (bytes (sectorL a 128)) :: row bx 24 #[.slice AK nk ck, .int .i64 torn, .int .i64 nb] :: F) ∧ Env w wr) (fun ii _ => 128 - (intOf ii).toNat)
      case atStart => exact ⟨k, by omega, by omega, rfl, H13, E13⟩
      case round =>
        clear H13 E13
        obtain ⟨i, hki, hi, rfl, H14, E14⟩ := hrel
        by_cases hlt : i < 128
        · have hy := H14.own_cell i _ (bytes_at (by rw [HYL.out]; exact hlt))
          rw [HYG.out i hlt, if_neg (by omega)] at hy
          go_wp2_with fail
          go_roundw
          case rel => exact ⟨i + 1, by omega, by omega, by go_num, H14, E14⟩
          case measure => simp [intOf]; omega
        · have b0 := H14.b3.cell 0
          have hK : (0 < nk ∧ keep.getD 0 false = true ∧ k = 128) ∨ (0 < nk ∧ keep.getD 0 false = false) ∨ nk = 0 := by
            rcases Nat.eq_zero_or_pos nk with h | h
            · exact .inr (.inr h)
            · cases hk0 : keep.getD 0 false with
              | true => exact .inl ⟨h, rfl, by have := HKM.out hk0; omega⟩
              | false => exact .inr (.inl ⟨h, rfl⟩)
          rcases hK with ⟨h0, h1, rfl⟩ | ⟨h0, h1⟩ | rfl
          · obtain ⟨bK, oK, rfl, hcK⟩ := (HRK.out wr H14.tail.tail.tail.tail).2 0 (.bool (keep.getD 0 false)) (by have := HKN.out; simp [show 0 < keep.length by omega])
            rw [h1, Nat.add_zero] at hcK
            clear h1
            go_wp2_with fail
            refine (dpending H14.b1).mono ?_
            rintro e wx ⟨rfl, rfl⟩
            rw [show D.pend.length = 0 by rw [HC.out.2.2.2]; rfl]
            go_wp2_with fail
            refine (known3 H14.tail.tail.tail.tail).mono ?_
            rintro e w15 ⟨rfl, H15, E15⟩
            go_wp2_with fail
            go_ret
            exact ⟨rfl, H15, E14.trans E15⟩
          · obtain ⟨bK, oK, rfl, hcK⟩ := (HRK.out wr H14.tail.tail.tail.tail).2 0 (.bool (keep.getD 0 false)) (by have := HKN.out; simp [show 0 < keep.length by omega])
            rw [h1, Nat.add_zero] at hcK
            clear h1
            go_wp2_with fail
            refine (dpending H14.b1).mono ?_
            rintro e wx ⟨rfl, rfl⟩
            rw [show D.pend.length = 0 by rw [HC.out.2.2.2]; rfl]
            go_wp2_with fail
            refine (known3 H14.tail.tail.tail.tail).mono ?_
            rintro e w15 ⟨rfl, H15, E15⟩
            go_wp2_with fail
            go_ret
            exact ⟨rfl, H15, E14.trans E15⟩
          · go_wp2_with fail
            refine (dpending H14.b1).mono ?_
            rintro e wx ⟨rfl, rfl⟩
            rw [show D.pend.length = 0 by rw [HC.out.2.2.2]; rfl]
            go_wp2_with fail
            refine (known3 H14.tail.tail.tail.tail).mono ?_
            rintro e w15 ⟨rfl, H15, E15⟩
            go_wp2_with fail
            go_ret
            exact ⟨rfl, H15, E14.trans E15⟩
end Go.Proofs.Ythbabdjicplooaa
