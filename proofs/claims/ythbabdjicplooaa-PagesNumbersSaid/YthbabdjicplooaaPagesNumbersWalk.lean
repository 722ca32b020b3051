/- PagesNumbers' walk. Conditions: none. -/
import Derived.Test.YthbabdjicplooaaPageQG
namespace Go.Proofs.Ythbabdjicplooaa
open Go.RowKit

def numQ (n : Nat) : List Sh := (List.range n).map fun j => (((2 * j : Nat) : Int), (.pointer none : Value), pageL (j : Int))
theorem num_mem {n : Nat} {q : Sh} (h : q ∈ numQ n) : ∃ j, j < n ∧ q = (((2 * j : Nat) : Int), (.pointer none : Value), pageL (j : Int)) := by
  obtain ⟨j, hj, rfl⟩ := List.mem_map.1 h
  exact ⟨j, List.mem_range.1 hj, rfl⟩
set_option maxRecDepth 100000 in
theorem num_shs {n : Nat} (hn : n ≤ 256) : Shs (numQ n) := by
  refine ⟨fun q hq => ?_, ?_, by rw [numQ, List.length_map, List.length_range]; omega⟩
  · obtain ⟨j, hj, rfl⟩ := num_mem hq
    exact ⟨by dsimp only; omega, by dsimp only; omega, by dsimp only; exact pageL_len _, by dsimp only; exact pageL_in _⟩
  · rw [numQ, List.map_map]
    refine List.pairwise_map.2 ?_
    refine List.Pairwise.imp_of_mem (R := fun a b : Nat => a ≠ b) (fun {a b} ha hb h => ?_) List.nodup_range
    simp only [Function.comp, Int.toNat_natCast]
    omega
set_option maxRecDepth 100000 in
theorem numQ_snoc (k : Nat) : (numQ (k + 1)).map shF = (numQ k).map shF ++ [(((2 * k : Nat) : Int), pageL (k : Int))] := by
  rw [numQ, List.range_succ, List.map_append, List.map_append]; rfl
theorem num_len {n : Nat} {R : List Sh} (h : R.map shF = (numQ n).map shF) : R.length = n := by
  have := congrArg List.length h
  rwa [List.length_map, List.length_map, numQ, List.length_map, List.length_range] at this
theorem num_at {n : Nat} (hn : n ≤ 256) {R : List Sh} (h : R.map shF = (numQ n).map shF) (m : Nat → List Int) {k : Nat} (hk : k < R.length) : updR m R R[k].1.toNat = R[k].2.2 ∧ 0 ≤ R[k].1 ∧ R[k].1 < 512 ∧ R[k].2.2.length = 1024 ∧ InB R[k].2.2 := by
  have hs := (num_shs hn).same h
  have hq := hs.ok _ (List.getElem_mem hk)
  exact ⟨updR_in hs.nd _ (List.getElem_mem hk) rfl, hq.n0, hq.n1, hq.len, hq.inb⟩

set_option maxHeartbeats 32000000 in
set_option maxRecDepth 100000 in
theorem pagesNumbers_any {w : World} {F : List HP} (H : Sat w F) :
    Calls Try.prog 16 #[] w fun e w' => e = .returned (.bool true) ∧ Sat w' F ∧ Env w w' := by
  go_enter Try.func16, Try.ntmps16
  go_wp2_with fail
  refine (begun5 H).mono ?_
  rintro e w1 ⟨d, s, p, D, rfl, hC, hl, H1, E1⟩
  have HC := Lib.hid hC
  have HL := Lib.hid hl
  obtain ⟨L, hL0⟩ : ∃ L, freshL 4096 3583 = L := ⟨_, rfl⟩
  rw [hL0] at HC H1
  clear hC hl H hL0
  go_wp2_with fail
  refine (dnew 7679 H1 (by omega) (by omega)).mono ?_
  rintro e w2 ⟨d2, rfl, H2, E2⟩
  replace E2 := E1.trans E2
  have HS2 := Lib.hid (show (newD 7679).safe.length < 7680 by rw [newD_len]; omega)
  generalize newD 7679 = D2 at *
  clear H1 E1
  go_wp2_with fail
  refine (dnew 7680 H2 (by omega) (by omega)).mono ?_
  rintro e w3 ⟨d3, rfl, H3, E3⟩
  replace E3 := E2.trans E3
  clear H2 E2
  go_wp2_with fail
  refine (popen_bare H3 (by rw [newD_len]; omega) (newD_db _) (by rw [newD_rd]; decide)).mono ?_
  rintro e w4 ⟨rfl, H4, E4⟩
  replace E4 := E3.trans E4
  have H5 := H4.tail.p3
  clear H3 E3 H4
  go_wp2_with fail
  refine (pread_no s (-1) (by omega)).mono ?_
  rintro e wq ⟨rfl, hwq⟩
  subst hwq
  go_wp2_with fail
  refine (pread_no s 512 (by omega)).mono ?_
  rintro e wq ⟨rfl, hwq⟩
  subst hwq
  go_wp2_with fail
  refine (page5 1 H5 (by omega)).mono ?_
  rintro e w6 ⟨v6, rfl, H6, E6⟩
  obtain ⟨A6, c6, rfl, -, -, -⟩ := H6.own_form
  go_wp2_with fail
  refine (page5 2 H6 (by omega)).mono ?_
  rintro e w7 ⟨v7, rfl, H7, E7⟩
  obtain ⟨A7, c7, rfl, -, -, -⟩ := H7.own_form
  have H8 := H7.sheet_two (n := 3) (n2 := 3) (pageL_len 1) (pageL_len 2)
  have E8 := ((E4.trans E6).trans E7).alloc (.cells #[.int .i64 3, .slice A6 1024 c6, .int .i64 3, .slice A7 1024 c7] 98)
  have HIN8 := Lib.hid (show ∀ q ∈ [((3 : Int), (.slice A6 1024 c6 : Value), pageL 1), ((3 : Int), (.slice A7 1024 c7 : Value), pageL 2)], InB q.2.2 from fun q hq => by
    rcases List.mem_cons.1 hq with rfl | hq
    · exact pageL_in 1
    · rw [List.mem_singleton.1 hq]; exact pageL_in 2)
  have HNO8 := Lib.hid (show ¬ Shs [((3 : Int), (.slice A6 1024 c6 : Value), pageL 1), ((3 : Int), (.slice A7 1024 c7 : Value), pageL 2)] from fun h => by have := h.nd; simp at this)
  clear H5 E4 H6 E6 H7 E7
  go_wp2_with fail
  refine (pput_bad _ 2 2 _ H8.b4.b4.b4 HIN8.out (by omega) HC.out (by omega) HNO8.out).mono ?_
  rintro e w9 ⟨rfl, H9, E9⟩
  replace E9 := E8.trans E9
  clear H8 E8 HIN8 HNO8
  go_upto_region 11 with (first
    | (at_make; go_must (refine wpList_make_sat rfl _ _ 30 rfl H9 5 (.int .u8 0) 1 1 Try.underlying30 Try.info_byte _ _ 5 rfl rfl (by omega) (by simp only [maxLen]; omega) ?_); intro w10 H10 E10; rw [made_byte] at H10)
    | (go_at_call 60; refine (pput_bad _ 1 1 _ (H10.sheet_one (n := 3) (by simp)).b4.b4.b4 (fun q hq => by rw [List.mem_singleton.1 hq]; intro x hx; have := List.eq_of_mem_replicate hx; omega) (by omega) HC.out (by omega) (fun h => by have := (h.ok _ (List.mem_singleton.2 rfl)).len; simp at this)).mono ?_; rintro e w11 ⟨rfl, H11, E11⟩))
  replace E11 := (((E9.trans E10).alloc _).trans E11)
  clear H9 E9 H10 E10
  go_wp2_with fail
  refine (page5 1 H11 (by omega)).mono ?_
  rintro e w12 ⟨v12, rfl, H12, E12⟩
  obtain ⟨A12, c12, rfl, -, -, -⟩ := H12.own_form
  have H13 := H12.sheet_one (n := 512) (pageL_len 1)
  have E13 := (E11.trans E12).alloc (.cells #[.int .i64 512, .slice A12 1024 c12] 98)
  clear H11 E11 H12 E12
  go_wp2_with fail
  refine (pput_bad _ 1 1 _ H13.b4.b4.b4 (fun q hq => by rw [List.mem_singleton.1 hq]; exact pageL_in 1) (by omega) HC.out (by omega) (fun h => by have := (h.ok _ (List.mem_singleton.2 rfl)).n1; simp at this)).mono ?_
  rintro e w14 ⟨rfl, H14, E14⟩
  replace E14 := E13.trans E14
  clear H13 E13
  go_upto_region 13 with (first
    | (at_make; go_must (refine wpList_make_sat rfl _ _ 99 rfl H14 98 (.agg #[.int .i64 0, .slice none 0 0]) 2 32 Try.underlying99 Try.info_sheet _ _ 257 rfl rfl (by omega) (by simp only [maxLen]; omega) ?_); intro w15 H15 E15)
    | (go_at_call 60; refine (pput_big s _ _).mono ?_; rintro e wq ⟨rfl, hwq⟩; subst hwq))
  have H16 := (Sat.ownB_nil H15.tail).own_nil 98 2
  have E16 := E14.trans E15
  clear H14 E14 H15 E15
  go_wp2_with fail
  go_loopw [18, 19] (fun s13 j wr => ∃ (k : Nat) (R : List Sh) (A : Option Addr) (c : Nat), k ≤ 256 ∧ j = .int .i64 k ∧ s13 = .slice A k c ∧ Hid (R.map shF = (numQ k).map shF) ∧ Sat wr (own 98 2 (.slice A k c) k (flatS R) :: ownB (R.map (·.2)) :: sto s d p (D.rd 7679) :: logc p d L :: disk d D :: disk d2 D2 :: F) ∧ Env w wr) (fun _ j _ => 256 - (intOf j).toNat)
  case atStart => exact ⟨0, [], none, 0, by omega, rfl, rfl, Lib.hid rfl, H16, E16⟩
  case round =>
    clear H16 E16
    obtain ⟨k, R, A, c, hk, rfl, rfl, HR, H3, E3⟩ := hrel
    by_cases hkn : k < 256
    · obtain ⟨q1, hq1⟩ : ∃ q : Nat, 2 * k = q := ⟨_, rfl⟩
      have hw1 : IntKind.i64.wrap (2 * (k : Int)) = (q1 : Int) := by rw [IntWalk.i64_in _ (by omega)]; omega
      have hw3 : (q1 : Int).tmod 512 = (q1 : Int) := by rw [Int.tmod_eq_emod_of_nonneg (by omega)]; omega
      have hw5 : IntKind.u8.wrap (k : Int) = (k : Int) := by rw [IntKind.wrap_u8]; omega
      have HS := Lib.hid (show (numQ (k + 1)).map shF = (numQ k).map shF ++ [((q1 : Int), pageL (k : Int))] from by rw [numQ_snoc, hq1])
      clear hq1
      go_wp2_with fail
      refine (page5 (k : Int) H3 (by omega)).mono ?_
      rintro e w4 ⟨v4, rfl, H4, E4⟩
      obtain ⟨A4, c4, rfl, -, -, -⟩ := H4.own_form
      have E4' := (E3.trans E4).alloc (.cells #[.int .i64 q1, .slice A4 1024 c4] 98)
      clear hw1 hw3 hw5
      go_wp2_with (at_builtin; go_must (refine wpList_append_sat rfl (.tmp 80) (.tmp 88) 99 rfl (H4.b1.alloc' _) rfl _ 32 Try.underlying99 Try.info_sheet rfl (by omega) _ _ _ [.int .i64 q1, .slice A4 1024 c4] rfl (fun h => by cases h) rfl (lit_src _ _ _ _ rfl) (by simp [Value.oneCell']) (by simp only [maxLen]; omega) (by omega) ?_); intro v8 w8 H8 E8; obtain ⟨A8, c8, rfl, -, -, -⟩ := H8.own_form)
      have H9 : Sat w8 (ownB (R.map (·.2) ++ [((.slice A4 1024 c4 : Value), pageL (k : Int))]) :: _) := Sat.ownB_snoc (by rw [pageL_len]; exact H8.p2)
      have hf : flatS (R ++ [((q1 : Int), (.slice A4 1024 c4 : Value), pageL (k : Int))]) = flatS R ++ [.int .i64 q1, .slice A4 1024 c4] := by simp [flatS, cellsS]
      have H10 := H9.b1
      rw [← hf, show R.map (·.2) ++ [((.slice A4 1024 c4 : Value), pageL (k : Int))] = (R ++ [((q1 : Int), (.slice A4 1024 c4 : Value), pageL (k : Int))]).map (·.2) by rw [List.map_append]; rfl] at H10
      have HR2 := Lib.hid (show (R ++ [((q1 : Int), (.slice A4 1024 c4 : Value), pageL (k : Int))]).map shF = (numQ (k + 1)).map shF from by rw [List.map_append, HR.out, HS.out]; rfl)
      have E10 := E4'.trans E8
      clear H3 E3 H4 E4 E4' H8 E8 H9 hf HS HR
      generalize R ++ [((q1 : Int), (.slice A4 1024 c4 : Value), pageL (k : Int))] = R2 at *
      go_wp2_with fail
      go_roundw
      case rel => exact ⟨k + 1, R2, A8, c8, by omega, by go_num, rfl, HR2, H10, E10⟩
      case measure => simp [intOf]; omega
    · obtain rfl : k = 256 := by omega
      have HS := Lib.hid ((num_shs (n := 256) (by omega)).same HR.out)
      have HLR := Lib.hid (num_len HR.out)
      have H4 := H3.b4.b4.b4
      go_wp2_with fail
      refine (pput_fine A 256 c R H4 HS.out (fun h => by have := HLR.out; rw [h] at this; simp at this) HC.out HL.out (by omega)).mono ?_
      rintro e w5 ⟨D5, L5, rfl, hC5, hl5, H5, E5⟩
      have HC5 := Lib.hid hC5
      have HL5 := Lib.hid hl5
      have E5' := E3.trans E5
      clear hC5 hl5 H3 H4 E3 E5 HS HC HL
      go_wp2_with fail
      refine (popen_fine H5.b2 HC5.out HL5.out (by omega)).mono ?_
      rintro e w6 ⟨s6, p6, rfl, H6, E6⟩
      have E6' := E5'.trans E6
      have H7 : Sat w6 (sto s6 d p6 (D5.rd 7679) :: disk d D5 :: sto s d p (D5.rd 7679) :: logc p d L5 :: own 98 2 (.slice A 256 c) 256 (flatS R) :: ownB (R.map (·.2)) :: disk d2 D2 :: F) := H6.b1.tail
      clear H5 E5' H6 E6
      have HNA := Lib.hid (fun k (hk : k < R.length) => num_at (by omega) HR.out zeroM hk)
      clear HR
      go_wp2_with fail
      go_loopw [23, 24, 25] (fun i _ _ wr => ∃ k : Nat, k ≤ 300 ∧ i = .int .i64 k ∧ Sat wr (sto s6 d p6 (D5.rd 7679) :: disk d D5 :: sto s d p (D5.rd 7679) :: logc p d L5 :: own 98 2 (.slice A 256 c) 256 (flatS R) :: ownB (R.map (·.2)) :: disk d2 D2 :: F) ∧ Env w wr) (fun i _ _ _ => 300 - (intOf i).toNat)
      case atStart => exact ⟨0, by omega, rfl, H7, E6'⟩
      case round =>
        clear H7 E6'
        obtain ⟨k, hk, rfl, H8, E8⟩ := hrel
        by_cases hkn : k < 256
        · have hkl : k < R.length := by rw [HLR.out]; exact hkn
          obtain ⟨g5, o5, rfl, z0, z1⟩ := rdS H8.b4.own_at.1 hkl
          obtain ⟨AB, cB, h1, -, -⟩ := H8.b5.ownB_at (q := R[k].2) (List.mem_map.2 ⟨_, List.getElem_mem hkl, rfl⟩)
          have HQ := Lib.hid (HNA.out k hkl)
          have HB := Lib.hid (fun (w : World) (G : List HP) (H : Sat w (ownB (R.map (·.2)) :: G)) => H.ownB_at (q := R[k].2) (List.mem_map.2 ⟨_, List.getElem_mem hkl, rfl⟩))
          have HZ := Lib.hid (fun (w : World) (G : List HP) (H : Sat w (own 98 2 (.slice (some ⟨g5, o5, none⟩) 256 c) 256 (flatS R) :: G)) => rdS H.own_at.1 hkl)
          generalize R[k] = q at *
          obtain ⟨N, v, x⟩ := q
          dsimp only at z0 z1 h1
          have hxl : x.length = 1024 := HQ.out.2.2.2.1
          subst h1
          rw [hxl] at z1
          obtain ⟨M, rfl⟩ := Int.eq_ofNat_of_zero_le (show 0 ≤ N from HQ.out.2.1)
          have hM : M < 512 := by have := HQ.out.2.2.1; dsimp only at this; omega
          have HXX := Lib.hid hxl
          clear hkl hxl
          go_wp2_with fail
          refine (pread_fine (G := []) M hM H8 HC5.out).mono ?_
          rintro e w9 ⟨v9, rfl, H9, E9⟩
          obtain ⟨AX, cX, rfl, -, -, -⟩ := H9.own_form
          rw [show updR zeroM R M = x from HQ.out.1] at H9
          have E9' := E8.trans E9
          clear H8 E8 E9 z0 z1
          go_upto_region 26 with fail
          obtain ⟨s1, hs1⟩ : ∃ s1, strOfNums x = s1 := ⟨_, rfl⟩
          have KS := Lib.hid (fun (w : World) (G : List HP) (H : Sat w (own 5 1 (.slice AX 1024 cX) 1024 (bytes x) :: sto s6 d p6 (D5.rd 7679) :: disk d D5 :: sto s d p (D5.rd 7679) :: logc p d L5 :: own 98 2 (.slice (some ⟨g5, o5, none⟩) 256 c) 256 (flatS R) :: ownB (R.map (·.2)) :: G)) => show (convert 30 9 (.slice AX 1024 cX)).run Try.prog w = .ok (.string s1) w ∧ w.cell? ⟨g5, o5 + k * 2 + 1, none⟩ = some (.slice AB 1024 cB) ∧ (convert 30 9 (.slice AB 1024 cB)).run Try.prog w = .ok (.string s1) w from by
            obtain ⟨b', off', hA', -, hz1⟩ := HZ.out w _ H.b5
            cases hA'
            obtain ⟨A', c', g1, -, g3⟩ := HB.out w _ H.b6
            try dsimp only at g1 g3 hz1
            rw [HXX.out] at hz1 g1 g3
            cases g1
            exact ⟨hs1 ▸ conv_any H.own_at.1, hz1, hs1 ▸ conv_any g3⟩)
          clear hs1
          have k0 := KS.out w9.drew _ H9.drew
          refine wp_region_held_drew (S := fun w' => (convert 30 9 (.slice AX 1024 cX)).run Try.prog w' = .ok (.string s1) w' ∧ w'.cell? ⟨g5, o5 + k * 2 + 1, none⟩ = some (.slice AB 1024 cB) ∧ (convert 30 9 (.slice AB 1024 cB)).run Try.prog w' = .ok (.string s1) w') (by kernel_rfl) k0 (fun hHeld => ?_)
          refine' wpAnyH_take (i := 0) (oi := _) (v := _) rfl (by kernel_rfl) (by kernel_rfl) (by kernel_rfl) (fun _ _ _ h => h) (Or.inl ⟨by rfl, ?hy0x1⟩) hHeld ?rest0x1
          case hy0x1 => (intro w' hSw; (try dsimp only at hSw); go_simp; try with_reducible rfl)
          simp only [List.getElem_toArray, List.getElem_cons_zero, List.getElem_cons_succ, Act.put, List.setIfInBounds_toArray, List.set_cons_zero, List.set_cons_succ]
          refine' wpAnyH_take (i := 1) (oi := _) (v := _) rfl (by kernel_rfl) (by kernel_rfl) (by kernel_rfl) (fun _ _ _ h => h) (Or.inl ⟨by rfl, ?hy1x2⟩) hHeld ?rest1x2
          case hy1x2 => (intro w' hSw; (try dsimp only at hSw); go_simp; try with_reducible rfl)
          simp only [List.getElem_toArray, List.getElem_cons_zero, List.getElem_cons_succ, Act.put, List.setIfInBounds_toArray, List.set_cons_zero, List.set_cons_succ]
          refine' wpAnyH_take (i := 2) (oi := _) (v := _) rfl (by kernel_rfl) (by kernel_rfl) (by kernel_rfl) (fun _ _ _ h => h) (Or.inl ⟨by rfl, ?hy2x3⟩) hHeld ?rest2x3
          case hy2x3 => (intro w' hSw; (try dsimp only at hSw); go_simp; try with_reducible rfl)
          simp only [List.getElem_toArray, List.getElem_cons_zero, List.getElem_cons_succ, Act.put, List.setIfInBounds_toArray, List.set_cons_zero, List.set_cons_succ]
          refine' wpAnyH_take (i := 3) (oi := _) (v := _) rfl (by kernel_rfl) (by kernel_rfl) (by kernel_rfl) (fun _ _ _ h => h) (Or.inl ⟨by rfl, ?hy3x4⟩) hHeld ?rest3x4
          case hy3x4 => (intro w' hSw; (try dsimp only at hSw); go_simp; try with_reducible rfl)
          simp only [List.getElem_toArray, List.getElem_cons_zero, List.getElem_cons_succ, Act.put, List.setIfInBounds_toArray, List.set_cons_zero, List.set_cons_succ]
          refine' wpAnyH_take (i := 4) (oi := _) (v := _) rfl (by kernel_rfl) (by kernel_rfl) (by kernel_rfl) (fun _ _ _ h => h) (Or.inl ⟨by rfl, ?hy4x5⟩) hHeld ?rest4x5
          case hy4x5 => (intro w' hSw; (try dsimp only at hSw); go_simp; try with_reducible rfl)
          simp only [List.getElem_toArray, List.getElem_cons_zero, List.getElem_cons_succ, Act.put, List.setIfInBounds_toArray, List.set_cons_zero, List.set_cons_succ]
          refine' wpAnyH_take (i := 5) (oi := _) (v := _) rfl (by kernel_rfl) (by kernel_rfl) (by kernel_rfl) (fun _ _ _ h => h) (Or.inl ⟨by rfl, ?hy5x6⟩) hHeld ?rest5x6
          case hy5x6 => (intro w' hSw; (try dsimp only at hSw); go_simp; try with_reducible rfl)
          simp only [List.getElem_toArray, List.getElem_cons_zero, List.getElem_cons_succ, Act.put, List.setIfInBounds_toArray, List.set_cons_zero, List.set_cons_succ]
          refine' wpAnyH_take (i := 6) (oi := _) (v := _) rfl (by kernel_rfl) (by kernel_rfl) (by kernel_rfl) (fun _ _ _ h => h) (Or.inl ⟨by rfl, ?hy6x7⟩) hHeld ?rest6x7
          case hy6x7 => (intro w' hSw; (try dsimp only at hSw); go_simp; try with_reducible rfl)
          simp only [List.getElem_toArray, List.getElem_cons_zero, List.getElem_cons_succ, Act.put, List.setIfInBounds_toArray, List.set_cons_zero, List.set_cons_succ]
          refine' wpAnyH_take (i := 7) (oi := _) (v := _) rfl (by kernel_rfl) (by kernel_rfl) (by kernel_rfl) (fun _ _ _ h => h) (Or.inl ⟨by rfl, ?hy7x8⟩) hHeld ?rest7x8
          case hy7x8 => (intro w' hSw; (try dsimp only at hSw); go_simp; try with_reducible rfl)
          simp only [List.getElem_toArray, List.getElem_cons_zero, List.getElem_cons_succ, Act.put, List.setIfInBounds_toArray, List.set_cons_zero, List.set_cons_succ]
          refine' wpAnyH_take (i := 8) (oi := _) (v := _) rfl (by kernel_rfl) (by kernel_rfl) (by kernel_rfl) (fun _ _ _ h => h) (Or.inl ⟨by rfl, ?hy8x9⟩) hHeld ?rest8x9
          case hy8x9 => (intro w' hSw; (try dsimp only at hSw); go_simp; try with_reducible rfl)
          simp only [List.getElem_toArray, List.getElem_cons_zero, List.getElem_cons_succ, Act.put, List.setIfInBounds_toArray, List.set_cons_zero, List.set_cons_succ]
          refine wpAnyH_done (by kernel_rfl) ?_ _
          have H10 := H9.drew.tail
          have E10 := E9'.drew
          clear H9 E9' hHeld k0 KS
          obtain ⟨k17, hk17⟩ : ∃ q : Nat, k + 17 = q := ⟨_, rfl⟩
          have hw17 : IntKind.i64.wrap ((k : Int) + 17) = (k17 : Int) := by rw [IntWalk.i64_in _ (by omega)]; omega
          have HK17 := Lib.hid hk17
          clear hk17
          go_wp2_with fail
          go_roundw
          case rel => exact ⟨k17, by have := HK17.out; omega, rfl, H10, E10⟩
          case measure => have := HK17.out; simp [intOf]; omega
        · have hkk : ¬ (k : Int) < 256 := by omega
          have HD2 := Lib.hid HS2.out
          go_wp2_with fail
          refine (pformat_nil wr).mono ?_
          rintro e wq ⟨rfl, hwq⟩
          subst hwq
          go_wp2_with fail
          refine (pformat_small H8.b6 HD2.out).mono ?_
          rintro e wq ⟨rfl, hwq⟩
          subst hwq
          go_wp2_with fail
          refine (pput_nil (H8.tail.p2) HC5.out (by omega)).mono ?_
          rintro e w11 ⟨rfl, H11, E11⟩
          go_wp2_with fail
          refine (known5 H11).mono ?_
          rintro e w12 ⟨rfl, H12, E12⟩
          have H13 := H12.tail.tail.tail.tail.tail.tail
          have E13 := (E8.trans E11).trans E12
          go_wp2_with fail
          go_ret
          exact ⟨rfl, H13, E13⟩
end Go.Proofs.Ythbabdjicplooaa
