/- PagesMany's walk. Conditions: none. -/
import Derived.Test.YthbabdjicplooaaPageN
namespace Go.Proofs.Ythbabdjicplooaa
open Go.RowKit

def manyC (x : Int) (q : Nat) : Int := IntKind.u8.wrap (x + (q : Int))
def manyQ (fr i : Nat) (x : Int) (n : Nat) : List Sh := (List.range n).map fun j => ((((fr + 3 * j) % 512 : Nat) : Int), (.pointer none : Value), pageL (manyC x (i + j)))
theorem many_mem {fr i : Nat} {x : Int} {n : Nat} {q : Sh} (h : q ∈ manyQ fr i x n) : ∃ j, j < n ∧ q = ((((fr + 3 * j) % 512 : Nat) : Int), (.pointer none : Value), pageL (manyC x (i + j))) := by
  obtain ⟨j, hj, rfl⟩ := List.mem_map.1 h
  exact ⟨j, List.mem_range.1 hj, rfl⟩
set_option maxRecDepth 100000 in
theorem many_shs (fr i : Nat) (x : Int) {n : Nat} (hn : n ≤ 41) : Shs (manyQ fr i x n) := by
  refine ⟨fun q hq => ?_, ?_, by rw [manyQ, List.length_map, List.length_range]; omega⟩
  · obtain ⟨j, hj, rfl⟩ := many_mem hq
    exact ⟨by dsimp only; omega, by dsimp only; omega, by dsimp only; exact pageL_len _, by dsimp only; exact pageL_in _⟩
  · rw [manyQ, List.map_map]
    refine List.pairwise_map.2 ?_
    refine List.Pairwise.imp_of_mem (R := fun a b : Nat => a ≠ b) (fun {a b} ha hb h => ?_) List.nodup_range
    have ha' := List.mem_range.1 ha
    have hb' := List.mem_range.1 hb
    simp only [Function.comp, Int.toNat_natCast]
    omega
set_option maxRecDepth 100000 in
theorem many_at (fr i : Nat) (x : Int) {n : Nat} (hn : n ≤ 41) (m : Nat → List Int) {j : Nat} (hj : j < n) : updR m (manyQ fr i x n) ((fr + 3 * j) % 512) = pageL (manyC x (i + j)) :=
  updR_in (many_shs fr i x hn).nd ((((fr + 3 * j) % 512 : Nat) : Int), (.pointer none : Value), pageL (manyC x (i + j))) (List.mem_map.2 ⟨j, List.mem_range.2 hj, rfl⟩) (Int.toNat_natCast _)
set_option maxRecDepth 100000 in
theorem many_off (fr i : Nat) (x : Int) {n : Nat} (hn : n ≤ 41) (m : Nat → List Int) : updR m (manyQ fr i x n) ((fr + 1) % 512) = m ((fr + 1) % 512) := by
  refine updR_not fun q hq => ?_
  obtain ⟨j, hj, rfl⟩ := many_mem hq
  simp only [Int.toNat_natCast]
  omega
set_option maxRecDepth 100000 in
theorem manyQ_snoc (fr i : Nat) (x : Int) (k : Nat) : (manyQ fr i x (k + 1)).map shF = (manyQ fr i x k).map shF ++ [((((fr + 3 * k) % 512 : Nat) : Int), pageL (manyC x (i + k)))] := by
  rw [manyQ, List.range_succ, List.map_append, List.map_append]; rfl
/-- The pages behind some puts. -/
structure ManyM (fr n : Nat) (x : Int) (i : Nat) (m : Nat → List Int) : Prop where
  at_ : 0 < i → ∀ j, j < n → m ((fr + 3 * j) % 512) = pageL (manyC x (i - 1 + j))
  off : m ((fr + 1) % 512) = zeroP

set_option maxHeartbeats 16000000 in
set_option maxRecDepth 100000 in
theorem pagesMany_any {w : World} {F : List HP} (x0 x1 x2 x : Int) (H : Sat w F) (hx : 0 ≤ x ∧ x ≤ 255) :
    Calls Try.prog 18 #[.int .i64 x0, .int .i64 x1, .int .i64 x2, .int .u8 x] w fun e w' => e = .returned (.bool true) ∧ Sat w' F ∧ Env w w' := by
  clear hx
  go_enter Try.func18, Try.ntmps18
  go_wp2_with fail
  refine (begun5 H).mono ?_
  rintro e w2 ⟨d, s, p, D, rfl, hC, hl, H2, E2⟩
  have HC := Lib.hid hC
  have HL := Lib.hid hl
  clear hC hl H
  go_wp2_with fail
  refine (within_any x0 0 40 _ (by omega) (by omega) (by omega)).mono ?_
  rintro e wq ⟨rfl, hwq⟩
  subst hwq
  obtain ⟨n, hn, hn1, hn2⟩ : ∃ n : Nat, within x0 0 40 + 1 = (n : Int) ∧ 1 ≤ n ∧ n ≤ 41 := by
    have := within_range x0 (lo := 0) (hi := 40) (by omega)
    exact ⟨(within x0 0 40 + 1).toNat, by omega, by omega, by omega⟩
  have hw1 : IntKind.i64.wrap (within x0 0 40 + 1) = (n : Int) := by rw [hn, IntWalk.i64_in _ (by omega)]
  clear hn
  go_wp2_with fail
  refine (within_any x1 0 511 _ (by omega) (by omega) (by omega)).mono ?_
  rintro e wq ⟨rfl, hwq⟩
  subst hwq
  obtain ⟨fr, hfr, hfr2⟩ : ∃ fr : Nat, within x1 0 511 = (fr : Int) ∧ fr ≤ 511 := by
    have := within_range x1 (lo := 0) (hi := 511) (by omega)
    exact ⟨(within x1 0 511).toNat, by omega, by omega⟩
  rw [hfr]
  clear hfr hw1
  go_wp2_with fail
  refine (within_any x2 0 4 _ (by omega) (by omega) (by omega)).mono ?_
  rintro e wq ⟨rfl, hwq⟩
  subst hwq
  obtain ⟨tm, htm, htm2⟩ : ∃ fr : Nat, within x2 0 4 = (fr : Int) ∧ fr ≤ 4 := by
    have := within_range x2 (lo := 0) (hi := 4) (by omega)
    exact ⟨(within x2 0 4).toNat, by omega, by omega⟩
  rw [htm]
  clear htm
  have HM := Lib.hid (show ManyM fr n x 0 zeroM from ⟨fun h => absurd h (by omega), rfl⟩)
  obtain ⟨L0, hL0⟩ : ∃ L, freshL 4096 3583 = L := ⟨_, rfl⟩
  rw [hL0] at HC H2
  clear hL0
  go_wp2_with fail
  go_loopw [12, 13, 14] (fun i _ _ wr => ∃ (k : Nat) (D : Dsk) (L : LogV) (m : Nat → List Int), k ≤ tm + 1 ∧ i = .int .i64 k ∧ Hid (Clean D L (1 + k) m) ∧ Hid (D.left = none) ∧ Hid (ManyM fr n x k m) ∧ Sat wr (sto s d p (D.rd 7679) :: logc p d L :: disk d D :: F) ∧ Env w wr) (fun i _ _ _ => tm + 1 - (intOf i).toNat)
  case atStart => exact ⟨0, D, L0, zeroM, by omega, rfl, HC, HL, HM, H2, E2⟩
  case round =>
    clear H2 E2 HC HL HM D L0
    obtain ⟨i, D, L, m, hi, rfl, HC, HL, HM, H2, E2⟩ := hrel
    by_cases hlt : i ≤ tm
    · have hlt' : (i : Int) ≤ (tm : Int) := by omega
      have H2' := (Sat.ownB_nil H2).own_nil 98 2
      go_wp2_with fail
      go_loopw [13, 14] (fun s13 j wr => ∃ (k : Nat) (R : List Sh) (A : Option Addr) (c : Nat), k ≤ n ∧ j = .int .i64 k ∧ s13 = .slice A k c ∧ Hid (R.map shF = (manyQ fr i x k).map shF) ∧ Sat wr (own 98 2 (.slice A k c) k (flatS R) :: ownB (R.map (·.2)) :: sto s d p (D.rd 7679) :: logc p d L :: disk d D :: F) ∧ Env w wr) (fun _ j _ => n - (intOf j).toNat)
      case atStart => exact ⟨0, [], none, 0, by omega, rfl, rfl, Lib.hid rfl, H2', E2⟩
      case round =>
        clear H2 H2' E2
        obtain ⟨k, R, A, c, hk, rfl, rfl, HR, H3, E3⟩ := hrel
        by_cases hkn : k < n
        · obtain ⟨q1, hq1⟩ : ∃ q : Nat, 3 * k = q := ⟨_, rfl⟩
          obtain ⟨q2, hq2⟩ : ∃ q : Nat, fr + q1 = q := ⟨_, rfl⟩
          obtain ⟨q3, hq3⟩ : ∃ q : Nat, q2 % 512 = q := ⟨_, rfl⟩
          obtain ⟨q4, hq4⟩ : ∃ q : Nat, i + k = q := ⟨_, rfl⟩
          have hw1 : IntKind.i64.wrap (3 * (k : Int)) = (q1 : Int) := by rw [IntWalk.i64_in _ (by omega)]; omega
          have hw2 : IntKind.i64.wrap ((fr : Int) + (q1 : Int)) = (q2 : Int) := by rw [IntWalk.i64_in _ (by omega)]; omega
          have hw3 : (q2 : Int).tmod 512 = (q3 : Int) := by rw [Int.tmod_eq_emod_of_nonneg (by omega)]; omega
          have hw4 : IntKind.i64.wrap ((i : Int) + (k : Int)) = (q4 : Int) := by rw [IntWalk.i64_in _ (by omega)]; omega
          have hw5 : IntKind.u8.wrap (q4 : Int) = (q4 : Int) := by rw [IntKind.wrap_u8]; omega
          obtain ⟨z, hz⟩ : ∃ z, IntKind.u8.wrap (x + (q4 : Int)) = z := ⟨_, rfl⟩
          have HZ := Lib.hid (show 0 ≤ z ∧ z ≤ 255 from hz ▸ wrap_byte _)
          have HS := Lib.hid (show (manyQ fr i x (k + 1)).map shF = (manyQ fr i x k).map shF ++ [((q3 : Int), pageL z)] from by
            rw [manyQ_snoc, hq1, hq2, hq3, hq4, manyC, hz])
          clear hq1 hq2 hq3 hq4
          go_wp2_with fail
          refine (page5 z H3 HZ.out).mono ?_
          rintro e w4 ⟨v4, rfl, H4, E4⟩
          obtain ⟨A4, c4, rfl, -, -, -⟩ := H4.own_form
          have E4' := (E3.trans E4).alloc (.cells #[.int .i64 q3, .slice A4 1024 c4] 98)
          clear hw1 hw2 hw3 hw4 hw5 hz
          go_wp2_with (at_builtin; go_must (refine wpList_append_sat rfl (.tmp 48) (.tmp 62) 99 rfl (H4.b1.alloc' _) rfl _ 32 Try.underlying99 Try.info_sheet rfl (by omega) _ _ _ [.int .i64 q3, .slice A4 1024 c4] rfl (fun h => by cases h) rfl (lit_src _ _ _ _ rfl) (by simp [Value.oneCell']) (by simp only [maxLen]; omega) (by omega) ?_); intro v8 w8 H8 E8; obtain ⟨A8, c8, rfl, -, -, -⟩ := H8.own_form)
          have H9 : Sat w8 (ownB (R.map (·.2) ++ [((.slice A4 1024 c4 : Value), pageL z)]) :: own 98 2 (.slice A8 (k + 1) c8) (k + 1) (flatS R ++ [.int .i64 q3, .slice A4 1024 c4]) :: sto s d p (D.rd 7679) :: logc p d L :: disk d D :: F) := Sat.ownB_snoc (by rw [pageL_len]; exact H8.b1.b2.p2.b2.b1)
          have hf : flatS (R ++ [(((q3 : Nat) : Int), (.slice A4 1024 c4 : Value), pageL z)]) = flatS R ++ [.int .i64 q3, .slice A4 1024 c4] := by simp [flatS, cellsS]
          have H10 := H9.b1
          rw [← hf, show R.map (·.2) ++ [((.slice A4 1024 c4 : Value), pageL z)] = (R ++ [(((q3 : Nat) : Int), (.slice A4 1024 c4 : Value), pageL z)]).map (·.2) by rw [List.map_append]; rfl] at H10
          have HR2 := Lib.hid (show (R ++ [(((q3 : Nat) : Int), (.slice A4 1024 c4 : Value), pageL z)]).map shF = (manyQ fr i x (k + 1)).map shF from by rw [List.map_append, HR.out, HS.out]; rfl)
          have E10 := E4'.trans E8
          clear H3 E3 H4 E4 E4' H8 E8 H9 hf HS HR
          generalize R ++ [(((q3 : Nat) : Int), (.slice A4 1024 c4 : Value), pageL z)] = R2 at *
          go_wp2_with fail
          go_roundw
          case rel => exact ⟨k + 1, R2, A8, c8, by omega, by go_num, rfl, HR2, H10, E10⟩
          case measure => simp [intOf]; omega
        · obtain rfl : k = n := by omega
          have HS := Lib.hid ((many_shs fr i x hn2).same HR.out)
          have HNE := Lib.hid (show R ≠ [] from fun h => by
            have := congrArg List.length HR.out
            rw [h, manyQ, List.length_map, List.length_map, List.length_map, List.length_range] at this
            simp at this; omega)
          have H4 := H3.b4.b4.b4
          go_wp2_with fail
          refine (pput_fine A k c R H4 HS.out HNE.out HC.out HL.out (by omega)).mono ?_
          rintro e w5 ⟨D5, L5, rfl, hC5, hl5, H5, E5⟩
          have HC5 := Lib.hid (show Clean D5 L5 (1 + (i + 1)) (updR m (manyQ fr i x k)) from updR_same HR.out m ▸ hC5)
          have HL5 := Lib.hid hl5
          have HM5 := Lib.hid (show ManyM fr k x (i + 1) (updR m (manyQ fr i x k)) from ⟨fun _ j hj => many_at fr i x hn2 m hj, (many_off fr i x hn2 m).trans HM.out.off⟩)
          have H6 := H5.b3.tail.b3.tail
          have E6 := E3.trans E5
          generalize updR m (manyQ fr i x k) = m5 at *
          clear hC5 hl5 H3 H4 E3 H5 E5 HS HNE HR HC HL HM
          go_wp2_with fail
          go_roundw
          case rel => exact ⟨i + 1, D5, L5, m5, by omega, by go_num, HC5, HL5, HM5, H6, E6⟩
          case measure => simp [intOf]; omega
    · obtain rfl : i = tm + 1 := by omega
      have hgt : ¬ ((tm + 1 : Nat) : Int) ≤ (tm : Int) := by omega
      obtain ⟨t1, ht1⟩ : ∃ t1, tm + 1 = t1 := ⟨_, rfl⟩
      rw [ht1] at HC HM hgt
      rw [ht1]
      have HT1 := Lib.hid ht1
      clear ht1 hlt
      go_wp2_with fail
      refine (popen_fine H2.b2 HC.out HL.out (by have := HT1.out; omega)).mono ?_
      rintro e w3 ⟨s3, p3, rfl, H3, E3⟩
      have H4 : Sat w3 (sto s d p (D.rd 7679) :: disk d D :: sto s3 d p3 (D.rd 7679) :: F) := H3.b1.tail.b3.tail.b2.b2.b1
      have E4 := E2.trans E3
      have HMM := Lib.hid (show (∀ j, j < n → m ((fr + 3 * j) % 512) = pageL (manyC x (tm + j))) ∧ m ((fr + 1) % 512) = zeroP from ⟨fun j hj => by
        have h := HM.out.at_ (by have := HT1.out; omega) j hj
        rw [h, show t1 - 1 + j = tm + j by have := HT1.out; omega], HM.out.off⟩)
      have HCC := Lib.hid (show ∃ e, Clean D L e m from ⟨_, HC.out⟩)
      clear H2 E2 H3 E3 HM HC HT1 hgt
      go_wp2_with fail
      go_loopw [17, 18, 19, 20, 21] (fun i _ _ _ _ wr => ∃ k : Nat, k ≤ n ∧ i = .int .i64 k ∧ Sat wr (sto s d p (D.rd 7679) :: disk d D :: sto s3 d p3 (D.rd 7679) :: F) ∧ Env w wr) (fun i _ _ _ _ _ => n - (intOf i).toNat)
      case atStart => exact ⟨0, by omega, rfl, H4, E4⟩
      case round =>
        clear H4 E4
        obtain ⟨k, hk, rfl, H5, E5⟩ := hrel
        obtain ⟨e0, hCe⟩ := HCC.out
        have HCE := Lib.hid hCe
        clear hCe
        by_cases hkn : k < n
        · obtain ⟨q1, hq1⟩ : ∃ q : Nat, 3 * k = q := ⟨_, rfl⟩
          obtain ⟨q2, hq2⟩ : ∃ q : Nat, fr + q1 = q := ⟨_, rfl⟩
          obtain ⟨q3, hq3⟩ : ∃ q : Nat, q2 % 512 = q := ⟨_, rfl⟩
          obtain ⟨q4, hq4⟩ : ∃ q : Nat, tm + k = q := ⟨_, rfl⟩
          have hw1 : IntKind.i64.wrap (3 * (k : Int)) = (q1 : Int) := by rw [IntWalk.i64_in _ (by omega)]; omega
          have hw2 : IntKind.i64.wrap ((fr : Int) + (q1 : Int)) = (q2 : Int) := by rw [IntWalk.i64_in _ (by omega)]; omega
          have hw3 : (q2 : Int).tmod 512 = (q3 : Int) := by rw [Int.tmod_eq_emod_of_nonneg (by omega)]; omega
          have hw4 : IntKind.i64.wrap ((tm : Int) + (k : Int)) = (q4 : Int) := by rw [IntWalk.i64_in _ (by omega)]; omega
          have hw5 : IntKind.u8.wrap (q4 : Int) = (q4 : Int) := by rw [IntKind.wrap_u8]; omega
          obtain ⟨z, hz⟩ : ∃ z, IntKind.u8.wrap (x + (q4 : Int)) = z := ⟨_, rfl⟩
          have HZ := Lib.hid (show 0 ≤ z ∧ z ≤ 255 from hz ▸ wrap_byte _)
          have HMQ := Lib.hid (show m q3 = pageL z ∧ q3 < 512 from ⟨by
            have h := HMM.out.1 k hkn
            rw [hq1, hq2, hq3, hq4, manyC, hz] at h
            exact h, by omega⟩)
          clear hq1 hq2 hq3 hq4
          go_wp2_with fail
          refine (pread_fine (G := []) q3 HMQ.out.2 H5 HCE.out).mono ?_
          rintro e w6 ⟨v6, rfl, H6, E6⟩
          obtain ⟨A6, c6, rfl, -, -, -⟩ := H6.own_form
          rw [HMQ.out.1] at H6
          go_wp2_with fail
          refine (pread_fine (G := []) q3 HMQ.out.2 H6.b3.b3.b1 HCE.out).mono ?_
          rintro e w7 ⟨v7, rfl, H7, E7⟩
          obtain ⟨A7, c7, rfl, -, -, -⟩ := H7.own_form
          rw [HMQ.out.1] at H7
          have H8 := H7.b3
          have E8 := (E5.trans E6).trans E7
          clear H5 E5 H6 E6 H7 E7 hw1 hw2 hw3
          go_upto_region 25 with fail
          obtain ⟨s1, hs1⟩ : ∃ s1, strOfNums (pageL z) = s1 := ⟨_, rfl⟩
          have KS := Lib.hid (fun (w : World) (G : List HP) (H : Sat w (own 5 1 (.slice A6 1024 c6) 1024 (bytes (pageL z)) :: own 5 1 (.slice A7 1024 c7) 1024 (bytes (pageL z)) :: G)) => show (convert 30 9 (.slice A6 1024 c6)).run Try.prog w = .ok (.string s1) w ∧ (convert 30 9 (.slice A7 1024 c7)).run Try.prog w = .ok (.string s1) w from ⟨hs1 ▸ conv_any H.own_at.1, hs1 ▸ conv_any H.tail.own_at.1⟩)
          have KC := Lib.hid hs1
          clear hs1
          have k0 := KS.out w7.drew _ H8.drew
          refine wp_region_held_drew (S := fun w' => (convert 30 9 (.slice A6 1024 c6)).run Try.prog w' = .ok (.string s1) w' ∧ (convert 30 9 (.slice A7 1024 c7)).run Try.prog w' = .ok (.string s1) w') (by kernel_rfl) k0 (fun hHeld => ?_)
          refine' wpAnyH_take (i := 0) (oi := _) (v := _) rfl (by kernel_rfl) (by kernel_rfl) (by kernel_rfl) (fun _ _ _ h => h) (Or.inl ⟨by rfl, ?hy0x1⟩) hHeld ?rest0x1
          case hy0x1 => (intro w' hSw; (try dsimp only at hSw); go_simp; try with_reducible rfl)
          simp only [List.getElem_toArray, List.getElem_cons_zero, List.getElem_cons_succ, Act.put, List.setIfInBounds_toArray, List.set_cons_zero, List.set_cons_succ]
          refine' wpAnyH_take (i := 1) (oi := _) (v := _) rfl (by kernel_rfl) (by kernel_rfl) (by kernel_rfl) (fun _ _ _ h => h) (Or.inl ⟨by rfl, ?hy1x2⟩) hHeld ?rest1x2
          case hy1x2 => (intro w' hSw; (try dsimp only at hSw); go_simp; try with_reducible rfl)
          simp only [List.getElem_toArray, List.getElem_cons_zero, List.getElem_cons_succ, Act.put, List.setIfInBounds_toArray, List.set_cons_zero, List.set_cons_succ]
          refine' wpAnyH_take (i := 2) (oi := _) (v := _) rfl (by kernel_rfl) (by kernel_rfl) (by kernel_rfl) (fun _ _ _ h => h) (Or.inl ⟨by rfl, ?hy2x3⟩) hHeld ?rest2x3
          case hy2x3 => (intro w' hSw; (try dsimp only at hSw); go_simp; try with_reducible rfl)
          simp only [List.getElem_toArray, List.getElem_cons_zero, List.getElem_cons_succ, Act.put, List.setIfInBounds_toArray, List.set_cons_zero, List.set_cons_succ]
          refine' wpAnyH_take (i := 3) (oi := _) (v := _) rfl (by kernel_rfl) (by kernel_rfl) (by kernel_rfl) (fun _ _ _ h => h) (Or.inl ⟨by rfl, ?hy3x4⟩) hHeld ?rest3x4
          case hy3x4 => (intro w' hSw; (try dsimp only at hSw); go_simp; try with_reducible rfl)
          simp only [List.getElem_toArray, List.getElem_cons_zero, List.getElem_cons_succ, Act.put, List.setIfInBounds_toArray, List.set_cons_zero, List.set_cons_succ]
          refine' wpAnyH_take (i := 4) (oi := _) (v := _) rfl (by kernel_rfl) (by kernel_rfl) (by kernel_rfl) (fun _ _ _ h => h) (Or.inl ⟨by rfl, ?hy4x5⟩) hHeld ?rest4x5
          case hy4x5 => (intro w' hSw; (try dsimp only at hSw); go_simp; try with_reducible rfl)
          simp only [List.getElem_toArray, List.getElem_cons_zero, List.getElem_cons_succ, Act.put, List.setIfInBounds_toArray, List.set_cons_zero, List.set_cons_succ]
          refine' wpAnyH_take (i := 5) (oi := _) (v := _) rfl (by kernel_rfl) (by kernel_rfl) (by kernel_rfl) (fun _ _ _ h => h) (Or.inl ⟨by rfl, ?hy5x6⟩) hHeld ?rest5x6
          case hy5x6 => (intro w' hSw; (try dsimp only at hSw); go_simp; try with_reducible rfl)
          simp only [List.getElem_toArray, List.getElem_cons_zero, List.getElem_cons_succ, Act.put, List.setIfInBounds_toArray, List.set_cons_zero, List.set_cons_succ]
          refine' wpAnyH_take (i := 6) (oi := _) (v := _) rfl (by kernel_rfl) (by kernel_rfl) (by kernel_rfl) (fun _ _ _ h => h) (Or.inl ⟨by rfl, ?hy6x7⟩) hHeld ?rest6x7
          case hy6x7 => (intro w' hSw; (try dsimp only at hSw); go_simp; try with_reducible rfl)
          simp only [List.getElem_toArray, List.getElem_cons_zero, List.getElem_cons_succ, Act.put, List.setIfInBounds_toArray, List.set_cons_zero, List.set_cons_succ]
          refine' wpAnyH_take (i := 7) (oi := _) (v := _) rfl (by kernel_rfl) (by kernel_rfl) (by kernel_rfl) (fun _ _ _ h => h) (Or.inl ⟨by rfl, ?hy7x8⟩) hHeld ?rest7x8
          case hy7x8 => (intro w' hSw; (try dsimp only at hSw); go_simp; try with_reducible rfl)
          simp only [List.getElem_toArray, List.getElem_cons_zero, List.getElem_cons_succ, Act.put, List.setIfInBounds_toArray, List.set_cons_zero, List.set_cons_succ]
          try rw [hz]
          refine wpAnyH_ready (rs := [8]) (by kernel_rfl) (by simp) ?_
          refine AllReadyH.cons (o := _) rfl (fun K hK => ?_) AllReadyH.nil
          rw [if_pos (by rfl)]
          go_simp
          go_at_call 61
          refine (page5 z H8.drew HZ.out).mono ?_
          rintro e w10 ⟨v10, rfl, H10, E10⟩
          obtain ⟨A10, c10, rfl, -, -, -⟩ := H10.own_form
          refine hK.out _ _ (KS.out _ _ H10.tail) (fun hHeld2 => ?_)
          clear hK K
          try simp only [List.getElem_toArray, List.getElem_cons_zero, List.getElem_cons_succ, Act.put, List.setIfInBounds_toArray, List.set_cons_zero, List.set_cons_succ]
          refine wpAnyH_ready (rs := [9]) (by kernel_rfl) (by simp) ?_
          refine AllReadyH.cons (o := _) rfl (fun K hK => ?_) AllReadyH.nil
          refine step_conv (by rfl) 30 9 (.tmp 112) rfl (.slice A10 1024 c10) (.string s1) rfl (KC.out ▸ conv_any H10.own_at.1) ?_
          refine hK.out _ _ hHeld2 (fun hHeld3 => ?_)
          clear hK K
          try simp only [List.getElem_toArray, List.getElem_cons_zero, List.getElem_cons_succ, Act.put, List.setIfInBounds_toArray, List.set_cons_zero, List.set_cons_succ]
          refine' wpAnyH_take (i := 10) (oi := _) (v := _) rfl (by kernel_rfl) (by kernel_rfl) (by kernel_rfl) (fun _ _ _ h => h) (Or.inl ⟨by rfl, ?hy10x9⟩) hHeld3 ?rest10x9
          case hy10x9 => (intro w' hSw; (try dsimp only at hSw); go_simp; try with_reducible rfl)
          simp only [List.getElem_toArray, List.getElem_cons_zero, List.getElem_cons_succ, Act.put, List.setIfInBounds_toArray, List.set_cons_zero, List.set_cons_succ]
          refine' wpAnyH_take (i := 11) (oi := _) (v := _) rfl (by kernel_rfl) (by kernel_rfl) (by kernel_rfl) (fun _ _ _ h => h) (Or.inl ⟨by rfl, ?hy11x10⟩) hHeld3 ?rest11x10
          case hy11x10 => (intro w' hSw; (try dsimp only at hSw); go_simp; try with_reducible rfl)
          simp only [List.getElem_toArray, List.getElem_cons_zero, List.getElem_cons_succ, Act.put, List.setIfInBounds_toArray, List.set_cons_zero, List.set_cons_succ]
          refine' wpAnyH_take (i := 12) (oi := _) (v := _) rfl (by kernel_rfl) (by kernel_rfl) (by kernel_rfl) (fun _ _ _ h => h) (Or.inl ⟨by rfl, ?hy12x11⟩) hHeld3 ?rest12x11
          case hy12x11 => (intro w' hSw; (try dsimp only at hSw); go_simp; try with_reducible rfl)
          simp only [List.getElem_toArray, List.getElem_cons_zero, List.getElem_cons_succ, Act.put, List.setIfInBounds_toArray, List.set_cons_zero, List.set_cons_succ]
          refine' wpAnyH_take (i := 13) (oi := _) (v := _) rfl (by kernel_rfl) (by kernel_rfl) (by kernel_rfl) (fun _ _ _ h => h) (Or.inl ⟨by rfl, ?hy13x12⟩) hHeld3 ?rest13x12
          case hy13x12 => (intro w' hSw; (try dsimp only at hSw); go_simp; try with_reducible rfl)
          simp only [List.getElem_toArray, List.getElem_cons_zero, List.getElem_cons_succ, Act.put, List.setIfInBounds_toArray, List.set_cons_zero, List.set_cons_succ]
          refine' wpAnyH_take (i := 14) (oi := _) (v := _) rfl (by kernel_rfl) (by kernel_rfl) (by kernel_rfl) (fun _ _ _ h => h) (Or.inl ⟨by rfl, ?hy14x13⟩) hHeld3 ?rest14x13
          case hy14x13 => (intro w' hSw; (try dsimp only at hSw); go_simp; try with_reducible rfl)
          simp only [List.getElem_toArray, List.getElem_cons_zero, List.getElem_cons_succ, Act.put, List.setIfInBounds_toArray, List.set_cons_zero, List.set_cons_succ]
          refine' wpAnyH_take (i := 15) (oi := _) (v := _) rfl (by kernel_rfl) (by kernel_rfl) (by kernel_rfl) (fun _ _ _ h => h) (Or.inl ⟨by rfl, ?hy15x14⟩) hHeld3 ?rest15x14
          case hy15x14 => (intro w' hSw; (try dsimp only at hSw); go_simp; try with_reducible rfl)
          simp only [List.getElem_toArray, List.getElem_cons_zero, List.getElem_cons_succ, Act.put, List.setIfInBounds_toArray, List.set_cons_zero, List.set_cons_succ]
          refine' wpAnyH_take (i := 16) (oi := _) (v := _) rfl (by kernel_rfl) (by kernel_rfl) (by kernel_rfl) (fun _ _ _ h => h) (Or.inl ⟨by rfl, ?hy16x15⟩) hHeld3 ?rest16x15
          case hy16x15 => (intro w' hSw; (try dsimp only at hSw); go_simp; try with_reducible rfl)
          simp only [List.getElem_toArray, List.getElem_cons_zero, List.getElem_cons_succ, Act.put, List.setIfInBounds_toArray, List.set_cons_zero, List.set_cons_succ]
          refine' wpAnyH_take (i := 17) (oi := _) (v := _) rfl (by kernel_rfl) (by kernel_rfl) (by kernel_rfl) (fun _ _ _ h => h) (Or.inl ⟨by rfl, ?hy17x16⟩) hHeld3 ?rest17x16
          case hy17x16 => (intro w' hSw; (try dsimp only at hSw); go_simp; try with_reducible rfl)
          simp only [List.getElem_toArray, List.getElem_cons_zero, List.getElem_cons_succ, Act.put, List.setIfInBounds_toArray, List.set_cons_zero, List.set_cons_succ]
          refine wpAnyH_done (by kernel_rfl) ?_ _
          have E12 := E8.drew.trans E10
          have H12 := H10.tail.tail.tail.b2.b2.b1
          clear H8 H10 E8 E10 hHeld hHeld2 hHeld3 k0 KS KC hz hw4 hw5
          go_wp2_with fail
          go_roundw
          case rel => exact ⟨k + 1, by omega, by go_num, H12, E12⟩
          case measure => simp [intOf]; omega
        · obtain rfl : k = n := by omega
          obtain ⟨q2, hq2⟩ : ∃ q : Nat, fr + 1 = q := ⟨_, rfl⟩
          obtain ⟨q3, hq3⟩ : ∃ q : Nat, q2 % 512 = q := ⟨_, rfl⟩
          have hw2 : IntKind.i64.wrap ((fr : Int) + 1) = (q2 : Int) := by rw [IntWalk.i64_in _ (by omega)]; omega
          have hw3 : (q2 : Int).tmod 512 = (q3 : Int) := by rw [Int.tmod_eq_emod_of_nonneg (by omega)]; omega
          have HMQ := Lib.hid (show m q3 = zeroP ∧ q3 < 512 from ⟨by
            have h := HMM.out.2
            rw [hq2, hq3] at h
            exact h, by omega⟩)
          clear hq2 hq3 hkn
          go_wp2_with fail
          refine (pread_fine (G := []) q3 HMQ.out.2 H5.tail.b1 HCE.out).mono ?_
          rintro e w6 ⟨v6, rfl, H6, E6⟩
          obtain ⟨A6, c6, rfl, -, -, -⟩ := H6.own_form
          rw [HMQ.out.1] at H6
          have E7 := E5.trans E6
          clear H5 E5 E6 hw2 hw3
          go_upto_region 28 with fail
          obtain ⟨s1, hs1⟩ : ∃ s1, strOfNums zeroP = s1 := ⟨_, rfl⟩
          have KS := Lib.hid (fun (w : World) (G : List HP) (H : Sat w (own 5 1 (.slice A6 1024 c6) 1024 (bytes zeroP) :: G)) => show (convert 30 9 (.slice A6 1024 c6)).run Try.prog w = .ok (.string s1) w from hs1 ▸ conv_any H.own_at.1)
          have KC := Lib.hid hs1
          clear hs1
          have k0 := KS.out w6.drew _ H6.drew
          refine wp_region_held_drew (S := fun w' => (convert 30 9 (.slice A6 1024 c6)).run Try.prog w' = .ok (.string s1) w') (by kernel_rfl) k0 (fun hHeld => ?_)
          refine' wpAnyH_take (i := 0) (oi := _) (v := _) rfl (by kernel_rfl) (by kernel_rfl) (by kernel_rfl) (fun _ _ _ h => h) (Or.inl ⟨by rfl, ?hy0x17⟩) hHeld ?rest0x17
          case hy0x17 => (intro w' hSw; (try dsimp only at hSw); go_simp; try with_reducible rfl)
          simp only [List.getElem_toArray, List.getElem_cons_zero, List.getElem_cons_succ, Act.put, List.setIfInBounds_toArray, List.set_cons_zero, List.set_cons_succ]
          refine' wpAnyH_take (i := 1) (oi := _) (v := _) rfl (by kernel_rfl) (by kernel_rfl) (by kernel_rfl) (fun _ _ _ h => h) (Or.inl ⟨by rfl, ?hy1x18⟩) hHeld ?rest1x18
          case hy1x18 => (intro w' hSw; (try dsimp only at hSw); go_simp; try with_reducible rfl)
          simp only [List.getElem_toArray, List.getElem_cons_zero, List.getElem_cons_succ, Act.put, List.setIfInBounds_toArray, List.set_cons_zero, List.set_cons_succ]
          refine' wpAnyH_take (i := 2) (oi := _) (v := _) rfl (by kernel_rfl) (by kernel_rfl) (by kernel_rfl) (fun _ _ _ h => h) (Or.inl ⟨by rfl, ?hy2x19⟩) hHeld ?rest2x19
          case hy2x19 => (intro w' hSw; (try dsimp only at hSw); go_simp; try with_reducible rfl)
          simp only [List.getElem_toArray, List.getElem_cons_zero, List.getElem_cons_succ, Act.put, List.setIfInBounds_toArray, List.set_cons_zero, List.set_cons_succ]
          refine' wpAnyH_take (i := 3) (oi := _) (v := _) rfl (by kernel_rfl) (by kernel_rfl) (by kernel_rfl) (fun _ _ _ h => h) (Or.inl ⟨by rfl, ?hy3x20⟩) hHeld ?rest3x20
          case hy3x20 => (intro w' hSw; (try dsimp only at hSw); go_simp; try with_reducible rfl)
          simp only [List.getElem_toArray, List.getElem_cons_zero, List.getElem_cons_succ, Act.put, List.setIfInBounds_toArray, List.set_cons_zero, List.set_cons_succ]
          refine' wpAnyH_take (i := 4) (oi := _) (v := _) rfl (by kernel_rfl) (by kernel_rfl) (by kernel_rfl) (fun _ _ _ h => h) (Or.inl ⟨by rfl, ?hy4x21⟩) hHeld ?rest4x21
          case hy4x21 => (intro w' hSw; (try dsimp only at hSw); go_simp; try with_reducible rfl)
          simp only [List.getElem_toArray, List.getElem_cons_zero, List.getElem_cons_succ, Act.put, List.setIfInBounds_toArray, List.set_cons_zero, List.set_cons_succ]
          refine wpAnyH_ready (rs := [5]) (by kernel_rfl) (by simp) ?_
          refine AllReadyH.cons (o := _) rfl (fun K hK => ?_) AllReadyH.nil
          refine step_makeg_sat (by rfl) _ _ 30 rfl H6.drew 5 (.int .u8 0) 1 1 Try.underlying30 Try.info_byte _ _ 1024 rfl rfl (by omega) (by simp only [maxLen]; omega) ?_
          intro w11 H11 E11
          rw [made_byte] at H11
          refine hK.out _ _ (KS.out _ _ H11.tail) (fun hHeld2 => ?_)
          clear hK K
          try simp only [List.getElem_toArray, List.getElem_cons_zero, List.getElem_cons_succ, Act.put, List.setIfInBounds_toArray, List.set_cons_zero, List.set_cons_succ]
          refine wpAnyH_ready (rs := [6]) (by kernel_rfl) (by simp) ?_
          refine AllReadyH.cons (o := _) rfl (fun K hK => ?_) AllReadyH.nil
          refine step_conv (by rfl) 30 9 (.tmp 135) rfl _ (.string s1) rfl (KC.out ▸ conv_any H11.own_at.1) ?_
          refine hK.out _ _ hHeld2 (fun hHeld3 => ?_)
          clear hK K
          try simp only [List.getElem_toArray, List.getElem_cons_zero, List.getElem_cons_succ, Act.put, List.setIfInBounds_toArray, List.set_cons_zero, List.set_cons_succ]
          refine' wpAnyH_take (i := 7) (oi := _) (v := _) rfl (by kernel_rfl) (by kernel_rfl) (by kernel_rfl) (fun _ _ _ h => h) (Or.inl ⟨by rfl, ?hy7x22⟩) hHeld3 ?rest7x22
          case hy7x22 => (intro w' hSw; (try dsimp only at hSw); go_simp; try with_reducible rfl)
          simp only [List.getElem_toArray, List.getElem_cons_zero, List.getElem_cons_succ, Act.put, List.setIfInBounds_toArray, List.set_cons_zero, List.set_cons_succ]
          refine' wpAnyH_take (i := 8) (oi := _) (v := _) rfl (by kernel_rfl) (by kernel_rfl) (by kernel_rfl) (fun _ _ _ h => h) (Or.inl ⟨by rfl, ?hy8x23⟩) hHeld3 ?rest8x23
          case hy8x23 => (intro w' hSw; (try dsimp only at hSw); go_simp; try with_reducible rfl)
          simp only [List.getElem_toArray, List.getElem_cons_zero, List.getElem_cons_succ, Act.put, List.setIfInBounds_toArray, List.set_cons_zero, List.set_cons_succ]
          refine' wpAnyH_take (i := 9) (oi := _) (v := _) rfl (by kernel_rfl) (by kernel_rfl) (by kernel_rfl) (fun _ _ _ h => h) (Or.inl ⟨by rfl, ?hy9x24⟩) hHeld3 ?rest9x24
          case hy9x24 => (intro w' hSw; (try dsimp only at hSw); go_simp; try with_reducible rfl)
          simp only [List.getElem_toArray, List.getElem_cons_zero, List.getElem_cons_succ, Act.put, List.setIfInBounds_toArray, List.set_cons_zero, List.set_cons_succ]
          refine wpAnyH_ready (rs := [10]) (by kernel_rfl) (by simp) ?_
          refine AllReadyH.cons (o := _) rfl (fun K hK => ?_) AllReadyH.nil
          rw [if_pos (by rfl)]
          go_simp
          go_at_call 63
          refine (known5 H11).mono ?_
          rintro e w12 ⟨rfl, H12, E12⟩
          refine hK.out _ _ (KS.out _ _ H12.tail) (fun hHeld4 => ?_)
          clear hK K
          try simp only [List.getElem_toArray, List.getElem_cons_zero, List.getElem_cons_succ, Act.put, List.setIfInBounds_toArray, List.set_cons_zero, List.set_cons_succ]
          refine' wpAnyH_take (i := 11) (oi := _) (v := _) rfl (by kernel_rfl) (by kernel_rfl) (by kernel_rfl) (fun _ _ _ h => h) (Or.inl ⟨by rfl, ?hy11x25⟩) hHeld4 ?rest11x25
          case hy11x25 => (intro w' hSw; (try dsimp only at hSw); go_simp; try with_reducible rfl)
          simp only [List.getElem_toArray, List.getElem_cons_zero, List.getElem_cons_succ, Act.put, List.setIfInBounds_toArray, List.set_cons_zero, List.set_cons_succ]
          refine' wpAnyH_take (i := 12) (oi := _) (v := _) rfl (by kernel_rfl) (by kernel_rfl) (by kernel_rfl) (fun _ _ _ h => h) (Or.inl ⟨by rfl, ?hy12x26⟩) hHeld4 ?rest12x26
          case hy12x26 => (intro w' hSw; (try dsimp only at hSw); go_simp; try with_reducible rfl)
          simp only [List.getElem_toArray, List.getElem_cons_zero, List.getElem_cons_succ, Act.put, List.setIfInBounds_toArray, List.set_cons_zero, List.set_cons_succ]
          refine wpAnyH_done (by kernel_rfl) ?_ _
          have E13 := (E7.drew.trans E11).trans E12
          have H13 := H12.tail.tail.tail.tail
          clear H6 H11 H12 E7 E11 E12 hHeld hHeld2 hHeld3 hHeld4 k0 KS KC
          go_wp2_with fail
          go_ret
          exact ⟨rfl, H13, E13⟩
end Go.Proofs.Ythbabdjicplooaa
