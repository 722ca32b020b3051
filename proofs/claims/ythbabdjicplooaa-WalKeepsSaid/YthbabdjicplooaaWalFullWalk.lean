/- WalFull's walk. Conditions: none. -/
import Derived.Test.YthbabdjicplooaaWalUse
namespace Go.Proofs.Ythbabdjicplooaa
open Go.RowKit

def fillL (s : Nat) : Nat → LogV → LogV
  | 0, L => L
  | k + 1, L => commitL (fillL s k L) (recordL s k)
theorem fillL_keep (s ct : Nat) : ∀ k, (fillL s k (freshL 0 ct)).from_ = 0 ∧ (fillL s k (freshL 0 ct)).count = ct ∧ (fillL s k (freshL 0 ct)).epoch = 1 ∧ (fillL s k (freshL 0 ct)).recs = (List.range k).map fun i : Nat => recordL s (i : Int)
  | 0 => ⟨rfl, rfl, rfl, rfl⟩
  | k + 1 => by
    obtain ⟨h1, h2, h3, h4⟩ := fillL_keep s ct k
    refine ⟨h1, h2, h3, ?_⟩
    show (fillL s k (freshL 0 ct)).recs ++ [recordL s k] = _
    rw [h4, List.range_succ, List.map_append]
    rfl
theorem commit_full {w : World} {p d : Nat} {L : LogV} {D : Dsk} {F : List HP} (A : Option Addr) (n c : Nat) (b : List Int) (h : Inv D L) (H : Sat w (logc p d L :: disk d D :: F)) (hr : Reads F 1 A n (bytes b)) (hnc : n ≤ c) (hbb : InB b) (hn : n < 4294967296) (hbr : roomL L < b.length) :
    Calls Try.prog 47 #[.pointer (some ⟨p, 0, none⟩), .slice A n c] w fun e w' => e = .returned (.int .i64 26) ∧ Sat w' (logc p d L :: disk d D :: F) ∧ Env w w' := by
  have hlen := h.len
  have hfit := h.fit
  have hnx := h.nx
  have hrl := h.rl
  refine (commit_log A n c b H hr hnc hn hbb h.ok h.fit h.len h.db (by rw [h.pend]; simp) (by omega)).mono ?_
  rintro e w' ⟨rfl, h2, h3⟩
  have hc : commitD D L b = (26, D) := by unfold commitD; rw [if_neg (by omega), if_pos hbr]
  rw [hc] at h2 ⊢
  exact ⟨rfl, h2, h3⟩

set_option maxHeartbeats 16000000 in
set_option maxRecDepth 100000 in
theorem walFull_any {w : World} {F : List HP} (x0 x1 : Int) (H : Sat w F) :
    Calls Try.prog 12 #[.int .i64 x0, .int .i64 x1] w fun e w' => e = .returned (.bool true) ∧ Sat w' F ∧ Env w w' := by
  obtain ⟨s0, hs0⟩ := Int.eq_ofNat_of_zero_le (within_range x0 (lo := 0) (hi := 300) (by omega)).1
  obtain ⟨c0, hc0⟩ := Int.eq_ofNat_of_zero_le (within_range x1 (lo := 0) (hi := 30) (by omega)).1
  have hs1 := (within_range x0 (lo := 0) (hi := 300) (by omega)).2
  have hc1 := (within_range x1 (lo := 0) (hi := 30) (by omega)).2
  obtain ⟨s, hs⟩ : ∃ s, s0 + 1 = s := ⟨_, rfl⟩
  obtain ⟨ct, hct⟩ : ∃ s, c0 + 4 = s := ⟨_, rfl⟩
  have hsb : 1 ≤ s ∧ s ≤ 301 := by omega
  have hcb : 4 ≤ ct ∧ ct ≤ 34 := by omega
  have hws : IntKind.i64.wrap ((s0 : Int) + 1) = (s : Int) := by rw [IntWalk.i64_in _ (by omega)]; omega
  have hwc : IntKind.i64.wrap ((c0 : Int) + 4) = (ct : Int) := by rw [IntWalk.i64_in _ (by omega)]; omega
  have HS0 := Lib.hid hs0
  have HC0 := Lib.hid hc0
  clear hs0 hc0 hs1 hc1 hs hct
  obtain ⟨c3, hc3⟩ : ∃ a, ct - 3 = a := ⟨_, rfl⟩
  have hw1 : IntKind.i64.wrap ((ct : Int) - 3) = (c3 : Int) := by rw [IntWalk.i64_in _ (by omega)]; omega
  have hc3b : c3 ≤ 31 ∧ c3 + 3 = ct := by omega
  clear hc3
  obtain ⟨c6, hc6⟩ : ∃ a, c3 * 128 = a := ⟨_, rfl⟩
  have hw2 : IntKind.i64.wrap ((c3 : Int) * 128) = (c6 : Int) := by rw [IntWalk.i64_in _ (by omega)]; omega
  obtain ⟨c7, hc7⟩ : ∃ a, c3 * 64 = a := ⟨_, rfl⟩
  have hw3 : (c6 : Int).tdiv 2 = (c7 : Int) := by rw [Int.tdiv_eq_ediv_of_nonneg (by omega)]; omega
  obtain ⟨rm, hrm⟩ : ∃ a, (ct - 2) * 107 = a := ⟨_, rfl⟩
  have hc7b : c7 ≤ 1984 ∧ c7 ≤ rm ∧ rm ≤ 3424 := by omega
  have HRM := Lib.hid hrm
  clear hc6 hc7 hrm
  go_enter Try.func12, Try.ntmps12
  go_wp2_with fail
  refine (within_any x1 0 30 _ (by omega) (by omega) (by omega)).mono ?_
  rintro e w1 ⟨rfl, rfl⟩
  rw [HC0.out]
  go_wp2_with fail
  refine (begun4 ct 0 ct H (by omega) (by omega) (by omega)).mono ?_
  rintro e w2 ⟨d, p, D, rfl, hF, H2, E2⟩
  have HI := Lib.hid (hF.inv (by rw [newD_len]; omega) (by rw [newD_len]; omega) (by omega))
  have HL := Lib.hid hF.left
  clear hF H
  go_wp2_with fail
  refine (room_any H2 HI.out.ok).mono ?_
  rintro e w3 ⟨rfl, q3, rfl⟩
  have H3 := H2.drewN q3
  have E3 := E2.drewN q3
  rw [show roomL (freshL 0 ct) = rm from HRM.out]
  generalize w2.drewN q3 = w3 at *
  clear H2 E2
  go_wp2_with fail
  refine (within_any x0 0 300 _ (by omega) (by omega) (by omega)).mono ?_
  rintro e w4 ⟨rfl, hw4⟩
  subst hw4
  rw [HS0.out]
  clear HC0 HS0 hwc
  go_wp2_with fail
  go_loopw [8, 9, 10, 11] (fun s8 i s10 s11 wr => ∃ (k : Nat) (D : Dsk), s8 = .int .i64 k ∧ i = .int .i64 k ∧ Hid (Inv D (fillL s k (freshL 0 ct)) ∧ D.left = none) ∧ Sat wr (logc p d (fillL s k (freshL 0 ct)) :: disk d D :: F) ∧ Env w wr) (fun _ i _ _ _ => 400 - (intOf i).toNat)
  case atStart => exact ⟨0, D, rfl, rfl, Lib.hid ⟨HI.out, HL.out⟩, H3, E3⟩
  case round =>
    clear HI HL H3 E3
    obtain ⟨k, D, rfl, rfl, HI, H4, E4⟩ := hrel
    have hkl := fillL_keep s ct k
    have HK := Lib.hid (show k + 2 ≤ ct ∧ (fillL s k (freshL 0 ct)).recs.length = k from by
      have h1 := HI.out.1.nx
      have h2 := HI.out.1.rl
      have h3 : (fillL s k (freshL 0 ct)).recs.length = k := by rw [hkl.2.2.2, List.length_map, List.length_range]
      rw [h3] at h2
      rw [hkl.2.1] at h1
      exact ⟨by omega, h3⟩)
    have HKL := Lib.hid hkl
    have hkb : k ≤ 32 := by have := HK.out.1; omega
    have hwk : IntKind.u8.wrap (k : Int) = (k : Int) := by rw [show IntKind.u8.wrap (k : Int) = (k : Int) % 256 by simp [IntKind.wrap, IntKind.bits, IntKind.signed]]; omega
    obtain ⟨L, hL⟩ : ∃ L, fillL s k (freshL 0 ct) = L := ⟨_, rfl⟩
    have HL2 := Lib.hid (show fillL s (k + 1) (freshL 0 ct) = commitL L (recordL s k) by rw [← hL]; rfl)
    rw [hL] at HI H4 HK HKL
    obtain ⟨ro, hro⟩ : ∃ r, roomL L = r := ⟨_, rfl⟩
    have hrb : ro ≤ 3424 := by rw [← hro]; unfold roomL; rw [HKL.out.2.1]; omega
    have HRO := Lib.hid hro
    clear hL hkl hro
    go_wp2_with fail
    refine (room_any H4 HI.out.1.ok).mono ?_
    rintro e w5 ⟨rfl, q5, rfl⟩
    have H5 := H4.drewN q5
    have E5 := E4.drewN q5
    rw [HRO.out]
    generalize wr.drewN q5 = w5 at *
    clear H4 E4
    go_wp2_with fail
    refine (record_any s (k : Int) H5 (by omega) (by omega)).mono ?_
    rintro e w6 ⟨v6, rfl, H6, E6⟩
    obtain ⟨A6, c6', rfl, hc6, -, -⟩ := H6.own_form
    have E6' := E5.trans E6
    clear H5 E5 E6
    go_wp2_with fail
    by_cases hfit : s ≤ ro
    · refine (commit_fine A6 s c6' (recordL s k) HI.out.1 HI.out.2 H6.b2.b2 (fun w h => h.own_at.1) hc6 (by rw [recordL_len]; omega) (recordL_inb _ _) (by rw [recordL_len, HRO.out]; exact hfit)).mono ?_
      rintro e w7 ⟨rfl, D7, hI7, hl7, -, H7, E7⟩
      have H8 := H7.b2.tail
      rw [← HL2.out] at H8 hI7
      have HI7 := Lib.hid (show Inv D7 (fillL s (k + 1) (freshL 0 ct)) ∧ D7.left = none from ⟨hI7, hl7⟩)
      have E8 := E6'.trans E7
      clear H6 H7 E7 E6' hI7 hl7 hc6
      go_wp2_with fail
      go_roundw
      case rel => exact ⟨k + 1, D7, by go_num, by go_num, HI7, H8, E8⟩
      case measure => simp [intOf]; omega
    · refine (commit_full A6 s c6' (recordL s k) HI.out.1 H6.b2.b2 (fun w h => h.own_at.1) hc6 (recordL_inb _ _) (by omega) (by rw [recordL_len, HRO.out]; omega)).mono ?_
      rintro e w7 ⟨rfl, H7, E7⟩
      have H8 := H7.b2.tail
      have E8 := E6'.trans E7
      clear H6 H7 E7 E6' hc6 HL2
      go_wp2_with fail
      refine (open_at 0 ct HI.out.1 HKL.out.1 HKL.out.2.1 H8.b1).mono ?_
      rintro e w9 ⟨p9, rfl, H9, E9⟩
      have E9' := E8.trans E9
      have HIN := Lib.hid (show ∀ b ∈ L.recs, b.length < 4294967296 from fun b hb => by
        rw [HKL.out.2.2.2] at hb
        obtain ⟨j, -, rfl⟩ := List.mem_map.1 hb
        rw [recordL_len]; omega)
      clear H8 E8 E9
      go_wp2_with fail
      refine (records_log H9 HI.out.1.ok HIN.out).mono ?_
      rintro e w10 ⟨v10, rfl, H10, E10⟩
      obtain ⟨A10, c10, rfl⟩ := H10.recL_form
      rw [HK.out.2]
      have H11 := H10.tail
      have E11 := E9'.trans E10
      clear H9 E9' H10 E10
      go_wp2_with fail
      refine (records_log H11 HI.out.1.ok HIN.out).mono ?_
      rintro e w12 ⟨v12, rfl, H12, E12⟩
      rw [HKL.out.2.2.2] at H12
      obtain ⟨R, hR, H13⟩ := H12.recL_open
      have hRl : R.length = k := by have := congrArg List.length hR; rw [List.length_map, List.length_map, List.length_range] at this; exact this
      rw [hRl] at H13
      obtain ⟨A12, c12, rfl, -, -, -⟩ := H13.own_form
      have HR := Lib.hid (show R.length = k ∧ R.map (·.2) = (List.range k).map fun i : Nat => recordL s (i : Int) from ⟨hRl, hR⟩)
      have E13 := E11.trans E12
      clear H11 E11 H12 E12 hR hRl
      go_wp2_with fail
      go_loopw [14, 15, 92] (fun s14 s15 i wr => ∃ j : Nat, j ≤ k ∧ i = .int .i64 j ∧ Sat wr (own 30 1 (.slice A12 k c12) k (R.map (·.1)) :: ownB R :: logc p9 d L :: disk d D :: logc p d L :: F) ∧ Env w wr) (fun _ _ i _ => k - (intOf i).toNat)
      case atStart => exact ⟨0, by omega, rfl, H13, E13⟩
      case round =>
        clear H13 E13
        obtain ⟨j, hj, rfl, H14, E14⟩ := hrel
        by_cases hlt : j < k
        · have hjl : j < R.length := by rw [HR.out.1]; exact hlt
          obtain ⟨⟨qv, qb⟩, hq⟩ : ∃ q, R[j] = q := ⟨_, rfl⟩
          have hqm : (qv, qb) ∈ R := hq ▸ List.getElem_mem hjl
          have hqb : qb = recordL s (j : Int) := by
            have h1 := HR.out.2
            have h2 := congrArg (fun l => l[j]?) h1
            simp only [List.getElem?_map, List.getElem?_eq_getElem hjl, hq, Option.map_some] at h2
            rw [List.getElem?_range hlt] at h2
            simpa using h2
          subst hqb
          obtain ⟨g12, c12', hA, -⟩ := H14.own_addr (by omega)
          injection hA with hA _ hc12
          subst hA
          have hcell := H14.own_cell j qv (by rw [List.getElem?_map, List.getElem?_eq_getElem hjl, hq]; rfl)
          obtain ⟨A4, c4, h4, -, r4⟩ := H14.b1.ownB_at hqm
          simp only [recordL_len] at h4 r4
          subst h4
          have hwj : IntKind.u8.wrap (j : Int) = (j : Int) := by rw [show IntKind.u8.wrap (j : Int) = (j : Int) % 256 by simp [IntKind.wrap, IntKind.bits, IntKind.signed]]; omega
          have HQM := Lib.hid hqm
          clear hjl hq hqm hc12 c12'
          go_upto_region 22 with fail
          have cv1 : (convert 30 9 (.slice A4 s c4)).run Try.prog wr.drew = .ok (.string (strOfNums (recordL s (j : Int)))) wr.drew := conv_rd (w := wr.drew) (c := c4) (r4.keep fun _ _ h => h) (by omega)
          have KS := Lib.hid (fun (w : World) (G : List HP) (H : Sat w (ownB R :: G)) => show (convert 30 9 (.slice A4 s c4)).run Try.prog w = .ok (.string (strOfNums (recordL s (j : Int)))) w from by
            obtain ⟨A5, c5, h5, -, r5⟩ := H.ownB_at HQM.out
            simp only [recordL_len] at h5 r5
            cases h5
            exact conv_rd (c := c4) r5 (by omega))
          have KS2 := Lib.hid (fun (w : World) (G : List HP) (A5 : Option Addr) (c5 : Nat) (H : Sat w (own 5 1 (.slice A5 s c5) s (bytes (recordL s (j : Int))) :: G)) => show (convert 30 9 (.slice A5 s c5)).run Try.prog w = .ok (.string (strOfNums (recordL s (j : Int)))) w from conv_rd (c := c5) H.own_at.1 (by omega))
          have HJ := Lib.hid (show 0 ≤ (j : Int) ∧ (j : Int) ≤ 255 by omega)
          have HSB := Lib.hid (show s ≤ 8192 by omega)
          generalize strOfNums (recordL s (j : Int)) = st at *
          clear HQM r4 hcell
          have H14' := H14.drew.b2
          go_region_with (first
            | (go_at_call 51; refine (record_any s (j : Int) H14.drew HJ.out HSB.out).mono ?_; rintro e w15 ⟨v15, rfl, H15, E15⟩; obtain ⟨A15, c15, rfl, -, -, -⟩ := H15.own_form; have cv2 := KS2.out _ _ _ _ H15; have cv3 := KS.out _ _ H15.b2))
          all_goals
            have H16 := H15.tail
            have E16 := E14.drew.trans E15
            clear H14 H14' H15 E14 E15 cv1 cv2 cv3 KS KS2 HJ HSB hwj
            go_wp2_with fail
            go_roundw
            case rel => exact ⟨j + 1, by omega, by go_num, H16, E16⟩
            case measure => simp [intOf]; omega
        · obtain rfl : j = k := by omega
          have H15 := H14.tail.tail
          clear H14 HIN
          go_wp2_with fail
          refine (clear_fine HI.out.1 HI.out.2 (by rw [HKL.out.2.2.1]; omega) H15).mono ?_
          rintro e w16 ⟨rfl, D16, hI16, -, -, H16, E16⟩
          have HI16 := Lib.hid hI16
          have E16' := E14.trans E16
          clear H15 E14 E16 hI16
          go_wp2_with fail
          refine (records_log H16 HI16.out.ok (fun q hq => by cases hq)).mono ?_
          rintro e w17 ⟨v17, rfl, H17, E17⟩
          obtain ⟨A17, c17, rfl⟩ := H17.recL_form
          rw [show (clearL L).recs = [] from rfl]
          have H18 := H17.tail
          have E18 := E16'.trans E17
          clear H16 E16' H17 E17
          go_wp2_with fail
          refine (room_any H18 HI16.out.ok).mono ?_
          rintro e w19 ⟨rfl, q19, rfl⟩
          have H19 := H18.drewN q19
          have E19 := E18.drewN q19
          rw [show roomL (clearL L) = rm from by rw [← HRM.out, ← HKL.out.2.1]; rfl]
          generalize w17.drewN q19 = w19 at *
          clear H18 E18
          go_wp2_with fail
          refine (known4 H19).mono ?_
          rintro e w20 ⟨rfl, H20, E20⟩
          go_wp2_with fail
          go_ret
          exact ⟨rfl, H20.tail.tail.tail, E19.trans E20⟩
end Go.Proofs.Ythbabdjicplooaa
