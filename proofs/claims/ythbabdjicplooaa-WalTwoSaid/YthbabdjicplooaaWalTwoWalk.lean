/- WalTwo's walk. Conditions: none. -/
import Derived.Test.YthbabdjicplooaaWalUse
namespace Go.Proofs.Ythbabdjicplooaa
open Go.RowKit

theorem cut_reads {F : List HP} {A : Option Addr} {n m : Nat} {l : List Int} (hr : Reads F 1 A n (bytes l)) (hb : InB l) (hl : l.length = n) (hm : m ≤ n) : Reads F 1 A m (bytes (l.take m)) ∧ InB (l.take m) ∧ (l.take m).length = m :=
  ⟨fun w h => by
    have := (hr w h).take hm
    rwa [Nat.mul_one, show (bytes l).take m = bytes (l.take m) from List.map_take.symm] at this, hb.take m, by rw [List.length_take, hl]; omega⟩

set_option maxHeartbeats 16000000 in
set_option maxRecDepth 100000 in
theorem walTwo_any {w : World} {F : List HP} (A : Option Addr) (n c : Nat) (l : List Int) (B : Option Addr) (n2 c2 : Nat) (l2 : List Int) (H : Sat w F) (hr : Reads F 1 A n (bytes l)) (hb : InB l) (hnc : n ≤ c) (hr2 : Reads F 1 B n2 (bytes l2)) (hb2 : InB l2) (hnc2 : n2 ≤ c2) :
    Calls Try.prog 11 #[.slice A n c, .slice B n2 c2] w fun e w' => e = .returned (.bool true) ∧ Sat w' F ∧ Env w w' := by
  have hlen : l.length = n := by have := (hr w H).1; simpa [bytes] using this
  have hlen2 : l2.length = n2 := by have := (hr2 w H).1; simpa [bytes] using this
  obtain ⟨m, hm⟩ : ∃ m, min n 200 = m := ⟨_, rfl⟩
  obtain ⟨m2, hm2⟩ : ∃ m, min n2 200 = m := ⟨_, rfl⟩
  have hm3 : m ≤ 200 ∧ m ≤ c := by omega
  have hm4 : m2 ≤ 200 ∧ m2 ≤ c2 := by omega
  have hc3 : (200 < n ∧ m = 200) ∨ (n ≤ 200 ∧ m = n) := by omega
  have hc4 : (200 < n2 ∧ m2 = 200) ∨ (n2 ≤ 200 ∧ m2 = n2) := by omega
  have HX := Lib.hid (cut_reads hr hb hlen (m := m) (by omega))
  have HY := Lib.hid (cut_reads hr2 hb2 hlen2 (m := m2) (by omega))
  clear hr hb hr2 hb2 hlen hlen2 hnc hnc2 hm hm2
  generalize l.take m = x at *
  generalize l2.take m2 = y at *
  go_enter Try.func11, Try.ntmps11
  go_upto_if 18 with fail
  go_cut [0] from 16 to 20 (fun s0 wr => s0 = .slice A m c ∧ wr = w)
  case first =>
    rcases hc3 with ⟨h1, rfl⟩ | ⟨h1, rfl⟩
    · go_wp2_with fail
      go_meet
      case rel => exact ⟨rfl, rfl⟩
    · go_wp2_with fail
      go_meet
      case rel => exact ⟨rfl, rfl⟩
  case rest =>
  obtain ⟨rfl, hw⟩ := hcut
  rw [hw]
  clear hw wc hc3
  go_upto_if 23 with fail
  go_cut [1] from 21 to 25 (fun s0 wr => s0 = .slice B m2 c2 ∧ wr = w)
  case first =>
    rcases hc4 with ⟨h1, rfl⟩ | ⟨h1, rfl⟩
    · go_wp2_with fail
      go_meet
      case rel => exact ⟨rfl, rfl⟩
    · go_wp2_with fail
      go_meet
      case rel => exact ⟨rfl, rfl⟩
  case rest =>
  obtain ⟨rfl, hw⟩ := hcut
  rw [hw]
  clear hw wc hc4
  go_wp2_with fail
  refine (begun4 40 0 20 H (by omega) (by omega) (by omega)).mono ?_
  rintro e w2 ⟨d, p, D, rfl, hF, H2, E2⟩
  have HF := Lib.hid hF
  have HI := Lib.hid (hF.inv (by rw [newD_len]; omega) (by rw [newD_len]; omega) (by omega))
  clear hF H
  have HDL := Lib.hid (show D.safe.length = 40 by rw [HF.out.len, newD_len])
  have HF2 := Lib.hid (format_fresh (D := D) 20 20 HF.out.left HF.out.db (by rw [HDL.out]; omega) (by omega))
  have HFL := Lib.hid (fun (w9 : World) (H9 : Sat w9 (disk d D :: logc p d (freshL 0 20) :: F)) => format_log 20 20 H9 (by omega) (by rw [HDL.out]; omega) (by rw [HDL.out]; omega) HF.out.db (by rw [HF.out.pend]; show 0 < _; omega) HF.out.left)
  have HIY := Lib.hid (HF2.out.inv (by rw [HDL.out]; omega) (by rw [HDL.out]; omega) (by omega))
  have HIX := Lib.hid (HI.out.other (C := formatD D 20 20) HIY.out.pend HIY.out.db HF2.out.len (fun k h1 h2 => by
    have h2 : k < 0 + 20 := h2
    rw [HF2.out.rd k (by rw [HDL.out]; omega), if_neg (by omega), if_neg (by omega)]))
  have HFL2 := Lib.hid HF2.out.left
  generalize formatD D 20 20 = D2 at *
  clear HI HF HDL HF2
  go_upto_if 37 with fail
  refine (HFL.out w2 H2.b1).mono ?_
  rintro e w3 ⟨rfl, H3, E3⟩
  clear HFL
  go_wp2_with fail
  refine (open_inv HIY.out H3).mono ?_
  rintro e w4 ⟨p2, rfl, H4, E4⟩
  have E4' := (E2.trans E3).trans E4
  have H5 := H4.b2
  clear H2 E2 H3 E3 H4 E4
  have hkx := codeL_eq x
  have hky := codeL_eq y
  rw [HX.out.2.2] at hkx
  rw [HY.out.2.2] at hky
  have HCX := Lib.hid (fun (w : World) (D : Dsk) (L : LogV) (F' : List HP) (h : Inv D L) (hl : D.left = none) (hr : x.length ≤ roomL L) (H : Sat w (logc p d L :: disk d D :: F')) (hF : ∀ w, Sat w F' → Sat w F) => commit_add A m c x h hl H (fun w h => HX.out.1 w (hF w h)) hm3.2 HX.out.2.1 hr)
  have HCY := Lib.hid (fun (w : World) (D : Dsk) (L : LogV) (F' : List HP) (h : Inv D L) (hl : D.left = none) (hr : y.length ≤ roomL L) (H : Sat w (logc p2 d L :: disk d D :: F')) (hF : ∀ w, Sat w F' → Sat w F) => commit_add B m2 c2 y h hl H (fun w h => HY.out.1 w (hF w h)) hm4.2 HY.out.2.1 hr)
  generalize codeL x = cx at *
  generalize codeL y = cy at *
  have HPX := Lib.hid (show partsN x.length ≤ 2 by rw [HX.out.2.2]; unfold partsN; omega)
  have HPY := Lib.hid (show partsN y.length ≤ 2 by rw [HY.out.2.2]; unfold partsN; omega)
  go_wp2_with fail
  go_loopw [10] (fun i wr => ∃ (k : Nat) (D : Dsk), k ≤ 2 ∧ i = .int .i64 k ∧ Hid (Inv D (repL x k (freshL 0 20)) ∧ Inv D (repL y k (freshL 20 20)) ∧ D.left = none) ∧ Sat wr (logc p d (repL x k (freshL 0 20)) :: logc p2 d (repL y k (freshL 20 20)) :: disk d D :: F) ∧ Env w wr) (fun i _ => 2 - (intOf i).toNat)
  case atStart => exact ⟨0, D2, by omega, rfl, Lib.hid ⟨HIX.out, HIY.out, HFL2.out⟩, H5, E4'⟩
  case round =>
    clear H5 E4' HIX HIY HFL2
    obtain ⟨k, D, hk, rfl, HI, H6, E6⟩ := hrel
    by_cases hlt : k < 2
    · have hrx : x.length ≤ roomL (repL x k (freshL 0 20)) := by
        obtain ⟨h1, h2, -, h4⟩ := repL_keep x (freshL 0 20) k
        unfold roomL
        rw [h2]
        have h4 : (repL x k (freshL 0 20)).next ≤ 0 + k * partsN x.length := h4
        have h5 := HPX.out
        have h6 := Nat.mul_le_mul (show k ≤ 1 by omega) h5
        show _ ≤ (20 - 2 - _) * 107
        have := HX.out.2.2
        omega
      have hry : y.length ≤ roomL (repL y k (freshL 20 20)) := by
        obtain ⟨h1, h2, -, h4⟩ := repL_keep y (freshL 20 20) k
        unfold roomL
        rw [h2]
        have h4 : (repL y k (freshL 20 20)).next ≤ 0 + k * partsN y.length := h4
        have h5 := HPY.out
        have h6 := Nat.mul_le_mul (show k ≤ 1 by omega) h5
        show _ ≤ (20 - 2 - _) * 107
        have := HY.out.2.2
        omega
      have HRX := Lib.hid hrx
      have HRY := Lib.hid hry
      have HKX := Lib.hid (repL_keep x (freshL 0 20) k)
      have HKY := Lib.hid (repL_keep y (freshL 20 20) k)
      clear hrx hry
      generalize hLx : repL x k (freshL 0 20) = Lx at *
      generalize hLy : repL y k (freshL 20 20) = Ly at *
      have HLX := Lib.hid (show addL Lx x = repL x (k + 1) (freshL 0 20) by rw [← hLx]; rfl)
      have HLY := Lib.hid (show addL Ly y = repL y (k + 1) (freshL 20 20) by rw [← hLy]; rfl)
      clear hLx hLy
      go_wp2_with fail
      refine (HCX.out _ D Lx _ HI.out.1 HI.out.2.2 HRX.out H6.b2.b1 (fun w h => h.tail)).mono ?_
      rintro e w7 ⟨rfl, D7, hI7, hl7, hR7, H7, E7⟩
      have HI7 := Lib.hid hI7
      have HL7 := Lib.hid hl7
      have HIY7 := Lib.hid (HI.out.2.1.other hI7.pend hI7.db hR7.1 (fun j h1 h2 => hR7.2 j (by have := HI.out.2.1.fit; omega) (by
        rw [HKX.out.1, HKX.out.2.1]
        rw [HKY.out.1] at h1
        have h1 : 20 ≤ j := h1
        show j < 0 ∨ 0 + 20 ≤ j
        omega)))
      have E7' := E6.trans E7
      clear H6 E6 E7 hI7 hl7 hR7
      go_wp2_with fail
      refine (HCY.out _ D7 Ly _ HIY7.out HL7.out HRY.out H7.b1.b2 (fun w h => h.tail)).mono ?_
      rintro e w8 ⟨rfl, D8, hI8, hl8, hR8, H8, E8⟩
      have HI8 := Lib.hid hI8
      have HIX8 := Lib.hid (HI7.out.other hI8.pend hI8.db hR8.1 (fun j h1 h2 => hR8.2 j (by have := HI7.out.fit; omega) (by
        have hk := addL_keep Lx x
        rw [hk.1, hk.2.1, HKX.out.1, HKX.out.2.1] at h2
        rw [HKY.out.1]
        have h2 : j < 0 + 20 := h2
        show j < 20 ∨ 20 + _ ≤ j
        omega)))
      have HL8 := Lib.hid hl8
      have E8' := E7'.trans E8
      have H9 := H8.b2
      rw [HLX.out, HLY.out] at H9
      have HI9 := Lib.hid (show Inv D8 (repL x (k + 1) (freshL 0 20)) ∧ Inv D8 (repL y (k + 1) (freshL 20 20)) ∧ D8.left = none from ⟨HLX.out ▸ HIX8.out, HLY.out ▸ HI8.out, HL8.out⟩)
      clear H7 E7' H8 E8 hI8 hl8 hR8
      go_wp2_with fail
      go_roundw
      case rel => exact ⟨k + 1, D8, by omega, by go_num, HI9, H9, E8'⟩
      case measure => simp [intOf]; omega
    · obtain rfl : k = 2 := by omega
      have HKX := Lib.hid (repL_keep x (freshL 0 20) 2)
      have HKY := Lib.hid (repL_keep y (freshL 20 20) 2)
      have HRR := Lib.hid (repL_recs y (freshL 20 20) 2)
      clear HCX HCY HPX HPY
      generalize repL x 2 (freshL 0 20) = Lx at *
      generalize repL y 2 (freshL 20 20) = Ly at *
      have HX2 := Lib.hid (show (Lx.from_ = 0 ∧ Lx.count = 20 ∧ Lx.epoch = 1) ∧ (Ly.from_ = 20 ∧ Ly.count = 20) from ⟨⟨HKX.out.1, HKX.out.2.1, HKX.out.2.2.1⟩, HKY.out.1, HKY.out.2.1⟩)
      clear HKX HKY
      go_wp2_with fail
      refine (clear_fine HI.out.1 HI.out.2.2 (by rw [HX2.out.1.2.2]; omega) H6.b2.b1).mono ?_
      rintro e w7 ⟨rfl, D7, hI7, -, hR7, H7, E7⟩
      have HI7 := Lib.hid hI7
      have HIY7 := Lib.hid (HI.out.2.1.other hI7.pend hI7.db hR7.1 (fun j h1 h2 => hR7.2 j (by have := HI.out.2.1.fit; omega) (by
        rw [HX2.out.1.1, HX2.out.1.2.1]
        rw [HX2.out.2.1] at h1
        omega)))
      have E7' := E6.trans E7
      clear H6 E6 E7 hI7 hR7 HI
      go_wp2_with fail
      refine (open_at 0 20 HI7.out (show Lx.from_ = 0 from HX2.out.1.1) (show Lx.count = 20 from HX2.out.1.2.1) H7.b1).mono ?_
      rintro e w8 ⟨p8, rfl, H8, E8⟩
      have E8' := E7'.trans E8
      clear H7 E7' E8
      go_wp2_with fail
      refine (open_at 20 20 HIY7.out HX2.out.2.1 HX2.out.2.2 H8.b1).mono ?_
      rintro e w9 ⟨p9, rfl, H9, E9⟩
      have E9' := E8'.trans E9
      clear H8 E8' E9
      go_wp2_with fail
      refine (records_log H9.b2 HI7.out.ok (fun q hq => by cases hq)).mono ?_
      rintro e w10 ⟨v10, rfl, H10, E10⟩
      obtain ⟨A10, c10, rfl⟩ := H10.recL_form
      rw [show (clearL Lx).recs = [] from rfl]
      have H11 := H10.tail.b2
      have E11 := E9'.trans E10
      clear H9 E9' H10 E10
      have HIN := Lib.hid (show ∀ b ∈ Ly.recs, b.length < 4294967296 from fun b hb => by
        rw [HRR.out] at hb
        have hb : b ∈ ([] ++ if y.length = 0 then [] else List.replicate 2 y) := hb
        rw [List.nil_append] at hb
        split at hb
        · cases hb
        · rw [(List.mem_replicate.1 hb).2, HY.out.2.2]; omega)
      by_cases hm0 : m2 = 0
      · subst hm0
        have HE := Lib.hid (show Ly.recs = [] by rw [HRR.out, if_pos HY.out.2.2]; rfl)
        go_wp2_with fail
        refine (records_log (H11.alloc' _).b2 HIY7.out.ok HIN.out).mono ?_
        rintro e w12 ⟨v12, rfl, H12, E12⟩
        rw [HE.out] at H12
        obtain ⟨A12, c12, rfl⟩ := H12.recL_form
        have E12' := (E11.alloc _).trans E12
        clear H11 E11 E12
        go_wp2_with fail
        refine (same_any (.slice A12 ([] : List (List Int)).length c12) (.slice none 0 0) [] [] w12 H12.recL_rd ⟨none, 0, [], rfl, Nat.le_refl _, Rd.nil _ _ _, rfl, fun q hq => by cases hq⟩ (by simp) (fun q hq => by cases hq) (fun q hq => by cases hq)).mono ?_
        rintro e w13 ⟨rfl, q13, rfl⟩
        rw [show decide (([] : List (List Int)) = []) = true by decide]
        have H13 := (H12.drewN q13).tail.tail.tail.tail.tail.tail
        have E13 := E12'.drewN q13
        generalize w12.drewN q13 = w13 at *
        clear H12 E12'
        go_wp2_with fail
        refine (known4 H13).mono ?_
        rintro e w14 ⟨rfl, H14, E14⟩
        go_wp2_with fail
        go_ret
        exact ⟨rfl, H14, E13.trans E14⟩
      · have hm0i : ¬ (m2 : Int) = 0 := by omega
        have HE := Lib.hid (show Ly.recs = [y, y] by rw [HRR.out, if_neg (by rw [HY.out.2.2]; exact hm0)]; rfl)
        go_wp2_with fail
        have H11' := H11.alloc (.cells #[.slice B m2 c2, .slice B m2 c2] 30)
        have E11' := E11.alloc (.cells #[.slice B m2 c2, .slice B m2 c2] 30)
        generalize w10.alloc (.cells #[.slice B m2 c2, .slice B m2 c2] 30) = w11 at *
        generalize w10.heap.size = T at *
        refine (records_log H11'.b3 HIY7.out.ok HIN.out).mono ?_
        rintro e w12 ⟨v12, rfl, H12, E12⟩
        rw [HE.out] at H12
        obtain ⟨A12, c12, rfl⟩ := H12.recL_form
        have E12' := E11'.trans E12
        clear H11 E11 H11' E11' E12
        have hyl := HY.out.2.2
        have hIN : InL [y, y] := fun q hq => by
          have : q = y := by simpa using hq
          subst this
          exact ⟨fun h => by rw [h] at hyl; simp at hyl; omega, HY.out.2.1⟩
        have HSM := Lib.hid (same_true (.slice A12 [y, y].length c12) (.slice (some ⟨T, 0, none⟩) 2 2) [y, y] w12 H12.recL_rd (H12.b2.blk_rdB [((.slice B m2 c2 : Value), y), ((.slice B m2 c2 : Value), y)] (fun q hq => by
          have : q = ((.slice B m2 c2 : Value), y) := by simpa using hq
          subst this
          refine ⟨B, c2, by rw [hyl], by rw [hyl]; exact hm4.2, ?_⟩
          rw [hyl]
          exact HY.out.1 _ H12.tail.tail.tail.tail.tail.tail.tail)) (by simp) hIN)
        clear hIN hyl
        go_wp2_with fail
        refine HSM.out.mono ?_
        rintro e w13 ⟨rfl, q13, rfl⟩
        have H13 := (H12.drewN q13).tail.tail.tail.tail.tail.tail.tail
        have E13 := E12'.drewN q13
        generalize w12.drewN q13 = w13 at *
        clear H12 E12'
        go_wp2_with fail
        refine (known4 H13).mono ?_
        rintro e w14 ⟨rfl, H14, E14⟩
        go_wp2_with fail
        go_ret
        exact ⟨rfl, H14, E13.trans E14⟩
end Go.Proofs.Ythbabdjicplooaa
