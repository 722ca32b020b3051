/- WalBare's walk. Conditions: none. -/
import Derived.Test.YthbabdjicplooaaWalKnown
import Derived.Test.YthbabdjicplooaaWithin
namespace Go.Proofs.Ythbabdjicplooaa
open Go.RowKit

theorem Sat.recL_form {w : World} {v : Value} {l : List (List Int)} {F : List HP} (H : Sat w (recL v l :: F)) : ∃ A c, v = .slice A l.length c := by
  obtain ⟨A, c, R, rfl, -, -, h, -⟩ := H.recL_rd
  exact ⟨A, c, by rw [← h, List.length_map]⟩
theorem epochAt_noughts : epochAt noughts = 0 := by
  unfold epochAt
  rw [if_neg (fun h => by have : ofBE (noughts.take 8) = 0 := by decide
                          omega)]
theorem openD_new (n fr ct : Nat) : openD (newD n) fr ct = none := by
  unfold openD epD heldD
  simp only [newD_rd, epochAt_noughts]
  split <;> simp

set_option maxHeartbeats 8000000 in
set_option maxRecDepth 100000 in
theorem walBare_any {w : World} {F : List HP} (A : Option Addr) (n c : Nat) (l : List Int) (x : Int) (H : Sat w F) (hr : Reads F 1 A n (bytes l)) (hb : InB l) :
    Calls Try.prog 10 #[.slice A n c, .int .i64 x] w fun e w' => e = .returned (.bool true) ∧ Sat w' F ∧ Env w w' := by
  have hlen : l.length = n := by have := (hr w H).1; simpa [bytes] using this
  have HR := Lib.hid hr
  have HL := Lib.hid (show l.length = n ∧ InB l from ⟨hlen, hb⟩)
  clear hr hlen hb
  go_enter Try.func10, Try.ntmps10
  go_wp2_with fail
  refine (dnew 12 H (by omega) (by omega)).mono ?_
  rintro e w2 ⟨d, rfl, H2, E2⟩
  go_wp2_with fail
  refine (open_log 0 12 H2 (by omega) (by rw [newD_len]; omega) (by rw [newD_len]; omega) (newD_db 12)).mono ?_
  rintro e w3 (⟨-, rfl, H3, E3⟩ | ⟨L', p', h1, -⟩)
  · have E3' := E2.trans E3
    have HD0 := Lib.hid (show (newD 12).left = none ∧ DB (newD 12) ∧ (newD 12).safe.length = 12 ∧ (newD 12).pend.length ≤ 0 from ⟨rfl, newD_db 12, newD_len 12, by show 0 ≤ 0; omega⟩)
    generalize newD 12 = D0 at *
    clear H H2 E2 E3
    go_wp2_with fail
    go_loopw [9] (fun i wr => ∃ (k : Nat) (D : Dsk), k ≤ n ∧ k ≤ 12 ∧ i = .int .i64 k ∧ Hid (D.left = none ∧ DB D ∧ D.safe.length = 12 ∧ D.pend.length ≤ k) ∧ Sat wr (disk d D :: F) ∧ Env w wr) (fun i _ => n - (intOf i).toNat)
    case atStart => exact ⟨0, D0, by omega, by omega, rfl, HD0, H3, E3'⟩
    case round =>
      clear H3 E3' HD0
      obtain ⟨k, D, hk, hk2, rfl, hD, H4, E4⟩ := hrel
      by_cases hlt : k < n ∧ k < 12
      · obtain ⟨hlt1, hlt2⟩ := hlt
        have hkl : k < l.length := by rw [HL.out.1]; exact hlt1
        obtain ⟨b, o, rfl, hc⟩ := (HR.out _ H4.tail).2 k (.int .u8 l[k]) (by simp [bytes, hkl])
        have hx := HL.out.2 _ (List.getElem_mem hkl)
        generalize l[k] = y at hc hx
        have HX := Lib.hid hx
        clear hkl hx
        go_wp2_with fail
        refine (record_any 128 y H4 HX.out (by omega)).mono ?_
        rintro e w5 ⟨v5, rfl, H5, E5⟩
        obtain ⟨A5, c5, rfl, -, -, -⟩ := H5.own_form
        have E5' := E4.trans E5
        clear H4 E4 E5
        go_wp2_with fail
        refine (dwrite k A5 c5 (recordL 128 y) H5.b1 (fun w h => h.own_at.1) (by rw [hD.out.2.2.1]; omega) (by rw [hD.out.1]; simp) (by have := hD.out.2.2.2; omega)).mono ?_
        rintro e w6 ⟨rfl, H6, E6⟩
        have H7 := H6.b1.tail
        have E7 := E5'.trans E6
        have HD2 := Lib.hid (show (D.write k (recordL 128 y)).left = none ∧ DB (D.write k (recordL 128 y)) ∧ (D.write k (recordL 128 y)).safe.length = 12 ∧ (D.write k (recordL 128 y)).pend.length ≤ k + 1 from ⟨by simp [Dsk.write, hD.out.1], hD.out.2.1.write k (recordL_inb _ _) (recordL_len _ _), hD.out.2.2.1, by have := hD.out.2.2.2; simp [Dsk.write]; omega⟩)
        clear H5 H6 E5' E6 hc
        go_wp2_with fail
        go_roundw
        case rel => exact ⟨k + 1, _, by omega, by omega, by go_num, HD2, H7, E7⟩
        case measure => simp [intOf]; omega
      · have HEND := Lib.hid (show ¬ k < n ∨ (k < n ∧ ¬ k < 12) by omega)
        have HFR := Lib.hid (format_fresh (D := D) 0 12 hD.out.1 hD.out.2.1 (by rw [hD.out.2.2.1]; omega) (by omega))
        have HFL := Lib.hid (fun (w9 : World) (H9 : Sat w9 (disk d D :: F)) => format_log 0 12 H9 (by omega) (by rw [hD.out.2.2.1]; omega) (by rw [hD.out.2.2.1]; omega) hD.out.2.1 (by have := hD.out.2.2.2; omega) hD.out.1)
        have HI := Lib.hid (HFR.out.inv (by rw [hD.out.2.2.1]; omega) (by rw [hD.out.2.2.1]; omega) (by omega))
        generalize formatD D 0 12 = D2 at *
        have hx50 := within_range x (lo := 0) (hi := 50) (by omega)
        obtain ⟨m, hm⟩ := Int.eq_ofNat_of_zero_le hx50.1
        rw [hm] at hx50
        have HM := Lib.hid hm
        have hm50 : m ≤ 50 := by omega
        have hwm : IntKind.i64.wrap (1 + (m : Int)) = ((1 + m : Nat) : Int) := by rw [IntWalk.i64_in _ (by omega)]; omega
        clear hx50 hm hlt
        rcases HEND.out with h5 | ⟨h5, h6⟩
        · go_wp2_with fail
          refine (HFL.out _ H4).mono ?_
          rintro e w5 ⟨rfl, H5, E5⟩
          go_wp2_with fail
          refine (open_inv HI.out H5).mono ?_
          rintro e w6 ⟨p, rfl, H6, E6⟩
          have E6' := (E4.trans E5).trans E6
          clear H4 H5 E4 E5 E6
          go_wp2_with fail
          refine (records_log H6 HI.out.ok (fun b hb => by cases hb)).mono ?_
          rintro e w7 ⟨v7, rfl, H7, E7⟩
          obtain ⟨A7, c7, rfl⟩ := H7.recL_form
          have E7' := E6'.trans E7
          go_wp2_with fail
          refine (within_any x 0 50 _ (by omega) (by omega) (by omega)).mono ?_
          rintro e w8 ⟨rfl, rfl⟩
          rw [HM.out]
          go_wp2_with fail
          refine (record_any (1 + m) 1 H7.tail (by omega) (by omega)).mono ?_
          rintro e w9 ⟨v9, rfl, H9, E9⟩
          obtain ⟨A9, c9, rfl, hc9, -, -⟩ := H9.own_form
          have E9' := E7'.trans E9
          clear H6 H7 E6' E7 E7' E9
          go_wp2_with fail
          refine (commit_fine A9 (1 + m) c9 (recordL (1 + m) 1) HI.out HFR.out.left H9.b2.b2 (fun w h => h.own_at.1) hc9 (by rw [recordL_len]; omega) (recordL_inb _ _) (by rw [recordL_len]; show 1 + m ≤ (12 - 2 - 0) * 107; omega)).mono ?_
          rintro e w10 ⟨rfl, D10, -, -, -, H10, E10⟩
          have H11 := H10.tail.tail.tail
          have E11 := E9'.trans E10
          clear H9 H10 E9' E10 hwm
          go_wp2_with fail
          refine (known4 H11).mono ?_
          rintro e w12 ⟨rfl, H12, E12⟩
          go_wp2_with fail
          go_ret
          exact ⟨rfl, H12, E11.trans E12⟩
        · go_wp2_with fail
          refine (HFL.out _ H4).mono ?_
          rintro e w5 ⟨rfl, H5, E5⟩
          go_wp2_with fail
          refine (open_inv HI.out H5).mono ?_
          rintro e w6 ⟨p, rfl, H6, E6⟩
          have E6' := (E4.trans E5).trans E6
          clear H4 H5 E4 E5 E6
          go_wp2_with fail
          refine (records_log H6 HI.out.ok (fun b hb => by cases hb)).mono ?_
          rintro e w7 ⟨v7, rfl, H7, E7⟩
          obtain ⟨A7, c7, rfl⟩ := H7.recL_form
          have E7' := E6'.trans E7
          go_wp2_with fail
          refine (within_any x 0 50 _ (by omega) (by omega) (by omega)).mono ?_
          rintro e w8 ⟨rfl, rfl⟩
          rw [HM.out]
          go_wp2_with fail
          refine (record_any (1 + m) 1 H7.tail (by omega) (by omega)).mono ?_
          rintro e w9 ⟨v9, rfl, H9, E9⟩
          obtain ⟨A9, c9, rfl, hc9, -, -⟩ := H9.own_form
          have E9' := E7'.trans E9
          clear H6 H7 E6' E7 E7' E9
          go_wp2_with fail
          refine (commit_fine A9 (1 + m) c9 (recordL (1 + m) 1) HI.out HFR.out.left H9.b2.b2 (fun w h => h.own_at.1) hc9 (by rw [recordL_len]; omega) (recordL_inb _ _) (by rw [recordL_len]; show 1 + m ≤ (12 - 2 - 0) * 107; omega)).mono ?_
          rintro e w10 ⟨rfl, D10, -, -, -, H10, E10⟩
          have H11 := H10.tail.tail.tail
          have E11 := E9'.trans E10
          clear H9 H10 E9' E10 hwm
          go_wp2_with fail
          refine (known4 H11).mono ?_
          rintro e w12 ⟨rfl, H12, E12⟩
          go_wp2_with fail
          go_ret
          exact ⟨rfl, H12, E11.trans E12⟩
  · rw [openD_new] at h1; cases h1
end Go.Proofs.Ythbabdjicplooaa
