/- package wal: read. Conditions: sectors' bytes are bytes; fewer than 8193 sectors. -/
import Derived.Test.YthbabdjicplooaaWalB
namespace Go.Proofs.Ythbabdjicplooaa
open Go.RowKit

def readGo (D : Dsk) (L : LogV) (n : Nat) : Nat → Nat → List Int → Option (List Int)
  | 0, _, out => some (out.take n)
  | r + 1, p, out => if (D.rd (atL L + p)).getD 127 0 = 1 ∧ (D.rd (atL L + p)).take 20 = labelL L n p then readGo D L n r (p + 1) (out ++ ((D.rd (atL L + p)).drop 20).take 107) else none
def sizeAt (D : Dsk) (L : LogV) : Int := ofBE (((D.rd (atL L)).drop 12).take 4)
/-- The record that stands behind the others. -/
def readD (D : Dsk) (L : LogV) : Option (List Int) :=
  if L.count < 3 + L.next then none else if sizeAt D L < 1 ∨ (roomL L : Int) < sizeAt D L then none else readGo D L (sizeAt D L).toNat (partsN (sizeAt D L).toNat) 0 []
theorem Sat.ownR_cut {w : World} {F : List HP} {A : Option Addr} {m c n : Nat} {xs : List Int} (H : Sat w (own 5 1 (.slice A m c) m (bytes xs) :: F)) (hn : 0 < n) (hm : n ≤ m) : Sat w (ownR (.slice A n n) (xs.take n) :: F) :=
  H.imp fun S ⟨h0, h⟩ => by
    have hl : xs.length = m := by rw [bytes_len] at h0; omega
    rcases h with ⟨_, hb⟩ | ⟨g, cap, cur, hv, hS, hg, hc, hmx, hs, ht⟩
    · omega
    · injection hv with h2 _ h4
      subst h2; subst h4
      have hlt : (xs.take n).length = n := by rw [List.length_take]; omega
      refine ⟨g, n, cur, by rw [hlt], by omega, by simp only [maxLen] at hmx ⊢; omega, hS, hg, by omega, ?_⟩
      rw [hlt]
      have : (cur.toList.take (m * 1)).take n = (bytes xs).take n := by rw [ht]
      rw [List.take_take, Nat.mul_one, Nat.min_eq_left hm] at this
      rw [this, bytes, bytes, List.map_take]

set_option maxHeartbeats 8000000 in
set_option maxRecDepth 100000 in
theorem read_log {w : World} {p d : Nat} {L : LogV} {D : Dsk} {F : List HP} (H : Sat w (logc p d L :: disk d D :: F)) (hL : LogOk L) (hf : L.from_ + L.count ≤ D.safe.length) (h3 : D.safe.length ≤ 8192) (hb : DB D) :
    Calls Try.prog 87 #[.pointer (some ⟨p, 0, none⟩)] w fun e w' =>
      (readD D L = none ∧ e = .returned (.tuple #[.slice none 0 0, .bool false]) ∧ Sat w' (logc p d L :: disk d D :: F) ∧ Env w w') ∨
      (∃ b c, readD D L = some b ∧ 0 < b.length ∧ b.length ≤ roomL L ∧ e = .returned (.tuple #[.slice c b.length b.length, .bool true]) ∧ Sat w' (ownR (.slice c b.length b.length) b :: logc p d L :: disk d D :: F) ∧ Env w w') := by
  obtain ⟨R, hR⟩ : ∃ R, readD D L = R := ⟨_, rfl⟩
  rw [hR]
  have HR := Lib.hid hR
  have HL := Lib.hid hL
  have HB := Lib.hid hb
  have HF := Lib.hid hf
  have hc8 : L.count ≤ 8192 := by omega
  have hn8 := hL.next
  have HC8 := Lib.hid hc8
  clear hR hb hf
  go_enter Try.func87, Try.ntmps87
  go_wp2_with fail
  refine (left_any H hL).mono ?_
  rintro e w1 ⟨rfl, q1, rfl⟩
  have H1 := H.drewN q1
  have E1 := (Env.refl w).drewN q1
  generalize w.drewN q1 = w1 at *
  clear H hL
  by_cases hleft : L.count < 3 + L.next
  · have hlt : ((L.count : Int) - 2 - L.next) < 1 := by omega
    have HRR := Lib.hid (show R = none by have := HR.out; unfold readD at this; rw [if_pos hleft] at this; exact this.symm)
    clear HR
    go_wp2_with fail
    go_ret2
    exact .inl ⟨HRR.out, rfl, H1, E1⟩
  · have hlt : ¬ ((L.count : Int) - 2 - L.next) < 1 := by omega
    have hR := HR.out
    unfold readD at hR
    rw [if_neg hleft] at hR
    have HR2 := Lib.hid hR
    have H83 := Lib.hid h3
    clear HR hR h3
    have hat : atL L < D.safe.length := by have := HF.out; unfold atL; omega
    have HAT := Lib.hid hat
    obtain ⟨x0, -, -, -, -, -, -⟩ := H1.log_cells
    clear hleft hat
    go_upto_region 3 with fail
    go_region_held3 (fun w' => w'.cell? ⟨p, 0, none⟩ = some (.pointer (some ⟨d, 0, none⟩))) (first | exact x0 | exact H3.b2.log_cells.1) (first
      | (go_at_call 82; refine (at_any H1.drew HL.out).mono ?_; rintro e w2 ⟨rfl, q2, rfl⟩)
      | (go_at_call 26; refine (dread (atL L) (H1.drewN (1 + q2)).b1 HAT.out).mono ?_; rintro e w3 ⟨v3, rfl, H3, E3⟩; obtain ⟨g3, c3, rfl, hc3⟩ := H3.own_addr (by omega)))
    have E3' := (E1.drewN (1 + q2)).trans E3
    have hbs := HB.out.rd (atL L)
    have HBS := Lib.hid hbs
    have hrd : Rd w3 1 (some ⟨g3, 12, none⟩) 116 (bytes ((D.rd (atL L)).drop 12)) := by
      have := H3.own_at.1.drop (m := 12) (c := c3) (by omega) hc3
      rw [if_neg (by omega)] at this
      simpa [bytes, Addr.add_lit, List.map_drop] using this
    have HRD := Lib.hid hrd
    have h12 : (12 : Int) ≤ (c3 : Int) := by omega
    have h128 : (128 : Int) ≤ (c3 : Int) := by omega
    have hne : ¬ c3 = 12 := by omega
    clear H1 E1 E3 x0 hrd hbs
    go_wp2_with fail
    refine (rdnew (some ⟨g3, 12, none⟩) 116 (c3 - 12) H3 HRD.out (by omega)).mono ?_
    rintro e w4 ⟨r4, rfl, H4, E4⟩
    go_wp2_with fail
    refine (rnumber 4 H4 (by omega) (by rw [List.length_drop, HBS.out.2]; omega) (by rw [List.length_drop, HBS.out.2]; omega) (HBS.out.1.drop 12)).mono ?_
    rintro e w5 ⟨rfl, H5, E5⟩
    have hrg := ofBE_range ((HBS.out.1.drop 12).take 4)
    rw [List.length_take, List.length_drop, HBS.out.2] at hrg
    have hsz : sizeAt D L = ofBE (((D.rd (atL L)).drop 12).take 4) := rfl
    rw [← hsz] at hrg ⊢
    clear hsz
    have hn0 : 0 ≤ sizeAt D L ∧ sizeAt D L < 4294967296 := by have := hrg.2; simp at this; omega
    clear hrg
    obtain ⟨n, hn⟩ := Int.eq_ofNat_of_zero_le hn0.1
    rw [hn] at hn0 HR2 ⊢
    have hw1 : IntKind.i64.wrap (n : Int) = (n : Int) := IntWalk.i64_in _ (by omega)
    have H6 := H5.tail.b1
    have E6 := (E3'.trans E4).trans E5
    clear H3 H4 H5 E3' E4 E5 hn HRD HBS h12 h128 hne
    have hrm := HC8.out
    have hroomB : roomL L ≤ 876544 := by unfold roomL; omega
    by_cases hn1 : n < 1
    · have hlt1 : (n : Int) < 1 := by omega
      have HRR := Lib.hid (show R = none by have := HR2.out; rw [if_pos (Or.inl hlt1)] at this; exact this.symm)
      clear HR2
      go_wp2_with fail
      go_ret2
      exact .inl ⟨HRR.out, rfl, H6, E6⟩
    · have hlt1 : ¬ (n : Int) < 1 := by omega
      go_wp2_with fail
      refine (room_any H6 HL.out).mono ?_
      rintro e w7 ⟨rfl, q7, rfl⟩
      have H7 := H6.drewN q7
      have E7 := E6.drewN q7
      generalize w5.drewN q7 = w7 at *
      clear H6 E6
      by_cases hgt : roomL L < n
      · have hgt1 : (roomL L : Int) < (n : Int) := by omega
        have HRR := Lib.hid (show R = none by have := HR2.out; rw [if_pos (Or.inr hgt1)] at this; exact this.symm)
        clear HR2
        go_wp2_with fail
        go_ret2
        exact .inl ⟨HRR.out, rfl, H7, E7⟩
      · have hgt1 : ¬ (roomL L : Int) < (n : Int) := by omega
        have hR := HR2.out
        rw [if_neg (by omega), Int.toNat_natCast] at hR
        have HR3 := Lib.hid (show readGo D L n (partsN n - 0) 0 [] = R ∧ ([] : List Int).length = 0 * 107 from ⟨hR, rfl⟩)
        have HLP := Lib.hid (show atL L + partsN n ≤ D.safe.length ∧ n ≤ partsN n * 107 ∧ partsN n ≤ 8192 from by
          have h1 := HF.out
          have h2 : n ≤ (L.count - 2 - L.next) * 107 := by have : roomL L = (L.count - 2 - L.next) * 107 := rfl; omega
          have h3 : partsN n ≤ L.count - 2 - L.next := by unfold partsN; omega
          refine ⟨by unfold atL; omega, by unfold partsN; omega, by omega⟩)
        have HGT := Lib.hid (show n ≤ roomL L by omega)
        clear HR2 hR hrm hroomB
        go_wp2_with fail
        refine (parts_any n _ (by omega)).mono ?_
        rintro e w' ⟨rfl, rfl⟩
        clear hgt hgt1
        generalize hP : partsN n = P at *
        go_wp2_with fail
        go_loopw [8, 41] (fun s8 i wr => ∃ (k : Nat) (out : List Int) (A : Option Addr) (c : Nat), k ≤ P ∧ i = .int .i64 k ∧ s8 = .slice A out.length c ∧ Hid (readGo D L n (P - k) k out = R ∧ out.length = k * 107) ∧ Sat wr (own 5 1 (.slice A out.length c) out.length (bytes out) :: logc p d L :: disk d D :: F) ∧ Env w wr) (fun _ i _ => P - (intOf i).toNat)
        case atStart => exact ⟨0, [], none, 0, by omega, rfl, rfl, HR3.out, H7.own_nil _ 1, E7⟩
        case round =>
          clear H7 E7 HR3
          obtain ⟨k, out, A, c, hk, rfl, rfl, hG, H8, E8⟩ := hrel
          by_cases hkP : k < P
          · obtain ⟨rr, hrr⟩ : ∃ rr, P - k = rr + 1 := ⟨P - k - 1, by omega⟩
            have hrr2 : rr = P - (k + 1) := by omega
            have hR := hG.out.1
            rw [hrr] at hR
            unfold readGo at hR
            have HR4 := Lib.hid hR
            clear hR hrr
            obtain ⟨x0, -, -, -, -, -, -⟩ := H8.b1.log_cells
            have hw2 : IntKind.i64.wrap ((atL L : Int) + (k : Int)) = ((atL L + k : Nat) : Int) := by rw [IntWalk.i64_in _ (by have := H83.out; have := HLP.out.1; omega)]; omega
            have hatk : atL L + k < D.safe.length := by have := HLP.out.1; omega
            have HATK := Lib.hid hatk
            have hout : out.length < 1000000 := by rw [hG.out.2]; have := HLP.out.2.2; omega
            clear hatk
            go_upto_region 12 with fail
            go_region_held3 (fun w' => w'.cell? ⟨p, 0, none⟩ = some (.pointer (some ⟨d, 0, none⟩))) (first | exact x0 | exact H10.b3.log_cells.1) (first
              | (go_at_call 82; refine (at_any H8.drew.b1 HL.out).mono ?_; rintro e w9 ⟨rfl, q9, rfl⟩)
              | (go_at_call 26; refine (dread (atL L + k) (H8.drewN (1 + q9)).b2 HATK.out).mono ?_; rintro e w10 ⟨v10, rfl, H10, E10⟩; obtain ⟨g10, c10, rfl, hc10⟩ := H10.own_addr (by omega)))
            have E10' := (E8.drewN (1 + q9)).trans E10
            have hbs := HB.out.rd (atL L + k)
            have HBS := Lib.hid hbs
            generalize D.rd (atL L + k) = sb at H10 HR4 HBS hbs
            obtain ⟨y, hy0⟩ : ∃ y, sb.getD 127 0 = y := ⟨_, rfl⟩
            have y127 := H10.own_cell 127 (.int .u8 y) (by rw [bytes, List.getElem?_map, ← hy0, List.getD_eq_getElem?_getD, List.getElem?_eq_getElem (by rw [hbs.2]; omega)]; rfl)
            have HY0 := Lib.hid hy0
            clear H8 E8 E10 x0 hw2 hbs hy0
            by_cases hy : y = 1
            · subst hy
              have h128 : (128 : Int) ≤ (c10 : Int) := by omega
              have h20 : (20 : Int) ≤ (c10 : Int) := by omega
              go_upto_region 13 with fail
              go_region_held3 (fun w' => w'.cell? ⟨g10, 127, none⟩ = some (.int .u8 1)) (first | exact y127 | exact H11.b2.own_cell 127 _ (by have := HY0.out; have hl := HBS.out.2; rw [bytes, List.getElem?_map, ← this, List.getD_eq_getElem?_getD, List.getElem?_eq_getElem (by omega)]; rfl)) (first
                | (go_at_call 84; refine (label_any n k H10.drew.b3 HL.out (by omega) (by have := HLP.out.2.2; omega)).mono ?_; rintro e w11 ⟨v11, rfl, H11, E11⟩; obtain ⟨A11, c11, rfl, -, -, -⟩ := H11.own_form)
                | (go_at_call 101; refine (bequal (some ⟨g10, 0, none⟩) A11 20 20 c10 c11 (sb.take 20) (labelL L n k) _ (by have := H11.b2.own_at.1.take (m := 20) (by omega); rwa [Nat.mul_one, bytes, ← List.map_take] at this) H11.own_at.1 (by omega) (by omega) (HBS.out.1.take 20) (labelL_inb L n k)).mono ?_; rintro e w12 ⟨rfl, rfl⟩))
              have E11' := (E10'.drew).trans E11
              have hc10' := Lib.hid hc10
              clear H10 E10' E11 y127
              by_cases hlab : sb.take 20 = labelL L n k
              · have hd : decide (sb.take 20 = labelL L n k) = true := by simp [hlab]
                have HR5 := Lib.hid (show readGo D L n (P - (k + 1)) (k + 1) (out ++ (sb.drop 20).take 107) = R ∧ (out ++ (sb.drop 20).take 107).length = (k + 1) * 107 from ⟨by have := HR4.out; rw [if_pos ⟨HY0.out, hlab⟩] at this; rw [← hrr2]; exact this, by rw [List.length_append, List.length_take, List.length_drop, HBS.out.2, hG.out.2]; omega⟩)
                have h127 : (127 : Int) ≤ (c10 : Int) := by omega
                have hkb : P ≤ 8192 := HLP.out.2.2
                have hne : ¬ c10 = 20 := by omega
                have hr20 : Rd w11 1 (some ⟨g10, 20, none⟩) 107 (bytes ((sb.drop 20).take 107)) := by
                  have := (H11.b2.own_at.1.drop (m := 20) (c := c10) (by omega) hc10).take (m := 107) (by omega)
                  rw [if_neg (by omega)] at this
                  simpa [bytes, Addr.add_lit, List.map_drop, List.map_take] using this
                have HR20 := Lib.hid hr20
                rw [hd]
                clear hd hlab HR4 hr20
                go_wp2_with (at_builtin; go_must (refine wpList_append_sat rfl (.tmp 70) (.tmp 72) 30 rfl H11.tail.b3 rfl _ 1 Try.underlying30 Try.info_byte rfl (by omega) _ 107 (c10 - 20) (bytes ((sb.drop 20).take 107)) rfl (fun h => by cases h) HR20.out.1 HR20.out.src (bytes_one _) (by simp only [maxLen]; omega) (by omega) ?_); intro v12 w12 H12 E12; obtain ⟨A12, c12, rfl, -, -, -⟩ := H12.own_form)
                have H13 := H12.b2.tail
                have E13 := E11'.trans E12
                have HLN := Lib.hid (show (out ++ (sb.drop 20).take 107).length = out.length + 107 by rw [List.length_append, List.length_take, List.length_drop, HBS.out.2]; omega)
                rw [show bytes out ++ bytes ((sb.drop 20).take 107) = bytes (out ++ (sb.drop 20).take 107) by simp [bytes]] at H13
                clear H11 E11' H12 E12
                go_wp2_with fail
                go_roundw
                case rel => exact ⟨k + 1, out ++ (sb.drop 20).take 107, A12, c12, by omega, by go_num, by rw [HLN.out], HR5.out, by rw [HLN.out]; exact H13, E13⟩
                case measure => simp [intOf]; omega
              · have hd : decide (sb.take 20 = labelL L n k) = false := by simp [hlab]
                have HRR := Lib.hid (show R = none by have := HR4.out; rw [if_neg (fun h => hlab h.2)] at this; exact this.symm)
                rw [hd]
                clear hd hlab HR4
                go_wp2_with fail
                go_ret2
                exact .inl ⟨HRR.out, rfl, H11.tail.b3.tail.b1.tail, E11'⟩
            · have hyb : (y == 1) = false := by simp [hy]
              have HRR := Lib.hid (show R = none by have := HR4.out; rw [if_neg (fun h => hy (by rw [← HY0.out]; exact h.1))] at this; exact this.symm)
              clear HR4
              go_upto_region 13 with fail
              go_quiet (fail)
              have H11 := H10.drewN nq
              have E11 := E10'.drewN nq
              go_wp2_with fail
              go_ret2
              exact .inl ⟨HRR.out, rfl, H11.tail.b1.tail.b1, E11⟩
          · obtain rfl : k = P := by omega
            have HRR := Lib.hid (show R = some (out.take n) by have := hG.out.1; rw [Nat.sub_self] at this; unfold readGo at this; exact this.symm)
            have hnl : n ≤ out.length := by rw [hG.out.2]; exact HLP.out.2.1
            obtain ⟨gA, cA, hA, hcA⟩ := H8.own_addr (by omega)
            injection hA with hA1 hA2 hA3
            subst hA1; subst hA3
            have hnc : (n : Int) ≤ (c : Int) := by omega
            have hn00 : (0 : Int) ≤ (n : Int) := by omega
            have HNL := Lib.hid hnl
            clear hnl
            have HTL := Lib.hid (show (out.take n).length = n by have := HNL.out; rw [List.length_take]; omega)
            go_wp2_with fail
            go_ret2
            refine .inr ⟨out.take n, HRR.out, by rw [HTL.out]; omega, by rw [HTL.out]; exact HGT.out, some ⟨gA, 0, none⟩, ?_, ?_, E8⟩
            · rw [HTL.out]; rfl
            · rw [HTL.out]; exact H8.ownR_cut (by omega) HNL.out
end Go.Proofs.Ythbabdjicplooaa
