/- package wal: Commit. Conditions: sectors' bytes are bytes; fewer than 8193 sectors, fewer than 2^31 pending writes. -/
import Derived.Test.YthbabdjicplooaaWalC
namespace Go.Proofs.Ythbabdjicplooaa
open Go.RowKit

/-- A part of a record, as a sector. -/
def partS (L : LogV) (b : List Int) (p : Nat) : List Int := (spl (spl noughts 0 (labelL L b.length p)) 20 ((b.drop (p * 107)).take 107)).set 127 1
def putsGo (D : Dsk) (L : LogV) (b : List Int) : Nat → Nat → Int × Dsk
  | 0, _ => (fcode D, fnext D)
  | r + 1, p => if D.left = some 0 then (13, D) else putsGo (D.write (atL L + p) (partS L b p)) L b r (p + 1)
def commitD (D : Dsk) (L : LogV) (b : List Int) : Int × Dsk :=
  if b.length = 0 then (1, D) else if roomL L < b.length then (26, D) else
  if (blankGo D (atL L) false (partsN b.length) 0).1 = 0 then putsGo (blankGo D (atL L) false (partsN b.length) 0).2 L b (partsN b.length) 0 else blankGo D (atL L) false (partsN b.length) 0
/-- What is there behind a call that answers r. -/
def okL (r : Int) (a b : LogV) : LogV := if r = 0 then a else b
def commitL (L : LogV) (b : List Int) : LogV := { L with next := L.next + partsN b.length, recs := L.recs ++ [b] }
theorem spl_label_len (L : LogV) (s p : Nat) : (spl noughts 0 (labelL L s p)).length = 128 := by rw [spl_len _ _ _ (by rw [labelL_len, noughts_len]; omega), noughts_len]
theorem partS_len (L : LogV) (b : List Int) (p : Nat) : (partS L b p).length = 128 := by
  unfold partS
  rw [List.length_set, spl_len _ _ _ (by rw [spl_label_len, List.length_take]; omega), spl_label_len]
theorem partS_inb (L : LogV) {b : List Int} (h : InB b) (p : Nat) : InB (partS L b p) :=
  (((noughts_inb.spl (labelL_inb L _ _) 0).spl ((h.drop _).take _) 20).set 127 (by omega))
theorem blank_keep (fr : Nat) : ∀ (r n : Nat) (D : Dsk) (b : Bool), DB D → DB (blankGo D fr b r n).2 ∧ (blankGo D fr b r n).2.safe.length = D.safe.length ∧ (blankGo D fr b r n).2.pend.length ≤ D.pend.length + r
  | 0, n, D, b, h => by
    unfold blankGo
    split
    · exact ⟨h.fnext, (fnext_len D).1, by have := (fnext_len D).2; simp only; omega⟩
    · exact ⟨h, rfl, by simp⟩
  | r + 1, n, D, b, h => by
    unfold blankGo
    split
    · have := blank_keep fr r (n + 1) D b h; exact ⟨this.1, this.2.1, by omega⟩
    · split
      · exact ⟨h, rfl, by simp⟩
      · have := blank_keep fr r (n + 1) (D.write (fr + n) noughts) true (h.write _ noughts_inb noughts_len)
        have h3 := this.2.2; rw [show (D.write (fr + n) noughts).pend.length = D.pend.length + 1 by simp [Dsk.write]] at h3; exact ⟨this.1, this.2.1, by omega⟩

set_option maxHeartbeats 16000000 in
set_option maxRecDepth 100000 in
theorem commit_log {w : World} {p d : Nat} {L : LogV} {D : Dsk} {F : List HP} (A : Option Addr) (n c : Nat) (b : List Int) (H : Sat w (logc p d L :: disk d D :: F)) (hr : Reads F 1 A n (bytes b)) (hnc : n ≤ c) (hn : n < 4294967296) (hbb : InB b)
    (hL : LogOk L) (hf : L.from_ + L.count ≤ D.safe.length) (h3 : D.safe.length ≤ 8192) (hb : DB D) (hp : D.pend.length < 1073741824) (hrc : L.recs.length < 8192) :
    Calls Try.prog 47 #[.pointer (some ⟨p, 0, none⟩), .slice A n c] w fun e w' => e = .returned (.int .i64 (commitD D L b).1) ∧ Sat w' (logc p d (okL (commitD D L b).1 (commitL L b) L) :: disk d (commitD D L b).2 :: F) ∧ Env w w' := by
  have hlen : b.length = n := by have := (hr w H.tail.tail).1; simpa [bytes] using this
  obtain ⟨R, hR⟩ : ∃ R, commitD D L b = R := ⟨_, rfl⟩
  rw [hR]
  unfold commitD at hR
  rw [hlen] at hR
  have HR := Lib.hid hR
  have HRD := Lib.hid hr
  have HLN := Lib.hid (show b.length = n ∧ InB b from ⟨hlen, hbb⟩)
  have HL := Lib.hid hL
  have HB := Lib.hid (show DB D ∧ L.from_ + L.count ≤ D.safe.length ∧ D.safe.length ≤ 8192 ∧ D.pend.length < 1073741824 from ⟨hb, hf, h3, hp⟩)
  clear hR hr hlen hbb hL hb hf h3 hp
  go_enter Try.func47, Try.ntmps47
  by_cases hn0 : n = 0
  · subst hn0
    have HRR := Lib.hid (show R = (1, D) by have := HR.out; rw [if_pos rfl] at this; exact this.symm)
    clear HR
    go_wp2_with fail
    go_ret
    rw [HRR.out]
    exact ⟨rfl, H, Env.refl w⟩
  · have hR := HR.out
    rw [if_neg hn0] at hR
    have HR2 := Lib.hid hR
    clear HR hR
    have hn0i : ¬ (n : Int) = 0 := by omega
    go_wp2_with fail
    refine (room_any H HL.out).mono ?_
    rintro e w1 ⟨rfl, q1, rfl⟩
    have H1 := H.drewN q1
    have E1 := (Env.refl w).drewN q1
    generalize w.drewN q1 = w1 at *
    clear H
    by_cases hgt : roomL L < n
    · have hgt1 : (roomL L : Int) < (n : Int) := by omega
      have HRR := Lib.hid (show R = (26, D) by have := HR2.out; rw [if_pos hgt] at this; exact this.symm)
      clear HR2
      go_wp2_with fail
      go_ret
      rw [HRR.out]
      exact ⟨rfl, H1, E1⟩
    · have hgt1 : ¬ (roomL L : Int) < (n : Int) := by omega
      have hR := HR2.out
      rw [if_neg hgt] at hR
      have HR3 := Lib.hid hR
      clear HR2 hR
      have HPN := Lib.hid (show L.next + 2 + partsN n ≤ L.count ∧ n ≤ partsN n * 107 ∧ 0 < partsN n ∧ partsN n * 107 < n + 107 ∧ n < 1000000 from by
        have h2 : roomL L = (L.count - 2 - L.next) * 107 := rfl
        have h3 := HL.out.far
        have : n ≤ (L.count - 2 - L.next) * 107 := by omega
        unfold partsN; omega)
      clear hgt
      go_wp2_with fail
      refine (parts_any n _ (by omega)).mono ?_
      rintro e w' ⟨rfl, rfl⟩
      generalize hPP : partsN n = P at *
      have HPP := Lib.hid hPP
      clear hPP
      have hP : P ≤ 8192 := by have := HPN.out.1; have := HL.out.far; omega
      clear hgt1
      obtain ⟨x0, -, -, -, -, -, -⟩ := H1.drew.log_cells
      have HK := Lib.hid (blank_keep (atL L) P 0 D false HB.out.1)
      go_upto_region 6 with fail
      go_region_held3 (fun w' => w'.cell? ⟨p, 0, none⟩ = some (.pointer (some ⟨d, 0, none⟩))) (first | exact x0 | exact H4.b1.log_cells.1) (first
        | (go_at_call 82; refine (at_any H1.drew HL.out).mono ?_; rintro e w2 ⟨rfl, q2, rfl⟩)
        | (go_at_call 81; refine (blank_any (atL L) P (H1.drewN (1 + q2)).b1 (by have := HPN.out.1; have := HB.out.2.1; unfold atL; omega) HB.out.2.2.1 HB.out.1 (by have := HB.out.2.2.2; omega)).mono ?_; rintro e w4 ⟨rfl, H4, E4⟩))
      have E4' := (E1.drewN (1 + q2)).trans E4
      have H5 := H4.b1
      obtain ⟨⟨a1, D1⟩, hBG⟩ : ∃ R, blankGo D (atL L) false P 0 = R := ⟨_, rfl⟩
      rw [hBG] at H5 HR3 HK
      rw [hBG]
      clear H1 H4 E1 E4 hBG x0
      dsimp only at H5 ⊢
      by_cases ha1 : a1 = 0
      · subst ha1
        have HR4 := Lib.hid (show putsGo D1 L b P 0 = R by have := HR3.out; rw [if_pos rfl] at this; exact this)
        clear HR3
        have HD0 := Lib.hid (show putsGo D1 L b (P - 0) 0 = R ∧ D1.safe.length = D.safe.length ∧ DB D1 ∧ D1.pend.length ≤ D.pend.length + P + 0 from ⟨HR4.out, HK.out.2.1, HK.out.1, by have := HK.out.2.2; simp only at this; omega⟩)
        clear HR4 HK
        obtain ⟨gb, ob, hAb, -⟩ := (HRD.out _ H5.tail.tail).get (by intro h0; have := congrArg List.length h0; rw [bytes_len, HLN.out.1] at this; simp at this; omega)
        subst hAb
        go_wp2_with fail
        go_loopw [36] (fun i wr => ∃ (k : Nat) (D' : Dsk), k ≤ P ∧ i = .int .i64 k ∧ Hid (putsGo D' L b (P - k) k = R ∧ D'.safe.length = D.safe.length ∧ DB D' ∧ D'.pend.length ≤ D.pend.length + P + k) ∧ Sat wr (logc p d L :: disk d D' :: F) ∧ Env w wr) (fun i _ => P - (intOf i).toNat)
        case atStart => exact ⟨0, D1, by omega, rfl, HD0, H5, E4'⟩
        case round =>
          clear H5 E4' HD0
          obtain ⟨k, D', hk, rfl, hD, H2, E2⟩ := hrel
          by_cases hlt : k < P
          · obtain ⟨r, hr⟩ : ∃ r, P - k = r + 1 := ⟨P - k - 1, by omega⟩
            have hr2 : r = P - (k + 1) := by omega
            have hR := hD.out.1
            rw [hr] at hR
            unfold putsGo at hR
            have HR := Lib.hid hR
            clear hR hr
            go_wp2_with fail
            refine (nothing_any H2).mono ?_
            rintro e w3 ⟨g, rfl, H3, E3⟩
            go_wp2_with fail
            refine (label_any n k H3.b1 HL.out (by omega) (by omega)).mono ?_
            rintro e w4 ⟨v4, rfl, H4, E4⟩
            obtain ⟨A4, c4, rfl, -, -, -⟩ := H4.own_form
            have HLB := Lib.hid (labelL_len L n k)
            go_upto_region 14 with (show wpList _ _ _ ({ dst := some 46, op := Op.call { callee := Callee.builtin Builtin.copy, args := _, argTypes := _ }, type := _, pos := _, after := _, guard := _ } :: _) _ _; go_must (refine wpList_copy_sat rfl (.tmp 40) (.tmp 45) 30 30 rfl 5 1 Try.underlying30 (by kernel_rfl) H4.b2 _ _ _ _ _ _ rfl rfl 0 20 (bytes (labelL L n k)) rfl (fun _ => rfl) H4.own_at.1 (by rw [bytes_len, bytes_len, HLB.out, noughts_len]; omega) (bytes_one _) ?_); intro w5 H5 E5)
            rw [splice_bytes] at H5
            have H6 := H5.b1.tail
            have E6 := ((E2.trans E3).trans E4).trans E5
            obtain ⟨kk, hkk⟩ : ∃ kk, k * 107 = kk := ⟨_, rfl⟩
            have hkn : kk < n := by have := HPN.out.2.2.2.1; omega
            have hwk : IntKind.i64.wrap ((k : Int) * 107) = (kk : Int) := by rw [IntWalk.i64_in _ (by omega)]; omega
            have hkn1 : (kk : Int) ≤ (n : Int) := by omega
            have hkc1 : (kk : Int) ≤ (c : Int) := by omega
            have hne : ¬ c = kk := by omega
            have hrs : Rd w5 1 (some ⟨gb, ob + kk, none⟩) (Nat.min (n - kk) 107) (bytes ((b.drop kk).take 107)) := by
              have h0 := HRD.out _ H6.tail.tail.tail
              have h1 := (h0.drop (m := kk) (c := c) (by omega) hnc).take (m := Nat.min (n - kk) 107) (Nat.min_le_left _ _)
              rw [if_neg hne] at h1
              have h2 : (List.drop (kk * 1) (bytes b)).take (Nat.min (n - kk) 107 * 1) = bytes ((b.drop kk).take 107) := by
                rw [Nat.mul_one, Nat.mul_one, bytes, bytes, ← List.map_drop, ← List.map_take]
                congr 1
                have : (b.drop kk).length = n - kk := by rw [List.length_drop, HLN.out.1]
                rcases Nat.le_total (n - kk) 107 with h | h
                · rw [show Nat.min (n - kk) 107 = n - kk from Nat.min_eq_left h, List.take_of_length_le (by omega), List.take_of_length_le (by omega)]
                · rw [show Nat.min (n - kk) 107 = 107 from Nat.min_eq_right h]
              rw [h2, Nat.mul_one] at h1
              have ha : (some (⟨gb, ob, none⟩ : Addr)).map (·.add kk) = some ⟨gb, ob + kk, none⟩ := by cases kk <;> rfl
              rw [ha] at h1
              exact h1
            have HRS := Lib.hid hrs
            have HCL := Lib.hid (show ((b.drop kk).take 107).length = Nat.min (n - kk) 107 by rw [List.length_take, List.length_drop, HLN.out.1]; exact Nat.min_comm _ _)
            have HSL := Lib.hid (spl_label_len L n k)
            clear H2 H3 H4 H5 E2 E3 E4 E5 hrs
            simp only [Act.put, List.setIfInBounds_toArray, List.set_cons_zero, List.set_cons_succ]
            refine wp_region_held_drew (S := fun _ => True) (by kernel_rfl) trivial (fun hHeld => ?_)
            refine' wpAnyH_take (i := 0) (oi := _) (v := _) rfl (by kernel_rfl) (by kernel_rfl) (by kernel_rfl) (fun _ _ _ h => h) (Or.inl ⟨by rfl, ?hy0⟩) hHeld ?rest0
            case hy0 => (intro w' hSw; (try dsimp only at hSw); (try rw [hwk]); go_simp; try with_reducible rfl)
            simp only [List.getElem_toArray, List.getElem_cons_zero, List.getElem_cons_succ, Act.put, List.setIfInBounds_toArray, List.set_cons_zero, List.set_cons_succ]
            refine' wpAnyH_take (i := 1) (oi := _) (v := _) rfl (by kernel_rfl) (by kernel_rfl) (by kernel_rfl) (fun _ _ _ h => h) (Or.inl ⟨by rfl, ?hy1⟩) hHeld ?rest1
            case hy1 => (intro w' hSw; (try dsimp only at hSw); (try rw [hwk]); go_simp; try with_reducible rfl)
            simp only [List.getElem_toArray, List.getElem_cons_zero, List.getElem_cons_succ, Act.put, List.setIfInBounds_toArray, List.set_cons_zero, List.set_cons_succ]
            refine' wpAnyH_take (i := 2) (oi := _) (v := _) rfl (by kernel_rfl) (by kernel_rfl) (by kernel_rfl) (fun _ _ _ h => h) (Or.inl ⟨by rfl, ?hy2⟩) hHeld ?rest2
            case hy2 => (intro w' hSw; (try dsimp only at hSw); (try rw [hwk]); go_simp; try with_reducible rfl)
            simp only [List.getElem_toArray, List.getElem_cons_zero, List.getElem_cons_succ, Act.put, List.setIfInBounds_toArray, List.set_cons_zero, List.set_cons_succ]
            refine' wpAnyH_take (i := 3) (oi := _) (v := _) rfl (by kernel_rfl) (by kernel_rfl) (by kernel_rfl) (fun _ _ _ h => h) (Or.inl ⟨by rfl, ?hy3⟩) hHeld ?rest3
            case hy3 => (intro w' hSw; (try dsimp only at hSw); (try rw [hwk]); go_simp; try with_reducible rfl)
            simp only [List.getElem_toArray, List.getElem_cons_zero, List.getElem_cons_succ, Act.put, List.setIfInBounds_toArray, List.set_cons_zero, List.set_cons_succ]
            refine' wpAnyH_take (i := 4) (oi := _) (v := _) rfl (by kernel_rfl) (by kernel_rfl) (by kernel_rfl) (fun _ _ _ h => h) (Or.inl ⟨by rfl, ?hy4⟩) hHeld ?rest4
            case hy4 => (intro w' hSw; (try dsimp only at hSw); (try rw [hwk]); go_simp; try with_reducible rfl)
            simp only [List.getElem_toArray, List.getElem_cons_zero, List.getElem_cons_succ, Act.put, List.setIfInBounds_toArray, List.set_cons_zero, List.set_cons_succ]
            refine' wpAnyH_take (i := 5) (oi := _) (v := _) rfl (by kernel_rfl) (by kernel_rfl) (by kernel_rfl) (fun _ _ _ h => h) (Or.inl ⟨by rfl, ?hy5⟩) hHeld ?rest5
            case hy5 => (intro w' hSw; (try dsimp only at hSw); (try rw [hwk]); go_simp; try with_reducible rfl)
            simp only [List.getElem_toArray, List.getElem_cons_zero, List.getElem_cons_succ, Act.put, List.setIfInBounds_toArray, List.set_cons_zero, List.set_cons_succ]
            refine wpAnyH_ready (rs := [6]) (by kernel_rfl) (by simp) ?_
            refine AllReadyH.cons (o := _) rfl (fun K hK => ?_) AllReadyH.nil
            refine step_copy_sat rfl (.tmp 48) (.tmp 52) 30 30 rfl 5 1 Try.underlying30 (by kernel_rfl) H6.drew _ _ _ _ _ _ rfl rfl 20 (Nat.min (n - kk) 107) (bytes ((b.drop kk).take 107)) rfl (fun _ => rfl) HRS.out (by rw [bytes_len, bytes_len, HCL.out, HSL.out]; have : Nat.min (n - kk) 107 ≤ 107 := Nat.min_le_right _ _; omega) (bytes_one _) ?_
            intro w7 H7 E7
            refine hK.out _ _ trivial (fun hHeld2 => ?_)
            clear hK K
            try simp only [List.getElem_toArray, List.getElem_cons_zero, List.getElem_cons_succ, Act.put, List.setIfInBounds_toArray, List.set_cons_zero, List.set_cons_succ]
            refine wpAnyH_done (by kernel_rfl) ?_ _
            rw [splice_bytes] at H7
            have HH := Lib.hid (show partS L b k = (spl (spl noughts 0 (labelL L n k)) 20 ((b.drop kk).take 107)).set 127 1 by unfold partS; rw [HLN.out.1, hkk])
            have hl9 : (spl (spl noughts 0 (labelL L n k)) 20 ((b.drop kk).take 107)).length = 128 := by rw [spl_len _ _ _ (by rw [HCL.out, HSL.out]; have : Nat.min (n - kk) 107 ≤ 107 := Nat.min_le_right _ _; omega), HSL.out]
            generalize spl (spl noughts 0 (labelL L n k)) 20 ((b.drop kk).take 107) = ys at *
            have c1 := H7.own_cell 127 (.int .u8 (ys.getD 127 0)) (by rw [bytes, List.getElem?_map, List.getD_eq_getElem?_getD, List.getElem?_eq_getElem (by omega)]; rfl)
            have f1 := H7.own_free (by omega) 127
            generalize ys.getD 127 0 = y0 at c1
            have H8 := H7.own_set (i := 127) (by omega) (.int .u8 1)
            rw [show (bytes ys).set 127 (.int .u8 1) = bytes (partS L b k) by rw [HH.out, bytes, bytes, List.map_set]] at H8
            have E8 := (E6.drew.trans E7).set ⟨g, 127, none⟩ (.int .u8 1)
            have HPS := Lib.hid (show (partS L b k).length = 128 ∧ InB (partS L b k) from ⟨partS_len L b k, partS_inb L HLN.out.2 k⟩)
            clear H6 H7 E6 E7 hHeld hHeld2 HRS HCL HSL HLB hwk hkn1 hkc1 hne hl9 HH hkk hkn
            go_upto_region 16 with fail
            generalize w7.setCell ⟨g, 127, none⟩ (.int .u8 1) = w8 at *
            clear c1 f1
            generalize partS L b k = ps at *
            have hatk : atL L + k < D'.safe.length := by have := HPN.out.1; have := HB.out.2.1; rw [hD.out.2.1]; unfold atL; omega
            have HATK := Lib.hid hatk
            have hwa : IntKind.i64.wrap ((atL L : Int) + (k : Int)) = ((atL L + k : Nat) : Int) := by rw [IntWalk.i64_in _ (by have := hD.out.2.1; have := HB.out.2.2.1; omega)]; omega
            have x0 : w8.drew.cell? ⟨p, 0, none⟩ = some (.pointer (some ⟨d, 0, none⟩)) := H8.b1.log_cells.1
            clear hatk
            by_cases hl : D'.left = some 0
            · have HRR := Lib.hid (show R = (13, D') by have := HR.out; rw [if_pos hl] at this; exact this.symm)
              clear HR
              go_region_held3 (fun w' => w'.cell? ⟨p, 0, none⟩ = some (.pointer (some ⟨d, 0, none⟩))) (first | exact x0) (first
                | (go_at_call 82; refine (at_any H8.b1.drew HL.out).mono ?_; rintro e w2 ⟨rfl, q2, rfl⟩)
                | (go_at_call 22; refine (dwrite_stop (atL L + k) (some ⟨g, 0, none⟩) 128 (H8.drewN (1 + q2)).b2 HATK.out hl).mono ?_; rintro e w9 ⟨rfl, rfl⟩))
              go_wp2_with fail
              go_ret
              rw [HRR.out]
              exact ⟨rfl, (H8.drewN (1 + q2)).tail, E8.drewN (1 + q2)⟩
            · have hR := HR.out
              rw [if_neg hl, hr2] at hR
              have HD2 := Lib.hid (show putsGo (D'.write (atL L + k) ps) L b (P - (k + 1)) (k + 1) = R ∧ (D'.write (atL L + k) ps).safe.length = D.safe.length ∧ DB (D'.write (atL L + k) ps) ∧ (D'.write (atL L + k) ps).pend.length ≤ D.pend.length + P + (k + 1) from ⟨hR, hD.out.2.1, hD.out.2.2.1.write _ HPS.out.2 HPS.out.1, by have := hD.out.2.2.2; simp [Dsk.write]; omega⟩)
              clear HR hR
              go_region_held3 (fun w' => w'.cell? ⟨p, 0, none⟩ = some (.pointer (some ⟨d, 0, none⟩))) (first | exact x0 | exact H9.b2.log_cells.1) (first
                | (go_at_call 82; refine (at_any H8.b1.drew HL.out).mono ?_; rintro e w2 ⟨rfl, q2, rfl⟩)
                | (go_at_call 22; refine (dwrite (atL L + k) (some ⟨g, 0, none⟩) 128 ps (H8.drewN (1 + q2)).b2 (fun w h => h.own_at.1) HATK.out hl (by have := hD.out.2.2.2; have := HB.out.2.2.2; omega)).mono ?_; rintro e w9 ⟨rfl, H9, E9⟩))
              have H10 := H9.b1.tail.b1
              have E10 := (E8.drewN (1 + q2)).trans E9
              clear H8 H9 E8 E9 x0 hwa
              go_wp2_with fail
              go_roundw
              case rel => exact ⟨k + 1, _, by omega, by go_num, HD2, H10, E10⟩
              case measure => simp [intOf]; omega
          · obtain rfl : k = P := by omega
            have hR := hD.out.1
            rw [Nat.sub_self] at hR
            unfold putsGo at hR
            have HR := Lib.hid hR
            clear hR
            obtain ⟨x0, -, -, -, -, -, -⟩ := H2.log_cells
            by_cases hl : D'.left = some 0
            · have HRR := Lib.hid (show R = (13, fnext D') by have := HR.out; unfold fcode at this; rw [if_pos hl] at this; exact this.symm)
              have hfc : fcode D' = 13 := by unfold fcode; rw [if_pos hl]
              clear HR hl
              go_wp2_with fail
              refine (dflush_all H2.b1 (by have := hD.out.2.2.2; have := HB.out.2.2.2; omega)).mono ?_
              rintro e w3 ⟨rfl, H3, E3⟩
              rw [hfc]
              clear hfc x0
              go_wp2_with fail
              go_ret
              rw [HRR.out]
              exact ⟨rfl, H3.b1, E2.trans E3⟩
            · have HRR := Lib.hid (show R = (0, fnext D') by have := HR.out; unfold fcode at this; rw [if_neg hl] at this; exact this.symm)
              have hfc : fcode D' = 0 := by unfold fcode; rw [if_neg hl]
              clear HR hl
              go_wp2_with fail
              refine (dflush_all H2.b1 (by have := hD.out.2.2.2; have := HB.out.2.2.2; omega)).mono ?_
              rintro e w3 ⟨rfl, H3, E3⟩
              rw [hfc]
              obtain ⟨v, RR, hRR, H4⟩ := H3.b1.log_open
              obtain ⟨m, hm⟩ : ∃ m, RR.length = m := ⟨_, rfl⟩
              have hml : m ≤ 8192 := by have := HL.out.recs; rw [← hRR.out, List.length_map, hm] at this; exact this
              have HM := Lib.hid hm
              rw [hm] at H4
              obtain ⟨A4, c4, rfl, -, -, -⟩ := H4.b1.own_form
              have E4 := E2.trans E3
              obtain ⟨nx, hnx⟩ : ∃ nx, L.next = nx := ⟨_, rfl⟩
              have HNX := Lib.hid hnx
              rw [hnx] at H4
              have z6 : w3.drew.cell? ⟨p, 6, none⟩ = some (.slice A4 m c4) := H4.drew.cell 6
              have hwn : IntKind.i64.wrap ((nx : Int) + (k : Int)) = ((nx + k : Nat) : Int) := by have := HPN.out.1; have := HL.out.far; rw [IntWalk.i64_in _ (by omega)]; omega
              clear hfc x0 H2 H3 E2 E3 hm hnx
              go_upto_region 23 with fail
              refine region_aside2 (fun w' => w'.cell? ⟨p, 6, none⟩ = some (.slice A4 m c4)) 11 _ (by kernel_rfl) rfl rfl rfl (by kernel_rfl) (by kernel_rfl) z6 (fun hHeld => ?_)
              simp only [setAside, List.setIfInBounds_toArray, List.set_cons_zero, List.set_cons_succ]
              refine' wpAnyH_take (i := 0) (oi := _) (v := _) rfl (by kernel_rfl) (by kernel_rfl) (by kernel_rfl) (fun _ _ _ h => h) (Or.inl ⟨by rfl, ?hyb0⟩) hHeld ?restb0
              case hyb0 => (intro w' hSw; (try dsimp only at hSw); go_simp; try with_reducible rfl)
              simp only [List.getElem_toArray, List.getElem_cons_zero, List.getElem_cons_succ, Act.put, List.setIfInBounds_toArray, List.set_cons_zero, List.set_cons_succ]
              refine' wpAnyH_take (i := 1) (oi := _) (v := _) rfl (by kernel_rfl) (by kernel_rfl) (by kernel_rfl) (fun _ _ _ h => h) (Or.inl ⟨by rfl, ?hyb1⟩) hHeld ?restb1
              case hyb1 => (intro w' hSw; (try dsimp only at hSw); go_simp; try with_reducible rfl)
              simp only [List.getElem_toArray, List.getElem_cons_zero, List.getElem_cons_succ, Act.put, List.setIfInBounds_toArray, List.set_cons_zero, List.set_cons_succ]
              refine' wpAnyH_take (i := 2) (oi := _) (v := _) rfl (by kernel_rfl) (by kernel_rfl) (by kernel_rfl) (fun _ _ _ h => h) (Or.inl ⟨by rfl, ?hyb2⟩) hHeld ?restb2
              case hyb2 => (intro w' hSw; (try dsimp only at hSw); go_simp; try with_reducible rfl)
              simp only [List.getElem_toArray, List.getElem_cons_zero, List.getElem_cons_succ, Act.put, List.setIfInBounds_toArray, List.set_cons_zero, List.set_cons_succ]
              refine' wpAnyH_take (i := 3) (oi := _) (v := _) rfl (by kernel_rfl) (by kernel_rfl) (by kernel_rfl) (fun _ _ _ h => h) (Or.inl ⟨by rfl, ?hyb3⟩) hHeld ?restb3
              case hyb3 => (intro w' hSw; (try dsimp only at hSw); go_simp; try with_reducible rfl)
              simp only [List.getElem_toArray, List.getElem_cons_zero, List.getElem_cons_succ, Act.put, List.setIfInBounds_toArray, List.set_cons_zero, List.set_cons_succ]
              refine' wpAnyH_take (i := 4) (oi := _) (v := _) rfl (by kernel_rfl) (by kernel_rfl) (by kernel_rfl) (fun _ _ _ h => h) (Or.inl ⟨by rfl, ?hyb4⟩) hHeld ?restb4
              case hyb4 => (intro w' hSw; (try dsimp only at hSw); go_simp; try with_reducible rfl)
              simp only [List.getElem_toArray, List.getElem_cons_zero, List.getElem_cons_succ, Act.put, List.setIfInBounds_toArray, List.set_cons_zero, List.set_cons_succ]
              refine' wpAnyH_take (i := 5) (oi := _) (v := _) rfl (by kernel_rfl) (by kernel_rfl) (by kernel_rfl) (fun _ _ _ h => h) (Or.inl ⟨by rfl, ?hyb5⟩) hHeld ?restb5
              case hyb5 => (intro w' hSw; (try dsimp only at hSw); go_simp; try with_reducible rfl)
              simp only [List.getElem_toArray, List.getElem_cons_zero, List.getElem_cons_succ, Act.put, List.setIfInBounds_toArray, List.set_cons_zero, List.set_cons_succ]
              refine wpAnyH_ready (rs := [6]) (by kernel_rfl) (by simp) ?_
              refine AllReadyH.cons (o := _) rfl (fun K hK => ?_) AllReadyH.nil
              rw [if_pos (by rfl)]
              go_simp
              go_at_call 68
              refine (clone_byte (some ⟨gb, ob, none⟩) n c (bytes b) H4.drew (HRD.out _ H4.drew.tail.tail.tail.tail) (bytes_one _) (by omega)).mono ?_
              rintro e w5 ⟨v5, rfl, H5, E5⟩
              obtain ⟨A5, c5, rfl, -, -, -⟩ := H5.own_form
              refine hK.out _ _ (H5.b1.cell 6) (fun hHeld2 => ?_)
              clear hK K
              try simp only [List.getElem_toArray, List.getElem_cons_zero, List.getElem_cons_succ, Act.put, List.setIfInBounds_toArray, List.set_cons_zero, List.set_cons_succ]
              refine wpAnyH_ready (rs := [7]) (by kernel_rfl) (by simp) ?_
              refine AllReadyH.cons (o := _) rfl (fun K hK => ?_) AllReadyH.nil
              rw [if_pos (by rfl)]
              go_simp
              have H6 := H5.b2.alloc' (.cells #[.slice A5 n c5] 30)
              refine hK.out _ _ (H6.b2.cell 6) (fun hHeld3 => ?_)
              clear hK K
              try simp only [List.getElem_toArray, List.getElem_cons_zero, List.getElem_cons_succ, Act.put, List.setIfInBounds_toArray, List.set_cons_zero, List.set_cons_succ]
              refine wpAnyH_ready (rs := [8]) (by kernel_rfl) (by simp) ?_
              refine AllReadyH.cons (o := _) rfl (fun K hK => ?_) AllReadyH.nil
              refine step_append_sat rfl (.tmp 82) (.tmp 85) 39 rfl H6 rfl _ 24 Try.underlying39 Try.info_bytes rfl (by omega) _ _ _ [.slice A5 n c5] rfl (fun h => by cases h) rfl (lit_src _ _ _ _ rfl) (by simp [Value.oneCell']) (by simp only [maxLen]; omega) (by omega) ?_
              intro v7 w7 H7 E7
              obtain ⟨A7, c7, rfl, -, -, -⟩ := H7.own_form
              refine hK.out _ _ (H7.b2.cell 6) (fun hHeld4 => ?_)
              clear hK K
              try simp only [List.getElem_toArray, List.getElem_cons_zero, List.getElem_cons_succ, Act.put, List.setIfInBounds_toArray, List.set_cons_zero, List.set_cons_succ]
              refine' wpAnyH_take (i := 9) (oi := _) (v := _) rfl (by kernel_rfl) (by kernel_rfl) (by kernel_rfl) (fun _ _ _ h => h) (Or.inl ⟨by rfl, ?hyb9⟩) hHeld4 ?restb9
              case hyb9 => (intro w' hSw; (try dsimp only at hSw); go_simp; try with_reducible rfl)
              simp only [List.getElem_toArray, List.getElem_cons_zero, List.getElem_cons_succ, Act.put, List.setIfInBounds_toArray, List.set_cons_zero, List.set_cons_succ]
              refine' wpAnyH_take (i := 10) (oi := _) (v := _) rfl (by kernel_rfl) (by kernel_rfl) (by kernel_rfl) (fun _ _ _ h => h) (Or.inl ⟨by rfl, ?hyb10⟩) hHeld4 ?restb10
              case hyb10 => (intro w' hSw; (try dsimp only at hSw); go_simp; try with_reducible rfl)
              simp only [List.getElem_toArray, List.getElem_cons_zero, List.getElem_cons_succ, Act.put, List.setIfInBounds_toArray, List.set_cons_zero, List.set_cons_succ]
              refine' wpAnyH_take (i := 11) (oi := _) (v := _) rfl (by kernel_rfl) (by kernel_rfl) (by kernel_rfl) (fun _ _ _ h => h) (Or.inl ⟨by rfl, ?hyb11⟩) hHeld4 ?restb11
              case hyb11 => (intro w' hSw; (try dsimp only at hSw); go_simp; try with_reducible rfl)
              try simp only [List.getElem_toArray, List.getElem_cons_zero, List.getElem_cons_succ, Act.put, List.setIfInBounds_toArray, List.set_cons_zero, List.set_cons_succ]
              refine wpAnyH_done (by kernel_rfl) ?_ _
              show Oper.wp _ _ _ _ _ _
              have q6 := H7.b2.cell 6
              have g6 := H7.b2.free 6
              have H8 := H7.b2.set (i := 6) (.slice A7 (m + 1) c7)
              have E8 := (((E4.drew.trans E5).alloc (.cells #[.slice A5 n c5] 30)).trans E7).set ⟨p, 6, none⟩ (.slice A7 (m + 1) c7)
              go_simp
              generalize w7.setCell ⟨p, 6, none⟩ (.slice A7 (m + 1) c7) = w8 at *
              have q5 := H8.cell 5
              have g5 := H8.free 5
              have H9 := H8.set (i := 5) (.int .i64 ((nx : Int) + (k : Int)))
              have E9 := E8.set ⟨p, 5, none⟩ (.int .i64 ((nx : Int) + (k : Int)))
              clear H4 H5 H6 H7 H8 E4 E5 E7 E8 hHeld hHeld2 hHeld3 hHeld4 q6 g6 z6
              go_wp2_with fail
              go_ret
              rw [HRR.out]
              refine ⟨rfl, ?_, E9⟩
              generalize w8.setCell ⟨p, 5, none⟩ (.int .i64 ((nx : Int) + (k : Int))) = w9 at *
              have H10 := ((H9.b2.ownR_of (by omega)).b3.b1.recB_snoc).b2.b2
              refine Sat.log_shut _ (.slice A7 (m + 1) c7) (RR ++ [((Value.slice A5 n c5, b) : Value × List Int)]) (by rw [List.map_append, hRR.out]; rfl) ?_
              rw [List.length_append, HM.out, List.map_append]
              show Sat w9 (row p 135 #[.pointer (some ⟨d, 0, none⟩), .int .i64 L.from_, .int .i64 L.count, .int .u64 L.epoch, .int .i64 L.slot, .int .i64 ((L.next + partsN b.length : Nat) : Int), .slice A7 (m + 1) c7] :: own 30 1 (.slice A7 (m + 1) c7) (m + 1) (RR.map (·.1) ++ [.slice A5 n c5]) :: recB (RR ++ [(.slice A5 n c5, b)]) :: disk d (fnext D') :: F)
              rw [HLN.out.1, HPP.out, HNX.out, Int.natCast_add]
              exact H10
      · have HRR := Lib.hid (show R = (a1, D1) by have := HR3.out; rw [if_neg ha1] at this; exact this.symm)
        have hab : (a1 == 0) = false := by simp [ha1]
        have H6 : Sat w4 (logc p d (okL a1 (commitL L b) L) :: disk d D1 :: F) := by unfold okL; rw [if_neg ha1]; exact H5
        clear HR3 ha1
        go_wp2_with fail
        go_ret
        rw [HRR.out]
        exact ⟨rfl, H6, E4'⟩
end Go.Proofs.Ythbabdjicplooaa
