/- law 4's begun and known. Conditions: none. -/
import Derived.Test.YthbabdjicplooaaWalK
import Derived.Test.YthbabdjicplooaaPlaysLibG
namespace Go.Proofs.Ythbabdjicplooaa
open Go.RowKit

theorem newD_db (n : Nat) : DB (newD n) := ⟨fun x hx => by rw [(List.mem_replicate.1 hx).2]; exact ⟨noughts_inb, noughts_len⟩, fun p hp => by cases hp⟩
theorem newD_len (n : Nat) : (newD n).safe.length = n := by simp [newD]
theorem newD_rd (n k : Nat) : (newD n).rd k = noughts := by
  rw [rd_pend rfl, newD, List.getD_eq_getElem?_getD, List.getElem?_replicate]
  split <;> rfl
/-- Open, by the invariant. -/
theorem open_inv {w : World} {d : Nat} {D : Dsk} {L : LogV} {F : List HP} (h : Inv D L) (H : Sat w (disk d D :: F)) :
    Calls Try.prog 50 #[.pointer (some ⟨d, 0, none⟩), .int .i64 L.from_, .int .i64 L.count] w fun e w' => ∃ p, e = .returned (.tuple #[.pointer (some ⟨p, 0, none⟩), .int .i64 0]) ∧ Sat w' (logc p d L :: disk d D :: F) ∧ Env w w' := by
  refine (open_log L.from_ L.count H h.four h.fit h.len h.db).mono ?_
  rintro e w' (⟨h1, -⟩ | ⟨L', p, h1, h2, h3, h4⟩)
  · rw [h.open] at h1; cases h1
  · rw [h.open] at h1
    injection h1 with h1
    subst h1
    exact ⟨p, h2, h3, h4⟩

set_option maxHeartbeats 2000000 in
set_option maxRecDepth 100000 in
theorem begun4 {w : World} {F : List HP} (n fr ct : Nat) (H : Sat w F) (h1 : 4 ≤ ct) (h2 : fr + ct ≤ n) (h3 : n ≤ 8192) :
    Calls Try.prog 46 #[.int .i64 n, .int .i64 fr, .int .i64 ct] w fun e w' => ∃ d p D, e = .returned (.tuple #[.pointer (some ⟨d, 0, none⟩), .pointer (some ⟨p, 0, none⟩), .bool true]) ∧ Fresh (newD n) D fr ct ∧ Sat w' (logc p d (freshL fr ct) :: disk d D :: F) ∧ Env w w' := by
  have HH := Lib.hid (show 4 ≤ ct ∧ fr + ct ≤ n ∧ n ≤ 8192 from ⟨h1, h2, h3⟩)
  have HF := Lib.hid (format_fresh (D := newD n) fr ct rfl (newD_db n) (by rw [newD_len]; exact h2) h1)
  clear h1 h2 h3
  go_enter Try.func46, Try.ntmps46
  go_wp2_with fail
  refine (dnew n H (by have := HH.out; omega) HH.out.2.2).mono ?_
  rintro e w2 ⟨d, rfl, H2, E2⟩
  go_wp2_with fail
  refine (format_log fr ct H2 HH.out.1 (by rw [newD_len]; exact HH.out.2.1) (by rw [newD_len]; exact HH.out.2.2) (newD_db n) (by show 0 < _; omega) rfl).mono ?_
  rintro e w3 ⟨rfl, H3, E3⟩
  have HI := Lib.hid (HF.out.inv (by rw [newD_len]; exact HH.out.2.1) (by rw [newD_len]; exact HH.out.2.2) HH.out.1)
  generalize formatD (newD n) fr ct = D at *
  go_wp2_with fail
  refine (open_inv HI.out H3).mono ?_
  rintro e w4 ⟨p, rfl, H4, E4⟩
  go_wp2_with fail
  go_ret3
  exact ⟨d, p, D, rfl, HF.out, H4, ((E2.trans E3).trans E4)⟩

theorem commit_none {D : Dsk} {L : LogV} {b : List Int} (hb : DB D) (hbb : InB b) (hl : D.left = none) (h0 : 0 < b.length) (hr : b.length ≤ roomL L) : (commitD D L b).1 = 0 ∧ (commitD D L b).2.left = none := by
  have h1 := blank_none (atL L) (partsN b.length) 0 D false hl
  have h2 := (puts_keep L b hbb (partsN b.length) 0 _ (blank_keep (atL L) (partsN b.length) 0 D false hb).1).2.2.2 h1.2
  unfold commitD
  rw [if_neg (by omega), if_neg (by omega), if_pos h1.1]
  exact h2
/-- Commit of a record that fits, on a disk that does not stop. -/
theorem commit_fine {w : World} {p d : Nat} {L : LogV} {D : Dsk} {F : List HP} (A : Option Addr) (n c : Nat) (b : List Int) (h : Inv D L) (hl : D.left = none) (H : Sat w (logc p d L :: disk d D :: F)) (hr : Reads F 1 A n (bytes b)) (hnc : n ≤ c) (h0 : 0 < b.length) (hbb : InB b) (hbr : b.length ≤ roomL L) :
    Calls Try.prog 47 #[.pointer (some ⟨p, 0, none⟩), .slice A n c] w fun e w' => e = .returned (.int .i64 0) ∧ ∃ D', Inv D' (commitL L b) ∧ D'.left = none ∧ Rest D D' L ∧ Sat w' (logc p d (commitL L b) :: disk d D' :: F) ∧ Env w w' := by
  have hn : b.length = n := by have := (hr w H.tail.tail).1; simpa [bytes] using this
  have hlen := h.len
  have hfit := h.fit
  have hnx := h.nx
  have hrl := h.rl
  refine (commit_log A n c b H hr hnc (by unfold roomL at hbr; omega) hbb h.ok h.fit h.len h.db (by rw [h.pend]; simp) (by omega)).mono ?_
  rintro e w' ⟨rfl, h2, h3⟩
  have hc := commit_none (L := L) h.db hbb hl h0 hbr
  rw [hc.1] at h2 ⊢
  rcases commit_inv h h0 hbb hbr with ⟨-, h4, h5⟩ | ⟨h4, -⟩
  · exact ⟨rfl, _, h4, hc.2, h5, h2, h3⟩
  · rw [hc.1] at h4; cases h4
theorem fresh_room (fr ct : Nat) : roomL (freshL fr ct) = (ct - 2) * 107 := rfl

/-- A literal's bytes. -/
theorem Sat.blk_rd {w : World} {T : Nat} {t : TypeId} {fz : Nat × Nat} {F : List HP} (xs : List Int) (H : Sat w (blk T (.cells (bytes xs).toArray t fz) :: F)) : Rd w 1 (some ⟨T, 0, none⟩) xs.length (bytes xs) :=
  ⟨by simp [bytes], fun j u hu => ⟨T, 0, rfl, by rw [cell_of_row w _ _ _ _ _ H.get, Nat.zero_add]; simpa using hu⟩⟩
theorem Sat.blk_rdB {w : World} {T : Nat} {t : TypeId} {fz : Nat × Nat} {F : List HP} (R : List (Value × List Int)) (H : Sat w (blk T (.cells (R.map (·.1)).toArray t fz) :: F)) (h : ∀ q ∈ R, ∃ A' c', q.1 = .slice A' q.2.length c' ∧ q.2.length ≤ c' ∧ Rd w 1 A' q.2.length (bytes q.2)) : RdB w (.slice (some ⟨T, 0, none⟩) R.length R.length) (R.map (·.2)) :=
  ⟨some ⟨T, 0, none⟩, R.length, R, rfl, Nat.le_refl _, ⟨by simp, fun j u hu => ⟨T, 0, rfl, by rw [cell_of_row w _ _ _ _ _ H.get, Nat.zero_add]; simpa using hu⟩⟩, rfl, h⟩
/-- Commit of nothing. -/
theorem commit_nil {w : World} {p d : Nat} {L : LogV} {D : Dsk} {F : List HP} (A : Option Addr) (c : Nat) (h : Inv D L) (H : Sat w (logc p d L :: disk d D :: F)) :
    Calls Try.prog 47 #[.pointer (some ⟨p, 0, none⟩), .slice A 0 c] w fun e w' => e = .returned (.int .i64 1) ∧ Sat w' (logc p d L :: disk d D :: F) ∧ Env w w' := by
  have hlen := h.len
  have hfit := h.fit
  have hnx := h.nx
  have hrl := h.rl
  exact commit_log A 0 c [] H (fun _ _ => Rd.nil _ _ _) (Nat.zero_le _) (by omega) (fun x hx => by cases hx) h.ok h.fit h.len h.db (by rw [h.pend]; simp) (by omega)

set_option maxHeartbeats 4000000 in
set_option maxRecDepth 100000 in
theorem known4 {w : World} {F : List HP} (H : Sat w F) :
    Calls Try.prog 49 #[] w fun e w' => e = .returned (.bool true) ∧ Sat w' F ∧ Env w w' := by
  go_enter Try.func49, Try.ntmps49
  go_wp2_with fail
  refine (begun4 20 2 16 H (by omega) (by omega) (by omega)).mono ?_
  rintro e w2 ⟨d, p, D, rfl, hF, H2, E2⟩
  have HF := Lib.hid hF
  have HI := Lib.hid (hF.inv (by rw [newD_len]; omega) (by rw [newD_len]; omega) (by omega))
  clear hF
  have kc := fun (w : World) (C : Array Value) (n c : Nat) => Lib.run_convert_bytes_const (P := Try.prog) w 30 5 C n c Try.underlying30 Try.underlying5
  go_wp2_with fail
  clear kc
  have H3 := (H2.alloc (.cells #[.int .u8 97] 5 (1, 2))).b2.b2
  have E3 := E2.alloc (.cells #[.int .u8 97] 5 (1, 2))
  generalize w2.alloc (.cells #[.int .u8 97] 5 (1, 2)) = w3 at *
  generalize w2.heap.size = T at *
  refine (commit_fine (some ⟨T, 0, none⟩) 1 1 [97] HI.out HF.out.left H3 (fun w h => h.blk_rd [97]) (by omega) (by decide) (fun x hx => by simp at hx; omega) (by decide)).mono ?_
  rintro e w4 ⟨rfl, D4, hI4, hl4, -, H4, E4⟩
  have HI4 := Lib.hid hI4
  have H4' := H4.b2.tail.b1
  have E4' := E3.trans E4
  clear H2 H3 E2 E3 H4 E4 hl4 hI4
  go_wp2_with fail
  refine (open_inv HI4.out H4').mono ?_
  rintro e w5 ⟨p5, rfl, H5, E5⟩
  have E5' := E4'.trans E5
  clear H4' E4' E5
  have kc := fun (w : World) (C : Array Value) (n c : Nat) => Lib.run_convert_bytes_const (P := Try.prog) w 30 5 C n c Try.underlying30 Try.underlying5
  go_wp2_with fail
  refine (records_log H5 HI4.out.ok (fun b hb => by
    have hb : b ∈ ([[97]] : List (List Int)) := hb
    rw [List.mem_singleton.1 hb]; decide)).mono ?_
  rintro e w6 ⟨v6, rfl, H6, E6⟩
  have E6' := E5'.trans E6
  go_wp2_with fail
  clear kc
  have H7 := (H6.alloc (.cells #[.int .u8 97] 5 (1, 2))).alloc (.cells #[.slice (some ⟨w6.heap.size, 0, none⟩) 1 1] 30)
  have E7 := (E6'.alloc (.cells #[.int .u8 97] 5 (1, 2))).alloc (.cells #[.slice (some ⟨w6.heap.size, 0, none⟩) 1 1] 30)
  rw [show (w6.alloc (.cells #[.int .u8 97] 5 (1, 2))).heap.size = w6.heap.size + 1 by simp] at H7
  generalize (w6.alloc (.cells #[.int .u8 97] 5 (1, 2))).alloc (.cells #[.slice (some ⟨w6.heap.size, 0, none⟩) 1 1] 30) = w7 at *
  generalize w6.heap.size + 1 = T3 at *
  generalize w6.heap.size = T2 at *
  have hI1 : InL [[97]] := fun x hx => by rw [List.mem_singleton.1 hx]; exact ⟨by simp, fun x hx => by simp at hx; omega⟩
  refine (same_any v6 (.slice (some ⟨T3, 0, none⟩) 1 1) [[97]] [[97]] w7 H7.b2.recL_rd (H7.blk_rdB [((.slice (some ⟨T2, 0, none⟩) 1 1 : Value), ([97] : List Int))] (fun q hq => by rw [List.mem_singleton.1 hq]; exact ⟨_, _, rfl, Nat.le_refl _, H7.b1.blk_rd [97]⟩)) (by decide) hI1 hI1).mono ?_
  rintro e w8 ⟨rfl, q8, rfl⟩
  have H8 := (H7.drewN q8).tail.tail.tail.b2.b2.b1
  have E8 := E7.drewN q8
  have hd : decide (([[97]] : List (List Int)) = [[97]]) = true := by decide
  rw [hd]
  generalize w7.drewN q8 = w8 at *
  clear hd hI1 H6 H7 E6' E7 E5' E6 H5
  go_wp2_with fail
  refine (commit_nil none 0 HI4.out H8).mono ?_
  rintro e w9 ⟨rfl, H9, E9⟩
  go_wp2_with fail
  go_ret
  exact ⟨rfl, H9.tail.tail.tail, E8.trans E9⟩
end Go.Proofs.Ythbabdjicplooaa

/- WalBare's walk. Conditions: none. -/
namespace Go.Proofs.Ythbabdjicplooaa
open Go.RowKit

theorem Sat.recL_form {w : World} {v : Value} {l : List (List Int)} {F : List HP} (H : Sat w (recL v l :: F)) : ∃ A c, v = .slice A l.length c := by
  obtain ⟨A, c, R, rfl, -, -, h, -⟩ := H.recL_rd
  exact ⟨A, c, by rw [← h, List.length_map]⟩
theorem epochAt_noughts : epochAt noughts = 0 := by
  unfold epochAt
  rw [if_neg (fun h => by have : ofBE (noughts.take 8) = 0 := by decide
                          omega)]
theorem openD_new (n fr ct : Nat) : openD (newD n) fr ct = none := by
  unfold openD epD heldD
  simp only [newD_rd, epochAt_noughts]
  split <;> simp

set_option maxHeartbeats 8000000 in
set_option maxRecDepth 100000 in
theorem walBare_any {w : World} {F : List HP} (A : Option Addr) (n c : Nat) (l : List Int) (x : Int) (H : Sat w F) (hr : Reads F 1 A n (bytes l)) (hb : InB l) :
    Calls Try.prog 10 #[.slice A n c, .int .i64 x] w fun e w' => e = .returned (.bool true) ∧ Sat w' F ∧ Env w w' := by
  have hlen : l.length = n := by have := (hr w H).1; simpa [bytes] using this
  have HR := Lib.hid hr
  have HL := Lib.hid (show l.length = n ∧ InB l from ⟨hlen, hb⟩)
  clear hr hlen hb
  go_enter Try.func10, Try.ntmps10
  go_wp2_with fail
  refine (dnew 12 H (by omega) (by omega)).mono ?_
  rintro e w2 ⟨d, rfl, H2, E2⟩
  go_wp2_with fail
  refine (open_log 0 12 H2 (by omega) (by rw [newD_len]; omega) (by rw [newD_len]; omega) (newD_db 12)).mono ?_
  rintro e w3 (⟨-, rfl, H3, E3⟩ | ⟨L', p', h1, -⟩)
  · have E3' := E2.trans E3
    have HD0 := Lib.hid (show (newD 12).left = none ∧ DB (newD 12) ∧ (newD 12).safe.length = 12 ∧ (newD 12).pend.length ≤ 0 from ⟨rfl, newD_db 12, newD_len 12, by show 0 ≤ 0; omega⟩)
    generalize newD 12 = D0 at *
    clear H H2 E2 E3
    go_wp2_with fail
    go_loopw [9] (fun i wr => ∃ (k : Nat) (D : Dsk), k ≤ n ∧ k ≤ 12 ∧ i = .int .i64 k ∧ Hid (D.left = none ∧ DB D ∧ D.safe.length = 12 ∧ D.pend.length ≤ k) ∧ Sat wr (disk d D :: F) ∧ Env w wr) (fun i _ => n - (intOf i).toNat)
    case atStart => exact ⟨0, D0, by omega, by omega, rfl, HD0, H3, E3'⟩
    case round =>
      clear H3 E3' HD0
      obtain ⟨k, D, hk, hk2, rfl, hD, H4, E4⟩ := hrel
      by_cases hlt : k < n ∧ k < 12
      · obtain ⟨hlt1, hlt2⟩ := hlt
        have hkl : k < l.length := by rw [HL.out.1]; exact hlt1
        obtain ⟨b, o, rfl, hc⟩ := (HR.out _ H4.tail).2 k (.int .u8 l[k]) (by simp [bytes, hkl])
        have hx := HL.out.2 _ (List.getElem_mem hkl)
        generalize l[k] = y at hc hx
        have HX := Lib.hid hx
        clear hkl hx
        go_wp2_with fail
        refine (record_any 128 y H4 HX.out (by omega)).mono ?_
        rintro e w5 ⟨v5, rfl, H5, E5⟩
        obtain ⟨A5, c5, rfl, -, -, -⟩ := H5.own_form
        have E5' := E4.trans E5
        clear H4 E4 E5
        go_wp2_with fail
        refine (dwrite k A5 c5 (recordL 128 y) H5.b1 (fun w h => h.own_at.1) (by rw [hD.out.2.2.1]; omega) (by rw [hD.out.1]; simp) (by have := hD.out.2.2.2; omega)).mono ?_
        rintro e w6 ⟨rfl, H6, E6⟩
        have H7 := H6.b1.tail
        have E7 := E5'.trans E6
        have HD2 := Lib.hid (show (D.write k (recordL 128 y)).left = none ∧ DB (D.write k (recordL 128 y)) ∧ (D.write k (recordL 128 y)).safe.length = 12 ∧ (D.write k (recordL 128 y)).pend.length ≤ k + 1 from ⟨by simp [Dsk.write, hD.out.1], hD.out.2.1.write k (recordL_inb _ _) (recordL_len _ _), hD.out.2.2.1, by have := hD.out.2.2.2; simp [Dsk.write]; omega⟩)
        clear H5 H6 E5' E6 hc
        go_wp2_with fail
        go_roundw
        case rel => exact ⟨k + 1, _, by omega, by omega, by go_num, HD2, H7, E7⟩
        case measure => simp [intOf]; omega
      · have HEND := Lib.hid (show ¬ k < n ∨ (k < n ∧ ¬ k < 12) by omega)
        have HFR := Lib.hid (format_fresh (D := D) 0 12 hD.out.1 hD.out.2.1 (by rw [hD.out.2.2.1]; omega) (by omega))
        have HFL := Lib.hid (fun (w9 : World) (H9 : Sat w9 (disk d D :: F)) => format_log 0 12 H9 (by omega) (by rw [hD.out.2.2.1]; omega) (by rw [hD.out.2.2.1]; omega) hD.out.2.1 (by have := hD.out.2.2.2; omega) hD.out.1)
        have HI := Lib.hid (HFR.out.inv (by rw [hD.out.2.2.1]; omega) (by rw [hD.out.2.2.1]; omega) (by omega))
        generalize formatD D 0 12 = D2 at *
        have hx50 := within_range x (lo := 0) (hi := 50) (by omega)
        obtain ⟨m, hm⟩ := Int.eq_ofNat_of_zero_le hx50.1
        rw [hm] at hx50
        have HM := Lib.hid hm
        have hm50 : m ≤ 50 := by omega
        have hwm : IntKind.i64.wrap (1 + (m : Int)) = ((1 + m : Nat) : Int) := by rw [IntWalk.i64_in _ (by omega)]; omega
        clear hx50 hm hlt
        rcases HEND.out with h5 | ⟨h5, h6⟩
        · go_wp2_with fail
          refine (HFL.out _ H4).mono ?_
          rintro e w5 ⟨rfl, H5, E5⟩
          go_wp2_with fail
          refine (open_inv HI.out H5).mono ?_
          rintro e w6 ⟨p, rfl, H6, E6⟩
          have E6' := (E4.trans E5).trans E6
          clear H4 H5 E4 E5 E6
          go_wp2_with fail
          refine (records_log H6 HI.out.ok (fun b hb => by cases hb)).mono ?_
          rintro e w7 ⟨v7, rfl, H7, E7⟩
          obtain ⟨A7, c7, rfl⟩ := H7.recL_form
          have E7' := E6'.trans E7
          go_wp2_with fail
          refine (within_any x 0 50 _ (by omega) (by omega) (by omega)).mono ?_
          rintro e w8 ⟨rfl, rfl⟩
          rw [HM.out]
          go_wp2_with fail
          refine (record_any (1 + m) 1 H7.tail (by omega) (by omega)).mono ?_
          rintro e w9 ⟨v9, rfl, H9, E9⟩
          obtain ⟨A9, c9, rfl, hc9, -, -⟩ := H9.own_form
          have E9' := E7'.trans E9
          clear H6 H7 E6' E7 E7' E9
          go_wp2_with fail
          refine (commit_fine A9 (1 + m) c9 (recordL (1 + m) 1) HI.out HFR.out.left H9.b2.b2 (fun w h => h.own_at.1) hc9 (by rw [recordL_len]; omega) (recordL_inb _ _) (by rw [recordL_len]; show 1 + m ≤ (12 - 2 - 0) * 107; omega)).mono ?_
          rintro e w10 ⟨rfl, D10, -, -, -, H10, E10⟩
          have H11 := H10.tail.tail.tail
          have E11 := E9'.trans E10
          clear H9 H10 E9' E10 hwm
          go_wp2_with fail
          refine (known4 H11).mono ?_
          rintro e w12 ⟨rfl, H12, E12⟩
          go_wp2_with fail
          go_ret
          exact ⟨rfl, H12, E11.trans E12⟩
        · go_wp2_with fail
          refine (HFL.out _ H4).mono ?_
          rintro e w5 ⟨rfl, H5, E5⟩
          go_wp2_with fail
          refine (open_inv HI.out H5).mono ?_
          rintro e w6 ⟨p, rfl, H6, E6⟩
          have E6' := (E4.trans E5).trans E6
          clear H4 H5 E4 E5 E6
          go_wp2_with fail
          refine (records_log H6 HI.out.ok (fun b hb => by cases hb)).mono ?_
          rintro e w7 ⟨v7, rfl, H7, E7⟩
          obtain ⟨A7, c7, rfl⟩ := H7.recL_form
          have E7' := E6'.trans E7
          go_wp2_with fail
          refine (within_any x 0 50 _ (by omega) (by omega) (by omega)).mono ?_
          rintro e w8 ⟨rfl, rfl⟩
          rw [HM.out]
          go_wp2_with fail
          refine (record_any (1 + m) 1 H7.tail (by omega) (by omega)).mono ?_
          rintro e w9 ⟨v9, rfl, H9, E9⟩
          obtain ⟨A9, c9, rfl, hc9, -, -⟩ := H9.own_form
          have E9' := E7'.trans E9
          clear H6 H7 E6' E7 E7' E9
          go_wp2_with fail
          refine (commit_fine A9 (1 + m) c9 (recordL (1 + m) 1) HI.out HFR.out.left H9.b2.b2 (fun w h => h.own_at.1) hc9 (by rw [recordL_len]; omega) (recordL_inb _ _) (by rw [recordL_len]; show 1 + m ≤ (12 - 2 - 0) * 107; omega)).mono ?_
          rintro e w10 ⟨rfl, D10, -, -, -, H10, E10⟩
          have H11 := H10.tail.tail.tail
          have E11 := E9'.trans E10
          clear H9 H10 E9' E10 hwm
          go_wp2_with fail
          refine (known4 H11).mono ?_
          rintro e w12 ⟨rfl, H12, E12⟩
          go_wp2_with fail
          go_ret
          exact ⟨rfl, H12, E11.trans E12⟩
  · rw [openD_new] at h1; cases h1
end Go.Proofs.Ythbabdjicplooaa
