/- WalNumbers' walk. Conditions: none. -/
import Derived.Test.YthbabdjicplooaaWalBareWalk
namespace Go.Proofs.Ythbabdjicplooaa
open Go.RowKit

theorem Inv.stop {D : Dsk} {L : LogV} (h : Inv D L) (x : Option Nat) : Inv ⟨D.safe, D.pend, x⟩ L := h.turn (C := ⟨D.safe, D.pend, x⟩) h.pend h.db rfl (fun _ _ _ => rfl) h.oth
theorem blank_stop (fr : Nat) : ∀ (r n : Nat) (D : Dsk), D.left = some 0 → blankGo D fr false r n = (0, D) ∨ blankGo D fr false r n = (13, D)
  | 0, n, D, h => .inl (by unfold blankGo; rfl)
  | r + 1, n, D, h => by
    unfold blankGo
    split
    · exact blank_stop fr r (n + 1) D h
    · exact .inr rfl
theorem commit_stop {D : Dsk} {L : LogV} {b : List Int} (h : D.left = some 0) (h0 : 0 < b.length) (hr : b.length ≤ roomL L) : commitD D L b = (13, D) := by
  have hp : partsN b.length = (partsN b.length - 1) + 1 := by unfold partsN; omega
  unfold commitD
  rw [if_neg (by omega), if_neg (by omega)]
  rcases blank_stop (atL L) (partsN b.length) 0 D h with h1 | h1
  · rw [h1, if_pos rfl, hp]
    unfold putsGo
    rw [if_pos h]
  · rw [h1, if_neg (by simp)]
/-- Commit of a record that does not fit. -/
theorem commit_over {w : World} {p d : Nat} {L : LogV} {D : Dsk} {F : List HP} (A : Option Addr) (n c : Nat) (b : List Int) (h : Inv D L) (H : Sat w (logc p d L :: disk d D :: F)) (hr : Reads F 1 A n (bytes b)) (hnc : n ≤ c) (hbb : InB b) (hn : n < 4294967296) (hbr : roomL L < b.length) :
    Calls Try.prog 47 #[.pointer (some ⟨p, 0, none⟩), .slice A n c] w fun e w' => e = .returned (.int .i64 26) ∧ Sat w' (logc p d L :: disk d D :: F) ∧ Env w w' := by
  have hlen := h.len
  have hfit := h.fit
  have hnx := h.nx
  have hrl := h.rl
  refine (commit_log A n c b H hr hnc hn hbb h.ok h.fit h.len h.db (by rw [h.pend]; simp) (by omega)).mono ?_
  rintro e w' ⟨rfl, h2, h3⟩
  have hc : commitD D L b = (26, D) := by unfold commitD; rw [if_neg (by omega), if_pos hbr]
  rw [hc] at h2 ⊢
  exact ⟨rfl, h2, h3⟩
/-- Commit on a disk that has stopped. -/
theorem commit_still {w : World} {p d : Nat} {L : LogV} {D : Dsk} {F : List HP} (A : Option Addr) (n c : Nat) (b : List Int) (h : Inv D L) (hl : D.left = some 0) (H : Sat w (logc p d L :: disk d D :: F)) (hr : Reads F 1 A n (bytes b)) (hnc : n ≤ c) (hbb : InB b) (h0 : 0 < b.length) (hbr : b.length ≤ roomL L) :
    Calls Try.prog 47 #[.pointer (some ⟨p, 0, none⟩), .slice A n c] w fun e w' => e = .returned (.int .i64 13) ∧ Sat w' (logc p d L :: disk d D :: F) ∧ Env w w' := by
  have hn : b.length = n := by have := (hr w H.tail.tail).1; simpa [bytes] using this
  have hlen := h.len
  have hfit := h.fit
  have hnx := h.nx
  have hrl := h.rl
  refine (commit_log A n c b H hr hnc (by unfold roomL at hbr; omega) hbb h.ok h.fit h.len h.db (by rw [h.pend]; simp) (by omega)).mono ?_
  rintro e w' ⟨rfl, h2, h3⟩
  rw [commit_stop hl h0 hbr] at h2 ⊢
  exact ⟨rfl, h2, h3⟩
set_option maxHeartbeats 1000000 in
theorem open_no {w : World} {d : Nat} {D : Dsk} {F : List HP} (fr ct : Int) (H : Sat w (disk d D :: F)) (h : fr < 0 ∨ ct < 4 ∨ (D.safe.length : Int) < fr + ct) (hr : -9223372036854775808 ≤ fr ∧ fr ≤ 9223372036854775807 ∧ -9223372036854775808 ≤ ct ∧ ct ≤ 9223372036854775807) (h3 : D.safe.length ≤ 8192) :
    Calls Try.prog 50 #[.pointer (some ⟨d, 0, none⟩), .int .i64 fr, .int .i64 ct] w fun e w' => e = .returned (.tuple #[.pointer none, .int .i64 1]) ∧ w = w' := by
  have HN := Lib.hid (fits_no fr ct H h hr h3)
  clear h hr h3 H
  go_enter Try.func50, Try.ntmps50
  go_wp2_with fail
  refine HN.out.mono ?_
  rintro e w2 ⟨rfl, rfl⟩
  go_wp2_with fail
  go_ret2
  exact ⟨rfl, rfl⟩
set_option maxHeartbeats 1000000 in
theorem open_nil (fr ct : Int) (w : World) :
    Calls Try.prog 50 #[.pointer none, .int .i64 fr, .int .i64 ct] w fun e w' => e = .returned (.tuple #[.pointer none, .int .i64 1]) ∧ w = w' := by
  have HN := Lib.hid (fits_nil fr ct w)
  go_enter Try.func50, Try.ntmps50
  go_wp2_with fail
  refine HN.out.mono ?_
  rintro e w2 ⟨rfl, rfl⟩
  go_wp2_with fail
  go_ret2
  exact ⟨rfl, rfl⟩
set_option maxHeartbeats 1000000 in
theorem format_no {w : World} {d : Nat} {D : Dsk} {F : List HP} (fr ct : Int) (H : Sat w (disk d D :: F)) (h : fr < 0 ∨ ct < 4 ∨ (D.safe.length : Int) < fr + ct) (hr : -9223372036854775808 ≤ fr ∧ fr ≤ 9223372036854775807 ∧ -9223372036854775808 ≤ ct ∧ ct ≤ 9223372036854775807) (h3 : D.safe.length ≤ 8192) :
    Calls Try.prog 52 #[.pointer (some ⟨d, 0, none⟩), .int .i64 fr, .int .i64 ct] w fun e w' => e = .returned (.int .i64 1) ∧ w = w' := by
  have HN := Lib.hid (fits_no fr ct H h hr h3)
  clear h hr h3 H
  go_enter Try.func52, Try.ntmps52
  go_wp2_with fail
  refine HN.out.mono ?_
  rintro e w2 ⟨rfl, rfl⟩
  go_wp2_with fail
  go_ret
  exact ⟨rfl, rfl⟩
theorem inb_one {x : Int} (h : 0 ≤ x ∧ x ≤ 255) : InB [x] := fun y hy => by rw [List.mem_singleton.1 hy]; exact h

set_option maxHeartbeats 16000000 in
set_option maxRecDepth 100000 in
theorem walNumbers_any {w : World} {F : List HP} (H : Sat w F) :
    Calls Try.prog 13 #[] w fun e w' => e = .returned (.bool true) ∧ Sat w' F ∧ Env w w' := by
  go_enter Try.func13, Try.ntmps13
  go_wp2_with fail
  refine (begun4 64 0 64 H (by omega) (by omega) (by omega)).mono ?_
  rintro e w2 ⟨d, p, D, rfl, hF, H2, E2⟩
  have HF := Lib.hid hF
  have HI := Lib.hid (hF.inv (by rw [newD_len]; omega) (by rw [newD_len]; omega) (by omega))
  clear hF H
  go_wp2_with fail
  refine (room_any H2 HI.out.ok).mono ?_
  rintro e w3 ⟨rfl, q3, rfl⟩
  have H3 := H2.drewN q3
  have E3 := E2.drewN q3
  rw [show ((roomL (freshL 0 64) : Nat) : Int) = 6634 from rfl]
  generalize w2.drewN q3 = w3 at *
  clear H2 E2
  go_wp2_with fail
  refine (room_any H3 HI.out.ok).mono ?_
  rintro e w4 ⟨rfl, q4, rfl⟩
  have H4 := H3.drewN q4
  have E4 := E3.drewN q4
  rw [show ((roomL (freshL 0 64) : Nat) : Int) = 6634 from rfl]
  generalize w3.drewN q4 = w4 at *
  clear H3 E3
  go_wp2_with (at_make; go_must (refine wpList_make_sat rfl _ _ 30 rfl H4 5 (.int .u8 0) 1 1 Try.underlying30 Try.info_byte _ _ 6635 rfl rfl (by omega) (by simp only [maxLen]; omega) ?_); intro w5 H5 E5; rw [made_byte] at H5)
  generalize w4.heap.size = g5 at *
  have E5' := E4.trans E5
  refine (commit_over (some ⟨g5, 0, none⟩) 6635 6635 (List.replicate 6635 0) HI.out H5.b2.b2 (fun w h => h.own_at.1) (by omega) (fun x hx => by rw [List.mem_replicate] at hx; omega) (by omega) (by rw [List.length_replicate]; show (64 - 2 - 0) * 107 < 6635; omega)).mono ?_
  rintro e w6 ⟨rfl, H6, E6⟩
  have H6' := H6.b2.tail.b1
  have E6' := E5'.trans E6
  clear H4 E4 H5 E5 E5' H6 E6
  have kc := fun (w : World) (C : Array Value) (n c : Nat) => Lib.run_convert_bytes_const (P := Try.prog) w 30 5 C n c Try.underlying30 Try.underlying5
  go_wp2_with fail
  clear kc
  have H7 := (H6'.b1.alloc (.cells #[.int .u8 97] 5 (1, 2))).b2.b2
  have E7 := E6'.alloc (.cells #[.int .u8 97] 5 (1, 2))
  generalize w6.alloc (.cells #[.int .u8 97] 5 (1, 2)) = w7 at *
  generalize w6.heap.size = T7 at *
  refine (commit_fine (some ⟨T7, 0, none⟩) 1 1 [97] HI.out HF.out.left H7 (fun w h => h.blk_rd [97]) (by omega) (by decide) (inb_one (by omega)) (by decide)).mono ?_
  rintro e w8 ⟨rfl, D8, hI8, hl8, -, H8, E8⟩
  have HI8 := Lib.hid hI8
  have H8' := H8.b2.tail.b1
  have E8' := E7.trans E8
  clear H6' E6' H7 E7 H8 E8 hI8 hl8
  go_wp2_with fail
  refine (dstop 0 H8' (by omega)).mono ?_
  rintro e w9 ⟨rfl, H9, E9⟩
  have HI9 := Lib.hid (HI8.out.stop (some (0 : Int).toNat))
  have E9' := E8'.trans E9
  clear H8' E8' E9
  obtain ⟨D9, hD9⟩ : ∃ D9, ({ D8 with left := some (0 : Int).toNat } : Dsk) = D9 := ⟨_, rfl⟩
  have HL9 := Lib.hid (show D9.left = some 0 by rw [← hD9]; rfl)
  rw [hD9] at H9
  have HI9 : Hid (Inv D9 (commitL (freshL 0 64) [97])) := Lib.hid (hD9 ▸ HI9.out)
  clear hD9 HI8
  have kc := fun (w : World) (C : Array Value) (n c : Nat) => Lib.run_convert_bytes_const (P := Try.prog) w 30 5 C n c Try.underlying30 Try.underlying5
  go_wp2_with fail
  clear kc
  have H10 := (H9.b1.alloc (.cells #[.int .u8 98] 5 (1, 2))).b2.b2
  have E10 := E9'.alloc (.cells #[.int .u8 98] 5 (1, 2))
  generalize w9.alloc (.cells #[.int .u8 98] 5 (1, 2)) = w10 at *
  generalize w9.heap.size = T10 at *
  refine (commit_still (some ⟨T10, 0, none⟩) 1 1 [98] HI9.out HL9.out H10 (fun w h => h.blk_rd [98]) (by omega) (inb_one (by omega)) (by decide) (by decide)).mono ?_
  rintro e w11 ⟨rfl, H11, E11⟩
  have H11' := H11.b2.tail.b1.b1
  have E11' := E10.trans E11
  clear H9 E9' H10 E10 H11 E11
  go_wp2_with fail
  have hrec : ∀ b ∈ (commitL (freshL 0 64) [97]).recs, b.length < 4294967296 := fun b hb => by
    have hb : b ∈ ([[97]] : List (List Int)) := hb
    rw [List.mem_singleton.1 hb]; decide
  have HREC := Lib.hid hrec
  clear hrec
  refine (records_log H11' HI9.out.ok HREC.out).mono ?_
  rintro e w12 ⟨v12, rfl, H12, E12⟩
  rw [show (commitL (freshL 0 64) [97]).recs = [[97]] from rfl] at H12
  obtain ⟨A12, c12, rfl⟩ := H12.recL_form
  have E12' := E11'.trans E12
  clear H11' E11' E12 HREC HL9 HI HF
  go_wp2_with fail
  refine (dcrash none 0 0 [] (-1) 0 H12.b2 (fun _ _ => Rd.nil _ _ _) (by rw [HI9.out.pend]; simp)).mono ?_
  rintro e w13 ⟨rfl, H13, E13⟩
  have HI13 := Lib.hid (HI9.out.crash [] (-1) 0)
  generalize D9.crash [] (-1) 0 = D13 at *
  have E13' := E12'.trans E13
  clear H12 E12' E13 HI9
  go_wp2_with fail
  refine (open_inv HI13.out H13).mono ?_
  rintro e w14 ⟨p14, rfl, H14, E14⟩
  have E14' := E13'.trans E14
  clear H13 E13' E14
  go_wp2_with fail
  refine (dnew 8 H14 (by omega) (by omega)).mono ?_
  rintro e w15 ⟨d15, rfl, H15, E15⟩
  have E15' := E14'.trans E15
  clear H14 E14' E15
  go_wp2_with fail
  refine (open_log 0 8 H15 (by omega) (by rw [newD_len]; omega) (by rw [newD_len]; omega) (newD_db 8)).mono ?_
  rintro e w16 (⟨-, rfl, H16, E16⟩ | ⟨L', p', h1, -⟩)
  case inr => rw [openD_new] at h1; cases h1
  have E16' := E15'.trans E16
  clear H15 E15' E16
  go_wp2_with fail
  refine (open_no 0 9 H16 (by rw [newD_len]; omega) (by omega) (by rw [newD_len]; omega)).mono ?_
  rintro e w17 ⟨rfl, rfl⟩
  go_wp2_with fail
  refine (open_nil 0 4 w16).mono ?_
  rintro e w18 ⟨rfl, rfl⟩
  have kc := fun (w : World) (C : Array Value) (n c : Nat) => Lib.run_convert_bytes_const (P := Try.prog) w 30 5 C n c Try.underlying30 Try.underlying5
  go_wp2_with fail
  clear kc
  have hI1 : InL [[97]] := fun x hx => by rw [List.mem_singleton.1 hx]; exact ⟨by simp, inb_one (by omega)⟩
  have HIL := Lib.hid hI1
  clear hI1
  have H17 := (H16.alloc (.cells #[.int .u8 97] 5 (1, 2))).alloc (.cells #[.slice (some ⟨w16.heap.size, 0, none⟩) 1 1] 30)
  have E17 := (E16'.alloc (.cells #[.int .u8 97] 5 (1, 2))).alloc (.cells #[.slice (some ⟨w16.heap.size, 0, none⟩) 1 1] 30)
  rw [show (w16.alloc (.cells #[.int .u8 97] 5 (1, 2))).heap.size = w16.heap.size + 1 by simp] at H17
  generalize (w16.alloc (.cells #[.int .u8 97] 5 (1, 2))).alloc (.cells #[.slice (some ⟨w16.heap.size, 0, none⟩) 1 1] 30) = w17 at *
  generalize w16.heap.size + 1 = T17 at *
  generalize w16.heap.size = S17 at *
  refine (same_any (.slice A12 1 c12) (.slice (some ⟨T17, 0, none⟩) 1 1) [[97]] [[97]] w17 H17.tail.tail.b3.recL_rd (H17.blk_rdB [((.slice (some ⟨S17, 0, none⟩) 1 1 : Value), ([97] : List Int))] (fun q hq => by rw [List.mem_singleton.1 hq]; exact ⟨_, _, rfl, Nat.le_refl _, H17.b1.blk_rd [97]⟩)) (by decide) HIL.out HIL.out).mono ?_
  rintro e w18 ⟨rfl, q18, rfl⟩
  rw [show decide (([[97]] : List (List Int)) = [[97]]) = true by decide]
  have H18 := (H17.tail.tail).drewN q18
  have E18 := E17.drewN q18
  generalize w17.drewN q18 = w18 at *
  clear H16 E16' H17 E17
  go_wp2_with fail
  have hrec : ∀ b ∈ (commitL (freshL 0 64) [97]).recs, b.length < 4294967296 := fun b hb => by
    have hb : b ∈ ([[97]] : List (List Int)) := hb
    rw [List.mem_singleton.1 hb]; decide
  refine (records_log H18.b1 HI13.out.ok hrec).mono ?_
  clear hrec
  rintro e w19 ⟨v19, rfl, H19, E19⟩
  rw [show (commitL (freshL 0 64) [97]).recs = [[97]] from rfl] at H19
  obtain ⟨A19, c19, rfl⟩ := H19.recL_form
  have E19' := E18.trans E19
  clear H18 E18 E19
  have kc := fun (w : World) (C : Array Value) (n c : Nat) => Lib.run_convert_bytes_const (P := Try.prog) w 30 5 C n c Try.underlying30 Try.underlying5
  go_wp2_with fail
  clear kc
  have H20 := (H19.alloc (.cells #[.int .u8 97] 5 (1, 2))).alloc (.cells #[.slice (some ⟨w19.heap.size, 0, none⟩) 1 1] 30)
  have E20 := (E19'.alloc (.cells #[.int .u8 97] 5 (1, 2))).alloc (.cells #[.slice (some ⟨w19.heap.size, 0, none⟩) 1 1] 30)
  rw [show (w19.alloc (.cells #[.int .u8 97] 5 (1, 2))).heap.size = w19.heap.size + 1 by simp] at H20
  generalize (w19.alloc (.cells #[.int .u8 97] 5 (1, 2))).alloc (.cells #[.slice (some ⟨w19.heap.size, 0, none⟩) 1 1] 30) = w20 at *
  generalize w19.heap.size + 1 = T20 at *
  generalize w19.heap.size = S20 at *
  refine (same_any (.slice A19 1 c19) (.slice (some ⟨T20, 0, none⟩) 1 1) [[97]] [[97]] w20 H20.tail.tail.recL_rd (H20.blk_rdB [((.slice (some ⟨S20, 0, none⟩) 1 1 : Value), ([97] : List Int))] (fun q hq => by rw [List.mem_singleton.1 hq]; exact ⟨_, _, rfl, Nat.le_refl _, H20.b1.blk_rd [97]⟩)) (by decide) HIL.out HIL.out).mono ?_
  rintro e w21 ⟨rfl, q21, rfl⟩
  rw [show decide (([[97]] : List (List Int)) = [[97]]) = true by decide]
  have H21 := ((H20.tail.tail).drewN q21).b2
  have E21 := E20.drewN q21
  generalize w20.drewN q21 = w21 at *
  clear H19 E19' H20 E20 HIL
  go_wp2_with fail
  refine (format_no 0 3 H21 (by omega) (by omega) (by rw [newD_len]; omega)).mono ?_
  rintro e w22 ⟨rfl, rfl⟩
  go_wp2_with fail
  refine (format_no (-1) 4 H21 (by omega) (by omega) (by rw [newD_len]; omega)).mono ?_
  rintro e w23 ⟨rfl, rfl⟩
  go_wp2_with fail
  refine (format_log 4 4 H21 (by omega) (by rw [newD_len]; omega) (by rw [newD_len]; omega) (newD_db 8) (by decide) rfl).mono ?_
  rintro e w24 ⟨rfl, H24, E24⟩
  have H25 := H24.tail.tail.tail.tail.tail.tail
  have E25 := E21.trans E24
  clear H21 E21 H24 E24
  go_wp2_with fail
  refine (known4 H25).mono ?_
  rintro e w26 ⟨rfl, H26, E26⟩
  go_wp2_with fail
  go_ret
  exact ⟨rfl, H26, E25.trans E26⟩
end Go.Proofs.Ythbabdjicplooaa
