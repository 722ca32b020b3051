/- WalKept's walk. Conditions: none. -/
import Derived.Test.YthbabdjicplooaaWalCrashG
import Derived.Test.YthbabdjicplooaaBooksByteApart
import Derived.Test.YthbabdjicplooaaPageK
namespace Go.Proofs.Ythbabdjicplooaa
open Go.RowKit

theorem conv_any {w : World} {A : Option Addr} {n c : Nat} {xs : List Int} (h : Rd w 1 A n (bytes xs)) : (convert 30 9 (.slice A n c)).run Try.prog w = .ok (.string (strOfNums xs)) w := by
  rcases Nat.eq_zero_or_pos n with h0 | h0
  · subst h0
    have hx : xs = [] := List.eq_nil_of_length_eq_zero (by have := h.1; simpa [bytes] using this)
    subst hx
    cases A with
    | none => exact run_convert_bytes_nil w 30 5 Try.underlying30 Try.underlying5 0 c 9 Try.underlying9
    | some a =>
      rw [run_convert_bytes_string w 30 9 5 _ 0 c Try.underlying30 Try.underlying5 Try.underlying9, run_bytesToString w a 0 c [] (run_loadCells_list (P := Try.prog) w a [] (fun j v hj => by simp at hj))]
      rfl
  · exact conv_rd h h0
/-- A list of one list of bytes. -/
theorem Sat.recL_one {w : World} {v : Value} {b : List Int} {F : List HP} (H : Sat w (recL v [b] :: F)) : ∃ v1, Sat w (own 30 1 v 1 [v1] :: own 5 1 v1 b.length (bytes b) :: F) := by
  obtain ⟨R, h, H1⟩ := H.recL_open
  match R, h with
  | [(v1, b1)], h =>
    injection h with h
    simp only at h
    subst h
    exact ⟨v1, (H1.b1.open_all).b1⟩
def GoodBy (m : Nat) (R : Bk) : Prop := R.items.length ≤ m ∧ ∀ p ∈ R.items, p.n < 4294967296 ∧ ∃ l : List Int, p.xs = l.map (Value.int .u8)

set_option maxHeartbeats 8000000 in
set_option maxRecDepth 100000 in
theorem walKept_any {w : World} {F : List HP} (A : Option Addr) (n c : Nat) (l : List Int) (H : Sat w F) (hr : Reads F 1 A n (bytes l)) (hb : InB l) (hnc : n ≤ c) :
    Calls Try.prog 9 #[.slice A n c] w fun e w' => e = .returned (.bool true) ∧ Sat w' F ∧ Env w w' := by
  have hlen : l.length = n := by have := (hr w H).1; simpa [bytes] using this
  have HR := Lib.hid hr
  have HL := Lib.hid (show l.length = n ∧ InB l from ⟨hlen, hb⟩)
  clear hr hlen hb
  go_enter Try.func9, Try.ntmps9
  go_wp2_with fail
  refine (begun4 20 0 20 H (by omega) (by omega) (by omega)).mono ?_
  rintro e w2 ⟨d, p, D, rfl, hF, H2, E2⟩
  have HF := Lib.hid hF
  have HI := Lib.hid (hF.inv (by rw [newD_len]; omega) (by rw [newD_len]; omega) (by omega))
  clear hF H
  obtain ⟨m, hm⟩ : ∃ m, min n 300 = m := ⟨_, rfl⟩
  have hm3 : m ≤ 300 := by omega
  have hmn : m ≤ n := by omega
  have hmc : m ≤ c := by omega
  have hc3 : (300 < n ∧ m = 300) ∨ (n ≤ 300 ∧ m = n) := by omega
  clear hm
  go_upto_if 22 with fail
  go_cut [0] from 20 to 24 (fun s0 wr => s0 = .slice A m c ∧ wr = w2)
  case first =>
    rcases hc3 with ⟨h1, rfl⟩ | ⟨h1, rfl⟩
    · go_wp2_with fail
      go_meet
      case rel => exact ⟨rfl, rfl⟩
    · go_wp2_with fail
      go_meet
      case rel => exact ⟨rfl, rfl⟩
  case rest =>
  obtain ⟨rfl, hw⟩ := hcut
  rw [hw]
  clear hw wc hc3
  have HM := Lib.hid (show Reads F 1 A m (bytes (l.take m)) ∧ InB (l.take m) ∧ (l.take m).length = m from ⟨fun w h => by
    have := (HR.out w h).take hmn
    rwa [Nat.mul_one, show (bytes l).take m = bytes (l.take m) from List.map_take.symm] at this, HL.out.2.take m, by rw [List.length_take, HL.out.1]; omega⟩)
  generalize l.take m = x at *
  clear HR HL hmn hnc
  go_wp2_with (at_builtin; go_must (refine wpList_append_sat rfl (.tmp 25) (.tmp 26) 30 rfl (H2.own_lit 5 1 #[.int .u8 1] 1 (by simp [maxLen]) rfl) rfl _ 1 Try.underlying30 Try.info_byte rfl (by omega) _ _ _ (bytes x) rfl ((HM.out.1 _ H2.tail.tail).src_none (by omega)) (HM.out.1 _ H2.tail.tail).1 ((HM.out.1 _ H2.tail.tail).alloc _).src (bytes_one _) (by simp only [maxLen]; omega) (by omega) ?_); intro v3 w3 H3 E3; obtain ⟨A3, c3, rfl, -, -, -⟩ := H3.own_form)
  have HX := Lib.hid (show InB ((1 : Int) :: x) ∧ ((1 : Int) :: x).length = 1 + m from ⟨fun y hy => by
    rcases List.mem_cons.1 hy with rfl | hy
    · omega
    · exact HM.out.2.1 y hy, by rw [List.length_cons, HM.out.2.2]; omega⟩)
  have E3' := (E2.alloc (.cells #[.int .u8 1] 5)).trans E3
  have hnc3 := H3.own_at.2.2
  obtain ⟨g3, cc, hA3, -⟩ := H3.own_addr (by omega)
  injection hA3 with hA3 _ hc3
  subst hA3
  clear hc3 cc H2 E2 E3
  refine (commit_fine (some ⟨g3, 0, none⟩) (1 + m) c3 ((1 : Int) :: x) HI.out HF.out.left H3.b2.b2 (fun w h => h.own_at.1) hnc3 (by simp) HX.out.1 (by rw [HX.out.2]; show 1 + m ≤ (20 - 2 - 0) * 107; omega)).mono ?_
  rintro e w4 ⟨rfl, D4, hI4, -, -, H4, E4⟩
  have E4' := E3'.trans E4
  have H5 := H4.b2
  obtain ⟨L, hL⟩ : ∃ L, commitL (freshL 0 20) ((1 : Int) :: x) = L := ⟨_, rfl⟩
  have HLR := Lib.hid (show L.recs = [(1 : Int) :: x] by rw [← hL]; rfl)
  rw [hL] at hI4 H5
  have HI4 := Lib.hid (show LogOk L from hI4.ok)
  clear hL hI4 H4 E4 H3 E3' HI HF hnc3
  generalize [Value.int IntKind.u8 1] ++ bytes x = xs0 at *
  go_wp2_with fail
  go_loopw [7] (fun i wr => ∃ (k : Nat) (xs : List Value), k ≤ 1 + m ∧ i = .int .i64 k ∧ Sat wr (own 5 1 (.slice (some ⟨g3, 0, none⟩) (1 + m) c3) (1 + m) xs :: logc p d L :: disk d D4 :: F) ∧ Env w wr) (fun i _ => 1 + m - (intOf i).toNat)
  case atStart => exact ⟨0, _, by omega, rfl, H5, E4'⟩
  case round =>
    clear H5 E4'
    obtain ⟨k, xs, hk, rfl, H6, E6⟩ := hrel
    by_cases hlt : k < 1 + m
    · have hxl : xs.length = 1 + m := by have := H6.own_at.1.1; omega
      have hcell := H6.own_cell k xs[k] (List.getElem?_eq_getElem (by omega))
      generalize xs[k] = y at hcell
      have hfree := H6.own_free (by omega) k
      have H7 := Lib.hid (H6.own_set (i := k) (by omega) (.int .u8 9))
      have E7 := Lib.hid (E6.set ⟨g3, k, none⟩ (.int .u8 9))
      clear hxl
      go_wp2_with fail
      go_roundw
      case rel => exact ⟨k + 1, _, by omega, by go_num, H7.out, E7.out⟩
      case measure => simp [intOf]; omega
    · have H8 := (H6.tail.alloc (.cells #[.slice none 0 0, .slice none 0 0, .int .i64 0, .bool false] 41)).bk_new_byte
      have E8 := E6.alloc (.cells #[.slice none 0 0, .slice none 0 0, .int .i64 0, .bool false] 41)
      clear H6 E6
      go_upto_region 14 with fail
      generalize wr.alloc (.cells #[.slice none 0 0, .slice none 0 0, .int .i64 0, .bool false] 41) = w9 at *
      generalize wr.heap.size = b at *
      have G0 := Lib.hid (show GoodBy 0 ⟨.slice none 0 0, .slice none 0 0, [], 0⟩ from ⟨Nat.le_refl _, fun p hp => by cases hp⟩)
      generalize (⟨.slice none 0 0, .slice none 0 0, [], 0⟩ : Bk) = R0 at *
      clear hlt
      go_wp2_with fail
      go_loopw [9, 11] (fun i s11 wr => ∃ (k : Nat) (R : Bk), k ≤ 2 ∧ i = .int .i64 k ∧ Hid (GoodBy k R) ∧ Sat wr (bk_byte b R :: logc p d L :: disk d D4 :: F) ∧ Env w wr) (fun i _ _ => 2 - (intOf i).toNat)
      case atStart => exact ⟨0, R0, by omega, rfl, G0, H8, E8⟩
      case round =>
        clear H8 E8 G0
        obtain ⟨k, R, hk, rfl, HG, H9, E9⟩ := hrel
        by_cases hlt : k < 2
        · go_wp2_with fail
          refine (records_log H9.b1 HI4.out (fun q hq => by rw [HLR.out, List.mem_singleton] at hq; rw [hq, HX.out.2]; omega)).mono ?_
          rintro e w10 ⟨v10, rfl, H10, E10⟩
          rw [HLR.out] at H10
          obtain ⟨v1, H11⟩ := H10.recL_one
          rw [HX.out.2] at H11
          obtain ⟨gv, cv, rfl, -⟩ := H11.own_addr (by omega)
          obtain ⟨A1, c1, rfl, -, -, -⟩ := H11.b1.own_form
          have E11 := E9.trans E10
          clear H9 H10 E9 E10
          go_wp2_with fail
          go_loopw [11, 48] (fun s11 i wr => Env w wr ∧ ((i = .int .i64 0 ∧ Sat wr (own 30 1 (.slice (some ⟨gv, 0, none⟩) 1 cv) 1 [.slice A1 (1 + m) c1] :: own 5 1 (.slice A1 (1 + m) c1) (1 + m) (bytes ((1 : Int) :: x)) :: logc p d L :: bk_byte b R :: disk d D4 :: F)) ∨ (i = .int .i64 1 ∧ ∃ R', Hid (GoodBy (k + 1) R') ∧ Sat wr (bk_byte b R' :: logc p d L :: disk d D4 :: F)))) (fun _ i _ => 1 - (intOf i).toNat)
          case atStart => exact ⟨E11, .inl ⟨rfl, H11⟩⟩
          case round =>
            clear H11 E11
            obtain ⟨E12, ⟨rfl, H12⟩ | ⟨rfl, R', HG', H12⟩⟩ := hrel
            · have hcell := H12.own_cell 0 _ rfl
              go_wp2_with fail
              refine (keep_byte b R A1 (1 + m) c1 _ H12.tail.b2 (bytes_one _) (by omega) (by have := HG.out.1; omega) HG.out.2 ⟨_, rfl⟩).mono ?_
              rintro e w13 ⟨rfl, R', H13, E13, L13, X13⟩
              have HG' := Lib.hid (show GoodBy (k + 1) R' from ⟨by have := HG.out.1; omega, X13⟩)
              have E14 := E12.trans E13
              clear L13 X13 H12 E12 E13 hcell
              go_wp2_with fail
              go_roundw
              case rel => exact ⟨E14, .inr ⟨by go_num, R', HG', H13⟩⟩
              case measure => simp [intOf]
            · go_wp2_with fail
              go_roundw
              case rel => exact ⟨k + 1, R', by omega, by go_num, HG', H12, E12⟩
              case measure => simp [intOf]; omega
        · go_wp2_with fail
          refine (records_log H9.b1 HI4.out (fun q hq => by rw [HLR.out, List.mem_singleton] at hq; rw [hq, HX.out.2]; omega)).mono ?_
          rintro e w10 ⟨v10, rfl, H10, E10⟩
          rw [HLR.out] at H10
          obtain ⟨v1, H11⟩ := H10.recL_one
          rw [HX.out.2] at H11
          obtain ⟨gv, cv, rfl, -⟩ := H11.own_addr (by omega)
          obtain ⟨A1, c1, rfl, -, -, -⟩ := H11.b1.own_form
          have E11 := E9.trans E10
          clear H9 H10 E9 E10
          go_wp2_with fail
          have KS := Lib.hid (fun (w : World) (G : List HP) (H : Sat w (own 30 1 (.slice (some ⟨gv, 0, none⟩) 1 cv) 1 [.slice A1 (1 + m) c1] :: own 5 1 (.slice A1 (1 + m) c1) (1 + m) (bytes ((1 : Int) :: x)) :: G)) (H0 : Sat w F) => show w.cell? ⟨gv, 0, none⟩ = some (.slice A1 (1 + m) c1) ∧ (convert 30 9 (.slice A1 (1 + m) c1)).run Try.prog w = .ok (.string (strOfNums ((1 : Int) :: x))) w ∧ (convert 30 9 (.slice A m c)).run Try.prog w = .ok (.string (strOfNums x)) w from ⟨H.own_cell 0 _ rfl, conv_any H.tail.own_at.1, conv_any (HM.out.1 w H0)⟩)
          have hcmp : ((strOfNums ((1 : Int) :: x)).toList == ((⟨#[1]⟩ : ByteArray) ++ strOfNums x).toList) = true := by
            rw [ByteArray.toList_eq, ByteArray.toList_eq]
            simp [strOfNums]
          have k0 := KS.out w10.drew _ H11.drew H11.drew.tail.tail.tail.tail.tail
          have H11' := H11.drew.b3
          have hz : (strOfNums x).size = m := by rw [strOfNums_size, HM.out.2.2]
          have hz3 : ¬ 9223372036854775807 < 1 + m := by omega
          generalize strOfNums ((1 : Int) :: x) = s1 at *
          generalize strOfNums x = s0 at *
          have HG2 := Lib.hid (show R.items.length < 4000 ∧ ∀ p ∈ R.items, p.n < 4294967296 ∧ ∃ l : List Int, p.xs = l.map (Value.int .u8) from ⟨by have := HG.out.1; omega, HG.out.2⟩)
          clear H11 HG HX HLR HI4
          go_region_held3 (fun w' => w'.cell? ⟨gv, 0, none⟩ = some (.slice A1 (1 + m) c1) ∧ (convert 30 9 (.slice A1 (1 + m) c1)).run Try.prog w' = .ok (.string s1) w' ∧ (convert 30 9 (.slice A m c)).run Try.prog w' = .ok (.string s0) w') (first | exact k0 | exact KS.out _ _ H12 H12.tail.tail.tail.tail | exact KS.out _ _ H13 H13.tail.tail.tail.tail) (first
            | (go_at_call 30; refine (apart_byte b R H11' HG2.out.1 HG2.out.2).mono ?_; rintro e w12 ⟨rfl, H12, E12⟩)
            | (go_at_call 49; refine (known4 H12).mono ?_; rintro e w13 ⟨rfl, H13, E13⟩))
          have E14 := (E11.drew.trans E12).trans E13
          clear hcmp hz3 H12 H11' k0 KS hz
          go_wp2_with fail
          go_ret
          exact ⟨rfl, H13.tail.tail.tail.tail, E14⟩
end Go.Proofs.Ythbabdjicplooaa

/- law 5's begun and page. Conditions: none. -/
namespace Go.Proofs.Ythbabdjicplooaa
open Go.RowKit

def zeroM : Nat → List Int := fun _ => zeroP
theorem sealed_bit (n : Nat) (hn : n < 512) : bitS sealedL n = false := by
  have h : sealedL.getD (5 + n / 8) 0 = 0 := by
    rw [List.getD_eq_getElem?_getD, sealedL, List.getElem?_append_right (by simp [titleL])]
    rw [List.getElem?_replicate]
    split <;> rfl
  unfold bitS
  rw [h, Int.zero_ediv]
  rfl
theorem clean_fresh {E : Dsk} (hF : Fresh (safeN (newD 8192) 7679 noughts) E 4096 3583) : Clean (safeN E 7679 sealedL) (freshL 4096 3583) 1 zeroM ∧ (safeN E 7679 sealedL).left = none := by
  have hk := safeN_keep (D := newD 8192) 7679 noughts_inb noughts_len rfl (newD_db 8192)
  have hl0 : (safeN (newD 8192) 7679 noughts).safe.length = 8192 := hk.2.2.1.trans (newD_len 8192)
  have hi := hF.inv (by rw [hl0]; omega) (by rw [hl0]; omega) (by omega)
  have hs := safeN_keep (D := E) 7679 sealedL_in sealedL_len hF.left hF.db
  have hl1 : (safeN E 7679 sealedL).safe.length = 8192 := hs.2.2.1.trans (hF.len.trans hl0)
  have hr : ∀ k, k < 8192 → (safeN E 7679 sealedL).rd k = if 7679 = k then sealedL else E.rd k := fun k hk => rd_safeN 7679 _ (by rw [hF.len, hl0]; exact hk)
  have h7 : (safeN E 7679 sealedL).rd 7679 = sealedL := by rw [hr _ (by omega), if_pos rfl]
  refine ⟨⟨⟨hi.other hs.2.2.2 hs.2.1 (by rw [hl1, hF.len, hl0]) (fun k h1 h2 => ?_), rfl, rfl, by rw [hl1]; omega, by show (1 : Int) ≤ 1; omega, by rw [h7]; rfl⟩, rfl, fun n hn => ?_⟩, hs.1⟩
  · have h1' : 4096 ≤ k := h1
    have h2' : k < 4096 + 3583 := h2
    rw [hr k (by omega), if_neg (by omega)]
  · unfold pageOf pageD
    rw [h7, sealed_bit n hn]; rfl

set_option maxHeartbeats 4000000 in
set_option maxRecDepth 100000 in
theorem begun5 {w : World} {F : List HP} (H : Sat w F) :
    Calls Try.prog 57 #[] w fun e w' => ∃ d s p D, e = .returned (.tuple #[.pointer (some ⟨d, 0, none⟩), .pointer (some ⟨s, 0, none⟩), .bool true]) ∧ Clean D (freshL 4096 3583) 1 zeroM ∧ D.left = none ∧ Sat w' (sto s d p (D.rd 7679) :: logc p d (freshL 4096 3583) :: disk d D :: F) ∧ Env w w' := by
  go_enter Try.func57, Try.ntmps57
  go_wp2_with fail
  refine (dnew 8192 H (by omega) (by omega)).mono ?_
  rintro e w2 ⟨d, rfl, H2, E2⟩
  go_wp2_with fail
  refine (pformat_any H2 (by rw [newD_len]; omega) (by rw [newD_len]; omega) (newD_db _) rfl rfl).mono ?_
  rintro e w3 ⟨E, hF, rfl, H3, E3⟩
  have HC := Lib.hid (clean_fresh hF)
  generalize safeN E 7679 sealedL = D at *
  clear hF
  have E3' := E2.trans E3
  clear H2 E2 E3
  go_wp2_with fail
  refine (popen_any (R := []) H3 (.inl HC.out.1) (by omega)).mono ?_
  rintro e w4 ⟨r, s, p, D4, L4, hW, rfl, H4, -, E4⟩
  obtain ⟨rfl, -⟩ := hW.fine HC.out.2
  obtain ⟨-, rfl, rfl⟩ | ⟨h, -⟩ := hW.ok rfl
  · have H5 := H4 rfl
    have E5 := E3'.trans E4
    clear hW H4
    rw [if_pos rfl]
    go_wp2_with fail
    go_ret3
    exact ⟨d, s, p, D4, rfl, HC.out.1, HC.out.2, H5, E5⟩
  · exact absurd rfl h

/-- A law's page. -/
def pageL (c : Int) : List Int := (List.range 1024).map fun i => IntKind.u8.wrap (c + ((i / 100 : Nat) : Int))
theorem pageL_len (c : Int) : (pageL c).length = 1024 := by simp [pageL]
theorem wrap_byte (x : Int) : 0 ≤ IntKind.u8.wrap x ∧ IntKind.u8.wrap x ≤ 255 := by rw [IntKind.wrap_u8]; omega
theorem pageL_in (c : Int) : InB (pageL c) := fun x hx => by
  obtain ⟨i, -, rfl⟩ := List.mem_map.1 hx
  exact wrap_byte _
def pageN (c : Int) (k : Nat) : List Int := (List.range 1024).map fun i => if i < k then IntKind.u8.wrap (c + ((i / 100 : Nat) : Int)) else 0
theorem pageN_zero (c : Int) : pageN c 0 = List.replicate 1024 0 := by
  apply List.ext_getElem (by rw [pageN, List.length_map, List.length_range, List.length_replicate])
  intro i h1 h2
  simp only [pageN, List.getElem_map, List.getElem_range, List.getElem_replicate]
  rw [if_neg (by omega)]
theorem pageN_full (c : Int) : pageN c 1024 = pageL c := by
  unfold pageN pageL
  apply List.map_congr_left
  intro i hi
  rw [if_pos (List.mem_range.1 hi)]
theorem pageN_set (c : Int) (k : Nat) (hk : k < 1024) : (pageN c k).set k (IntKind.u8.wrap (c + ((k / 100 : Nat) : Int))) = pageN c (k + 1) := by
  apply List.ext_getElem (by rw [List.length_set, pageN, pageN, List.length_map, List.length_map])
  intro i h1 h2
  simp only [pageN, List.getElem_set, List.getElem_map, List.getElem_range]
  by_cases h : k = i
  · subst h; rw [if_pos rfl, if_pos (by omega)]
  · rw [if_neg h]
    by_cases h3 : i < k
    · rw [if_pos h3, if_pos (by omega)]
    · rw [if_neg h3, if_neg (by omega)]

set_option maxHeartbeats 4000000 in
set_option maxRecDepth 100000 in
theorem page5 {w : World} {F : List HP} (c : Int) (H : Sat w F) (hc : 0 ≤ c ∧ c ≤ 255) :
    Calls Try.prog 61 #[.int .u8 c] w fun e w' => ∃ v, e = .returned v ∧ Sat w' (own 5 1 v 1024 (bytes (pageL c)) :: F) ∧ Env w w' := by
  go_enter Try.func61, Try.ntmps61
  go_wp2_with (at_make; go_must (refine wpList_make_sat rfl _ _ 30 rfl H 5 (.int .u8 0) 1 1 Try.underlying30 Try.info_byte _ _ 1024 rfl rfl (by omega) (by simp only [maxLen]; omega) ?_); intro w2 H2 E2; rw [made_byte, ← pageN_zero c] at H2)
  generalize w.heap.size = g at *
  clear H
  go_loopw [4] (fun i wr => ∃ k : Nat, k ≤ 1024 ∧ i = .int .i64 k ∧ Sat wr (own 5 1 (.slice (some ⟨g, 0, none⟩) 1024 1024) 1024 (bytes (pageN c k)) :: F) ∧ Env w wr) (fun i _ => 1024 - (intOf i).toNat)
  case atStart => exact ⟨0, by omega, rfl, H2, E2⟩
  case round =>
    clear H2 E2
    obtain ⟨k, hk, rfl, H6, E6⟩ := hrel
    by_cases hlt : k < 1024
    · obtain ⟨q, hq⟩ : ∃ q : Nat, k / 100 = q := ⟨_, rfl⟩
      have hw1 : IntKind.i64.wrap ((k : Int) / 100) = (q : Int) := by rw [IntWalk.i64_in _ (by omega)]; omega
      have hw2 : IntKind.u8.wrap (q : Int) = (q : Int) := by rw [IntKind.wrap_u8]; omega
      have hfree := H6.own_free (by omega) k
      have hcell := H6.own_cell k (bytes (pageN c k))[k] (List.getElem?_eq_getElem (by rw [bytes_len, pageN, List.length_map, List.length_range]; exact hlt))
      generalize (bytes (pageN c k))[k] = y at hcell
      have H7 := H6.own_set (i := k) (by omega) (.int .u8 (IntKind.u8.wrap (c + (q : Int))))
      rw [show (bytes (pageN c k)).set k (.int .u8 (IntKind.u8.wrap (c + (q : Int)))) = bytes (pageN c (k + 1)) by rw [← pageN_set c k hlt, hq, bytes, bytes, List.map_set]] at H7
      have E7 := E6.set ⟨g, k, none⟩ (.int .u8 (IntKind.u8.wrap (c + (q : Int))))
      obtain ⟨z, hz⟩ : ∃ z, IntKind.u8.wrap (c + (q : Int)) = z := ⟨_, rfl⟩
      rw [hz] at H7 E7
      have HQ := Lib.hid hq
      clear hq H6 E6
      go_wp2_with fail
      go_roundw
      case rel => exact ⟨k + 1, by omega, by go_num, H7, E7⟩
      case measure => simp [intOf]; omega
    · obtain rfl : k = 1024 := by omega
      rw [pageN_full] at H6
      go_wp2_with fail
      go_ret
      exact ⟨_, rfl, H6, E6⟩
end Go.Proofs.Ythbabdjicplooaa
