/- package wal: Format of a disk that does not stop. Conditions: sectors' bytes are bytes; fewer than 8193 sectors, fewer than 2^30 pending writes. -/
import Derived.Test.YthbabdjicplooaaWalT
namespace Go.Proofs.Ythbabdjicplooaa
open Go.RowKit

def safeN (D : Dsk) (n : Nat) (xs : List Int) : Dsk := (D.write n xs).flush
def othD (D : Dsk) (fr : Nat) : Int := if (heldD D fr).2.2 = 0 then (heldD D fr).2.1 else (heldD D fr).1
def fmtA (D : Dsk) (fr ct : Nat) : Dsk := safeN (blankGo D fr false ct 0).2 fr (headL 1)
def formatD (D : Dsk) (fr ct : Nat) : Dsk :=
  if 0 < othD D fr then fmtA (safeN (safeN D (fr + (1 - (heldD D fr).2.2)) noughts) (fr + (heldD D fr).2.2) noughts) fr ct
  else if 0 < epD D fr then fmtA (safeN D (fr + (heldD D fr).2.2) noughts) fr ct else fmtA D fr ct
theorem safeD_none {D : Dsk} (h : D.left = none) (n : Nat) (xs : List Int) : safeD D n xs = (0, safeN D n xs) := by
  have h2 : (D.write n xs).left = none := by simp [Dsk.write, h]
  unfold safeD fcode fnext safeN
  rw [if_neg (by rw [h]; simp), if_neg (by rw [h2]; simp), if_neg (by rw [h2]; simp)]
theorem safeN_keep {D : Dsk} (n : Nat) {xs : List Int} (hx : InB xs) (hl : xs.length = 128) (h : D.left = none) (hb : DB D) : (safeN D n xs).left = none ∧ DB (safeN D n xs) ∧ (safeN D n xs).safe.length = D.safe.length ∧ (safeN D n xs).pend = [] :=
  ⟨by simp [safeN, Dsk.write, Dsk.flush, h], (hb.write n hx hl).flush, by simp [safeN, Dsk.write, Dsk.flush, sets_len], rfl⟩
theorem blank_none (fr : Nat) : ∀ (r n : Nat) (D : Dsk) (b : Bool), D.left = none → (blankGo D fr b r n).1 = 0 ∧ (blankGo D fr b r n).2.left = none
  | 0, n, D, b, h => by
    unfold blankGo
    split
    · exact ⟨by simp [fcode, h], by simp [fnext, h, Dsk.flush]⟩
    · exact ⟨rfl, h⟩
  | r + 1, n, D, b, h => by
    unfold blankGo
    rw [if_neg (show ¬ D.left = some 0 by rw [h]; simp)]
    split
    · exact blank_none fr r (n + 1) D b h
    · exact blank_none fr r (n + 1) (D.write (fr + n) noughts) true (by simp [Dsk.write, h])
theorem safe_none {w : World} {d : Nat} {D : Dsk} {F : List HP} (n : Nat) (A : Option Addr) (c : Nat) (xs : List Int) (H : Sat w (disk d D :: F)) (hr : Reads F 1 A 128 (bytes xs)) (hn : n < D.safe.length) (hp : D.pend.length < 4294967295) (hl : D.left = none) :
    Calls Try.prog 88 #[.pointer (some ⟨d, 0, none⟩), .int .i64 n, .slice A 128 c] w fun e w' => e = .returned (.int .i64 0) ∧ Sat w' (disk d (safeN D n xs) :: F) ∧ Env w w' := by
  have := safe_any n A c xs H hr hn hp
  rwa [safeD_none hl] at this

set_option maxHeartbeats 16000000 in
set_option maxRecDepth 100000 in
theorem format_log {w : World} {d : Nat} {D : Dsk} {F : List HP} (fr ct : Nat) (H : Sat w (disk d D :: F)) (h1 : 4 ≤ ct) (hf : fr + ct ≤ D.safe.length) (h3 : D.safe.length ≤ 8192) (hb : DB D) (hp : D.pend.length < 1073741824) (hl : D.left = none) :
    Calls Try.prog 52 #[.pointer (some ⟨d, 0, none⟩), .int .i64 fr, .int .i64 ct] w fun e w' => e = .returned (.int .i64 0) ∧ Sat w' (disk d (formatD D fr ct) :: F) ∧ Env w w' := by
  obtain ⟨R, hR⟩ : ∃ R, formatD D fr ct = R := ⟨_, rfl⟩
  have HFT := Lib.hid (fits_yes fr ct H h1 hf h3)
  have HB := Lib.hid (show DB D ∧ D.pend.length < 1073741824 ∧ D.left = none from ⟨hb, hp, hl⟩)
  obtain ⟨N, hNN⟩ : ∃ N, D.safe.length = N := ⟨_, rfl⟩
  have HNN := Lib.hid hNN
  rw [hNN] at hf h3
  clear hNN
  have HF := Lib.hid (show fr + ct ≤ N ∧ N ≤ 8192 ∧ 4 ≤ ct from ⟨hf, h3, h1⟩)
  have hfr : fr ≤ 8192 := by omega
  rw [hR]
  unfold formatD at hR
  have hsl := slotD_lt D fr
  clear hf h3 hb hp hl
  go_enter Try.func52, Try.ntmps52
  go_wp2_with fail
  refine HFT.out.mono ?_
  rintro e wx ⟨rfl, rfl⟩
  go_wp2_with fail
  refine (held_any fr H (by have := HF.out; rw [HNN.out]; omega) (by rw [HNN.out]; exact HF.out.2.1) HB.out.1).mono ?_
  rintro e w2 ⟨rfl, H2, E2⟩
  have hepi : #[Value.int .u64 (heldD D fr).1, .int .u64 (heldD D fr).2.1][(heldD D fr).2.2]? = some (.int .u64 (epD D fr)) := by
    unfold epD
    have : (heldD D fr).2.2 = 0 ∨ (heldD D fr).2.2 = 1 := by omega
    rcases this with h | h <;> rw [h] <;> rfl
  have hoti : #[Value.int .u64 (heldD D fr).1, .int .u64 (heldD D fr).2.1][1 - (heldD D fr).2.2]? = some (.int .u64 (othD D fr)) := by
    unfold othD
    have : (heldD D fr).2.2 = 0 ∨ (heldD D fr).2.2 = 1 := by omega
    rcases this with h | h <;> rw [h] <;> rfl
  have HEPI := Lib.hid (And.intro hepi hoti)
  clear hepi hoti H HFT
  generalize epD D fr = ep at *
  generalize othD D fr = oe at *
  generalize (heldD D fr).2.2 = sl at *
  generalize (heldD D fr).1 = e0 at *
  generalize (heldD D fr).2.1 = e1 at *
  have HR := Lib.hid hR
  clear hR
  go_upto_region 4 with fail
  have H3 := (H2.alloc (.cells #[.int .u64 e0, .int .u64 e1] 139)).b1
  have E3 := E2.alloc (.cells #[.int .u64 e0, .int .u64 e1] 139)
  generalize w2.alloc (.cells #[.int .u64 e0, .int .u64 e1] 139) = w3 at *
  generalize w2.heap.size = T at *
  obtain ⟨s1, hs1⟩ : ∃ s1, 1 - sl = s1 := ⟨_, rfl⟩
  rw [hs1] at HEPI HR
  have xe : w3.cell? ⟨T, sl, none⟩ = some (.int .u64 ep) := (H3.b1.cell sl).trans HEPI.out.1
  have xo : w3.cell? ⟨T, s1, none⟩ = some (.int .u64 oe) := (H3.b1.cell s1).trans HEPI.out.2
  have hw1 : IntKind.i64.wrap (1 - (sl : Int)) = (s1 : Int) := by rw [IntWalk.i64_in _ (by omega)]; omega
  have hwa : IntKind.i64.wrap ((fr : Int) + (s1 : Int)) = ((fr + s1 : Nat) : Int) := by rw [IntWalk.i64_in _ (by omega)]; omega
  have hwb : IntKind.i64.wrap ((fr : Int) + (sl : Int)) = ((fr + sl : Nat) : Int) := by rw [IntWalk.i64_in _ (by omega)]; omega
  have hs0 : (0 : Int) ≤ (sl : Int) := by omega
  have hs2 : (sl : Int) < 2 := by omega
  have ho0 : (0 : Int) ≤ (s1 : Int) := by omega
  have ho2 : (s1 : Int) < 2 := by omega
  have HS := Lib.hid (show sl < 2 ∧ s1 < 2 by omega)
  clear H2 E2 HEPI hsl hs1
  have H5 := H3.b1.tail
  have HD0 := Lib.hid (show DB D ∧ D.left = none ∧ D.safe.length = N ∧ D.pend.length < 1073741824 from ⟨HB.out.1, HB.out.2.2, HNN.out, HB.out.2.1⟩)
  by_cases ho : 0 < oe
  · have HR2 := Lib.hid (show fmtA (safeN (safeN D (fr + s1) noughts) (fr + sl) noughts) fr ct = R by have := HR.out; rw [if_pos ho] at this; exact this)
    clear HR
    go_wp2_with fail
    refine (nothing_any H5).mono ?_
    rintro e w6a ⟨g6, rfl, H6a, E6a⟩
    go_wp2_with fail
    refine (safe_none (fr + s1) (some ⟨g6, 0, none⟩) 128 noughts H6a.b1 (fun w h => h.own_at.1) (by have := HF.out.1; have := HF.out.2.2; have := HD0.out.2.2.1; have := HS.out; omega) (by have := HD0.out.2.2.2; omega) HD0.out.2.1).mono ?_
    rintro e w6 ⟨rfl, H6b, E6b⟩
    have HK6 := safeN_keep (fr + s1) noughts_inb noughts_len HD0.out.2.1 HD0.out.1
    have HD6 := Lib.hid (show DB (safeN D (fr + s1) noughts) ∧ (safeN D (fr + s1) noughts).left = none ∧ (safeN D (fr + s1) noughts).safe.length = N ∧ (safeN D (fr + s1) noughts).pend.length < 1073741824 from ⟨HK6.2.1, HK6.1, HK6.2.2.1.trans HD0.out.2.2.1, by rw [HK6.2.2.2]; simp⟩)
    have H6 := H6b.b1.tail
    have E6 := (E3.trans E6a).trans E6b
    generalize safeN D (fr + s1) noughts = D6 at *
    clear H6a H6b E6a E6b HK6 HD0 H5 E3
    go_wp2_with fail
    refine (nothing_any H6).mono ?_
    rintro e w7a ⟨g7, rfl, H7a, E7a⟩
    go_wp2_with fail
    refine (safe_none (fr + sl) (some ⟨g7, 0, none⟩) 128 noughts H7a.b1 (fun w h => h.own_at.1) (by have := HF.out.1; have := HF.out.2.2; have := HD6.out.2.2.1; have := HS.out; omega) (by have := HD6.out.2.2.2; omega) HD6.out.2.1).mono ?_
    rintro e w7 ⟨rfl, H7b, E7b⟩
    have HK7 := safeN_keep (fr + sl) noughts_inb noughts_len HD6.out.2.1 HD6.out.1
    have HD7 := Lib.hid (show DB (safeN D6 (fr + sl) noughts) ∧ (safeN D6 (fr + sl) noughts).left = none ∧ (safeN D6 (fr + sl) noughts).safe.length = N ∧ (safeN D6 (fr + sl) noughts).pend.length < 1073741824 from ⟨HK7.2.1, HK7.1, HK7.2.2.1.trans HD6.out.2.2.1, by rw [HK7.2.2.2]; simp⟩)
    have H7 := H7b.b1.tail
    have E7 := (E6.trans E7a).trans E7b
    generalize safeN D6 (fr + sl) noughts = D7 at *
    clear H7a H7b E7a E7b HK7 HD6 H6 E6
    go_wp2_with fail
    refine (blank_any fr ct H7 (by rw [HD7.out.2.2.1]; exact HF.out.1) (by rw [HD7.out.2.2.1]; exact HF.out.2.1) HD7.out.1 (by have := HD7.out.2.2.2; omega)).mono ?_
    rintro e w8 ⟨rfl, H8, E8⟩
    have HB0 := blank_none fr ct 0 D7 false HD7.out.2.1
    have HBK := blank_keep fr ct 0 D7 false HD7.out.1
    rw [HB0.1]
    have HD8 := Lib.hid (And.intro HB0.2 (And.intro HBK.1 (And.intro HBK.2.1 HBK.2.2)))
    have HRR := Lib.hid (show safeN (blankGo D7 fr false ct 0).2 fr (headL 1) = R from HR2.out)
    generalize (blankGo D7 fr false ct 0).2 = D8 at *
    have E8' := E7.trans E8
    clear HB0 HBK HR2 H7 E7 E8
    go_wp2_with fail
    refine (head_any 1 H8 (by omega)).mono ?_
    rintro e w9 ⟨g9, rfl, H9, E9⟩
    go_wp2_with fail
    refine (safe_none fr (some ⟨g9, 0, none⟩) 128 (headL 1) H9.b1 (fun w h => h.own_at.1) (by have := HF.out.1; have := HF.out.2.2; have := HD8.out.2.2.1; have := HD7.out.2.2.1; omega) (by have := HD8.out.2.2.2; have := HD7.out.2.2.2; have := HF.out; omega) HD8.out.1).mono ?_
    rintro e w10 ⟨rfl, H10, E10⟩
    go_wp2_with fail
    go_ret
    rw [← HRR.out]
    exact ⟨rfl, H10.b1.tail, (E8'.trans E9).trans E10⟩
  · by_cases he : 0 < ep
    · have HR2 := Lib.hid (show fmtA (safeN D (fr + sl) noughts) fr ct = R by have := HR.out; rw [if_neg ho, if_pos he] at this; exact this)
      clear HR
      go_wp2_with fail
      refine (nothing_any H5).mono ?_
      rintro e w7a ⟨g7, rfl, H7a, E7a⟩
      go_wp2_with fail
      refine (safe_none (fr + sl) (some ⟨g7, 0, none⟩) 128 noughts H7a.b1 (fun w h => h.own_at.1) (by have := HF.out.1; have := HF.out.2.2; have := HD0.out.2.2.1; have := HS.out; omega) (by have := HD0.out.2.2.2; omega) HD0.out.2.1).mono ?_
      rintro e w7 ⟨rfl, H7b, E7b⟩
      have HK7 := safeN_keep (fr + sl) noughts_inb noughts_len HD0.out.2.1 HD0.out.1
      have HD7 := Lib.hid (show DB (safeN D (fr + sl) noughts) ∧ (safeN D (fr + sl) noughts).left = none ∧ (safeN D (fr + sl) noughts).safe.length = N ∧ (safeN D (fr + sl) noughts).pend.length < 1073741824 from ⟨HK7.2.1, HK7.1, HK7.2.2.1.trans HD0.out.2.2.1, by rw [HK7.2.2.2]; simp⟩)
      have H7 := H7b.b1.tail
      have E7 := (E3.trans E7a).trans E7b
      generalize safeN D (fr + sl) noughts = D7 at *
      clear H7a H7b E7a E7b HK7 HD0 H5 E3
      go_wp2_with fail
      refine (blank_any fr ct H7 (by rw [HD7.out.2.2.1]; exact HF.out.1) (by rw [HD7.out.2.2.1]; exact HF.out.2.1) HD7.out.1 (by have := HD7.out.2.2.2; omega)).mono ?_
      rintro e w8 ⟨rfl, H8, E8⟩
      have HB0 := blank_none fr ct 0 D7 false HD7.out.2.1
      have HBK := blank_keep fr ct 0 D7 false HD7.out.1
      rw [HB0.1]
      have HD8 := Lib.hid (And.intro HB0.2 (And.intro HBK.1 (And.intro HBK.2.1 HBK.2.2)))
      have HRR := Lib.hid (show safeN (blankGo D7 fr false ct 0).2 fr (headL 1) = R from HR2.out)
      generalize (blankGo D7 fr false ct 0).2 = D8 at *
      have E8' := E7.trans E8
      clear HB0 HBK HR2 H7 E7 E8
      go_wp2_with fail
      refine (head_any 1 H8 (by omega)).mono ?_
      rintro e w9 ⟨g9, rfl, H9, E9⟩
      go_wp2_with fail
      refine (safe_none fr (some ⟨g9, 0, none⟩) 128 (headL 1) H9.b1 (fun w h => h.own_at.1) (by have := HF.out.1; have := HF.out.2.2; have := HD8.out.2.2.1; have := HD7.out.2.2.1; omega) (by have := HD8.out.2.2.2; have := HD7.out.2.2.2; have := HF.out; omega) HD8.out.1).mono ?_
      rintro e w10 ⟨rfl, H10, E10⟩
      go_wp2_with fail
      go_ret
      rw [← HRR.out]
      exact ⟨rfl, H10.b1.tail, (E8'.trans E9).trans E10⟩
    · have HR2 := Lib.hid (show fmtA D fr ct = R by have := HR.out; rw [if_neg ho, if_neg he] at this; exact this)
      clear HR
      go_wp2_with fail
      refine (blank_any fr ct H5 (by rw [HD0.out.2.2.1]; exact HF.out.1) (by rw [HD0.out.2.2.1]; exact HF.out.2.1) HD0.out.1 (by have := HD0.out.2.2.2; omega)).mono ?_
      rintro e w8 ⟨rfl, H8, E8⟩
      have HB0 := blank_none fr ct 0 D false HD0.out.2.1
      have HBK := blank_keep fr ct 0 D false HD0.out.1
      rw [HB0.1]
      have HD8 := Lib.hid (And.intro HB0.2 (And.intro HBK.1 (And.intro HBK.2.1 HBK.2.2)))
      have HRR := Lib.hid (show safeN (blankGo D fr false ct 0).2 fr (headL 1) = R from HR2.out)
      generalize (blankGo D fr false ct 0).2 = D8 at *
      have E8' := E3.trans E8
      clear HB0 HBK HR2 H5 E3 E8
      go_wp2_with fail
      refine (head_any 1 H8 (by omega)).mono ?_
      rintro e w9 ⟨g9, rfl, H9, E9⟩
      go_wp2_with fail
      refine (safe_none fr (some ⟨g9, 0, none⟩) 128 (headL 1) H9.b1 (fun w h => h.own_at.1) (by have := HF.out.1; have := HF.out.2.2; have := HD8.out.2.2.1; have := HD0.out.2.2.1; omega) (by have := HD8.out.2.2.2; have := HD0.out.2.2.2; have := HF.out; omega) HD8.out.1).mono ?_
      rintro e w10 ⟨rfl, H10, E10⟩
      go_wp2_with fail
      go_ret
      rw [← HRR.out]
      exact ⟨rfl, H10.b1.tail, (E8'.trans E9).trans E10⟩
end Go.Proofs.Ythbabdjicplooaa
