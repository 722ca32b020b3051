/- WalKeeps' walk. Conditions: none. -/
import Derived.Test.YthbabdjicplooaaWalKeepsBG
namespace Go.Proofs.Ythbabdjicplooaa
open Go.RowKit

def flatW (l : List AskW) : List Value := l.flatMap cellsW
theorem flatW_len (l : List AskW) : (flatW l).length = l.length * 8 := by
  induction l with
  | nil => rfl
  | cons x l ih => simp only [flatW, List.flatMap_cons, List.length_append, List.length_cons] at ih ⊢; simp only [cellsW, List.length_cons, List.length_nil]; omega
theorem flatW_get (l : List AskW) (k : Nat) (hk : k < l.length) (j : Nat) (hj : j < 8) : (flatW l)[k * 8 + j]? = (cellsW l[k])[j]? := by
  induction l generalizing k with
  | nil => simp at hk
  | cons x l ih =>
    cases k with
    | zero =>
      simp only [flatW, List.flatMap_cons, Nat.zero_mul, Nat.zero_add, List.getElem_cons_zero]
      rw [List.getElem?_append_left (by simpa [cellsW] using hj)]
    | succ k =>
      have := ih k (by simpa using hk)
      simp only [flatW, List.flatMap_cons, List.getElem_cons_succ] at this ⊢
      rw [List.getElem?_append_right (by simp [cellsW]; omega), ← this]
      congr 1
      simp [cellsW]; omega
theorem rdW {w : World} {A : Option Addr} {n : Nat} {l : List AskW} (h : Rd w 8 A n (flatW l)) {k : Nat} (hk : k < l.length) :
    ∃ b off, A = some ⟨b, off, none⟩ ∧ ∀ j u, (cellsW l[k])[j]? = some u → w.cell? ⟨b, off + k * 8 + j, none⟩ = some u := by
  obtain ⟨b, off, hA, h0⟩ := h.2 (k * 8 + 0) _ (by rw [flatW_get l k hk 0 (by omega)]; rfl)
  refine ⟨b, off, hA, fun j u hu => ?_⟩
  have hj : j < 8 := by have := (List.getElem?_eq_some_iff.1 hu).1; simpa [cellsW] using this
  obtain ⟨b', off', hA', hc⟩ := h.2 (k * 8 + j) u (by rw [flatW_get l k hk j hj]; exact hu)
  rw [hA] at hA'
  cases hA'
  rw [Nat.add_assoc]; exact hc
/-- The disk's first and last sectors. -/
structure Nbs (D : Dsk) (b : List Int) : Prop where
  len : D.safe.length = 60
  one : D.rd 0 = b
  two : D.rd 59 = b
theorem Nbs.rest {D D' : Dsk} {b : List Int} {L : LogV} {e : Nat} (h : Nbs D b) (hg : GoodW D L e) (hr : Rest D D' L) : Nbs D' b := by
  have h1 := hg.from_
  have h2 := hg.count
  have h3 := h.len
  exact ⟨hr.1.trans h.len, (hr.2 0 (by omega) (by omega)).trans h.one, (hr.2 59 (by omega) (by omega)).trans h.two⟩
theorem nbs_base {D : Dsk} {L : LogV} {b : List Int} (h : Inv D L) (hf : L.from_ = 3) (hc : L.count = 50) (hl : D.safe.length = 60) (hb : InB b) (hb2 : b.length = 128) :
    Inv ((D.write 0 b).write 59 b).flush L ∧ Nbs ((D.write 0 b).write 59 b).flush b := by
  have hlen : (((D.write 0 b).write 59 b)).safe.length = 60 := by
    have h1 : ∀ (D : Dsk) n (x : List Int), (D.write n x).safe = D.safe := fun _ _ _ => rfl
    rw [h1, h1]; exact hl
  have hlf : (((D.write 0 b).write 59 b)).flush.safe.length = 60 := by rw [← hlen]; simp [Dsk.flush, sets_len]
  have hrd : ∀ k, k < 60 → ((D.write 0 b).write 59 b).flush.rd k = if 59 = k then b else if 0 = k then b else D.rd k := fun k hk => by
    rw [rd_flush (by omega), rd_write, rd_write]
  refine ⟨h.other rfl ((h.db.write 0 hb hb2).write 59 hb hb2).flush (hlf.trans hl.symm) (fun k h1 h2 => ?_), hlf, ?_, ?_⟩
  · rw [hrd k (by omega), if_neg (by omega), if_neg (by omega)]
  · rw [hrd 0 (by omega), if_neg (by omega), if_pos rfl]
  · rw [hrd 59 (by omega), if_pos rfl]

set_option maxHeartbeats 16000000 in
set_option maxRecDepth 100000 in
theorem walKeeps_any {w : World} {F : List HP} (A : Option Addr) (n c : Nat) (l : List AskW) (H : Sat w F) (hr : Reads F 8 A n (flatW l)) (hok : ∀ x ∈ l, AskWOk F x) :
    Calls Try.prog 15 #[.slice A n c] w fun e w' => e = .returned (.bool true) ∧ Sat w' F ∧ Env w w' := by
  have HN := Lib.hid (show n = l.length by have := (hr w H).1; rw [flatW_len] at this; omega)
  have HR := Lib.hid hr
  have HOK := Lib.hid hok
  clear hr hok
  go_enter Try.func15, Try.ntmps15
  go_wp2_with fail
  refine (begun4 60 3 50 H (by omega) (by omega) (by omega)).mono ?_
  rintro e w1 ⟨d, p0, D, rfl, hF, H1, E1⟩
  have HI := Lib.hid (hF.inv (by rw [newD_len]; omega) (by rw [newD_len]; omega) (by omega))
  have HL := Lib.hid (show D.left = none ∧ D.safe.length = 60 from ⟨hF.left, hF.len.trans (newD_len 60)⟩)
  clear hF H
  go_wp2_with fail
  refine (record_any 128 7 H1 (by omega) (by omega)).mono ?_
  rintro e w2 ⟨v2, rfl, H2, E2⟩
  obtain ⟨A2, c2, rfl, -, -, -⟩ := H2.own_form
  have HB := Lib.hid (show InB (recordL 128 7) ∧ (recordL 128 7).length = 128 from ⟨recordL_inb _ _, recordL_len _ _⟩)
  generalize recordL 128 7 = b at *
  have E2' := E1.trans E2
  have HNB := Lib.hid (nbs_base HI.out rfl rfl HL.out.2 HB.out.1 HB.out.2)
  clear H1 E1 E2
  go_wp2_with fail
  refine (dwrite 0 A2 c2 b H2.b2 (fun w h => h.own_at.1) (by rw [HL.out.2]; omega) (by rw [HL.out.1]; simp) (by rw [HI.out.pend]; simp)).mono ?_
  rintro e w3 ⟨rfl, H3, E3⟩
  have E3' := E2'.trans E3
  clear H2 E2' E3
  go_wp2_with fail
  refine (dwrite 59 A2 c2 b H3 (fun w h => h.own_at.1) (by show 59 < D.safe.length; rw [HL.out.2]; omega) (by simp [Dsk.write, HL.out.1]) (by simp [Dsk.write, HI.out.pend])).mono ?_
  rintro e w4 ⟨rfl, H4, E4⟩
  have E4' := E3'.trans E4
  clear H3 E3' E4
  go_wp2_with fail
  refine (dflush H4 (by simp [Dsk.write, HL.out.1]) (by simp [Dsk.write, HI.out.pend])).mono ?_
  rintro e w5 ⟨rfl, H5, E5⟩
  have E5' := E4'.trans E5
  have HLF := Lib.hid (show ((D.write 0 b).write 59 b).flush.left = none by simp [Dsk.flush, Dsk.write, HL.out.1])
  generalize ((D.write 0 b).write 59 b).flush = D5 at *
  clear H4 E4' E5 HI HL
  go_upto_block 0 with fail
  have H6 := H5.alloc (.cells #[.pointer (some ⟨d, 0, none⟩), .pointer (some ⟨p0, 0, none⟩), .slice none 0 0, .slice none 0 0, .int .i64 0, .int .i64 0, .int .i64 0, .bool false] 85)
  have E6 := E5'.alloc (.cells #[.pointer (some ⟨d, 0, none⟩), .pointer (some ⟨p0, 0, none⟩), .slice none 0 0, .slice none 0 0, .int .i64 0, .int .i64 0, .int .i64 0, .bool false] 85)
  generalize w5.alloc (.cells #[.pointer (some ⟨d, 0, none⟩), .pointer (some ⟨p0, 0, none⟩), .slice none 0 0, .slice none 0 0, .int .i64 0, .int .i64 0, .int .i64 0, .bool false] 85) = w6 at *
  generalize w5.heap.size = bw at *
  clear H5 E5'
  have H7 : Sat w6 (row bw 85 #[.pointer (some ⟨d, 0, none⟩), .pointer (some ⟨p0, 0, none⟩), (.slice none 0 0), .slice none 0 0, .int .i64 0, .int .i64 0, .int .i64 0, .bool false] :: recL (.slice none 0 0) [] :: logc p0 d (freshL 3 50) :: disk d D5 :: own 5 1 (.slice A2 128 c2) 128 (bytes b) :: F) := (Sat.recL_nil H6.b3.b1).b1
  have HST := Lib.hid (show StW D5 (freshL 3 50) 1 false ∧ Nbs D5 b from ⟨⟨⟨HNB.out.1, rfl, rfl, by decide, fun x hx => by cases hx⟩, fun _ => HLF.out⟩, HNB.out.2⟩)
  clear HNB HLF H6
  go_wp2_with fail
  go_loopw [8] (fun i wr => ∃ (k : Nat) (p : Nat) (A0 : Option Addr) (c0 : Nat) (AK : Option Addr) (nk ck : Nat) (keep : List Bool) (torn nb ag : Int) (ar : Bool) (D : Dsk) (L : LogV), k ≤ n ∧ k ≤ 30 ∧ i = .int .i64 k ∧ Hid (StW D L (k + 1) ar ∧ Nbs D b ∧ CutW (own 5 1 (.slice A2 128 c2) 128 (bytes b) :: F) AK nk keep ag) ∧
    Sat wr (row bw 85 #[.pointer (some ⟨d, 0, none⟩), .pointer (some ⟨p, 0, none⟩), (.slice A0 L.recs.length c0), .slice AK nk ck, .int .i64 torn, .int .i64 nb, .int .i64 ag, .bool ar] :: recL (.slice A0 L.recs.length c0) L.recs :: logc p d L :: disk d D :: own 5 1 (.slice A2 128 c2) 128 (bytes b) :: F) ∧ Env w wr) (fun i _ => n - (intOf i).toNat)
  case atStart => exact ⟨0, p0, none, 0, none, 0, 0, [], 0, 0, 0, false, D5, freshL 3 50, by omega, by omega, rfl, Lib.hid ⟨HST.out.1, HST.out.2, ⟨fun _ _ => Rd.nil _ _ _, by omega⟩⟩, H7, E6⟩
  case round =>
    clear H7 E6 HST
    obtain ⟨k, p, A0, c0, AK, nk, ck, keep, torn, nb, ag, ar, D, L, hk, hk3, rfl, HS, H3, E3⟩ := hrel
    by_cases hlt : k < n
    · by_cases hlt3 : k < 30
      · have hkl : k < l.length := by have := HN.out; omega
        have hk30 : (k : Int) < 30 := by omega
        have hd30 : decide ((k : Int) < 30) = true := by simp; omega
        obtain ⟨b0, off, rfl, hcells⟩ := rdW (HR.out wr H3.tail.tail.tail.tail.tail) hkl
        have hask := HOK.out _ (List.getElem_mem hkl)
        obtain ⟨kd, sz, af, gn, fl, AX, nx, cx, kp, tn, bn, hx⟩ : ∃ kd sz af gn fl AX nx cx kp tn bn, l[k] = ⟨kd, sz, af, gn, fl, AX, nx, cx, kp, tn, bn⟩ := ⟨_, _, _, _, _, _, _, _, _, _, _, rfl⟩
        rw [hx] at hcells hask
        have z0 := hcells 0 _ rfl
        have z1 := hcells 1 _ rfl
        have z2 := hcells 2 _ rfl
        have z3 := hcells 3 _ rfl
        have z4 := hcells 4 _ rfl
        have z5 := hcells 5 _ rfl
        have z6 := hcells 6 _ rfl
        have z7 := hcells 7 _ rfl
        have HAK := Lib.hid hask
        clear hcells hx hask hkl
        rw [Nat.add_zero] at z0
        go_wp2_with fail
        refine (step_any A0 c0 AK nk ck keep torn nb ag ar (k + 1) ⟨kd, sz, af, gn, fl, AX, nx, cx, kp, tn, bn⟩ H3 HS.out.1 HS.out.2.2 ⟨HAK.out.1, HAK.out.2.1, fun w h => HAK.out.2.2 w h.tail⟩ (by omega)).mono ?_
        rintro e w4 ⟨rfl, p', A0', c0', A', nk', ck', keep', torn', nb', ag', ar', D', L', h1, h2, h3, H4, E4⟩
        have HS' := Lib.hid (show StW D' L' (k + 1 + 1) ar' ∧ Nbs D' b ∧ CutW (own 5 1 (.slice A2 128 c2) 128 (bytes b) :: F) A' nk' keep' ag' from ⟨h1, HS.out.2.1.rest HS.out.1.good h3, h2⟩)
        have E4' := E3.trans E4
        clear H3 E3 E4 h1 h2 h3 z0 z1 z2 z3 z4 z5 z6 z7 HAK HS hd30
        go_wp2_with fail
        go_roundw
        case rel => exact ⟨k + 1, p', A0', c0', A', nk', ck', keep', torn', nb', ag', ar', D', L', by omega, by omega, by go_num, HS', H4, E4'⟩
        case measure => simp [intOf]; omega
      · obtain rfl : k = 30 := by omega
        have hd30 : decide ((30 : Int) < 30) = false := by decide
        have H4 := H3.tail.tail.b1
        have HD := Lib.hid HS.out.2.1
        clear H3 HS
        go_wp2_with fail
        refine (dread 0 H4 (by rw [HD.out.len]; omega)).mono ?_
        rintro e w4 ⟨v4, rfl, H5, E5⟩
        obtain ⟨A5, c5, rfl, -, -, -⟩ := H5.own_form
        rw [HD.out.one] at H5
        have E5' := E3.trans E5
        clear H4 E3 E5
        go_wp2_with fail
        refine (dread 59 H5.b1 (by rw [HD.out.len]; omega)).mono ?_
        rintro e w6 ⟨v6, rfl, H6, E6⟩
        obtain ⟨A6, c6, rfl, -, -, -⟩ := H6.own_form
        rw [HD.out.two] at H6
        have E6' := E5'.trans E6
        have cv1 := conv_rd (c := c6) H6.own_at.1 (by omega)
        have cv2 := conv_rd (c := c5) H6.b2.own_at.1 (by omega)
        have cv3 := conv_rd (c := c2) H6.b4.own_at.1 (by omega)
        generalize strOfNums b = st at *
        clear H5 E5' E6
        go_wp2_with fail
        refine (known4 H6).mono ?_
        rintro e w7 ⟨rfl, H7, E7⟩
        go_wp2_with fail
        go_ret
        exact ⟨rfl, H7.tail.tail.tail.tail.tail, E6'.trans E7⟩
    · obtain rfl : k = n := by omega
      have H4 := H3.tail.tail.b1
      have HD := Lib.hid HS.out.2.1
      clear H3 HS
      go_wp2_with fail
      refine (dread 0 H4 (by rw [HD.out.len]; omega)).mono ?_
      rintro e w4 ⟨v4, rfl, H5, E5⟩
      obtain ⟨A5, c5, rfl, -, -, -⟩ := H5.own_form
      rw [HD.out.one] at H5
      have E5' := E3.trans E5
      clear H4 E3 E5
      go_wp2_with fail
      refine (dread 59 H5.b1 (by rw [HD.out.len]; omega)).mono ?_
      rintro e w6 ⟨v6, rfl, H6, E6⟩
      obtain ⟨A6, c6, rfl, -, -, -⟩ := H6.own_form
      rw [HD.out.two] at H6
      have E6' := E5'.trans E6
      have cv1 := conv_rd (c := c6) H6.own_at.1 (by omega)
      have cv2 := conv_rd (c := c5) H6.b2.own_at.1 (by omega)
      have cv3 := conv_rd (c := c2) H6.b4.own_at.1 (by omega)
      generalize strOfNums b = st at *
      clear H5 E5' E6
      go_wp2_with fail
      refine (known4 H6).mono ?_
      rintro e w7 ⟨rfl, H7, E7⟩
      go_wp2_with fail
      go_ret
      exact ⟨rfl, H7.tail.tail.tail.tail.tail, E6'.trans E7⟩
end Go.Proofs.Ythbabdjicplooaa
