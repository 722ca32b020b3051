/- WalBare's walk. Conditions: none. -/
import Derived.Test.YthbabdjicplooaaWalKnownG
import Derived.Test.YthbabdjicplooaaPlaysLibG
namespace Go.Proofs.Ythbabdjicplooaa
open Go.RowKit

theorem Sat.recL_form {w : World} {v : Value} {l : List (List Int)} {F : List HP} (H : Sat w (recL v l :: F)) : ∃ A c, v = .slice A l.length c := by
  obtain ⟨A, c, R, rfl, -, -, h, -⟩ := H.recL_rd
  exact ⟨A, c, by rw [← h, List.length_map]⟩
theorem epochAt_noughts : epochAt noughts = 0 := by
  unfold epochAt
  rw [if_neg (fun h => by have : ofBE (noughts.take 8) = 0 := by decide
                          omega)]
theorem openD_new (n fr ct : Nat) : openD (newD n) fr ct = none := by
  unfold openD epD heldD
  simp only [newD_rd, epochAt_noughts]
  split <;> simp

set_option maxHeartbeats 8000000 in
set_option maxRecDepth 100000 in
theorem walBare_any {w : World} {F : List HP} (A : Option Addr) (n c : Nat) (l : List Int) (x : Int) (H : Sat w F) (hr : Reads F 1 A n (bytes l)) (hb : InB l) :
    Calls Try.prog 10 #[.slice A n c, .int .i64 x] w fun e w' => e = .returned (.bool true) ∧ Sat w' F ∧ Env w w' := by
  have hlen : l.length = n := by have := (hr w H).1; simpa [bytes] using this
  have HR := Lib.hid hr
  have HL := Lib.hid (show l.length = n ∧ InB l from ⟨hlen, hb⟩)
  clear hr hlen hb
  go_enter Try.func10, Try.ntmps10
  go_wp2_with fail
  refine (dnew 12 H (by omega) (by omega)).mono ?_
  rintro e w2 ⟨d, rfl, H2, E2⟩
  go_wp2_with fail
  refine (open_log 0 12 H2 (by omega) (by rw [newD_len]; omega) (by rw [newD_len]; omega) (newD_db 12)).mono ?_
  rintro e w3 (⟨-, rfl, H3, E3⟩ | ⟨L', p', h1, -⟩)
  · have E3' := E2.trans E3
    have HD0 := Lib.hid (show (newD 12).left = none ∧ DB (newD 12) ∧ (newD 12).safe.length = 12 ∧ (newD 12).pend.length ≤ 0 from ⟨rfl, newD_db 12, newD_len 12, by show 0 ≤ 0; omega⟩)
    generalize newD 12 = D0 at *
    clear H H2 E2 E3
    go_wp2_with fail
    go_loopw [9] (fun i wr => ∃ (k : Nat) (D : Dsk), k ≤ n ∧ k ≤ 12 ∧ i = .int .i64 k ∧ Hid (D.left = none ∧ DB D ∧ D.safe.length = 12 ∧ D.pend.length ≤ k) ∧ Sat wr (disk d D :: F) ∧ Env w wr) (fun i _ => n - (intOf i).toNat)
    case atStart => exact ⟨0, D0, by omega, by omega, rfl, HD0, H3, E3'⟩
    case round =>
      clear H3 E3' HD0
      obtain ⟨k, D, hk, hk2, rfl, hD, H4, E4⟩ := hrel
      by_cases hlt : k < n ∧ k < 12
      · obtain ⟨hlt1, hlt2⟩ := hlt
        have hkl : k < l.length := by rw [HL.out.1]; exact hlt1
        obtain ⟨b, o, rfl, hc⟩ := (HR.out _ H4.tail).2 k (.int .u8 l[k]) (by simp [bytes, hkl])
        have hx := HL.out.2 _ (List.getElem_mem hkl)
        generalize l[k] = y at hc hx
        have HX := Lib.hid hx
        clear hkl hx
        go_wp2_with fail
        refine (record_any 128 y H4 HX.out (by omega)).mono ?_
        rintro e w5 ⟨v5, rfl, H5, E5⟩
        obtain ⟨A5, c5, rfl, -, -, -⟩ := H5.own_form
        have E5' := E4.trans E5
        clear H4 E4 E5
        go_wp2_with fail
        refine (dwrite k A5 c5 (recordL 128 y) H5.b1 (fun w h => h.own_at.1) (by rw [hD.out.2.2.1]; omega) (by rw [hD.out.1]; simp) (by have := hD.out.2.2.2; omega)).mono ?_
        rintro e w6 ⟨rfl, H6, E6⟩
        have H7 := H6.b1.tail
        have E7 := E5'.trans E6
        have HD2 := Lib.hid (show (D.write k (recordL 128 y)).left = none ∧ DB (D.write k (recordL 128 y)) ∧ (D.write k (recordL 128 y)).safe.length = 12 ∧ (D.write k (recordL 128 y)).pend.length ≤ k + 1 from ⟨by simp [Dsk.write, hD.out.1], hD.out.2.1.write k (recordL_inb _ _) (recordL_len _ _), hD.out.2.2.1, by have := hD.out.2.2.2; simp [Dsk.write]; omega⟩)
        clear H5 H6 E5' E6 hc
        go_wp2_with fail
        go_roundw
        case rel => exact ⟨k + 1, _, by omega, by omega, by go_num, HD2, H7, E7⟩
        case measure => simp [intOf]; omega
      · have HEND := Lib.hid (show ¬ k < n ∨ (k < n ∧ ¬ k < 12) by omega)
        have HFR := Lib.hid (format_fresh (D := D) 0 12 hD.out.1 hD.out.2.1 (by rw [hD.out.2.2.1]; omega) (by omega))
        have HFL := Lib.hid (fun (w9 : World) (H9 : Sat w9 (disk d D :: F)) => format_log 0 12 H9 (by omega) (by rw [hD.out.2.2.1]; omega) (by rw [hD.out.2.2.1]; omega) hD.out.2.1 (by have := hD.out.2.2.2; omega) hD.out.1)
        have HI := Lib.hid (HFR.out.inv (by rw [hD.out.2.2.1]; omega) (by rw [hD.out.2.2.1]; omega) (by omega))
        generalize formatD D 0 12 = D2 at *
        have hx50 := within_range x (lo := 0) (hi := 50) (by omega)
        obtain ⟨m, hm⟩ := Int.eq_ofNat_of_zero_le hx50.1
        rw [hm] at hx50
        have HM := Lib.hid hm
        have hm50 : m ≤ 50 := by omega
        have hwm : IntKind.i64.wrap (1 + (m : Int)) = ((1 + m : Nat) : Int) := by rw [IntWalk.i64_in _ (by omega)]; omega
        clear hx50 hm hlt
        rcases HEND.out with h5 | ⟨h5, h6⟩
        · go_wp2_with fail
          refine (HFL.out _ H4).mono ?_
          rintro e w5 ⟨rfl, H5, E5⟩
          go_wp2_with fail
          refine (open_inv HI.out H5).mono ?_
          rintro e w6 ⟨p, rfl, H6, E6⟩
          have E6' := (E4.trans E5).trans E6
          clear H4 H5 E4 E5 E6
          go_wp2_with fail
          refine (records_log H6 HI.out.ok (fun b hb => by cases hb)).mono ?_
          rintro e w7 ⟨v7, rfl, H7, E7⟩
          obtain ⟨A7, c7, rfl⟩ := H7.recL_form
          have E7' := E6'.trans E7
          go_wp2_with fail
          refine (within_any x 0 50 _ (by omega) (by omega) (by omega)).mono ?_
          rintro e w8 ⟨rfl, rfl⟩
          rw [HM.out]
          go_wp2_with fail
          refine (record_any (1 + m) 1 H7.tail (by omega) (by omega)).mono ?_
          rintro e w9 ⟨v9, rfl, H9, E9⟩
          obtain ⟨A9, c9, rfl, hc9, -, -⟩ := H9.own_form
          have E9' := E7'.trans E9
          clear H6 H7 E6' E7 E7' E9
          go_wp2_with fail
          refine (commit_fine A9 (1 + m) c9 (recordL (1 + m) 1) HI.out HFR.out.left H9.b2.b2 (fun w h => h.own_at.1) hc9 (by rw [recordL_len]; omega) (recordL_inb _ _) (by rw [recordL_len]; show 1 + m ≤ (12 - 2 - 0) * 107; omega)).mono ?_
          rintro e w10 ⟨rfl, D10, -, -, -, H10, E10⟩
          have H11 := H10.tail.tail.tail
          have E11 := E9'.trans E10
          clear H9 H10 E9' E10 hwm
          go_wp2_with fail
          refine (known4 H11).mono ?_
          rintro e w12 ⟨rfl, H12, E12⟩
          go_wp2_with fail
          go_ret
          exact ⟨rfl, H12, E11.trans E12⟩
        · go_wp2_with fail
          refine (HFL.out _ H4).mono ?_
          rintro e w5 ⟨rfl, H5, E5⟩
          go_wp2_with fail
          refine (open_inv HI.out H5).mono ?_
          rintro e w6 ⟨p, rfl, H6, E6⟩
          have E6' := (E4.trans E5).trans E6
          clear H4 H5 E4 E5 E6
          go_wp2_with fail
          refine (records_log H6 HI.out.ok (fun b hb => by cases hb)).mono ?_
          rintro e w7 ⟨v7, rfl, H7, E7⟩
          obtain ⟨A7, c7, rfl⟩ := H7.recL_form
          have E7' := E6'.trans E7
          go_wp2_with fail
          refine (within_any x 0 50 _ (by omega) (by omega) (by omega)).mono ?_
          rintro e w8 ⟨rfl, rfl⟩
          rw [HM.out]
          go_wp2_with fail
          refine (record_any (1 + m) 1 H7.tail (by omega) (by omega)).mono ?_
          rintro e w9 ⟨v9, rfl, H9, E9⟩
          obtain ⟨A9, c9, rfl, hc9, -, -⟩ := H9.own_form
          have E9' := E7'.trans E9
          clear H6 H7 E6' E7 E7' E9
          go_wp2_with fail
          refine (commit_fine A9 (1 + m) c9 (recordL (1 + m) 1) HI.out HFR.out.left H9.b2.b2 (fun w h => h.own_at.1) hc9 (by rw [recordL_len]; omega) (recordL_inb _ _) (by rw [recordL_len]; show 1 + m ≤ (12 - 2 - 0) * 107; omega)).mono ?_
          rintro e w10 ⟨rfl, D10, -, -, -, H10, E10⟩
          have H11 := H10.tail.tail.tail
          have E11 := E9'.trans E10
          clear H9 H10 E9' E10 hwm
          go_wp2_with fail
          refine (known4 H11).mono ?_
          rintro e w12 ⟨rfl, H12, E12⟩
          go_wp2_with fail
          go_ret
          exact ⟨rfl, H12, E11.trans E12⟩
  · rw [openD_new] at h1; cases h1
end Go.Proofs.Ythbabdjicplooaa

/- package wal in use, on a disk that does not stop: a log beside another one, commits one after another, Clear, Open. Conditions: epochs below 249. -/
namespace Go.Proofs.Ythbabdjicplooaa
open Go.RowKit

/-- A log is as it was, if its sectors are. -/
theorem Inv.other {D C : Dsk} {L : LogV} (h : Inv D L) (hp : C.pend = []) (hb : DB C) (hl : C.safe.length = D.safe.length) (ho : ∀ k, L.from_ ≤ k → k < L.from_ + L.count → C.rd k = D.rd k) : Inv C L := by
  have hf := h.fit
  have hs := h.sl
  have h4 := h.four
  have hnx := h.nx
  have hat : atL L = L.from_ + 2 + L.next := rfl
  refine ⟨hp, hb, h.ep, h.sl, by rw [hl]; exact hf, by rw [hl]; exact h.len, h.four, by rw [ho _ (by omega) (by omega)]; exact h.head, by rw [ho _ (by omega) (by omega)]; exact h.oth, h.cur, ?_, fun k h1 h2 => by rw [ho k (by omega) h2]; exact h.gs k h1 h2, hnx, h.rl, h.inl⟩
  have := laid_move (D' := C) h.db [] L.recs _ h.laid (fun k h1 h2 => by
    rw [h.cur] at h2
    have h1 : L.from_ + 2 + 0 ≤ k := h1
    exact ho k (by omega) (by omega)) (by
      rw [h.cur]
      show readD C L = none
      cases hr : readD C L with
      | none => rfl
      | some x =>
        obtain ⟨h5, h6, -, -⟩ := readD_some hb hr
        have hxn : L.next + 2 + partsN x.length ≤ L.count := by unfold roomL at h6; unfold partsN; omega
        have := readD_congr (D' := D) hb hr fun p hp => (ho _ (by omega) (by omega)).symm
        rw [h.ends] at this
        cases this)
  rwa [List.append_nil] at this
/-- What Commit makes of a log that has room. -/
def addL (L : LogV) (b : List Int) : LogV := if b.length = 0 then L else commitL L b
def codeL (b : List Int) : Int := if b.length = 0 then 1 else 0
theorem codeL_eq (b : List Int) : (codeL b == 0) = decide ((0 : Int) < (b.length : Int)) := by
  unfold codeL
  split
  · rw [decide_eq_false (by omega)]; rfl
  · rw [decide_eq_true (by omega)]; rfl
theorem commit_add {w : World} {p d : Nat} {L : LogV} {D : Dsk} {F : List HP} (A : Option Addr) (n c : Nat) (b : List Int) (h : Inv D L) (hl : D.left = none) (H : Sat w (logc p d L :: disk d D :: F)) (hr : Reads F 1 A n (bytes b)) (hnc : n ≤ c) (hbb : InB b) (hbr : b.length ≤ roomL L) :
    Calls Try.prog 47 #[.pointer (some ⟨p, 0, none⟩), .slice A n c] w fun e w' => e = .returned (.int .i64 (codeL b)) ∧ ∃ D', Inv D' (addL L b) ∧ D'.left = none ∧ Rest D D' L ∧ Sat w' (logc p d (addL L b) :: disk d D' :: F) ∧ Env w w' := by
  have hn : b.length = n := by have := (hr w H.tail.tail).1; simpa [bytes] using this
  by_cases h0 : b.length = 0
  · have h1 : codeL b = 1 := if_pos h0
    have h2 : addL L b = L := if_pos h0
    rw [h1, h2]
    rw [h0] at hn
    subst hn
    exact (commit_nil A c h H).mono fun _ _ ⟨he, h3, h4⟩ => ⟨he, D, h, hl, ⟨rfl, fun _ _ _ => rfl⟩, h3, h4⟩
  · have h1 : codeL b = 0 := if_neg h0
    have h2 : addL L b = commitL L b := if_neg h0
    rw [h1, h2]
    exact commit_fine A n c b h hl H hr hnc (by omega) hbb hbr
theorem clear_none {D : Dsk} {L : LogV} (h : D.left = none) : (clearD D L).1 = 0 ∧ (clearD D L).2.left = none := by
  unfold clearD safeD
  have hw : (D.write (L.from_ + (1 - L.slot)) (headL (L.epoch + 1))).left = none := by simp [Dsk.write, h]
  rw [if_neg (by rw [h]; simp)]
  exact ⟨by simp [fcode, hw], by simp [fnext, hw, Dsk.flush]⟩
/-- Clear, on a disk that does not stop. -/
theorem clear_fine {w : World} {p d : Nat} {L : LogV} {D : Dsk} {F : List HP} (h : Inv D L) (hl : D.left = none) (he : L.epoch + 1 < 250) (H : Sat w (logc p d L :: disk d D :: F)) :
    Calls Try.prog 53 #[.pointer (some ⟨p, 0, none⟩)] w fun e w' => e = .returned (.int .i64 0) ∧ ∃ D', Inv D' (clearL L) ∧ D'.left = none ∧ Rest D D' L ∧ Sat w' (logc p d (clearL L) :: disk d D' :: F) ∧ Env w w' := by
  have hc := clear_none (L := L) hl
  refine (clear_log H h.ok h.sl (by omega) (by have := h.fit; have := h.four; omega) (by rw [h.pend]; simp)).mono ?_
  rintro e w' ⟨rfl, h2, h3⟩
  rcases clear_inv h he with ⟨-, h4, h5⟩ | ⟨h4, -⟩
  · rw [if_pos hc.1] at h2
    rw [hc.1]
    exact ⟨rfl, _, h4, hc.2, h5, h2, h3⟩
  · rw [hc.1] at h4; cases h4
theorem open_at {w : World} {d : Nat} {D : Dsk} {L : LogV} {F : List HP} (fr ct : Nat) (h : Inv D L) (hf : L.from_ = fr) (hc : L.count = ct) (H : Sat w (disk d D :: F)) :
    Calls Try.prog 50 #[.pointer (some ⟨d, 0, none⟩), .int .i64 fr, .int .i64 ct] w fun e w' => ∃ p, e = .returned (.tuple #[.pointer (some ⟨p, 0, none⟩), .int .i64 0]) ∧ Sat w' (logc p d L :: disk d D :: F) ∧ Env w w' := by
  subst hf; subst hc
  exact open_inv h H
/-- The same record, again and again. -/
def repL (b : List Int) : Nat → LogV → LogV
  | 0, L => L
  | k + 1, L => addL (repL b k L) b
theorem addL_keep (L : LogV) (b : List Int) : (addL L b).from_ = L.from_ ∧ (addL L b).count = L.count ∧ (addL L b).epoch = L.epoch ∧ (addL L b).slot = L.slot ∧ (addL L b).next ≤ L.next + partsN b.length := by
  unfold addL
  split
  · exact ⟨rfl, rfl, rfl, rfl, by omega⟩
  · exact ⟨rfl, rfl, rfl, rfl, Nat.le_refl _⟩
theorem repL_keep (b : List Int) (L : LogV) : ∀ k, (repL b k L).from_ = L.from_ ∧ (repL b k L).count = L.count ∧ (repL b k L).epoch = L.epoch ∧ (repL b k L).next ≤ L.next + k * partsN b.length
  | 0 => ⟨rfl, rfl, rfl, by simp [repL]⟩
  | k + 1 => by
    obtain ⟨h1, h2, h3, h4⟩ := repL_keep b L k
    obtain ⟨g1, g2, g3, -, g5⟩ := addL_keep (repL b k L) b
    exact ⟨g1.trans h1, g2.trans h2, g3.trans h3, by show (addL _ b).next ≤ _; rw [Nat.add_mul]; omega⟩
theorem repL_recs (b : List Int) (L : LogV) : ∀ k, (repL b k L).recs = L.recs ++ (if b.length = 0 then [] else List.replicate k b)
  | 0 => by show L.recs = _; split <;> simp
  | k + 1 => by
    show (addL (repL b k L) b).recs = _
    have ih := repL_recs b L k
    unfold addL
    split
    · rename_i h; rw [ih, if_pos h]
    · rename_i h
      show (repL b k L).recs ++ [b] = _
      rw [ih, if_neg h, List.append_assoc, List.replicate_succ']
theorem same_true (va vb : Value) (l : List (List Int)) (w : World) (h1 : RdB w va l) (h2 : RdB w vb l) (hl : l.length < 4294967296) (ha : InL l) :
    Calls Try.prog 54 #[va, vb] w fun e w' => e = .returned (.bool true) ∧ ∃ q, w' = w.drewN q :=
  (same_any va vb l l w h1 h2 hl ha ha).mono fun _ _ ⟨he, hq⟩ => ⟨by rw [he, decide_eq_true rfl], hq⟩
end Go.Proofs.Ythbabdjicplooaa

/- package wal on a disk that may stop: what Commit and Clear leave, and what a crash makes of it. Conditions: epochs below 249. -/
namespace Go.Proofs.Ythbabdjicplooaa
open Go.RowKit

theorem Inv.stopped {D : Dsk} {L : LogV} (h : Inv D L) (o : Option Nat) : Inv { D with left := o } L := by
  obtain ⟨S, P, q⟩ := D
  have hp : P = [] := h.pend
  subst hp
  exact h.other (C := ⟨S, [], o⟩) rfl h.db rfl (fun k _ _ => rfl)
/-- A call that would make L' of a log L has gone (r = 0), or the disk has stopped in its midst (r = 13). -/
structure Went (D D' : Dsk) (L L' : LogV) (r : Int) : Prop where
  or : r = 0 ∨ r = 13
  ok : r = 0 → Inv D' L' ∧ Rest D D' L
  no : r = 13 → ∀ keep torn nb, (Inv (D'.crash keep torn nb) L ∨ Inv (D'.crash keep torn nb) L') ∧ Rest D (D'.crash keep torn nb) L
  pend : D'.pend.length < 1000000
  fine : D.left = none → r = 0 ∧ D'.left = none
theorem Rest.crash {D D' : Dsk} {L L' : LogV} (h : Rest D D' L) (hi : Inv D' L') (keep : List Bool) (torn nb : Int) : Rest D (D'.crash keep torn nb) L :=
  ⟨(crash_len _ _ _ _).1.trans h.1, fun k hk hr => (crash_same hi.pend keep torn nb (by rw [h.1]; exact hk)).trans (h.2 k hk hr)⟩
theorem Went.crash {D D' : Dsk} {L L' : LogV} {r : Int} (h : Went D D' L L' r) (keep : List Bool) (torn nb : Int) : ∃ M, (M = L ∨ M = L') ∧ (r = 0 → M = L') ∧ Inv (D'.crash keep torn nb) M ∧ Rest D (D'.crash keep torn nb) L := by
  rcases h.or with rfl | rfl
  · have := h.ok rfl
    exact ⟨L', .inr rfl, fun _ => rfl, this.1.crash keep torn nb, this.2.crash this.1 keep torn nb⟩
  · obtain ⟨h1 | h1, h2⟩ := h.no rfl keep torn nb
    · exact ⟨L, .inl rfl, fun h => by omega, h1, h2⟩
    · exact ⟨L', .inr rfl, fun _ => rfl, h1, h2⟩
theorem commit_went {D : Dsk} {L : LogV} {b : List Int} (h : Inv D L) (h0 : 0 < b.length) (hbb : InB b) (hbr : b.length ≤ roomL L) : Went D (commitD D L b).2 L (commitL L b) (commitD D L b).1 := by
  have hlen := h.len
  have hfit := h.fit
  have hnx := h.nx
  have hpn : partsN b.length ≤ 8192 := by unfold roomL at hbr; unfold partsN; omega
  have hk := blank_keep (atL L) (partsN b.length) 0 D false h.db
  have hq := puts_keep L b hbb (partsN b.length) 0 _ hk.1
  have hp : (commitD D L b).2.pend.length < 1000000 := by
    have h1 := hk.2.2
    have h2 := hq.2.2.1
    rw [h.pend] at h1
    simp only [List.length_nil] at h1
    unfold commitD
    rw [if_neg (by omega), if_neg (by omega)]
    split <;> omega
  have hf : D.left = none → (commitD D L b).1 = 0 ∧ (commitD D L b).2.left = none := fun hl => commit_none h.db hbb hl h0 hbr
  rcases commit_inv h h0 hbb hbr with ⟨h1, h2, h3⟩ | ⟨h1, h2⟩
  · exact ⟨.inl h1, fun _ => ⟨h2, h3⟩, fun e => by omega, hp, hf⟩
  · exact ⟨.inr h1, fun e => by omega, fun _ => h2, hp, hf⟩
theorem clear_went {D : Dsk} {L : LogV} (h : Inv D L) (he : L.epoch + 1 < 250) : Went D (clearD D L).2 L (clearL L) (clearD D L).1 := by
  have hp : (clearD D L).2.pend.length < 1000000 := by
    unfold clearD safeD
    split
    · rw [h.pend]; simp
    · have := (fnext_len (D.write (L.from_ + (1 - L.slot)) (headL (L.epoch + 1)))).2
      have h2 : (D.write (L.from_ + (1 - L.slot)) (headL (L.epoch + 1))).pend.length = 1 := by simp [Dsk.write, h.pend]
      dsimp only
      omega
  have hf : D.left = none → (clearD D L).1 = 0 ∧ (clearD D L).2.left = none := clear_none
  rcases clear_inv h he with ⟨h1, h2, h3⟩ | ⟨h1, h2⟩
  · exact ⟨.inl h1, fun _ => ⟨h2, h3⟩, fun e => by omega, hp, hf⟩
  · exact ⟨.inr h1, fun e => by omega, fun _ => h2, hp, hf⟩
/-- Commit, on a disk that may stop. -/
theorem commit_may {w : World} {p d : Nat} {L : LogV} {D : Dsk} {F : List HP} (A : Option Addr) (n c : Nat) (b : List Int) (h : Inv D L) (H : Sat w (logc p d L :: disk d D :: F)) (hr : Reads F 1 A n (bytes b)) (hnc : n ≤ c) (h0 : 0 < b.length) (hbb : InB b) (hbr : b.length ≤ roomL L) :
    Calls Try.prog 47 #[.pointer (some ⟨p, 0, none⟩), .slice A n c] w fun e w' => ∃ r D', e = .returned (.int .i64 r) ∧ Went D D' L (commitL L b) r ∧ Sat w' (logc p d (okL r (commitL L b) L) :: disk d D' :: F) ∧ Env w w' := by
  have hn : b.length = n := by have := (hr w H.tail.tail).1; simpa [bytes] using this
  have hlen := h.len
  have hfit := h.fit
  have hnx := h.nx
  have hrl := h.rl
  exact (commit_log A n c b H hr hnc (by unfold roomL at hbr; omega) hbb h.ok h.fit h.len h.db (by rw [h.pend]; simp) (by omega)).mono fun e w' ⟨h1, h2, h3⟩ => ⟨_, _, h1, commit_went h h0 hbb hbr, h2, h3⟩
theorem clear_may {w : World} {p d : Nat} {L : LogV} {D : Dsk} {F : List HP} (h : Inv D L) (he : L.epoch + 1 < 250) (H : Sat w (logc p d L :: disk d D :: F)) :
    Calls Try.prog 53 #[.pointer (some ⟨p, 0, none⟩)] w fun e w' => ∃ r D', e = .returned (.int .i64 r) ∧ Went D D' L (clearL L) r ∧ Sat w' (logc p d (okL r (clearL L) L) :: disk d D' :: F) ∧ Env w w' := by
  have hep := h.ep
  exact (clear_log H h.ok h.sl (by omega) (by have := h.fit; have := h.four; omega) (by rw [h.pend]; simp)).mono fun e w' ⟨h1, h2, h3⟩ => ⟨_, _, h1, clear_went h he, h2, h3⟩
end Go.Proofs.Ythbabdjicplooaa
