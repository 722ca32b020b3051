/- package wal's plain law, seventh part: Clear, a crash, Format. Conditions: epochs below 250, fewer than 8193 sectors. -/
import Derived.Test.YthbabdjicplooaaWalJG
namespace Go.Proofs.Ythbabdjicplooaa
open Go.RowKit

theorem Inv.clear {D C : Dsk} {L : LogV} (h : Inv D L) (he : L.epoch + 1 < 250) (hp : C.pend = []) (hb : DB C) (hl : C.safe.length = D.safe.length) (ho : ∀ k, k < D.safe.length → k ≠ L.from_ + (1 - L.slot) → C.rd k = D.rd k)
    (hh : C.rd (L.from_ + (1 - L.slot)) = headL (L.epoch + 1)) : Inv C (clearL L) := by
  have hf := h.fit
  have hs := h.sl
  have hep := h.ep
  have h4 := h.four
  have hgs : ∀ k, L.from_ + 2 ≤ k → k < L.from_ + L.count → Gs (C.rd k) (L.epoch + 1) 0 := fun k h1 h2 => by
    rw [ho k (by omega) (by omega)]
    exact (h.gs k h1 h2).next (by omega) 0
  refine ⟨hp, hb, ⟨by show 1 ≤ L.epoch + 1; omega, he⟩, by show 1 - L.slot < 2; omega, by rw [hl]; exact hf, by rw [hl]; exact h.len, h4, hh, ?_, rfl, ?_, fun k h1 h2 => (hgs k h1 h2).mono (Nat.zero_le _), by show 0 + 2 ≤ L.count; omega, Nat.le_refl _, fun x hx => by cases hx⟩
  · show Oth (C.rd (L.from_ + (1 - (1 - L.slot)))) (L.epoch + 1)
    rw [show 1 - (1 - L.slot) = L.slot by omega, ho _ (by omega) (by omega), h.head]
    exact oth_head (by omega) (by omega)
  · show readD C (clearL L) = none
    cases hr : readD C (clearL L) with
    | none => rfl
    | some x =>
      exfalso
      obtain ⟨h1, -, -, h2⟩ := readD_some hb hr
      have h3 := h2 0 (by unfold partsN; omega)
      have := gs_ok (m := 0) h3 (hgs _ (by show L.from_ + 2 ≤ L.from_ + 2 + 0 + 0; omega) (by show L.from_ + 2 + 0 + 0 < _; omega)) (by show 0 ≤ L.epoch + 1; omega) (by show L.epoch + 1 < 256; omega) (by show (0 : Nat) < _; omega)
      omega
/-- The log is as it was, if the head that does not hold is none or an old one. -/
theorem Inv.turn {D C : Dsk} {L : LogV} (h : Inv D L) (hp : C.pend = []) (hb : DB C) (hl : C.safe.length = D.safe.length) (ho : ∀ k, k < D.safe.length → k ≠ L.from_ + (1 - L.slot) → C.rd k = D.rd k)
    (hh : Oth (C.rd (L.from_ + (1 - L.slot))) L.epoch) : Inv C L := by
  have hf := h.fit
  have hs := h.sl
  have hep := h.ep
  have h4 := h.four
  have hnx := h.nx
  refine ⟨hp, hb, h.ep, h.sl, by rw [hl]; exact hf, by rw [hl]; exact h.len, h4, by rw [ho _ (by omega) (by omega)]; exact h.head, hh, h.cur, ?_, fun k h1 h2 => by rw [ho k (by omega) (by omega)]; exact h.gs k h1 h2, hnx, h.rl, h.inl⟩
  have hat : atL L = L.from_ + 2 + L.next := rfl
  have := laid_move (D' := C) h.db [] L.recs _ h.laid (fun k h1 h2 => by
    rw [h.cur] at h2
    have h1 : L.from_ + 2 + 0 ≤ k := h1
    exact ho k (by omega) (by omega)) (by
      rw [h.cur]
      show readD C L = none
      cases hr : readD C L with
      | none => rfl
      | some x =>
        obtain ⟨h5, h6, -, -⟩ := readD_some hb hr
        have hxn : L.next + 2 + partsN x.length ≤ L.count := by unfold roomL at h6; unfold partsN; omega
        have := readD_congr (D' := D) hb hr fun p hp => (ho _ (by omega) (by omega)).symm
        rw [h.ends] at this
        cases this)
  rwa [List.append_nil] at this
theorem crash_same {D : Dsk} (h : D.pend = []) (keep : List Bool) (torn nb : Int) {k : Nat} (hk : k < D.safe.length) : (D.crash keep torn nb).rd k = D.rd k := by
  rcases (Up.zero h 0 0 (fun _ => noughts)).crash h keep torn nb hk with h1 | ⟨_, h1, _⟩
  · exact h1
  · omega
theorem Inv.crash {D : Dsk} {L : LogV} (h : Inv D L) (keep : List Bool) (torn nb : Int) : Inv (D.crash keep torn nb) L := by
  have hf := h.fit
  have h4 := h.four
  have hs := h.sl
  exact h.turn rfl (h.db.crash keep torn nb) (crash_len _ _ _ _).1 (fun k hk _ => crash_same h.pend keep torn nb hk) (by rw [crash_same h.pend keep torn nb (by omega)]; exact h.oth)
theorem clear_inv {D : Dsk} {L : LogV} (h : Inv D L) (he : L.epoch + 1 < 250) :
    ((clearD D L).1 = 0 ∧ Inv (clearD D L).2 (clearL L) ∧ Rest D (clearD D L).2 L) ∨
    ((clearD D L).1 = 13 ∧ ∀ keep torn nb, (Inv ((clearD D L).2.crash keep torn nb) L ∨ Inv ((clearD D L).2.crash keep torn nb) (clearL L)) ∧ Rest D ((clearD D L).2.crash keep torn nb) L) := by
  have hf := h.fit
  have hs := h.sl
  have hep := h.ep
  have h4 := h.four
  obtain ⟨n, hn⟩ : ∃ n, L.from_ + (1 - L.slot) = n := ⟨_, rfl⟩
  unfold clearD safeD
  rw [hn]
  by_cases hl : D.left = some 0
  · rw [if_pos hl]
    exact .inr ⟨rfl, fun keep torn nb => ⟨.inl (h.crash keep torn nb), (crash_len _ _ _ _).1, fun k hk _ => crash_same h.pend keep torn nb hk⟩⟩
  · rw [if_neg hl]
    have hu : Up D (D.write n (headL (L.epoch + 1))) n (n + 1) (fun _ => headL (L.epoch + 1)) := (Up.zero h.pend n n (fun _ => headL (L.epoch + 1))).write (Nat.le_refl _)
    have hw := h.db.write n (headL_inb (L.epoch + 1)) (headL_len _)
    generalize hW : D.write n (headL (L.epoch + 1)) = W at *
    unfold fcode fnext
    by_cases hl2 : W.left = some 0
    · rw [if_pos hl2, if_pos hl2]
      refine .inr ⟨rfl, fun keep torn nb => ?_⟩
      have hc := fun k (hk : k < D.safe.length) => hu.crash h.pend keep torn nb hk
      have hdb := hw.crash keep torn nb
      have hcl : (W.crash keep torn nb).safe.length = D.safe.length := by rw [(crash_len _ _ _ _).1, hu.safe]
      have hcp : (W.crash keep torn nb).pend = [] := rfl
      show (Inv (W.crash keep torn nb) L ∨ Inv (W.crash keep torn nb) (clearL L)) ∧ Rest D (W.crash keep torn nb) L
      generalize W.crash keep torn nb = C at *
      have hnb : (min nb 128).toNat ≤ 128 := by omega
      generalize (min nb 128).toNat = m at *
      have hout : ∀ k, k < D.safe.length → k ≠ n → C.rd k = D.rd k := fun k hk hne => by
        rcases hc k hk with h2 | ⟨h2, h3, -⟩
        · exact h2
        · omega
      refine ⟨?_, hcl, fun k hk hr => hout k hk (by omega)⟩
      have key : C.rd n = headL (L.epoch + 1) ∨ Oth (C.rd n) L.epoch := by
        rcases hc n (by omega) with h2 | ⟨-, -, h2 | h2⟩
        · right; rw [h2, ← hn]; exact h.oth
        · exact .inl h2
        · rw [h2]
          exact torn_head (by rw [← hn]; exact h.oth) (h.db.rd _) (by omega) (by omega) hnb
      rcases key with h2 | h2
      · exact .inr (h.clear he hcp hdb hcl (by rw [hn]; exact hout) (by rw [hn]; exact h2))
      · exact .inl (h.turn hcp hdb hcl (by rw [hn]; exact hout) (by rw [hn]; exact h2))
    · rw [if_neg hl2, if_neg hl2]
      have hrd : ∀ k, k < D.safe.length → W.flush.rd k = if k = n then headL (L.epoch + 1) else D.rd k := fun k hk => by
        rw [rd_flush (by rw [hu.safe]; exact hk), ← hW, rd_write]
        by_cases h2 : n = k
        · rw [if_pos h2, if_pos h2.symm]
        · rw [if_neg h2, if_neg (fun e => h2 e.symm)]
      have hfl : W.flush.safe.length = D.safe.length := by simp [Dsk.flush, sets_len, hu.safe]
      refine .inl ⟨rfl, ?_, hfl, fun k hk hr => by show W.flush.rd k = _; rw [hrd k hk, if_neg (by omega)]⟩
      exact h.clear he rfl hw.flush hfl (fun k hk hne => by rw [hrd k hk, if_neg (by rw [← hn]; exact hne)]) (by rw [hn, hrd n (by omega), if_pos rfl])
theorem blank_rd (fr : Nat) : ∀ (r n : Nat) (D : Dsk) (b : Bool), D.left = none → ∀ k, k < D.safe.length → (blankGo D fr b r n).2.rd k = if fr + n ≤ k ∧ k < fr + n + r then noughts else D.rd k
  | 0, n, D, b, h, k, hk => by
    unfold blankGo
    rw [if_neg (show ¬ (fr + n ≤ k ∧ k < fr + n + 0) by omega)]
    cases b with
    | false => rfl
    | true =>
      simp only [if_true, fnext]
      rw [if_neg (show ¬ D.left = some 0 by rw [h]; simp), rd_flush hk]
  | r + 1, n, D, b, h, k, hk => by
    unfold blankGo
    rw [if_neg (show ¬ D.left = some 0 by rw [h]; simp)]
    split
    · rename_i he
      rw [blank_rd fr r (n + 1) D b h k hk]
      by_cases h1 : k = fr + n
      · rw [if_neg (by omega), if_pos (by omega), h1, he]
      · by_cases h2 : fr + (n + 1) ≤ k ∧ k < fr + (n + 1) + r
        · rw [if_pos h2, if_pos (by omega)]
        · rw [if_neg h2, if_neg (by omega)]
    · rw [blank_rd fr r (n + 1) (D.write (fr + n) noughts) true (by simp [Dsk.write, h]) k hk, rd_write]
      by_cases h1 : k = fr + n
      · rw [if_neg (by omega), if_pos h1.symm, if_pos (by omega)]
      · by_cases h2 : fr + (n + 1) ≤ k ∧ k < fr + (n + 1) + r
        · rw [if_pos h2, if_pos (by omega)]
        · rw [if_neg h2, if_neg (show ¬ fr + n = k from fun e => h1 e.symm), if_neg (by omega)]
/-- What Format leaves. -/
structure Fresh (D D' : Dsk) (fr ct : Nat) : Prop where
  pend : D'.pend = []
  left : D'.left = none
  db : DB D'
  len : D'.safe.length = D.safe.length
  rd : ∀ k, k < D.safe.length → D'.rd k = if k = fr then headL 1 else if fr < k ∧ k < fr + ct then noughts else D.rd k
theorem fmtA_fresh {D : Dsk} (fr ct : Nat) (hl : D.left = none) (hb : DB D) (hf : fr + ct ≤ D.safe.length) (h4 : 4 ≤ ct) : Fresh D (fmtA D fr ct) fr ct := by
  have hk := blank_keep fr ct 0 D false hb
  have hn := blank_none fr ct 0 D false hl
  have hs := safeN_keep fr (headL_inb 1) (headL_len 1) hn.2 hk.1
  refine ⟨hs.2.2.2, hs.1, hs.2.1, by rw [fmtA, hs.2.2.1, hk.2.1], fun k hkl => ?_⟩
  unfold fmtA
  rw [rd_safeN fr _ (by rw [hk.2.1]; exact hkl), blank_rd fr ct 0 D false hl k hkl, Nat.add_zero]
  by_cases h1 : fr = k
  · rw [if_pos h1, if_pos h1.symm]
  · rw [if_neg h1, if_neg (show ¬ k = fr from fun e => h1 e.symm)]
    by_cases h2 : fr ≤ k ∧ k < fr + ct
    · rw [if_pos h2, if_pos (by omega)]
    · rw [if_neg h2, if_neg (by omega)]
theorem Fresh.behind {D D1 D' : Dsk} {fr ct : Nat} (n : Nat) (xs : List Int) (hn : fr ≤ n ∧ n < fr + ct) (hD : D1 = safeN D n xs) (hl : D1.safe.length = D.safe.length) (h : Fresh D1 D' fr ct) : Fresh D D' fr ct := by
  refine ⟨h.pend, h.left, h.db, h.len.trans hl, fun k hk => ?_⟩
  rw [h.rd k (by omega)]
  by_cases h1 : k = fr
  · rw [if_pos h1, if_pos h1]
  · rw [if_neg h1, if_neg h1]
    by_cases h2 : fr < k ∧ k < fr + ct
    · rw [if_pos h2, if_pos h2]
    · rw [if_neg h2, if_neg h2, hD, rd_safeN _ _ hk, if_neg (by omega)]
theorem format_fresh {D : Dsk} (fr ct : Nat) (hl : D.left = none) (hb : DB D) (hf : fr + ct ≤ D.safe.length) (h4 : 4 ≤ ct) : Fresh D (formatD D fr ct) fr ct := by
  have hsl := slotD_lt D fr
  unfold formatD
  have h1 := fun (E : Dsk) (n : Nat) (hE : E.left = none) (hEb : DB E) => safeN_keep (D := E) n noughts_inb noughts_len hE hEb
  split
  · have a := h1 D (fr + (1 - (heldD D fr).2.2)) hl hb
    have b := h1 _ (fr + (heldD D fr).2.2) a.1 a.2.1
    exact (Fresh.behind _ noughts (by omega) rfl b.2.2.1 (fmtA_fresh fr ct b.1 b.2.1 (by rw [b.2.2.1, a.2.2.1]; exact hf) h4)).behind _ noughts (by omega) rfl a.2.2.1
  · split
    · have a := h1 D (fr + (heldD D fr).2.2) hl hb
      exact (fmtA_fresh fr ct a.1 a.2.1 (by rw [a.2.2.1]; exact hf) h4).behind _ noughts (by omega) rfl a.2.2.1
    · exact fmtA_fresh fr ct hl hb hf h4
/-- A fresh log. -/
def freshL (fr ct : Nat) : LogV := ⟨fr, ct, 1, 0, 0, []⟩
theorem Fresh.inv {D D' : Dsk} {fr ct : Nat} (h : Fresh D D' fr ct) (hf : fr + ct ≤ D.safe.length) (h3 : D.safe.length ≤ 8192) (h4 : 4 ≤ ct) : Inv D' (freshL fr ct) := by
  have hno : ∀ k, fr < k → k < fr + ct → D'.rd k = noughts := fun k h1 h2 => by rw [h.rd k (by omega), if_neg (by omega), if_pos ⟨h1, h2⟩]
  refine ⟨h.pend, h.db, ⟨by show (1 : Int) ≤ 1; omega, by show (1 : Int) < 250; omega⟩, by show 0 < 2; omega, by rw [h.len]; exact hf, by rw [h.len]; exact h3, h4, ?_, ?_, rfl, ?_, fun k h1 h2 => ?_, by show 0 + 2 ≤ ct; omega, Nat.le_refl _, fun x hx => by cases hx⟩
  · show D'.rd (fr + 0) = headL 1
    rw [h.rd _ (by omega), if_pos (by omega)]
  · show Oth (D'.rd (fr + (1 - 0))) 1
    rw [hno _ (by omega) (by omega)]
    exact oth_noughts (by omega)
  · show readD D' (freshL fr ct) = none
    cases hr : readD D' (freshL fr ct) with
    | none => rfl
    | some x =>
      exfalso
      obtain ⟨h1, -, -, h2⟩ := readD_some h.db hr
      have h3 := (h2 0 (by unfold partsN; omega)).1
      rw [hno _ (by show fr < fr + 2 + 0 + 0; omega) (by show fr + 2 + 0 + 0 < _; omega), noughts_get] at h3
      cases h3
  · have h1 : fr + 2 ≤ k := h1
    have h2 : k < fr + ct := h2
    rw [hno k (by omega) h2]
    exact gs_noughts _ _
end Go.Proofs.Ythbabdjicplooaa

/- law 4's begun and known. Conditions: none. -/
namespace Go.Proofs.Ythbabdjicplooaa
open Go.RowKit

theorem newD_db (n : Nat) : DB (newD n) := ⟨fun x hx => by rw [(List.mem_replicate.1 hx).2]; exact ⟨noughts_inb, noughts_len⟩, fun p hp => by cases hp⟩
theorem newD_len (n : Nat) : (newD n).safe.length = n := by simp [newD]
theorem newD_rd (n k : Nat) : (newD n).rd k = noughts := by
  rw [rd_pend rfl, newD, List.getD_eq_getElem?_getD, List.getElem?_replicate]
  split <;> rfl
/-- Open, by the invariant. -/
theorem open_inv {w : World} {d : Nat} {D : Dsk} {L : LogV} {F : List HP} (h : Inv D L) (H : Sat w (disk d D :: F)) :
    Calls Try.prog 50 #[.pointer (some ⟨d, 0, none⟩), .int .i64 L.from_, .int .i64 L.count] w fun e w' => ∃ p, e = .returned (.tuple #[.pointer (some ⟨p, 0, none⟩), .int .i64 0]) ∧ Sat w' (logc p d L :: disk d D :: F) ∧ Env w w' := by
  refine (open_log L.from_ L.count H h.four h.fit h.len h.db).mono ?_
  rintro e w' (⟨h1, -⟩ | ⟨L', p, h1, h2, h3, h4⟩)
  · rw [h.open] at h1; cases h1
  · rw [h.open] at h1
    injection h1 with h1
    subst h1
    exact ⟨p, h2, h3, h4⟩

set_option maxHeartbeats 2000000 in
set_option maxRecDepth 100000 in
theorem begun4 {w : World} {F : List HP} (n fr ct : Nat) (H : Sat w F) (h1 : 4 ≤ ct) (h2 : fr + ct ≤ n) (h3 : n ≤ 8192) :
    Calls Try.prog 46 #[.int .i64 n, .int .i64 fr, .int .i64 ct] w fun e w' => ∃ d p D, e = .returned (.tuple #[.pointer (some ⟨d, 0, none⟩), .pointer (some ⟨p, 0, none⟩), .bool true]) ∧ Fresh (newD n) D fr ct ∧ Sat w' (logc p d (freshL fr ct) :: disk d D :: F) ∧ Env w w' := by
  have HH := Lib.hid (show 4 ≤ ct ∧ fr + ct ≤ n ∧ n ≤ 8192 from ⟨h1, h2, h3⟩)
  have HF := Lib.hid (format_fresh (D := newD n) fr ct rfl (newD_db n) (by rw [newD_len]; exact h2) h1)
  clear h1 h2 h3
  go_enter Try.func46, Try.ntmps46
  go_wp2_with fail
  refine (dnew n H (by have := HH.out; omega) HH.out.2.2).mono ?_
  rintro e w2 ⟨d, rfl, H2, E2⟩
  go_wp2_with fail
  refine (format_log fr ct H2 HH.out.1 (by rw [newD_len]; exact HH.out.2.1) (by rw [newD_len]; exact HH.out.2.2) (newD_db n) (by show 0 < _; omega) rfl).mono ?_
  rintro e w3 ⟨rfl, H3, E3⟩
  have HI := Lib.hid (HF.out.inv (by rw [newD_len]; exact HH.out.2.1) (by rw [newD_len]; exact HH.out.2.2) HH.out.1)
  generalize formatD (newD n) fr ct = D at *
  go_wp2_with fail
  refine (open_inv HI.out H3).mono ?_
  rintro e w4 ⟨p, rfl, H4, E4⟩
  go_wp2_with fail
  go_ret3
  exact ⟨d, p, D, rfl, HF.out, H4, ((E2.trans E3).trans E4)⟩

theorem commit_none {D : Dsk} {L : LogV} {b : List Int} (hb : DB D) (hbb : InB b) (hl : D.left = none) (h0 : 0 < b.length) (hr : b.length ≤ roomL L) : (commitD D L b).1 = 0 ∧ (commitD D L b).2.left = none := by
  have h1 := blank_none (atL L) (partsN b.length) 0 D false hl
  have h2 := (puts_keep L b hbb (partsN b.length) 0 _ (blank_keep (atL L) (partsN b.length) 0 D false hb).1).2.2.2 h1.2
  unfold commitD
  rw [if_neg (by omega), if_neg (by omega), if_pos h1.1]
  exact h2
/-- Commit of a record that fits, on a disk that does not stop. -/
theorem commit_fine {w : World} {p d : Nat} {L : LogV} {D : Dsk} {F : List HP} (A : Option Addr) (n c : Nat) (b : List Int) (h : Inv D L) (hl : D.left = none) (H : Sat w (logc p d L :: disk d D :: F)) (hr : Reads F 1 A n (bytes b)) (hnc : n ≤ c) (h0 : 0 < b.length) (hbb : InB b) (hbr : b.length ≤ roomL L) :
    Calls Try.prog 47 #[.pointer (some ⟨p, 0, none⟩), .slice A n c] w fun e w' => e = .returned (.int .i64 0) ∧ ∃ D', Inv D' (commitL L b) ∧ D'.left = none ∧ Rest D D' L ∧ Sat w' (logc p d (commitL L b) :: disk d D' :: F) ∧ Env w w' := by
  have hn : b.length = n := by have := (hr w H.tail.tail).1; simpa [bytes] using this
  have hlen := h.len
  have hfit := h.fit
  have hnx := h.nx
  have hrl := h.rl
  refine (commit_log A n c b H hr hnc (by unfold roomL at hbr; omega) hbb h.ok h.fit h.len h.db (by rw [h.pend]; simp) (by omega)).mono ?_
  rintro e w' ⟨rfl, h2, h3⟩
  have hc := commit_none (L := L) h.db hbb hl h0 hbr
  rw [hc.1] at h2 ⊢
  rcases commit_inv h h0 hbb hbr with ⟨-, h4, h5⟩ | ⟨h4, -⟩
  · exact ⟨rfl, _, h4, hc.2, h5, h2, h3⟩
  · rw [hc.1] at h4; cases h4
theorem fresh_room (fr ct : Nat) : roomL (freshL fr ct) = (ct - 2) * 107 := rfl

/-- A literal's bytes. -/
theorem Sat.blk_rd {w : World} {T : Nat} {t : TypeId} {fz : Nat × Nat} {F : List HP} (xs : List Int) (H : Sat w (blk T (.cells (bytes xs).toArray t fz) :: F)) : Rd w 1 (some ⟨T, 0, none⟩) xs.length (bytes xs) :=
  ⟨by simp [bytes], fun j u hu => ⟨T, 0, rfl, by rw [cell_of_row w _ _ _ _ _ H.get, Nat.zero_add]; simpa using hu⟩⟩
theorem Sat.blk_rdB {w : World} {T : Nat} {t : TypeId} {fz : Nat × Nat} {F : List HP} (R : List (Value × List Int)) (H : Sat w (blk T (.cells (R.map (·.1)).toArray t fz) :: F)) (h : ∀ q ∈ R, ∃ A' c', q.1 = .slice A' q.2.length c' ∧ q.2.length ≤ c' ∧ Rd w 1 A' q.2.length (bytes q.2)) : RdB w (.slice (some ⟨T, 0, none⟩) R.length R.length) (R.map (·.2)) :=
  ⟨some ⟨T, 0, none⟩, R.length, R, rfl, Nat.le_refl _, ⟨by simp, fun j u hu => ⟨T, 0, rfl, by rw [cell_of_row w _ _ _ _ _ H.get, Nat.zero_add]; simpa using hu⟩⟩, rfl, h⟩
/-- Commit of nothing. -/
theorem commit_nil {w : World} {p d : Nat} {L : LogV} {D : Dsk} {F : List HP} (A : Option Addr) (c : Nat) (h : Inv D L) (H : Sat w (logc p d L :: disk d D :: F)) :
    Calls Try.prog 47 #[.pointer (some ⟨p, 0, none⟩), .slice A 0 c] w fun e w' => e = .returned (.int .i64 1) ∧ Sat w' (logc p d L :: disk d D :: F) ∧ Env w w' := by
  have hlen := h.len
  have hfit := h.fit
  have hnx := h.nx
  have hrl := h.rl
  exact commit_log A 0 c [] H (fun _ _ => Rd.nil _ _ _) (Nat.zero_le _) (by omega) (fun x hx => by cases hx) h.ok h.fit h.len h.db (by rw [h.pend]; simp) (by omega)

set_option maxHeartbeats 4000000 in
set_option maxRecDepth 100000 in
theorem known4 {w : World} {F : List HP} (H : Sat w F) :
    Calls Try.prog 49 #[] w fun e w' => e = .returned (.bool true) ∧ Sat w' F ∧ Env w w' := by
  go_enter Try.func49, Try.ntmps49
  go_wp2_with fail
  refine (begun4 20 2 16 H (by omega) (by omega) (by omega)).mono ?_
  rintro e w2 ⟨d, p, D, rfl, hF, H2, E2⟩
  have HF := Lib.hid hF
  have HI := Lib.hid (hF.inv (by rw [newD_len]; omega) (by rw [newD_len]; omega) (by omega))
  clear hF
  have kc := fun (w : World) (C : Array Value) (n c : Nat) => Lib.run_convert_bytes_const (P := Try.prog) w 30 5 C n c Try.underlying30 Try.underlying5
  go_wp2_with fail
  clear kc
  have H3 := (H2.alloc (.cells #[.int .u8 97] 5 (1, 2))).b2.b2
  have E3 := E2.alloc (.cells #[.int .u8 97] 5 (1, 2))
  generalize w2.alloc (.cells #[.int .u8 97] 5 (1, 2)) = w3 at *
  generalize w2.heap.size = T at *
  refine (commit_fine (some ⟨T, 0, none⟩) 1 1 [97] HI.out HF.out.left H3 (fun w h => h.blk_rd [97]) (by omega) (by decide) (fun x hx => by simp at hx; omega) (by decide)).mono ?_
  rintro e w4 ⟨rfl, D4, hI4, hl4, -, H4, E4⟩
  have HI4 := Lib.hid hI4
  have H4' := H4.b2.tail.b1
  have E4' := E3.trans E4
  clear H2 H3 E2 E3 H4 E4 hl4 hI4
  go_wp2_with fail
  refine (open_inv HI4.out H4').mono ?_
  rintro e w5 ⟨p5, rfl, H5, E5⟩
  have E5' := E4'.trans E5
  clear H4' E4' E5
  have kc := fun (w : World) (C : Array Value) (n c : Nat) => Lib.run_convert_bytes_const (P := Try.prog) w 30 5 C n c Try.underlying30 Try.underlying5
  go_wp2_with fail
  refine (records_log H5 HI4.out.ok (fun b hb => by
    have hb : b ∈ ([[97]] : List (List Int)) := hb
    rw [List.mem_singleton.1 hb]; decide)).mono ?_
  rintro e w6 ⟨v6, rfl, H6, E6⟩
  have E6' := E5'.trans E6
  go_wp2_with fail
  clear kc
  have H7 := (H6.alloc (.cells #[.int .u8 97] 5 (1, 2))).alloc (.cells #[.slice (some ⟨w6.heap.size, 0, none⟩) 1 1] 30)
  have E7 := (E6'.alloc (.cells #[.int .u8 97] 5 (1, 2))).alloc (.cells #[.slice (some ⟨w6.heap.size, 0, none⟩) 1 1] 30)
  rw [show (w6.alloc (.cells #[.int .u8 97] 5 (1, 2))).heap.size = w6.heap.size + 1 by simp] at H7
  generalize (w6.alloc (.cells #[.int .u8 97] 5 (1, 2))).alloc (.cells #[.slice (some ⟨w6.heap.size, 0, none⟩) 1 1] 30) = w7 at *
  generalize w6.heap.size + 1 = T3 at *
  generalize w6.heap.size = T2 at *
  have hI1 : InL [[97]] := fun x hx => by rw [List.mem_singleton.1 hx]; exact ⟨by simp, fun x hx => by simp at hx; omega⟩
  refine (same_any v6 (.slice (some ⟨T3, 0, none⟩) 1 1) [[97]] [[97]] w7 H7.b2.recL_rd (H7.blk_rdB [((.slice (some ⟨T2, 0, none⟩) 1 1 : Value), ([97] : List Int))] (fun q hq => by rw [List.mem_singleton.1 hq]; exact ⟨_, _, rfl, Nat.le_refl _, H7.b1.blk_rd [97]⟩)) (by decide) hI1 hI1).mono ?_
  rintro e w8 ⟨rfl, q8, rfl⟩
  have H8 := (H7.drewN q8).tail.tail.tail.b2.b2.b1
  have E8 := E7.drewN q8
  have hd : decide (([[97]] : List (List Int)) = [[97]]) = true := by decide
  rw [hd]
  generalize w7.drewN q8 = w8 at *
  clear hd hI1 H6 H7 E6' E7 E5' E6 H5
  go_wp2_with fail
  refine (commit_nil none 0 HI4.out H8).mono ?_
  rintro e w9 ⟨rfl, H9, E9⟩
  go_wp2_with fail
  go_ret
  exact ⟨rfl, H9.tail.tail.tail, E8.trans E9⟩
end Go.Proofs.Ythbabdjicplooaa
