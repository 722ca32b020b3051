/- package wal's plain law, seventh part: Clear, a crash, Format. Conditions: epochs below 250, fewer than 8193 sectors. -/
import Derived.Test.YthbabdjicplooaaWalJG
namespace Go.Proofs.Ythbabdjicplooaa
open Go.RowKit

theorem Inv.clear {D C : Dsk} {L : LogV} (h : Inv D L) (he : L.epoch + 1 < 250) (hp : C.pend = []) (hb : DB C) (hl : C.safe.length = D.safe.length) (ho : ∀ k, k < D.safe.length → k ≠ L.from_ + (1 - L.slot) → C.rd k = D.rd k)
    (hh : C.rd (L.from_ + (1 - L.slot)) = headL (L.epoch + 1)) : Inv C (clearL L) := by
  have hf := h.fit
  have hs := h.sl
  have hep := h.ep
  have h4 := h.four
  have hgs : ∀ k, L.from_ + 2 ≤ k → k < L.from_ + L.count → Gs (C.rd k) (L.epoch + 1) 0 := fun k h1 h2 => by
    rw [ho k (by omega) (by omega)]
    exact (h.gs k h1 h2).next (by omega) 0
  refine ⟨hp, hb, ⟨by show 1 ≤ L.epoch + 1; omega, he⟩, by show 1 - L.slot < 2; omega, by rw [hl]; exact hf, by rw [hl]; exact h.len, h4, hh, ?_, rfl, ?_, fun k h1 h2 => (hgs k h1 h2).mono (Nat.zero_le _), by show 0 + 2 ≤ L.count; omega, Nat.le_refl _, fun x hx => by cases hx⟩
  · show Oth (C.rd (L.from_ + (1 - (1 - L.slot)))) (L.epoch + 1)
    rw [show 1 - (1 - L.slot) = L.slot by omega, ho _ (by omega) (by omega), h.head]
    exact oth_head (by omega) (by omega)
  · show readD C (clearL L) = none
    cases hr : readD C (clearL L) with
    | none => rfl
    | some x =>
      exfalso
      obtain ⟨h1, -, -, h2⟩ := readD_some hb hr
      have h3 := h2 0 (by unfold partsN; omega)
      have := gs_ok (m := 0) h3 (hgs _ (by show L.from_ + 2 ≤ L.from_ + 2 + 0 + 0; omega) (by show L.from_ + 2 + 0 + 0 < _; omega)) (by show 0 ≤ L.epoch + 1; omega) (by show L.epoch + 1 < 256; omega) (by show (0 : Nat) < _; omega)
      omega
/-- The log is as it was, if the head that does not hold is none or an old one. -/
theorem Inv.turn {D C : Dsk} {L : LogV} (h : Inv D L) (hp : C.pend = []) (hb : DB C) (hl : C.safe.length = D.safe.length) (ho : ∀ k, k < D.safe.length → k ≠ L.from_ + (1 - L.slot) → C.rd k = D.rd k)
    (hh : Oth (C.rd (L.from_ + (1 - L.slot))) L.epoch) : Inv C L := by
  have hf := h.fit
  have hs := h.sl
  have hep := h.ep
  have h4 := h.four
  have hnx := h.nx
  refine ⟨hp, hb, h.ep, h.sl, by rw [hl]; exact hf, by rw [hl]; exact h.len, h4, by rw [ho _ (by omega) (by omega)]; exact h.head, hh, h.cur, ?_, fun k h1 h2 => by rw [ho k (by omega) (by omega)]; exact h.gs k h1 h2, hnx, h.rl, h.inl⟩
  have hat : atL L = L.from_ + 2 + L.next := rfl
  have := laid_move (D' := C) h.db [] L.recs _ h.laid (fun k h1 h2 => by
    rw [h.cur] at h2
    have h1 : L.from_ + 2 + 0 ≤ k := h1
    exact ho k (by omega) (by omega)) (by
      rw [h.cur]
      show readD C L = none
      cases hr : readD C L with
      | none => rfl
      | some x =>
        obtain ⟨h5, h6, -, -⟩ := readD_some hb hr
        have hxn : L.next + 2 + partsN x.length ≤ L.count := by unfold roomL at h6; unfold partsN; omega
        have := readD_congr (D' := D) hb hr fun p hp => (ho _ (by omega) (by omega)).symm
        rw [h.ends] at this
        cases this)
  rwa [List.append_nil] at this
theorem crash_same {D : Dsk} (h : D.pend = []) (keep : List Bool) (torn nb : Int) {k : Nat} (hk : k < D.safe.length) : (D.crash keep torn nb).rd k = D.rd k := by
  rcases (Up.zero h 0 0 (fun _ => noughts)).crash h keep torn nb hk with h1 | ⟨_, h1, _⟩
  · exact h1
  · omega
theorem Inv.crash {D : Dsk} {L : LogV} (h : Inv D L) (keep : List Bool) (torn nb : Int) : Inv (D.crash keep torn nb) L := by
  have hf := h.fit
  have h4 := h.four
  have hs := h.sl
  exact h.turn rfl (h.db.crash keep torn nb) (crash_len _ _ _ _).1 (fun k hk _ => crash_same h.pend keep torn nb hk) (by rw [crash_same h.pend keep torn nb (by omega)]; exact h.oth)
theorem clear_inv {D : Dsk} {L : LogV} (h : Inv D L) (he : L.epoch + 1 < 250) :
    ((clearD D L).1 = 0 ∧ Inv (clearD D L).2 (clearL L) ∧ Rest D (clearD D L).2 L) ∨
    ((clearD D L).1 = 13 ∧ ∀ keep torn nb, (Inv ((clearD D L).2.crash keep torn nb) L ∨ Inv ((clearD D L).2.crash keep torn nb) (clearL L)) ∧ Rest D ((clearD D L).2.crash keep torn nb) L) := by
  have hf := h.fit
  have hs := h.sl
  have hep := h.ep
  have h4 := h.four
  obtain ⟨n, hn⟩ : ∃ n, L.from_ + (1 - L.slot) = n := ⟨_, rfl⟩
  unfold clearD safeD
  rw [hn]
  by_cases hl : D.left = some 0
  · rw [if_pos hl]
    exact .inr ⟨rfl, fun keep torn nb => ⟨.inl (h.crash keep torn nb), (crash_len _ _ _ _).1, fun k hk _ => crash_same h.pend keep torn nb hk⟩⟩
  · rw [if_neg hl]
    have hu : Up D (D.write n (headL (L.epoch + 1))) n (n + 1) (fun _ => headL (L.epoch + 1)) := (Up.zero h.pend n n (fun _ => headL (L.epoch + 1))).write (Nat.le_refl _)
    have hw := h.db.write n (headL_inb (L.epoch + 1)) (headL_len _)
    generalize hW : D.write n (headL (L.epoch + 1)) = W at *
    unfold fcode fnext
    by_cases hl2 : W.left = some 0
    · rw [if_pos hl2, if_pos hl2]
      refine .inr ⟨rfl, fun keep torn nb => ?_⟩
      have hc := fun k (hk : k < D.safe.length) => hu.crash h.pend keep torn nb hk
      have hdb := hw.crash keep torn nb
      have hcl : (W.crash keep torn nb).safe.length = D.safe.length := by rw [(crash_len _ _ _ _).1, hu.safe]
      have hcp : (W.crash keep torn nb).pend = [] := rfl
      show (Inv (W.crash keep torn nb) L ∨ Inv (W.crash keep torn nb) (clearL L)) ∧ Rest D (W.crash keep torn nb) L
      generalize W.crash keep torn nb = C at *
      have hnb : (min nb 128).toNat ≤ 128 := by omega
      generalize (min nb 128).toNat = m at *
      have hout : ∀ k, k < D.safe.length → k ≠ n → C.rd k = D.rd k := fun k hk hne => by
        rcases hc k hk with h2 | ⟨h2, h3, -⟩
        · exact h2
        · omega
      refine ⟨?_, hcl, fun k hk hr => hout k hk (by omega)⟩
      have key : C.rd n = headL (L.epoch + 1) ∨ Oth (C.rd n) L.epoch := by
        rcases hc n (by omega) with h2 | ⟨-, -, h2 | h2⟩
        · right; rw [h2, ← hn]; exact h.oth
        · exact .inl h2
        · rw [h2]
          exact torn_head (by rw [← hn]; exact h.oth) (h.db.rd _) (by omega) (by omega) hnb
      rcases key with h2 | h2
      · exact .inr (h.clear he hcp hdb hcl (by rw [hn]; exact hout) (by rw [hn]; exact h2))
      · exact .inl (h.turn hcp hdb hcl (by rw [hn]; exact hout) (by rw [hn]; exact h2))
    · rw [if_neg hl2, if_neg hl2]
      have hrd : ∀ k, k < D.safe.length → W.flush.rd k = if k = n then headL (L.epoch + 1) else D.rd k := fun k hk => by
        rw [rd_flush (by rw [hu.safe]; exact hk), ← hW, rd_write]
        by_cases h2 : n = k
        · rw [if_pos h2, if_pos h2.symm]
        · rw [if_neg h2, if_neg (fun e => h2 e.symm)]
      have hfl : W.flush.safe.length = D.safe.length := by simp [Dsk.flush, sets_len, hu.safe]
      refine .inl ⟨rfl, ?_, hfl, fun k hk hr => by show W.flush.rd k = _; rw [hrd k hk, if_neg (by omega)]⟩
      exact h.clear he rfl hw.flush hfl (fun k hk hne => by rw [hrd k hk, if_neg (by rw [← hn]; exact hne)]) (by rw [hn, hrd n (by omega), if_pos rfl])
theorem blank_rd (fr : Nat) : ∀ (r n : Nat) (D : Dsk) (b : Bool), D.left = none → ∀ k, k < D.safe.length → (blankGo D fr b r n).2.rd k = if fr + n ≤ k ∧ k < fr + n + r then noughts else D.rd k
  | 0, n, D, b, h, k, hk => by
    unfold blankGo
    rw [if_neg (show ¬ (fr + n ≤ k ∧ k < fr + n + 0) by omega)]
    cases b with
    | false => rfl
    | true =>
      simp only [if_true, fnext]
      rw [if_neg (show ¬ D.left = some 0 by rw [h]; simp), rd_flush hk]
  | r + 1, n, D, b, h, k, hk => by
    unfold blankGo
    rw [if_neg (show ¬ D.left = some 0 by rw [h]; simp)]
    split
    · rename_i he
      rw [blank_rd fr r (n + 1) D b h k hk]
      by_cases h1 : k = fr + n
      · rw [if_neg (by omega), if_pos (by omega), h1, he]
      · by_cases h2 : fr + (n + 1) ≤ k ∧ k < fr + (n + 1) + r
        · rw [if_pos h2, if_pos (by omega)]
        · rw [if_neg h2, if_neg (by omega)]
    · rw [blank_rd fr r (n + 1) (D.write (fr + n) noughts) true (by simp [Dsk.write, h]) k hk, rd_write]
      by_cases h1 : k = fr + n
      · rw [if_neg (by omega), if_pos h1.symm, if_pos (by omega)]
      · by_cases h2 : fr + (n + 1) ≤ k ∧ k < fr + (n + 1) + r
        · rw [if_pos h2, if_pos (by omega)]
        · rw [if_neg h2, if_neg (show ¬ fr + n = k from fun e => h1 e.symm), if_neg (by omega)]
/-- What Format leaves. -/
structure Fresh (D D' : Dsk) (fr ct : Nat) : Prop where
  pend : D'.pend = []
  left : D'.left = none
  db : DB D'
  len : D'.safe.length = D.safe.length
  rd : ∀ k, k < D.safe.length → D'.rd k = if k = fr then headL 1 else if fr < k ∧ k < fr + ct then noughts else D.rd k
theorem fmtA_fresh {D : Dsk} (fr ct : Nat) (hl : D.left = none) (hb : DB D) (hf : fr + ct ≤ D.safe.length) (h4 : 4 ≤ ct) : Fresh D (fmtA D fr ct) fr ct := by
  have hk := blank_keep fr ct 0 D false hb
  have hn := blank_none fr ct 0 D false hl
  have hs := safeN_keep fr (headL_inb 1) (headL_len 1) hn.2 hk.1
  refine ⟨hs.2.2.2, hs.1, hs.2.1, by rw [fmtA, hs.2.2.1, hk.2.1], fun k hkl => ?_⟩
  unfold fmtA
  rw [rd_safeN fr _ (by rw [hk.2.1]; exact hkl), blank_rd fr ct 0 D false hl k hkl, Nat.add_zero]
  by_cases h1 : fr = k
  · rw [if_pos h1, if_pos h1.symm]
  · rw [if_neg h1, if_neg (show ¬ k = fr from fun e => h1 e.symm)]
    by_cases h2 : fr ≤ k ∧ k < fr + ct
    · rw [if_pos h2, if_pos (by omega)]
    · rw [if_neg h2, if_neg (by omega)]
theorem Fresh.behind {D D1 D' : Dsk} {fr ct : Nat} (n : Nat) (xs : List Int) (hn : fr ≤ n ∧ n < fr + ct) (hD : D1 = safeN D n xs) (hl : D1.safe.length = D.safe.length) (h : Fresh D1 D' fr ct) : Fresh D D' fr ct := by
  refine ⟨h.pend, h.left, h.db, h.len.trans hl, fun k hk => ?_⟩
  rw [h.rd k (by omega)]
  by_cases h1 : k = fr
  · rw [if_pos h1, if_pos h1]
  · rw [if_neg h1, if_neg h1]
    by_cases h2 : fr < k ∧ k < fr + ct
    · rw [if_pos h2, if_pos h2]
    · rw [if_neg h2, if_neg h2, hD, rd_safeN _ _ hk, if_neg (by omega)]
theorem format_fresh {D : Dsk} (fr ct : Nat) (hl : D.left = none) (hb : DB D) (hf : fr + ct ≤ D.safe.length) (h4 : 4 ≤ ct) : Fresh D (formatD D fr ct) fr ct := by
  have hsl := slotD_lt D fr
  unfold formatD
  have h1 := fun (E : Dsk) (n : Nat) (hE : E.left = none) (hEb : DB E) => safeN_keep (D := E) n noughts_inb noughts_len hE hEb
  split
  · have a := h1 D (fr + (1 - (heldD D fr).2.2)) hl hb
    have b := h1 _ (fr + (heldD D fr).2.2) a.1 a.2.1
    exact (Fresh.behind _ noughts (by omega) rfl b.2.2.1 (fmtA_fresh fr ct b.1 b.2.1 (by rw [b.2.2.1, a.2.2.1]; exact hf) h4)).behind _ noughts (by omega) rfl a.2.2.1
  · split
    · have a := h1 D (fr + (heldD D fr).2.2) hl hb
      exact (fmtA_fresh fr ct a.1 a.2.1 (by rw [a.2.2.1]; exact hf) h4).behind _ noughts (by omega) rfl a.2.2.1
    · exact fmtA_fresh fr ct hl hb hf h4
/-- A fresh log. -/
def freshL (fr ct : Nat) : LogV := ⟨fr, ct, 1, 0, 0, []⟩
theorem Fresh.inv {D D' : Dsk} {fr ct : Nat} (h : Fresh D D' fr ct) (hf : fr + ct ≤ D.safe.length) (h3 : D.safe.length ≤ 8192) (h4 : 4 ≤ ct) : Inv D' (freshL fr ct) := by
  have hno : ∀ k, fr < k → k < fr + ct → D'.rd k = noughts := fun k h1 h2 => by rw [h.rd k (by omega), if_neg (by omega), if_pos ⟨h1, h2⟩]
  refine ⟨h.pend, h.db, ⟨by show (1 : Int) ≤ 1; omega, by show (1 : Int) < 250; omega⟩, by show 0 < 2; omega, by rw [h.len]; exact hf, by rw [h.len]; exact h3, h4, ?_, ?_, rfl, ?_, fun k h1 h2 => ?_, by show 0 + 2 ≤ ct; omega, Nat.le_refl _, fun x hx => by cases hx⟩
  · show D'.rd (fr + 0) = headL 1
    rw [h.rd _ (by omega), if_pos (by omega)]
  · show Oth (D'.rd (fr + (1 - 0))) 1
    rw [hno _ (by omega) (by omega)]
    exact oth_noughts (by omega)
  · show readD D' (freshL fr ct) = none
    cases hr : readD D' (freshL fr ct) with
    | none => rfl
    | some x =>
      exfalso
      obtain ⟨h1, -, -, h2⟩ := readD_some h.db hr
      have h3 := (h2 0 (by unfold partsN; omega)).1
      rw [hno _ (by show fr < fr + 2 + 0 + 0; omega) (by show fr + 2 + 0 + 0 < _; omega), noughts_get] at h3
      cases h3
  · have h1 : fr + 2 ≤ k := h1
    have h2 : k < fr + ct := h2
    rw [hno k (by omega) h2]
    exact gs_noughts _ _
end Go.Proofs.Ythbabdjicplooaa
