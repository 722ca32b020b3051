/- package wal in use, on a disk that does not stop: a log beside another one, commits one after another, Clear, Open. Conditions: epochs below 249. -/
import Derived.Test.YthbabdjicplooaaWalBareWalkG
namespace Go.Proofs.Ythbabdjicplooaa
open Go.RowKit

/-- A log is as it was, if its sectors are. -/
theorem Inv.other {D C : Dsk} {L : LogV} (h : Inv D L) (hp : C.pend = []) (hb : DB C) (hl : C.safe.length = D.safe.length) (ho : ∀ k, L.from_ ≤ k → k < L.from_ + L.count → C.rd k = D.rd k) : Inv C L := by
  have hf := h.fit
  have hs := h.sl
  have h4 := h.four
  have hnx := h.nx
  have hat : atL L = L.from_ + 2 + L.next := rfl
  refine ⟨hp, hb, h.ep, h.sl, by rw [hl]; exact hf, by rw [hl]; exact h.len, h.four, by rw [ho _ (by omega) (by omega)]; exact h.head, by rw [ho _ (by omega) (by omega)]; exact h.oth, h.cur, ?_, fun k h1 h2 => by rw [ho k (by omega) h2]; exact h.gs k h1 h2, hnx, h.rl, h.inl⟩
  have := laid_move (D' := C) h.db [] L.recs _ h.laid (fun k h1 h2 => by
    rw [h.cur] at h2
    have h1 : L.from_ + 2 + 0 ≤ k := h1
    exact ho k (by omega) (by omega)) (by
      rw [h.cur]
      show readD C L = none
      cases hr : readD C L with
      | none => rfl
      | some x =>
        obtain ⟨h5, h6, -, -⟩ := readD_some hb hr
        have hxn : L.next + 2 + partsN x.length ≤ L.count := by unfold roomL at h6; unfold partsN; omega
        have := readD_congr (D' := D) hb hr fun p hp => (ho _ (by omega) (by omega)).symm
        rw [h.ends] at this
        cases this)
  rwa [List.append_nil] at this
/-- What Commit makes of a log that has room. -/
def addL (L : LogV) (b : List Int) : LogV := if b.length = 0 then L else commitL L b
def codeL (b : List Int) : Int := if b.length = 0 then 1 else 0
theorem codeL_eq (b : List Int) : (codeL b == 0) = decide ((0 : Int) < (b.length : Int)) := by
  unfold codeL
  split
  · rw [decide_eq_false (by omega)]; rfl
  · rw [decide_eq_true (by omega)]; rfl
theorem commit_add {w : World} {p d : Nat} {L : LogV} {D : Dsk} {F : List HP} (A : Option Addr) (n c : Nat) (b : List Int) (h : Inv D L) (hl : D.left = none) (H : Sat w (logc p d L :: disk d D :: F)) (hr : Reads F 1 A n (bytes b)) (hnc : n ≤ c) (hbb : InB b) (hbr : b.length ≤ roomL L) :
    Calls Try.prog 47 #[.pointer (some ⟨p, 0, none⟩), .slice A n c] w fun e w' => e = .returned (.int .i64 (codeL b)) ∧ ∃ D', Inv D' (addL L b) ∧ D'.left = none ∧ Rest D D' L ∧ Sat w' (logc p d (addL L b) :: disk d D' :: F) ∧ Env w w' := by
  have hn : b.length = n := by have := (hr w H.tail.tail).1; simpa [bytes] using this
  by_cases h0 : b.length = 0
  · have h1 : codeL b = 1 := if_pos h0
    have h2 : addL L b = L := if_pos h0
    rw [h1, h2]
    rw [h0] at hn
    subst hn
    exact (commit_nil A c h H).mono fun _ _ ⟨he, h3, h4⟩ => ⟨he, D, h, hl, ⟨rfl, fun _ _ _ => rfl⟩, h3, h4⟩
  · have h1 : codeL b = 0 := if_neg h0
    have h2 : addL L b = commitL L b := if_neg h0
    rw [h1, h2]
    exact commit_fine A n c b h hl H hr hnc (by omega) hbb hbr
theorem clear_none {D : Dsk} {L : LogV} (h : D.left = none) : (clearD D L).1 = 0 ∧ (clearD D L).2.left = none := by
  unfold clearD safeD
  have hw : (D.write (L.from_ + (1 - L.slot)) (headL (L.epoch + 1))).left = none := by simp [Dsk.write, h]
  rw [if_neg (by rw [h]; simp)]
  exact ⟨by simp [fcode, hw], by simp [fnext, hw, Dsk.flush]⟩
/-- Clear, on a disk that does not stop. -/
theorem clear_fine {w : World} {p d : Nat} {L : LogV} {D : Dsk} {F : List HP} (h : Inv D L) (hl : D.left = none) (he : L.epoch + 1 < 250) (H : Sat w (logc p d L :: disk d D :: F)) :
    Calls Try.prog 53 #[.pointer (some ⟨p, 0, none⟩)] w fun e w' => e = .returned (.int .i64 0) ∧ ∃ D', Inv D' (clearL L) ∧ D'.left = none ∧ Rest D D' L ∧ Sat w' (logc p d (clearL L) :: disk d D' :: F) ∧ Env w w' := by
  have hc := clear_none (L := L) hl
  refine (clear_log H h.ok h.sl (by omega) (by have := h.fit; have := h.four; omega) (by rw [h.pend]; simp)).mono ?_
  rintro e w' ⟨rfl, h2, h3⟩
  rcases clear_inv h he with ⟨-, h4, h5⟩ | ⟨h4, -⟩
  · rw [if_pos hc.1] at h2
    rw [hc.1]
    exact ⟨rfl, _, h4, hc.2, h5, h2, h3⟩
  · rw [hc.1] at h4; cases h4
theorem open_at {w : World} {d : Nat} {D : Dsk} {L : LogV} {F : List HP} (fr ct : Nat) (h : Inv D L) (hf : L.from_ = fr) (hc : L.count = ct) (H : Sat w (disk d D :: F)) :
    Calls Try.prog 50 #[.pointer (some ⟨d, 0, none⟩), .int .i64 fr, .int .i64 ct] w fun e w' => ∃ p, e = .returned (.tuple #[.pointer (some ⟨p, 0, none⟩), .int .i64 0]) ∧ Sat w' (logc p d L :: disk d D :: F) ∧ Env w w' := by
  subst hf; subst hc
  exact open_inv h H
/-- The same record, again and again. -/
def repL (b : List Int) : Nat → LogV → LogV
  | 0, L => L
  | k + 1, L => addL (repL b k L) b
theorem addL_keep (L : LogV) (b : List Int) : (addL L b).from_ = L.from_ ∧ (addL L b).count = L.count ∧ (addL L b).epoch = L.epoch ∧ (addL L b).slot = L.slot ∧ (addL L b).next ≤ L.next + partsN b.length := by
  unfold addL
  split
  · exact ⟨rfl, rfl, rfl, rfl, by omega⟩
  · exact ⟨rfl, rfl, rfl, rfl, Nat.le_refl _⟩
theorem repL_keep (b : List Int) (L : LogV) : ∀ k, (repL b k L).from_ = L.from_ ∧ (repL b k L).count = L.count ∧ (repL b k L).epoch = L.epoch ∧ (repL b k L).next ≤ L.next + k * partsN b.length
  | 0 => ⟨rfl, rfl, rfl, by simp [repL]⟩
  | k + 1 => by
    obtain ⟨h1, h2, h3, h4⟩ := repL_keep b L k
    obtain ⟨g1, g2, g3, -, g5⟩ := addL_keep (repL b k L) b
    exact ⟨g1.trans h1, g2.trans h2, g3.trans h3, by show (addL _ b).next ≤ _; rw [Nat.add_mul]; omega⟩
theorem repL_recs (b : List Int) (L : LogV) : ∀ k, (repL b k L).recs = L.recs ++ (if b.length = 0 then [] else List.replicate k b)
  | 0 => by show L.recs = _; split <;> simp
  | k + 1 => by
    show (addL (repL b k L) b).recs = _
    have ih := repL_recs b L k
    unfold addL
    split
    · rename_i h; rw [ih, if_pos h]
    · rename_i h
      show (repL b k L).recs ++ [b] = _
      rw [ih, if_neg h, List.append_assoc, List.replicate_succ']
theorem same_true (va vb : Value) (l : List (List Int)) (w : World) (h1 : RdB w va l) (h2 : RdB w vb l) (hl : l.length < 4294967296) (ha : InL l) :
    Calls Try.prog 54 #[va, vb] w fun e w' => e = .returned (.bool true) ∧ ∃ q, w' = w.drewN q :=
  (same_any va vb l l w h1 h2 hl ha ha).mono fun _ _ ⟨he, hq⟩ => ⟨by rw [he, decide_eq_true rfl], hq⟩
end Go.Proofs.Ythbabdjicplooaa

/- package wal on a disk that may stop: what Commit and Clear leave, and what a crash makes of it. Conditions: epochs below 249. -/
namespace Go.Proofs.Ythbabdjicplooaa
open Go.RowKit

theorem Inv.stopped {D : Dsk} {L : LogV} (h : Inv D L) (o : Option Nat) : Inv { D with left := o } L := by
  obtain ⟨S, P, q⟩ := D
  have hp : P = [] := h.pend
  subst hp
  exact h.other (C := ⟨S, [], o⟩) rfl h.db rfl (fun k _ _ => rfl)
/-- A call that would make L' of a log L has gone (r = 0), or the disk has stopped in its midst (r = 13). -/
structure Went (D D' : Dsk) (L L' : LogV) (r : Int) : Prop where
  or : r = 0 ∨ r = 13
  ok : r = 0 → Inv D' L' ∧ Rest D D' L
  no : r = 13 → ∀ keep torn nb, (Inv (D'.crash keep torn nb) L ∨ Inv (D'.crash keep torn nb) L') ∧ Rest D (D'.crash keep torn nb) L
  pend : D'.pend.length < 1000000
  fine : D.left = none → r = 0 ∧ D'.left = none
theorem Rest.crash {D D' : Dsk} {L L' : LogV} (h : Rest D D' L) (hi : Inv D' L') (keep : List Bool) (torn nb : Int) : Rest D (D'.crash keep torn nb) L :=
  ⟨(crash_len _ _ _ _).1.trans h.1, fun k hk hr => (crash_same hi.pend keep torn nb (by rw [h.1]; exact hk)).trans (h.2 k hk hr)⟩
theorem Went.crash {D D' : Dsk} {L L' : LogV} {r : Int} (h : Went D D' L L' r) (keep : List Bool) (torn nb : Int) : ∃ M, (M = L ∨ M = L') ∧ (r = 0 → M = L') ∧ Inv (D'.crash keep torn nb) M ∧ Rest D (D'.crash keep torn nb) L := by
  rcases h.or with rfl | rfl
  · have := h.ok rfl
    exact ⟨L', .inr rfl, fun _ => rfl, this.1.crash keep torn nb, this.2.crash this.1 keep torn nb⟩
  · obtain ⟨h1 | h1, h2⟩ := h.no rfl keep torn nb
    · exact ⟨L, .inl rfl, fun h => by omega, h1, h2⟩
    · exact ⟨L', .inr rfl, fun _ => rfl, h1, h2⟩
theorem commit_went {D : Dsk} {L : LogV} {b : List Int} (h : Inv D L) (h0 : 0 < b.length) (hbb : InB b) (hbr : b.length ≤ roomL L) : Went D (commitD D L b).2 L (commitL L b) (commitD D L b).1 := by
  have hlen := h.len
  have hfit := h.fit
  have hnx := h.nx
  have hpn : partsN b.length ≤ 8192 := by unfold roomL at hbr; unfold partsN; omega
  have hk := blank_keep (atL L) (partsN b.length) 0 D false h.db
  have hq := puts_keep L b hbb (partsN b.length) 0 _ hk.1
  have hp : (commitD D L b).2.pend.length < 1000000 := by
    have h1 := hk.2.2
    have h2 := hq.2.2.1
    rw [h.pend] at h1
    simp only [List.length_nil] at h1
    unfold commitD
    rw [if_neg (by omega), if_neg (by omega)]
    split <;> omega
  have hf : D.left = none → (commitD D L b).1 = 0 ∧ (commitD D L b).2.left = none := fun hl => commit_none h.db hbb hl h0 hbr
  rcases commit_inv h h0 hbb hbr with ⟨h1, h2, h3⟩ | ⟨h1, h2⟩
  · exact ⟨.inl h1, fun _ => ⟨h2, h3⟩, fun e => by omega, hp, hf⟩
  · exact ⟨.inr h1, fun e => by omega, fun _ => h2, hp, hf⟩
theorem clear_went {D : Dsk} {L : LogV} (h : Inv D L) (he : L.epoch + 1 < 250) : Went D (clearD D L).2 L (clearL L) (clearD D L).1 := by
  have hp : (clearD D L).2.pend.length < 1000000 := by
    unfold clearD safeD
    split
    · rw [h.pend]; simp
    · have := (fnext_len (D.write (L.from_ + (1 - L.slot)) (headL (L.epoch + 1)))).2
      have h2 : (D.write (L.from_ + (1 - L.slot)) (headL (L.epoch + 1))).pend.length = 1 := by simp [Dsk.write, h.pend]
      dsimp only
      omega
  have hf : D.left = none → (clearD D L).1 = 0 ∧ (clearD D L).2.left = none := clear_none
  rcases clear_inv h he with ⟨h1, h2, h3⟩ | ⟨h1, h2⟩
  · exact ⟨.inl h1, fun _ => ⟨h2, h3⟩, fun e => by omega, hp, hf⟩
  · exact ⟨.inr h1, fun e => by omega, fun _ => h2, hp, hf⟩
/-- Commit, on a disk that may stop. -/
theorem commit_may {w : World} {p d : Nat} {L : LogV} {D : Dsk} {F : List HP} (A : Option Addr) (n c : Nat) (b : List Int) (h : Inv D L) (H : Sat w (logc p d L :: disk d D :: F)) (hr : Reads F 1 A n (bytes b)) (hnc : n ≤ c) (h0 : 0 < b.length) (hbb : InB b) (hbr : b.length ≤ roomL L) :
    Calls Try.prog 47 #[.pointer (some ⟨p, 0, none⟩), .slice A n c] w fun e w' => ∃ r D', e = .returned (.int .i64 r) ∧ Went D D' L (commitL L b) r ∧ Sat w' (logc p d (okL r (commitL L b) L) :: disk d D' :: F) ∧ Env w w' := by
  have hn : b.length = n := by have := (hr w H.tail.tail).1; simpa [bytes] using this
  have hlen := h.len
  have hfit := h.fit
  have hnx := h.nx
  have hrl := h.rl
  exact (commit_log A n c b H hr hnc (by unfold roomL at hbr; omega) hbb h.ok h.fit h.len h.db (by rw [h.pend]; simp) (by omega)).mono fun e w' ⟨h1, h2, h3⟩ => ⟨_, _, h1, commit_went h h0 hbb hbr, h2, h3⟩
theorem clear_may {w : World} {p d : Nat} {L : LogV} {D : Dsk} {F : List HP} (h : Inv D L) (he : L.epoch + 1 < 250) (H : Sat w (logc p d L :: disk d D :: F)) :
    Calls Try.prog 53 #[.pointer (some ⟨p, 0, none⟩)] w fun e w' => ∃ r D', e = .returned (.int .i64 r) ∧ Went D D' L (clearL L) r ∧ Sat w' (logc p d (okL r (clearL L) L) :: disk d D' :: F) ∧ Env w w' := by
  have hep := h.ep
  exact (clear_log H h.ok h.sl (by omega) (by have := h.fit; have := h.four; omega) (by rw [h.pend]; simp)).mono fun e w' ⟨h1, h2, h3⟩ => ⟨_, _, h1, clear_went h he, h2, h3⟩
end Go.Proofs.Ythbabdjicplooaa
