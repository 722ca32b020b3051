/- package wal on a disk that may stop: what Commit and Clear leave, and what a crash makes of it. Conditions: epochs below 249. -/
import Derived.Test.YthbabdjicplooaaWalUse
namespace Go.Proofs.Ythbabdjicplooaa
open Go.RowKit

theorem Inv.stopped {D : Dsk} {L : LogV} (h : Inv D L) (o : Option Nat) : Inv { D with left := o } L := by
  obtain ⟨S, P, q⟩ := D
  have hp : P = [] := h.pend
  subst hp
  exact h.other (C := ⟨S, [], o⟩) rfl h.db rfl (fun k _ _ => rfl)
/-- A call that would make L' of a log L has gone (r = 0), or the disk has stopped in its midst (r = 13). -/
structure Went (D D' : Dsk) (L L' : LogV) (r : Int) : Prop where
  or : r = 0 ∨ r = 13
  ok : r = 0 → Inv D' L' ∧ Rest D D' L
  no : r = 13 → ∀ keep torn nb, (Inv (D'.crash keep torn nb) L ∨ Inv (D'.crash keep torn nb) L') ∧ Rest D (D'.crash keep torn nb) L
  pend : D'.pend.length < 1000000
  fine : D.left = none → r = 0 ∧ D'.left = none
theorem Rest.crash {D D' : Dsk} {L L' : LogV} (h : Rest D D' L) (hi : Inv D' L') (keep : List Bool) (torn nb : Int) : Rest D (D'.crash keep torn nb) L :=
  ⟨(crash_len _ _ _ _).1.trans h.1, fun k hk hr => (crash_same hi.pend keep torn nb (by rw [h.1]; exact hk)).trans (h.2 k hk hr)⟩
theorem Went.crash {D D' : Dsk} {L L' : LogV} {r : Int} (h : Went D D' L L' r) (keep : List Bool) (torn nb : Int) : ∃ M, (M = L ∨ M = L') ∧ (r = 0 → M = L') ∧ Inv (D'.crash keep torn nb) M ∧ Rest D (D'.crash keep torn nb) L := by
  rcases h.or with rfl | rfl
  · have := h.ok rfl
    exact ⟨L', .inr rfl, fun _ => rfl, this.1.crash keep torn nb, this.2.crash this.1 keep torn nb⟩
  · obtain ⟨h1 | h1, h2⟩ := h.no rfl keep torn nb
    · exact ⟨L, .inl rfl, fun h => by omega, h1, h2⟩
    · exact ⟨L', .inr rfl, fun _ => rfl, h1, h2⟩
theorem commit_went {D : Dsk} {L : LogV} {b : List Int} (h : Inv D L) (h0 : 0 < b.length) (hbb : InB b) (hbr : b.length ≤ roomL L) : Went D (commitD D L b).2 L (commitL L b) (commitD D L b).1 := by
  have hlen := h.len
  have hfit := h.fit
  have hnx := h.nx
  have hpn : partsN b.length ≤ 8192 := by unfold roomL at hbr; unfold partsN; omega
  have hk := blank_keep (atL L) (partsN b.length) 0 D false h.db
  have hq := puts_keep L b hbb (partsN b.length) 0 _ hk.1
  have hp : (commitD D L b).2.pend.length < 1000000 := by
    have h1 := hk.2.2
    have h2 := hq.2.2.1
    rw [h.pend] at h1
    simp only [List.length_nil] at h1
    unfold commitD
    rw [if_neg (by omega), if_neg (by omega)]
    split <;> omega
  have hf : D.left = none → (commitD D L b).1 = 0 ∧ (commitD D L b).2.left = none := fun hl => commit_none h.db hbb hl h0 hbr
  rcases commit_inv h h0 hbb hbr with ⟨h1, h2, h3⟩ | ⟨h1, h2⟩
  · exact ⟨.inl h1, fun _ => ⟨h2, h3⟩, fun e => by omega, hp, hf⟩
  · exact ⟨.inr h1, fun e => by omega, fun _ => h2, hp, hf⟩
theorem clear_went {D : Dsk} {L : LogV} (h : Inv D L) (he : L.epoch + 1 < 250) : Went D (clearD D L).2 L (clearL L) (clearD D L).1 := by
  have hp : (clearD D L).2.pend.length < 1000000 := by
    unfold clearD safeD
    split
    · rw [h.pend]; simp
    · have := (fnext_len (D.write (L.from_ + (1 - L.slot)) (headL (L.epoch + 1)))).2
      have h2 : (D.write (L.from_ + (1 - L.slot)) (headL (L.epoch + 1))).pend.length = 1 := by simp [Dsk.write, h.pend]
      dsimp only
      omega
  have hf : D.left = none → (clearD D L).1 = 0 ∧ (clearD D L).2.left = none := clear_none
  rcases clear_inv h he with ⟨h1, h2, h3⟩ | ⟨h1, h2⟩
  · exact ⟨.inl h1, fun _ => ⟨h2, h3⟩, fun e => by omega, hp, hf⟩
  · exact ⟨.inr h1, fun e => by omega, fun _ => h2, hp, hf⟩
/-- Commit, on a disk that may stop. -/
theorem commit_may {w : World} {p d : Nat} {L : LogV} {D : Dsk} {F : List HP} (A : Option Addr) (n c : Nat) (b : List Int) (h : Inv D L) (H : Sat w (logc p d L :: disk d D :: F)) (hr : Reads F 1 A n (bytes b)) (hnc : n ≤ c) (h0 : 0 < b.length) (hbb : InB b) (hbr : b.length ≤ roomL L) :
    Calls Try.prog 47 #[.pointer (some ⟨p, 0, none⟩), .slice A n c] w fun e w' => ∃ r D', e = .returned (.int .i64 r) ∧ Went D D' L (commitL L b) r ∧ Sat w' (logc p d (okL r (commitL L b) L) :: disk d D' :: F) ∧ Env w w' := by
  have hn : b.length = n := by have := (hr w H.tail.tail).1; simpa [bytes] using this
  have hlen := h.len
  have hfit := h.fit
  have hnx := h.nx
  have hrl := h.rl
  exact (commit_log A n c b H hr hnc (by unfold roomL at hbr; omega) hbb h.ok h.fit h.len h.db (by rw [h.pend]; simp) (by omega)).mono fun e w' ⟨h1, h2, h3⟩ => ⟨_, _, h1, commit_went h h0 hbb hbr, h2, h3⟩
theorem clear_may {w : World} {p d : Nat} {L : LogV} {D : Dsk} {F : List HP} (h : Inv D L) (he : L.epoch + 1 < 250) (H : Sat w (logc p d L :: disk d D :: F)) :
    Calls Try.prog 53 #[.pointer (some ⟨p, 0, none⟩)] w fun e w' => ∃ r D', e = .returned (.int .i64 r) ∧ Went D D' L (clearL L) r ∧ Sat w' (logc p d (okL r (clearL L) L) :: disk d D' :: F) ∧ Env w w' := by
  have hep := h.ep
  exact (clear_log H h.ok h.sl (by omega) (by have := h.fit; have := h.four; omega) (by rw [h.pend]; simp)).mono fun e w' ⟨h1, h2, h3⟩ => ⟨_, _, h1, clear_went h he, h2, h3⟩
end Go.Proofs.Ythbabdjicplooaa
