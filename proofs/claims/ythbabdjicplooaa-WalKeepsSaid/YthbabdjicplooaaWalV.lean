/- package wal's plain law, fourth part: what a stop in the midst of blank, of the parts' writes leaves. Conditions: none. -/
import Derived.Test.YthbabdjicplooaaWalU
namespace Go.Proofs.Ythbabdjicplooaa
open Go.RowKit

theorem Up.more {D0 D : Dsk} {a lim lim' : Nat} {new : Nat → List Int} (h : Up D0 D a lim new) (hl : lim ≤ lim') : Up D0 D a lim' new :=
  ⟨h.safe, h.nd, fun p hp => by have := h.at_ p hp; exact ⟨this.1, by omega, this.2.2⟩⟩
theorem Up.write {D0 D : Dsk} {a lim : Nat} {new : Nat → List Int} (h : Up D0 D a lim new) (ha : a ≤ lim) : Up D0 (D.write lim (new lim)) a (lim + 1) new := by
  refine ⟨h.safe, ?_, fun p hp => ?_⟩
  · simp only [Dsk.write, List.map_append, List.map_cons, List.map_nil]
    rw [List.nodup_append]
    refine ⟨h.nd, by simp, fun x hx y hy => ?_⟩
    obtain ⟨q, hq, rfl⟩ := List.mem_map.1 hx
    have := h.at_ q hq
    simp at hy
    omega
  · rcases List.mem_append.1 hp with hp | hp
    · have := h.at_ p hp; exact ⟨this.1, by omega, this.2.2⟩
    · rw [List.mem_singleton.1 hp]; exact ⟨ha, by simp, rfl⟩
theorem Up.zero {D0 : Dsk} (h0 : D0.pend = []) (a lim : Nat) (new : Nat → List Int) : Up D0 D0 a lim new := ⟨rfl, by rw [h0]; exact List.nodup_nil, by rw [h0]; intro p hp; cases hp⟩
theorem Up.flushed {D0 D : Dsk} {a lim : Nat} {new : Nat → List Int} (h : Up D0 D a lim new) (h0 : D0.pend = []) (hin : ∀ k, a ≤ k → k < lim → D.rd k = new k) {k : Nat} (hk : k < D0.safe.length) : D.flush.rd k = if a ≤ k ∧ k < lim then new k else D0.rd k := by
  split
  · rename_i hr
    rw [rd_flush (by rw [h.safe]; exact hk)]
    exact hin k hr.1 hr.2
  · rename_i hr
    rcases h.flush h0 hk with ⟨h1, h2, -⟩ | ⟨-, h2⟩
    · exact absurd ⟨h1, h2⟩ hr
    · exact h2
theorem blank_up {D0 : Dsk} (h0 : D0.pend = []) (fr : Nat) : ∀ (r n : Nat) (D : Dsk) (b : Bool), Up D0 D fr (fr + n) (fun _ => noughts) → (b = false → D.pend = []) → (∀ k, fr ≤ k → k < fr + n → D.rd k = noughts) → fr + n + r ≤ D0.safe.length →
    ((blankGo D fr b r n).1 = 13 ∧ Up D0 (blankGo D fr b r n).2 fr (fr + n + r) (fun _ => noughts)) ∨
    ((blankGo D fr b r n).1 = 0 ∧ (blankGo D fr b r n).2.pend = [] ∧ (blankGo D fr b r n).2.safe.length = D0.safe.length ∧ ∀ k, k < D0.safe.length → (blankGo D fr b r n).2.rd k = if fr ≤ k ∧ k < fr + n + r then noughts else D0.rd k)
  | 0, n, D, b, hu, hb, hin, hl => by
    unfold blankGo
    rw [Nat.add_zero]
    cases b with
    | false =>
      refine .inr ⟨rfl, hb rfl, by rw [if_neg (by simp), hu.safe], fun k hk => ?_⟩
      simp only [Bool.false_eq_true, if_false]
      split
      · rename_i hr; exact hin k hr.1 hr.2
      · rw [rd_pend (hb rfl), rd_pend h0, hu.safe]
    | true =>
      simp only [if_true]
      unfold fcode fnext
      by_cases hs : D.left = some 0
      · rw [if_pos hs, if_pos hs]; exact .inl ⟨rfl, hu⟩
      · rw [if_neg hs, if_neg hs]
        exact .inr ⟨rfl, rfl, by simp [Dsk.flush, sets_len, hu.safe], fun k hk => hu.flushed h0 hin hk⟩
  | r + 1, n, D, b, hu, hb, hin, hl => by
    unfold blankGo
    rw [show fr + n + (r + 1) = fr + (n + 1) + r by omega]
    split
    · rename_i he
      exact blank_up h0 fr r (n + 1) D b (hu.more (by omega)) hb (fun k h1 h2 => by
        by_cases hk : k < fr + n
        · exact hin k h1 hk
        · rw [show k = fr + n by omega]; exact he) (by omega)
    · split
      · exact .inl ⟨rfl, hu.more (by omega)⟩
      · refine blank_up h0 fr r (n + 1) _ true (hu.write (by omega)) (fun h => by cases h) (fun k h1 h2 => ?_) (by omega)
        rw [rd_write]
        split
        · rfl
        · exact hin k h1 (by omega)
theorem puts_up {D0 : Dsk} (h0 : D0.pend = []) (L : LogV) (b : List Int) : ∀ (r p : Nat) (D : Dsk), Up D0 D (atL L) (atL L + p) (fun k => partS L b (k - atL L)) → (∀ k, atL L ≤ k → k < atL L + p → D.rd k = partS L b (k - atL L)) → atL L + p + r ≤ D0.safe.length →
    ((putsGo D L b r p).1 = 13 ∧ Up D0 (putsGo D L b r p).2 (atL L) (atL L + p + r) (fun k => partS L b (k - atL L))) ∨
    ((putsGo D L b r p).1 = 0 ∧ (putsGo D L b r p).2.pend = [] ∧ (putsGo D L b r p).2.safe.length = D0.safe.length ∧ ∀ k, k < D0.safe.length → (putsGo D L b r p).2.rd k = if atL L ≤ k ∧ k < atL L + p + r then partS L b (k - atL L) else D0.rd k)
  | 0, p, D, hu, hin, hl => by
    unfold putsGo
    rw [Nat.add_zero]
    unfold fcode fnext
    by_cases hs : D.left = some 0
    · rw [if_pos hs, if_pos hs]; exact .inl ⟨rfl, hu⟩
    · rw [if_neg hs, if_neg hs]
      exact .inr ⟨rfl, rfl, by simp [Dsk.flush, sets_len, hu.safe], fun k hk => hu.flushed h0 hin hk⟩
  | r + 1, p, D, hu, hin, hl => by
    unfold putsGo
    rw [show atL L + p + (r + 1) = atL L + (p + 1) + r by omega]
    split
    · exact .inl ⟨rfl, hu.more (by omega)⟩
    · have hw := hu.write (by omega)
      simp only [Nat.add_sub_cancel_left] at hw
      refine puts_up h0 L b r (p + 1) _ hw (fun k h1 h2 => ?_) (by omega)
      rw [rd_write]
      split
      · rename_i he; rw [← he, Nat.add_sub_cancel_left]
      · exact hin k h1 (by omega)
theorem puts_keep (L : LogV) (b : List Int) (hbb : InB b) : ∀ (r p : Nat) (D : Dsk), DB D → DB (putsGo D L b r p).2 ∧ (putsGo D L b r p).2.safe.length = D.safe.length ∧ (putsGo D L b r p).2.pend.length ≤ D.pend.length + r ∧ (D.left = none → (putsGo D L b r p).1 = 0 ∧ (putsGo D L b r p).2.left = none)
  | 0, p, D, h => by
    unfold putsGo
    exact ⟨h.fnext, (fnext_len D).1, (fnext_len D).2, fun hl => ⟨by simp [fcode, hl], by simp [fnext, hl, Dsk.flush]⟩⟩
  | r + 1, p, D, h => by
    unfold putsGo
    split
    · rename_i hl; exact ⟨h, rfl, by simp, fun h2 => by rw [h2] at hl; cases hl⟩
    · have := puts_keep L b hbb r (p + 1) (D.write (atL L + p) (partS L b p)) (h.write _ (partS_inb L hbb p) (partS_len L b p))
      have h3 := this.2.2.1
      rw [show (D.write (atL L + p) (partS L b p)).pend.length = D.pend.length + 1 by simp [Dsk.write]] at h3
      exact ⟨this.1, this.2.1, by omega, fun hl => this.2.2.2 (by simp [Dsk.write, hl])⟩
end Go.Proofs.Ythbabdjicplooaa
