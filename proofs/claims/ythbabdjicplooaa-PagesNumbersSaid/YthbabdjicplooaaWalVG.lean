/- package wal's plain law, third part: labels, parts, what read finds. Conditions: epochs below 256. -/
import Derived.Test.YthbabdjicplooaaWalQG
namespace Go.Proofs.Ythbabdjicplooaa
open Go.RowKit

theorem labelL_small (L : LogV) (h0 : 0 ≤ L.epoch) (h1 : L.epoch < 256) (s p : Nat) : labelL L s p = [0, 0, 0, 0, 0, 0, 0, L.epoch] ++ (beL ((L.recs.length + 1 : Nat) : Int) 4 ++ (beL s 4 ++ (beL p 2 ++ beL (partsN s) 2))) := by
  unfold labelL
  rw [beL_small h0 h1]
  simp only [List.append_assoc]
/-- What a part holds. -/
def chunkL (b : List Int) (p : Nat) : List Int := (b.drop (p * 107)).take 107 ++ List.replicate (107 - ((b.drop (p * 107)).take 107).length) 0
theorem chunkL_len (b : List Int) (p : Nat) : (chunkL b p).length = 107 := by
  unfold chunkL
  rw [List.length_append, List.length_replicate]
  have : ((b.drop (p * 107)).take 107).length ≤ 107 := by rw [List.length_take]; omega
  omega
theorem partS_eq (L : LogV) (b : List Int) (p : Nat) : partS L b p = labelL L b.length p ++ (chunkL b p ++ [1]) := by
  unfold partS
  have hl := labelL_len L b.length p
  have h1 : spl noughts 0 (labelL L b.length p) = labelL L b.length p ++ List.replicate 108 0 := by
    unfold spl
    rw [List.take_zero, List.nil_append, Nat.zero_add, hl, noughts, List.drop_replicate]
  rw [h1]
  have hc : ((b.drop (p * 107)).take 107).length ≤ 107 := by rw [List.length_take]; omega
  generalize hch : (b.drop (p * 107)).take 107 = ch at *
  have h2 : spl (labelL L b.length p ++ List.replicate 108 0) 20 ch = labelL L b.length p ++ (ch ++ List.replicate (108 - ch.length) 0) := by
    unfold spl
    rw [List.take_append, List.take_of_length_le (by omega), hl, Nat.sub_self, List.take_zero, List.append_nil, List.drop_append, List.drop_of_length_le (by omega), List.nil_append, hl, List.drop_replicate, List.append_assoc]
    congr 3
    omega
  rw [h2, List.set_append_right _ _ (by omega), hl, List.set_append_right _ _ (by omega), show 108 - ch.length = (107 - ch.length) + 1 by omega, List.replicate_succ', List.set_append_right _ _ (by rw [List.length_replicate]; omega), List.length_replicate]
  unfold chunkL
  rw [hch, show 127 - 20 - ch.length - (107 - ch.length) = 0 by omega, List.set_cons_zero, List.append_assoc]
theorem partS_take (L : LogV) (b : List Int) (p : Nat) : (partS L b p).take 20 = labelL L b.length p := by
  rw [partS_eq, List.take_left' (labelL_len _ _ _)]
theorem partS_127 (L : LogV) (b : List Int) (p : Nat) : (partS L b p).getD 127 0 = 1 := by
  rw [partS_eq, getD_app_r (by rw [labelL_len]; omega), labelL_len, getD_app_r (by rw [chunkL_len]; omega), chunkL_len]
  rfl
theorem partS_chunk (L : LogV) (b : List Int) (p : Nat) : ((partS L b p).drop 20).take 107 = chunkL b p := by
  rw [partS_eq, List.drop_left' (labelL_len _ _ _), List.take_left' (chunkL_len _ _)]
theorem partS_size (L : LogV) (b : List Int) (h : b.length < 4294967296) (p : Nat) : ofBE (((partS L b p).drop 12).take 4) = b.length := by
  have : ((partS L b p).drop 12).take 4 = beL b.length 4 := by
    rw [partS_eq]
    unfold labelL
    simp only [List.append_assoc]
    rw [show (12 : Nat) = 8 + 4 by rfl, ← List.drop_drop, List.drop_left' (beL_len _ _), List.drop_left' (beL_len _ _), List.take_left' (beL_len _ _)]
  rw [this, ofBE_beL 4 _ (by omega) (by simp; omega)]

/-- A sector that is a part whose label is so. -/
def okS (b : List Int) (lab : List Int) : Prop := b.getD 127 0 = 1 ∧ b.take 20 = lab
theorem readGo_eq (D D' : Dsk) (L : LogV) (n : Nat) : ∀ (r p : Nat) (out : List Int), (∀ j, j < r → D'.rd (atL L + (p + j)) = D.rd (atL L + (p + j))) → readGo D' L n r p out = readGo D L n r p out
  | 0, p, out, _ => rfl
  | r + 1, p, out, h => by
    unfold readGo
    have h0 := h 0 (by omega)
    rw [Nat.add_zero] at h0
    rw [h0, readGo_eq D D' L n r (p + 1) _ (fun j hj => by have := h (j + 1) (by omega); rwa [show p + (j + 1) = p + 1 + j by omega] at this)]
theorem readGo_some (D : Dsk) (hb : DB D) (L : LogV) (n : Nat) (x : List Int) : ∀ (r p : Nat) (out : List Int), out.length = p * 107 → readGo D L n r p out = some x → (∀ j, j < r → okS (D.rd (atL L + (p + j))) (labelL L n (p + j))) ∧ x.length = min n ((p + r) * 107)
  | 0, p, out, ho, h => by
    unfold readGo at h
    injection h with h
    subst h
    exact ⟨fun j hj => by omega, by rw [List.length_take, ho, Nat.add_zero]⟩
  | r + 1, p, out, ho, h => by
    unfold readGo at h
    split at h
    · rename_i hok
      have hl : (out ++ ((D.rd (atL L + p)).drop 20).take 107).length = (p + 1) * 107 := by
        rw [List.length_append, List.length_take, List.length_drop, (hb.rd _).2, ho]; omega
      obtain ⟨h1, h2⟩ := readGo_some D hb L n x r (p + 1) _ hl h
      refine ⟨fun j hj => ?_, by rw [h2]; congr 1; omega⟩
      cases j with
      | zero => exact hok
      | succ j => have := h1 j (by omega); rwa [show p + 1 + j = p + (j + 1) by omega] at this
    · cases h
theorem readGo_none (D : Dsk) (L : LogV) (n : Nat) : ∀ (r p : Nat) (out : List Int), (∀ j, j < r → okS (D.rd (atL L + (p + j))) (labelL L n (p + j))) → ∃ x, readGo D L n r p out = some x
  | 0, p, out, _ => ⟨_, rfl⟩
  | r + 1, p, out, h => by
    unfold readGo
    rw [if_pos (by have := h 0 (by omega); exact this)]
    exact readGo_none D L n r (p + 1) _ fun j hj => by have := h (j + 1) (by omega); rwa [show p + (j + 1) = p + 1 + j by omega] at this
theorem readD_some {D : Dsk} (hb : DB D) {L : LogV} {x : List Int} (h : readD D L = some x) : 0 < x.length ∧ x.length ≤ roomL L ∧ sizeAt D L = x.length ∧ ∀ p, p < partsN x.length → okS (D.rd (atL L + p)) (labelL L x.length p) := by
  unfold readD at h
  split at h
  · cases h
  · split at h
    · cases h
    · rename_i h1 h2
      obtain ⟨n, hn⟩ := Int.eq_ofNat_of_zero_le (show 0 ≤ sizeAt D L by omega)
      rw [hn, Int.toNat_natCast] at h
      rw [hn] at h2
      obtain ⟨h3, h4⟩ := readGo_some D hb L n x (partsN n) 0 [] rfl h
      have hx : x.length = n := by rw [h4]; unfold partsN; omega
      rw [hx, hn]
      exact ⟨by omega, by omega, rfl, fun p hp => by have := h3 p hp; rwa [Nat.zero_add] at this⟩
/-- What is found hangs on the sectors of the record alone. -/
theorem readD_congr {D D' : Dsk} (hb : DB D) {L : LogV} {x : List Int} (h : readD D L = some x) (he : ∀ p, p < partsN x.length → D'.rd (atL L + p) = D.rd (atL L + p)) : readD D' L = some x := by
  obtain ⟨h0, h1, h2, -⟩ := readD_some hb h
  have hp : 0 < partsN x.length := by unfold partsN; omega
  have hs : sizeAt D' L = sizeAt D L := by unfold sizeAt; have := he 0 hp; rw [Nat.add_zero] at this; rw [this]
  rw [← h]
  unfold readD
  rw [hs]
  split
  · rfl
  · split
    · rfl
    · rw [h2, Int.toNat_natCast]
      exact readGo_eq D D' L _ _ 0 [] fun j hj => by rw [Nat.zero_add]; exact he j hj
theorem readGo_parts (D : Dsk) (L : LogV) (b : List Int) : ∀ (r p : Nat), p + r = partsN b.length → (∀ j, j < partsN b.length → D.rd (atL L + j) = partS L b j) → readGo D L b.length r p ((b ++ List.replicate 107 0).take (p * 107)) = some b
  | 0, p, hp, h => by
    unfold readGo
    rw [List.take_take, Nat.min_eq_left (by unfold partsN at hp; omega), List.take_left' rfl]
  | r + 1, p, hp, h => by
    unfold readGo
    rw [h p (by omega), if_pos ⟨partS_127 L b p, partS_take L b p⟩, partS_chunk]
    have hpb : p * 107 < b.length := by unfold partsN at hp; omega
    have e : (b ++ List.replicate 107 0).take (p * 107) ++ chunkL b p = (b ++ List.replicate 107 0).take ((p + 1) * 107) := by
      rw [show (p + 1) * 107 = p * 107 + 107 by omega, List.take_add]
      congr 1
      rw [List.drop_append, show p * 107 - b.length = 0 by omega, List.drop_zero, List.take_append, List.take_replicate]
      unfold chunkL
      congr 2
      rw [List.length_take]
      omega
    rw [e]
    exact readGo_parts D L b r (p + 1) (by omega) h
theorem readD_parts {D : Dsk} {L : LogV} {b : List Int} (h0 : 0 < b.length) (h1 : b.length ≤ roomL L) (h2 : b.length < 4294967296) (h : ∀ j, j < partsN b.length → D.rd (atL L + j) = partS L b j) : readD D L = some b := by
  have hp : 0 < partsN b.length := by unfold partsN; omega
  have hs : sizeAt D L = b.length := by
    unfold sizeAt
    have := h 0 hp
    rw [Nat.add_zero] at this
    rw [this]
    exact partS_size L b h2 0
  unfold readD
  rw [hs, if_neg (by unfold roomL at h1; omega), if_neg (by omega), Int.toNat_natCast]
  have := readGo_parts D L b (partsN b.length) 0 (by omega) h
  rwa [Nat.zero_mul, List.take_zero] at this
end Go.Proofs.Ythbabdjicplooaa

/- package wal's plain law, fourth part: what a stop in the midst of blank, of the parts' writes leaves. Conditions: none. -/
namespace Go.Proofs.Ythbabdjicplooaa
open Go.RowKit

theorem Up.more {D0 D : Dsk} {a lim lim' : Nat} {new : Nat → List Int} (h : Up D0 D a lim new) (hl : lim ≤ lim') : Up D0 D a lim' new :=
  ⟨h.safe, h.nd, fun p hp => by have := h.at_ p hp; exact ⟨this.1, by omega, this.2.2⟩⟩
theorem Up.write {D0 D : Dsk} {a lim : Nat} {new : Nat → List Int} (h : Up D0 D a lim new) (ha : a ≤ lim) : Up D0 (D.write lim (new lim)) a (lim + 1) new := by
  refine ⟨h.safe, ?_, fun p hp => ?_⟩
  · simp only [Dsk.write, List.map_append, List.map_cons, List.map_nil]
    rw [List.nodup_append]
    refine ⟨h.nd, by simp, fun x hx y hy => ?_⟩
    obtain ⟨q, hq, rfl⟩ := List.mem_map.1 hx
    have := h.at_ q hq
    simp at hy
    omega
  · rcases List.mem_append.1 hp with hp | hp
    · have := h.at_ p hp; exact ⟨this.1, by omega, this.2.2⟩
    · rw [List.mem_singleton.1 hp]; exact ⟨ha, by simp, rfl⟩
theorem Up.zero {D0 : Dsk} (h0 : D0.pend = []) (a lim : Nat) (new : Nat → List Int) : Up D0 D0 a lim new := ⟨rfl, by rw [h0]; exact List.nodup_nil, by rw [h0]; intro p hp; cases hp⟩
theorem Up.flushed {D0 D : Dsk} {a lim : Nat} {new : Nat → List Int} (h : Up D0 D a lim new) (h0 : D0.pend = []) (hin : ∀ k, a ≤ k → k < lim → D.rd k = new k) {k : Nat} (hk : k < D0.safe.length) : D.flush.rd k = if a ≤ k ∧ k < lim then new k else D0.rd k := by
  split
  · rename_i hr
    rw [rd_flush (by rw [h.safe]; exact hk)]
    exact hin k hr.1 hr.2
  · rename_i hr
    rcases h.flush h0 hk with ⟨h1, h2, -⟩ | ⟨-, h2⟩
    · exact absurd ⟨h1, h2⟩ hr
    · exact h2
theorem blank_up {D0 : Dsk} (h0 : D0.pend = []) (fr : Nat) : ∀ (r n : Nat) (D : Dsk) (b : Bool), Up D0 D fr (fr + n) (fun _ => noughts) → (b = false → D.pend = []) → (∀ k, fr ≤ k → k < fr + n → D.rd k = noughts) → fr + n + r ≤ D0.safe.length →
    ((blankGo D fr b r n).1 = 13 ∧ Up D0 (blankGo D fr b r n).2 fr (fr + n + r) (fun _ => noughts)) ∨
    ((blankGo D fr b r n).1 = 0 ∧ (blankGo D fr b r n).2.pend = [] ∧ (blankGo D fr b r n).2.safe.length = D0.safe.length ∧ ∀ k, k < D0.safe.length → (blankGo D fr b r n).2.rd k = if fr ≤ k ∧ k < fr + n + r then noughts else D0.rd k)
  | 0, n, D, b, hu, hb, hin, hl => by
    unfold blankGo
    rw [Nat.add_zero]
    cases b with
    | false =>
      refine .inr ⟨rfl, hb rfl, by rw [if_neg (by simp), hu.safe], fun k hk => ?_⟩
      simp only [Bool.false_eq_true, if_false]
      split
      · rename_i hr; exact hin k hr.1 hr.2
      · rw [rd_pend (hb rfl), rd_pend h0, hu.safe]
    | true =>
      simp only [if_true]
      unfold fcode fnext
      by_cases hs : D.left = some 0
      · rw [if_pos hs, if_pos hs]; exact .inl ⟨rfl, hu⟩
      · rw [if_neg hs, if_neg hs]
        exact .inr ⟨rfl, rfl, by simp [Dsk.flush, sets_len, hu.safe], fun k hk => hu.flushed h0 hin hk⟩
  | r + 1, n, D, b, hu, hb, hin, hl => by
    unfold blankGo
    rw [show fr + n + (r + 1) = fr + (n + 1) + r by omega]
    split
    · rename_i he
      exact blank_up h0 fr r (n + 1) D b (hu.more (by omega)) hb (fun k h1 h2 => by
        by_cases hk : k < fr + n
        · exact hin k h1 hk
        · rw [show k = fr + n by omega]; exact he) (by omega)
    · split
      · exact .inl ⟨rfl, hu.more (by omega)⟩
      · refine blank_up h0 fr r (n + 1) _ true (hu.write (by omega)) (fun h => by cases h) (fun k h1 h2 => ?_) (by omega)
        rw [rd_write]
        split
        · rfl
        · exact hin k h1 (by omega)
theorem puts_up {D0 : Dsk} (h0 : D0.pend = []) (L : LogV) (b : List Int) : ∀ (r p : Nat) (D : Dsk), Up D0 D (atL L) (atL L + p) (fun k => partS L b (k - atL L)) → (∀ k, atL L ≤ k → k < atL L + p → D.rd k = partS L b (k - atL L)) → atL L + p + r ≤ D0.safe.length →
    ((putsGo D L b r p).1 = 13 ∧ Up D0 (putsGo D L b r p).2 (atL L) (atL L + p + r) (fun k => partS L b (k - atL L))) ∨
    ((putsGo D L b r p).1 = 0 ∧ (putsGo D L b r p).2.pend = [] ∧ (putsGo D L b r p).2.safe.length = D0.safe.length ∧ ∀ k, k < D0.safe.length → (putsGo D L b r p).2.rd k = if atL L ≤ k ∧ k < atL L + p + r then partS L b (k - atL L) else D0.rd k)
  | 0, p, D, hu, hin, hl => by
    unfold putsGo
    rw [Nat.add_zero]
    unfold fcode fnext
    by_cases hs : D.left = some 0
    · rw [if_pos hs, if_pos hs]; exact .inl ⟨rfl, hu⟩
    · rw [if_neg hs, if_neg hs]
      exact .inr ⟨rfl, rfl, by simp [Dsk.flush, sets_len, hu.safe], fun k hk => hu.flushed h0 hin hk⟩
  | r + 1, p, D, hu, hin, hl => by
    unfold putsGo
    rw [show atL L + p + (r + 1) = atL L + (p + 1) + r by omega]
    split
    · exact .inl ⟨rfl, hu.more (by omega)⟩
    · have hw := hu.write (by omega)
      simp only [Nat.add_sub_cancel_left] at hw
      refine puts_up h0 L b r (p + 1) _ hw (fun k h1 h2 => ?_) (by omega)
      rw [rd_write]
      split
      · rename_i he; rw [← he, Nat.add_sub_cancel_left]
      · exact hin k h1 (by omega)
theorem puts_keep (L : LogV) (b : List Int) (hbb : InB b) : ∀ (r p : Nat) (D : Dsk), DB D → DB (putsGo D L b r p).2 ∧ (putsGo D L b r p).2.safe.length = D.safe.length ∧ (putsGo D L b r p).2.pend.length ≤ D.pend.length + r ∧ (D.left = none → (putsGo D L b r p).1 = 0 ∧ (putsGo D L b r p).2.left = none)
  | 0, p, D, h => by
    unfold putsGo
    exact ⟨h.fnext, (fnext_len D).1, (fnext_len D).2, fun hl => ⟨by simp [fcode, hl], by simp [fnext, hl, Dsk.flush]⟩⟩
  | r + 1, p, D, h => by
    unfold putsGo
    split
    · rename_i hl; exact ⟨h, rfl, by simp, fun h2 => by rw [h2] at hl; cases hl⟩
    · have := puts_keep L b hbb r (p + 1) (D.write (atL L + p) (partS L b p)) (h.write _ (partS_inb L hbb p) (partS_len L b p))
      have h3 := this.2.2.1
      rw [show (D.write (atL L + p) (partS L b p)).pend.length = D.pend.length + 1 by simp [Dsk.write]] at h3
      exact ⟨this.1, this.2.1, by omega, fun hl => this.2.2.2 (by simp [Dsk.write, hl])⟩
end Go.Proofs.Ythbabdjicplooaa
