/- package wal's plain law, third part: labels, parts, what read finds. Conditions: epochs below 256. -/
import Derived.Test.YthbabdjicplooaaWalQ
namespace Go.Proofs.Ythbabdjicplooaa
open Go.RowKit

theorem labelL_small (L : LogV) (h0 : 0 ≤ L.epoch) (h1 : L.epoch < 256) (s p : Nat) : labelL L s p = [0, 0, 0, 0, 0, 0, 0, L.epoch] ++ (beL ((L.recs.length + 1 : Nat) : Int) 4 ++ (beL s 4 ++ (beL p 2 ++ beL (partsN s) 2))) := by
  unfold labelL
  rw [beL_small h0 h1]
  simp only [List.append_assoc]
/-- What a part holds. -/
def chunkL (b : List Int) (p : Nat) : List Int := (b.drop (p * 107)).take 107 ++ List.replicate (107 - ((b.drop (p * 107)).take 107).length) 0
theorem chunkL_len (b : List Int) (p : Nat) : (chunkL b p).length = 107 := by
  unfold chunkL
  rw [List.length_append, List.length_replicate]
  have : ((b.drop (p * 107)).take 107).length ≤ 107 := by rw [List.length_take]; omega
  omega
theorem partS_eq (L : LogV) (b : List Int) (p : Nat) : partS L b p = labelL L b.length p ++ (chunkL b p ++ [1]) := by
  unfold partS
  have hl := labelL_len L b.length p
  have h1 : spl noughts 0 (labelL L b.length p) = labelL L b.length p ++ List.replicate 108 0 := by
    unfold spl
    rw [List.take_zero, List.nil_append, Nat.zero_add, hl, noughts, List.drop_replicate]
  rw [h1]
  have hc : ((b.drop (p * 107)).take 107).length ≤ 107 := by rw [List.length_take]; omega
  generalize hch : (b.drop (p * 107)).take 107 = ch at *
  have h2 : spl (labelL L b.length p ++ List.replicate 108 0) 20 ch = labelL L b.length p ++ (ch ++ List.replicate (108 - ch.length) 0) := by
    unfold spl
    rw [List.take_append, List.take_of_length_le (by omega), hl, Nat.sub_self, List.take_zero, List.append_nil, List.drop_append, List.drop_of_length_le (by omega), List.nil_append, hl, List.drop_replicate, List.append_assoc]
    congr 3
    omega
  rw [h2, List.set_append_right _ _ (by omega), hl, List.set_append_right _ _ (by omega), show 108 - ch.length = (107 - ch.length) + 1 by omega, List.replicate_succ', List.set_append_right _ _ (by rw [List.length_replicate]; omega), List.length_replicate]
  unfold chunkL
  rw [hch, show 127 - 20 - ch.length - (107 - ch.length) = 0 by omega, List.set_cons_zero, List.append_assoc]
theorem partS_take (L : LogV) (b : List Int) (p : Nat) : (partS L b p).take 20 = labelL L b.length p := by
  rw [partS_eq, List.take_left' (labelL_len _ _ _)]
theorem partS_127 (L : LogV) (b : List Int) (p : Nat) : (partS L b p).getD 127 0 = 1 := by
  rw [partS_eq, getD_app_r (by rw [labelL_len]; omega), labelL_len, getD_app_r (by rw [chunkL_len]; omega), chunkL_len]
  rfl
theorem partS_chunk (L : LogV) (b : List Int) (p : Nat) : ((partS L b p).drop 20).take 107 = chunkL b p := by
  rw [partS_eq, List.drop_left' (labelL_len _ _ _), List.take_left' (chunkL_len _ _)]
theorem partS_size (L : LogV) (b : List Int) (h : b.length < 4294967296) (p : Nat) : ofBE (((partS L b p).drop 12).take 4) = b.length := by
  have : ((partS L b p).drop 12).take 4 = beL b.length 4 := by
    rw [partS_eq]
    unfold labelL
    simp only [List.append_assoc]
    rw [show (12 : Nat) = 8 + 4 by rfl, ← List.drop_drop, List.drop_left' (beL_len _ _), List.drop_left' (beL_len _ _), List.take_left' (beL_len _ _)]
  rw [this, ofBE_beL 4 _ (by omega) (by simp; omega)]

/-- A sector that is a part whose label is so. -/
def okS (b : List Int) (lab : List Int) : Prop := b.getD 127 0 = 1 ∧ b.take 20 = lab
theorem readGo_eq (D D' : Dsk) (L : LogV) (n : Nat) : ∀ (r p : Nat) (out : List Int), (∀ j, j < r → D'.rd (atL L + (p + j)) = D.rd (atL L + (p + j))) → readGo D' L n r p out = readGo D L n r p out
  | 0, p, out, _ => rfl
  | r + 1, p, out, h => by
    unfold readGo
    have h0 := h 0 (by omega)
    rw [Nat.add_zero] at h0
    rw [h0, readGo_eq D D' L n r (p + 1) _ (fun j hj => by have := h (j + 1) (by omega); rwa [show p + (j + 1) = p + 1 + j by omega] at this)]
theorem readGo_some (D : Dsk) (hb : DB D) (L : LogV) (n : Nat) (x : List Int) : ∀ (r p : Nat) (out : List Int), out.length = p * 107 → readGo D L n r p out = some x → (∀ j, j < r → okS (D.rd (atL L + (p + j))) (labelL L n (p + j))) ∧ x.length = min n ((p + r) * 107)
  | 0, p, out, ho, h => by
    unfold readGo at h
    injection h with h
    subst h
    exact ⟨fun j hj => by omega, by rw [List.length_take, ho, Nat.add_zero]⟩
  | r + 1, p, out, ho, h => by
    unfold readGo at h
    split at h
    · rename_i hok
      have hl : (out ++ ((D.rd (atL L + p)).drop 20).take 107).length = (p + 1) * 107 := by
        rw [List.length_append, List.length_take, List.length_drop, (hb.rd _).2, ho]; omega
      obtain ⟨h1, h2⟩ := readGo_some D hb L n x r (p + 1) _ hl h
      refine ⟨fun j hj => ?_, by rw [h2]; congr 1; omega⟩
      cases j with
      | zero => exact hok
      | succ j => have := h1 j (by omega); rwa [show p + 1 + j = p + (j + 1) by omega] at this
    · cases h
theorem readGo_none (D : Dsk) (L : LogV) (n : Nat) : ∀ (r p : Nat) (out : List Int), (∀ j, j < r → okS (D.rd (atL L + (p + j))) (labelL L n (p + j))) → ∃ x, readGo D L n r p out = some x
  | 0, p, out, _ => ⟨_, rfl⟩
  | r + 1, p, out, h => by
    unfold readGo
    rw [if_pos (by have := h 0 (by omega); exact this)]
    exact readGo_none D L n r (p + 1) _ fun j hj => by have := h (j + 1) (by omega); rwa [show p + (j + 1) = p + 1 + j by omega] at this
theorem readD_some {D : Dsk} (hb : DB D) {L : LogV} {x : List Int} (h : readD D L = some x) : 0 < x.length ∧ x.length ≤ roomL L ∧ sizeAt D L = x.length ∧ ∀ p, p < partsN x.length → okS (D.rd (atL L + p)) (labelL L x.length p) := by
  unfold readD at h
  split at h
  · cases h
  · split at h
    · cases h
    · rename_i h1 h2
      obtain ⟨n, hn⟩ := Int.eq_ofNat_of_zero_le (show 0 ≤ sizeAt D L by omega)
      rw [hn, Int.toNat_natCast] at h
      rw [hn] at h2
      obtain ⟨h3, h4⟩ := readGo_some D hb L n x (partsN n) 0 [] rfl h
      have hx : x.length = n := by rw [h4]; unfold partsN; omega
      rw [hx, hn]
      exact ⟨by omega, by omega, rfl, fun p hp => by have := h3 p hp; rwa [Nat.zero_add] at this⟩
/-- What is found hangs on the sectors of the record alone. -/
theorem readD_congr {D D' : Dsk} (hb : DB D) {L : LogV} {x : List Int} (h : readD D L = some x) (he : ∀ p, p < partsN x.length → D'.rd (atL L + p) = D.rd (atL L + p)) : readD D' L = some x := by
  obtain ⟨h0, h1, h2, -⟩ := readD_some hb h
  have hp : 0 < partsN x.length := by unfold partsN; omega
  have hs : sizeAt D' L = sizeAt D L := by unfold sizeAt; have := he 0 hp; rw [Nat.add_zero] at this; rw [this]
  rw [← h]
  unfold readD
  rw [hs]
  split
  · rfl
  · split
    · rfl
    · rw [h2, Int.toNat_natCast]
      exact readGo_eq D D' L _ _ 0 [] fun j hj => by rw [Nat.zero_add]; exact he j hj
theorem readGo_parts (D : Dsk) (L : LogV) (b : List Int) : ∀ (r p : Nat), p + r = partsN b.length → (∀ j, j < partsN b.length → D.rd (atL L + j) = partS L b j) → readGo D L b.length r p ((b ++ List.replicate 107 0).take (p * 107)) = some b
  | 0, p, hp, h => by
    unfold readGo
    rw [List.take_take, Nat.min_eq_left (by unfold partsN at hp; omega), List.take_left' rfl]
  | r + 1, p, hp, h => by
    unfold readGo
    rw [h p (by omega), if_pos ⟨partS_127 L b p, partS_take L b p⟩, partS_chunk]
    have hpb : p * 107 < b.length := by unfold partsN at hp; omega
    have e : (b ++ List.replicate 107 0).take (p * 107) ++ chunkL b p = (b ++ List.replicate 107 0).take ((p + 1) * 107) := by
      rw [show (p + 1) * 107 = p * 107 + 107 by omega, List.take_add]
      congr 1
      rw [List.drop_append, show p * 107 - b.length = 0 by omega, List.drop_zero, List.take_append, List.take_replicate]
      unfold chunkL
      congr 2
      rw [List.length_take]
      omega
    rw [e]
    exact readGo_parts D L b r (p + 1) (by omega) h
theorem readD_parts {D : Dsk} {L : LogV} {b : List Int} (h0 : 0 < b.length) (h1 : b.length ≤ roomL L) (h2 : b.length < 4294967296) (h : ∀ j, j < partsN b.length → D.rd (atL L + j) = partS L b j) : readD D L = some b := by
  have hp : 0 < partsN b.length := by unfold partsN; omega
  have hs : sizeAt D L = b.length := by
    unfold sizeAt
    have := h 0 hp
    rw [Nat.add_zero] at this
    rw [this]
    exact partS_size L b h2 0
  unfold readD
  rw [hs, if_neg (by unfold roomL at h1; omega), if_neg (by omega), Int.toNat_natCast]
  have := readGo_parts D L b (partsN b.length) 0 (by omega) h
  rwa [Nat.zero_mul, List.take_zero] at this
end Go.Proofs.Ythbabdjicplooaa
