/- package wal's plain law, second part: what a head, a label, a part say; what read finds. Conditions: epochs below 256. -/
import Derived.Test.YthbabdjicplooaaWalPG
namespace Go.Proofs.Ythbabdjicplooaa
open Go.RowKit

theorem beL_small {e : Int} (h0 : 0 ≤ e) (h1 : e < 256) : beL e 8 = [0, 0, 0, 0, 0, 0, 0, e] := by
  have hd : ∀ i : Nat, dig e i = if i = 0 then e else 0 := fun i => by
    unfold dig
    cases i with
    | zero => simp; omega
    | succ i =>
      have hp : (0 : Int) < 256 ^ i := Int.pow_pos (by omega)
      have : e / 256 ^ (i + 1) = 0 := Int.ediv_eq_zero_of_lt h0 (by rw [Int.pow_succ]; have : (1 : Int) * 256 ≤ 256 ^ i * 256 := Int.mul_le_mul_of_nonneg_right (by omega) (by omega); omega)
      rw [this]; rfl
  simp only [beL, hd]
  rfl
theorem headL_small {e : Int} (h0 : 0 ≤ e) (h1 : e < 256) : headL e = [0, 0, 0, 0, 0, 0, 0, e, 0, 3, 108, 111, 103] ++ (List.replicate 106 0 ++ [0, 0, 0, 0, 0, 0, 0, e, 1]) := by
  have h3 : beL 3 2 = [0, 3] := rfl
  unfold headL logT
  rw [beL_small h0 h1, h3]
  rfl
theorem spl_logT_len (n : Int) : (spl noughts 0 (logT n)).length = 128 := by rw [spl_len _ _ _ (by simp [logT, beL_len, noughts_len]), noughts_len]
theorem headL_len (n : Int) : (headL n).length = 128 := by
  unfold headL
  rw [List.length_set, spl_len _ _ _ (by rw [spl_logT_len, beL_len]; omega), spl_logT_len]
theorem headL_tail (n : Int) : ((headL n).drop 119).take 8 = beL n 8 := by
  unfold headL spl
  have hl := spl_logT_len n
  unfold spl at hl
  rw [List.drop_set, if_neg (by omega), List.take_set_of_le (by omega), List.append_assoc, List.drop_append, List.drop_of_length_le (by rw [List.length_take, hl]; omega), List.nil_append, List.length_take, hl, show 119 - min 119 128 = 0 by omega, List.drop_zero, List.take_append, List.take_of_length_le (by rw [beL_len]; omega), beL_len, Nat.sub_self, List.take_zero, List.append_nil]
theorem headL_127 (n : Int) : (headL n).getD 127 0 = 1 := by
  unfold headL
  rw [List.getD_eq_getElem?_getD, List.getElem?_set]
  simp [spl_len _ _ _ (show 119 + (beL n 8).length ≤ (spl noughts 0 (logT n)).length by rw [spl_logT_len, beL_len]; omega), spl_logT_len]
theorem epochAt_head {e : Int} (h0 : 1 ≤ e) (h1 : e < 256) : epochAt (headL e) = e := by
  have ht : ofBE ((headL e).take 8) = e := by
    rw [headL_small (by omega) h1]
    simp [ofBE]
  unfold epochAt
  rw [ht, if_pos ⟨by omega, rfl⟩]
/-- The sector of the head that does not hold, while the epoch ep does. -/
def Oth (b : List Int) (ep : Int) : Prop := (∀ i, 119 ≤ i → i < 126 → b.getD i 0 = 0) ∧ (b.getD 126 0 < ep ∨ (b.getD 126 0 = ep + 1 ∧ b.getD 127 0 ≠ 1))
theorem epochAt_oth {b : List Int} {ep : Int} (h : Oth b ep) (hb : InB b ∧ b.length = 128) (hep : 0 < ep) : epochAt b < ep := by
  unfold epochAt
  split
  · rename_i h1
    obtain ⟨h1, h2⟩ := h1
    generalize hn : ofBE (b.take 8) = n at *
    have hr := ofBE_range (hb.1.take 8)
    rw [hn, List.length_take, hb.2] at hr
    have ht := headL_tail n
    rw [← h2] at ht
    have hd : (b.drop 119).take 8 = [0, 0, 0, 0, 0, 0, 0, b.getD 126 0] := by
      apply List.ext_getElem
      · simp [hb.2]
      · intro i h3 h4
        rw [List.getElem_take, List.getElem_drop]
        have hi : i < 8 := by simpa using h4
        have hg : b[119 + i]'(by omega) = b.getD (119 + i) 0 := by rw [List.getD_eq_getElem?_getD, List.getElem?_eq_getElem (by omega)]; rfl
        rw [hg]
        by_cases h7 : i = 7
        · subst h7; rfl
        · rw [h.1 (119 + i) (by omega) (by omega)]
          have : i = 0 ∨ i = 1 ∨ i = 2 ∨ i = 3 ∨ i = 4 ∨ i = 5 ∨ i = 6 := by omega
          rcases this with rfl | rfl | rfl | rfl | rfl | rfl | rfl <;> rfl
    have he : n = b.getD 126 0 := by
      rw [← ofBE_beL 8 n hr.1 (by have := hr.2; simpa using this), ← ht, hd]
      simp [ofBE]
    rcases h.2 with h3 | ⟨_, h3⟩
    · omega
    · exact absurd (by rw [h2]; exact headL_127 n) h3
  · exact hep
theorem oth_noughts {ep : Int} (h : 0 < ep) : Oth noughts ep := ⟨fun i _ _ => noughts_get i, .inl (by rw [noughts_get]; exact h)⟩
theorem headL_get {e : Int} (h0 : 0 ≤ e) (h1 : e < 256) : (∀ i, 119 ≤ i → i < 126 → (headL e).getD i 0 = 0) ∧ (headL e).getD 126 0 = e := by
  rw [headL_small h0 h1]
  constructor
  · intro i h2 h3
    have : i = 119 ∨ i = 120 ∨ i = 121 ∨ i = 122 ∨ i = 123 ∨ i = 124 ∨ i = 125 := by omega
    rcases this with rfl | rfl | rfl | rfl | rfl | rfl | rfl <;> rfl
  · rfl
theorem oth_head {ep : Int} (h0 : 0 ≤ ep) (h1 : ep + 1 < 256) : Oth (headL ep) (ep + 1) := ⟨(headL_get h0 (by omega)).1, .inl (by rw [(headL_get h0 (by omega)).2]; omega)⟩
/-- A head that is torn: there, or none. -/
theorem torn_head {b : List Int} {ep : Int} {nb : Nat} (h : Oth b ep) (hb : InB b ∧ b.length = 128) (h0 : 0 < ep) (h1 : ep + 1 < 256) (hn : nb ≤ 128) : tornL b (headL (ep + 1)) nb = headL (ep + 1) ∨ Oth (tornL b (headL (ep + 1)) nb) ep := by
  have hg := headL_get (e := ep + 1) (by omega) h1
  have hl := headL_len (ep + 1)
  by_cases h8 : nb = 128
  · left
    subst h8
    unfold tornL
    rw [List.take_of_length_le (by omega), List.drop_of_length_le (by omega), List.append_nil]
  · by_cases h7 : nb = 127
    · subst h7
      by_cases hb1 : b.getD 127 0 = 1
      · left
        refine ext128 (tornL_ok hb ⟨headL_inb _, hl⟩ hn).2 hl fun i hi => ?_
        rw [tornL_get hl hn]
        split
        · rfl
        · obtain rfl : i = 127 := by omega
          rw [hb1, headL_127]
      · right
        refine ⟨fun i h2 h3 => ?_, .inr ⟨?_, ?_⟩⟩
        · rw [tornL_get hl hn, if_pos (by omega)]; exact hg.1 i h2 h3
        · rw [tornL_get hl hn, if_pos (by omega)]; exact hg.2
        · rw [tornL_get hl hn, if_neg (by omega)]; exact hb1
    · right
      refine ⟨fun i h2 h3 => ?_, ?_⟩
      · rw [tornL_get hl hn]
        split
        · exact hg.1 i h2 h3
        · exact h.1 i h2 h3
      · rw [tornL_get hl hn, if_neg (by omega), tornL_get hl hn, if_neg (by omega)]; exact h.2
end Go.Proofs.Ythbabdjicplooaa

/- package wal's plain law, third part: labels, parts, what read finds. Conditions: epochs below 256. -/
namespace Go.Proofs.Ythbabdjicplooaa
open Go.RowKit

theorem labelL_small (L : LogV) (h0 : 0 ≤ L.epoch) (h1 : L.epoch < 256) (s p : Nat) : labelL L s p = [0, 0, 0, 0, 0, 0, 0, L.epoch] ++ (beL ((L.recs.length + 1 : Nat) : Int) 4 ++ (beL s 4 ++ (beL p 2 ++ beL (partsN s) 2))) := by
  unfold labelL
  rw [beL_small h0 h1]
  simp only [List.append_assoc]
/-- What a part holds. -/
def chunkL (b : List Int) (p : Nat) : List Int := (b.drop (p * 107)).take 107 ++ List.replicate (107 - ((b.drop (p * 107)).take 107).length) 0
theorem chunkL_len (b : List Int) (p : Nat) : (chunkL b p).length = 107 := by
  unfold chunkL
  rw [List.length_append, List.length_replicate]
  have : ((b.drop (p * 107)).take 107).length ≤ 107 := by rw [List.length_take]; omega
  omega
theorem partS_eq (L : LogV) (b : List Int) (p : Nat) : partS L b p = labelL L b.length p ++ (chunkL b p ++ [1]) := by
  unfold partS
  have hl := labelL_len L b.length p
  have h1 : spl noughts 0 (labelL L b.length p) = labelL L b.length p ++ List.replicate 108 0 := by
    unfold spl
    rw [List.take_zero, List.nil_append, Nat.zero_add, hl, noughts, List.drop_replicate]
  rw [h1]
  have hc : ((b.drop (p * 107)).take 107).length ≤ 107 := by rw [List.length_take]; omega
  generalize hch : (b.drop (p * 107)).take 107 = ch at *
  have h2 : spl (labelL L b.length p ++ List.replicate 108 0) 20 ch = labelL L b.length p ++ (ch ++ List.replicate (108 - ch.length) 0) := by
    unfold spl
    rw [List.take_append, List.take_of_length_le (by omega), hl, Nat.sub_self, List.take_zero, List.append_nil, List.drop_append, List.drop_of_length_le (by omega), List.nil_append, hl, List.drop_replicate, List.append_assoc]
    congr 3
    omega
  rw [h2, List.set_append_right _ _ (by omega), hl, List.set_append_right _ _ (by omega), show 108 - ch.length = (107 - ch.length) + 1 by omega, List.replicate_succ', List.set_append_right _ _ (by rw [List.length_replicate]; omega), List.length_replicate]
  unfold chunkL
  rw [hch, show 127 - 20 - ch.length - (107 - ch.length) = 0 by omega, List.set_cons_zero, List.append_assoc]
theorem partS_take (L : LogV) (b : List Int) (p : Nat) : (partS L b p).take 20 = labelL L b.length p := by
  rw [partS_eq, List.take_left' (labelL_len _ _ _)]
theorem partS_127 (L : LogV) (b : List Int) (p : Nat) : (partS L b p).getD 127 0 = 1 := by
  rw [partS_eq, getD_app_r (by rw [labelL_len]; omega), labelL_len, getD_app_r (by rw [chunkL_len]; omega), chunkL_len]
  rfl
theorem partS_chunk (L : LogV) (b : List Int) (p : Nat) : ((partS L b p).drop 20).take 107 = chunkL b p := by
  rw [partS_eq, List.drop_left' (labelL_len _ _ _), List.take_left' (chunkL_len _ _)]
theorem partS_size (L : LogV) (b : List Int) (h : b.length < 4294967296) (p : Nat) : ofBE (((partS L b p).drop 12).take 4) = b.length := by
  have : ((partS L b p).drop 12).take 4 = beL b.length 4 := by
    rw [partS_eq]
    unfold labelL
    simp only [List.append_assoc]
    rw [show (12 : Nat) = 8 + 4 by rfl, ← List.drop_drop, List.drop_left' (beL_len _ _), List.drop_left' (beL_len _ _), List.take_left' (beL_len _ _)]
  rw [this, ofBE_beL 4 _ (by omega) (by simp; omega)]

/-- A sector that is a part whose label is so. -/
def okS (b : List Int) (lab : List Int) : Prop := b.getD 127 0 = 1 ∧ b.take 20 = lab
theorem readGo_eq (D D' : Dsk) (L : LogV) (n : Nat) : ∀ (r p : Nat) (out : List Int), (∀ j, j < r → D'.rd (atL L + (p + j)) = D.rd (atL L + (p + j))) → readGo D' L n r p out = readGo D L n r p out
  | 0, p, out, _ => rfl
  | r + 1, p, out, h => by
    unfold readGo
    have h0 := h 0 (by omega)
    rw [Nat.add_zero] at h0
    rw [h0, readGo_eq D D' L n r (p + 1) _ (fun j hj => by have := h (j + 1) (by omega); rwa [show p + (j + 1) = p + 1 + j by omega] at this)]
theorem readGo_some (D : Dsk) (hb : DB D) (L : LogV) (n : Nat) (x : List Int) : ∀ (r p : Nat) (out : List Int), out.length = p * 107 → readGo D L n r p out = some x → (∀ j, j < r → okS (D.rd (atL L + (p + j))) (labelL L n (p + j))) ∧ x.length = min n ((p + r) * 107)
  | 0, p, out, ho, h => by
    unfold readGo at h
    injection h with h
    subst h
    exact ⟨fun j hj => by omega, by rw [List.length_take, ho, Nat.add_zero]⟩
  | r + 1, p, out, ho, h => by
    unfold readGo at h
    split at h
    · rename_i hok
      have hl : (out ++ ((D.rd (atL L + p)).drop 20).take 107).length = (p + 1) * 107 := by
        rw [List.length_append, List.length_take, List.length_drop, (hb.rd _).2, ho]; omega
      obtain ⟨h1, h2⟩ := readGo_some D hb L n x r (p + 1) _ hl h
      refine ⟨fun j hj => ?_, by rw [h2]; congr 1; omega⟩
      cases j with
      | zero => exact hok
      | succ j => have := h1 j (by omega); rwa [show p + 1 + j = p + (j + 1) by omega] at this
    · cases h
theorem readGo_none (D : Dsk) (L : LogV) (n : Nat) : ∀ (r p : Nat) (out : List Int), (∀ j, j < r → okS (D.rd (atL L + (p + j))) (labelL L n (p + j))) → ∃ x, readGo D L n r p out = some x
  | 0, p, out, _ => ⟨_, rfl⟩
  | r + 1, p, out, h => by
    unfold readGo
    rw [if_pos (by have := h 0 (by omega); exact this)]
    exact readGo_none D L n r (p + 1) _ fun j hj => by have := h (j + 1) (by omega); rwa [show p + (j + 1) = p + 1 + j by omega] at this
theorem readD_some {D : Dsk} (hb : DB D) {L : LogV} {x : List Int} (h : readD D L = some x) : 0 < x.length ∧ x.length ≤ roomL L ∧ sizeAt D L = x.length ∧ ∀ p, p < partsN x.length → okS (D.rd (atL L + p)) (labelL L x.length p) := by
  unfold readD at h
  split at h
  · cases h
  · split at h
    · cases h
    · rename_i h1 h2
      obtain ⟨n, hn⟩ := Int.eq_ofNat_of_zero_le (show 0 ≤ sizeAt D L by omega)
      rw [hn, Int.toNat_natCast] at h
      rw [hn] at h2
      obtain ⟨h3, h4⟩ := readGo_some D hb L n x (partsN n) 0 [] rfl h
      have hx : x.length = n := by rw [h4]; unfold partsN; omega
      rw [hx, hn]
      exact ⟨by omega, by omega, rfl, fun p hp => by have := h3 p hp; rwa [Nat.zero_add] at this⟩
/-- What is found hangs on the sectors of the record alone. -/
theorem readD_congr {D D' : Dsk} (hb : DB D) {L : LogV} {x : List Int} (h : readD D L = some x) (he : ∀ p, p < partsN x.length → D'.rd (atL L + p) = D.rd (atL L + p)) : readD D' L = some x := by
  obtain ⟨h0, h1, h2, -⟩ := readD_some hb h
  have hp : 0 < partsN x.length := by unfold partsN; omega
  have hs : sizeAt D' L = sizeAt D L := by unfold sizeAt; have := he 0 hp; rw [Nat.add_zero] at this; rw [this]
  rw [← h]
  unfold readD
  rw [hs]
  split
  · rfl
  · split
    · rfl
    · rw [h2, Int.toNat_natCast]
      exact readGo_eq D D' L _ _ 0 [] fun j hj => by rw [Nat.zero_add]; exact he j hj
theorem readGo_parts (D : Dsk) (L : LogV) (b : List Int) : ∀ (r p : Nat), p + r = partsN b.length → (∀ j, j < partsN b.length → D.rd (atL L + j) = partS L b j) → readGo D L b.length r p ((b ++ List.replicate 107 0).take (p * 107)) = some b
  | 0, p, hp, h => by
    unfold readGo
    rw [List.take_take, Nat.min_eq_left (by unfold partsN at hp; omega), List.take_left' rfl]
  | r + 1, p, hp, h => by
    unfold readGo
    rw [h p (by omega), if_pos ⟨partS_127 L b p, partS_take L b p⟩, partS_chunk]
    have hpb : p * 107 < b.length := by unfold partsN at hp; omega
    have e : (b ++ List.replicate 107 0).take (p * 107) ++ chunkL b p = (b ++ List.replicate 107 0).take ((p + 1) * 107) := by
      rw [show (p + 1) * 107 = p * 107 + 107 by omega, List.take_add]
      congr 1
      rw [List.drop_append, show p * 107 - b.length = 0 by omega, List.drop_zero, List.take_append, List.take_replicate]
      unfold chunkL
      congr 2
      rw [List.length_take]
      omega
    rw [e]
    exact readGo_parts D L b r (p + 1) (by omega) h
theorem readD_parts {D : Dsk} {L : LogV} {b : List Int} (h0 : 0 < b.length) (h1 : b.length ≤ roomL L) (h2 : b.length < 4294967296) (h : ∀ j, j < partsN b.length → D.rd (atL L + j) = partS L b j) : readD D L = some b := by
  have hp : 0 < partsN b.length := by unfold partsN; omega
  have hs : sizeAt D L = b.length := by
    unfold sizeAt
    have := h 0 hp
    rw [Nat.add_zero] at this
    rw [this]
    exact partS_size L b h2 0
  unfold readD
  rw [hs, if_neg (by unfold roomL at h1; omega), if_neg (by omega), Int.toNat_natCast]
  have := readGo_parts D L b (partsN b.length) 0 (by omega) h
  rwa [Nat.zero_mul, List.take_zero] at this
end Go.Proofs.Ythbabdjicplooaa

/- package wal's plain law, fourth part: what a stop in the midst of blank, of the parts' writes leaves. Conditions: none. -/
namespace Go.Proofs.Ythbabdjicplooaa
open Go.RowKit

theorem Up.more {D0 D : Dsk} {a lim lim' : Nat} {new : Nat → List Int} (h : Up D0 D a lim new) (hl : lim ≤ lim') : Up D0 D a lim' new :=
  ⟨h.safe, h.nd, fun p hp => by have := h.at_ p hp; exact ⟨this.1, by omega, this.2.2⟩⟩
theorem Up.write {D0 D : Dsk} {a lim : Nat} {new : Nat → List Int} (h : Up D0 D a lim new) (ha : a ≤ lim) : Up D0 (D.write lim (new lim)) a (lim + 1) new := by
  refine ⟨h.safe, ?_, fun p hp => ?_⟩
  · simp only [Dsk.write, List.map_append, List.map_cons, List.map_nil]
    rw [List.nodup_append]
    refine ⟨h.nd, by simp, fun x hx y hy => ?_⟩
    obtain ⟨q, hq, rfl⟩ := List.mem_map.1 hx
    have := h.at_ q hq
    simp at hy
    omega
  · rcases List.mem_append.1 hp with hp | hp
    · have := h.at_ p hp; exact ⟨this.1, by omega, this.2.2⟩
    · rw [List.mem_singleton.1 hp]; exact ⟨ha, by simp, rfl⟩
theorem Up.zero {D0 : Dsk} (h0 : D0.pend = []) (a lim : Nat) (new : Nat → List Int) : Up D0 D0 a lim new := ⟨rfl, by rw [h0]; exact List.nodup_nil, by rw [h0]; intro p hp; cases hp⟩
theorem Up.flushed {D0 D : Dsk} {a lim : Nat} {new : Nat → List Int} (h : Up D0 D a lim new) (h0 : D0.pend = []) (hin : ∀ k, a ≤ k → k < lim → D.rd k = new k) {k : Nat} (hk : k < D0.safe.length) : D.flush.rd k = if a ≤ k ∧ k < lim then new k else D0.rd k := by
  split
  · rename_i hr
    rw [rd_flush (by rw [h.safe]; exact hk)]
    exact hin k hr.1 hr.2
  · rename_i hr
    rcases h.flush h0 hk with ⟨h1, h2, -⟩ | ⟨-, h2⟩
    · exact absurd ⟨h1, h2⟩ hr
    · exact h2
theorem blank_up {D0 : Dsk} (h0 : D0.pend = []) (fr : Nat) : ∀ (r n : Nat) (D : Dsk) (b : Bool), Up D0 D fr (fr + n) (fun _ => noughts) → (b = false → D.pend = []) → (∀ k, fr ≤ k → k < fr + n → D.rd k = noughts) → fr + n + r ≤ D0.safe.length →
    ((blankGo D fr b r n).1 = 13 ∧ Up D0 (blankGo D fr b r n).2 fr (fr + n + r) (fun _ => noughts)) ∨
    ((blankGo D fr b r n).1 = 0 ∧ (blankGo D fr b r n).2.pend = [] ∧ (blankGo D fr b r n).2.safe.length = D0.safe.length ∧ ∀ k, k < D0.safe.length → (blankGo D fr b r n).2.rd k = if fr ≤ k ∧ k < fr + n + r then noughts else D0.rd k)
  | 0, n, D, b, hu, hb, hin, hl => by
    unfold blankGo
    rw [Nat.add_zero]
    cases b with
    | false =>
      refine .inr ⟨rfl, hb rfl, by rw [if_neg (by simp), hu.safe], fun k hk => ?_⟩
      simp only [Bool.false_eq_true, if_false]
      split
      · rename_i hr; exact hin k hr.1 hr.2
      · rw [rd_pend (hb rfl), rd_pend h0, hu.safe]
    | true =>
      simp only [if_true]
      unfold fcode fnext
      by_cases hs : D.left = some 0
      · rw [if_pos hs, if_pos hs]; exact .inl ⟨rfl, hu⟩
      · rw [if_neg hs, if_neg hs]
        exact .inr ⟨rfl, rfl, by simp [Dsk.flush, sets_len, hu.safe], fun k hk => hu.flushed h0 hin hk⟩
  | r + 1, n, D, b, hu, hb, hin, hl => by
    unfold blankGo
    rw [show fr + n + (r + 1) = fr + (n + 1) + r by omega]
    split
    · rename_i he
      exact blank_up h0 fr r (n + 1) D b (hu.more (by omega)) hb (fun k h1 h2 => by
        by_cases hk : k < fr + n
        · exact hin k h1 hk
        · rw [show k = fr + n by omega]; exact he) (by omega)
    · split
      · exact .inl ⟨rfl, hu.more (by omega)⟩
      · refine blank_up h0 fr r (n + 1) _ true (hu.write (by omega)) (fun h => by cases h) (fun k h1 h2 => ?_) (by omega)
        rw [rd_write]
        split
        · rfl
        · exact hin k h1 (by omega)
theorem puts_up {D0 : Dsk} (h0 : D0.pend = []) (L : LogV) (b : List Int) : ∀ (r p : Nat) (D : Dsk), Up D0 D (atL L) (atL L + p) (fun k => partS L b (k - atL L)) → (∀ k, atL L ≤ k → k < atL L + p → D.rd k = partS L b (k - atL L)) → atL L + p + r ≤ D0.safe.length →
    ((putsGo D L b r p).1 = 13 ∧ Up D0 (putsGo D L b r p).2 (atL L) (atL L + p + r) (fun k => partS L b (k - atL L))) ∨
    ((putsGo D L b r p).1 = 0 ∧ (putsGo D L b r p).2.pend = [] ∧ (putsGo D L b r p).2.safe.length = D0.safe.length ∧ ∀ k, k < D0.safe.length → (putsGo D L b r p).2.rd k = if atL L ≤ k ∧ k < atL L + p + r then partS L b (k - atL L) else D0.rd k)
  | 0, p, D, hu, hin, hl => by
    unfold putsGo
    rw [Nat.add_zero]
    unfold fcode fnext
    by_cases hs : D.left = some 0
    · rw [if_pos hs, if_pos hs]; exact .inl ⟨rfl, hu⟩
    · rw [if_neg hs, if_neg hs]
      exact .inr ⟨rfl, rfl, by simp [Dsk.flush, sets_len, hu.safe], fun k hk => hu.flushed h0 hin hk⟩
  | r + 1, p, D, hu, hin, hl => by
    unfold putsGo
    rw [show atL L + p + (r + 1) = atL L + (p + 1) + r by omega]
    split
    · exact .inl ⟨rfl, hu.more (by omega)⟩
    · have hw := hu.write (by omega)
      simp only [Nat.add_sub_cancel_left] at hw
      refine puts_up h0 L b r (p + 1) _ hw (fun k h1 h2 => ?_) (by omega)
      rw [rd_write]
      split
      · rename_i he; rw [← he, Nat.add_sub_cancel_left]
      · exact hin k h1 (by omega)
theorem puts_keep (L : LogV) (b : List Int) (hbb : InB b) : ∀ (r p : Nat) (D : Dsk), DB D → DB (putsGo D L b r p).2 ∧ (putsGo D L b r p).2.safe.length = D.safe.length ∧ (putsGo D L b r p).2.pend.length ≤ D.pend.length + r ∧ (D.left = none → (putsGo D L b r p).1 = 0 ∧ (putsGo D L b r p).2.left = none)
  | 0, p, D, h => by
    unfold putsGo
    exact ⟨h.fnext, (fnext_len D).1, (fnext_len D).2, fun hl => ⟨by simp [fcode, hl], by simp [fnext, hl, Dsk.flush]⟩⟩
  | r + 1, p, D, h => by
    unfold putsGo
    split
    · rename_i hl; exact ⟨h, rfl, by simp, fun h2 => by rw [h2] at hl; cases hl⟩
    · have := puts_keep L b hbb r (p + 1) (D.write (atL L + p) (partS L b p)) (h.write _ (partS_inb L hbb p) (partS_len L b p))
      have h3 := this.2.2.1
      rw [show (D.write (atL L + p) (partS L b p)).pend.length = D.pend.length + 1 by simp [Dsk.write]] at h3
      exact ⟨this.1, this.2.1, by omega, fun hl => this.2.2.2 (by simp [Dsk.write, hl])⟩
end Go.Proofs.Ythbabdjicplooaa
