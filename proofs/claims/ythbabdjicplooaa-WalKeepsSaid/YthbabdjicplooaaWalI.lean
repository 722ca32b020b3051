/- package wal's plain law, fifth part: a log on a disk, as it must be; Open finds it; what a commit, a clear, a crash make of it. Conditions: epochs below 250. -/
import Derived.Test.YthbabdjicplooaaWalV
namespace Go.Proofs.Ythbabdjicplooaa
open Go.RowKit

/-- What a body's sector may say while the epoch ep holds: whole parts bear no later number than m. -/
def Gs (b : List Int) (ep : Int) (m : Nat) : Prop := b.getD 127 0 = 1 → (∀ i, i < 7 → b.getD i 0 = 0) ∧ (b.getD 7 0 < ep ∨ (b.getD 7 0 = ep ∧ ofBE ((b.drop 8).take 4) ≤ m))
theorem gs_noughts (ep : Int) (m : Nat) : Gs noughts ep m := fun h => by rw [noughts_get] at h; cases h
theorem Gs.mono {b : List Int} {ep : Int} {m m' : Nat} (h : Gs b ep m) (hm : m ≤ m') : Gs b ep m' := fun h1 => ⟨(h h1).1, (h h1).2.imp id fun ⟨h2, h3⟩ => ⟨h2, by omega⟩⟩
theorem Gs.next {b : List Int} {ep : Int} {m : Nat} (h : Gs b ep m) {ep' : Int} (he : ep < ep') (m' : Nat) : Gs b ep' m' := fun h1 => ⟨(h h1).1, .inl (by rcases (h h1).2 with h2 | ⟨h2, -⟩ <;> omega)⟩
theorem take20 {b lab : List Int} (h : b.take 20 = lab) (i : Nat) (hi : i < 20) : b.getD i 0 = lab.getD i 0 := by
  rw [← h]
  simp [List.getD_eq_getElem?_getD, List.getElem?_take, hi]
theorem label_get (L : LogV) (h0 : 0 ≤ L.epoch) (h1 : L.epoch < 256) (s p : Nat) : (∀ i, i < 7 → (labelL L s p).getD i 0 = 0) ∧ (labelL L s p).getD 7 0 = L.epoch := by
  rw [labelL_small L h0 h1]
  constructor
  · intro i h2
    have : i = 0 ∨ i = 1 ∨ i = 2 ∨ i = 3 ∨ i = 4 ∨ i = 5 ∨ i = 6 := by omega
    rcases this with rfl | rfl | rfl | rfl | rfl | rfl | rfl <;> rfl
  · rfl
theorem label_number {b : List Int} {L : LogV} {s p : Nat} (h : b.take 20 = labelL L s p) (hr : L.recs.length < 4294967295) : ofBE ((b.drop 8).take 4) = L.recs.length + 1 := by
  have e : (b.drop 8).take 4 = beL ((L.recs.length + 1 : Nat) : Int) 4 := by
    have : (b.drop 8).take 4 = ((b.take 20).drop 8).take 4 := by rw [List.drop_take, List.take_take]; rfl
    rw [this, h]
    unfold labelL
    simp only [List.append_assoc]
    rw [List.drop_left' (beL_len _ _), List.take_left' (beL_len _ _)]
  rw [e, ofBE_beL 4 _ (by omega) (by simp; omega)]
  omega
/-- A whole part of the next record bears its number. -/
theorem gs_ok {b : List Int} {L : LogV} {s p m : Nat} (h : okS b (labelL L s p)) (hg : Gs b L.epoch m) (h0 : 0 ≤ L.epoch) (h1 : L.epoch < 256) (hr : L.recs.length < 4294967295) : L.recs.length + 1 ≤ m := by
  rcases (hg h.1).2 with h2 | ⟨-, h2⟩
  · rw [take20 h.2 7 (by omega), (label_get L h0 h1 s p).2] at h2; omega
  · rw [label_number h.2 hr] at h2; omega
theorem gs_part (L : LogV) (b : List Int) (p : Nat) (h0 : 0 ≤ L.epoch) (h1 : L.epoch < 256) (hr : L.recs.length < 4294967295) : Gs (partS L b p) L.epoch (L.recs.length + 1) := fun _ => by
  have ht := partS_take L b p
  have hl := label_get L h0 h1 b.length p
  refine ⟨fun i hi => by rw [take20 ht i (by omega)]; exact hl.1 i hi, .inr ⟨by rw [take20 ht 7 (by omega)]; exact hl.2, ?_⟩⟩
  rw [label_number ht hr]; omega
theorem gs_torn {b : List Int} {ep : Int} {m nb : Nat} (h : Gs b ep m) (hep : 0 < ep) (hn : nb ≤ 128) : Gs (tornL b noughts nb) ep m := fun h1 => by
  rw [tornL_get noughts_len hn] at h1
  split at h1
  · rw [noughts_get] at h1; cases h1
  · obtain ⟨hz, h7⟩ := h h1
    refine ⟨fun i hi => ?_, ?_⟩
    · rw [tornL_get noughts_len hn]
      split
      · exact noughts_get i
      · exact hz i hi
    · rw [tornL_get noughts_len hn]
      split
      · rw [noughts_get]; exact .inl hep
      · have e : (tornL b noughts nb).drop 8 = b.drop 8 := by
          unfold tornL
          have hl : (noughts.take nb).length = nb := by rw [List.length_take, noughts_len]; omega
          rw [List.drop_append, List.drop_of_length_le (by omega), List.nil_append, hl, List.drop_drop]
          congr 1
          omega
        rw [e]; exact h7
/-- A sector that is blanked, torn, and yet a whole part of the next record, is as it was. -/
theorem torn_ok {b : List Int} {L : LogV} {s p m nb : Nat} (hb : b.length = 128) (h : Gs b L.epoch m) (h0 : 0 < L.epoch) (h1 : L.epoch < 256) (hn : nb ≤ 128) (ho : okS (tornL b noughts nb) (labelL L s p)) : tornL b noughts nb = b := by
  have h127 := ho.1
  have h7 := take20 ho.2 7 (by omega)
  rw [(label_get L (by omega) h1 s p).2, tornL_get noughts_len hn] at h7
  rw [tornL_get noughts_len hn] at h127
  split at h7
  · rw [noughts_get] at h7; omega
  · split at h127
    · rw [noughts_get] at h127; cases h127
    · have hz := (h h127).1
      refine ext128 (by rw [tornL, List.length_append, List.length_take, List.length_drop, noughts_len, hb]; omega) hb fun i hi => ?_
      rw [tornL_get noughts_len hn]
      split
      · rw [noughts_get, hz i (by omega)]
      · rfl
/-- A part that is torn over noughts is none, or whole. -/
theorem part_torn {x : List Int} {nb : Nat} (hx : x.length = 128) (hn : nb ≤ 128) : tornL noughts x nb = x ∨ (tornL noughts x nb).getD 127 0 = 0 := by
  by_cases h : nb = 128
  · subst h
    left
    unfold tornL
    rw [List.take_of_length_le (by omega), List.drop_of_length_le (by rw [noughts_len]; exact Nat.le_refl _), List.append_nil]
  · right
    rw [tornL_get hx hn, if_neg (by omega), noughts_get]

/-- The records that lie behind one another, and none behind them. -/
def Laid (D : Dsk) : LogV → List (List Int) → Prop
  | L, [] => readD D L = none
  | L, b :: bs => readD D L = some b ∧ Laid D (commitL L b) bs
def runL (L : LogV) (bs : List (List Int)) : LogV := bs.foldl commitL L
theorem openGo_laid (D : Dsk) : ∀ (bs : List (List Int)) (L : LogV) (r : Nat), Laid D L bs → bs.length ≤ r → openGo D r L = runL L bs
  | [], L, 0, _, _ => rfl
  | [], L, r + 1, h, _ => by unfold openGo; rw [show readD D L = none from h]; rfl
  | b :: bs, L, 0, _, hr => by simp at hr
  | b :: bs, L, r + 1, h, hr => by
    unfold openGo
    rw [h.1]
    exact openGo_laid D bs (commitL L b) r h.2 (by simpa using hr)
theorem laid_end (D : Dsk) : ∀ (bs : List (List Int)) (L : LogV), Laid D L bs → readD D (runL L bs) = none
  | [], L, h => h
  | b :: bs, L, h => laid_end D bs (commitL L b) h.2
theorem run_keep : ∀ (bs : List (List Int)) (L : LogV), (runL L bs).from_ = L.from_ ∧ (runL L bs).count = L.count ∧ (runL L bs).epoch = L.epoch ∧ (runL L bs).slot = L.slot ∧ L.next ≤ (runL L bs).next
  | [], L => ⟨rfl, rfl, rfl, rfl, Nat.le_refl _⟩
  | b :: bs, L => by
    obtain ⟨h1, h2, h3, h4, h5⟩ := run_keep bs (commitL L b)
    exact ⟨h1, h2, h3, h4, Nat.le_trans (Nat.le_add_right _ _) h5⟩
theorem run_snoc (L : LogV) (bs : List (List Int)) (b : List Int) : runL L (bs ++ [b]) = commitL (runL L bs) b := by simp [runL]
theorem laid_move {D D' : Dsk} (hb : DB D) (cs : List (List Int)) : ∀ (bs : List (List Int)) (L : LogV), Laid D L bs → (∀ k, atL L ≤ k → k < atL (runL L bs) → D'.rd k = D.rd k) → Laid D' (runL L bs) cs → Laid D' L (bs ++ cs)
  | [], L, _, _, h => h
  | b :: bs, L, hl, he, h => by
    have hk := run_keep bs (commitL L b)
    have ha : atL L + partsN b.length ≤ atL (runL (commitL L b) bs) := by
      unfold atL
      rw [hk.1]
      have : (commitL L b).next = L.next + partsN b.length := rfl
      have : (commitL L b).from_ = L.from_ := rfl
      omega
    refine ⟨readD_congr hb hl.1 fun p hp => he _ (by omega) (by show _ < atL (runL (commitL L b) bs); omega), ?_⟩
    refine laid_move hb cs bs (commitL L b) hl.2 (fun k h1 h2 => he k (by
      have : atL (commitL L b) = atL L + partsN b.length := by unfold atL; show L.from_ + 2 + (L.next + partsN b.length) = _; omega
      omega) h2) h
end Go.Proofs.Ythbabdjicplooaa
