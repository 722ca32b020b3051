/- package wal's plain law, second part: what a head, a label, a part say; what read finds. Conditions: epochs below 256. -/
import Derived.Test.YthbabdjicplooaaWalP
namespace Go.Proofs.Ythbabdjicplooaa
open Go.RowKit

theorem beL_small {e : Int} (h0 : 0 ≤ e) (h1 : e < 256) : beL e 8 = [0, 0, 0, 0, 0, 0, 0, e] := by
  have hd : ∀ i : Nat, dig e i = if i = 0 then e else 0 := fun i => by
    unfold dig
    cases i with
    | zero => simp; omega
    | succ i =>
      have hp : (0 : Int) < 256 ^ i := Int.pow_pos (by omega)
      have : e / 256 ^ (i + 1) = 0 := Int.ediv_eq_zero_of_lt h0 (by rw [Int.pow_succ]; have : (1 : Int) * 256 ≤ 256 ^ i * 256 := Int.mul_le_mul_of_nonneg_right (by omega) (by omega); omega)
      rw [this]; rfl
  simp only [beL, hd]
  rfl
theorem headL_small {e : Int} (h0 : 0 ≤ e) (h1 : e < 256) : headL e = [0, 0, 0, 0, 0, 0, 0, e, 0, 3, 108, 111, 103] ++ (List.replicate 106 0 ++ [0, 0, 0, 0, 0, 0, 0, e, 1]) := by
  have h3 : beL 3 2 = [0, 3] := rfl
  unfold headL logT
  rw [beL_small h0 h1, h3]
  rfl
theorem spl_logT_len (n : Int) : (spl noughts 0 (logT n)).length = 128 := by rw [spl_len _ _ _ (by simp [logT, beL_len, noughts_len]), noughts_len]
theorem headL_len (n : Int) : (headL n).length = 128 := by
  unfold headL
  rw [List.length_set, spl_len _ _ _ (by rw [spl_logT_len, beL_len]; omega), spl_logT_len]
theorem headL_tail (n : Int) : ((headL n).drop 119).take 8 = beL n 8 := by
  unfold headL spl
  have hl := spl_logT_len n
  unfold spl at hl
  rw [List.drop_set, if_neg (by omega), List.take_set_of_le (by omega), List.append_assoc, List.drop_append, List.drop_of_length_le (by rw [List.length_take, hl]; omega), List.nil_append, List.length_take, hl, show 119 - min 119 128 = 0 by omega, List.drop_zero, List.take_append, List.take_of_length_le (by rw [beL_len]; omega), beL_len, Nat.sub_self, List.take_zero, List.append_nil]
theorem headL_127 (n : Int) : (headL n).getD 127 0 = 1 := by
  unfold headL
  rw [List.getD_eq_getElem?_getD, List.getElem?_set]
  simp [spl_len _ _ _ (show 119 + (beL n 8).length ≤ (spl noughts 0 (logT n)).length by rw [spl_logT_len, beL_len]; omega), spl_logT_len]
theorem epochAt_head {e : Int} (h0 : 1 ≤ e) (h1 : e < 256) : epochAt (headL e) = e := by
  have ht : ofBE ((headL e).take 8) = e := by
    rw [headL_small (by omega) h1]
    simp [ofBE]
  unfold epochAt
  rw [ht, if_pos ⟨by omega, rfl⟩]
/-- The sector of the head that does not hold, while the epoch ep does. -/
def Oth (b : List Int) (ep : Int) : Prop := (∀ i, 119 ≤ i → i < 126 → b.getD i 0 = 0) ∧ (b.getD 126 0 < ep ∨ (b.getD 126 0 = ep + 1 ∧ b.getD 127 0 ≠ 1))
theorem epochAt_oth {b : List Int} {ep : Int} (h : Oth b ep) (hb : InB b ∧ b.length = 128) (hep : 0 < ep) : epochAt b < ep := by
  unfold epochAt
  split
  · rename_i h1
    obtain ⟨h1, h2⟩ := h1
    generalize hn : ofBE (b.take 8) = n at *
    have hr := ofBE_range (hb.1.take 8)
    rw [hn, List.length_take, hb.2] at hr
    have ht := headL_tail n
    rw [← h2] at ht
    have hd : (b.drop 119).take 8 = [0, 0, 0, 0, 0, 0, 0, b.getD 126 0] := by
      apply List.ext_getElem
      · simp [hb.2]
      · intro i h3 h4
        rw [List.getElem_take, List.getElem_drop]
        have hi : i < 8 := by simpa using h4
        have hg : b[119 + i]'(by omega) = b.getD (119 + i) 0 := by rw [List.getD_eq_getElem?_getD, List.getElem?_eq_getElem (by omega)]; rfl
        rw [hg]
        by_cases h7 : i = 7
        · subst h7; rfl
        · rw [h.1 (119 + i) (by omega) (by omega)]
          have : i = 0 ∨ i = 1 ∨ i = 2 ∨ i = 3 ∨ i = 4 ∨ i = 5 ∨ i = 6 := by omega
          rcases this with rfl | rfl | rfl | rfl | rfl | rfl | rfl <;> rfl
    have he : n = b.getD 126 0 := by
      rw [← ofBE_beL 8 n hr.1 (by have := hr.2; simpa using this), ← ht, hd]
      simp [ofBE]
    rcases h.2 with h3 | ⟨_, h3⟩
    · omega
    · exact absurd (by rw [h2]; exact headL_127 n) h3
  · exact hep
theorem oth_noughts {ep : Int} (h : 0 < ep) : Oth noughts ep := ⟨fun i _ _ => noughts_get i, .inl (by rw [noughts_get]; exact h)⟩
theorem headL_get {e : Int} (h0 : 0 ≤ e) (h1 : e < 256) : (∀ i, 119 ≤ i → i < 126 → (headL e).getD i 0 = 0) ∧ (headL e).getD 126 0 = e := by
  rw [headL_small h0 h1]
  constructor
  · intro i h2 h3
    have : i = 119 ∨ i = 120 ∨ i = 121 ∨ i = 122 ∨ i = 123 ∨ i = 124 ∨ i = 125 := by omega
    rcases this with rfl | rfl | rfl | rfl | rfl | rfl | rfl <;> rfl
  · rfl
theorem oth_head {ep : Int} (h0 : 0 ≤ ep) (h1 : ep + 1 < 256) : Oth (headL ep) (ep + 1) := ⟨(headL_get h0 (by omega)).1, .inl (by rw [(headL_get h0 (by omega)).2]; omega)⟩
/-- A head that is torn: there, or none. -/
theorem torn_head {b : List Int} {ep : Int} {nb : Nat} (h : Oth b ep) (hb : InB b ∧ b.length = 128) (h0 : 0 < ep) (h1 : ep + 1 < 256) (hn : nb ≤ 128) : tornL b (headL (ep + 1)) nb = headL (ep + 1) ∨ Oth (tornL b (headL (ep + 1)) nb) ep := by
  have hg := headL_get (e := ep + 1) (by omega) h1
  have hl := headL_len (ep + 1)
  by_cases h8 : nb = 128
  · left
    subst h8
    unfold tornL
    rw [List.take_of_length_le (by omega), List.drop_of_length_le (by omega), List.append_nil]
  · by_cases h7 : nb = 127
    · subst h7
      by_cases hb1 : b.getD 127 0 = 1
      · left
        refine ext128 (tornL_ok hb ⟨headL_inb _, hl⟩ hn).2 hl fun i hi => ?_
        rw [tornL_get hl hn]
        split
        · rfl
        · obtain rfl : i = 127 := by omega
          rw [hb1, headL_127]
      · right
        refine ⟨fun i h2 h3 => ?_, .inr ⟨?_, ?_⟩⟩
        · rw [tornL_get hl hn, if_pos (by omega)]; exact hg.1 i h2 h3
        · rw [tornL_get hl hn, if_pos (by omega)]; exact hg.2
        · rw [tornL_get hl hn, if_neg (by omega)]; exact hb1
    · right
      refine ⟨fun i h2 h3 => ?_, ?_⟩
      · rw [tornL_get hl hn]
        split
        · exact hg.1 i h2 h3
        · exact h.1 i h2 h3
      · rw [tornL_get hl hn, if_neg (by omega), tornL_get hl hn, if_neg (by omega)]; exact h.2
end Go.Proofs.Ythbabdjicplooaa
