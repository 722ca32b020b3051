/- package wal's plain law, first part: numbers in bytes; what a write, a flush, a crash leave in a sector. Conditions: none. -/
import Derived.Test.YthbabdjicplooaaWalS
namespace Go.Proofs.Ythbabdjicplooaa
open Go.RowKit

theorem beL_succ (n : Int) (k : Nat) : beL n (k + 1) = beL (n / 256) k ++ [n % 256] := by
  unfold beL
  rw [List.range_succ, List.map_append]
  congr 1
  · refine List.map_congr_left fun j hj => ?_
    have hj : j < k := List.mem_range.1 hj
    unfold dig
    rw [show k + 1 - 1 - j = (k - 1 - j) + 1 by omega, Int.pow_succ, Int.mul_comm, ← Int.ediv_ediv_of_nonneg (by omega)]
  · simp [dig]
theorem ofBE_beL : ∀ (k : Nat) (n : Int), 0 ≤ n → n < 256 ^ k → ofBE (beL n k) = n
  | 0, n, h0, h1 => by
    have : n = 0 := by simp at h1; omega
    subst this
    rfl
  | k + 1, n, h0, h1 => by
    rw [beL_succ, ofBE_snoc, ofBE_beL k (n / 256) (by omega) (by rw [Int.pow_succ] at h1; omega)]
    omega
theorem rd_pend {D : Dsk} (h : D.pend = []) (n : Nat) : D.rd n = D.safe.getD n noughts := by simp [Dsk.rd, h, lastP]
theorem rd_write (D : Dsk) (n : Nat) (xs : List Int) (k : Nat) : (D.write n xs).rd k = if n = k then xs else D.rd k := by
  simp only [Dsk.rd, Dsk.write, lastP_snoc]
  split <;> rfl
theorem sets_at {α : Type} (d : α) (k : Nat) : ∀ (P : List (Nat × α)) (S : List α), k < S.length → (sets S P).getD k d = (lastP P k).getD (S.getD k d)
  | [], S, h => rfl
  | p :: P, S, h => by
    show (sets (S.set p.1 p.2) P).getD k d = _
    rw [sets_at d k P _ (by simpa using h), lastP]
    cases lastP P k with
    | some x => rfl
    | none =>
      simp only [Option.getD_none, List.getD_eq_getElem?_getD, List.getElem?_set]
      by_cases hp : p.1 = k
      · subst hp; simp [h]
      · simp [hp]
theorem rd_flush {D : Dsk} {k : Nat} (h : k < D.safe.length) : D.flush.rd k = D.rd k := by
  rw [rd_pend rfl]
  exact sets_at noughts k D.pend D.safe h
theorem rd_safeN {D : Dsk} (n : Nat) (xs : List Int) {k : Nat} (h : k < D.safe.length) : (safeN D n xs).rd k = if n = k then xs else D.rd k := by
  unfold safeN
  rw [rd_flush (by exact h), rd_write]
theorem crash_sec (keep : List Bool) (torn : Int) (nb : Nat) (S : List (List Int)) (P : List (Nat × List Int)) (hd : (P.map (·.1)).Nodup) (s : Nat) (hs : s < S.length) : ∀ j, j ≤ P.length →
    ((∀ x, (s, x) ∉ P.take j) → (crashS keep torn nb S P j).getD s noughts = S.getD s noughts) ∧
    ((crashS keep torn nb S P j).getD s noughts = S.getD s noughts ∨ ∃ x, (s, x) ∈ P.take j ∧ ((crashS keep torn nb S P j).getD s noughts = x ∨ (crashS keep torn nb S P j).getD s noughts = tornL (S.getD s noughts) x nb))
  | 0, _ => ⟨fun _ => rfl, .inl rfl⟩
  | j + 1, h => by
    obtain ⟨i1, i2⟩ := crash_sec keep torn nb S P hd s hs j (by omega)
    have hl := crashS_len keep torn nb S P j
    have hj : j < P.length := by omega
    have ht : P.take (j + 1) = P.take j ++ [P[j]] := List.take_succ_eq_append_getElem hj
    obtain ⟨p, hp⟩ : ∃ p, P[j] = p := ⟨_, rfl⟩
    rw [hp] at ht
    have hg : P[j]? = some p := by rw [List.getElem?_eq_getElem hj, hp]
    have hset : ∀ y : List Int, ((crashS keep torn nb S P j).set p.1 y).getD s noughts = if p.1 = s then y else (crashS keep torn nb S P j).getD s noughts := fun y => by
      simp only [List.getD_eq_getElem?_getD, List.getElem?_set]
      by_cases h1 : p.1 = s
      · subst h1; simp [hl, hs]
      · simp [h1]
    have hnot : p.1 = s → ∀ x, (s, x) ∉ P.take j := fun h1 x hx => by
      have hm : s ∈ (P.take j).map (·.1) := List.mem_map.2 ⟨_, hx, rfl⟩
      have hd2 : ((P.take (j + 1)).map (·.1)).Nodup := by rw [List.map_take]; exact hd.sublist (List.take_sublist _ _)
      rw [ht, List.map_append, List.nodup_append] at hd2
      exact hd2.2.2 s hm s (by simp [h1]) rfl
    have keepIt : (crashS keep torn nb S P (j + 1)).getD s noughts = (crashS keep torn nb S P j).getD s noughts → ((∀ x, (s, x) ∉ P.take (j + 1)) → (crashS keep torn nb S P (j + 1)).getD s noughts = S.getD s noughts) ∧
        ((crashS keep torn nb S P (j + 1)).getD s noughts = S.getD s noughts ∨ ∃ x, (s, x) ∈ P.take (j + 1) ∧ ((crashS keep torn nb S P (j + 1)).getD s noughts = x ∨ (crashS keep torn nb S P (j + 1)).getD s noughts = tornL (S.getD s noughts) x nb)) := fun e => by
      rw [e]
      refine ⟨fun hx => i1 fun x hm => hx x (by rw [ht]; exact List.mem_append_left _ hm), ?_⟩
      rcases i2 with h2 | ⟨x, hm, h2⟩
      · exact .inl h2
      · exact .inr ⟨x, by rw [ht]; exact List.mem_append_left _ hm, h2⟩
    have here : p.1 = s → (s, p.2) ∈ P.take (j + 1) := fun h1 => by rw [ht]; refine List.mem_append_right _ ?_; simp [← h1]
    by_cases hk : keep.getD j false = true
    · have he : crashS keep torn nb S P (j + 1) = (crashS keep torn nb S P j).set p.1 p.2 := by simp only [crashS, hg, hk, if_true]
      by_cases h1 : p.1 = s
      · rw [he, hset, if_pos h1]
        exact ⟨fun hx => absurd (here h1) (hx _), .inr ⟨p.2, here h1, .inl rfl⟩⟩
      · exact keepIt (by rw [he, hset, if_neg h1])
    · by_cases htn : (j : Int) = torn
      · have he : crashS keep torn nb S P (j + 1) = (crashS keep torn nb S P j).set p.1 (tornL ((crashS keep torn nb S P j).getD p.1 noughts) p.2 nb) := by simp only [crashS, hg, hk, htn, Bool.false_eq_true, if_false, if_true]
        by_cases h1 : p.1 = s
        · rw [he, hset, if_pos h1]
          refine ⟨fun hx => absurd (here h1) (hx _), .inr ⟨p.2, here h1, .inr ?_⟩⟩
          rw [h1, i1 (hnot h1)]
        · exact keepIt (by rw [he, hset, if_neg h1])
      · exact keepIt (by simp only [crashS, hg, hk, htn, Bool.false_eq_true, if_false])

/-- Of a disk D0 with nothing pending: sectors from a on, below lim, are being written, each once. -/
structure Up (D0 D : Dsk) (a lim : Nat) (new : Nat → List Int) : Prop where
  safe : D.safe = D0.safe
  nd : (D.pend.map (·.1)).Nodup
  at_ : ∀ p ∈ D.pend, a ≤ p.1 ∧ p.1 < lim ∧ p.2 = new p.1
theorem Up.crash {D0 D : Dsk} {a lim : Nat} {new : Nat → List Int} (h : Up D0 D a lim new) (h0 : D0.pend = []) (keep : List Bool) (torn nb : Int) {k : Nat} (hk : k < D0.safe.length) :
    (D.crash keep torn nb).rd k = D0.rd k ∨ (a ≤ k ∧ k < lim ∧ ((D.crash keep torn nb).rd k = new k ∨ (D.crash keep torn nb).rd k = tornL (D0.rd k) (new k) (min nb 128).toNat)) := by
  rw [rd_pend (D := D.crash keep torn nb) rfl, rd_pend h0]
  have := (crash_sec keep torn (min nb 128).toNat D.safe D.pend h.nd k (by rw [h.safe]; exact hk) D.pend.length (Nat.le_refl _)).2
  rw [h.safe] at this
  rcases this with h1 | ⟨x, hm, h1⟩
  · exact .inl (by simp only [Dsk.crash, h.safe]; exact h1)
  · rw [List.take_length] at hm
    have ha := h.at_ _ hm
    simp only at ha
    refine .inr ⟨ha.1, ha.2.1, ?_⟩
    rw [← ha.2.2]
    simp only [Dsk.crash, h.safe]
    exact h1
theorem lastP_none {α : Type} {k : Nat} : ∀ {l : List (Nat × α)}, lastP l k = none → ∀ x, (k, x) ∉ l
  | [], _, x, hx => by cases hx
  | p :: l, h, x, hx => by
    rw [lastP] at h
    cases hl : lastP l k with
    | some y => rw [hl] at h; cases h
    | none =>
      rw [hl] at h
      rcases List.mem_cons.1 hx with rfl | hx
      · simp at h
      · exact lastP_none hl x hx
theorem Up.flush {D0 D : Dsk} {a lim : Nat} {new : Nat → List Int} (h : Up D0 D a lim new) (h0 : D0.pend = []) {k : Nat} (hk : k < D0.safe.length) :
    (a ≤ k ∧ k < lim ∧ D.flush.rd k = new k) ∨ ((∀ x, (k, x) ∉ D.pend) ∧ D.flush.rd k = D0.rd k) := by
  rw [rd_flush (by rw [h.safe]; exact hk)]
  unfold Dsk.rd
  cases hl : lastP D.pend k with
  | some x => have := h.at_ _ (lastP_mem hl); exact .inl ⟨this.1, this.2.1, this.2.2⟩
  | none => exact .inr ⟨lastP_none hl, by rw [h0, h.safe]; rfl⟩
theorem tornL_ok {a b : List Int} {n : Nat} (ha : InB a ∧ a.length = 128) (hb : InB b ∧ b.length = 128) (hn : n ≤ 128) : InB (tornL a b n) ∧ (tornL a b n).length = 128 :=
  ⟨(hb.1.take n).app (ha.1.drop n), by rw [tornL, List.length_append, List.length_take, List.length_drop, ha.2, hb.2]; omega⟩
theorem crashS_ok (keep : List Bool) (torn : Int) (nb : Nat) (hn : nb ≤ 128) (S : List (List Int)) (P : List (Nat × List Int)) (hS : ∀ x ∈ S, InB x ∧ x.length = 128) (hP : ∀ p ∈ P, InB p.2 ∧ p.2.length = 128) : ∀ j, ∀ x ∈ crashS keep torn nb S P j, InB x ∧ x.length = 128
  | 0, x, hx => hS x hx
  | j + 1, x, hx => by
    have ih := crashS_ok keep torn nb hn S P hS hP j
    simp only [crashS] at hx
    split at hx
    · exact ih x hx
    · rename_i p hp
      have hpm := hP p (List.mem_of_getElem? hp)
      split at hx
      · rcases List.mem_or_eq_of_mem_set hx with h | rfl
        · exact ih x h
        · exact hpm
      · split at hx
        · rcases List.mem_or_eq_of_mem_set hx with h | rfl
          · exact ih x h
          · refine tornL_ok ?_ hpm hn
            by_cases hl : p.1 < (crashS keep torn nb S P j).length
            · rw [List.getD_eq_getElem?_getD, List.getElem?_eq_getElem hl]; exact ih _ (List.getElem_mem hl)
            · rw [List.getD_eq_getElem?_getD, List.getElem?_eq_none (by omega)]; exact ⟨noughts_inb, noughts_len⟩
        · exact ih x hx
theorem DB.crash {D : Dsk} (h : DB D) (keep : List Bool) (torn nb : Int) : DB (D.crash keep torn nb) :=
  ⟨crashS_ok keep torn _ (by omega) D.safe D.pend h.1 h.2 _, fun p hp => by cases hp⟩

/-- The byte at a place, where a sector has one. -/
theorem getD_app_l {a b : List Int} {i : Nat} (h : i < a.length) : (a ++ b).getD i 0 = a.getD i 0 := by
  simp only [List.getD_eq_getElem?_getD, List.getElem?_append_left h]
theorem getD_app_r {a b : List Int} {i : Nat} (h : a.length ≤ i) : (a ++ b).getD i 0 = b.getD (i - a.length) 0 := by
  simp only [List.getD_eq_getElem?_getD, List.getElem?_append_right h]
theorem tornL_get {a b : List Int} {n i : Nat} (hb : b.length = 128) (hn : n ≤ 128) : (tornL a b n).getD i 0 = if i < n then b.getD i 0 else a.getD i 0 := by
  unfold tornL
  by_cases h : i < n
  · rw [if_pos h, getD_app_l (by rw [List.length_take]; omega)]
    simp [List.getD_eq_getElem?_getD, List.getElem?_take, h]
  · rw [if_neg h, getD_app_r (by rw [List.length_take]; omega)]
    simp only [List.getD_eq_getElem?_getD, List.getElem?_drop, List.length_take]
    congr 2
    omega
theorem noughts_get (i : Nat) : noughts.getD i 0 = 0 := by
  rw [noughts, List.getD_eq_getElem?_getD, List.getElem?_replicate]
  split <;> rfl
theorem ext128 {a b : List Int} (ha : a.length = 128) (hb : b.length = 128) (h : ∀ i, i < 128 → a.getD i 0 = b.getD i 0) : a = b := by
  apply List.ext_getElem (by omega)
  intro i h1 h2
  have := h i (by omega)
  simpa [List.getD_eq_getElem?_getD, List.getElem?_eq_getElem h1, List.getElem?_eq_getElem h2] using this
end Go.Proofs.Ythbabdjicplooaa

/- package wal's plain law, second part: what a head, a label, a part say; what read finds. Conditions: epochs below 256. -/
namespace Go.Proofs.Ythbabdjicplooaa
open Go.RowKit

theorem beL_small {e : Int} (h0 : 0 ≤ e) (h1 : e < 256) : beL e 8 = [0, 0, 0, 0, 0, 0, 0, e] := by
  have hd : ∀ i : Nat, dig e i = if i = 0 then e else 0 := fun i => by
    unfold dig
    cases i with
    | zero => simp; omega
    | succ i =>
      have hp : (0 : Int) < 256 ^ i := Int.pow_pos (by omega)
      have : e / 256 ^ (i + 1) = 0 := Int.ediv_eq_zero_of_lt h0 (by rw [Int.pow_succ]; have : (1 : Int) * 256 ≤ 256 ^ i * 256 := Int.mul_le_mul_of_nonneg_right (by omega) (by omega); omega)
      rw [this]; rfl
  simp only [beL, hd]
  rfl
theorem headL_small {e : Int} (h0 : 0 ≤ e) (h1 : e < 256) : headL e = [0, 0, 0, 0, 0, 0, 0, e, 0, 3, 108, 111, 103] ++ (List.replicate 106 0 ++ [0, 0, 0, 0, 0, 0, 0, e, 1]) := by
  have h3 : beL 3 2 = [0, 3] := rfl
  unfold headL logT
  rw [beL_small h0 h1, h3]
  rfl
theorem spl_logT_len (n : Int) : (spl noughts 0 (logT n)).length = 128 := by rw [spl_len _ _ _ (by simp [logT, beL_len, noughts_len]), noughts_len]
theorem headL_len (n : Int) : (headL n).length = 128 := by
  unfold headL
  rw [List.length_set, spl_len _ _ _ (by rw [spl_logT_len, beL_len]; omega), spl_logT_len]
theorem headL_tail (n : Int) : ((headL n).drop 119).take 8 = beL n 8 := by
  unfold headL spl
  have hl := spl_logT_len n
  unfold spl at hl
  rw [List.drop_set, if_neg (by omega), List.take_set_of_le (by omega), List.append_assoc, List.drop_append, List.drop_of_length_le (by rw [List.length_take, hl]; omega), List.nil_append, List.length_take, hl, show 119 - min 119 128 = 0 by omega, List.drop_zero, List.take_append, List.take_of_length_le (by rw [beL_len]; omega), beL_len, Nat.sub_self, List.take_zero, List.append_nil]
theorem headL_127 (n : Int) : (headL n).getD 127 0 = 1 := by
  unfold headL
  rw [List.getD_eq_getElem?_getD, List.getElem?_set]
  simp [spl_len _ _ _ (show 119 + (beL n 8).length ≤ (spl noughts 0 (logT n)).length by rw [spl_logT_len, beL_len]; omega), spl_logT_len]
theorem epochAt_head {e : Int} (h0 : 1 ≤ e) (h1 : e < 256) : epochAt (headL e) = e := by
  have ht : ofBE ((headL e).take 8) = e := by
    rw [headL_small (by omega) h1]
    simp [ofBE]
  unfold epochAt
  rw [ht, if_pos ⟨by omega, rfl⟩]
/-- The sector of the head that does not hold, while the epoch ep does. -/
def Oth (b : List Int) (ep : Int) : Prop := (∀ i, 119 ≤ i → i < 126 → b.getD i 0 = 0) ∧ (b.getD 126 0 < ep ∨ (b.getD 126 0 = ep + 1 ∧ b.getD 127 0 ≠ 1))
theorem epochAt_oth {b : List Int} {ep : Int} (h : Oth b ep) (hb : InB b ∧ b.length = 128) (hep : 0 < ep) : epochAt b < ep := by
  unfold epochAt
  split
  · rename_i h1
    obtain ⟨h1, h2⟩ := h1
    generalize hn : ofBE (b.take 8) = n at *
    have hr := ofBE_range (hb.1.take 8)
    rw [hn, List.length_take, hb.2] at hr
    have ht := headL_tail n
    rw [← h2] at ht
    have hd : (b.drop 119).take 8 = [0, 0, 0, 0, 0, 0, 0, b.getD 126 0] := by
      apply List.ext_getElem
      · simp [hb.2]
      · intro i h3 h4
        rw [List.getElem_take, List.getElem_drop]
        have hi : i < 8 := by simpa using h4
        have hg : b[119 + i]'(by omega) = b.getD (119 + i) 0 := by rw [List.getD_eq_getElem?_getD, List.getElem?_eq_getElem (by omega)]; rfl
        rw [hg]
        by_cases h7 : i = 7
        · subst h7; rfl
        · rw [h.1 (119 + i) (by omega) (by omega)]
          have : i = 0 ∨ i = 1 ∨ i = 2 ∨ i = 3 ∨ i = 4 ∨ i = 5 ∨ i = 6 := by omega
          rcases this with rfl | rfl | rfl | rfl | rfl | rfl | rfl <;> rfl
    have he : n = b.getD 126 0 := by
      rw [← ofBE_beL 8 n hr.1 (by have := hr.2; simpa using this), ← ht, hd]
      simp [ofBE]
    rcases h.2 with h3 | ⟨_, h3⟩
    · omega
    · exact absurd (by rw [h2]; exact headL_127 n) h3
  · exact hep
theorem oth_noughts {ep : Int} (h : 0 < ep) : Oth noughts ep := ⟨fun i _ _ => noughts_get i, .inl (by rw [noughts_get]; exact h)⟩
theorem headL_get {e : Int} (h0 : 0 ≤ e) (h1 : e < 256) : (∀ i, 119 ≤ i → i < 126 → (headL e).getD i 0 = 0) ∧ (headL e).getD 126 0 = e := by
  rw [headL_small h0 h1]
  constructor
  · intro i h2 h3
    have : i = 119 ∨ i = 120 ∨ i = 121 ∨ i = 122 ∨ i = 123 ∨ i = 124 ∨ i = 125 := by omega
    rcases this with rfl | rfl | rfl | rfl | rfl | rfl | rfl <;> rfl
  · rfl
theorem oth_head {ep : Int} (h0 : 0 ≤ ep) (h1 : ep + 1 < 256) : Oth (headL ep) (ep + 1) := ⟨(headL_get h0 (by omega)).1, .inl (by rw [(headL_get h0 (by omega)).2]; omega)⟩
/-- A head that is torn: there, or none. -/
theorem torn_head {b : List Int} {ep : Int} {nb : Nat} (h : Oth b ep) (hb : InB b ∧ b.length = 128) (h0 : 0 < ep) (h1 : ep + 1 < 256) (hn : nb ≤ 128) : tornL b (headL (ep + 1)) nb = headL (ep + 1) ∨ Oth (tornL b (headL (ep + 1)) nb) ep := by
  have hg := headL_get (e := ep + 1) (by omega) h1
  have hl := headL_len (ep + 1)
  by_cases h8 : nb = 128
  · left
    subst h8
    unfold tornL
    rw [List.take_of_length_le (by omega), List.drop_of_length_le (by omega), List.append_nil]
  · by_cases h7 : nb = 127
    · subst h7
      by_cases hb1 : b.getD 127 0 = 1
      · left
        refine ext128 (tornL_ok hb ⟨headL_inb _, hl⟩ hn).2 hl fun i hi => ?_
        rw [tornL_get hl hn]
        split
        · rfl
        · obtain rfl : i = 127 := by omega
          rw [hb1, headL_127]
      · right
        refine ⟨fun i h2 h3 => ?_, .inr ⟨?_, ?_⟩⟩
        · rw [tornL_get hl hn, if_pos (by omega)]; exact hg.1 i h2 h3
        · rw [tornL_get hl hn, if_pos (by omega)]; exact hg.2
        · rw [tornL_get hl hn, if_neg (by omega)]; exact hb1
    · right
      refine ⟨fun i h2 h3 => ?_, ?_⟩
      · rw [tornL_get hl hn]
        split
        · exact hg.1 i h2 h3
        · exact h.1 i h2 h3
      · rw [tornL_get hl hn, if_neg (by omega), tornL_get hl hn, if_neg (by omega)]; exact h.2
end Go.Proofs.Ythbabdjicplooaa
