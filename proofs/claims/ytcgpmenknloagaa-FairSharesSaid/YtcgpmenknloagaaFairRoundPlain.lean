/- Plain: in as many turns as lanes take part each of them has one. Conditions: none. -/
import Derived.Test.YtcgpmenknloagaaFairTurns
namespace Go.Proofs.Ytcgpmenknloagaa

theorem modw {s u L : Nat} (hs : s < L) (hu : u < L) : (s + u) % L = if s + u < L then s + u else s + u - L := by
  split
  · exact Nat.mod_eq_of_lt (by assumption)
  · rw [Nat.mod_eq_sub_mod (by omega), Nat.mod_eq_of_lt (by omega)]

def RoundInv (W : List Int) (s T j : Nat) (mt : List Int) (last wr : Int) : Prop :=
  T ≤ W.length ∧ cnt W s T = j ∧ mt.length = W.length ∧ (∀ u, u < W.length → mt[(s + u) % W.length]? = some (if u < T ∧ 0 < wtAt W s u then 1 else 0)) ∧
    ((T = 0 ∧ last = -1 ∧ wr = 0) ∨ (0 < T ∧ last = (((s + (T - 1)) % W.length : Nat) : Int) ∧ (wr = 0 ∨ (wr = 1 ∧ W.length < s + T))))

theorem RoundInv.start (W : List Int) (s : Nat) : RoundInv W s 0 0 (List.replicate W.length 0) (-1) 0 := by
  refine ⟨Nat.zero_le _, rfl, by simp, fun u hu => ?_, .inl ⟨rfl, rfl, rfl⟩⟩
  rw [if_neg (by omega), List.getElem?_replicate, if_pos (Nat.mod_lt _ (by omega))]

theorem RoundInv.old {W : List Int} {s T j : Nat} {mt : List Int} {last wr : Int} (H : RoundInv W s T j mt last wr) {t : Nat} (h1 : T ≤ t) (h2 : t < W.length) : mt[(s + t) % W.length]? = some 0 := by
  rw [H.2.2.2.1 t h2, if_neg (by omega)]

theorem RoundInv.step {W : List Int} {s T j : Nat} {mt : List Int} {last wr : Int} (H : RoundInv W s T j mt last wr) (hs : s < W.length) {t : Nat} (h1 : T ≤ t) (h2 : t < W.length) (h3 : 0 < wtAt W s t) (h4 : cnt W s t = cnt W s T)
    (h5 : ∀ u, T ≤ u → u < t → ¬ 0 < wtAt W s u) :
    RoundInv W s (t + 1) (j + 1) (mt.set ((s + t) % W.length) 1) (((s + t) % W.length : Nat) : Int) (if (((s + t) % W.length : Nat) : Int) ≤ last then wr + 1 else wr) := by
  obtain ⟨a, b, c, d, e⟩ := H
  refine ⟨by omega, ?_, by simpa using c, fun u hu => ?_, .inr ⟨by omega, by simp, ?_⟩⟩
  · simp only [cnt]; rw [if_pos h3]; omega
  · rw [List.getElem?_set]
    by_cases hut : (s + t) % W.length = (s + u) % W.length
    · have : u = t := by rw [modw hs hu, modw hs h2] at hut; split at hut <;> split at hut <;> omega
      subst this
      rw [if_pos rfl, if_pos (by rw [c]; exact Nat.mod_lt _ (by omega)), if_pos ⟨by omega, h3⟩]
    · rw [if_neg hut, d u hu]
      congr 1
      by_cases hw : 0 < wtAt W s u
      · have hne : u ≠ t := by rintro rfl; exact hut rfl
        by_cases huT : u < T
        · rw [if_pos ⟨huT, hw⟩, if_pos ⟨by omega, hw⟩]
        · rw [if_neg (by omega), if_neg]
          rintro ⟨h6, _⟩
          exact h5 u (by omega) (by omega) hw
      · rw [if_neg (fun h => hw h.2), if_neg (fun h => hw h.2)]
  · rw [modw hs h2]
    rcases e with ⟨rfl, rfl, rfl⟩ | ⟨e1, rfl, e3⟩
    · rw [if_neg (by split <;> omega)]; exact .inl rfl
    · rw [modw hs (by omega : T - 1 < W.length)]
      generalize hA : (if s + t < W.length then s + t else s + t - W.length) = A
      generalize hB : (if s + (T - 1) < W.length then s + (T - 1) else s + (T - 1) - W.length) = B
      have hA' : (s + t < W.length ∧ A = s + t) ∨ (W.length ≤ s + t ∧ A = s + t - W.length) := by split at hA <;> omega
      have hB' : (s + (T - 1) < W.length ∧ B = s + (T - 1)) ∨ (W.length ≤ s + (T - 1) ∧ B = s + (T - 1) - W.length) := by split at hB <;> omega
      clear hA hB
      by_cases h6 : (A : Int) ≤ (B : Int)
      · rw [if_pos h6]
        rcases e3 with rfl | ⟨rfl, e3⟩
        · exact .inr ⟨rfl, by omega⟩
        · omega
      · rw [if_neg h6]
        rcases e3 with rfl | ⟨rfl, e3⟩
        · exact .inl rfl
        · exact .inr ⟨rfl, by omega⟩

theorem RoundInv.done {W : List Int} {s T : Nat} {mt : List Int} {last wr : Int} (H : RoundInv W s T (partW W) mt last wr) (hs : s < W.length) :
    (∀ p (hp : p < W.length), mt[p]? = some (if 0 < W[p] then 1 else 0)) ∧ wr ≤ 1 := by
  obtain ⟨a, b, c, d, e⟩ := H
  refine ⟨fun p hp => ?_, ?_⟩
  · obtain ⟨u, hu, hup⟩ : ∃ u, u < W.length ∧ (s + u) % W.length = p := by
      by_cases h : s ≤ p
      · exact ⟨p - s, by omega, by rw [modw hs (by omega)]; split <;> omega⟩
      · exact ⟨p + W.length - s, by omega, by rw [modw hs (by omega)]; split <;> omega⟩
    have hd := d u hu
    rw [hup] at hd
    rw [hd]
    have hw : wtAt W s u = W[p] := by unfold wtAt; rw [hup]; simp [hp]
    rw [hw]
    congr 1
    by_cases h0 : 0 < W[p]
    · rw [if_pos h0, if_pos]
      refine ⟨?_, h0⟩
      rcases Nat.lt_or_ge u T with h1 | h1
      · exact h1
      · exact absurd (by rw [hw]; exact h0) (cnt_all W s a (by rw [b, cnt_total]) u h1 hu)
    · rw [if_neg h0, if_neg (fun h => h0 h.2)]
  · rcases e with ⟨_, _, rfl⟩ | ⟨_, _, rfl | ⟨rfl, _⟩⟩ <;> omega
theorem RoundInv.next {W : List Int} {s T j : Nat} {mt : List Int} {last wr : Int} (H : RoundInv W s T j mt last wr) (hj : j < partW W) :
    ∃ t, T ≤ t ∧ t < W.length ∧ 0 < wtAt W s t ∧ cnt W s t = cnt W s T ∧ ∀ u, T ≤ u → u < t → ¬ 0 < wtAt W s u :=
  cnt_next W s T W.length (by rw [H.2.1, cnt_total]; exact hj)
end Go.Proofs.Ytcgpmenknloagaa
