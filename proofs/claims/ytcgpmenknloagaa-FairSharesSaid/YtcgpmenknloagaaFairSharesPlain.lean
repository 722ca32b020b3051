/- Plain: over any turns two lanes that always have enough get by their weights. Conditions: none. -/
import Derived.Test.YtcgpmenknloagaaFairWaitsPlain
namespace Go.Proofs.Ytcgpmenknloagaa

theorem pc_bounds {P n : Nat} (hP : P < n) : ∀ (R s r : Nat), r ≤ n → R ≤ pc P n s (R * n + r) ∧ pc P n s (R * n + r) ≤ R + 1
  | 0, s, r, hr => by
    have h1 : pc P n s r ≤ pc P n s n := cnt_mono _ _ hr
    have h2 : pc P n s n = 1 := by
      have := cnt_total (ind P n) s
      rw [ind_len] at this
      rw [pc, this, ind_part hP]
    rw [Nat.zero_mul, Nat.zero_add]
    omega
  | R + 1, s, r, hr => by
    have ih := pc_bounds hP R (s + n) r hr
    have h2 : pc P n s n = 1 := by
      have := cnt_total (ind P n) s
      rw [ind_len] at this
      rw [pc, this, ind_part hP]
    have h5 : pc P n s (n + (R * n + r)) = pc P n s n + pc P n (s + n) (R * n + r) := cnt_add _ _ _ _
    rw [show (R + 1) * n + r = n + (R * n + r) by rw [Nat.succ_mul]; omega]
    omega
/-- Two lanes' turns differ by one at most. -/
theorem pc_near {P Q n : Nat} (hP : P < n) (hQ : Q < n) (s T : Nat) : pc P n s T ≤ pc Q n s T + 1 := by
  have h : T = T / n * n + T % n := by rw [Nat.mul_comm]; exact (Nat.div_add_mod T n).symm
  have h1 := pc_bounds hP (T / n) s (T % n) (Nat.le_of_lt (Nat.mod_lt _ (by omega)))
  have h2 := pc_bounds hQ (T / n) s (T % n) (Nat.le_of_lt (Nat.mod_lt _ (by omega)))
  rw [← h] at h1 h2
  omega
theorem pc_cnt {W : List Int} {P : Nat} (hP : P < W.length) (hw : 0 < W[P]) (s : Nat) : ∀ T, pc P W.length s T ≤ cnt W s T
  | 0 => Nat.le_refl _
  | T + 1 => by
    rw [pc_succ hP, cnt]
    have := pc_cnt hP hw s T
    by_cases h : (s + T) % W.length = P
    · rw [if_pos h, if_pos (by rw [wt_get (by rw [h]; exact hP)]; simpa only [h] using hw)]; omega
    · rw [if_neg h]; split <;> omega

/-- What holds when k turns were served: T places were passed; 'got' has what each lane got. -/
def ShareInv (W : List Int) (q B : Int) (T k : Nat) (got : List Int) (l : List Lane) : Prop :=
  cnt W 0 T = k ∧ wts l = W ∧ Fine B l ∧ got.length = W.length ∧ (∀ (P : Nat) (h : P < W.length), got[P]? = some (pc P W.length 0 T * grows W[P] q)) ∧
    ∀ (P : Nat) (h : P < W.length), (l.getD P (0, 0, 0)).2.1 = B - pc P W.length 0 T * grows W[P] q
theorem ShareInv.start {W : List Int} {q B : Int} {l : List Lane} (h1 : wts l = W) (h2 : Fine B l) (h3 : ∀ (P : Nat) (h : P < W.length), (l.getD P (0, 0, 0)).2.1 = B) : ShareInv W q B 0 0 (List.replicate W.length 0) l := by
  have h0 : ∀ P n, pc P n 0 0 = 0 := fun _ _ => rfl
  refine ⟨rfl, h1, h2, by simp, fun P h => ?_, fun P h => ?_⟩
  · rw [h0, List.getElem?_replicate, if_pos h]; simp
  · rw [h0, h3 P h]; simp
theorem ShareInv.next {W : List Int} {q B : Int} {T k : Nat} {got : List Int} {l : List Lane} (_ : ShareInv W q B T k got l) (hN : 0 < partW W) :
    ∃ t, T ≤ t ∧ t < T + W.length ∧ 0 < wtAt W 0 t ∧ cnt W 0 t = cnt W 0 T ∧ ∀ u, T ≤ u → u < t → ¬ 0 < wtAt W 0 u :=
  cnt_next W 0 T (T + W.length) (by rw [cnt_add, cnt_total]; omega)
/-- What a lane got is small. -/
theorem ShareInv.small {W : List Int} {q B : Int} {T k : Nat} {got : List Int} {l : List Lane} (H : ShareInv W q B T k got l) {P : Nat} (h : P < W.length) :
    ∃ g, got[P]? = some g ∧ 0 ≤ g ∧ g ≤ 8 * k ∧ (W[P] = 0 → g = 0) := by
  obtain ⟨a, b, c, d, e, f⟩ := H
  have hl : P < l.length := by rw [← wts_len, b]; exact h
  have hwP : l[P].1 = W[P] := by subst b; simp [wts]
  have hf := c _ (List.getElem_mem hl)
  rw [hwP] at hf
  have hg := (grows_range (q := q) hf.1.1 hf.1.2)
  refine ⟨_, e P h, Int.mul_nonneg (by omega) hg.2.1, ?_, ?_⟩
  · by_cases hw : 0 < W[P]
    · have h1 := pc_cnt h hw 0 T
      have h2 := Int.mul_le_mul (show ((pc P W.length 0 T : Nat) : Int) ≤ k by omega) hg.2.2 hg.2.1 (by omega)
      omega
    · have h0 : W[P] = 0 := by omega
      rw [hg.1, h0]; simp; omega
  · intro h0
    rw [hg.1, h0]; simp
theorem ShareInv.step {W : List Int} {q B : Int} {T k : Nat} {got : List Int} {l : List Lane} (H : ShareInv W q B T k got l) (hk : 8 * (k : Int) + 8 ≤ B)
    {t : Nat} (ht : T ≤ t) (h3 : 0 < wtAt W 0 t) (h4 : cnt W 0 t = cnt W 0 T) (h5 : ∀ u, T ≤ u → u < t → ¬ 0 < wtAt W 0 u) {j : Nat} (hj : j < l.length) (hjt : (0 + t) % W.length = j) :
    ∃ g, got[j]? = some g ∧ 0 ≤ g ∧ g ≤ 8 * k ∧ (0 ≤ takes q l[j] ∧ takes q l[j] ≤ 8) ∧ ShareInv W q B (t + 1) (k + 1) (got.set j (g + takes q l[j])) (l.set j (served q l[j])) := by
  have hlW : l.length = W.length := by rw [← wts_len, H.2.1]
  have hjW : j < W.length := by omega
  obtain ⟨g, hg1, hg2, hg3, hg4⟩ := H.small hjW
  obtain ⟨a, b, c, d, e, f⟩ := H
  have hps : ∀ P (h : P < W.length), 0 < W[P] → pc P W.length 0 t = pc P W.length 0 T := fun P hP hw => pc_same hP 0 T t ht (fun u hu hut he => h5 u hu hut (by
    rw [wt_get (by rw [he]; exact hP)]; simpa only [he] using hw))
  have hf := c _ (List.getElem_mem hj)
  have hsv := served_fine q hf
  have hwj : l[j].1 = W[j] := by subst b; simp [wts]
  have hwj0 : 0 < W[j] := by have := wt_get (W := W) (s := 0) (t := t) (by rw [hjt]; exact hjW); rw [this] at h3; simpa only [hjt] using h3
  have hgr := (grows_range (q := q) hf.1.1 hf.1.2)
  rw [hwj] at hgr
  have hB := f j hjW
  rw [List.getD_eq_getElem?_getD, List.getElem?_eq_getElem hj, Option.getD_some] at hB
  have he := e j hjW
  rw [hg1] at he
  injection he with he
  rw [← he] at hB
  have htk : takes q l[j] = grows W[j] q := by rw [hsv.1, hwj, hB]; omega
  have hX : ∀ (P : Nat) (h : P < W.length), ((pc P W.length 0 (t + 1) : Nat) : Int) * grows W[P] q = pc P W.length 0 T * grows W[P] q + if P = j then grows W[j] q else 0 := by
    intro P hP
    have hlP : P < l.length := by omega
    have hwP : l[P].1 = W[P] := by subst b; simp [wts]
    have hfP := c _ (List.getElem_mem hlP)
    rw [hwP] at hfP
    by_cases hw : 0 < W[P]
    · rw [pc_succ hP, hps P hP hw, hjt]
      by_cases h : j = P
      · subst h; rw [if_pos rfl, if_pos rfl, Int.natCast_add, Int.add_mul]; simp
      · rw [if_neg h, if_neg (fun h' => h h'.symm)]; simp
    · have h0 : W[P] = 0 := by omega
      have hne : P ≠ j := by rintro rfl; omega
      rw [if_neg hne, (grows_range (q := q) hfP.1.1 hfP.1.2).1, h0]; simp
  refine ⟨g, hg1, hg2, hg3, by rw [htk]; exact hgr.2, by rw [cnt, h4, a, if_pos h3], by rw [wts_set l q j hj]; exact b, c.set q j hj, by rw [List.length_set]; exact d, fun P hP => ?_, fun P hP => ?_⟩
  · rw [hX P hP, List.getElem?_set]
    by_cases h : j = P
    · subst h; rw [if_pos rfl, if_pos (by omega), if_pos rfl, htk, ← he]
    · rw [if_neg h, if_neg (fun h' => h h'.symm), e P hP]; simp
  · rw [hX P hP, List.getD_eq_getElem?_getD, List.getElem?_set]
    by_cases h : j = P
    · subst h; rw [if_pos rfl, if_pos hj, if_pos rfl, Option.getD_some, hsv.2]
      dsimp only
      rw [← hsv.1, htk, hB, ← he]; omega
    · rw [if_neg h, if_neg (fun h' => h h'.symm), ← List.getD_eq_getElem?_getD, f P hP]; simp
/-- The end: two lanes' gains, weighed crosswise. -/
theorem ShareInv.near {W : List Int} {q B : Int} {T k : Nat} {got : List Int} {l : List Lane} (H : ShareInv W q B T k got l) (hq : 1 ≤ q ∧ q ≤ 2) {a b : Nat} (ha : a < W.length) (hb : b < W.length) {x y : Int} (hx : got[a]? = some x) (hy : got[b]? = some y) :
    x * W[b] - y * W[a] ≤ q * W[a] * W[b] ∧ -(q * W[a] * W[b]) ≤ x * W[b] - y * W[a] := by
  obtain ⟨-, h2, h3, -, e, -⟩ := H
  have hr : ∀ (P : Nat) (h : P < W.length), (0 ≤ W[P] ∧ W[P] ≤ 4) ∧ grows W[P] q = W[P] * q := by
    intro P h
    have hl : P < l.length := by rw [← wts_len, h2]; exact h
    have hwP : l[P].1 = W[P] := by subst h2; simp [wts]
    have hf := h3 _ (List.getElem_mem hl)
    rw [hwP] at hf
    exact ⟨hf.1, by rw [(grows_range (q := q) hf.1.1 hf.1.2).1]; congr 1; omega⟩
  have hA := hr a ha
  have hB := hr b hb
  rw [e a ha, hA.2] at hx
  rw [e b hb, hB.2] at hy
  injection hx with hx
  injection hy with hy
  subst hx; subst hy
  have n1 := pc_near ha hb 0 T
  have n2 := pc_near hb ha 0 T
  generalize hpa : pc a W.length 0 T = pa at *
  generalize hpb : pc b W.length 0 T = pb at *
  generalize W[a] = wa at *
  generalize W[b] = wb at *
  have h1 : (pa : Int) * (wa * q) * wb = pa * (q * wa * wb) := by rw [Int.mul_assoc, Int.mul_comm wa q, ]
  have h2 : (pb : Int) * (wb * q) * wa = pb * (q * wa * wb) := by rw [Int.mul_assoc, Int.mul_comm wb q, Int.mul_assoc, Int.mul_comm wb wa, Int.mul_assoc]
  rw [h1, h2]
  have hM : 0 ≤ q * wa * wb := Int.mul_nonneg (Int.mul_nonneg (by omega) hA.1.1) hB.1.1
  generalize q * wa * wb = M at *
  have hc : (pa : Int) = pb ∨ (pa : Int) = pb + 1 ∨ (pb : Int) = pa + 1 := by omega
  rcases hc with h | h | h
  · rw [h]; omega
  · rw [h, Int.add_mul]; omega
  · rw [h, Int.add_mul]; omega
end Go.Proofs.Ytcgpmenknloagaa
