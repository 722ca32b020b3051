/- Plain: a lane's own turns come round in time. Conditions: none. -/
import Derived.Test.YtcgpmenknloagaaFairRoundPlain
namespace Go.Proofs.Ytcgpmenknloagaa

theorem cnt_add (ws : List Int) (s T : Nat) : ∀ U, cnt ws s (T + U) = cnt ws s T + cnt ws (s + T) U
  | 0 => rfl
  | U + 1 => by
    have : wtAt ws s (T + U) = wtAt ws (s + T) U := by unfold wtAt; rw [show s + (T + U) = s + T + U by omega]
    rw [show T + (U + 1) = T + U + 1 from rfl, cnt, cnt, cnt_add ws s T U, this]
    omega
/-- The weights in which one lane alone takes part. -/
def ind (P n : Nat) : List Int := (List.replicate n (0 : Int)).set P 1
theorem ind_len (P n : Nat) : (ind P n).length = n := by simp [ind]
theorem ind_at {P n : Nat} (hP : P < n) (s t : Nat) : wtAt (ind P n) s t = if (s + t) % n = P then 1 else 0 := by
  unfold wtAt
  rw [ind_len]
  have h : (s + t) % n < n := Nat.mod_lt _ (by omega)
  unfold ind
  rw [List.getD_eq_getElem?_getD, List.getElem?_set]
  by_cases he : P = (s + t) % n
  · rw [if_pos he, if_pos he.symm, if_pos (by simpa using hP)]; rfl
  · rw [if_neg he, if_neg (fun h => he h.symm), List.getElem?_replicate, if_pos h]; rfl
/-- How often lane P had its turn among the first T places from s on. -/
def pc (P n s T : Nat) : Nat := cnt (ind P n) s T
theorem pc_succ {P n : Nat} (hP : P < n) (s T : Nat) : pc P n s (T + 1) = pc P n s T + if (s + T) % n = P then 1 else 0 := by
  unfold pc
  rw [cnt, ind_at hP]
  by_cases h : (s + T) % n = P <;> simp [h]
theorem pc_same {P n : Nat} (hP : P < n) (s T : Nat) : ∀ t, T ≤ t → (∀ u, T ≤ u → u < t → (s + u) % n ≠ P) → pc P n s t = pc P n s T
  | 0, h, _ => by rw [Nat.le_zero.1 h]
  | t + 1, h, hn => by
    rcases Nat.lt_or_eq_of_le h with h' | rfl
    · rw [pc_succ hP, if_neg (hn t (by omega) (by omega)), pc_same hP s T t (by omega) (fun u a b => hn u a (by omega))]
      rfl
    · rfl
theorem ind_part {P n : Nat} (hP : P < n) : partW (ind P n) = 1 := by
  have h : ∀ (k P : Nat), P < k → partW (ind P k) = 1 := by
    intro k
    induction k with
    | zero => intro P h; omega
    | succ k ih =>
      intro P h
      cases P with
      | zero =>
        unfold partW ind
        rw [List.replicate_succ, List.set_cons_zero, List.filter_cons]
        simp
      | succ P =>
        have := ih P (by omega)
        unfold partW ind at *
        rw [List.replicate_succ, List.set_cons_succ, List.filter_cons]
        simpa using this
  exact h n P hP
theorem off_of {n s P : Nat} (hP : P < n) : ∃ u, u < n ∧ (s + u) % n = P := by
  have hs : s % n < n := Nat.mod_lt _ (by omega)
  by_cases h : s % n ≤ P
  · exact ⟨P - s % n, by omega, by rw [Nat.add_mod, Nat.mod_eq_of_lt (show P - s % n < n by omega), Nat.add_sub_cancel' h, Nat.mod_eq_of_lt hP]⟩
  · refine ⟨P + n - s % n, by omega, ?_⟩
    rw [Nat.add_mod, Nat.mod_eq_of_lt (show P + n - s % n < n by omega), show s % n + (P + n - s % n) = P + n by omega, Nat.add_mod_right, Nat.mod_eq_of_lt hP]
theorem wt_get {W : List Int} {s t : Nat} (h : (s + t) % W.length < W.length) : wtAt W s t = W[(s + t) % W.length] := by
  unfold wtAt; simp [h]
/-- After R rounds' worth of turns each lane that takes part had R. -/
theorem pc_enough {W : List Int} {P : Nat} (hP : P < W.length) (hw : 0 < W[P]) : ∀ (R s T : Nat), cnt W s T = R * partW W → R ≤ pc P W.length s T
  | 0, _, _, _ => Nat.zero_le _
  | R + 1, s, T, h => by
    have hN : 0 < partW W := by
      unfold partW
      refine List.length_pos_iff.2 (fun he => ?_)
      have hm : W[P] ∈ W.filter (fun x => decide (0 < x)) := List.mem_filter.2 ⟨List.getElem_mem hP, by simpa using hw⟩
      rw [he] at hm; simp at hm
    have hcl := cnt_total W s
    have hRN : (R + 1) * partW W = R * partW W + partW W := Nat.succ_mul _ _
    rcases Nat.lt_or_ge T W.length with hT | hT
    · have h1 := cnt_mono W s (Nat.le_of_lt hT)
      have hR : R * partW W = 0 := by omega
      have hR0 : R = 0 := by
        rcases Nat.mul_eq_zero.1 hR with h | h <;> omega
      subst hR0
      have hall := cnt_all W s (Nat.le_of_lt hT) (by omega)
      obtain ⟨u, hu, huP⟩ := off_of (s := s) hP
      have huT : u < T := by
        rcases Nat.lt_or_ge u T with h2 | h2
        · exact h2
        · exfalso
          refine hall u h2 hu ?_
          rw [wt_get (by rw [huP]; exact hP)]
          simpa only [huP] using hw
      have h3 := pc_succ hP s u
      rw [if_pos huP] at h3
      have h4 : pc P W.length s (u + 1) ≤ pc P W.length s T := cnt_mono _ _ (by omega)
      omega
    · obtain ⟨U, rfl⟩ : ∃ U, T = W.length + U := ⟨T - W.length, by omega⟩
      rw [cnt_add] at h
      have ih := pc_enough hP hw R (s + W.length) U (by omega)
      have h5 : pc P W.length s (W.length + U) = pc P W.length s W.length + pc P W.length (s + W.length) U := cnt_add _ _ _ _
      have h6 : pc P W.length s W.length = 1 := by
        have := cnt_total (ind P W.length) s
        rw [ind_len] at this
        rw [pc, this, ind_part hP]
      omega

/-- What holds when i turns were served: T places were passed from s on; lane P had left of A + .. to give and has B - .. waiting. -/
def WaitInv (W : List Int) (s P : Nat) (G A B : Int) (T i : Nat) (left : Int) (l : List Lane) : Prop :=
  cnt W s T = i ∧ left = A - min (pc P W.length s T * G) B ∧ wts l = W ∧ Fine 60 l ∧ l.length = W.length ∧ ∀ h : P < l.length, l[P].2.1 = B - min (pc P W.length s T * G) B
theorem WaitInv.start {W : List Int} {s P : Nat} {G A B : Int} {l : List Lane} (hB : 0 ≤ B) (h1 : wts l = W) (h2 : Fine 60 l) (h3 : ∀ h : P < l.length, l[P].2.1 = B) : WaitInv W s P G A B 0 0 A l := by
  have h0 : min (((pc P W.length s 0 : Nat) : Int) * G) B = 0 := by
    rw [show pc P W.length s 0 = 0 from rfl]; rw [show ((0 : Nat) : Int) * G = 0 by simp]; omega
  exact ⟨rfl, by rw [h0]; omega, h1, h2, by rw [← h1, wts_len], fun h => by rw [h0, h3 h]; omega⟩
theorem WaitInv.next {W : List Int} {s P : Nat} {G A B : Int} {T i : Nat} {left : Int} {l : List Lane} (_ : WaitInv W s P G A B T i left l) (hN : 0 < partW W) :
    ∃ t, T ≤ t ∧ t < T + W.length ∧ 0 < wtAt W s t ∧ cnt W s t = cnt W s T ∧ ∀ u, T ≤ u → u < t → ¬ 0 < wtAt W s u :=
  cnt_next W s T (T + W.length) (by rw [cnt_add, cnt_total]; omega)
theorem WaitInv.step {W : List Int} {s P : Nat} {q A B : Int} {T i : Nat} {left : Int} {l : List Lane} (hP : P < W.length) (hw : 0 < W[P]) (H : WaitInv W s P (grows W[P] q) A B T i left l)
    {t : Nat} (ht : T ≤ t) (h3 : 0 < wtAt W s t) (h4 : cnt W s t = cnt W s T) (h5 : ∀ u, T ≤ u → u < t → ¬ 0 < wtAt W s u) {j : Nat} (hj : j < l.length) (hjt : (s + t) % W.length = j) :
    WaitInv W s P (grows W[P] q) A B (t + 1) (i + 1) (if (j : Int) = P then left - takes q l[j] else left) (l.set j (served q l[j])) := by
  obtain ⟨a, b, c, d, e, f⟩ := H
  have hpl : P < l.length := by omega
  have hps : pc P W.length s t = pc P W.length s T := pc_same hP s T t ht (fun u hu hut he => h5 u hu hut (by
    rw [wt_get (by rw [he]; exact hP)]; simpa only [he] using hw))
  have hf := d _ (List.getElem_mem hj)
  have hsv := served_fine q hf
  have hwP : l[P].1 = W[P] := by subst c; simp [wts]
  have hpn := pc_succ hP s t
  rw [hps] at hpn
  have hB := f hpl
  refine ⟨by rw [cnt, h4, a, if_pos h3], ?_, by rw [wts_set l q j hj]; exact c, d.set q j hj, by rw [List.length_set]; exact e, ?_⟩
  · by_cases hjP : j = P
    · subst hjP
      rw [if_pos rfl, hpn, if_pos hjt, b, hsv.1, hwP, hB]
      have hg := (grows_range (q := q) hf.1.1 hf.1.2).2
      rw [hwP] at hg
      have hm : (((pc j W.length s T + 1 : Nat) : Int)) * grows W[j] q = (pc j W.length s T : Int) * grows W[j] q + grows W[j] q := by
        rw [Int.natCast_add, Int.add_mul]; simp
      rw [hm]
      have hx : 0 ≤ (pc j W.length s T : Int) * grows W[j] q := Int.mul_nonneg (by omega) (by omega)
      generalize (pc j W.length s T : Int) * grows W[j] q = X at *
      omega
    · rw [if_neg (by omega), hpn, if_neg (by omega), b]; rfl
  · intro h
    by_cases hjP : j = P
    · subst hjP
      rw [List.getElem_set_self, hpn, if_pos hjt, hsv.2]
      dsimp only
      rw [hwP, hB]
      have hg := (grows_range (q := q) hf.1.1 hf.1.2).2
      rw [hwP] at hg
      have hm : (((pc j W.length s T + 1 : Nat) : Int)) * grows W[j] q = (pc j W.length s T : Int) * grows W[j] q + grows W[j] q := by
        rw [Int.natCast_add, Int.add_mul]; simp
      rw [hm]
      have hx : 0 ≤ (pc j W.length s T : Int) * grows W[j] q := Int.mul_nonneg (by omega) (by omega)
      generalize (pc j W.length s T : Int) * grows W[j] q = X at *
      omega
    · rw [List.getElem_set_ne (by omega), hpn, if_neg (by omega), hB]; rfl
/-- When all turns were had, nothing is left. -/
theorem WaitInv.done {W : List Int} {s P : Nat} {G A B : Int} {T i : Nat} {left : Int} {l : List Lane} (hP : P < W.length) (hw : 0 < W[P]) (H : WaitInv W s P G A B T i left l) (hG : 1 ≤ G) (hAB : A ≤ B) (hA : 0 ≤ A)
    (hi : (i : Int) = (A - 1 + G) / G * partW W) : left ≤ 0 := by
  obtain ⟨a, b, -⟩ := H
  have hD : 0 ≤ (A - 1 + G) / G := Int.ediv_nonneg (by omega) (by omega)
  have hd := Int.mul_ediv_add_emod (A - 1 + G) G
  have hm := Int.emod_lt_of_pos (A - 1 + G) (b := G) (by omega)
  obtain ⟨R, hR⟩ := Int.eq_ofNat_of_zero_le hD
  rw [hR] at hi hd
  have h := pc_enough hP hw R s T (by
    have : ((cnt W s T : Nat) : Int) = ((R * partW W : Nat) : Int) := by rw [a, hi]; simp
    omega)
  have h1 : (R : Int) * G ≤ (pc P W.length s T : Int) * G := Int.mul_le_mul_of_nonneg_right (by omega) (by omega)
  rw [Int.mul_comm] at hd
  generalize (pc P W.length s T : Int) * G = X at *
  generalize (R : Int) * G = Y at *
  omega
end Go.Proofs.Ytcgpmenknloagaa
