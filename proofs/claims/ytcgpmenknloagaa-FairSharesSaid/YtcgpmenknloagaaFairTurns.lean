/- Plain: whose turn it is, round by round, by the weights alone. Conditions: none. -/
import Derived.Test.YtcgpmenknloagaaFairPlain
namespace Go.Proofs.Ytcgpmenknloagaa

def wtAt (ws : List Int) (s t : Nat) : Int := ws.getD ((s + t) % ws.length) 0
def cnt (ws : List Int) (s : Nat) : Nat → Nat
  | 0 => 0
  | T + 1 => cnt ws s T + if 0 < wtAt ws s T then 1 else 0
def partW (ws : List Int) : Nat := (ws.filter fun x => decide (0 < x)).length

theorem cnt_mono (ws : List Int) (s : Nat) {T N : Nat} (h : T ≤ N) : cnt ws s T ≤ cnt ws s N := by
  induction N with
  | zero => obtain rfl : T = 0 := by omega
            exact Nat.le_refl _
  | succ N ih =>
    rcases Nat.lt_or_eq_of_le h with h' | rfl
    · have := ih (by omega); simp only [cnt]; omega
    · exact Nat.le_refl _
theorem cnt_le (ws : List Int) (s T : Nat) : cnt ws s T ≤ T := by
  induction T with
  | zero => exact Nat.le_refl _
  | succ T ih => simp only [cnt]; split <;> omega
theorem cnt_next (ws : List Int) (s T : Nat) : ∀ N, cnt ws s T < cnt ws s N →
    ∃ t, T ≤ t ∧ t < N ∧ 0 < wtAt ws s t ∧ cnt ws s t = cnt ws s T ∧ ∀ u, T ≤ u → u < t → ¬ 0 < wtAt ws s u
  | 0, h => by simp [cnt] at h
  | N + 1, h => by
    by_cases h1 : cnt ws s T < cnt ws s N
    · obtain ⟨t, a, b, c, d, e⟩ := cnt_next ws s T N h1
      exact ⟨t, a, by omega, c, d, e⟩
    · have hTN : T ≤ N := by
        rcases Nat.lt_or_ge N T with h2 | h2
        · have := cnt_mono ws s (T := N + 1) (N := T) (by omega); omega
        · exact h2
      have heq : cnt ws s N = cnt ws s T := by have := cnt_mono ws s hTN; omega
      have hw : 0 < wtAt ws s N := by
        simp only [cnt] at h
        split at h
        · assumption
        · omega
      refine ⟨N, hTN, by omega, hw, heq, fun u hu hun hp => ?_⟩
      have h3 : cnt ws s (u + 1) = cnt ws s u + 1 := by simp only [cnt]; rw [if_pos hp]
      have h4 := cnt_mono ws s hu
      have h5 := cnt_mono ws s (show u + 1 ≤ N by omega)
      omega
theorem cnt_all (ws : List Int) (s : Nat) {T N : Nat} (hT : T ≤ N) (h : cnt ws s T = cnt ws s N) : ∀ u, T ≤ u → u < N → ¬ 0 < wtAt ws s u := by
  intro u hu hun hp
  have h3 : cnt ws s (u + 1) = cnt ws s u + 1 := by simp only [cnt]; rw [if_pos hp]
  have h4 := cnt_mono ws s hu
  have h5 := cnt_mono ws s (show u + 1 ≤ N by omega)
  omega
theorem cnt_shift (ws : List Int) (s T : Nat) : cnt ws s (T + 1) = (if 0 < wtAt ws s 0 then 1 else 0) + cnt ws (s + 1) T := by
  induction T with
  | zero => simp [cnt]
  | succ T ih =>
    rw [cnt, ih]
    have : wtAt ws s (T + 1) = wtAt ws (s + 1) T := by unfold wtAt; rw [show s + (T + 1) = s + 1 + T by omega]
    rw [this]
    simp only [cnt]
    omega
theorem cnt_round (ws : List Int) (s : Nat) : cnt ws s ws.length = cnt ws 0 ws.length := by
  induction s with
  | zero => rfl
  | succ s ih =>
    rw [← ih]
    have h1 := cnt_shift ws s ws.length
    have h2 : wtAt ws s ws.length = wtAt ws s 0 := by unfold wtAt; simp
    simp only [cnt] at h1
    rw [h2] at h1
    omega
theorem cnt_part (ws : List Int) : ∀ T, T ≤ ws.length → cnt ws 0 T = partW (ws.take T)
  | 0, _ => by simp [cnt, partW]
  | T + 1, h => by
    have hg : ws.getD T 0 = ws[T] := by simp [show T < ws.length by omega]
    have hw : wtAt ws 0 T = ws[T] := by unfold wtAt; rw [Nat.zero_add, Nat.mod_eq_of_lt (by omega), hg]
    rw [cnt, cnt_part ws T (by omega), hw, List.take_succ_eq_append_getElem (by omega)]
    unfold partW
    rw [List.filter_append, List.length_append]
    by_cases hp : 0 < ws[T] <;> simp [hp]
theorem cnt_total (ws : List Int) (s : Nat) : cnt ws s ws.length = partW ws := by
  rw [cnt_round, cnt_part ws _ (Nat.le_refl _), List.take_length]

/-- Lanes as a service has them: no deficit is kept. -/
def Fine (M : Int) (l : List Lane) : Prop := ∀ x ∈ l, (0 ≤ x.1 ∧ x.1 ≤ 4) ∧ (0 ≤ x.2.1 ∧ x.2.1 ≤ M) ∧ x.2.2 = 0
theorem Fine.small {M : Int} {l : List Lane} (h : Fine M l) (hM : M ≤ 1048576) : Small l := by
  intro x hx
  have := h x hx
  omega
theorem grows_range {w q : Int} (h0 : 0 ≤ w) (h4 : w ≤ 4) : grows w q = w * (min (max q 1) 2) ∧ 0 ≤ grows w q ∧ grows w q ≤ 8 := by
  have e : grows w q = w * (min (max q 1) 2) := by unfold grows; rw [show min w 4 = w by omega]
  refine ⟨e, ?_⟩
  rw [e]
  have h2 : min (max q 1) 2 = 1 ∨ min (max q 1) 2 = 2 := by omega
  rcases h2 with h | h <;> rw [h] <;> omega
theorem served_fine {M : Int} {x : Lane} (q : Int) (h : (0 ≤ x.1 ∧ x.1 ≤ 4) ∧ (0 ≤ x.2.1 ∧ x.2.1 ≤ M) ∧ x.2.2 = 0) :
    takes q x = min (grows x.1 q) x.2.1 ∧ served q x = (x.1, x.2.1 - min (grows x.1 q) x.2.1, 0) := by
  have hg := (grows_range (q := q) h.1.1 h.1.2).2
  have ht : takes q x = min (grows x.1 q) x.2.1 := by unfold takes; rw [h.2.2]; omega
  refine ⟨ht, ?_⟩
  unfold served
  rw [ht, h.2.2]
  split
  · rfl
  · rw [show (0 : Int) + grows x.1 q - min (grows x.1 q) x.2.1 = 0 by omega]
theorem Fine.set {M : Int} {l : List Lane} (h : Fine M l) (q : Int) (i : Nat) (hi : i < l.length) : Fine M (l.set i (served q l[i])) := by
  intro x hx
  rcases List.mem_or_eq_of_mem_set hx with hx | rfl
  · exact h x hx
  · have h0 := h _ (List.getElem_mem hi)
    have hg := (grows_range (q := q) h0.1.1 h0.1.2).2
    rw [(served_fine q h0).2]
    exact ⟨h0.1, by dsimp only; omega, rfl⟩
def part' (l : List Lane) : Nat := (l.filter fun x => decide (0 < x.1)).length
def wts (l : List Lane) : List Int := l.map (·.1)
theorem wts_len (l : List Lane) : (wts l).length = l.length := by simp [wts]
theorem wts_set (l : List Lane) (q : Int) (i : Nat) (hi : i < l.length) : wts (l.set i (served q l[i])) = wts l := by
  apply List.ext_getElem
  · simp [wts]
  · intro j h1 h2
    simp only [wts, List.getElem_map, List.getElem_set]
    split
    · subst_vars; rfl
    · rfl
theorem part_wts (l : List Lane) : part' l = partW (wts l) := by
  unfold part' partW wts
  rw [List.filter_map, List.length_map]; rfl
/-- The next turn from place (s + T) round. -/
theorem turns_of {l : List Lane} {s T t : Nat} (hl : 0 < l.length) (ht : T ≤ t) (htl : t < T + l.length) (hw : 0 < wtAt (wts l) s t) (hn : ∀ u, T ≤ u → u < t → ¬ 0 < wtAt (wts l) s u) :
    Turns l ((s + T) % l.length) (t - T) ((s + t) % l.length) := by
  have hlen := wts_len l
  have get : ∀ u (h : (s + u) % l.length < l.length), wtAt (wts l) s u = l[(s + u) % l.length].1 := by
    intro u h
    unfold wtAt
    rw [hlen]
    simp [wts, h]
  have hmod : ∀ j, ((s + T) % l.length + j) % l.length = (s + (T + j)) % l.length := by
    intro j; rw [Nat.mod_add_mod, Nat.add_assoc]
  refine ⟨by omega, ?_, ⟨Nat.mod_lt _ hl, ?_⟩, ?_⟩
  · rw [hmod, show T + (t - T) = t by omega]
  · have := get t (Nat.mod_lt _ hl); omega
  · intro j hj h
    have := hn (T + j) (by omega) (by omega)
    rw [get (T + j) (Nat.mod_lt _ hl)] at this
    simp only [hmod]
    omega
end Go.Proofs.Ytcgpmenknloagaa
