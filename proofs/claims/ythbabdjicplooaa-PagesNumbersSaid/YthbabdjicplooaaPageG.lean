/- package pages, the plain law of lay. Conditions: none. -/
import Derived.Test.YthbabdjicplooaaPageF
namespace Go.Proofs.Ythbabdjicplooaa
open Go.RowKit

def partB (b : List Int) (k : Nat) : List Int := (b.drop (k * 128)).take 128
theorem partB_ok {b : List Int} (h : b.length = 1024) (hb : InB b) {k : Nat} (hk : k < 8) : (partB b k).length = 128 ∧ InB (partB b k) :=
  ⟨by rw [partB, List.length_take, List.length_drop]; omega, (hb.drop _).take _⟩
/-- What sheets make of a sector. -/
def secR : List Sh → Nat → Option (List Int)
  | [], _ => none
  | q :: R, k => if q.1.toNat = k / 8 then some (partB q.2.2 (k % 8)) else secR R k
def sealR (S : List Int) (R : List Sh) : List Int := R.foldl (fun S q => setB S q.1.toNat) S
theorem sealR_snoc (S : List Int) (R : List Sh) (q : Sh) : sealR S (R ++ [q]) = setB (sealR S R) q.1.toNat := by simp [sealR]
theorem sealR_len (S : List Int) : ∀ R : List Sh, (sealR S R).length = S.length
  | [] => rfl
  | q :: R => by
    show (sealR (setB S q.1.toNat) R).length = _
    rw [sealR_len, setB_len]
theorem sealR_in {S : List Int} (h : InB S) : ∀ R : List Sh, InB (sealR S R)
  | [] => h
  | q :: R => sealR_in (S := setB S q.1.toNat) (setB_in h _) R
theorem secR_some {R : List Sh} (hk : ∀ q ∈ R, ShOk q) : ∀ {k : Nat} {x : List Int}, secR R k = some x → x.length = 128 ∧ InB x ∧ k < 4096 := by
  induction R with
  | nil => intro k x h; cases h
  | cons q R ih =>
    intro k x h
    have hq := hk q (List.mem_cons_self ..)
    rw [secR] at h
    split at h
    · rename_i h1
      injection h with h
      subst h
      have h2 := hq.n0
      have h3 := hq.n1
      have := partB_ok hq.len hq.inb (k := k % 8) (Nat.mod_lt _ (by omega))
      exact ⟨this.1, this.2, by omega⟩
    · exact ih (fun x hx => hk x (List.mem_cons_of_mem _ hx)) h
theorem secR_none {R : List Sh} {k : Nat} (h : secR R k = none) : ∀ q ∈ R, q.1.toNat ≠ k / 8 := by
  induction R with
  | nil => intro q hq; cases hq
  | cons q R ih =>
    rw [secR] at h
    split at h
    · cases h
    · rename_i h1
      intro x hx
      rcases List.mem_cons.1 hx with rfl | hx
      · exact h1
      · exact ih h x hx
theorem secR_not {R : List Sh} {k : Nat} (h : ∀ q ∈ R, q.1.toNat ≠ k / 8) : secR R k = none := by
  induction R with
  | nil => rfl
  | cons q R ih => rw [secR, if_neg (h q (List.mem_cons_self ..))]; exact ih fun x hx => h x (List.mem_cons_of_mem _ hx)
theorem secR_at {R : List Sh} (hd : (R.map (fun q => q.1.toNat)).Nodup) : ∀ {j : Nat} (h : j < R.length) {t : Nat}, t < 8 → secR R (R[j].1.toNat * 8 + t) = some (partB R[j].2.2 t) := by
  induction R with
  | nil => intro j h; cases h
  | cons q R ih =>
    intro j h t ht
    rw [List.map_cons, List.nodup_cons] at hd
    cases j with
    | zero =>
      simp only [List.getElem_cons_zero]
      rw [secR, if_pos (by omega), show (q.1.toNat * 8 + t) % 8 = t by omega]
    | succ j =>
      simp only [List.getElem_cons_succ]
      have hj : j < R.length := by simpa using h
      have hne : q.1.toNat ≠ R[j].1.toNat := fun e => hd.1 (List.mem_map.2 ⟨_, List.getElem_mem hj, e.symm⟩)
      rw [secR, if_neg (by omega)]
      exact ih hd.2 hj ht
theorem secR_ex {R : List Sh} : ∀ {k : Nat} {x : List Int}, secR R k = some x → ∃ j, ∃ h : j < R.length, R[j].1.toNat = k / 8 ∧ x = partB R[j].2.2 (k % 8) := by
  induction R with
  | nil => intro k x h; cases h
  | cons q R ih =>
    intro k x h
    rw [secR] at h
    split at h
    · rename_i h1
      injection h with h
      exact ⟨0, by simp, h1, h.symm⟩
    · obtain ⟨j, hj, h2⟩ := ih h
      exact ⟨j + 1, by simpa using hj, by simpa using h2⟩

/-- Sheets are being laid: sheet i's first k parts and all sheets ahead of it are there. -/
structure LayI (D0 D : Dsk) (R : List Sh) (i k : Nat) : Prop where
  safe : D.safe = D0.safe
  at_ : ∀ p ∈ D.pend, secR R p.1 = some p.2
  pl : D.pend.length ≤ i * 8 + k
  done : ∀ j (h : j < R.length), ∀ t < 8, (j < i ∨ j = i ∧ t < k) → D.rd (R[j].1.toNat * 8 + t) = partB R[j].2.2 t
  left : D0.left = none → D.left = none
  db : DB D
theorem LayI.start {D : Dsk} (R : List Sh) (hp : D.pend = []) (hb : DB D) : LayI D D R 0 0 :=
  ⟨rfl, (fun p hp' => by rw [hp] at hp'; cases hp'), by rw [hp]; simp, fun j h t ht hj => by omega, id, hb⟩
theorem LayI.next {D0 D : Dsk} {R : List Sh} {i : Nat} (h : LayI D0 D R i 8) : LayI D0 D R (i + 1) 0 :=
  ⟨h.safe, h.at_, by have := h.pl; omega, fun j hj t ht hc => h.done j hj t ht (by omega), h.left, h.db⟩
theorem LayI.skip {D0 D : Dsk} {R : List Sh} {i k : Nat} (h : LayI D0 D R i k) (hi : i < R.length) (he : D.rd (R[i].1.toNat * 8 + k) = partB R[i].2.2 k) : LayI D0 D R i (k + 1) :=
  ⟨h.safe, h.at_, by have := h.pl; omega, fun j hj t ht hc => by
    by_cases h1 : j = i ∧ t = k
    · obtain ⟨rfl, rfl⟩ := h1; exact he
    · exact h.done j hj t ht (by omega), h.left, h.db⟩
theorem LayI.write {D0 D : Dsk} {R : List Sh} {i k : Nat} (h : LayI D0 D R i k) (hi : i < R.length) (hk : k < 8) (hd : (R.map (fun q => q.1.toNat)).Nodup) (hok : ∀ q ∈ R, ShOk q) : LayI D0 (D.write (R[i].1.toNat * 8 + k) (partB R[i].2.2 k)) R i (k + 1) := by
  have hq := hok _ (List.getElem_mem hi)
  have hp := partB_ok hq.len hq.inb hk
  refine ⟨h.safe, fun p hp => ?_, ?_, fun j hj t ht hc => ?_, fun hl => ?_, h.db.write _ hp.2 hp.1⟩
  · rcases List.mem_append.1 hp with hp | hp
    · exact h.at_ p hp
    · rw [List.mem_singleton.1 hp]; exact secR_at hd hi hk
  · have := h.pl
    simp only [Dsk.write, List.length_append, List.length_cons, List.length_nil]; omega
  · rw [rd_write]
    by_cases h1 : j = i
    · subst h1
      by_cases h2 : t = k
      · subst h2; rw [if_pos rfl]
      · rw [if_neg (by omega)]; exact h.done j hj t ht (by omega)
    · have hne : R[i].1.toNat ≠ R[j].1.toNat := fun e => by
        have := (List.getElem_inj (h₀ := by simpa using hi) (h₁ := by simpa using hj) hd).1 (by simpa using e)
        exact h1 this.symm
      rw [if_neg (by omega)]; exact h.done j hj t ht (by omega)
  · simp [Dsk.write, h.left hl]
/-- What of the pages and the seal is new behind a lay that has gone; and what they may be behind one that was stopped. -/
structure NewD (D E : Dsk) (R : List Sh) : Prop where
  len : E.safe.length = D.safe.length
  sea : E.rd 7679 = sealR (D.rd 7679) R
  sec : ∀ k, k < 4096 → E.rd k = (secR R k).getD (D.rd k)
structure MidD (D E : Dsk) (R : List Sh) : Prop where
  len : E.safe.length = D.safe.length
  sea : ∀ i, (E.rd 7679).getD i 0 = (D.rd 7679).getD i 0 ∨ (E.rd 7679).getD i 0 = (sealR (D.rd 7679) R).getD i 0
  sec : ∀ k, k < 4096 → secR R k = none → E.rd k = D.rd k
theorem NewD.mid {D E : Dsk} {R : List Sh} (h : NewD D E R) : MidD D E R :=
  ⟨h.len, fun i => .inr (by rw [h.sea]), fun k hk hn => by rw [h.sec k hk, hn]; rfl⟩
/-- All is written, the seal too. -/
structure LayS (D0 D : Dsk) (R : List Sh) : Prop where
  safe : D.safe = D0.safe
  at_ : ∀ p ∈ D.pend, secR R p.1 = some p.2 ∨ (p.1 = 7679 ∧ p.2 = sealR (D0.rd 7679) R)
  pl : D.pend.length ≤ 3000
  left : D0.left = none → D.left = none
  db : DB D
theorem LayI.s {D0 D : Dsk} {R : List Sh} {i k : Nat} (h : LayI D0 D R i k) (hi : i * 8 + k ≤ 3000) : LayS D0 D R :=
  ⟨h.safe, fun p hp => .inl (h.at_ p hp), by have := h.pl; omega, h.left, h.db⟩
theorem crash_mix (keep : List Bool) (torn : Int) (nb : Nat) (hn : nb ≤ 128) (S : List (List Int)) (P : List (Nat × List Int)) (s i : Nat) (hs : s < S.length) (Pr : Int → Prop) (h0 : Pr ((S.getD s noughts).getD i 0)) (hP : ∀ p ∈ P, p.1 = s → p.2.length = 128 ∧ Pr (p.2.getD i 0)) :
    ∀ j, Pr (((crashS keep torn nb S P j).getD s noughts).getD i 0)
  | 0 => h0
  | j + 1 => by
    have ih := crash_mix keep torn nb hn S P s i hs Pr h0 hP j
    have hl := crashS_len keep torn nb S P j
    simp only [crashS]
    split
    · exact ih
    · rename_i p hp
      have hpm := List.mem_of_getElem? hp
      have hset : ∀ y : List Int, ((crashS keep torn nb S P j).set p.1 y).getD s noughts = if p.1 = s then y else (crashS keep torn nb S P j).getD s noughts := fun y => by
        simp only [List.getD_eq_getElem?_getD, List.getElem?_set]
        by_cases h1 : p.1 = s
        · subst h1; simp [hl, hs]
        · simp [h1]
      split
      · rw [hset]
        split
        · rename_i h1; exact (hP p hpm h1).2
        · exact ih
      · split
        · rw [hset]
          split
          · rename_i h1
            rw [tornL_get (hP p hpm h1).1 hn]
            split
            · exact (hP p hpm h1).2
            · rw [h1]; exact ih
          · exact ih
        · exact ih
theorem LayS.crash {D0 D : Dsk} {R : List Sh} (h : LayS D0 D R) (hb : DB D0) (h0 : D0.pend = []) (hok : ∀ q ∈ R, ShOk q) (hlen : 7680 ≤ D0.safe.length) (keep : List Bool) (torn nb : Int) :
    MidD D0 (D.crash keep torn nb) R ∧ ∀ k, 4096 ≤ k → k < 7679 → (D.crash keep torn nb).rd k = D0.rd k := by
  have hrd : ∀ k, (D.crash keep torn nb).rd k = (crashS keep torn (min nb 128).toNat D.safe D.pend D.pend.length).getD k noughts := fun k => rd_pend (D := D.crash keep torn nb) rfl k
  have hold : ∀ k, D0.rd k = D0.safe.getD k noughts := fun k => rd_pend h0 k
  have hlc := (crash_len D keep torn nb).1
  have hdc := h.db.crash keep torn nb
  have same : ∀ k, k < D0.safe.length → (∀ p ∈ D.pend, p.1 ≠ k) → (D.crash keep torn nb).rd k = D0.rd k := fun k hk hn => by
    refine ext128 (hdc.rd k).2 (hb.rd k).2 fun i hi => ?_
    rw [hrd, hold, ← h.safe]
    exact crash_mix keep torn _ (by omega) D.safe D.pend k i (by rw [h.safe]; exact hk) (fun x => x = (D.safe.getD k noughts).getD i 0) rfl (fun p hp e => absurd e (hn p hp)) _
  have hsec : ∀ p ∈ D.pend, p.1 < 4096 ∨ p.1 = 7679 := fun p hp => by
    rcases h.at_ p hp with h1 | h1
    · exact .inl (secR_some hok h1).2.2
    · exact .inr h1.1
  refine ⟨⟨by rw [hlc, h.safe], fun i => ?_, fun k hk hn => ?_⟩, fun k h1 h2 => ?_⟩
  · rw [hrd, hold, ← h.safe]
    have hS := (hb.rd 7679)
    refine crash_mix keep torn _ (by omega) D.safe D.pend 7679 i (by rw [h.safe]; omega) (fun x => x = (D.safe.getD 7679 noughts).getD i 0 ∨ x = (sealR (D.safe.getD 7679 noughts) R).getD i 0) (.inl rfl) (fun p hp e => ?_) _
    rcases h.at_ p hp with h1 | h1
    · have := (secR_some hok h1).2.2; omega
    · rw [h1.2]
      refine ⟨by rw [sealR_len]; exact hS.2, .inr ?_⟩
      rw [hold, h.safe]
  · refine same k (by omega) fun p hp e => ?_
    rcases h.at_ p hp with h1 | h1
    · rw [e, hn] at h1; cases h1
    · omega
  · refine same k (by omega) fun p hp e => ?_
    rcases hsec p hp with h3 | h3 <;> omega
theorem rd_lastP (D : Dsk) (k : Nat) : (∃ x, (k, x) ∈ D.pend ∧ D.rd k = x) ∨ ((∀ x, (k, x) ∉ D.pend) ∧ D.rd k = D.safe.getD k noughts) := by
  unfold Dsk.rd
  cases hl : lastP D.pend k with
  | some x => exact .inl ⟨x, lastP_mem hl, rfl⟩
  | none => exact .inr ⟨lastP_none hl, rfl⟩
/-- Behind a flush. -/
theorem LayS.flush {D0 D : Dsk} {R : List Sh} (h : LayS D0 D R) (h0 : D0.pend = []) (hok : ∀ q ∈ R, ShOk q) (hlen : 7680 ≤ D0.safe.length) (hs : D.rd 7679 = sealR (D0.rd 7679) R)
    (hdone : ∀ j (h : j < R.length), ∀ t < 8, D.rd (R[j].1.toNat * 8 + t) = partB R[j].2.2 t) : NewD D0 D.flush R ∧ ∀ k, 4096 ≤ k → k < 7679 → D.flush.rd k = D0.rd k := by
  have hold : ∀ k, D0.rd k = D0.safe.getD k noughts := fun k => rd_pend h0 k
  have hfl : ∀ k, k < D0.safe.length → D.flush.rd k = D.rd k := fun k hk => rd_flush (by rw [h.safe]; exact hk)
  have same : ∀ k, (∀ x, (k, x) ∉ D.pend) → D.rd k = D0.rd k := fun k hn => by
    rcases rd_lastP D k with ⟨x, hx, -⟩ | ⟨-, h1⟩
    · exact absurd hx (hn x)
    · rw [h1, hold, h.safe]
  refine ⟨⟨by simp [Dsk.flush, sets_len, h.safe], by rw [hfl _ (by omega)]; exact hs, fun k hk => ?_⟩, fun k h1 h2 => ?_⟩
  · rw [hfl _ (by omega)]
    cases hx : secR R k with
    | some x =>
      obtain ⟨j, hj, h2, rfl⟩ := secR_ex hx
      have := hdone j hj (k % 8) (Nat.mod_lt _ (by omega))
      rw [h2, show k / 8 * 8 + k % 8 = k by omega] at this
      exact this
    | none =>
      refine same k fun x hm => ?_
      rcases h.at_ _ hm with h1 | h1
      · rw [hx] at h1; cases h1
      · omega
  · rw [hfl _ (by omega)]
    refine same k fun x hm => ?_
    rcases h.at_ _ hm with h3 | h3
    · have := (secR_some hok h3).2.2; omega
    · omega
end Go.Proofs.Ythbabdjicplooaa
