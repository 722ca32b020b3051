/- package pages, the plain law: what pages are there. Conditions: none. -/
import Derived.Test.YthbabdjicplooaaPageH
namespace Go.Proofs.Ythbabdjicplooaa
open Go.RowKit

/-- A list of sheets that is put. -/
structure Shs (R : List Sh) : Prop where
  ok : ∀ q ∈ R, ShOk q
  nd : (R.map (fun q => q.1.toNat)).Nodup
  len : R.length ≤ 256
def updR (m : Nat → List Int) : List Sh → Nat → List Int
  | [], n => m n
  | q :: R, n => if q.1.toNat = n then q.2.2 else updR m R n
theorem updR_not {m : Nat → List Int} {n : Nat} : ∀ {R : List Sh}, (∀ q ∈ R, q.1.toNat ≠ n) → updR m R n = m n
  | [], _ => rfl
  | q :: R, h => by rw [updR, if_neg (h q (List.mem_cons_self ..))]; exact updR_not fun x hx => h x (List.mem_cons_of_mem _ hx)
theorem updR_in {m : Nat → List Int} {n : Nat} : ∀ {R : List Sh}, (R.map (fun q => q.1.toNat)).Nodup → ∀ q ∈ R, q.1.toNat = n → updR m R n = q.2.2
  | [], _, q, hq, _ => by cases hq
  | p :: R, hd, q, hq, hn => by
    rw [List.map_cons, List.nodup_cons] at hd
    rw [updR]
    rcases List.mem_cons.1 hq with rfl | hq
    · rw [if_pos hn]
    · rw [if_neg (fun e => hd.1 (List.mem_map.2 ⟨q, hq, by rw [hn, e]⟩))]
      exact updR_in hd.2 q hq hn
def pageOf (D : Dsk) (n : Nat) : List Int := pageD D (D.rd 7679) n
structure PSt (D : Dsk) (L : LogV) (e : Nat) : Prop where
  inv : Inv D L
  from_ : L.from_ = 4096
  count : L.count = 3583
  len : 7680 ≤ D.safe.length
  ep : L.epoch ≤ e
  title : (D.rd 7679).take 5 = titleL
theorem PSt.base {D : Dsk} {L : LogV} {e : Nat} (h : PSt D L e) (he : e < 200) : PBase D L := ⟨h.inv, h.from_, h.count, h.len, by have := h.ep; omega⟩
structure Clean (D : Dsk) (L : LogV) (e : Nat) (m : Nat → List Int) : Prop where
  st : PSt D L e
  recs : L.recs = []
  pg : ∀ n, n < 512 → pageOf D n = m n
structure Logged (D : Dsk) (L : LogV) (e : Nat) (m : Nat → List Int) (R : List Sh) : Prop where
  st : PSt D L e
  recs : L.recs = [recS R]
  pg : ∀ n, n < 512 → (∀ q ∈ R, q.1.toNat ≠ n) → pageOf D n = m n
/-- What a disk may be behind a crash in the midst of a Put. -/
def After (D : Dsk) (e : Nat) (m : Nat → List Int) (R : List Sh) : Prop := (∃ L, Clean D L e m) ∨ (∃ L, Logged D L e m R) ∨ (∃ L, Clean D L e (updR m R))

theorem take5 {xs ys : List Int} (hx : xs.length = 128) (hy : ys.length = 128) (h : ∀ i, i < 5 → xs.getD i 0 = ys.getD i 0) : xs.take 5 = ys.take 5 := by
  apply List.ext_getElem (by rw [List.length_take, List.length_take]; omega)
  intro i h1 h2
  rw [List.length_take] at h1
  have := h i (by omega)
  rw [List.getElem_take, List.getElem_take]
  simpa [List.getD_eq_getElem?_getD, List.getElem?_eq_getElem (show i < xs.length by omega), List.getElem?_eq_getElem (show i < ys.length by omega)] using this
theorem sealR_low {S : List Int} (h : InB S) (hl : S.length = 128) {i : Nat} (hi : i < 5) : ∀ {R : List Sh}, (∀ q ∈ R, ShOk q) → (sealR S R).getD i 0 = S.getD i 0 := by
  intro R hk
  induction R generalizing S with
  | nil => rfl
  | cons q R ih =>
    have hq := hk q (List.mem_cons_self ..)
    have h1 := hq.n1
    show (sealR (setB S q.1.toNat) R).getD i 0 = _
    rw [ih (setB_in h _) ((setB_len _ _).trans hl) fun x hx => hk x (List.mem_cons_of_mem _ hx), setB_get S _ _ hl (by have := hq.n0; omega), if_neg (by omega)]
theorem sealR_bit {S : List Int} (h : InB S) (hl : S.length = 128) (n : Nat) : ∀ {R : List Sh}, (∀ q ∈ R, ShOk q) → bitS (sealR S R) n = (decide (∃ q ∈ R, q.1.toNat = n) || bitS S n) := by
  intro R hk
  induction R generalizing S with
  | nil => simp [sealR]
  | cons q R ih =>
    have hq := hk q (List.mem_cons_self ..)
    have h1 := hq.n1
    have h0 := hq.n0
    show bitS (sealR (setB S q.1.toNat) R) n = _
    rw [ih (setB_in h _) ((setB_len _ _).trans hl) fun x hx => hk x (List.mem_cons_of_mem _ hx), bitS_set h hl (by omega)]
    by_cases h2 : q.1.toNat = n
    · simp [h2]
    · rw [decide_eq_false h2, Bool.false_or]
      congr 1
      refine decide_eq_decide.2 ⟨fun ⟨x, hx, e⟩ => ⟨x, List.mem_cons_of_mem _ hx, e⟩, fun ⟨x, hx, e⟩ => ?_⟩
      rcases List.mem_cons.1 hx with rfl | hx
      · exact absurd e h2
      · exact ⟨x, hx, e⟩
theorem parts_all {b : List Int} (h : b.length = 1024) : ((List.range 8).flatMap fun k => partB b k) = b := by
  have e : ∀ k, (List.range k).flatMap (fun k => partB b k) = b.take (k * 128) := fun k => by
    induction k with
    | zero => simp
    | succ k ih =>
      rw [List.range_succ, List.flatMap_append, ih]
      simp only [List.flatMap_cons, List.flatMap_nil, List.append_nil, partB]
      rw [show (k + 1) * 128 = k * 128 + 128 by omega, List.take_add]
  rw [e 8, List.take_of_length_le (by omega)]
theorem fm_congr {α β : Type} {f g : α → List β} : ∀ {l : List α}, (∀ x ∈ l, f x = g x) → l.flatMap f = l.flatMap g
  | [], _ => rfl
  | x :: l, h => by rw [List.flatMap_cons, List.flatMap_cons, h x (List.mem_cons_self ..), fm_congr fun y hy => h y (List.mem_cons_of_mem _ hy)]
theorem catD_same {D E : Dsk} {n : Nat} (h : ∀ k, k < 8 → E.rd (n * 8 + k) = D.rd (n * 8 + k)) : catD E n 8 = catD D n 8 := by
  unfold catD
  have : ∀ j ∈ List.range 8, E.rd (n * 8 + j) = D.rd (n * 8 + j) := fun j hj => h j (List.mem_range.1 hj)
  exact fm_congr this
theorem NewD.pages {D E : Dsk} {R : List Sh} {m : Nat → List Int} (h : NewD D E R) (hb : DB D) (hR : Shs R) (hm : ∀ n, n < 512 → (∀ q ∈ R, q.1.toNat ≠ n) → pageOf D n = m n) : ∀ n, n < 512 → pageOf E n = updR m R n := by
  intro n hn
  have hS := hb.rd 7679
  unfold pageOf pageD
  rw [h.sea, sealR_bit hS.1 hS.2 n hR.ok]
  by_cases hin : ∃ q ∈ R, q.1.toNat = n
  · obtain ⟨q, hq, hqn⟩ := hin
    rw [updR_in hR.nd q hq hqn]
    have hd : decide (∃ q ∈ R, q.1.toNat = n) = true := decide_eq_true ⟨q, hq, hqn⟩
    rw [hd, Bool.true_or, if_pos rfl]
    obtain ⟨j, hj, rfl⟩ := List.getElem_of_mem hq
    rw [← parts_all (hR.ok _ hq).len]
    unfold catD
    refine fm_congr fun k hk => ?_
    have hk8 := List.mem_range.1 hk
    rw [h.sec _ (by omega), ← hqn, secR_at hR.nd hj hk8]; rfl
  · have hno : ∀ q ∈ R, q.1.toNat ≠ n := fun q hq e => hin ⟨q, hq, e⟩
    rw [updR_not hno, ← hm n hn hno, decide_eq_false hin, Bool.false_or]
    unfold pageOf pageD
    rw [catD_same (D := D) (E := E) fun k hk => by rw [h.sec _ (by omega), secR_not fun q hq => by rw [show (n * 8 + k) / 8 = n by omega]; exact hno q hq]; rfl]
theorem MidD.pages {D E : Dsk} {R : List Sh} {m : Nat → List Int} (h : MidD D E R) (hb : DB D) (hR : Shs R) (hm : ∀ n, n < 512 → (∀ q ∈ R, q.1.toNat ≠ n) → pageOf D n = m n) : ∀ n, n < 512 → (∀ q ∈ R, q.1.toNat ≠ n) → pageOf E n = m n := by
  intro n hn hno
  have hS := hb.rd 7679
  have hbit : bitS (E.rd 7679) n = bitS (D.rd 7679) n := by
    have h2 := sealR_bit hS.1 hS.2 n hR.ok
    rw [decide_eq_false (fun ⟨q, hq, e⟩ => hno q hq e), Bool.false_or] at h2
    rcases h.sea (5 + n / 8) with h1 | h1
    · unfold bitS; rw [h1]
    · rw [← h2]; unfold bitS; rw [h1]
  rw [← hm n hn hno]
  unfold pageOf pageD
  rw [hbit, catD_same (D := D) (E := E) fun k hk => h.sec _ (by omega) (secR_not fun q hq => by rw [show (n * 8 + k) / 8 = n by omega]; exact hno q hq)]
theorem MidD.title {D E : Dsk} {R : List Sh} (h : MidD D E R) (hb : DB D) (hE : DB E) (hR : Shs R) (ht : (D.rd 7679).take 5 = titleL) : (E.rd 7679).take 5 = titleL := by
  have hS := hb.rd 7679
  rw [← ht]
  refine take5 (hE.rd 7679).2 hS.2 fun i hi => ?_
  rcases h.sea i with h1 | h1
  · exact h1
  · rw [h1, sealR_low hS.1 hS.2 hi hR.ok]
theorem Rest.pages {D E : Dsk} {L : LogV} (h : Rest D E L) (hf : L.from_ = 4096) (hc : L.count = 3583) (hl : 7680 ≤ D.safe.length) : E.rd 7679 = D.rd 7679 ∧ ∀ n, n < 512 → pageOf E n = pageOf D n := by
  have h1 : E.rd 7679 = D.rd 7679 := h.2 _ (by omega) (by omega)
  refine ⟨h1, fun n hn => ?_⟩
  unfold pageOf pageD
  rw [h1, catD_same (D := D) (E := E) fun k hk => h.2 _ (by omega) (by omega)]
/-- What a lay leaves of a store. -/
theorem LayW.new {D D' : Dsk} {L : LogV} {R : List Sh} {e : Nat} {m : Nat → List Int} {r : Int} (h : LayW D D' L R r) (hs : PSt D L e) (hR : Shs R) (hm : ∀ n, n < 512 → (∀ q ∈ R, q.1.toNat ≠ n) → pageOf D n = m n) (h0 : r = 0) : Clean D' (clearL L) (e + 1) (updR m R) := by
  have h1 := h.ok h0
  refine ⟨⟨h1.1, hs.from_, hs.count, by rw [h1.2.len]; exact hs.len, by have := hs.ep; show L.epoch + 1 ≤ ((e + 1 : Nat) : Int); omega, h1.2.mid.title hs.inv.db h1.1.db hR hs.title⟩, rfl, h1.2.pages hs.inv.db hR hm⟩
theorem LayW.after {D D' : Dsk} {L : LogV} {R : List Sh} {e : Nat} {m : Nat → List Int} {r : Int} (h : LayW D D' L R r) (hs : PSt D L e) (hrec : L.recs = [recS R]) (hR : Shs R) (hm : ∀ n, n < 512 → (∀ q ∈ R, q.1.toNat ≠ n) → pageOf D n = m n) (h13 : r = 13) (keep : List Bool) (torn nb : Int) : After (D'.crash keep torn nb) (e + 1) m R := by
  rcases h.no h13 keep torn nb with ⟨h1, h2⟩ | ⟨h1, h2⟩
  · exact .inr (.inl ⟨L, ⟨h1, hs.from_, hs.count, by rw [h2.len]; exact hs.len, by have := hs.ep; omega, h2.title hs.inv.db h1.db hR hs.title⟩, hrec, h2.pages hs.inv.db hR hm⟩)
  · exact .inr (.inr ⟨clearL L, ⟨h1, hs.from_, hs.count, by rw [h2.len]; exact hs.len, by have := hs.ep; show L.epoch + 1 ≤ ((e + 1 : Nat) : Int); omega, h2.mid.title hs.inv.db h1.db hR hs.title⟩, rfl, h2.pages hs.inv.db hR hm⟩)
theorem PSt.crash {D : Dsk} {L : LogV} {e : Nat} (h : PSt D L e) (keep : List Bool) (torn nb : Int) : PSt (D.crash keep torn nb) L e ∧ ∀ n, n < 512 → pageOf (D.crash keep torn nb) n = pageOf D n := by
  have hl := (crash_len D keep torn nb).1
  have hsame : ∀ k, k < D.safe.length → (D.crash keep torn nb).rd k = D.rd k := fun k hk => crash_same h.inv.pend keep torn nb hk
  have h7 := hsame 7679 (by have := h.len; omega)
  refine ⟨⟨h.inv.crash keep torn nb, h.from_, h.count, by rw [hl]; exact h.len, h.ep, by rw [h7]; exact h.title⟩, fun n hn => ?_⟩
  unfold pageOf pageD
  rw [h7, catD_same (D := D) (E := D.crash keep torn nb) fun k hk => hsame _ (by have := h.len; omega)]
theorem PSt.stopped {D : Dsk} {L : LogV} {e : Nat} (h : PSt D L e) (o : Option Nat) : PSt { D with left := o } L e := ⟨h.inv.stopped o, h.from_, h.count, h.len, h.ep, h.title⟩
theorem PSt.up {D : Dsk} {L : LogV} {e : Nat} (h : PSt D L e) : PSt D L (e + 1) := ⟨h.inv, h.from_, h.count, h.len, by have := h.ep; omega, h.title⟩
theorem After.crash {D : Dsk} {e : Nat} {m : Nat → List Int} {R : List Sh} (h : After D e m R) (keep : List Bool) (torn nb : Int) : After (D.crash keep torn nb) e m R := by
  rcases h with ⟨L, h⟩ | ⟨L, h⟩ | ⟨L, h⟩
  · have := h.st.crash keep torn nb
    exact .inl ⟨L, this.1, h.recs, fun n hn => (this.2 n hn).trans (h.pg n hn)⟩
  · have := h.st.crash keep torn nb
    exact .inr (.inl ⟨L, this.1, h.recs, fun n hn hno => (this.2 n hn).trans (h.pg n hn hno)⟩)
  · have := h.st.crash keep torn nb
    exact .inr (.inr ⟨L, this.1, h.recs, fun n hn => (this.2 n hn).trans (h.pg n hn)⟩)
theorem After.stopped {D : Dsk} {e : Nat} {m : Nat → List Int} {R : List Sh} (h : After D e m R) (o : Option Nat) : After { D with left := o } e m R := by
  rcases h with ⟨L, h⟩ | ⟨L, h⟩ | ⟨L, h⟩
  · exact .inl ⟨L, h.st.stopped o, h.recs, h.pg⟩
  · exact .inr (.inl ⟨L, h.st.stopped o, h.recs, h.pg⟩)
  · exact .inr (.inr ⟨L, h.st.stopped o, h.recs, h.pg⟩)
theorem After.up {D : Dsk} {e : Nat} {m : Nat → List Int} {R : List Sh} (h : After D e m R) : After D (e + 1) m R := by
  rcases h with ⟨L, h⟩ | ⟨L, h⟩ | ⟨L, h⟩
  · exact .inl ⟨L, h.st.up, h.recs, h.pg⟩
  · exact .inr (.inl ⟨L, h.st.up, h.recs, h.pg⟩)
  · exact .inr (.inr ⟨L, h.st.up, h.recs, h.pg⟩)
end Go.Proofs.Ythbabdjicplooaa
