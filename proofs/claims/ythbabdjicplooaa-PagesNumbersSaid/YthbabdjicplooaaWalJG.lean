/- package wal's plain law, fifth part: a log on a disk, as it must be; Open finds it; what a commit, a clear, a crash make of it. Conditions: epochs below 250. -/
import Derived.Test.YthbabdjicplooaaWalVG
namespace Go.Proofs.Ythbabdjicplooaa
open Go.RowKit

/-- What a body's sector may say while the epoch ep holds: whole parts bear no later number than m. -/
def Gs (b : List Int) (ep : Int) (m : Nat) : Prop := b.getD 127 0 = 1 → (∀ i, i < 7 → b.getD i 0 = 0) ∧ (b.getD 7 0 < ep ∨ (b.getD 7 0 = ep ∧ ofBE ((b.drop 8).take 4) ≤ m))
theorem gs_noughts (ep : Int) (m : Nat) : Gs noughts ep m := fun h => by rw [noughts_get] at h; cases h
theorem Gs.mono {b : List Int} {ep : Int} {m m' : Nat} (h : Gs b ep m) (hm : m ≤ m') : Gs b ep m' := fun h1 => ⟨(h h1).1, (h h1).2.imp id fun ⟨h2, h3⟩ => ⟨h2, by omega⟩⟩
theorem Gs.next {b : List Int} {ep : Int} {m : Nat} (h : Gs b ep m) {ep' : Int} (he : ep < ep') (m' : Nat) : Gs b ep' m' := fun h1 => ⟨(h h1).1, .inl (by rcases (h h1).2 with h2 | ⟨h2, -⟩ <;> omega)⟩
theorem take20 {b lab : List Int} (h : b.take 20 = lab) (i : Nat) (hi : i < 20) : b.getD i 0 = lab.getD i 0 := by
  rw [← h]
  simp [List.getD_eq_getElem?_getD, List.getElem?_take, hi]
theorem label_get (L : LogV) (h0 : 0 ≤ L.epoch) (h1 : L.epoch < 256) (s p : Nat) : (∀ i, i < 7 → (labelL L s p).getD i 0 = 0) ∧ (labelL L s p).getD 7 0 = L.epoch := by
  rw [labelL_small L h0 h1]
  constructor
  · intro i h2
    have : i = 0 ∨ i = 1 ∨ i = 2 ∨ i = 3 ∨ i = 4 ∨ i = 5 ∨ i = 6 := by omega
    rcases this with rfl | rfl | rfl | rfl | rfl | rfl | rfl <;> rfl
  · rfl
theorem label_number {b : List Int} {L : LogV} {s p : Nat} (h : b.take 20 = labelL L s p) (hr : L.recs.length < 4294967295) : ofBE ((b.drop 8).take 4) = L.recs.length + 1 := by
  have e : (b.drop 8).take 4 = beL ((L.recs.length + 1 : Nat) : Int) 4 := by
    have : (b.drop 8).take 4 = ((b.take 20).drop 8).take 4 := by rw [List.drop_take, List.take_take]; rfl
    rw [this, h]
    unfold labelL
    simp only [List.append_assoc]
    rw [List.drop_left' (beL_len _ _), List.take_left' (beL_len _ _)]
  rw [e, ofBE_beL 4 _ (by omega) (by simp; omega)]
  omega
/-- A whole part of the next record bears its number. -/
theorem gs_ok {b : List Int} {L : LogV} {s p m : Nat} (h : okS b (labelL L s p)) (hg : Gs b L.epoch m) (h0 : 0 ≤ L.epoch) (h1 : L.epoch < 256) (hr : L.recs.length < 4294967295) : L.recs.length + 1 ≤ m := by
  rcases (hg h.1).2 with h2 | ⟨-, h2⟩
  · rw [take20 h.2 7 (by omega), (label_get L h0 h1 s p).2] at h2; omega
  · rw [label_number h.2 hr] at h2; omega
theorem gs_part (L : LogV) (b : List Int) (p : Nat) (h0 : 0 ≤ L.epoch) (h1 : L.epoch < 256) (hr : L.recs.length < 4294967295) : Gs (partS L b p) L.epoch (L.recs.length + 1) := fun _ => by
  have ht := partS_take L b p
  have hl := label_get L h0 h1 b.length p
  refine ⟨fun i hi => by rw [take20 ht i (by omega)]; exact hl.1 i hi, .inr ⟨by rw [take20 ht 7 (by omega)]; exact hl.2, ?_⟩⟩
  rw [label_number ht hr]; omega
theorem gs_torn {b : List Int} {ep : Int} {m nb : Nat} (h : Gs b ep m) (hep : 0 < ep) (hn : nb ≤ 128) : Gs (tornL b noughts nb) ep m := fun h1 => by
  rw [tornL_get noughts_len hn] at h1
  split at h1
  · rw [noughts_get] at h1; cases h1
  · obtain ⟨hz, h7⟩ := h h1
    refine ⟨fun i hi => ?_, ?_⟩
    · rw [tornL_get noughts_len hn]
      split
      · exact noughts_get i
      · exact hz i hi
    · rw [tornL_get noughts_len hn]
      split
      · rw [noughts_get]; exact .inl hep
      · have e : (tornL b noughts nb).drop 8 = b.drop 8 := by
          unfold tornL
          have hl : (noughts.take nb).length = nb := by rw [List.length_take, noughts_len]; omega
          rw [List.drop_append, List.drop_of_length_le (by omega), List.nil_append, hl, List.drop_drop]
          congr 1
          omega
        rw [e]; exact h7
/-- A sector that is blanked, torn, and yet a whole part of the next record, is as it was. -/
theorem torn_ok {b : List Int} {L : LogV} {s p m nb : Nat} (hb : b.length = 128) (h : Gs b L.epoch m) (h0 : 0 < L.epoch) (h1 : L.epoch < 256) (hn : nb ≤ 128) (ho : okS (tornL b noughts nb) (labelL L s p)) : tornL b noughts nb = b := by
  have h127 := ho.1
  have h7 := take20 ho.2 7 (by omega)
  rw [(label_get L (by omega) h1 s p).2, tornL_get noughts_len hn] at h7
  rw [tornL_get noughts_len hn] at h127
  split at h7
  · rw [noughts_get] at h7; omega
  · split at h127
    · rw [noughts_get] at h127; cases h127
    · have hz := (h h127).1
      refine ext128 (by rw [tornL, List.length_append, List.length_take, List.length_drop, noughts_len, hb]; omega) hb fun i hi => ?_
      rw [tornL_get noughts_len hn]
      split
      · rw [noughts_get, hz i (by omega)]
      · rfl
/-- A part that is torn over noughts is none, or whole. -/
theorem part_torn {x : List Int} {nb : Nat} (hx : x.length = 128) (hn : nb ≤ 128) : tornL noughts x nb = x ∨ (tornL noughts x nb).getD 127 0 = 0 := by
  by_cases h : nb = 128
  · subst h
    left
    unfold tornL
    rw [List.take_of_length_le (by omega), List.drop_of_length_le (by rw [noughts_len]; exact Nat.le_refl _), List.append_nil]
  · right
    rw [tornL_get hx hn, if_neg (by omega), noughts_get]

/-- The records that lie behind one another, and none behind them. -/
def Laid (D : Dsk) : LogV → List (List Int) → Prop
  | L, [] => readD D L = none
  | L, b :: bs => readD D L = some b ∧ Laid D (commitL L b) bs
def runL (L : LogV) (bs : List (List Int)) : LogV := bs.foldl commitL L
theorem openGo_laid (D : Dsk) : ∀ (bs : List (List Int)) (L : LogV) (r : Nat), Laid D L bs → bs.length ≤ r → openGo D r L = runL L bs
  | [], L, 0, _, _ => rfl
  | [], L, r + 1, h, _ => by unfold openGo; rw [show readD D L = none from h]; rfl
  | b :: bs, L, 0, _, hr => by simp at hr
  | b :: bs, L, r + 1, h, hr => by
    unfold openGo
    rw [h.1]
    exact openGo_laid D bs (commitL L b) r h.2 (by simpa using hr)
theorem laid_end (D : Dsk) : ∀ (bs : List (List Int)) (L : LogV), Laid D L bs → readD D (runL L bs) = none
  | [], L, h => h
  | b :: bs, L, h => laid_end D bs (commitL L b) h.2
theorem run_keep : ∀ (bs : List (List Int)) (L : LogV), (runL L bs).from_ = L.from_ ∧ (runL L bs).count = L.count ∧ (runL L bs).epoch = L.epoch ∧ (runL L bs).slot = L.slot ∧ L.next ≤ (runL L bs).next
  | [], L => ⟨rfl, rfl, rfl, rfl, Nat.le_refl _⟩
  | b :: bs, L => by
    obtain ⟨h1, h2, h3, h4, h5⟩ := run_keep bs (commitL L b)
    exact ⟨h1, h2, h3, h4, Nat.le_trans (Nat.le_add_right _ _) h5⟩
theorem run_snoc (L : LogV) (bs : List (List Int)) (b : List Int) : runL L (bs ++ [b]) = commitL (runL L bs) b := by simp [runL]
theorem laid_move {D D' : Dsk} (hb : DB D) (cs : List (List Int)) : ∀ (bs : List (List Int)) (L : LogV), Laid D L bs → (∀ k, atL L ≤ k → k < atL (runL L bs) → D'.rd k = D.rd k) → Laid D' (runL L bs) cs → Laid D' L (bs ++ cs)
  | [], L, _, _, h => h
  | b :: bs, L, hl, he, h => by
    have hk := run_keep bs (commitL L b)
    have ha : atL L + partsN b.length ≤ atL (runL (commitL L b) bs) := by
      unfold atL
      rw [hk.1]
      have : (commitL L b).next = L.next + partsN b.length := rfl
      have : (commitL L b).from_ = L.from_ := rfl
      omega
    refine ⟨readD_congr hb hl.1 fun p hp => he _ (by omega) (by show _ < atL (runL (commitL L b) bs); omega), ?_⟩
    refine laid_move hb cs bs (commitL L b) hl.2 (fun k h1 h2 => he k (by
      have : atL (commitL L b) = atL L + partsN b.length := by unfold atL; show L.from_ + 2 + (L.next + partsN b.length) = _; omega
      omega) h2) h
end Go.Proofs.Ythbabdjicplooaa

/- package wal's plain law, sixth part: the invariant; Open, Commit, Clear, crashes. Conditions: epochs below 250, fewer than 8193 sectors. -/
namespace Go.Proofs.Ythbabdjicplooaa
open Go.RowKit

structure Inv (D : Dsk) (L : LogV) : Prop where
  pend : D.pend = []
  db : DB D
  ep : 1 ≤ L.epoch ∧ L.epoch < 250
  sl : L.slot < 2
  fit : L.from_ + L.count ≤ D.safe.length
  len : D.safe.length ≤ 8192
  four : 4 ≤ L.count
  head : D.rd (L.from_ + L.slot) = headL L.epoch
  oth : Oth (D.rd (L.from_ + (1 - L.slot))) L.epoch
  cur : runL { L with next := 0, recs := [] } L.recs = L
  laid : Laid D { L with next := 0, recs := [] } L.recs
  gs : ∀ k, L.from_ + 2 ≤ k → k < L.from_ + L.count → Gs (D.rd k) L.epoch (L.recs.length + 1)
  nx : L.next + 2 ≤ L.count
  rl : L.recs.length ≤ L.next
  inl : InL L.recs
theorem Inv.ok {D : Dsk} {L : LogV} (h : Inv D L) : LogOk L :=
  ⟨by have := h.fit; have := h.len; omega, by have := h.fit; have := h.len; have := h.nx; omega, by have := h.fit; have := h.len; have := h.nx; have := h.rl; omega, by have := h.ep; omega⟩
theorem Inv.ends {D : Dsk} {L : LogV} (h : Inv D L) : readD D L = none := by
  have := laid_end D L.recs _ h.laid
  rwa [h.cur] at this
theorem Inv.held {D : Dsk} {L : LogV} (h : Inv D L) : epD D L.from_ = L.epoch ∧ (heldD D L.from_).2.2 = L.slot := by
  have he := epochAt_head h.ep.1 (by have := h.ep; omega)
  have ho := epochAt_oth h.oth (h.db.rd _) (by have := h.ep; omega)
  have h1 := h.head
  have hs := h.sl
  have hc : L.slot = 0 ∨ L.slot = 1 := by omega
  rcases hc with h2 | h2
  · rw [h2, Nat.add_zero] at h1
    rw [h2] at ho
    simp only [Nat.sub_zero] at ho
    have hh : heldD D L.from_ = (L.epoch, epochAt (D.rd (L.from_ + 1)), 0) := by
      unfold heldD
      rw [h1, he, if_neg (by omega)]
    unfold epD
    rw [hh]
    exact ⟨rfl, h2.symm⟩
  · rw [h2] at h1 ho
    simp only [Nat.sub_self, Nat.add_zero] at ho
    have hh : heldD D L.from_ = (epochAt (D.rd L.from_), L.epoch, 1) := by
      unfold heldD
      rw [h1, he, if_pos (by omega)]
    unfold epD
    rw [hh]
    exact ⟨rfl, h2.symm⟩
theorem Inv.open {D : Dsk} {L : LogV} (h : Inv D L) : openD D L.from_ L.count = some L := by
  have hh := h.held
  unfold openD
  rw [hh.1, hh.2, if_neg (by have := h.ep; omega)]
  congr 1
  have := openGo_laid D L.recs _ L.count h.laid (by have := h.rl; have := h.nx; omega)
  rw [h.cur] at this
  exact this
/-- The log is as it was, if what lies behind it is no record. -/
theorem Inv.move {D C : Dsk} {L : LogV} (h : Inv D L) (hp : C.pend = []) (hb : DB C) (hl : C.safe.length = D.safe.length) (ho : ∀ k, k < D.safe.length → ¬ (atL L ≤ k ∧ k < L.from_ + L.count) → C.rd k = D.rd k)
    (hg : ∀ k, atL L ≤ k → k < L.from_ + L.count → Gs (C.rd k) L.epoch (L.recs.length + 1)) (hn : readD C L = none) : Inv C L := by
  have hf := h.fit
  have hnx := h.nx
  have hs := h.sl
  have hat : atL L = L.from_ + 2 + L.next := rfl
  refine ⟨hp, hb, h.ep, h.sl, by rw [hl]; exact hf, by rw [hl]; exact h.len, h.four, ?_, ?_, h.cur, ?_, ?_, h.nx, h.rl, h.inl⟩
  · rw [ho _ (by have := h.four; omega) (by omega)]; exact h.head
  · rw [ho _ (by have := h.four; omega) (by omega)]; exact h.oth
  · have := laid_move (D' := C) h.db [] L.recs _ h.laid (fun k h1 h2 => ho k (by rw [h.cur] at h2; omega) (by rw [h.cur] at h2; omega)) (by rw [h.cur]; exact hn)
    rwa [List.append_nil] at this
  · intro k h1 h2
    by_cases hk : atL L ≤ k
    · exact hg k hk h2
    · rw [ho k (by omega) (by omega)]; exact h.gs k h1 h2
/-- The log with one record more, if its parts lie behind it. -/
theorem Inv.add {D C : Dsk} {L : LogV} {b : List Int} (h : Inv D L) (hb0 : 0 < b.length) (hbb : InB b) (hbr : b.length ≤ roomL L) (hp : C.pend = []) (hb : DB C) (hl : C.safe.length = D.safe.length)
    (ho : ∀ k, k < D.safe.length → ¬ (atL L ≤ k ∧ k < atL L + partsN b.length) → C.rd k = D.rd k) (hps : ∀ j, j < partsN b.length → C.rd (atL L + j) = partS L b j) : Inv C (commitL L b) := by
  have hf := h.fit
  have hnx := h.nx
  have hs := h.sl
  have hlen := h.len
  have hrl := h.rl
  have hep := h.ep
  have hat : atL L = L.from_ + 2 + L.next := rfl
  have hp0 : 0 < partsN b.length := by unfold partsN; omega
  have hpn : L.next + 2 + partsN b.length ≤ L.count := by unfold roomL at hbr; unfold partsN; omega
  have hb32 : b.length < 4294967296 := by unfold roomL at hbr; omega
  have hread := readD_parts hb0 hbr hb32 hps
  have hgs : ∀ k, L.from_ + 2 ≤ k → k < L.from_ + L.count → Gs (C.rd k) L.epoch (L.recs.length + 1) := fun k h1 h2 => by
    by_cases hk : atL L ≤ k ∧ k < atL L + partsN b.length
    · have := hps (k - atL L) (by omega)
      rw [show atL L + (k - atL L) = k by omega] at this
      rw [this]
      exact gs_part L b _ (by omega) (by omega) (by omega)
    · rw [ho k (by omega) hk]; exact h.gs k h1 h2
  have hnone : readD C (commitL L b) = none := by
    cases hc : readD C (commitL L b) with
    | none => rfl
    | some x =>
      exfalso
      obtain ⟨h1, h2, -, h4⟩ := readD_some hb hc
      have hq := h4 0 (by unfold partsN; omega)
      have hin : atL (commitL L b) + 0 < L.from_ + L.count := by
        have : roomL (commitL L b) = (L.count - 2 - (L.next + partsN b.length)) * 107 := rfl
        show L.from_ + 2 + (L.next + partsN b.length) + 0 < _
        omega
      have := gs_ok (m := L.recs.length + 1) hq (hgs _ (by show L.from_ + 2 ≤ L.from_ + 2 + (L.next + partsN b.length) + 0; omega) hin) (by show 0 ≤ L.epoch; omega) (by show L.epoch < 256; omega) (by show (L.recs ++ [b]).length < _; simp; omega)
      have h5 : (commitL L b).recs.length = L.recs.length + 1 := by show (L.recs ++ [b]).length = _; simp
      omega
  refine ⟨hp, hb, h.ep, h.sl, by rw [hl]; exact hf, by rw [hl]; exact h.len, h.four, ?_, ?_, ?_, ?_, ?_, ?_, ?_, ?_⟩
  · show C.rd (L.from_ + L.slot) = _
    rw [ho _ (by have := h.four; omega) (by omega)]; exact h.head
  · show Oth (C.rd (L.from_ + (1 - L.slot))) _
    rw [ho _ (by have := h.four; omega) (by omega)]; exact h.oth
  · show runL { L with next := 0, recs := [] } (L.recs ++ [b]) = _
    rw [run_snoc, h.cur]
  · show Laid C { L with next := 0, recs := [] } (L.recs ++ [b])
    refine laid_move h.db [b] L.recs _ h.laid (fun k h1 h2 => ho k (by rw [h.cur] at h2; omega) (by rw [h.cur] at h2; omega)) ?_
    rw [h.cur]
    exact ⟨hread, hnone⟩
  · intro k h1 h2
    refine (hgs k h1 h2).mono ?_
    show _ ≤ (L.recs ++ [b]).length + 1
    simp
  · show L.next + partsN b.length + 2 ≤ L.count
    omega
  · show (L.recs ++ [b]).length ≤ L.next + partsN b.length
    simp; omega
  · intro x hx
    rcases List.mem_append.1 hx with hx | hx
    · exact h.inl x hx
    · rw [List.mem_singleton.1 hx]; exact ⟨fun e => by rw [e] at hb0; simp at hb0, hbb⟩
/-- What a call leaves of the rest of the disk. -/
def Rest (D C : Dsk) (L : LogV) : Prop := C.safe.length = D.safe.length ∧ ∀ k, k < D.safe.length → (k < L.from_ ∨ L.from_ + L.count ≤ k) → C.rd k = D.rd k
theorem commit_inv {D : Dsk} {L : LogV} (h : Inv D L) {b : List Int} (hb0 : 0 < b.length) (hbb : InB b) (hbr : b.length ≤ roomL L) :
    ((commitD D L b).1 = 0 ∧ Inv (commitD D L b).2 (commitL L b) ∧ Rest D (commitD D L b).2 L) ∨
    ((commitD D L b).1 = 13 ∧ ∀ keep torn nb, (Inv ((commitD D L b).2.crash keep torn nb) L ∨ Inv ((commitD D L b).2.crash keep torn nb) (commitL L b)) ∧ Rest D ((commitD D L b).2.crash keep torn nb) L) := by
  have hf := h.fit
  have hnx := h.nx
  have hlen := h.len
  have hep := h.ep
  have hrl := h.rl
  have hat : atL L = L.from_ + 2 + L.next := rfl
  have hp0 : 0 < partsN b.length := by unfold partsN; omega
  have hpn : L.next + 2 + partsN b.length ≤ L.count := by unfold roomL at hbr; unfold partsN; omega
  have hB := blank_up h.pend (atL L) (partsN b.length) 0 D false (Up.zero h.pend _ _ _) (fun _ => h.pend) (fun k h1 h2 => by omega) (by omega)
  have hK := blank_keep (atL L) (partsN b.length) 0 D false h.db
  unfold commitD
  rw [if_neg (by omega), if_neg (by omega)]
  generalize blankGo D (atL L) false (partsN b.length) 0 = B at *
  rw [Nat.add_zero] at hB
  rcases hB with ⟨h1, hu⟩ | ⟨h1, hpd, hsl, hrd⟩
  · rw [if_neg (by omega)]
    refine .inr ⟨h1, fun keep torn nb => ?_⟩
    have hc := fun k (hk : k < D.safe.length) => hu.crash h.pend keep torn nb hk
    have hdb := hK.1.crash keep torn nb
    have hcl : (B.2.crash keep torn nb).safe.length = D.safe.length := by rw [(crash_len _ _ _ _).1, hK.2.1]
    have hcp : (B.2.crash keep torn nb).pend = [] := rfl
    generalize B.2.crash keep torn nb = C at *
    have hnb : (min nb 128).toNat ≤ 128 := by omega
    generalize (min nb 128).toNat = n at *
    have hout : ∀ k, k < D.safe.length → ¬ (atL L ≤ k ∧ k < atL L + partsN b.length) → C.rd k = D.rd k := fun k hk hn => by
      rcases hc k hk with h2 | ⟨h2, h3, -⟩
      · exact h2
      · exact absurd ⟨h2, h3⟩ hn
    refine ⟨.inl (h.move hcp hdb hcl (fun k hk hn => hout k hk (by omega)) (fun k h2 h3 => ?_) ?_), hcl, fun k hk hn => hout k hk (by omega)⟩
    · have hg := h.gs k (by omega) h3
      rcases hc k (by omega) with h4 | ⟨-, -, h4 | h4⟩
      · rw [h4]; exact hg
      · rw [h4]; exact gs_noughts _ _
      · rw [h4]; exact gs_torn hg (by omega) hnb
    · cases hr : readD C L with
      | none => rfl
      | some x =>
        exfalso
        obtain ⟨h5, h6, -, h8⟩ := readD_some hdb hr
        have hxn : L.next + 2 + partsN x.length ≤ L.count := by unfold roomL at h6; unfold partsN; omega
        have := readD_congr (D' := D) hdb hr fun p hp => by
          have hok := h8 p hp
          have hg := h.gs (atL L + p) (by omega) (by omega)
          rcases hc (atL L + p) (by omega) with h4 | ⟨-, -, h4 | h4⟩
          · exact h4.symm
          · rw [h4] at hok; exact absurd hok.1 (by rw [noughts_get]; decide)
          · rw [h4] at hok ⊢; exact (torn_ok (h.db.rd _).2 hg (by omega) (by omega) hnb hok).symm
        rw [h.ends] at this
        cases this
  · rw [if_pos h1]
    have hP := puts_up (D0 := B.2) hpd L b (partsN b.length) 0 B.2 (Up.zero hpd _ _ _) (fun k h1 h2 => by omega) (by rw [hsl]; omega)
    have hQ := puts_keep L b hbb (partsN b.length) 0 B.2 hK.1
    generalize putsGo B.2 L b (partsN b.length) 0 = R at *
    rw [Nat.add_zero, hsl] at hP
    rcases hP with ⟨h2, hu⟩ | ⟨h2, hpd2, hsl2, hrd2⟩
    · refine .inr ⟨h2, fun keep torn nb => ?_⟩
      have hc := fun k (hk : k < D.safe.length) => hu.crash hpd keep torn nb (k := k) (by rw [hsl]; exact hk)
      have hdb := hQ.1.crash keep torn nb
      have hcl : (R.2.crash keep torn nb).safe.length = D.safe.length := by rw [(crash_len _ _ _ _).1, hQ.2.1, hsl]
      have hcp : (R.2.crash keep torn nb).pend = [] := rfl
      generalize R.2.crash keep torn nb = C at *
      have hnb : (min nb 128).toNat ≤ 128 := by omega
      generalize (min nb 128).toNat = n at *
      have hout : ∀ k, k < D.safe.length → ¬ (atL L ≤ k ∧ k < atL L + partsN b.length) → C.rd k = D.rd k := fun k hk hn => by
        rcases hc k hk with h3 | ⟨h3, h4, -⟩
        · rw [h3, hrd k hk, if_neg hn]
        · exact absurd ⟨h3, h4⟩ hn
      have hin : ∀ j, j < partsN b.length → C.rd (atL L + j) = partS L b j ∨ (C.rd (atL L + j)).getD 127 0 = 0 := fun j hj => by
        have hbl : B.2.rd (atL L + j) = noughts := by rw [hrd _ (by omega), if_pos ⟨by omega, by omega⟩]
        rcases hc (atL L + j) (by omega) with h3 | ⟨-, -, h3 | h3⟩
        · rw [h3, hbl]; exact .inr (noughts_get _)
        · rw [h3, Nat.add_sub_cancel_left]; exact .inl rfl
        · rw [h3, hbl, Nat.add_sub_cancel_left]; exact part_torn (partS_len L b j) hnb
      refine ⟨?_, hcl, fun k hk hn => hout k hk (by omega)⟩
      by_cases hall : ∀ j, j < partsN b.length → C.rd (atL L + j) = partS L b j
      · exact .inr (h.add hb0 hbb hbr hcp hdb hcl hout hall)
      · refine .inl (h.move hcp hdb hcl (fun k hk hn => hout k hk (by omega)) (fun k h3 h4 => ?_) ?_)
        · by_cases hk : k < atL L + partsN b.length
          · rcases hin (k - atL L) (by omega) with h5 | h5
            · rw [show atL L + (k - atL L) = k by omega] at h5
              rw [h5]; exact gs_part L b _ (by omega) (by omega) (by omega)
            · rw [show atL L + (k - atL L) = k by omega] at h5
              exact fun h6 => by rw [h5] at h6; cases h6
          · rw [hout k (by omega) (by omega)]; exact h.gs k (by omega) h4
        · cases hr : readD C L with
          | none => rfl
          | some x =>
            exfalso
            obtain ⟨h5, h6, h7, h8⟩ := readD_some hdb hr
            have hf0 := h8 0 (by unfold partsN; omega)
            have hq0 : C.rd (atL L + 0) = partS L b 0 := by
              rcases hin 0 hp0 with h9 | h9
              · exact h9
              · have := hf0.1; rw [h9] at this; cases this
            have hsz : sizeAt C L = b.length := by
              unfold sizeAt
              rw [Nat.add_zero] at hq0
              rw [hq0]
              exact partS_size L b (by unfold roomL at hbr; omega) 0
            have hxb : x.length = b.length := by omega
            rw [hxb] at h8
            refine hall fun j hj => ?_
            rcases hin j hj with h9 | h9
            · exact h9
            · have := (h8 j hj).1; rw [h9] at this; cases this
    · refine .inl ⟨h2, ?_, ?_⟩
      · refine h.add hb0 hbb hbr hpd2 hQ.1 hsl2 (fun k hk hn => ?_) (fun j hj => ?_)
        · rw [hrd2 k (by omega), if_neg hn, hrd k hk, if_neg hn]
        · rw [hrd2 _ (by omega), if_pos ⟨by omega, by omega⟩, Nat.add_sub_cancel_left]
      · refine ⟨hsl2, fun k hk hn => ?_⟩
        rw [hrd2 k (by omega), if_neg (by omega), hrd k hk, if_neg (by omega)]
end Go.Proofs.Ythbabdjicplooaa
