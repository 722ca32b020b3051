/- What DiskPlays needs: Write and Flush whatever comes of them, on the disk and on the document's; more buffers in the pool; the calls asked for. Conditions: fewer than 2^32 pending writes. -/
import Derived.Test.YthbabdjicplooaaAlike
import Derived.Test.YthbabdjicplooaaRoomB
import Derived.Test.YthbabdjicplooaaWithin
import Derived.Test.YthbabdjicplooaaDiskKnown
namespace Go.Proofs.Ythbabdjicplooaa
open Go.RowKit

def wcode (D : Dsk) (n : Int) (m : Nat) : Int := if n < 0 ∨ (D.safe.length : Int) ≤ n ∨ m ≠ 128 then 1 else if D.left = some 0 then 13 else 0
def wnext (D : Dsk) (n : Int) (m : Nat) (xs : List Int) : Dsk := if n < 0 ∨ (D.safe.length : Int) ≤ n ∨ m ≠ 128 then D else if D.left = some 0 then D else D.write n.toNat xs
def fcode (D : Dsk) : Int := if D.left = some 0 then 13 else 0
def fnext (D : Dsk) : Dsk := if D.left = some 0 then D else D.flush
theorem wnext_len (D : Dsk) (n : Int) (m : Nat) (xs : List Int) : (wnext D n m xs).safe.length = D.safe.length ∧ (wnext D n m xs).pend.length ≤ D.pend.length + 1 := by
  unfold wnext
  split
  · exact ⟨rfl, by omega⟩
  · split
    · exact ⟨rfl, by omega⟩
    · exact ⟨rfl, by simp [Dsk.write]⟩
theorem fnext_len (D : Dsk) : (fnext D).safe.length = D.safe.length ∧ (fnext D).pend.length ≤ D.pend.length := by
  unfold fnext
  split
  · exact ⟨rfl, by omega⟩
  · exact ⟨by simp [Dsk.flush, sets_len], by simp [Dsk.flush]⟩
theorem crash_len (D : Dsk) (keep : List Bool) (torn nb : Int) : (D.crash keep torn nb).safe.length = D.safe.length ∧ (D.crash keep torn nb).pend.length = 0 := ⟨by simp [Dsk.crash, crashS_len], rfl⟩
theorem wcode_is (D : Dsk) (n : Int) (m : Nat) : wcode D n m = 0 ∨ wcode D n m = 1 ∨ wcode D n m = 13 := by
  unfold wcode
  split
  · exact .inr (.inl rfl)
  · split
    · exact .inr (.inr rfl)
    · exact .inl rfl

theorem dwrite_all {w : World} {d : Nat} {D : Dsk} {F : List HP} (n : Int) (A : Option Addr) (m c : Nat) (xs : List Int) (H : Sat w (disk d D :: F)) (hr : Reads F 1 A m (bytes xs)) (hm : m < 4294967296) (hp : D.pend.length < 4294967296) :
    Calls Try.prog 22 #[.pointer (some ⟨d, 0, none⟩), .int .i64 n, .slice A m c] w fun e w' => e = .returned (.int .i64 (wcode D n m)) ∧ Sat w' (disk d (wnext D n m xs) :: F) ∧ Env w w' := by
  unfold wcode wnext
  by_cases h : n < 0 ∨ (D.safe.length : Int) ≤ n ∨ m ≠ 128
  · rw [if_pos h, if_pos h]
    exact (dwrite_arg n A m c H h hm).mono fun e w' ⟨he, hw⟩ => ⟨he, hw ▸ H, hw ▸ Env.refl w⟩
  · rw [if_neg h, if_neg h]
    obtain ⟨n, rfl⟩ := Int.eq_ofNat_of_zero_le (show 0 ≤ n by omega)
    obtain rfl : m = 128 := by omega
    by_cases hl : D.left = some 0
    · rw [if_pos hl, if_pos hl]
      exact (dwrite_stop n A c H (by omega) hl).mono fun e w' ⟨he, hw⟩ => ⟨he, hw ▸ H, hw ▸ Env.refl w⟩
    · rw [if_neg hl, if_neg hl]
      exact dwrite n A c xs H hr (by omega) hl hp
theorem rwrite_all {w : World} {r : Nat} {D : Dsk} {F : List HP} (n : Int) (A : Option Addr) (m c : Nat) (xs : List Int) (H : Sat w (rdisk r D :: F)) (hr : Reads F 1 A m (bytes xs)) (hm : m < 4294967296) (hp : D.pend.length < 4294967296) :
    Calls Try.prog 39 #[.pointer (some ⟨r, 0, none⟩), .int .i64 n, .slice A m c] w fun e w' => e = .returned (.int .i64 (wcode D n m)) ∧ Sat w' (rdisk r (wnext D n m xs) :: F) ∧ Env w w' := by
  unfold wcode wnext
  by_cases h : n < 0 ∨ (D.safe.length : Int) ≤ n ∨ m ≠ 128
  · rw [if_pos h, if_pos h]
    exact (rwrite_arg n A m c H h hm).mono fun e w' ⟨he, hw⟩ => ⟨he, hw ▸ H, hw ▸ Env.refl w⟩
  · rw [if_neg h, if_neg h]
    obtain ⟨n, rfl⟩ := Int.eq_ofNat_of_zero_le (show 0 ≤ n by omega)
    obtain rfl : m = 128 := by omega
    by_cases hl : D.left = some 0
    · rw [if_pos hl, if_pos hl]
      exact (rwrite_stop n A c H (by omega) hl).mono fun e w' ⟨he, hw⟩ => ⟨he, hw ▸ H, hw ▸ Env.refl w⟩
    · rw [if_neg hl, if_neg hl]
      exact rwrite n A c xs H hr (by omega) hl hp
theorem dflush_all {w : World} {d : Nat} {D : Dsk} {F : List HP} (H : Sat w (disk d D :: F)) (hp : D.pend.length < 4294967296) :
    Calls Try.prog 24 #[.pointer (some ⟨d, 0, none⟩)] w fun e w' => e = .returned (.int .i64 (fcode D)) ∧ Sat w' (disk d (fnext D) :: F) ∧ Env w w' := by
  unfold fcode fnext
  by_cases hl : D.left = some 0
  · rw [if_pos hl, if_pos hl]
    exact (dflush_stop H hl).mono fun e w' ⟨he, hw⟩ => ⟨he, hw ▸ H, hw ▸ Env.refl w⟩
  · rw [if_neg hl, if_neg hl]
    exact dflush H hl hp
theorem rflush_all {w : World} {r : Nat} {D : Dsk} {F : List HP} (H : Sat w (rdisk r D :: F)) (hp : D.pend.length < 4294967296) :
    Calls Try.prog 41 #[.pointer (some ⟨r, 0, none⟩)] w fun e w' => e = .returned (.int .i64 (fcode D)) ∧ Sat w' (rdisk r (fnext D) :: F) ∧ Env w w' := by
  unfold fcode fnext
  by_cases hl : D.left = some 0
  · rw [if_pos hl, if_pos hl]
    exact (rflush_stop H hl).mono fun e w' ⟨he, hw⟩ => ⟨he, hw ▸ H, hw ▸ Env.refl w⟩
  · rw [if_neg hl, if_neg hl]
    exact rflush H hl hp

/-- More buffers in the pool. -/
theorem Sat.dk_more {w : World} {c : Nat} {B B' : List Buf} {D : Dsk} {F : List HP} (H : Sat w (dk c B D :: F)) (hB : ∀ p ∈ B, p ∈ B') (hf : ∀ p ∈ B', p.2.length = 128) : Sat w (dk c B' D :: F) := by
  obtain ⟨safe, last, pend, stops, after, vS, vP, mb, hok, habs, H1⟩ := H.dk_open
  exact Sat.dk_shut ⟨safe, last, pend, stops, after, vS, vP, mb⟩ (hok.out.more hB hf) habs.out.symm H1
theorem Sat.dk_full {w : World} {c : Nat} {B : List Buf} {D : Dsk} {F : List HP} (H : Sat w (dk c B D :: F)) : ∀ p ∈ B, p.2.length = 128 := by
  obtain ⟨safe, last, pend, stops, after, vS, vP, mb, hok, habs, H1⟩ := H.dk_open
  exact hok.out.full

/-- One call that is asked for. -/
structure AskV where
  kind : Int
  nn : Int
  size : Int
  fill : Int
  A : Option Addr
  nk : Nat
  ck : Nat
  keep : List Bool
  torn : Int
  nb : Int
def cellsA (x : AskV) : List Value := [.int .i64 x.kind, .int .i64 x.nn, .int .i64 x.size, .int .u8 x.fill, .slice x.A x.nk x.ck, .int .i64 x.torn, .int .i64 x.nb]
def flatA (l : List AskV) : List Value := l.flatMap cellsA
theorem flatA_len (l : List AskV) : (flatA l).length = l.length * 7 := by
  induction l with
  | nil => rfl
  | cons x l ih => simp only [flatA, List.flatMap_cons, List.length_append, List.length_cons] at ih ⊢; simp only [cellsA, List.length_cons, List.length_nil]; omega
theorem flatA_get (l : List AskV) (k : Nat) (hk : k < l.length) (j : Nat) (hj : j < 7) : (flatA l)[k * 7 + j]? = (cellsA l[k])[j]? := by
  induction l generalizing k with
  | nil => simp at hk
  | cons x l ih =>
    cases k with
    | zero =>
      simp only [flatA, List.flatMap_cons, Nat.zero_mul, Nat.zero_add, List.getElem_cons_zero]
      rw [List.getElem?_append_left (by simpa [cellsA] using hj)]
    | succ k =>
      have := ih k (by simpa using hk)
      simp only [flatA, List.flatMap_cons, List.getElem_cons_succ] at this ⊢
      rw [List.getElem?_append_right (by simp [cellsA]; omega), ← this]
      congr 1
      simp [cellsA]; omega
def AskOk (F : List HP) (x : AskV) : Prop := (-9223372036854775808 ≤ x.size ∧ x.size ≤ 9223372036854775807) ∧ (0 ≤ x.fill ∧ x.fill ≤ 255) ∧ Reads F 1 x.A x.nk (x.keep.map (Value.bool))
theorem rdA {w : World} {A : Option Addr} {n : Nat} {l : List AskV} (h : Rd w 7 A n (flatA l)) {k : Nat} (hk : k < l.length) :
    ∃ b off, A = some ⟨b, off, none⟩ ∧ ∀ j u, (cellsA l[k])[j]? = some u → w.cell? ⟨b, off + k * 7 + j, none⟩ = some u := by
  obtain ⟨b, off, hA, h0⟩ := h.2 (k * 7 + 0) _ (by rw [flatA_get l k hk 0 (by omega)]; rfl)
  refine ⟨b, off, hA, fun j u hu => ?_⟩
  have hj : j < 7 := by have := (List.getElem?_eq_some_iff.1 hu).1; simpa [cellsA] using this
  obtain ⟨b', off', hA', hc⟩ := h.2 (k * 7 + j) u (by rw [flatA_get l k hk j hj]; exact hu)
  rw [hA] at hA'
  cases hA'
  rw [Nat.add_assoc]; exact hc
end Go.Proofs.Ythbabdjicplooaa
