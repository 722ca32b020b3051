/- DiskOrder's plain law: of writes of one sector the last one that is kept is there. Conditions: none. -/
import Derived.Test.YthbabdjicplooaaDiskKnownG
import Derived.Laws.BytesArg
namespace Go.Proofs.Ythbabdjicplooaa
open Go.RowKit

/-- One sector, k writes of it pending. -/
def ordD (fs : List Int) (k : Nat) : Dsk := ⟨[noughts], (fs.take k).map (fun f => (0, sectorL f 128)), none⟩
theorem ordD_write (fs : List Int) (k : Nat) (h : k < fs.length) : (ordD fs k).write 0 (sectorL fs[k] 128) = ordD fs (k + 1) := by
  unfold ordD Dsk.write
  rw [List.take_succ_eq_append_getElem h, List.map_append]
  rfl
/-- The last write that is kept. -/
def lastK (fs : List Int) (keep : List Bool) : Nat → Option Int
  | 0 => none
  | k + 1 => if keep.getD k false then some (fs.getD k 0) else lastK fs keep k
theorem lastK_mem {fs : List Int} {keep : List Bool} (hb : ∀ x ∈ fs, 0 ≤ x ∧ x ≤ 255) : ∀ k, k ≤ fs.length → ∀ f, lastK fs keep k = some f → 0 ≤ f ∧ f ≤ 255
  | 0, _, f, h => by cases h
  | k + 1, hk, f, h => by
    rw [lastK] at h
    split at h
    · cases h
      refine hb _ ?_
      rw [List.getD_eq_getElem?_getD, List.getElem?_eq_getElem (show k < fs.length by omega)]
      exact List.getElem_mem _
    · exact lastK_mem hb k (by omega) f h
def keptL : Option Int → List Int
  | none => noughts
  | some f => sectorL f 128
theorem crash_ord (fs : List Int) (keep : List Bool) (nt K : Nat) (hK : K ≤ fs.length) : ∀ k, k ≤ K → crashS keep (-1) nt [noughts] ((fs.take K).map (fun f => (0, sectorL f 128))) k = [keptL (lastK fs keep k)]
  | 0, _ => rfl
  | k + 1, h => by
    have ih := crash_ord fs keep nt K hK k (by omega)
    have hg : ((fs.take K).map (fun f => (0, sectorL f 128)))[k]? = some (0, sectorL (fs.getD k 0) 128) := by
      have : k < fs.length := by omega
      simp [show k < K by omega, this]
    simp only [crashS, hg, ih, lastK]
    by_cases hk : keep.getD k false = true
    · simp only [hk, if_true]; rfl
    · simp only [hk, Bool.false_eq_true, if_false, show ¬ ((k : Int) = -1) by omega]
theorem crash_rd (fs : List Int) (keep : List Bool) (K : Nat) (hK : K ≤ fs.length) : ((ordD fs K).crash keep (-1) 0).rd 0 = keptL (lastK fs keep K) ∧ ((ordD fs K).crash keep (-1) 0).safe.length = 1 := by
  have h := crash_ord fs keep (min 0 128 : Int).toNat K hK K (Nat.le_refl _)
  have hl : ((fs.take K).map (fun f => ((0 : Nat), sectorL f 128))).length = K := by simp; omega
  constructor
  · simp only [Dsk.rd, Dsk.crash, ordD, hl, lastP, Option.getD_none]
    rw [h]; rfl
  · simp only [Dsk.crash, ordD, hl]
    rw [h]; rfl
theorem sets_ord (fs : List Int) (K : Nat) (hK : K ≤ fs.length) : sets [noughts] ((fs.take K).map (fun f => ((0 : Nat), sectorL f 128))) = [if K = 0 then noughts else sectorL (fs.getD (K - 1) 0) 128] := by
  cases K with
  | zero => rfl
  | succ K =>
    have hk : K < fs.length := by omega
    rw [List.take_succ_eq_append_getElem hk, List.map_append, List.map_cons, List.map_nil, sets_snoc]
    have : (sets [noughts] ((fs.take K).map (fun f => ((0 : Nat), sectorL f 128)))).length = 1 := by rw [sets_len]; rfl
    obtain ⟨x, hx⟩ := List.length_eq_one_iff.1 this
    rw [hx]
    simp [hk]
def ordE (fs : List Int) (K : Nat) : Dsk := (ordD fs K).flush
theorem flush_rd (fs : List Int) (K : Nat) (hK : K ≤ fs.length) : ((ordE fs K).crash [] (-1) 0).rd 0 = (if K = 0 then noughts else sectorL (fs.getD (K - 1) 0) 128) ∧ ((ordE fs K).crash [] (-1) 0).safe.length = 1 := by
  have h := sets_ord fs K hK
  constructor
  · simp only [Dsk.rd, Dsk.crash, ordE, Dsk.flush, ordD, lastP, Option.getD_none, List.length_nil, crashS, h]; rfl
  · simp only [Dsk.crash, ordE, Dsk.flush, ordD, List.length_nil, crashS, h]; rfl

/-- A byte slice that can be read, as a text. -/
theorem conv_rd {w : World} {A : Option Addr} {n c : Nat} {xs : List Int} (h : Rd w 1 A n (bytes xs)) (hn : 0 < n) : (convert 30 9 (.slice A n c)).run Try.prog w = .ok (.string (strOfNums xs)) w := by
  have hl : xs.length = n := by have := h.1; simpa [bytes] using this
  obtain ⟨b, off, rfl, _⟩ := h.2 0 (.int .u8 (xs.getD 0 0)) (by simp [bytes, show 0 < xs.length by omega])
  refine run_convert_bytes_arg (P := Try.prog) w 30 5 Try.underlying30 Try.underlying5 b off n c xs hl (fun i hi => ?_) 9 Try.underlying9
  obtain ⟨b', off', h1, h2⟩ := h.2 i (.int .u8 (xs.getD i 0)) (by simp [bytes, show i < xs.length by omega])
  cases h1
  exact h2
end Go.Proofs.Ythbabdjicplooaa
