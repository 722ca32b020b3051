/- package wal: a log as it lies in memory; at, left, Room, label. Conditions: fewer than 8193 sectors. -/
import Derived.Test.YthbabdjicplooaaWalA
namespace Go.Proofs.Ythbabdjicplooaa
open Go.RowKit

/-- A log: what its fields say, and its records. -/
structure LogV where
  from_ : Nat
  count : Nat
  epoch : Int
  slot : Nat
  next : Nat
  recs : List (List Int)
structure LogOk (L : LogV) : Prop where
  far : L.from_ + L.count ≤ 8192
  next : L.next ≤ 8192
  recs : L.recs.length ≤ 8192
  ep : 0 ≤ L.epoch ∧ L.epoch < 18446744073709551616
def labelL (L : LogV) (size part : Nat) : List Int := beL L.epoch 8 ++ beL ((L.recs.length + 1 : Nat) : Int) 4 ++ beL size 4 ++ beL part 2 ++ beL (partsN size) 2
theorem labelL_len (L : LogV) (size part : Nat) : (labelL L size part).length = 20 := by simp [labelL, beL_len]
def atL (L : LogV) : Nat := L.from_ + 2 + L.next
def roomL (L : LogV) : Nat := (L.count - 2 - L.next) * 107

/-- A slice of bytes that can be read, its row its own. -/
def ownR (v : Value) (xs : List Int) : HP := ⟨fun h S => ∃ g c cur, v = .slice (some ⟨g, 0, none⟩) xs.length c ∧ xs.length ≤ c ∧ c ≤ maxLen ∧ S g ∧ h g = some (.cells cur 5 (0, 0)) ∧ xs.length ≤ cur.size ∧ cur.toList.take xs.length = bytes xs,
  fun hS ⟨g, c, cur, a, b, c', d, e, f⟩ => ⟨g, c, cur, a, b, c', d, (hS _ d).trans e, f⟩⟩
theorem Sat.ownR_rd {w : World} {F : List HP} {v : Value} {xs : List Int} (H : Sat w (ownR v xs :: F)) : ∃ A c, v = .slice A xs.length c ∧ xs.length ≤ c ∧ Rd w 1 A xs.length (bytes xs) := by
  obtain ⟨_, _, _, _, _, ⟨g, c, cur, rfl, h1, _, _, hg, h2, h3⟩, _⟩ := H
  refine ⟨_, c, rfl, h1, by simp [bytes], fun j u hu => ⟨g, 0, rfl, ?_⟩⟩
  rw [cell_of_row w g _ cur _ (0, 0) hg, Nat.zero_add]
  rw [← h3, List.getElem?_take] at hu
  split at hu
  · simpa using hu
  · cases hu
theorem Sat.ownR_of {w : World} {F : List HP} {v : Value} {n : Nat} {xs : List Int} (H : Sat w (own 5 1 v n (bytes xs) :: F)) (hn : 0 < n) : Sat w (ownR v xs :: F) :=
  H.imp fun S ⟨h0, h⟩ => by
    have hl : xs.length = n := by rw [bytes_len] at h0; omega
    rcases h with ⟨_, hb⟩ | ⟨g, cap, cur, hv, hS, hg, hc, hm, hs, ht⟩
    · omega
    · exact ⟨g, cap, cur, by rw [hl]; exact hv, by omega, hm, hS, hg, by omega, by rw [hl]; simpa using ht⟩

def recB (R : List (Value × List Int)) : HP := all (R.map fun p => ownR p.1 p.2)
def logc (p d : Nat) (L : LogV) : HP := ex fun q : Value × List (Value × List Int) => all [fact (q.2.map (·.2) = L.recs), row p 135 #[.pointer (some ⟨d, 0, none⟩), .int .i64 L.from_, .int .i64 L.count, .int .u64 L.epoch, .int .i64 L.slot, .int .i64 L.next, q.1], own 30 1 q.1 q.2.length (q.2.map (·.1)), recB q.2]
theorem Sat.log_open {w : World} {p d : Nat} {L : LogV} {F : List HP} (H : Sat w (logc p d L :: F)) : ∃ (v : Value) (R : List (Value × List Int)), Hid (R.map (·.2) = L.recs) ∧
    Sat w (row p 135 #[.pointer (some ⟨d, 0, none⟩), .int .i64 L.from_, .int .i64 L.count, .int .u64 L.epoch, .int .i64 L.slot, .int .i64 L.next, v] :: own 30 1 v R.length (R.map (·.1)) :: recB R :: F) := by
  obtain ⟨⟨v, R⟩, H⟩ := H.open_ex
  have H := H.open_all
  exact ⟨v, R, Lib.hid (Sat.get_fact H), H.tail⟩
theorem Sat.log_shut {w : World} {p d : Nat} {F : List HP} (L : LogV) (v : Value) (R : List (Value × List Int)) (h : R.map (·.2) = L.recs)
    (H : Sat w (row p 135 #[.pointer (some ⟨d, 0, none⟩), .int .i64 L.from_, .int .i64 L.count, .int .u64 L.epoch, .int .i64 L.slot, .int .i64 L.next, v] :: own 30 1 v R.length (R.map (·.1)) :: recB R :: F)) : Sat w (logc p d L :: F) :=
  Sat.shut_ex (f := fun q : Value × List (Value × List Int) => all [fact (q.2.map (·.2) = L.recs), row p 135 #[.pointer (some ⟨d, 0, none⟩), .int .i64 L.from_, .int .i64 L.count, .int .u64 L.epoch, .int .i64 L.slot, .int .i64 L.next, q.1], own 30 1 q.1 q.2.length (q.2.map (·.1)), recB q.2]) (v, R) (Sat.shut_all (L := [_, _, _, _]) (Sat.put_fact H h))
/-- The log's fields, read. -/
theorem Sat.log_cells {w : World} {p d : Nat} {L : LogV} {F : List HP} (H : Sat w (logc p d L :: F)) : w.cell? ⟨p, 0, none⟩ = some (.pointer (some ⟨d, 0, none⟩)) ∧ w.cell? ⟨p, 1, none⟩ = some (.int .i64 L.from_) ∧ w.cell? ⟨p, 2, none⟩ = some (.int .i64 L.count) ∧ w.cell? ⟨p, 3, none⟩ = some (.int .u64 L.epoch) ∧
    w.cell? ⟨p, 4, none⟩ = some (.int .i64 L.slot) ∧ w.cell? ⟨p, 5, none⟩ = some (.int .i64 L.next) ∧ ∃ A c, w.cell? ⟨p, 6, none⟩ = some (.slice A L.recs.length c) := by
  obtain ⟨v, R, hR, H1⟩ := H.log_open
  obtain ⟨A, c, rfl, -, -, -⟩ := H1.b1.own_form
  have hl : R.length = L.recs.length := by rw [← hR.out, List.length_map]
  exact ⟨H1.cell 0, H1.cell 1, H1.cell 2, H1.cell 3, H1.cell 4, H1.cell 5, A, c, by rw [← hl]; exact H1.cell 6⟩

set_option maxHeartbeats 1000000 in
theorem at_any {w : World} {p d : Nat} {L : LogV} {F : List HP} (H : Sat w (logc p d L :: F)) (hL : LogOk L) :
    Calls Try.prog 82 #[.pointer (some ⟨p, 0, none⟩)] w fun e w' => e = .returned (.int .i64 (atL L)) ∧ ∃ q, w' = w.drewN q := by
  obtain ⟨-, x1, -, -, -, x5, -⟩ := H.log_cells
  have h1 := hL.far
  have h2 := hL.next
  unfold atL
  generalize L.from_ = a at *
  generalize L.next = b at *
  have e1 : IntKind.i64.wrap ((a : Int) + 2) = (a : Int) + 2 := IntWalk.i64_in _ (by omega)
  have e2 : IntKind.i64.wrap ((a : Int) + 2 + (b : Int)) = ((a + 2 + b : Nat) : Int) := by rw [IntWalk.i64_in _ (by omega)]; omega
  go_enter Try.func82, Try.ntmps82
  go_wp2_with fail
  go_quiet (fail)
  go_wp2_with fail
  go_ret
  first
    | exact ⟨rfl, _, rfl⟩
    | exact ⟨by congr 2, _, rfl⟩

set_option maxHeartbeats 1000000 in
theorem left_any {w : World} {p d : Nat} {L : LogV} {F : List HP} (H : Sat w (logc p d L :: F)) (hL : LogOk L) :
    Calls Try.prog 90 #[.pointer (some ⟨p, 0, none⟩)] w fun e w' => e = .returned (.int .i64 ((L.count : Int) - 2 - L.next)) ∧ ∃ q, w' = w.drewN q := by
  obtain ⟨-, -, x2, -, -, x5, -⟩ := H.log_cells
  have h1 := hL.far
  have h2 := hL.next
  have h3 : L.count ≤ 8192 := by omega
  clear h1
  generalize L.count = a at *
  generalize L.next = b at *
  have e1 : IntKind.i64.wrap ((a : Int) - 2) = (a : Int) - 2 := IntWalk.i64_in _ (by omega)
  have e2 : IntKind.i64.wrap ((a : Int) - 2 - (b : Int)) = (a : Int) - 2 - (b : Int) := IntWalk.i64_in _ (by omega)
  go_enter Try.func90, Try.ntmps90
  go_wp2_with fail
  go_quiet (fail)
  go_wp2_with fail
  go_ret
  exact ⟨rfl, _, rfl⟩

set_option maxHeartbeats 1000000 in
theorem room_any {w : World} {p d : Nat} {L : LogV} {F : List HP} (H : Sat w (logc p d L :: F)) (hL : LogOk L) :
    Calls Try.prog 55 #[.pointer (some ⟨p, 0, none⟩)] w fun e w' => e = .returned (.int .i64 (roomL L)) ∧ ∃ q, w' = w.drewN q := by
  have HLF := Lib.hid (left_any H hL)
  have h1 := hL.far
  have h2 := hL.next
  have e3 : (((roomL L : Nat) : Int)) = (if (L.count : Int) - 2 - L.next < 0 then 0 else ((L.count : Int) - 2 - L.next)) * 107 := by unfold roomL; split <;> omega
  have hb : (roomL L : Int) ≤ 1000000 := by unfold roomL; omega
  obtain ⟨l, hl⟩ : ∃ l, (L.count : Int) - 2 - L.next = l := ⟨_, rfl⟩
  rw [hl] at HLF e3
  generalize roomL L = R at *
  clear hl h1 h2 hL H
  go_enter Try.func55, Try.ntmps55
  go_wp2_with fail
  refine HLF.out.mono ?_
  rintro e w2 ⟨rfl, q, rfl⟩
  by_cases hl0 : l < 0
  · rw [if_pos hl0] at e3
    have hR : (R : Int) = 0 := by omega
    clear e3
    go_wp2_with fail
    go_ret
    exact ⟨by rw [hR]; rfl, q, rfl⟩
  · rw [if_neg hl0] at e3
    have e4 : IntKind.i64.wrap (l * 107) = (R : Int) := by rw [IntWalk.i64_in _ (by omega)]; omega
    have e5 : l * 107 = (R : Int) := by omega
    clear e3
    go_wp2_with fail
    go_ret
    first
      | exact ⟨rfl, q, rfl⟩
      | exact ⟨by rw [e5], q, rfl⟩

set_option maxHeartbeats 4000000 in
set_option maxRecDepth 100000 in
theorem label_any {w : World} {p d : Nat} {L : LogV} {F : List HP} (size part : Nat) (H : Sat w (logc p d L :: F)) (hL : LogOk L) (hs : size < 4294967296) (hp : part < 4294967296) :
    Calls Try.prog 84 #[.pointer (some ⟨p, 0, none⟩), .int .i64 size, .int .i64 part] w fun e w' => ∃ v, e = .returned v ∧ Sat w' (own 5 1 v 20 (bytes (labelL L size part)) :: logc p d L :: F) ∧ Env w w' := by
  have HL := Lib.hid hL
  have HQ := Lib.hid (show partsN size < 4294967296 by unfold partsN; omega)
  have HLL := Lib.hid (labelL_len L size part)
  have hrc : L.recs.length ≤ 8192 := hL.recs
  clear hL
  go_enter Try.func84, Try.ntmps84
  go_wp2_with fail
  refine (wnew H).mono ?_
  rintro e w1 ⟨g, rfl, H1, E1⟩
  obtain ⟨-, -, -, x3, -, -, -⟩ := H1.b1.log_cells
  go_wp2_with fail
  refine (wnumber L.epoch 8 H1 (by omega) HL.out.ep (by simp)).mono ?_
  rintro e w2 ⟨rfl, H2, E2⟩
  rw [List.nil_append] at H2
  obtain ⟨-, -, -, -, -, -, A6, c6, x6⟩ := H2.b1.log_cells
  generalize hk : L.recs.length = rc at *
  have hw1 : IntKind.i64.wrap ((rc : Int) + 1) = ((rc + 1 : Nat) : Int) := by rw [IntWalk.i64_in _ (by omega)]; omega
  have hw2 : IntKind.u64.wrap ((rc + 1 : Nat) : Int) = ((rc + 1 : Nat) : Int) := by rw [IntKind.wrap_u64]; omega
  have hw2' : IntKind.u64.wrap ((rc : Int) + 1) = ((rc + 1 : Nat) : Int) := by rw [IntKind.wrap_u64]; omega
  have E2' := E1.trans E2
  clear H1 E1 E2 x3 H
  go_wp2_with fail
  refine (wnumber ((rc + 1 : Nat) : Int) 4 H2 (by omega) (by omega) (by simp [beL_len])).mono ?_
  rintro e w3 ⟨rfl, H3, E3⟩
  have hw3 : IntKind.u64.wrap (size : Int) = (size : Int) := by rw [IntKind.wrap_u64]; omega
  have E3' := E2'.trans E3
  clear H2 E3 E2' x6 hw1 hw2 hw2'
  go_wp2_with fail
  refine (wnumber (size : Int) 4 H3 (by omega) (by omega) (by simp [beL_len])).mono ?_
  rintro e w4 ⟨rfl, H4, E4⟩
  have hw4 : IntKind.u64.wrap (part : Int) = (part : Int) := by rw [IntKind.wrap_u64]; omega
  have E4' := E3'.trans E4
  clear H3 E4 E3' hw3
  go_wp2_with fail
  refine (wnumber (part : Int) 2 H4 (by omega) (by omega) (by simp [beL_len])).mono ?_
  rintro e w5 ⟨rfl, H5, E5⟩
  have E5' := E4'.trans E5
  clear H4 E5 E4' hw4
  go_wp2_with fail
  refine (parts_any size _ hs).mono ?_
  rintro e w' ⟨rfl, rfl⟩
  have hw5 : IntKind.u64.wrap (partsN size : Int) = (partsN size : Int) := by rw [IntKind.wrap_u64]; have := HQ.out; omega
  go_wp2_with fail
  refine (wnumber (partsN size : Int) 2 H5 (by omega) (by have := HQ.out; omega) (by simp [beL_len])).mono ?_
  rintro e w6 ⟨rfl, H6, E6⟩
  have E6' := E5'.trans E6
  have hlb : beL L.epoch 8 ++ beL ((rc + 1 : Nat) : Int) 4 ++ beL (size : Int) 4 ++ beL (part : Int) 2 ++ beL (partsN size : Int) 2 = labelL L size part := by rw [← hk]; rfl
  rw [hlb] at H6
  clear H5 E6 E5' hw5 hlb
  go_wp2_with fail
  refine (wdone H6 (by rw [HLL.out]; omega)).mono ?_
  rintro e w7 ⟨v, rfl, H7, E7⟩
  rw [HLL.out] at H7
  obtain ⟨A7, c7, rfl, -, -, -⟩ := H7.own_form
  go_wp2_with fail
  go_ret
  exact ⟨_, rfl, H7.b1.tail, E6'.trans E7⟩
end Go.Proofs.Ythbabdjicplooaa
