/- The disk's Flush. Conditions: fewer than 2^32 writes pending. -/
import Derived.Test.YthbabdjicplooaaDiskW
namespace Go.Proofs.Ythbabdjicplooaa
open Go.RowKit

/-- Writes laid over sectors, in their order. -/
def sets {α : Type} (S : List α) (P : List (Nat × α)) : List α := P.foldl (fun S p => S.set p.1 p.2) S
theorem sets_len {α : Type} (S : List α) (P : List (Nat × α)) : (sets S P).length = S.length := by
  unfold sets
  induction P generalizing S with
  | nil => rfl
  | cons p P ih => simp [List.foldl_cons, ih]
theorem sets_snoc {α : Type} (S : List α) (P : List (Nat × α)) (p : Nat × α) : sets S (P ++ [p]) = (sets S P).set p.1 p.2 := by simp [sets]
theorem sets_map {α β : Type} (f : α → β) (S : List α) (P : List (Nat × α)) : (sets S P).map f = sets (S.map f) (P.map fun p => (p.1, f p.2)) := by
  unfold sets
  induction P generalizing S with
  | nil => rfl
  | cons p P ih => simp [List.foldl_cons, ih, List.map_set]
theorem sets_mem {α : Type} {S : List α} {P : List (Nat × α)} {x : α} (h : x ∈ sets S P) : x ∈ S ∨ ∃ n, (n, x) ∈ P := by
  unfold sets at h
  induction P generalizing S with
  | nil => exact .inl h
  | cons p P ih =>
    rw [List.foldl_cons] at h
    rcases ih h with h | ⟨n, h⟩
    · rcases List.mem_or_eq_of_mem_set h with h | h
      · exact .inl h
      · exact .inr ⟨p.1, by rw [h]; exact List.mem_cons_self⟩
    · exact .inr ⟨n, List.mem_cons_of_mem _ h⟩

def Dsk.flush (D : Dsk) : Dsk := ⟨sets D.safe D.pend, [], D.left.map (· - 1)⟩

set_option maxHeartbeats 1000000 in
set_option maxRecDepth 100000 in
theorem flush_stop {w : World} {d : Nat} {B : List Buf} {D : Dsk} {F : List HP} (H : Sat w (dk d B D :: F)) (hl : D.left = some 0) :
    Calls Try.prog 24 #[.pointer (some ⟨d, 0, none⟩)] w fun e w' => e = .returned (.int .i64 13) ∧ w = w' := by
  have HG := Lib.hid (goes_no H hl)
  go_enter Try.func24, Try.ntmps24
  go_wp2_with (go_at_call 67; refine HG.out.mono ?_; rintro e w' ⟨rfl, rfl⟩)
  go_ret
  exact ⟨rfl, rfl⟩

set_option maxHeartbeats 2000000 in
set_option maxRecDepth 100000 in
theorem flush_ok {w : World} {d : Nat} {B : List Buf} {D : Dsk} {F : List HP} (H : Sat w (dk d B D :: pool B :: F)) (hl : D.left ≠ some 0) (hp : D.pend.length < 4294967296) :
    Calls Try.prog 24 #[.pointer (some ⟨d, 0, none⟩)] w fun e w' => e = .returned (.int .i64 0) ∧ Sat w' (dk d B D.flush :: pool B :: F) ∧ Env w w' := by
  have HG := Lib.hid (goes_yes H hl)
  clear H
  go_enter Try.func24, Try.ntmps24
  go_upto_region 3 with (go_at_call 67; refine HG.out.mono ?_; rintro e w2 ⟨rfl, H2, E2⟩)
  obtain ⟨safe, last, pend, stops, after, vS, vP, mb, hok, habs, H3⟩ := H2.dk_open
  have hD := habs.out
  have HD1 := Lib.hid (show D.safe = safe.map (·.2) from congrArg Dsk.safe hD)
  have HD2 := Lib.hid (show D.pend = pend.map (fun p => (p.1, p.2.2)) from congrArg Dsk.pend hD)
  have HD3 := Lib.hid (show D.left.map (· - 1) = (if stops then some after else none) from congrArg Dsk.left hD)
  have hpl : pend.length < 4294967296 := by rw [HD2.out] at hp; simpa using hp
  have hsl : safe.length ≤ 8192 := hok.out.some_
  clear hp hD H2 HG habs hl
  have hc2 := H3.cell 2
  obtain ⟨AP, cP, rfl, -, -, -⟩ := H3.b3.own_form
  obtain ⟨AS, cS, rfl, -, -, -⟩ := H3.b1.own_form
  go_wp2_with fail
  go_loopw [13] (fun i wr => ∃ k : Nat, k ≤ pend.length ∧ i = .int .i64 k ∧ Sat wr (row d 115 #[.slice AS safe.length cS, .map (some mb), .slice AP pend.length cP, .bool stops, .int .i64 after] :: own 30 1 (.slice AS safe.length cS) safe.length ((sets safe (pend.take k)).map (·.1)) :: imap mb last :: own 117 2 (.slice AP pend.length cP) pend.length (flatP pend) :: pool B :: F) ∧ Env w wr) (fun i _ => pend.length - (intOf i).toNat)
  case atStart => exact ⟨0, by omega, rfl, by simpa [sets] using H3, E2⟩
  case round =>
    clear H3 hc2 E2
    obtain ⟨k, hk, rfl, H4, E4⟩ := hrel
    by_cases hlt : k < pend.length
    · obtain ⟨nk, vk, xk, hpk⟩ : ∃ nk vk xk, pend[k] = (nk, (vk, xk)) := ⟨_, _, _, rfl⟩
      have hpm := hok.out.pgood (nk, (vk, xk)) (by dsimp only; rw [← hpk]; exact List.getElem_mem hlt)
      have hnk : nk < safe.length := hpm.1
      obtain ⟨gk, ck, rfl, -⟩ := (H4.b4.pool_at hpm.2).own_addr (by omega)
      obtain ⟨gP, cP', hAP, -⟩ := H4.b3.own_addr (by omega)
      cases hAP
      obtain ⟨gS, cS', hAS, -⟩ := H4.b1.own_addr (by omega)
      cases hAS
      have hfp := flatP_get pend k hlt
      rw [hpk] at hfp
      have p1 := H4.b3.own_cell _ _ hfp.1
      have p2 := H4.b3.own_cell _ _ hfp.2
      have HPK := Lib.hid hpk
      clear hfp hpk hpm
      go_upto_region 6 with fail
      have H5 := H4.alloc (.cells #[.int .i64 nk, .slice (some ⟨gk, 0, none⟩) 128 ck] 117)
      have E5 := E4.alloc (.cells #[.int .i64 nk, .slice (some ⟨gk, 0, none⟩) 128 ck] 117)
      generalize wr.alloc (.cells #[.int .i64 nk, .slice (some ⟨gk, 0, none⟩) 128 ck] 117) = wx at *
      generalize wr.heap.size = T4 at *
      clear H4 E4 p1 p2
      have q0 := H5.cell 0
      have q1 := H5.cell 1
      have q2 := H5.b1.cell 0
      have hz : ((sets safe (pend.take k)).map (·.1))[nk]? = some ((sets safe (pend.take k))[nk]'(by rw [sets_len]; exact hnk)).1 := by simp [sets_len, hnk]
      have q3 := H5.b2.own_cell nk _ hz
      have q4 := H5.b2.own_free (by omega) nk
      clear hz
      generalize ((sets safe (pend.take k))[nk]'(by rw [sets_len]; exact hnk)).1 = old1 at q3
      go_region
      have H6 := (H5.b2.own_set (i := nk) (by omega) (.slice (some ⟨gk, 0, none⟩) 128 ck)).drew.b1.tail.b1
      have E6 := (E5.set ⟨gS, nk, none⟩ (.slice (some ⟨gk, 0, none⟩) 128 ck)).drew
      have hnx : ((sets safe (pend.take k)).map (·.1)).set nk (.slice (some ⟨gk, 0, none⟩) 128 ck) = (sets safe (pend.take (k + 1))).map (·.1) := by
        rw [List.take_succ_eq_append_getElem hlt, HPK.out, sets_snoc, List.map_set]
      rw [hnx] at H6
      clear hnx q0 q1 q2 q3 q4 H5 E5
      generalize (wx.setCell ⟨gS, nk, none⟩ (.slice (some ⟨gk, 0, none⟩) 128 ck)).drew = wy at *
      go_wp2_with fail
      go_roundw
      case rel => exact ⟨k + 1, by omega, by go_num, H6, E6⟩
      case measure => simp [intOf]; omega
    · obtain rfl : k = pend.length := by omega
      rw [List.take_length] at H4
      have hok := hok.out
      have H5 : Sat wr (dk d B ⟨sets D.safe D.pend, D.pend, D.left.map (· - 1)⟩ :: pool B :: F) :=
        Sat.dk_shut ⟨sets safe (pend.map fun p => (p.1, p.2)), last, pend, stops, after, .slice AS safe.length cS, .slice AP pend.length cP, mb⟩
          ⟨fun p hp => by
            rcases sets_mem hp with h | ⟨n, h⟩
            · exact hok.good p h
            · exact .inr (hok.pgood (n, p) (by simpa using h)).2,
          fun p hp => by have := hok.pgood p hp; simpa [sets_len] using this, hok.last, hok.after, hok.full, by simpa [sets_len] using hok.some_⟩
          (by simp only [Raw.abs, HD1.out, HD2.out, HD3.out, sets_map]; simp) (by simpa [sets_len] using H4)
      go_wp2_with (go_at_call 69; refine (settle_any H5).mono ?_; rintro e w6 ⟨rfl, H6, E6⟩)
      go_ret
      exact ⟨rfl, H6, E4.trans E6⟩
end Go.Proofs.Ythbabdjicplooaa
