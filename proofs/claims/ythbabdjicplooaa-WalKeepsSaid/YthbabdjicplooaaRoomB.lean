/- The books' Roomy and Intact over bytes. Conditions: fewer than 2^32 bytes. -/
import Derived.Test.YthbabdjicplooaaSameB
import Derived.Test.YthbabdjicplooaaDiskOne
namespace Go.Proofs.Ythbabdjicplooaa
open Go.RowKit

/-- Roomy's list on its way: j marks are laid. -/
def roomB (l : List Int) (x : Int) (j : Nat) : List Int := l ++ (List.replicate j x ++ List.replicate (80 - j) 0)
theorem roomB_len (l : List Int) (x : Int) (j : Nat) (h : j ≤ 80) : (roomB l x j).length = l.length + 80 := by simp [roomB]; omega
theorem roomB_set (l : List Int) (x : Int) (j : Nat) (h : j < 80) : (roomB l x j).set (l.length + j) x = roomB l x (j + 1) := by
  unfold roomB
  rw [List.set_append_right (h := by omega), Nat.add_sub_cancel_left, List.set_append_right (h := by simp), List.length_replicate, Nat.sub_self, show 80 - j = 80 - (j + 1) + 1 by omega, List.replicate_succ, List.set_cons_zero, List.replicate_succ', List.append_assoc]
  rfl
theorem roomB_full (l : List Int) (x : Int) : roomB l x 80 = l ++ List.replicate 80 x := by simp [roomB]
theorem bytes_splice (l : List Int) (m : Nat) (h : l.length ≤ m) : splice (bytes (List.replicate m 0)) 0 (bytes l) = bytes (l ++ List.replicate (m - l.length) 0) := by
  simp only [splice, List.take_zero, List.nil_append, Nat.zero_add, bytes, List.map_append, List.length_map]
  congr 1
  rw [← List.map_drop, List.drop_replicate]

set_option maxHeartbeats 4000000 in
set_option maxRecDepth 100000 in
theorem roomy_byte {w : World} {F : List HP} (A : Option Addr) (n c : Nat) (l : List Int) (x : Int) (H : Sat w F) (hr : Reads F 1 A n (bytes l)) (hsz : n < 4294967296) :
    Calls Try.prog 38 #[.slice A n c, .int .u8 x] w fun e w' => ∃ v, e = .returned v ∧ Sat w' (own 5 1 v (n + 80) (bytes (l ++ List.replicate 80 x)) :: F) ∧ Env w w' := by
  have HN := Lib.hid (show n = l.length by have := (hr w H).1; rw [bytes_len] at this; omega)
  have HR := Lib.hid hr
  clear hr
  obtain ⟨m, hm⟩ : ∃ m : Nat, m = n + 80 := ⟨_, rfl⟩
  have hwr : IntKind.i64.wrap ((n : Int) + 80) = (m : Int) := by rw [IntWalk.i64_in _ (by omega)]; omega
  rw [← hm]
  have hmb : n ≤ m ∧ m < 4294967396 := by omega
  have HM := Lib.hid hm
  clear hm
  go_enter Try.func38, Try.ntmps38
  go_wp2_with (first
    | (at_make; go_must (refine wpList_make_sat rfl _ _ 30 rfl H 5 (.int .u8 0) 1 1 Try.underlying30 Try.info_byte _ _ m rfl rfl (by omega) (by simp only [maxLen]; omega) ?_); intro w2 H2 E2; rw [made_byte] at H2)
    | (show wpList _ _ _ ({ dst := _, op := Op.call { callee := Callee.builtin Builtin.copy, args := _, argTypes := _ }, type := _, pos := _, after := _, guard := _ } :: _) _ _; go_must (refine wpList_copy_sat rfl (.tmp 11) (.tmp 12) 30 30 rfl 5 1 Try.underlying30 (by kernel_rfl) H2 _ _ _ _ _ _ rfl rfl 0 n (bytes l) (Nat.min_eq_left (by omega)).symm (fun _ => rfl) (HR.out _ H2.tail) (by have := HN.out; simp only [bytes, List.length_map, List.length_replicate]; omega) (bytes_one l) ?_); intro w3 H3 E3))
  rw [bytes_splice _ _ (by have := HN.out; omega), show m - l.length = 80 by have := HN.out; have := HM.out; omega] at H3
  have E3' := E2.trans E3
  generalize w.heap.size = g at *
  replace H3 : Sat w3 (own 5 1 (.slice (some ⟨g, 0, none⟩) m m) m (bytes (roomB l x 0)) :: F) := by simpa [roomB] using H3
  clear H2 E3 E2
  go_loopw [6] (fun i wr => ∃ k : Nat, k ≤ m ∧ n ≤ k ∧ i = .int .i64 k ∧ Sat wr (own 5 1 (.slice (some ⟨g, 0, none⟩) m m) m (bytes (roomB l x (k - n))) :: F) ∧ Env w wr) (fun i _ => m - (intOf i).toNat)
  case atStart => exact ⟨n, by omega, by omega, rfl, by rw [Nat.sub_self]; exact H3, E3'⟩
  case round =>
    clear H3 E3'
    obtain ⟨k, hk, hk2, rfl, H4, E4⟩ := hrel
    by_cases hlt : k < m
    · have f1 := H4.own_free (by omega) k
      have hkr : k < (roomB l x (k - n)).length := by rw [roomB_len _ _ _ (by have := HM.out; omega)]; have := HN.out; have := HM.out; omega
      have c1 := H4.own_cell k (.int .u8 (roomB l x (k - n))[k]) (by simp [bytes, hkr])
      have H5 := H4.own_set (i := k) (by omega) (.int .u8 x)
      have E5 := E4.set ⟨g, k, none⟩ (.int .u8 x)
      have hset : (bytes (roomB l x (k - n))).set k (.int .u8 x) = bytes (roomB l x (k + 1 - n)) := by
        have := roomB_set l x (k - n) (by have := HM.out; omega)
        rw [show l.length + (k - n) = k by have := HN.out; omega, show k - n + 1 = k + 1 - n by omega] at this
        rw [← this, bytes, bytes, List.map_set]
      rw [hset] at H5
      clear hset
      generalize (roomB l x (k - n))[k] = old1 at c1
      clear hkr
      have HS5 := Lib.hid H5
      have HE5 := Lib.hid E5
      clear H5 E5
      go_wp2_with fail
      go_roundw
      case rel => exact ⟨k + 1, by omega, by omega, by go_num, HS5.out, HE5.out⟩
      case measure => simp [intOf]; omega
    · obtain rfl : k = m := by omega
      go_wp2_with fail
      go_ret
      refine ⟨_, rfl, ?_, E4⟩
      rwa [show k - n = 80 by have := HM.out; omega, roomB_full] at H4

set_option maxHeartbeats 4000000 in
set_option maxRecDepth 100000 in
theorem intact_byte {w : World} {F : List HP} (A B : Option Addr) (n m c d : Nat) (l : List Int) (x : Int) (hm : m = n + 80) (H : Sat w F) (hr : Reads F 1 A m (bytes (l ++ List.replicate 80 x))) (hr2 : Reads F 1 B n (bytes l)) (hsz : n < 4294967296) (hc : n ≤ c) :
    Calls Try.prog 40 #[.slice A m c, .slice B n d, .int .u8 x] w fun e w' => e = .returned (.bool true) ∧ Sat w' F ∧ Env w w' := by
  have HN := Lib.hid (show n = l.length by have := (hr2 w H).1; rw [bytes_len] at this; omega)
  have HR := Lib.hid hr
  have HR2 := Lib.hid hr2
  clear hr hr2
  have hwr : IntKind.i64.wrap ((n : Int) + 80) = (m : Int) := by rw [IntWalk.i64_in _ (by omega)]; omega
  have hmb : n ≤ m ∧ m < 4294967396 := by omega
  have HM := Lib.hid hm
  clear hm
  have hk0 : (0 : Int) ≤ (n : Int) := by omega
  have hkc : (n : Int) ≤ (c : Int) := by omega
  go_enter Try.func40, Try.ntmps40
  go_wp2_with fail
  have hrd : Rd w 1 A n (bytes l) := by
    have := (HR.out _ H).take (m := n) (by omega)
    rwa [Nat.mul_one, bytes, List.map_append, List.take_left' (by rw [List.length_map, HN.out])] at this
  refine (same_byte A B n _ d l _ (by omega) hrd (HR2.out _ H)).mono ?_
  rintro e w2 ⟨rfl, q, rfl⟩
  have H2 := H.drewN q
  have E1 := (Env.refl w).drewN q
  clear hrd H
  generalize w.drewN q = w2 at *
  go_wp2_with fail
  go_loopw [7] (fun i wr => ∃ k : Nat, k ≤ m ∧ n ≤ k ∧ i = .int .i64 k ∧ wr = w2) (fun i _ => m - (intOf i).toNat)
  case atStart => exact ⟨n, by omega, by omega, rfl, rfl⟩
  case round =>
    obtain ⟨k, hk, hk2, rfl, rfl⟩ := hrel
    by_cases hlt : k < m
    · obtain ⟨b, off, rfl, y1⟩ := (HR.out _ H2).2 k (.int .u8 x) (by
        have h1 := HN.out; have h2 := HM.out
        rw [bytes, List.getElem?_map, List.getElem?_append_right (by omega), List.getElem?_replicate, if_pos (by omega)]; rfl)
      go_wp2_with fail
      go_roundw
      case rel => exact ⟨k + 1, by omega, by omega, by go_num, trivial⟩
      case measure => simp [intOf]; omega
    · go_wp2_with fail
      go_ret
      exact ⟨rfl, H2, E1⟩
end Go.Proofs.Ythbabdjicplooaa
