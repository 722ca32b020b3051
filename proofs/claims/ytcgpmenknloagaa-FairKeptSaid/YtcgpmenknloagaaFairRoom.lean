/- The books' Roomy and Intact over lanes. Conditions: fewer than 2^32 lanes. -/
import Derived.Test.YtcgpmenknloagaaFairRef
namespace Go.Proofs.Ytcgpmenknloagaa
open Go.RowKit

theorem made_three (x : Value) (N : Nat) : (madeCells #[x, x, x] N).toList = List.replicate N x := by
  apply List.ext_getElem
  · simp [madeCells]
  · intro i h1 h2
    simp only [madeCells, Array.toList_map, Array.toList_range, List.getElem_map, List.getElem_range, List.getElem_replicate]
    have h : i % 3 = 0 ∨ i % 3 = 1 ∨ i % 3 = 2 := by omega
    rcases h with h | h | h <;> simp [h]
theorem flatL_rep (m : Nat) (a : Int) : flatL (List.replicate m (a, a, a)) = List.replicate (m * 3) (.int .i64 a) := by
  induction m with
  | zero => rfl
  | succ m ih => rw [List.replicate_succ, show (m + 1) * 3 = m * 3 + 1 + 1 + 1 by omega, List.replicate_succ, List.replicate_succ, List.replicate_succ, ← ih]; rfl
theorem flatL_put (l : List Lane) (k : Nat) (hk : k < l.length) (a b d : Int) :
    (((flatL l).set (k * 3) (.int .i64 a)).set (k * 3 + 1) (.int .i64 b)).set (k * 3 + 2) (.int .i64 d) = flatL (l.set k (a, b, d)) := by
  induction l generalizing k with
  | nil => simp at hk
  | cons x l ih =>
    cases k with
    | zero => simp [flatL]
    | succ k =>
      have := ih k (by simpa using hk)
      simp only [flatL, List.flatMap_cons, List.set_cons_succ] at this ⊢
      rw [← this]
      simp [Nat.add_mul]
theorem flatL_splice (l : List Lane) (m : Nat) (h : l.length ≤ m) : splice (flatL (List.replicate m (0, 0, 0))) 0 (flatL l) = flatL (l ++ List.replicate (m - l.length) (0, 0, 0)) := by
  simp only [splice, List.take_zero, List.nil_append, Nat.zero_add, flatL_append]
  congr 1
  rw [flatL_rep, flatL_rep, flatL_len, List.drop_replicate]
  congr 1
  omega

/-- Roomy's list on its way: j marks are laid. -/
def roomL (l : List Lane) (x : Lane) (j : Nat) : List Lane := l ++ (List.replicate j x ++ List.replicate (80 - j) (0, 0, 0))
theorem roomL_len (l : List Lane) (x : Lane) (j : Nat) (h : j ≤ 80) : (roomL l x j).length = l.length + 80 := by simp [roomL]; omega
theorem roomL_set (l : List Lane) (x : Lane) (j : Nat) (h : j < 80) : (roomL l x j).set (l.length + j) x = roomL l x (j + 1) := by
  unfold roomL
  rw [List.set_append_right (h := by omega), Nat.add_sub_cancel_left, List.set_append_right (h := by simp), List.length_replicate, Nat.sub_self, show 80 - j = 80 - (j + 1) + 1 by omega, List.replicate_succ, List.set_cons_zero, List.replicate_succ', List.append_assoc]
  rfl
theorem roomL_full (l : List Lane) (x : Lane) : roomL l x 80 = l ++ List.replicate 80 x := by simp [roomL]

set_option maxHeartbeats 4000000 in
set_option maxRecDepth 100000 in
theorem roomy_lane {w : World} {F : List HP} (A : Option Addr) (n c : Nat) (l : List Lane) (p r s : Int) (H : Sat w F) (hr : Reads F 3 A n (flatL l)) (hsz : n < 4294967296) :
    Calls Try.prog 36 #[.slice A n c, .agg #[.int .i64 p, .int .i64 r, .int .i64 s]] w fun e w' => ∃ v, e = .returned v ∧ Sat w' (own 63 3 v (n + 80) (flatL (l ++ List.replicate 80 (p, r, s))) :: F) ∧ Env w w' := by
  have HN := Lib.hid (show n = l.length by have := (hr w H).1; rw [flatL_len] at this; omega)
  have HR := Lib.hid hr
  clear hr
  obtain ⟨m, hm⟩ : ∃ m : Nat, m = n + 80 := ⟨_, rfl⟩
  have hwr : IntKind.i64.wrap ((n : Int) + 80) = (m : Int) := by rw [IntWalk.i64_in _ (by omega)]; omega
  rw [← hm]
  have hmb : n ≤ m ∧ m < 4294967396 := by omega
  have HM := Lib.hid hm
  clear hm
  go_enter Try.func36, Try.ntmps36
  go_wp2_with (first
    | (at_make; go_must (refine wpList_make_sat rfl _ _ 59 rfl (H.alloc (.cells #[.int .i64 p, .int .i64 r, .int .i64 s] 63)) 63 (.agg #[.int .i64 0, .int .i64 0, .int .i64 0]) 3 24 Try.underlying59 Try.info_lane _ _ m rfl rfl (by omega) (by simp only [maxLen]; omega) ?_); intro w2 H2 E2)
    | (show wpList _ _ _ ({ dst := _, op := Op.call { callee := Callee.builtin Builtin.copy, args := _, argTypes := _ }, type := _, pos := _, after := _, guard := _ } :: _) _ _; go_must (refine wpList_copy_sat rfl (.tmp 11) (.tmp 12) 59 59 rfl 63 3 Try.underlying59 (by kernel_rfl) H2 _ _ _ _ _ _ rfl rfl 0 n (flatL l) (Nat.min_eq_left (by omega)).symm (fun _ => by simp) (HR.out _ H2.tail.tail) (by have h1 := flatL_len l; have h2 := size_madeCells (Value.agg #[Value.int .i64 0, Value.int .i64 0, Value.int .i64 0]).cells (m * 3); rw [← Array.length_toList] at h2; have := HN.out; omega) (flatL_one l) ?_); intro w3 H3 E3))
  replace H3 : Sat w3 (own 63 3 (.slice (some ⟨w.heap.size + 1, 0, none⟩) m m) m (splice (flatL (List.replicate m (0, 0, 0))) 0 (flatL l)) :: row w.heap.size 63 #[.int .i64 p, .int .i64 r, .int .i64 s] :: F) := by
    have HZ : (madeCells (Value.agg #[.int .i64 0, .int .i64 0, .int .i64 0]).cells (m * 3)).toList = flatL (List.replicate m (0, 0, 0)) := by rw [flatL_rep]; exact made_three _ _
    rw [HZ, show (w.alloc (.cells #[.int .i64 p, .int .i64 r, .int .i64 s] 63)).heap.size = w.heap.size + 1 by simp] at H3
    exact H3
  have E3' := (((Env.refl w).alloc (.cells #[.int .i64 p, .int .i64 r, .int .i64 s] 63)).trans E2).trans E3
  generalize w.heap.size = bx at *
  replace H3 : Sat w3 (own 63 3 (.slice (some ⟨bx + 1, 0, none⟩) m m) m (flatL (roomL l (p, r, s) 0)) :: row bx 63 #[.int .i64 p, .int .i64 r, .int .i64 s] :: F) := by
    rw [flatL_splice _ _ (by have := HN.out; omega), show m - l.length = 80 by have := HN.out; have := HM.out; omega] at H3
    simpa [roomL] using H3
  clear H2 E3 E2
  generalize bx + 1 = g at *
  go_loopw [6] (fun i wr => ∃ k : Nat, k ≤ m ∧ n ≤ k ∧ i = .int .i64 k ∧ Sat wr (own 63 3 (.slice (some ⟨g, 0, none⟩) m m) m (flatL (roomL l (p, r, s) (k - n))) :: row bx 63 #[.int .i64 p, .int .i64 r, .int .i64 s] :: F) ∧ Env w wr) (fun i _ => m - (intOf i).toNat)
  case atStart => exact ⟨n, by omega, by omega, rfl, by rw [Nat.sub_self]; exact H3, E3'⟩
  case round =>
    obtain ⟨k, hk, hk2, rfl, H4, E4⟩ := hrel
    by_cases hlt : k < m
    · have x1 := H4.b1.cell 0
      have x2 := H4.b1.cell 1
      have x3 := H4.b1.cell 2
      have f1 := H4.own_free (by omega) (k * 3)
      have f2 := H4.own_free (by omega) (k * 3 + 1)
      have f3 := H4.own_free (by omega) (k * 3 + 2)
      have hkr : k < (roomL l (p, r, s) (k - n)).length := by rw [roomL_len _ _ _ (by have := HM.out; omega)]; have := HN.out; have := HM.out; omega
      have c1 := H4.own_cell _ _ (flatL_get _ k hkr).1
      have c2 := H4.own_cell _ _ (flatL_get _ k hkr).2.1
      have c3 := H4.own_cell _ _ (flatL_get _ k hkr).2.2
      have H5 := ((H4.own_set (i := k * 3) (by omega) (.int .i64 p)).own_set (i := k * 3 + 1) (by omega) (.int .i64 r)).own_set (i := k * 3 + 2) (by omega) (.int .i64 s)
      have E5 := ((E4.set ⟨g, k * 3, none⟩ (.int .i64 p)).set ⟨g, k * 3 + 1, none⟩ (.int .i64 r)).set ⟨g, k * 3 + 2, none⟩ (.int .i64 s)
      rw [flatL_put _ _ hkr] at H5
      have hset : (roomL l (p, r, s) (k - n)).set k (p, r, s) = roomL l (p, r, s) (k + 1 - n) := by
        have := roomL_set l (p, r, s) (k - n) (by have := HM.out; omega)
        rw [show l.length + (k - n) = k by have := HN.out; omega, show k - n + 1 = k + 1 - n by omega] at this
        exact this
      rw [hset] at H5
      clear hset
      generalize (roomL l (p, r, s) (k - n))[k] = old3 at c1 c2 c3
      clear hkr
      have HS5 := Lib.hid H5
      have HE5 := Lib.hid E5
      clear H5 E5

      go_wp2_with fail
      go_roundw
      case rel => exact ⟨k + 1, by omega, by omega, by go_num, HS5.out, HE5.out⟩
      case measure => simp [intOf]; omega
    · obtain rfl : k = m := by omega
      go_wp2_with fail
      go_ret
      refine ⟨_, rfl, ?_, E4⟩
      have := H4.b1.tail
      rwa [show k - n = 80 by have := HM.out; omega, roomL_full] at this

set_option maxHeartbeats 4000000 in
set_option maxRecDepth 100000 in
theorem intact_lane {w : World} {F : List HP} (A B : Option Addr) (n m c d : Nat) (l : List Lane) (p r s : Int) (hm : m = n + 80) (H : Sat w F) (hr : Reads F 3 A m (flatL (l ++ List.replicate 80 (p, r, s)))) (hr2 : Reads F 3 B n (flatL l)) (hsz : n < 4294967296) (hc : n ≤ c) :
    Calls Try.prog 39 #[.slice A m c, .slice B n d, .agg #[.int .i64 p, .int .i64 r, .int .i64 s]] w fun e w' => e = .returned (.bool true) ∧ Sat w' F ∧ Env w w' := by
  have HN := Lib.hid (show n = l.length by have := (hr2 w H).1; rw [flatL_len] at this; omega)
  have HR := Lib.hid hr
  have HR2 := Lib.hid hr2
  clear hr hr2
  have hwr : IntKind.i64.wrap ((n : Int) + 80) = (m : Int) := by rw [IntWalk.i64_in _ (by omega)]; omega
  have hmb : n ≤ m ∧ m < 4294967396 := by omega
  have HM := Lib.hid hm
  clear hm
  have hk0 : (0 : Int) ≤ (n : Int) := by omega
  have hkc : (n : Int) ≤ (c : Int) := by omega
  go_enter Try.func39, Try.ntmps39
  go_wp2_with fail
  have H1 := H.alloc (.cells #[.int .i64 p, .int .i64 r, .int .i64 s] 63)
  have hrd : Rd (w.alloc (.cells #[.int .i64 p, .int .i64 r, .int .i64 s] 63)) 3 A n (flatL l) := by
    have := (HR.out _ H1.tail).take (m := n) (by omega)
    rwa [flatL_append, List.take_left' (by rw [flatL_len, HN.out])] at this
  refine (same_lane A B n _ d l _ (by omega) hrd (HR2.out _ H1.tail)).mono ?_
  have E1 := (Env.refl w).alloc (.cells #[.int .i64 p, .int .i64 r, .int .i64 s] 63)
  rintro e w2 ⟨rfl, q, rfl⟩
  have H2 := H1.drewN q
  replace E1 := E1.drewN q
  clear H1 hrd
  generalize (w.alloc (.cells #[.int .i64 p, .int .i64 r, .int .i64 s] 63)).drewN q = w2 at *
  generalize w.heap.size = bx at *
  go_wp2_with fail
  have hne := neLane p r s p r s
  go_loopw [7] (fun i wr => ∃ k : Nat, k ≤ m ∧ n ≤ k ∧ i = .int .i64 k ∧ Sat wr (row bx 63 #[.int .i64 p, .int .i64 r, .int .i64 s] :: F) ∧ Env w wr) (fun i _ => m - (intOf i).toNat)
  case atStart => exact ⟨n, by omega, by omega, rfl, H2, E1⟩
  case round =>
    obtain ⟨k, hk, hk2, rfl, H4, E4⟩ := hrel
    by_cases hlt : k < m
    · have x1 := H4.cell 0
      have x2 := H4.cell 1
      have x3 := H4.cell 2
      obtain ⟨b, off, rfl⟩ := rd3_at (HR.out _ H4.tail) (by omega)
      obtain ⟨y1, y2, y3⟩ := rd3 (HR.out _ H4.tail) (k := k) (p := p) (r := r) (s := s) (by rw [List.length_append, List.length_replicate]; have := HN.out; have := HM.out; omega) (by
        rw [List.getElem_append_right (by have := HN.out; omega)]; exact List.getElem_replicate _)
      go_wp2_with fail
      go_quiet (fail)
      go_wp2_with fail
      go_roundw
      case rel => exact ⟨k + 1, by omega, by omega, by go_num, H4.drewN _, E4.drewN _⟩
      case measure => simp [intOf]; omega
    · go_wp2_with fail
      go_ret
      exact ⟨rfl, H4.tail, E4⟩
end Go.Proofs.Ytcgpmenknloagaa
