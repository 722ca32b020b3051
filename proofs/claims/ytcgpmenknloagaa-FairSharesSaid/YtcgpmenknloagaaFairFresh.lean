/- deponentbook.Within and deponentlaw16.fresh. Conditions: fewer than 2^32 numbers. -/
import Derived.Test.YtcgpmenknloagaaFairLawA
namespace Go.Proofs.Ytcgpmenknloagaa
open Go.RowKit

theorem ret_int' {k : IntKind} {a b : Int} (h : a = b) : Ending.returned (.int k a) = .returned (.int k b) := by rw [h]
def within (n lo hi : Int) : Int := lo + n % (hi - lo + 1)
theorem within_range (n : Int) {lo hi : Int} (h : lo ≤ hi) : lo ≤ within n lo hi ∧ within n lo hi ≤ hi := by
  unfold within
  have h1 := Int.emod_nonneg n (b := hi - lo + 1) (by omega)
  have h2 := Int.emod_lt_of_pos n (b := hi - lo + 1) (by omega)
  omega

set_option maxHeartbeats 1000000 in
theorem within_any (n lo hi : Int) (w : World) (hlo : -1099511627776 ≤ lo) (hlh : lo ≤ hi) (hhi : hi ≤ 1099511627776) :
    Calls Try.prog 42 #[.int .i64 n, .int .i64 lo, .int .i64 hi] w fun e w' => e = .returned (.int .i64 (within n lo hi)) ∧ w = w' := by
  obtain ⟨m, hm, r1⟩ : ∃ m : Int, hi - lo + 1 = m ∧ m = hi - lo + 1 := ⟨_, rfl, rfl⟩
  have hmr : 1 ≤ m ∧ m ≤ 2199023255553 := by omega
  obtain ⟨t, ht, r2⟩ : ∃ t : Int, n.tmod m = t ∧ t = n.tmod m := ⟨_, rfl, rfl⟩
  have htr : -m < t ∧ t < m := by
    rw [r2]
    exact ⟨Int.neg_lt_of_neg_lt (by have := Int.tmod_lt_of_pos (-n) (b := m) (by omega); rwa [Int.neg_tmod] at this), Int.tmod_lt_of_pos n (by omega)⟩
  have HW := Lib.hid (show within n lo hi = lo + (if t < 0 then t + m else t) by
    unfold within
    rw [← r1]
    have h1 : n % m = t % m := by
      rw [r2]
      conv => lhs; rw [← Int.tmod_add_mul_tdiv n m]
      rw [Int.add_mul_emod_self_left]
    rw [h1]
    split
    · rw [← Int.add_emod_right, Int.emod_eq_of_lt (by omega) (by omega)]
    · rw [Int.emod_eq_of_lt (by omega) (by omega)])
  clear r1 r2
  go_enter Try.func42, Try.ntmps42
  go_wp2
  all_goals
    go_ret
    refine ⟨ret_int' ?_, rfl⟩
    rw [HW.out]
    first
      | (rw [if_pos (by assumption)]; show lo + (t + hi - lo + 1) = _; omega)
      | (rw [if_neg (by omega)])

/-- The lanes that fresh makes of numbers. -/
def freshLane (ws bs : List Int) (i : Nat) : Lane := (within (ws.getD i 0) 0 4, (if i < bs.length then within (bs.getD i 0) 0 60 else 0), 0)
def freshL (ws bs : List Int) (k : Nat) : List Lane := (List.range k).map (freshLane ws bs)
def part (l : List Lane) : Nat := (l.filter fun x => decide (0 < x.1)).length
theorem freshL_succ (ws bs : List Int) (k : Nat) : freshL ws bs (k + 1) = freshL ws bs k ++ [freshLane ws bs k] := by simp [freshL, List.range_succ]
theorem freshL_len (ws bs : List Int) (k : Nat) : (freshL ws bs k).length = k := by simp [freshL]
theorem part_snoc (l : List Lane) (x : Lane) : part (l ++ [x]) = part l + if 0 < x.1 then 1 else 0 := by
  unfold part
  rw [List.filter_append, List.length_append]
  by_cases h : 0 < x.1 <;> simp [h]
theorem part_le (l : List Lane) : part l ≤ l.length := List.length_filter_le _ _
theorem freshLane_range (ws bs : List Int) (i : Nat) : (0 ≤ (freshLane ws bs i).1 ∧ (freshLane ws bs i).1 ≤ 4) ∧ (0 ≤ (freshLane ws bs i).2.1 ∧ (freshLane ws bs i).2.1 ≤ 60) ∧ (freshLane ws bs i).2.2 = 0 := by
  unfold freshLane
  have h1 := within_range (ws.getD i 0) (lo := 0) (hi := 4) (by omega)
  have h2 := within_range (bs.getD i 0) (lo := 0) (hi := 60) (by omega)
  refine ⟨h1, ?_, rfl⟩
  dsimp only
  split
  · exact h2
  · omega

set_option maxHeartbeats 4000000 in
set_option maxRecDepth 100000 in
theorem fresh_any {w : World} {F : List HP} (A B : Option Addr) (n m c d : Nat) (ws bs : List Int) (H : Sat w F) (hr : Reads F 1 A n (ws.map (Value.int .i64))) (hr2 : Reads F 1 B m (bs.map (Value.int .i64))) :
    Calls Try.prog 41 #[.slice A n c, .slice B m d] w fun e w' => ∃ v, e = .returned (.tuple #[v, .int .i64 (part (freshL ws bs (min n 12)))]) ∧ Sat w' (own 63 3 v (min n 12) (flatL (freshL ws bs (min n 12))) :: F) ∧ Env w w' := by
  have HN := Lib.hid (show n = ws.length by have := (hr w H).1; simpa using this.symm)
  have HM := Lib.hid (show m = bs.length by have := (hr2 w H).1; simpa using this.symm)
  have HR := Lib.hid hr
  have HR2 := Lib.hid hr2
  clear hr hr2
  go_enter Try.func41, Try.ntmps41
  go_wp2_with fail
  go_loopw [6, 7, 8] (fun v cnt i wr => ∃ k : Nat, k ≤ n ∧ k ≤ 12 ∧ i = .int .i64 k ∧ cnt = .int .i64 (part (freshL ws bs k)) ∧ Sat wr (own 63 3 v k (flatL (freshL ws bs k)) :: F) ∧ Env w wr) (fun _ _ i _ => 12 - (intOf i).toNat)
  case atStart => exact ⟨0, by omega, by omega, rfl, rfl, H.own_nil _ _, Env.refl w⟩
  case round =>
    obtain ⟨k, hk, hk2, rfl, rfl, H1, E1⟩ := hrel
    obtain ⟨A1, c1, rfl, -, -, -⟩ := H1.own_form
    by_cases hlt : k < n
    · by_cases hlt2 : k < 12
      · have hkw : k < ws.length := by have := HN.out; omega
        obtain ⟨b, off, rfl, hcell⟩ := (HR.out wr H1.tail).2 k (.int .i64 ws[k]) (by simp [hkw])
        have HWk := Lib.hid (show ws.getD k 0 = ws[k] by simp [hkw])
        generalize ws[k] = wk at hcell HWk
        have hpl := part_le (freshL ws bs k)
        rw [freshL_len] at hpl
        have hrange := within_range wk (lo := 0) (hi := 4) (by omega)
        go_wp2_with fail
        refine (within_any wk 0 4 _ (by omega) (by omega) (by omega)).mono ?_
        rintro e w2 ⟨rfl, rfl⟩
        by_cases hlm : k < m
        · have hkb : k < bs.length := by have := HM.out; omega
          obtain ⟨b2, off2, rfl, hcell2⟩ := (HR2.out wr H1.tail).2 k (.int .i64 bs[k]) (by simp [hkb])
          have HBk := Lib.hid (show bs.getD k 0 = bs[k] by simp [hkb])
          generalize bs[k] = bk at hcell2 HBk
          have hblt := block_lt_of_cell hcell2
          go_wp2_with fail
          refine (within_any bk 0 60 _ (by omega) (by omega) (by omega)).mono ?_
          rintro e w2 ⟨rfl, rfl⟩
          go_wp2_with (at_builtin; go_must (refine wpList_append_sat rfl (.tmp 41) (.tmp 43) 59 rfl ((H1.alloc' _).alloc' _) rfl _ 24 Try.underlying59 Try.info_lane rfl (by omega) _ _ _ [.int .i64 (within wk 0 4), .int .i64 (within bk 0 60), .int .i64 0] rfl (by simp) rfl (Rd.src (k := 3) (n := 1) ⟨rfl, fun j u hu => by
            match j, hu with
            | 0, hu => simp at hu; subst hu; exact ⟨_, _, rfl, by simp [go_sem]⟩
            | 1, hu => simp at hu; subst hu; exact ⟨_, _, rfl, by simp [go_sem]⟩
            | 2, hu => simp at hu; subst hu; exact ⟨_, _, rfl, by simp [go_sem]⟩⟩) (by simp [Value.oneCell']) (by simp only [maxLen]; omega) (by omega) ?_); intro v5 w5 H5 E5)
          all_goals
            have hfl : freshLane ws bs k = (within wk 0 4, (within bk 0 60), 0) := by unfold freshLane; rw [HWk.out]; rw [if_pos hkb, HBk.out]
            have HP := Lib.hid (show part (freshL ws bs (k + 1)) = part (freshL ws bs k) + if 0 < within wk 0 4 then 1 else 0 by rw [freshL_succ, part_snoc, hfl])
            replace H5 : Sat w5 (own 63 3 v5 (k + 1) (flatL (freshL ws bs (k + 1))) :: F) := by rw [freshL_succ, hfl, flatL_append]; exact H5
            clear hfl
            obtain ⟨A5, c5, rfl, -, -, -⟩ := H5.own_form
            go_wp2_with fail
            go_roundw
            case rel =>
              refine ⟨k + 1, by omega, by omega, by go_num, ?_, H5, ((E1.alloc _).alloc _).trans E5⟩
              rw [HP.out]
              first
                | (rw [if_pos (by assumption)]; go_num)
                | (rw [if_neg (by omega)]; go_num)
            case measure => simp [intOf]; omega
        · have hkb : ¬ k < bs.length := by have := HM.out; omega
          go_wp2_with (at_builtin; go_must (refine wpList_append_sat rfl (.tmp 41) (.tmp 43) 59 rfl ((H1.alloc' _).alloc' _) rfl _ 24 Try.underlying59 Try.info_lane rfl (by omega) _ _ _ [.int .i64 (within wk 0 4), .int .i64 0, .int .i64 0] rfl (by simp) rfl (Rd.src (k := 3) (n := 1) ⟨rfl, fun j u hu => by
            match j, hu with
            | 0, hu => simp at hu; subst hu; exact ⟨_, _, rfl, by simp [go_sem]⟩
            | 1, hu => simp at hu; subst hu; exact ⟨_, _, rfl, by simp [go_sem]⟩
            | 2, hu => simp at hu; subst hu; exact ⟨_, _, rfl, by simp [go_sem]⟩⟩) (by simp [Value.oneCell']) (by simp only [maxLen]; omega) (by omega) ?_); intro v5 w5 H5 E5)
          all_goals
            have hfl : freshLane ws bs k = (within wk 0 4, 0, 0) := by unfold freshLane; rw [HWk.out]; rw [if_neg hkb]
            have HP := Lib.hid (show part (freshL ws bs (k + 1)) = part (freshL ws bs k) + if 0 < within wk 0 4 then 1 else 0 by rw [freshL_succ, part_snoc, hfl])
            replace H5 : Sat w5 (own 63 3 v5 (k + 1) (flatL (freshL ws bs (k + 1))) :: F) := by rw [freshL_succ, hfl, flatL_append]; exact H5
            clear hfl
            obtain ⟨A5, c5, rfl, -, -, -⟩ := H5.own_form
            go_wp2_with fail
            go_roundw
            case rel =>
              refine ⟨k + 1, by omega, by omega, by go_num, ?_, H5, ((E1.alloc _).alloc _).trans E5⟩
              rw [HP.out]
              first
                | (rw [if_pos (by assumption)]; go_num)
                | (rw [if_neg (by omega)]; go_num)
            case measure => simp [intOf]; omega
      · obtain rfl : k = 12 := by omega
        have hmin := Lib.hid (show min n 12 = 12 by omega)
        go_wp2_with fail
        go_ret2
        rw [hmin.out]
        exact ⟨_, rfl, H1, E1⟩
    · obtain rfl : k = n := by omega
      go_wp2_with fail
      go_ret2
      rw [Nat.min_eq_left hk2]
      exact ⟨_, rfl, H1, E1⟩
end Go.Proofs.Ytcgpmenknloagaa
