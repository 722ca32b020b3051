/- FairServes's walk: fair.Serve and fair.Wait answer as deponentref16's. Conditions: fewer than 2^32 lanes. -/
import Derived.Test.YtcgpmenknloagaaFairRServe
import Derived.Deep.Strs
namespace Go.Proofs.Ytcgpmenknloagaa
open Go.RowKit Go.WideShapes

theorem smallL_len (l : List Lane) : (smallL l).length = min l.length 20 := by simp [smallL]; omega

/-- Either no lane takes part or one has its turn. -/
theorem turns_or (l : List Lane) (s : Nat) (hs : s < l.length ∨ s = 0) : (∀ x ∈ l, x.1 < 1) ∨ ∃ k i, Turns l s k i := by
  rcases Nat.eq_zero_or_pos l.length with h0 | h0
  · left; intro x hx; rw [List.length_eq_zero_iff.1 h0] at hx; cases hx
  by_cases hall : ∀ x ∈ l, x.1 < 1
  · exact .inl hall
  right
  have hex : ∃ k, k < l.length ∧ ∃ h : (s + k) % l.length < l.length, 1 ≤ l[(s + k) % l.length].1 := by
    have : ∃ x ∈ l, 1 ≤ x.1 := by
      apply Classical.byContradiction
      intro hno
      apply hall
      intro x hx
      apply Classical.byContradiction
      intro h1
      exact hno ⟨x, hx, by omega⟩
    obtain ⟨x, hx, h1⟩ := this
    obtain ⟨i, hi, rfl⟩ := List.getElem_of_mem hx
    refine ⟨(i + (l.length - s)) % l.length, Nat.mod_lt _ h0, Nat.mod_lt _ h0, ?_⟩
    have he : (s + (i + (l.length - s)) % l.length) % l.length = i := by
      rw [Nat.add_mod_mod, show s + (i + (l.length - s)) = i + l.length by omega, Nat.add_mod_right, Nat.mod_eq_of_lt hi]
    simp only [he]
    exact h1
  obtain ⟨k, ⟨hk, hk2⟩, hmin⟩ : ∃ k, (k < l.length ∧ ∃ h : (s + k) % l.length < l.length, 1 ≤ l[(s + k) % l.length].1) ∧ ∀ j, j < k → ¬ (j < l.length ∧ ∃ h : (s + j) % l.length < l.length, 1 ≤ l[(s + j) % l.length].1) := by
    obtain ⟨k0, hk0⟩ := hex
    induction k0 using Nat.strongRecOn with
    | _ k0 ih =>
      by_cases hh : ∃ j, j < k0 ∧ (j < l.length ∧ ∃ h : (s + j) % l.length < l.length, 1 ≤ l[(s + j) % l.length].1)
      · obtain ⟨j, hj, hj2⟩ := hh
        exact ih j hj hj2
      · exact ⟨k0, hk0, fun j hj h => hh ⟨j, hj, h⟩⟩
  refine ⟨k, (s + k) % l.length, hk, rfl, hk2, fun j hj h => ?_⟩
  have := hmin j hj
  apply Classical.byContradiction
  intro hge
  exact this ⟨by omega, h, by omega⟩

theorem serves_same (l : List Lane) (hs : Small l) (n : Nat) (hn : n = l.length) (hsz : n < 4294967296) (at_ q : Int) (hat : -9223372036854775808 ≤ at_ ∧ at_ ≤ 9223372036854775807) :
    ∃ (ti tk tn : Int) (M : List Lane), M.length = n ∧
      (∀ (w : World) (F : List HP) (A : Option Addr) (c : Nat), Sat w F → Reads F 3 A n (flatL l) →
        Calls Try.prog 32 #[.slice A n c, .int .i64 at_, .int .i64 q] w fun e w' => ∃ v, e = .returned (.tuple #[.agg #[.int .i64 ti, .int .i64 tk, .int .i64 tn], v]) ∧ Sat w' (own 63 3 v n (flatL M) :: F) ∧ Env w w') ∧
      (∀ (w : World) (F : List HP) (A : Option Addr) (c : Nat), Sat w F → Reads F 3 A n (flatL l) →
        Calls Try.prog 37 #[.slice A n c, .int .i64 at_, .int .i64 q] w fun e w' => ∃ v, e = .returned (.tuple #[.agg #[.int .i64 ti, .int .i64 tk, .int .i64 tn], v]) ∧ Sat w' (own 73 3 v n (flatL M) :: F) ∧ Env w w') := by
  have hb : begins n at_ < l.length ∨ begins n at_ = 0 := by
    unfold begins
    split
    · right; rfl
    · left; omega
  rcases turns_or l (begins n at_) hb with hno | ⟨k, i, ht⟩
  · exact ⟨_, _, _, l, hn.symm, fun w F A c H hr => serve_none A n c l at_ q H hr hsz hat hno, fun w F A c H hr => rserve_none A n c l at_ q H hr hsz hat hno⟩
  · have hi : i < l.length := ht.2.2.1.1
    exact ⟨_, _, _, l.set i (served q l[i]), by simp [hn], fun w F A c H hr => serve_hit A n c l at_ q H hr hsz hat hs k i hn hi ht, fun w F A c H hr => rserve_hit A n c l at_ q H hr hsz hat hs k i hn hi ht⟩

set_option maxHeartbeats 8000000 in
set_option maxRecDepth 100000 in
theorem fairServes_any {w : World} {F : List HP} (A : Option Addr) (n c : Nat) (l : List Lane) (at_ q ah wt nn : Int) (H : Sat w F) (hr : Reads F 3 A n (flatL l))
    (hat : -9223372036854775808 ≤ at_ ∧ at_ ≤ 9223372036854775807) :
    Calls Try.prog 8 #[.slice A n c, .int .i64 at_, .int .i64 q, .int .i64 ah, .int .i64 wt, .int .i64 nn] w fun e w' => e = .returned (.bool true) ∧ Sat w' F ∧ Env w w' := by
  have hln : n = l.length := by have := (hr w H).1; rw [flatL_len] at this; omega
  have HS1 := Lib.hid (small_any A n c l H hr)
  clear hr H
  obtain ⟨m, hm⟩ : ∃ m, min n 20 = m := ⟨_, rfl⟩
  have hm20 : m ≤ 20 := by omega
  have hLl : (smallL l).length = m := by rw [smallL_len, ← hln, hm]
  rw [hm] at HS1
  have hLs := smallL_small l
  generalize smallL l = L at *
  clear hm hln
  obtain ⟨ti, tk, tn, M, hM, hS, hRS⟩ := serves_same L hLs m hLl.symm (by omega) at_ q hat
  have HM := Lib.hid hM
  have HS := Lib.hid hS
  have HRS := Lib.hid hRS
  have HL := Lib.hid hLl
  clear hM hS hRS hLs hat hLl
  go_enter Try.func8, Try.ntmps8
  go_wp2_with fail
  refine HS1.out.mono ?_
  clear HS1
  rintro e w1 ⟨v1, rfl, H1, E1⟩
  obtain ⟨A1, c1, rfl, -, -, -⟩ := H1.own_form
  go_wp2_with fail
  refine (roomy_lane A1 m c1 L (-7) 0 0 H1 (fun w H => H.own_at.1) (by omega)).mono ?_
  rintro e w2 ⟨v2, rfl, H2, E2⟩
  obtain ⟨g2, c2, rfl, hc2⟩ := H2.own_addr (by omega)
  have hk0 : (0 : Int) ≤ (m : Int) := by omega
  have hkc : (m : Int) ≤ (c2 : Int) := by omega
  go_wp2_with fail
  refine (HS.out w2 _ (some ⟨g2, 0, none⟩) c2 H2 (fun w H => by
    have := H.own_at.1.take (m := m) (by omega)
    rwa [flatL_append, List.take_left' (by rw [flatL_len, HL.out])] at this)).mono ?_
  clear HS
  rintro e w3 ⟨v3, rfl, H3, E3⟩
  obtain ⟨A3, c3, rfl, -, -, -⟩ := H3.own_form
  go_wp2_with fail
  have H4 := H3.alloc (.cells #[.int .i64 ti, .int .i64 tk, .int .i64 tn] 58)
  have E4 := (((E1.trans E2).trans E3).alloc (.cells #[.int .i64 ti, .int .i64 tk, .int .i64 tn] 58))
  generalize w3.alloc (.cells #[.int .i64 ti, .int .i64 tk, .int .i64 tn] 58) = w4 at *
  generalize w3.heap.size = T1 at *
  refine (lanes_any A1 m c1 L H4 (fun w H => H.b3.own_at.1) (by omega)).mono ?_
  rintro e w5 ⟨v5, rfl, H5, E5⟩
  obtain ⟨A5, c5, rfl, -, -, -⟩ := H5.own_form
  go_wp2_with fail
  refine (HRS.out w5 _ A5 c5 H5 (fun w H => H.own_at.1)).mono ?_
  clear HRS
  rintro e w6 ⟨v6, rfl, H6, E6⟩
  obtain ⟨A6, c6, rfl, -, -, -⟩ := H6.own_form
  go_upto_region 5 with fail
  have H7 := H6.b1.tail.alloc (.cells #[.int .i64 ti, .int .i64 tk, .int .i64 tn] 67)
  have E7 := ((E4.trans E5).trans E6).alloc (.cells #[.int .i64 ti, .int .i64 tk, .int .i64 tn] 67)
  generalize w6.alloc (.cells #[.int .i64 ti, .int .i64 tk, .int .i64 tn] 67) = w7 at *
  generalize w6.heap.size = T2 at *
  have x0 := H7.cell 0
  have x1 := H7.cell 1
  have x2 := H7.cell 2
  have y0 := H7.b2.cell 0
  have y1 := H7.b2.cell 1
  have y2 := H7.b2.cell 2
  clear H1 H2 H3 H4 H5 H6 E1 E2 E3 E4 E5 E6
  go_wp2_with fail
  refine (intact_lane (some ⟨g2, 0, none⟩) A1 m (m + 80) c2 c1 L (-7) 0 0 rfl H7 (fun w H => H.b4.own_at.1) (fun w H => H.tail.b4.own_at.1) (by omega) (by omega)).mono ?_
  rintro e w8 ⟨rfl, H8, E8⟩
  replace E8 := E7.trans E8
  clear H7 E7 x0 x1 x2 y0 y1 y2
  go_wp2_with fail
  go_loopw [18] (fun i wr => ∃ k : Nat, k ≤ m ∧ i = .int .i64 k ∧ Sat wr (row T2 67 #[.int .i64 ti, .int .i64 tk, .int .i64 tn] :: own 73 3 (.slice A6 m c6) m (flatL M) :: row T1 58 #[.int .i64 ti, .int .i64 tk, .int .i64 tn] :: own 63 3 (.slice A3 m c3) m (flatL M) :: own 63 3 (.slice (some ⟨g2, 0, none⟩) (m + 80) c2) (m + 80) (flatL (L ++ List.replicate 80 (-7, 0, 0))) :: own 63 3 (.slice A1 m c1) m (flatL L) :: F) ∧ Env w wr) (fun i _ => m - (intOf i).toNat)
  case atStart => exact ⟨0, by omega, rfl, H8, E8⟩
  case round =>
    clear H8 E8
    obtain ⟨k, hk, rfl, H9, E9⟩ := hrel
    by_cases hlt : k < m
    · have hkM : k < M.length := by have := HM.out; omega
      obtain ⟨x, y, z, hlk⟩ : ∃ x y z, M[k] = (x, y, z) := ⟨_, _, _, rfl⟩
      obtain ⟨b1, o1, rfl⟩ := rd3_at H9.b1.own_at.1 (by omega)
      obtain ⟨b3, o3, rfl⟩ := rd3_at H9.b3.own_at.1 (by omega)
      obtain ⟨x1, x2, x3⟩ := rd3 H9.b1.own_at.1 hkM hlk
      obtain ⟨y1, y2, y3⟩ := rd3 H9.b3.own_at.1 hkM hlk
      clear hlk
      have hne := neLane x y z x y z
      go_wp2_with fail
      go_quiet (fail)
      go_wp2_with fail
      go_roundw
      case rel => exact ⟨k + 1, by omega, by go_num, H9.drewN _, E9.drewN _⟩
      case measure => simp [intOf]; omega
    · go_wp2_with fail
      refine (wait_any ah wt q nn _).mono ?_
      rintro e w10 ⟨rfl, rfl⟩
      go_wp2_with fail
      refine (rwait_any ah wt q nn _).mono ?_
      rintro e w11 ⟨rfl, d, rfl⟩
      go_wp2_with fail
      refine (known16 (H9.drewN d).tail.tail.tail.tail.tail.tail).mono ?_
      rintro e w12 ⟨rfl, H12, E12⟩
      go_wp2_with fail
      go_ret
      exact ⟨rfl, H12, (E9.drewN d).trans E12⟩
end Go.Proofs.Ytcgpmenknloagaa
