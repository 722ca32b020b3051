/- FairRound answers true and keeps what was there. Conditions: the slices are of a size that a machine has. -/
import Derived.Test.YtcgpmenknloagaaFairFresh
import Derived.Test.YtcgpmenknloagaaFairRoundPlain
import Derived.Test.YtcgpmenknloagaaMake
namespace Go.Proofs.Ytcgpmenknloagaa
open Go.RowKit

theorem Try.info_int : (Try.prog.info? 3).map (fun i => (i.zero, i.size, i.bytes)) = some (some (.int .i64 0), 1, 8) := by kernel_rfl
theorem fresh_fine (ws bs : List Int) (k : Nat) : Fine 60 (freshL ws bs k) := by
  intro x hx
  simp only [freshL, List.mem_map] at hx
  obtain ⟨i, _, rfl⟩ := hx
  exact freshLane_range ws bs i
theorem begins_nat {k n : Nat} (h : k < n) : begins n (k : Int) = k := by unfold begins; rw [if_neg (by omega)]; simp
def zeros (n : Nat) : List Value := (List.replicate n (0 : Int)).map (Value.int .i64)
theorem zeros_made (n : Nat) : (madeCells #[Value.int .i64 0] (n * 1)).toList = zeros n := by
  rw [Nat.mul_one, toList_madeCells_one]; simp [zeros]

set_option maxHeartbeats 8000000 in
set_option maxRecDepth 100000 in
theorem fairRound_any {w : World} {F : List HP} (A B : Option Addr) (n m c d : Nat) (ws bs : List Int) (at_ q : Int) (H : Sat w F) (hr : Reads F 1 A n (ws.map (Value.int .i64))) (hr2 : Reads F 1 B m (bs.map (Value.int .i64)))
    (hqr : -9223372036854775808 ≤ at_ ∧ at_ ≤ 9223372036854775807) :
    Calls Try.prog 12 #[.slice A n c, .slice B m d, .int .i64 at_, .int .i64 q] w fun e w' => e = .returned (.bool true) ∧ Sat w' F ∧ Env w w' := by
  have HF := Lib.hid (fresh_any A B n m c d ws bs H hr hr2)
  clear hr hr2
  go_enter Try.func12, Try.ntmps12
  go_wp2_with fail
  refine HF.out.mono ?_
  clear HF
  obtain ⟨L, hL⟩ : ∃ L, L = min n 12 := ⟨_, rfl⟩
  have hL12 : L ≤ 12 := by omega
  rw [← hL]
  clear hL
  have hfine := fresh_fine ws bs L
  have hlen := freshL_len ws bs L
  generalize freshL ws bs L = l0 at *
  rintro e w1 ⟨v1, rfl, H1, E1⟩
  obtain ⟨A1, c1, rfl, -, -, -⟩ := H1.own_form
  have hpl := part_le l0
  have HPW := Lib.hid (show part l0 = partW (wts l0) from part_wts l0)
  have HFN := Lib.hid hfine
  have HLN := Lib.hid hlen
  generalize part l0 = N at *
  rw [hlen] at hpl
  clear hfine hlen
  by_cases hN : N = 0
  · subst hN
    go_wp2_with fail
    refine (known16 H1.tail).mono ?_
    rintro e w2 ⟨rfl, H2, E2⟩
    go_wp2_with fail
    go_ret
    exact ⟨rfl, H2, E1.trans E2⟩
  · have hN1 : ((N : Int) == 0) = false := by simp; omega
    have hN0 : 0 < N := by omega
    clear hN
    go_wp2_with fail
    refine (within_any at_ 0 ((L : Int) - 1) _ (by omega) (by omega) (by omega)).mono ?_
    have hs := within_range at_ (lo := 0) (hi := (L : Int) - 1) (by omega)
    generalize within at_ 0 ((L : Int) - 1) = s0 at *
    obtain ⟨s, rfl⟩ := Int.eq_ofNat_of_zero_le hs.1
    have hsL : s < L := by omega
    clear hs hqr
    rintro e w2 ⟨rfl, rfl⟩
    go_wp2_with (at_make; go_must (refine wpList_make_sat rfl _ _ 27 rfl H1 3 (.int .i64 0) 1 8 Try.underlying27 Try.info_int _ _ L rfl rfl (by omega) (by simp only [maxLen]; omega) ?_); intro w2 H2 E2)
    replace H2 : Sat w2 (own 63 3 (.slice A1 L c1) L (flatL l0) :: own 3 1 (.slice (some ⟨w1.heap.size, 0, none⟩) L L) L ((List.replicate L (0 : Int)).map (Value.int .i64)) :: F) := by
      have := H2.b1; rwa [show (madeCells (Value.int .i64 0).cells (L * 1)).toList = _ from zeros_made L] at this
    replace E2 := E1.trans E2
    generalize w1.heap.size = g at *
    have HW := Lib.hid (show (wts l0).length = L by rw [wts_len]; exact HLN.out)
    have HI0 := RoundInv.start (wts l0) s
    rw [HW.out] at HI0
    go_loopw [2, 9, 12, 13, 14] (fun a v la wr j wo => ∃ (k T p : Nat) (x y : Int) (l : List Lane) (mt : List Int), j = .int .i64 k ∧ k ≤ N ∧ a = .int .i64 p ∧ p < L ∧ Hid (p = (s + T) % L) ∧ la = .int .i64 x ∧ wr = .int .i64 y ∧ (-1 ≤ x ∧ x ≤ 12) ∧ (0 ≤ y ∧ y ≤ 1) ∧
        Hid (RoundInv (wts l0) s T k mt x y ∧ wts l = wts l0 ∧ Fine 60 l ∧ l.length = L ∧ mt.length = L) ∧
        Sat wo (own 63 3 v L (flatL l) :: own 3 1 (.slice (some ⟨g, 0, none⟩) L L) L (mt.map (Value.int .i64)) :: F) ∧ Env w wo) (fun _ _ _ _ j _ => N - (intOf j).toNat)
    case atStart => exact ⟨0, 0, s, -1, 0, l0, List.replicate L 0, rfl, by omega, rfl, hsL, by rw [Nat.add_zero, Nat.mod_eq_of_lt hsL]; exact rfl, rfl, rfl, by omega, by omega, ⟨HI0, rfl, HFN.out, HLN.out, by simp⟩, H2, E2⟩
    case round =>
      clear HI0
      obtain ⟨k, T, p, x, y, l, mt, rfl, hk, rfl, hp, HP, rfl, rfl, hx, hy, HI, H3, E3⟩ := hrel
      obtain ⟨g3, c3, rfl, -⟩ := H3.own_addr (by omega)
      by_cases hlt : k < N
      · obtain ⟨hinv, hwl, hfl, hll, hml⟩ := HI.out
        obtain ⟨t, ht1, ht2, ht3, ht4, ht5⟩ := hinv.next (by rw [← HPW.out]; exact hlt)
        rw [HW.out] at ht2
        have hst := hinv.step (by rw [HW.out]; exact hsL) ht1 (by rw [HW.out]; exact ht2) ht3 ht4 ht5
        have hold := hinv.old ht1 (by rw [HW.out]; exact ht2)
        rw [HW.out] at hst hold
        have hturn := turns_of (l := l) (s := s) (T := T) (t := t) (by omega) ht1 (by omega) (by rw [hwl]; exact ht3) (by rw [hwl]; exact ht5)
        rw [hll, ← HP.out] at hturn
        have hnext : ((s + t) % L + 1) % L = (s + (t + 1)) % L := by rw [Nat.mod_add_mod, Nat.add_assoc]
        generalize hi : (s + t) % L = i at *
        have hiL : i < L := by rw [← hi]; exact Nat.mod_lt _ (by omega)
        have hil : i < l.length := by omega
        have HB := Lib.hid (begins_nat hp)
        have HT := Lib.hid hturn
        have HST := Lib.hid hst
        have HO := Lib.hid hold
        have HNX := Lib.hid hnext
        have hw1 : 1 ≤ l[i].1 := by obtain ⟨h, h'⟩ := hturn.2.2.1; exact h'
        clear hinv ht1 ht2 ht3 ht4 ht5 hst hold hturn hnext hi
        have HLL := Lib.hid hll
        have HX := Lib.hid (hfl.small (by omega))
        clear hwl hfl hll hml
        go_wp2_with fail
        refine (serve_hit _ L c3 l p q H3 (fun w H => H.own_at.1) (by omega) (by omega) HX.out (t - T) i HLL.out.symm hil (by rw [HB.out]; exact HT.out)).mono ?_
        rintro e w4 ⟨v4, rfl, H4, E4⟩
        obtain ⟨g4, c4, rfl, -⟩ := H4.own_addr (by omega)
        have hc := H4.b1.own_cell _ _ (flatL_get l i hil).1
        have hmc := H4.b2.own_cell i (.int .i64 0) (by rw [List.getElem?_map, HO.out]; rfl)
        have hmf := H4.b2.own_free (by omega) i
        have hg3 := block_lt_of_cell hc
        have hg0 := block_lt_of_cell hmc
        have HS4 := Lib.hid H4
        generalize takes q l[i] = tk
        generalize l[i].1 = X at hc hw1
        clear H4
        by_cases hix : (i : Int) ≤ x
        all_goals
          go_wp2_with fail
          have q1 : decide ((i : Int) < 0) = false := by simp
          have q2 : decide (L ≤ i) = false := by simp; omega
          have q2' : decide ((L : Int) ≤ (i : Int)) = false := by simp; omega
          have q3 : decide (X < 1) = false := by simp; omega
          have q4 : IntKind.i64.wrap ((i : Int) + 1) = (i : Int) + 1 := IntWalk.i64_in _ (by omega)
          have q5 : ((i : Int) + 1).tmod L = ((i : Int) + 1) % L := Int.tmod_eq_emod_of_nonneg (by omega)
          go_quiet (fail)
          clear q1 q2 q2' q3 q4 q5
          go_wp2_with fail
          have st := HST.out
          first
            | rw [if_pos hix] at st
            | rw [if_neg (by omega)] at st
          have hi5 := HI.out
          go_roundw
          case rel =>
            refine ⟨k + 1, t + 1, (i + 1) % L, i, _, l.set i (served q l[i]), mt.set i 1, by go_num, by omega, by simp, Nat.mod_lt _ (by omega), HNX.out, rfl, rfl, by omega, ?_, ⟨st, (wts_set l q i hil).trans hi5.2.1, hi5.2.2.1.set q i hil, by rw [List.length_set]; exact HLL.out, by rw [List.length_set]; exact hi5.2.2.2.2⟩, ?_, (((E3.trans E4).alloc _).drewN _).set _ _⟩
            · rcases st.2.2.2.2 with ⟨_, _, h⟩ | ⟨_, _, h | ⟨h, _⟩⟩ <;> omega
            · rw [List.map_set]
              exact (((HS4.out.alloc' _).drewN nq).b2.own_set (i := i) (by omega) (.int .i64 1)).p2.b1.tail
          case measure => simp [intOf]; omega
      · obtain rfl : k = N := by omega
        obtain ⟨hinv, hwl, hfl, hll, hml⟩ := HI.out
        have hinv' := hinv
        rw [HPW.out] at hinv'
        have hdone := hinv'.done (by rw [HW.out]; exact hsL)
        have hy1 := hdone.2
        have HD := Lib.hid hdone.1
        have HWL := Lib.hid hwl
        have HLL := Lib.hid hll
        clear hinv hinv' hdone hwl hfl hll hml
        go_wp2_with fail
        go_loop [17] (fun i => ∃ r : Nat, r ≤ L ∧ i = .int .i64 r) (fun i => L - (intOf i).toNat)
        case atStart => exact ⟨0, by omega, rfl⟩
        case round =>
          obtain ⟨r, hr, rfl⟩ := hrel
          by_cases hlt2 : r < L
          · have hrl : r < l.length := by have := HLL.out; omega
            have hc := H3.own_cell _ _ (flatL_get l r hrl).1
            have hm := H3.b1.own_cell r (.int .i64 (if 0 < l[r].1 then 1 else 0)) (by
              rw [List.getElem?_map, HD.out r (by rw [HW.out]; exact hlt2)]
              have : (wts l0)[r]'(by rw [HW.out]; exact hlt2) = l[r].1 := by simp only [← HWL.out]; simp [wts]
              rw [this]; rfl)
            generalize l[r].1 = X at hc hm
            by_cases hX : 0 < X
            · rw [if_pos hX] at hm
              go_wp2_with fail
              go_round
              case rel => exact ⟨r + 1, by omega, by go_num⟩
              case measure => simp [intOf]; omega
            · rw [if_neg hX] at hm
              go_wp2_with fail
              go_round
              case rel => exact ⟨r + 1, by omega, by go_num⟩
              case measure => simp [intOf]; omega
          · go_wp2_with fail
            refine (known16 H3.tail.tail).mono ?_
            rintro e w5 ⟨rfl, H5, E5⟩
            go_wp2_with fail
            go_ret
            exact ⟨rfl, H5, E3.trans E5⟩
end Go.Proofs.Ytcgpmenknloagaa
