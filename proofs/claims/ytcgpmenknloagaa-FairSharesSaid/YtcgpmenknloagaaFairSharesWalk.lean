/- FairShares answers true and keeps what was there. Conditions: the slice is of a size that a machine has. -/
import Derived.Test.YtcgpmenknloagaaFairSharesPlain
import Derived.Test.YtcgpmenknloagaaFairWaitsWalk
import Derived.StillTailTactics
namespace Go.Proofs.Ytcgpmenknloagaa
open Go.RowKit

/-- What holds when the first i lanes were given their backlog. -/
def Filled (W : List Int) (i : Nat) (l : List Lane) : Prop :=
  wts l = W ∧ Fine 1048576 l ∧ ∀ (P : Nat), P < W.length → P < i → (l.getD P (0, 0, 0)).2.1 = 1048576
theorem Filled.step {W : List Int} {i : Nat} {l : List Lane} (H : Filled W i l) (hi : i < l.length) : Filled W (i + 1) (l.set i (l[i].1, 1048576, l[i].2.2)) := by
  obtain ⟨a, b, c⟩ := H
  refine ⟨?_, ?_, ?_⟩
  · rw [← a]
    apply List.ext_getElem
    · simp [wts]
    · intro j h1 h2
      simp only [wts, List.getElem_map, List.getElem_set]
      split
      · subst_vars; rfl
      · rfl
  · intro x hx
    rcases List.mem_or_eq_of_mem_set hx with hx | rfl
    · exact b x hx
    · have := b _ (List.getElem_mem hi)
      exact ⟨this.1, by dsimp only; omega, this.2.2⟩
  · intro P hP hPi
    rw [List.getD_eq_getElem?_getD, List.getElem?_set]
    by_cases h : i = P
    · subst h; rw [if_pos rfl, if_pos hi]; rfl
    · rw [if_neg h, ← List.getD_eq_getElem?_getD]; exact c P hP (by omega)

set_option maxHeartbeats 8000000 in
set_option maxRecDepth 100000 in
theorem fairShares_any {w : World} {F : List HP} (A : Option Addr) (n c : Nat) (ws : List Int) (tt qq aa bb : Int) (H : Sat w F) (hr : Reads F 1 A n (ws.map (Value.int .i64))) :
    Calls Try.prog 10 #[.slice A n c, .int .i64 tt, .int .i64 qq, .int .i64 aa, .int .i64 bb] w fun e w' => e = .returned (.bool true) ∧ Sat w' F ∧ Env w w' := by
  have HF := Lib.hid (fresh_any A none n 0 c 0 ws [] H hr (fun w H => Rd.nil _ _ _))
  clear hr
  go_enter Try.func10, Try.ntmps10
  go_wp2_with fail
  refine HF.out.mono ?_
  clear HF
  obtain ⟨L, hL⟩ : ∃ L, L = min n 12 := ⟨_, rfl⟩
  have hL12 : L ≤ 12 := by omega
  rw [← hL]
  clear hL
  have hfine := fresh_fine ws [] L
  have hlen := freshL_len ws [] L
  generalize freshL ws [] L = l0 at *
  rintro e w1 ⟨v1, rfl, H1, E1⟩
  obtain ⟨A1, c1, rfl, -, -, -⟩ := H1.own_form
  have hpl := part_le l0
  have hpw := part_wts l0
  change part l0 = partW (wts l0) at hpw
  have HPW := Lib.hid hpw
  generalize part l0 = N at *
  rw [hlen] at hpl
  by_cases hN : N = 0
  · subst hN
    clear hlen hpw hfine
    go_wp2_with fail
    refine (known16 H1.tail).mono ?_
    rintro e w2 ⟨rfl, H2, E2⟩
    go_wp2_with fail
    go_ret
    exact ⟨rfl, H2, E1.trans E2⟩
  · have hN1 : ((N : Int) == 0) = false := by simp; omega
    have hN0 : 0 < N := by omega
    obtain ⟨W, hW⟩ : ∃ W, W = wts l0 := ⟨_, rfl⟩
    have HWL := Lib.hid (show W.length = L by rw [hW, wts_len]; exact hlen)
    have HFI := Lib.hid (show Filled W 0 l0 from ⟨hW.symm, fun x hx => by have := hfine x hx; omega, fun P _ h => by omega⟩)
    rw [← hW] at HPW
    clear hN hfine hlen hpw hW
    have hqq := within_range qq (lo := 0) (hi := 1) (by omega)
    have htt := within_range tt (lo := 0) (hi := 200) (by omega)
    go_wp2_with fail
    refine (within_any qq 0 1 _ (by omega) (by omega) (by omega)).mono ?_
    generalize within qq 0 1 = q1 at *
    rintro e w2 ⟨rfl, rfl⟩
    go_wp2_with fail
    refine (within_any tt 0 200 _ (by omega) (by omega) (by omega)).mono ?_
    generalize within tt 0 200 = t0 at *
    obtain ⟨K, rfl⟩ := Int.eq_ofNat_of_zero_le htt.1
    have hK : K ≤ 200 := by omega
    clear htt
    rintro e w2 ⟨rfl, rfl⟩
    go_wp2_with fail
    go_loopw [13] (fun j wo => ∃ (i : Nat) (l : List Lane), j = .int .i64 i ∧ i ≤ L ∧ Hid (Filled W i l) ∧ Sat wo (own 63 3 (.slice A1 L c1) L (flatL l) :: F) ∧ Env w wo) (fun j _ => L - (intOf j).toNat)
    case atStart => exact ⟨0, l0, rfl, by omega, HFI.out, H1, E1⟩
    case round =>
      clear HFI
      obtain ⟨i, l, rfl, hi, HFI, H2, E2⟩ := hrel
      have HLL := Lib.hid (show l.length = L by rw [← wts_len, HFI.out.1]; exact HWL.out)
      by_cases hiL : i < L
      · have hil : i < l.length := by have := HLL.out; omega
        obtain ⟨g2, c2, hcc, -⟩ := H2.own_addr (by omega)
        cases hcc
        have hc := H2.own_cell _ _ (flatL_get l i hil).2.1
        have hmf := H2.own_free (by omega) (i * 3 + 1)
        have H3 := H2.own_set (i := i * 3 + 1) (by omega) (.int .i64 1048576)
        rw [flatL_set1 l i hil] at H3
        go_wp2_with fail
        go_roundw
        case rel => exact ⟨i + 1, _, by go_num, by omega, HFI.out.step hil, H3, E2.set _ _⟩
        case measure => simp [intOf]; omega
      · obtain rfl : i = L := by omega
        have HI0 := Lib.hid (ShareInv.start (q := 1 + q1) HFI.out.1 HFI.out.2.1 (fun P h => HFI.out.2.2 P h (by rw [HWL.out] at h; exact h)))
        go_wp2_with (at_make; go_must (refine wpList_make_sat rfl _ _ 27 rfl H2 3 (.int .i64 0) 1 8 Try.underlying27 Try.info_int _ _ i rfl rfl (by omega) (by simp only [maxLen]; omega) ?_); intro w2 H3 E3)
        replace H3 : Sat w2 (own 63 3 (.slice A1 i c1) i (flatL l) :: own 3 1 (.slice (some ⟨wr.heap.size, 0, none⟩) i i) i ((List.replicate i (0 : Int)).map (Value.int .i64)) :: F) := by
          have := H3.b1; rwa [show (madeCells (Value.int .i64 0).cells (i * 1)).toList = _ from zeros_made i] at this
        replace E3 := E2.trans E3
        generalize wr.heap.size = g at *
        rw [HWL.out] at HI0
        go_loopw [11, 15, 16] (fun v a j wo => ∃ (k T p : Nat) (l : List Lane) (got : List Int), j = .int .i64 k ∧ k ≤ K ∧ a = .int .i64 p ∧ p < i ∧ Hid (p = (0 + T) % i) ∧
            Hid (ShareInv W (1 + q1) 1048576 T k got l) ∧
            Sat wo (own 63 3 v i (flatL l) :: own 3 1 (.slice (some ⟨g, 0, none⟩) i i) i (got.map (Value.int .i64)) :: F) ∧ Env w wo) (fun _ _ j _ => K - (intOf j).toNat)
        case atStart => exact ⟨0, 0, 0, l, _, rfl, by omega, rfl, by omega, (by simp : (0 : Nat) = (0 + 0) % i), HI0.out, H3, E3⟩
        case round =>
          clear HI0 H3 E3 H2 E2 HFI HLL
          obtain ⟨k, T, p, l, got, rfl, hk, rfl, hp, HP, HI, H3, E3⟩ := hrel
          obtain ⟨g3, c3, rfl, -⟩ := H3.own_addr (by omega)
          by_cases hkK : k < K
          · have hinv := HI.out
            obtain ⟨t, ht1, ht2, ht3, ht4, ht5⟩ := hinv.next (by rw [← HPW.out]; exact hN0)
            rw [HWL.out] at ht2
            have hll4 : l.length = i := by rw [← wts_len, hinv.2.1]; exact HWL.out
            have hwl4 : wts l = W := hinv.2.1
            have hturn := turns_of (l := l) (s := 0) (T := T) (t := t) (by omega) ht1 (by omega) (by rw [hwl4]; exact ht3) (by rw [hwl4]; exact ht5)
            rw [hll4, ← HP.out] at hturn
            have hnext : ((0 + t) % i + 1) % i = (0 + (t + 1)) % i := by rw [Nat.mod_add_mod, Nat.add_assoc]
            generalize hj : (0 + t) % i = j at *
            have hjL : j < i := by rw [← hj]; exact Nat.mod_lt _ (by omega)
            have hjl : j < l.length := by omega
            obtain ⟨x, hx1, hx2, hx3, hx4, hst⟩ := hinv.step (by omega) ht1 ht3 ht4 ht5 hjl (by rw [HWL.out]; exact hj)
            have HX := Lib.hid (hinv.2.2.1.small (by omega))
            have HT := Lib.hid hturn
            have HST := Lib.hid hst
            have HNX := Lib.hid hnext
            have HLL := Lib.hid hll4
            have HB := Lib.hid (begins_nat hp)
            have HX1 := Lib.hid hx1
            clear hinv ht1 ht2 ht3 ht4 ht5 hst hturn hnext hj hll4 hwl4 hx1
            go_wp2_with fail
            refine (serve_hit _ i c3 l p (1 + q1) H3 (fun w H => H.own_at.1) (by omega) (by omega) HX.out (t - T) j HLL.out.symm hjl (by rw [HB.out]; exact HT.out)).mono ?_
            rintro e w5 ⟨v5, rfl, H5, E5⟩
            obtain ⟨g5, c5, rfl, -⟩ := H5.own_addr (by omega)
            generalize takes (1 + q1) l[j] = tk at *
            have q2 : decide (i ≤ j) = false := by simp; omega
            have hgl := block_lt_of_cell (H5.b2.own_cell j (.int .i64 x) (by rw [List.getElem?_map, HX1.out]; rfl))
            go_wp2_with fail
            have H6 := (H5.alloc (.cells #[.int .i64 j, .int .i64 tk, .int .i64 (((j : Int) + 1) % (i : Int))] 58))
            have E6 := ((E3.trans E5).alloc (.cells #[.int .i64 j, .int .i64 tk, .int .i64 (((j : Int) + 1) % (i : Int))] 58))
            generalize w5.alloc (.cells #[.int .i64 j, .int .i64 tk, .int .i64 (((j : Int) + 1) % (i : Int))] 58) = w6 at *
            generalize w5.heap.size = g6 at *
            have hm := H6.b3.own_cell j (.int .i64 x) (by rw [List.getElem?_map, HX1.out]; rfl)
            have hmf := H6.b3.own_free (by omega) j
            have d0 := H6.cell 0
            have d1 := H6.cell 1
            have d2 := H6.cell 2
            go_still_tail 12, (by kernel_rfl)
            change wpList _ _ _ _ _ (w6.drewN 1)
            replace H6 := H6.drewN 1
            replace E6 := E6.drewN 1
            clear hm hmf d0 d1 d2
            generalize w6.drewN 1 = w7 at *
            have hm := H6.b3.own_cell j (.int .i64 x) (by rw [List.getElem?_map, HX1.out]; rfl)
            have hmf := H6.b3.own_free (by omega) j
            have hne : ¬ g6 = g := by omega
            have d2 := H6.cell 2
            go_wp2_with fail
            go_roundw
            case rel =>
              refine ⟨k + 1, t + 1, (j + 1) % i, l.set j (served (1 + q1) l[j]), got.set j (x + tk), by go_num, by omega, by simp, Nat.mod_lt _ (by omega), HNX.out, HST.out, ?_, E6.set _ _⟩
              rw [List.map_set]
              exact (H6.b3.own_set (i := j) (by omega) (.int .i64 (x + tk))).p3.tail.b1.tail
            case measure => simp [intOf]; omega
          · obtain rfl : k = K := by omega
            have hinv := HI.out
            have hal := within_range aa (lo := 0) (hi := (i : Int) - 1) (by omega)
            have hbl := within_range bb (lo := 0) (hi := (i : Int) - 1) (by omega)
            go_wp2_with fail
            refine (within_any aa 0 ((i : Int) - 1) _ (by omega) (by omega) (by omega)).mono ?_
            generalize within aa 0 ((i : Int) - 1) = a1 at *
            obtain ⟨a, rfl⟩ := Int.eq_ofNat_of_zero_le hal.1
            have ha : a < i := by omega
            clear hal
            rintro e w5 ⟨rfl, rfl⟩
            go_wp2_with fail
            refine (within_any bb 0 ((i : Int) - 1) _ (by omega) (by omega) (by omega)).mono ?_
            generalize within bb 0 ((i : Int) - 1) = b1 at *
            obtain ⟨b, rfl⟩ := Int.eq_ofNat_of_zero_le hbl.1
            have hb : b < i := by omega
            clear hbl
            rintro e w5 ⟨rfl, rfl⟩
            have hll4 : l.length = i := by rw [← wts_len, hinv.2.1]; exact HWL.out
            have hal : a < l.length := by omega
            have hbl : b < l.length := by omega
            have haW : a < W.length := by rw [HWL.out]; exact ha
            have hbW : b < W.length := by rw [HWL.out]; exact hb
            have hwa : l[a].1 = W[a] := by have := hinv.2.1; subst this; simp [wts]
            have hwb : l[b].1 = W[b] := by have := hinv.2.1; subst this; simp [wts]
            have ca := H3.own_cell _ _ (flatL_get l a hal).1
            have cb := H3.own_cell _ _ (flatL_get l b hbl).1
            obtain ⟨x, hx, hx0, hx1, hxz⟩ := hinv.small haW
            obtain ⟨y, hy, hy0, hy1, hyz⟩ := hinv.small hbW
            have hnear := hinv.near (by omega) haW hbW hx hy
            have hra := (hinv.2.2.1 _ (List.getElem_mem hal)).1
            have hrb := (hinv.2.2.1 _ (List.getElem_mem hbl)).1
            have xa := H3.b1.own_cell a (.int .i64 x) (by rw [List.getElem?_map, hx]; rfl)
            have yb := H3.b1.own_cell b (.int .i64 y) (by rw [List.getElem?_map, hy]; rfl)
            rw [hwa] at ca hra
            rw [hwb] at cb hrb
            clear hwa hwb hx hy hinv hll4 hal hbl
            generalize W[a] = wa at *
            generalize W[b] = wb at *
            clear HI HP HPW HWL haW hbW
            by_cases hwa0 : wa = 0
            · subst hwa0
              obtain rfl := hxz rfl
              clear hxz hyz hnear
              go_wp2_with fail
              refine (known16 H3.tail.tail).mono ?_
              rintro e w5 ⟨rfl, H5, E5⟩
              go_wp2_with fail
              go_ret
              exact ⟨rfl, H5, E3.trans E5⟩
            · by_cases hwb0 : wb = 0
              · subst hwb0
                have hwa1 : (wa == 0) = false := by simp; omega
                have hwa2 : 0 < wa := by omega
                clear hxz hyz hnear hwa0
                go_wp2_with fail
                refine (known16 H3.tail.tail).mono ?_
                rintro e w5 ⟨rfl, H5, E5⟩
                go_wp2_with fail
                go_ret
                exact ⟨rfl, H5, E3.trans E5⟩
              · have hwa1 : (wa == 0) = false := by simp; omega
                have hwb1 : (wb == 0) = false := by simp; omega
                obtain ⟨X, hX⟩ : ∃ X, x * wb = X := ⟨_, rfl⟩
                obtain ⟨Y, hY⟩ : ∃ Y, y * wa = Y := ⟨_, rfl⟩
                obtain ⟨M1, hM1⟩ : ∃ M1, (1 + q1) * wa = M1 := ⟨_, rfl⟩
                obtain ⟨M2, hM2⟩ : ∃ M2, M1 * wb = M2 := ⟨_, rfl⟩
                rw [hX, hY, hM1, hM2] at hnear
                have bX : 0 ≤ X ∧ X ≤ 6400 := by
                  have h1 := Int.mul_le_mul (show x ≤ 1600 by omega) hrb.2 hrb.1 (by omega)
                  have h2 := Int.mul_nonneg hx0 hrb.1
                  omega
                have bY : 0 ≤ Y ∧ Y ≤ 6400 := by
                  have h1 := Int.mul_le_mul (show y ≤ 1600 by omega) hra.2 hra.1 (by omega)
                  have h2 := Int.mul_nonneg hy0 hra.1
                  omega
                have bM1 : 0 ≤ M1 ∧ M1 ≤ 8 := by
                  have h1 := Int.mul_le_mul (show 1 + q1 ≤ 2 by omega) hra.2 hra.1 (by omega)
                  have h2 := Int.mul_nonneg (show 0 ≤ 1 + q1 by omega) hra.1
                  omega
                have bM2 : 0 ≤ M2 ∧ M2 ≤ 32 := by
                  have h1 := Int.mul_le_mul bM1.2 hrb.2 hrb.1 (by omega)
                  have h2 := Int.mul_nonneg bM1.1 hrb.1
                  omega
                clear hxz hyz hwa0 hwb0
                have hal : (a : Int) < i := by omega
                have hbl : (b : Int) < i := by omega
                go_wp2_with fail
                go_quiet (fail)
                change (wr.drewN nq).cell? _ = _ at ca
                change (wr.drewN nq).cell? _ = _ at cb
                change (wr.drewN nq).cell? _ = _ at xa
                change (wr.drewN nq).cell? _ = _ at yb
                replace H3 := H3.drewN nq
                replace E3 := E3.drewN nq
                generalize wr.drewN nq = w4 at *
                go_wp2_with fail
                go_quiet (fail)
                change (w4.drewN nq).cell? _ = _ at ca
                change (w4.drewN nq).cell? _ = _ at cb
                replace H3 := H3.drewN nq
                replace E3 := E3.drewN nq
                clear xa yb
                generalize w4.drewN nq = w4 at *
                go_wp2_with fail
                all_goals
                  have hle : decide (X - Y ≤ M2) = true := by simp; omega
                  have hle2 : decide (-(X - Y) ≤ M2) = true := by simp; omega
                  go_still_tail 16, (by kernel_rfl)
                  change wpList _ _ _ _ _ (w4.drewN 1)
                  replace H3 := H3.drewN 1
                  replace E3 := E3.drewN 1
                  clear ca cb
                  generalize w4.drewN 1 = w4 at *
                  go_wp2_with fail
                  refine (known16 H3.tail.tail).mono ?_
                  rintro e w5 ⟨rfl, H5, E5⟩
                  go_wp2_with fail
                  go_ret
                  exact ⟨rfl, H5, E3.trans E5⟩
end Go.Proofs.Ytcgpmenknloagaa
