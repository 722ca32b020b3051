/- The book of lists, elements fair.Lane: Apart, with the marks of the statement. Conditions: fewer than 4000 lists, of fewer than 2^32 elements. -/
import Derived.Test.YtcgpmenknloagaaBooksLaneStays
namespace Go.Proofs.Ytcgpmenknloagaa
open Go.RowKit

def MkL (i j : Nat) (zs : List Value) : Prop := zs[j * 3]? = some (.int .i64 (-100 - i)) ∧ zs[j * 3 + 1]? = some (.int .i64 (-j)) ∧ zs[j * 3 + 2]? = some (.int .i64 0)
theorem MkL.step {k j : Nat} {zs : List Value} (h : ∀ t, t < j → MkL k t zs) (hl : j * 3 + 2 < zs.length) : ∀ t, t < j + 1 → MkL k t (((zs.set (j * 3) (.int .i64 (-100 - k))).set (j * 3 + 1) (.int .i64 (-j))).set (j * 3 + 2) (.int .i64 0)) := by
  intro t ht
  by_cases e : t = j
  · subst e
    refine ⟨?_, ?_, ?_⟩
    · rw [List.getElem?_set_ne (by omega), List.getElem?_set_ne (by omega), List.getElem?_set_self (by omega)]
    · rw [List.getElem?_set_ne (by omega), List.getElem?_set_self (by rw [List.length_set]; omega)]
    · rw [List.getElem?_set_self (by rw [List.length_set, List.length_set]; omega)]
  · obtain ⟨h1, h2, h3⟩ := h t (by omega)
    refine ⟨?_, ?_, ?_⟩
    · rw [List.getElem?_set_ne (by omega), List.getElem?_set_ne (by omega), List.getElem?_set_ne (by omega)]; exact h1
    · rw [List.getElem?_set_ne (by omega), List.getElem?_set_ne (by omega), List.getElem?_set_ne (by omega)]; exact h2
    · rw [List.getElem?_set_ne (by omega), List.getElem?_set_ne (by omega), List.getElem?_set_ne (by omega)]; exact h3
set_option maxHeartbeats 1000000 in
theorem mark_any {w : World} {F : List HP} (i j : Nat) (H : Sat w F) (hi : i < 4294967296) (hj : j < 9223372036854775808) :
    Calls Try.prog 45 #[.int .i64 i, .int .i64 j] w fun e w' => e = .returned (.agg #[.int .i64 (-100 - i), .int .i64 (-j), .int .i64 0]) ∧ Sat w' F ∧ Env w w' := by
  go_enter Try.func45, Try.ntmps45
  go_wp2_with fail
  have H1 := H.alloc (.cells #[.int .i64 (-100 - i), .int .i64 (-j), .int .i64 0] 63)
  exact bodyPost_ret (results_cell_row (P := Try.prog) rfl _ _ w.heap.size 63 #[.int .i64 (-100 - i), .int .i64 (-j), .int .i64 0] (0, 0) _ rfl H1.get Try.underlying63 rfl (by kernel_rfl)) rfl ⟨rfl, H1.tail, (Env.refl w).alloc _⟩

def Marked_lane (p : Kp) (t : Nat) (X : HP) : Prop := ∃ A n c zs, p.v = .slice A n c ∧ c ≤ maxLen ∧ X = own 63 3 (.slice A c c) c zs ∧ ∀ j, j < c → MkL t j zs
def Half_lane (items : List Kp) (m k : Nat) (L : List HP) : Prop := L.length = m ∧ (∀ t (p : Kp), t < k → items[t]? = some p → ∃ X, L[t]? = some X ∧ Marked_lane p t X) ∧ ∀ t (p : Kp), k ≤ t → items[t]? = some p → L[t]? = some (own 63 3 p.v p.n p.xs)
theorem half_start_lane (items : List Kp) : Half_lane items items.length 0 (bkL_lane items) := ⟨by simp [bkL_lane], fun t p h => by omega, fun t p _ h => by simp [bkL_lane, h]⟩
theorem Half_lane.step {items : List Kp} {m k : Nat} {L : List HP} (h : Half_lane items m k L) (hk : k < m) (p : Kp) (hp : items[k]? = some p) (X : HP) (hX : Marked_lane p k X) : Half_lane items m (k + 1) (L.set k X) := by
  obtain ⟨h1, h2, h3⟩ := h
  refine ⟨by simpa using h1, fun t q ht hq => ?_, fun t q ht hq => ?_⟩
  · by_cases e : t = k
    · subst e
      rw [hp] at hq; cases hq
      exact ⟨X, by rw [List.getElem?_set_self (by omega)], hX⟩
    · obtain ⟨Y, hY, hM⟩ := h2 t q (by omega) hq
      exact ⟨Y, by rw [List.getElem?_set_ne (fun e' => e e'.symm)]; exact hY, hM⟩
  · rw [List.getElem?_set_ne (by omega)]
    exact h3 t q (by omega) hq

set_option maxHeartbeats 8000000 in
set_option maxRecDepth 100000 in
theorem apart_lane {w : World} {F : List HP} (b : Nat) (R : Bk) (H : Sat w (bk_lane b R :: F)) (hi : R.items.length < 4000) (hx : ∀ p ∈ R.items, p.n < 4294967296 ∧ ∃ l : List Lane, p.xs = flatL l) :
    Calls Try.prog 44 #[.pointer (some ⟨b, 0, none⟩), .func (.func 45) #[] #[]] w fun e w' => e = .returned (.bool true) ∧ Sat w' F ∧ Env w w' := by
  have HS := Lib.hid (stays_lane b R H hi hx)
  clear hx H
  obtain ⟨vL, vW, items, held⟩ := R
  dsimp only at hi
  go_enter Try.func44, Try.ntmps44
  go_wp2_with fail
  refine HS.out.mono ?_
  clear HS
  rintro e w1 ⟨rfl, H1, E1⟩
  replace H1 := H1.bk_open_lane
  dsimp only at H1
  obtain ⟨AL, cL, rfl, -, -, -⟩ := H1.b1.ownO_form
  have H2 := (H1.b3.b3.tail.b3.tail)
  clear H1
  have hH := half_start_lane items
  obtain ⟨m, hm⟩ : ∃ m, items.length = m := ⟨_, rfl⟩
  rw [hm] at H2 hi hH
  have HM := Lib.hid hm
  clear hm
  have HH := Lib.hid hH
  clear hH
  go_wp2_with fail
  go_loopw [5] (fun i wr => ∃ (k : Nat) (L : List HP), k ≤ m ∧ i = .int .i64 k ∧ Hid (Half_lane items m k L) ∧ Sat wr (all L :: row b 82 #[.slice AL m cL, vW, .int .i64 held, .bool false] :: ownO 59 (.slice AL m cL) m (items.map (·.v)) :: F) ∧ Env w wr) (fun i _ => m - (intOf i).toNat)
  case atStart => exact ⟨0, bkL_lane items, by omega, rfl, HH.out, H2, E1⟩
  case round =>
    clear H2 E1 HH
    obtain ⟨k, L, hk, rfl, HHk, H3, E3⟩ := hrel
    by_cases hlt : k < m
    · have hkl : k < items.length := by rw [HM.out]; exact hlt
      obtain ⟨v, n, u, xs, hp⟩ : ∃ v n u xs, items[k] = ⟨v, n, u, xs⟩ := ⟨_, _, _, _, rfl⟩
      have hp2 : items[k]? = some ⟨v, n, u, xs⟩ := by rw [List.getElem?_eq_getElem hkl, hp]
      have hLk : k < L.length := by rw [HHk.out.1]; exact hlt
      have hLX := HHk.out.2.2 k _ (Nat.le_refl _) hp2
      have H4 := H3.focus hLk
      rw [List.getElem?_eq_getElem hLk] at hLX
      rw [Option.some.inj hLX] at H4
      dsimp only at H4
      obtain ⟨Av, cv, rfl, -, hcm, -⟩ := H4.own_form
      obtain ⟨ys, H5⟩ := H4.own_full
      obtain ⟨gL, oL, cL', hAL, -⟩ := H5.b3.ownO_addr (by omega)
      cases hAL
      have x0 := H5.b2.cell 0
      have y0 := H5.b3.ownO_cell k (.slice Av n cv) (by simp [hkl, hp])
      have HP2 := Lib.hid hp2
      have HLK := Lib.hid hLk
      have HCM := Lib.hid hcm
      have hki : (k : Int) < (m : Int) := by omega
      have hcv : (cv : Int) ≤ (cv : Int) := by omega
      have hcv0 : (0 : Int) ≤ (cv : Int) := by omega
      clear hp hp2 hLk hLX hcm H3 H4 hkl
      go_upto_region 6 with fail
      go_quiet (fail)
      have H6 := H5.drewN nq
      have E6 := E3.drewN nq
      generalize wr.drewN nq = w6 at *
      clear x0 y0 H5 E3
      go_wp2_with fail
      go_loopw [7] (fun jj wq => ∃ (j : Nat) (zs : List Value), j ≤ cv ∧ jj = .int .i64 j ∧ Hid (∀ t, t < j → MkL k t zs) ∧ Sat wq (own 63 3 (.slice Av cv cv) cv zs :: all (L.set k emp) :: row b 82 #[.slice (some ⟨gL, oL, none⟩) m cL, vW, .int .i64 held, .bool false] :: ownO 59 (.slice (some ⟨gL, oL, none⟩) m cL) m (items.map (·.v)) :: F) ∧ Env w wq) (fun jj _ => cv - (intOf jj).toNat)
      case atStart => exact ⟨0, ys, by omega, rfl, fun t ht => by omega, H6, E6⟩
      case round =>
        clear H6 E6
        obtain ⟨j, zs, hj, rfl, HZ, H7, E7⟩ := hrel
        by_cases hjc : j < cv
        · obtain ⟨gv, cv', hAv, -⟩ := H7.own_addr (by omega)
          cases hAv
          have hzl : j * 3 + 2 < zs.length := by have := H7.owns.1; omega
          have e1 : IntKind.i64.wrap ((j : Int) + 1) = (j : Int) + 1 := IntWalk.i64_in _ (by have := HCM.out; simp only [maxLen] at this; omega)
          have hjb := Lib.hid (show j < 9223372036854775808 by have := HCM.out; simp only [maxLen] at this; omega)
          have hji : (j : Int) < (cv : Int) := by omega
          have hjn : ¬ (cv : Int) ≤ (j : Int) := by omega
          go_wp2_with fail
          refine (mark_any k j H7 (by omega) hjb.out).mono ?_
          rintro e wx ⟨rfl, Hx, Ex⟩
          have z0 := Hx.own_cell (j * 3) _ (List.getElem?_eq_getElem (by omega))
          have z1 := Hx.own_cell (j * 3 + 1) _ (List.getElem?_eq_getElem (by omega))
          have z2 := Hx.own_cell (j * 3 + 2) _ (List.getElem?_eq_getElem hzl)
          have f0 := Hx.own_free (by omega) (j * 3)
          have f1 := Hx.own_free (by omega) (j * 3 + 1)
          have f2 := Hx.own_free (by omega) (j * 3 + 2)
          generalize zs[j * 3]'(by omega) = o0 at z0
          generalize zs[j * 3 + 1]'(by omega) = o1 at z1
          generalize zs[j * 3 + 2]'(by omega) = o2 at z2
          have H8 := ((Hx.own_set (i := j * 3) (by omega) (.int .i64 (-100 - k))).own_set (i := j * 3 + 1) (by omega) (.int .i64 (-j))).own_set (i := j * 3 + 2) (by omega) (.int .i64 0)
          have E8 := (((E7.trans Ex).set ⟨gv, j * 3, none⟩ (.int .i64 (-100 - k))).set ⟨gv, j * 3 + 1, none⟩ (.int .i64 (-j))).set ⟨gv, j * 3 + 2, none⟩ (.int .i64 0)
          have HZ8 := Lib.hid (MkL.step HZ.out hzl)
          have HS8 := Lib.hid H8
          have HE8 := Lib.hid E8
          clear hzl H8 E8
          go_wp2_with fail
          go_roundw
          case rel => exact ⟨j + 1, _, by omega, by go_num, HZ8.out, HS8.out, HE8.out⟩
          case measure => simp [intOf]; omega
        · obtain rfl : j = cv := by omega
          have H8 := H7.unfocus HLK.out
          have HH8 := Lib.hid (HHk.out.step hlt _ HP2.out _ ⟨Av, n, j, zs, rfl, HCM.out, rfl, HZ.out⟩)
          clear H7
          go_wp2_with fail
          go_roundw
          case rel => exact ⟨k + 1, _, by omega, by go_num, HH8.out, H8, E7⟩
          case measure => simp [intOf]; omega
    · obtain rfl : k = m := by omega
      have x0 := H3.b1.cell 0
      go_wp2_with fail
      clear x0
      go_loopw [8] (fun i wr => ∃ q : Nat, q ≤ k ∧ i = .int .i64 q ∧ Sat wr (all L :: row b 82 #[.slice AL k cL, vW, .int .i64 held, .bool false] :: ownO 59 (.slice AL k cL) k (items.map (·.v)) :: F) ∧ Env w wr) (fun i _ => k - (intOf i).toNat)
      case atStart => exact ⟨0, by omega, rfl, H3, E3⟩
      case round =>
        clear H3 E3
        obtain ⟨q, hq, rfl, H4, E4⟩ := hrel
        by_cases hlt2 : q < k
        · have hql : q < items.length := by rw [HM.out]; exact hlt2
          obtain ⟨v, n, u, xs, hp⟩ : ∃ v n u xs, items[q] = ⟨v, n, u, xs⟩ := ⟨_, _, _, _, rfl⟩
          have hp2 : items[q]? = some ⟨v, n, u, xs⟩ := by rw [List.getElem?_eq_getElem hql, hp]
          obtain ⟨X, hX, Av, n', cv, zs, hv, hcm, rfl, hz⟩ := HHk.out.2.1 q _ hlt2 hp2
          dsimp only at hv
          subst hv
          have hmem := List.mem_of_getElem? hX
          obtain ⟨gL, oL, cL', hAL, -⟩ := H4.b2.ownO_addr (by omega)
          cases hAL
          have x0 := H4.b1.cell 0
          have y0 := H4.b2.ownO_cell q (.slice Av n' cv) (by simp [hql, hp])
          have HMEM := Lib.hid hmem
          have HCM := Lib.hid hcm
          have HZ := Lib.hid hz
          have hki : (q : Int) < (k : Int) := by omega
          have hcv : (cv : Int) ≤ (cv : Int) := by omega
          have hcv0 : (0 : Int) ≤ (cv : Int) := by omega
          clear hp hp2 hX hmem hcm hz hql
          go_upto_region 14 with fail
          go_quiet (fail)
          have H5 := H4.drewN nq
          have E5 := E4.drewN nq
          generalize wr.drewN nq = w5 at *
          clear x0 y0 H4 E4
          go_wp2_with fail
          go_loopw [10] (fun jj wq => ∃ j : Nat, j ≤ cv ∧ jj = .int .i64 j ∧ Sat wq (all L :: row b 82 #[.slice (some ⟨gL, oL, none⟩) k cL, vW, .int .i64 held, .bool false] :: ownO 59 (.slice (some ⟨gL, oL, none⟩) k cL) k (items.map (·.v)) :: F) ∧ Env w wq) (fun jj _ => cv - (intOf jj).toNat)
          case atStart => exact ⟨0, by omega, rfl, H5, E5⟩
          case round =>
            clear H5 E5
            obtain ⟨j, hj, rfl, H7, E7⟩ := hrel
            by_cases hjc : j < cv
            · have HA := H7.all_at HMEM.out
              obtain ⟨gv, cv', hAv, -⟩ := HA.own_addr (by omega)
              cases hAv
              have z0 := HA.own_cell _ _ (HZ.out j hjc).1
              have z1 := HA.own_cell _ _ (HZ.out j hjc).2.1
              have z2 := HA.own_cell _ _ (HZ.out j hjc).2.2
              have e1 : IntKind.i64.wrap ((j : Int) + 1) = (j : Int) + 1 := IntWalk.i64_in _ (by have := HCM.out; simp only [maxLen] at this; omega)
              have hjb := Lib.hid (show j < 9223372036854775808 by have := HCM.out; simp only [maxLen] at this; omega)
              have hji : (j : Int) < (cv : Int) := by omega
              have hjn : ¬ (cv : Int) ≤ (j : Int) := by omega
              have hne := neLane (-100 - q) (-j) 0 (-100 - q) (-j) 0
              clear HA
              go_upto_region 18 with fail
              go_region_held3 (fun w' => w'.cell? ⟨gv, j * 3, none⟩ = some (.int .i64 (-100 - q)) ∧ w'.cell? ⟨gv, j * 3 + 1, none⟩ = some (.int .i64 (-j)) ∧ w'.cell? ⟨gv, j * 3 + 2, none⟩ = some (.int .i64 0)) (first | exact ⟨z0, z1, z2⟩ | exact ⟨(Hx.all_at HMEM.out).own_cell _ _ (HZ.out j hjc).1, (Hx.all_at HMEM.out).own_cell _ _ (HZ.out j hjc).2.1, (Hx.all_at HMEM.out).own_cell _ _ (HZ.out j hjc).2.2⟩) (first
                | (go_at_call 45; refine (mark_any q j H7.drew (by omega) hjb.out).mono ?_; rintro e wx ⟨rfl, Hx, Ex⟩))
              go_wp2_with fail
              go_roundw
              case rel => exact ⟨j + 1, by omega, by go_num, Hx, E7.drew.trans Ex⟩
              case measure => simp [intOf]; omega
            · obtain rfl : j = cv := by omega
              go_wp2_with fail
              go_roundw
              case rel => exact ⟨q + 1, by omega, by go_num, H7, E7⟩
              case measure => simp [intOf]; omega
        · have H5 := H4.b1
          have s0 := H5.cell 0
          have t0 := H5.free 0
          have H6 := H5.set (i := 0) (.slice none 0 0)
          have E6 := E4.set ⟨b, 0, none⟩ (.slice none 0 0)
          go_upto_region 21 with fail
          generalize wr.setCell ⟨b, 0, none⟩ (.slice none 0 0) = w6 at *
          clear s0 t0 H4 H5 E4
          have s1 := H6.cell 1
          have t1 := H6.free 1
          have H7 := H6.set (i := 1) (.slice none 0 0)
          have E7 := E6.set ⟨b, 1, none⟩ (.slice none 0 0)
          go_upto_region 22 with fail
          generalize w6.setCell ⟨b, 1, none⟩ (.slice none 0 0) = w7 at *
          clear s1 t1 H6 E6
          have s2 := H7.cell 2
          have t2 := H7.free 2
          have H8 := H7.set (i := 2) (.int .i64 0)
          have E8 := E7.set ⟨b, 2, none⟩ (.int .i64 0)
          go_wp2_with fail
          go_ret
          exact ⟨rfl, H8.tail.tail.tail, E8⟩
end Go.Proofs.Ytcgpmenknloagaa
