/- The book of lists, elements uint8: Apart, with the marks of the statement. Conditions: fewer than 4000 lists, of fewer than 2^32 elements. -/
import Derived.Test.YthbabdjicplooaaBooksByteStays
namespace Go.Proofs.Ythbabdjicplooaa
open Go.RowKit

def markB (i j : Nat) : Int := if j % 3 = 0 then ((i : Int) + 1) % 256 else if j % 3 = 1 then ((i : Int) + 1) / 256 % 256 else ((i : Int) + 1) / 65536 % 256
set_option maxHeartbeats 1000000 in
set_option maxRecDepth 100000 in
theorem mark_any (i j : Nat) (w : World) (hi : i < 4294967296) (_ : j < 9223372036854775808) :
    Calls Try.prog 31 #[.int .i64 i, .int .i64 j] w fun e w' => e = .returned (.int .u8 (markB i j)) ∧ w = w' := by
  have hr : (j : Int).tmod 3 = ((j % 3 : Nat) : Int) := by rw [Int.tmod_eq_emod_of_nonneg (by omega)]; omega
  have h3 : j % 3 < 3 := Nat.mod_lt _ (by omega)
  unfold markB
  generalize j % 3 = r at hr h3 ⊢
  have hc : r = 0 ∨ r = 1 ∨ r = 2 := by omega
  go_enter Try.func31, Try.ntmps31
  rename_i hj
  clear hj
  rcases hc with rfl | rfl | rfl
  all_goals
    go_wp2_with fail
    go_ret
    exact ⟨rfl, rfl⟩

def Marked_byte (p : Kp) (t : Nat) (X : HP) : Prop := ∃ A n c zs, p.v = .slice A n c ∧ c ≤ maxLen ∧ X = own 5 1 (.slice A c c) c zs ∧ ∀ j, j < c → zs[j]? = some (.int .u8 (markB t j))
def Half_byte (items : List Kp) (m k : Nat) (L : List HP) : Prop := L.length = m ∧ (∀ t (p : Kp), t < k → items[t]? = some p → ∃ X, L[t]? = some X ∧ Marked_byte p t X) ∧ ∀ t (p : Kp), k ≤ t → items[t]? = some p → L[t]? = some (own 5 1 p.v p.n p.xs)
theorem half_start_byte (items : List Kp) : Half_byte items items.length 0 (bkL_byte items) := ⟨by simp [bkL_byte], fun t p h => by omega, fun t p _ h => by simp [bkL_byte, h]⟩
theorem Half_byte.step {items : List Kp} {m k : Nat} {L : List HP} (h : Half_byte items m k L) (hk : k < m) (p : Kp) (hp : items[k]? = some p) (X : HP) (hX : Marked_byte p k X) : Half_byte items m (k + 1) (L.set k X) := by
  obtain ⟨h1, h2, h3⟩ := h
  refine ⟨by simpa using h1, fun t q ht hq => ?_, fun t q ht hq => ?_⟩
  · by_cases e : t = k
    · subst e
      rw [hp] at hq; cases hq
      exact ⟨X, by rw [List.getElem?_set_self (by omega)], hX⟩
    · obtain ⟨Y, hY, hM⟩ := h2 t q (by omega) hq
      exact ⟨Y, by rw [List.getElem?_set_ne (fun e' => e e'.symm)]; exact hY, hM⟩
  · rw [List.getElem?_set_ne (by omega)]
    exact h3 t q (by omega) hq

set_option maxHeartbeats 8000000 in
set_option maxRecDepth 100000 in
theorem apart_byte {w : World} {F : List HP} (b : Nat) (R : Bk) (H : Sat w (bk_byte b R :: F)) (hi : R.items.length < 4000) (hx : ∀ p ∈ R.items, p.n < 4294967296 ∧ ∃ l : List Int, p.xs = l.map (Value.int .u8)) :
    Calls Try.prog 30 #[.pointer (some ⟨b, 0, none⟩), .func (.func 31) #[] #[]] w fun e w' => e = .returned (.bool true) ∧ Sat w' F ∧ Env w w' := by
  have HS := Lib.hid (stays_byte b R H hi hx)
  clear hx H
  obtain ⟨vL, vW, items, held⟩ := R
  dsimp only at hi
  go_enter Try.func30, Try.ntmps30
  go_wp2_with fail
  refine HS.out.mono ?_
  clear HS
  rintro e w1 ⟨rfl, H1, E1⟩
  replace H1 := H1.bk_open_byte
  dsimp only at H1
  obtain ⟨AL, cL, rfl, -, -, -⟩ := H1.b1.ownO_form
  have H2 := (H1.b3.b3.tail.b3.tail)
  clear H1
  have hH := half_start_byte items
  obtain ⟨m, hm⟩ : ∃ m, items.length = m := ⟨_, rfl⟩
  rw [hm] at H2 hi hH
  have HM := Lib.hid hm
  clear hm
  have HH := Lib.hid hH
  clear hH
  go_wp2_with fail
  go_loopw [5] (fun i wr => ∃ (k : Nat) (L : List HP), k ≤ m ∧ i = .int .i64 k ∧ Hid (Half_byte items m k L) ∧ Sat wr (all L :: row b 41 #[.slice AL m cL, vW, .int .i64 held, .bool false] :: ownO 30 (.slice AL m cL) m (items.map (·.v)) :: F) ∧ Env w wr) (fun i _ => m - (intOf i).toNat)
  case atStart => exact ⟨0, bkL_byte items, by omega, rfl, HH.out, H2, E1⟩
  case round =>
    clear H2 E1 HH
    obtain ⟨k, L, hk, rfl, HHk, H3, E3⟩ := hrel
    by_cases hlt : k < m
    · have hkl : k < items.length := by rw [HM.out]; exact hlt
      obtain ⟨v, n, u, xs, hp⟩ : ∃ v n u xs, items[k] = ⟨v, n, u, xs⟩ := ⟨_, _, _, _, rfl⟩
      have hp2 : items[k]? = some ⟨v, n, u, xs⟩ := by rw [List.getElem?_eq_getElem hkl, hp]
      have hLk : k < L.length := by rw [HHk.out.1]; exact hlt
      have hLX := HHk.out.2.2 k _ (Nat.le_refl _) hp2
      have H4 := H3.focus hLk
      rw [List.getElem?_eq_getElem hLk] at hLX
      rw [Option.some.inj hLX] at H4
      dsimp only at H4
      obtain ⟨Av, cv, rfl, -, hcm, -⟩ := H4.own_form
      obtain ⟨ys, H5⟩ := H4.own_full
      obtain ⟨gL, oL, cL', hAL, -⟩ := H5.b3.ownO_addr (by omega)
      cases hAL
      have x0 := H5.b2.cell 0
      have y0 := H5.b3.ownO_cell k (.slice Av n cv) (by simp [hkl, hp])
      have HP2 := Lib.hid hp2
      have HLK := Lib.hid hLk
      have HCM := Lib.hid hcm
      have hki : (k : Int) < (m : Int) := by omega
      have hcv : (cv : Int) ≤ (cv : Int) := by omega
      have hcv0 : (0 : Int) ≤ (cv : Int) := by omega
      clear hp hp2 hLk hLX hcm H3 H4 hkl
      go_upto_region 6 with fail
      go_quiet (fail)
      have H6 := H5.drewN nq
      have E6 := E3.drewN nq
      generalize wr.drewN nq = w6 at *
      clear x0 y0 H5 E3
      go_wp2_with fail
      go_loopw [7] (fun jj wq => ∃ (j : Nat) (zs : List Value), j ≤ cv ∧ jj = .int .i64 j ∧ Hid (∀ t, t < j → zs[t]? = some (.int .u8 (markB k t))) ∧ Sat wq (own 5 1 (.slice Av cv cv) cv zs :: all (L.set k emp) :: row b 41 #[.slice (some ⟨gL, oL, none⟩) m cL, vW, .int .i64 held, .bool false] :: ownO 30 (.slice (some ⟨gL, oL, none⟩) m cL) m (items.map (·.v)) :: F) ∧ Env w wq) (fun jj _ => cv - (intOf jj).toNat)
      case atStart => exact ⟨0, ys, by omega, rfl, fun t ht => by omega, H6, E6⟩
      case round =>
        clear H6 E6
        obtain ⟨j, zs, hj, rfl, HZ, H7, E7⟩ := hrel
        by_cases hjc : j < cv
        · obtain ⟨gv, cv', hAv, -⟩ := H7.own_addr (by omega)
          cases hAv
          have hzl : j < zs.length := by have := H7.owns.1; omega
          have z0 := H7.own_cell j _ (List.getElem?_eq_getElem hzl)
          have f0 := H7.own_free (by omega) j
          generalize zs[j] = zo at z0
          have e1 : IntKind.i64.wrap ((j : Int) + 1) = (j : Int) + 1 := IntWalk.i64_in _ (by have := HCM.out; simp only [maxLen] at this; omega)
          have hjb := Lib.hid (show j < 9223372036854775808 by have := HCM.out; simp only [maxLen] at this; omega)
          have hji : (j : Int) < (cv : Int) := by omega
          have hjn : ¬ (cv : Int) ≤ (j : Int) := by omega
          go_wp2_with fail
          refine (mark_any k j _ (by omega) hjb.out).mono ?_
          rintro e wx ⟨rfl, rfl⟩
          have H8 := H7.own_set (i := j) (by omega) (.int .u8 (markB k j))
          have E8 := E7.set ⟨gv, j, none⟩ (.int .u8 (markB k j))
          have HZ8 := Lib.hid (show ∀ t, t < j + 1 → (zs.set j (.int .u8 (markB k j)))[t]? = some (.int .u8 (markB k t)) from fun t ht => by
            by_cases e : t = j
            · subst e; rw [List.getElem?_set_self hzl]
            · rw [List.getElem?_set_ne (fun e' => e e'.symm)]; exact HZ.out t (by omega))
          have HS8 := Lib.hid H8
          have HE8 := Lib.hid E8
          clear hzl H8 E8
          go_wp2_with fail
          go_roundw
          case rel => exact ⟨j + 1, _, by omega, by go_num, HZ8.out, HS8.out, HE8.out⟩
          case measure => simp [intOf]; omega
        · obtain rfl : j = cv := by omega
          have H8 := H7.unfocus HLK.out
          have HH8 := Lib.hid (HHk.out.step hlt _ HP2.out _ ⟨Av, n, j, zs, rfl, HCM.out, rfl, HZ.out⟩)
          clear H7
          go_wp2_with fail
          go_roundw
          case rel => exact ⟨k + 1, _, by omega, by go_num, HH8.out, H8, E7⟩
          case measure => simp [intOf]; omega
    · obtain rfl : k = m := by omega
      have x0 := H3.b1.cell 0
      go_wp2_with fail
      clear x0
      go_loopw [8] (fun i wr => ∃ q : Nat, q ≤ k ∧ i = .int .i64 q ∧ Sat wr (all L :: row b 41 #[.slice AL k cL, vW, .int .i64 held, .bool false] :: ownO 30 (.slice AL k cL) k (items.map (·.v)) :: F) ∧ Env w wr) (fun i _ => k - (intOf i).toNat)
      case atStart => exact ⟨0, by omega, rfl, H3, E3⟩
      case round =>
        clear H3 E3
        obtain ⟨q, hq, rfl, H4, E4⟩ := hrel
        by_cases hlt2 : q < k
        · have hql : q < items.length := by rw [HM.out]; exact hlt2
          obtain ⟨v, n, u, xs, hp⟩ : ∃ v n u xs, items[q] = ⟨v, n, u, xs⟩ := ⟨_, _, _, _, rfl⟩
          have hp2 : items[q]? = some ⟨v, n, u, xs⟩ := by rw [List.getElem?_eq_getElem hql, hp]
          obtain ⟨X, hX, Av, n', cv, zs, hv, hcm, rfl, hz⟩ := HHk.out.2.1 q _ hlt2 hp2
          dsimp only at hv
          subst hv
          have hmem := List.mem_of_getElem? hX
          obtain ⟨gL, oL, cL', hAL, -⟩ := H4.b2.ownO_addr (by omega)
          cases hAL
          have x0 := H4.b1.cell 0
          have y0 := H4.b2.ownO_cell q (.slice Av n' cv) (by simp [hql, hp])
          have HMEM := Lib.hid hmem
          have HCM := Lib.hid hcm
          have HZ := Lib.hid hz
          have hki : (q : Int) < (k : Int) := by omega
          have hcv : (cv : Int) ≤ (cv : Int) := by omega
          have hcv0 : (0 : Int) ≤ (cv : Int) := by omega
          clear hp hp2 hX hmem hcm hz hql
          go_upto_region 14 with fail
          go_quiet (fail)
          have H5 := H4.drewN nq
          have E5 := E4.drewN nq
          generalize wr.drewN nq = w5 at *
          clear x0 y0 H4 E4
          go_wp2_with fail
          go_loopw [10] (fun jj wq => ∃ j : Nat, j ≤ cv ∧ jj = .int .i64 j ∧ Sat wq (all L :: row b 41 #[.slice (some ⟨gL, oL, none⟩) k cL, vW, .int .i64 held, .bool false] :: ownO 30 (.slice (some ⟨gL, oL, none⟩) k cL) k (items.map (·.v)) :: F) ∧ Env w wq) (fun jj _ => cv - (intOf jj).toNat)
          case atStart => exact ⟨0, by omega, rfl, H5, E5⟩
          case round =>
            clear H5 E5
            obtain ⟨j, hj, rfl, H7, E7⟩ := hrel
            by_cases hjc : j < cv
            · have HA := H7.all_at HMEM.out
              obtain ⟨gv, cv', hAv, -⟩ := HA.own_addr (by omega)
              cases hAv
              have z0 := HA.own_cell j _ (HZ.out j hjc)
              have e1 : IntKind.i64.wrap ((j : Int) + 1) = (j : Int) + 1 := IntWalk.i64_in _ (by have := HCM.out; simp only [maxLen] at this; omega)
              have hjb := Lib.hid (show j < 9223372036854775808 by have := HCM.out; simp only [maxLen] at this; omega)
              have hji : (j : Int) < (cv : Int) := by omega
              have hjn : ¬ (cv : Int) ≤ (j : Int) := by omega
              obtain ⟨mk, hmk⟩ : ∃ mk, markB q j = mk := ⟨_, rfl⟩
              rw [hmk] at z0
              have HMK := Lib.hid hmk
              clear HA hmk
              go_upto_region 18 with fail
              have H8 := H7.drew
              have E8 := E7.drew
              go_region_held3 (fun w' => w'.cell? ⟨gv, j, none⟩ = some (.int .u8 mk)) (first | exact z0) (first
                | (go_at_call 31; refine (mark_any q j _ (by omega) hjb.out).mono ?_; rintro e wx ⟨rfl, rfl⟩; rw [HMK.out]))
              go_wp2_with fail
              go_roundw
              case rel => exact ⟨j + 1, by omega, by go_num, H8, E8⟩
              case measure => simp [intOf]; omega
            · obtain rfl : j = cv := by omega
              go_wp2_with fail
              go_roundw
              case rel => exact ⟨q + 1, by omega, by go_num, H7, E7⟩
              case measure => simp [intOf]; omega
        · have H5 := H4.b1
          have s0 := H5.cell 0
          have t0 := H5.free 0
          have H6 := H5.set (i := 0) (.slice none 0 0)
          have E6 := E4.set ⟨b, 0, none⟩ (.slice none 0 0)
          go_upto_region 21 with fail
          generalize wr.setCell ⟨b, 0, none⟩ (.slice none 0 0) = w6 at *
          clear s0 t0 H4 H5 E4
          have s1 := H6.cell 1
          have t1 := H6.free 1
          have H7 := H6.set (i := 1) (.slice none 0 0)
          have E7 := E6.set ⟨b, 1, none⟩ (.slice none 0 0)
          go_upto_region 22 with fail
          generalize w6.setCell ⟨b, 1, none⟩ (.slice none 0 0) = w7 at *
          clear s1 t1 H6 E6
          have s2 := H7.cell 2
          have t2 := H7.free 2
          have H8 := H7.set (i := 2) (.int .i64 0)
          have E8 := E7.set ⟨b, 2, none⟩ (.int .i64 0)
          go_wp2_with fail
          go_ret
          exact ⟨rfl, H8.tail.tail.tail, E8⟩
end Go.Proofs.Ythbabdjicplooaa
