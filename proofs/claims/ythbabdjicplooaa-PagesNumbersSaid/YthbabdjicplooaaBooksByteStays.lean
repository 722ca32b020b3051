/- The book of lists, elements uint8: Stays. Conditions: fewer than 4000 lists, of fewer than 2^32 elements. -/
import Derived.Test.YthbabdjicplooaaBooksByte
namespace Go.Proofs.Ythbabdjicplooaa
open Go.RowKit

set_option maxHeartbeats 4000000 in
set_option maxRecDepth 100000 in
theorem stays_byte {w : World} {F : List HP} (b : Nat) (R : Bk) (H : Sat w (bk_byte b R :: F)) (hi : R.items.length < 4000) (hx : ∀ p ∈ R.items, p.n < 4294967296 ∧ ∃ l : List Int, p.xs = l.map (Value.int .u8)) :
    Calls Try.prog 72 #[.pointer (some ⟨b, 0, none⟩)] w fun e w' => e = .returned (.bool true) ∧ Sat w' (bk_byte b R :: F) ∧ Env w w' := by
  obtain ⟨vL, vW, items, held⟩ := R
  dsimp only at hi hx
  have HX := Lib.hid hx
  clear hx
  have H2 := H.bk_open_byte
  dsimp only at H2
  clear H
  obtain ⟨AL, cL, rfl, -, -, -⟩ := H2.b1.ownO_form
  obtain ⟨AW, cW, rfl, -, -, -⟩ := H2.b2.ownO_form
  obtain ⟨m, hm⟩ : ∃ m, items.length = m := ⟨_, rfl⟩
  have HM := Lib.hid hm
  rw [hm] at H2 hi
  clear hm
  go_enter Try.func72, Try.ntmps72
  go_wp2_with fail
  go_loopw [3] (fun i wr => ∃ k : Nat, k ≤ m ∧ i = .int .i64 k ∧ Sat wr (row b 41 #[.slice AL m cL, .slice AW m cW, .int .i64 held, .bool false] :: ownO 30 (.slice AL m cL) m (items.map (·.v)) :: ownO 30 (.slice AW m cW) m (items.map (·.u)) :: all (bkL_byte items) :: all (bkW_byte items) :: F) ∧ Env w wr) (fun i _ => m - (intOf i).toNat)
  case atStart => exact ⟨0, by omega, rfl, H2, Env.refl w⟩
  case round =>
    clear H2
    obtain ⟨k, hk, rfl, H3, E3⟩ := hrel
    have x0 := H3.cell 0
    have x1 := H3.cell 1
    have x3 := H3.cell 3
    by_cases hlt : k < m
    · have hkl : k < items.length := by rw [HM.out]; exact hlt
      obtain ⟨v, n, u, xs, hp⟩ : ∃ v n u xs, items[k] = ⟨v, n, u, xs⟩ := ⟨_, _, _, _, rfl⟩
      have hmem : (⟨v, n, u, xs⟩ : Kp) ∈ items := hp ▸ List.getElem_mem hkl
      obtain ⟨hn, l, rfl⟩ := HX.out _ hmem
      dsimp only at hn
      have HA : ∀ w', Sat w' (row b 41 #[.slice AL m cL, .slice AW m cW, .int .i64 held, .bool false] :: ownO 30 (.slice AL m cL) m (items.map (·.v)) :: ownO 30 (.slice AW m cW) m (items.map (·.u)) :: all (bkL_byte items) :: all (bkW_byte items) :: F) → Sat w' (own 5 1 v n (l.map (Value.int .u8)) :: []) ∧ Sat w' (own 5 1 u n (l.map (Value.int .u8)) :: []) := by
        intro w' h
        have drop : ∀ (A : HP) (L : List HP), Sat w' (A :: L) → Sat w' [A] := by
          intro A L h
          induction L with
          | nil => exact h
          | cons x L ih => exact ih h.b1.tail
        exact ⟨drop _ _ ((h.b3).all_at (List.mem_map_of_mem (f := fun p : Kp => own 5 1 p.v p.n p.xs) hmem)), drop _ _ ((h.b4).all_at (List.mem_map_of_mem (f := fun p : Kp => own 5 1 p.u p.n p.xs) hmem))⟩
      obtain ⟨hv, hu⟩ := HA wr H3
      obtain ⟨Av, cv, rfl, -, -, rv⟩ := hv.own_form
      obtain ⟨Au, cu, rfl, -, -, ru⟩ := hu.own_form
      obtain ⟨gL, oL, cL', hAL, -⟩ := H3.b1.ownO_addr (by omega)
      cases hAL
      obtain ⟨gW, oW, cW', hAW, -⟩ := H3.b2.ownO_addr (by omega)
      cases hAW
      have y0 := H3.b1.ownO_cell k (.slice Av n cv) (by simp [hkl, hp])
      have y1 := H3.b2.ownO_cell k (.slice Au n cu) (by simp [hkl, hp])
      have RV := Lib.hid rv
      have RU := Lib.hid ru
      have HP := Lib.hid (And.intro hp hmem)
      clear HA hv hu rv ru hp hmem
      have hki : (k : Int) < (m : Int) := by omega
      go_upto_region 4 with fail
      refine region_aside2 (fun w' => w'.cell? ⟨b, 0, none⟩ = some (.slice (some ⟨gL, oL, none⟩) m cL) ∧ w'.cell? ⟨b, 1, none⟩ = some (.slice (some ⟨gW, oW, none⟩) m cW) ∧ w'.cell? ⟨b, 3, none⟩ = some (.bool false) ∧ w'.cell? ⟨gL, oL + k, none⟩ = some (.slice Av n cv) ∧ w'.cell? ⟨gW, oW + k, none⟩ = some (.slice Au n cu)) 25 _ (by kernel_rfl) rfl rfl rfl (by kernel_rfl) (by kernel_rfl) ⟨x0, x1, x3, y0, y1⟩ (fun hHeld => ?_)
      simp only [setAside, List.setIfInBounds_toArray, List.set_cons_zero, List.set_cons_succ]
      refine' wpAnyH_take (i := 0) (oi := _) (v := _) rfl (by kernel_rfl) (by kernel_rfl) (by kernel_rfl) (fun _ _ _ h => h) (Or.inl ⟨by rfl, ?hy0⟩) hHeld ?rest0
      case hy0 => (intro w' hSw; (try dsimp only at hSw); go_simp; try with_reducible rfl)
      simp only [List.getElem_toArray, List.getElem_cons_zero, List.getElem_cons_succ, Act.put, List.setIfInBounds_toArray, List.set_cons_zero, List.set_cons_succ]
      refine' wpAnyH_take (i := 1) (oi := _) (v := _) rfl (by kernel_rfl) (by kernel_rfl) (by kernel_rfl) (fun _ _ _ h => h) (Or.inl ⟨by rfl, ?hy1⟩) hHeld ?rest1
      case hy1 => (intro w' hSw; (try dsimp only at hSw); go_simp; try with_reducible rfl)
      simp only [List.getElem_toArray, List.getElem_cons_zero, List.getElem_cons_succ, Act.put, List.setIfInBounds_toArray, List.set_cons_zero, List.set_cons_succ]
      refine' wpAnyH_take (i := 2) (oi := _) (v := _) rfl (by kernel_rfl) (by kernel_rfl) (by kernel_rfl) (fun _ _ _ h => h) (Or.inl ⟨by rfl, ?hy2⟩) hHeld ?rest2
      case hy2 => (intro w' hSw; (try dsimp only at hSw); go_simp; try with_reducible rfl)
      simp only [List.getElem_toArray, List.getElem_cons_zero, List.getElem_cons_succ, Act.put, List.setIfInBounds_toArray, List.set_cons_zero, List.set_cons_succ]
      refine' wpAnyH_take (i := 3) (oi := _) (v := _) rfl (by kernel_rfl) (by kernel_rfl) (by kernel_rfl) (fun _ _ _ h => h) (Or.inl ⟨by rfl, ?hy3⟩) hHeld ?rest3
      case hy3 => (intro w' hSw; (try dsimp only at hSw); go_simp; try with_reducible rfl)
      simp only [List.getElem_toArray, List.getElem_cons_zero, List.getElem_cons_succ, Act.put, List.setIfInBounds_toArray, List.set_cons_zero, List.set_cons_succ]
      refine' wpAnyH_take (i := 4) (oi := _) (v := _) rfl (by kernel_rfl) (by kernel_rfl) (by kernel_rfl) (fun _ _ _ h => h) (Or.inl ⟨by rfl, ?hy4⟩) hHeld ?rest4
      case hy4 => (intro w' hSw; (try dsimp only at hSw); go_simp; try with_reducible rfl)
      simp only [List.getElem_toArray, List.getElem_cons_zero, List.getElem_cons_succ, Act.put, List.setIfInBounds_toArray, List.set_cons_zero, List.set_cons_succ]
      refine' wpAnyH_take (i := 5) (oi := _) (v := _) rfl (by kernel_rfl) (by kernel_rfl) (by kernel_rfl) (fun _ _ _ h => h) (Or.inl ⟨by rfl, ?hy5⟩) hHeld ?rest5
      case hy5 => (intro w' hSw; (try dsimp only at hSw); go_simp; try with_reducible rfl)
      simp only [List.getElem_toArray, List.getElem_cons_zero, List.getElem_cons_succ, Act.put, List.setIfInBounds_toArray, List.set_cons_zero, List.set_cons_succ]
      refine' wpAnyH_take (i := 6) (oi := _) (v := _) rfl (by kernel_rfl) (by kernel_rfl) (by kernel_rfl) (fun _ _ _ h => h) (Or.inl ⟨by rfl, ?hy6⟩) hHeld ?rest6
      case hy6 => (intro w' hSw; (try dsimp only at hSw); go_simp; try with_reducible rfl)
      simp only [List.getElem_toArray, List.getElem_cons_zero, List.getElem_cons_succ, Act.put, List.setIfInBounds_toArray, List.set_cons_zero, List.set_cons_succ]
      refine' wpAnyH_take (i := 7) (oi := _) (v := _) rfl (by kernel_rfl) (by kernel_rfl) (by kernel_rfl) (fun _ _ _ h => h) (Or.inl ⟨by rfl, ?hy7⟩) hHeld ?rest7
      case hy7 => (intro w' hSw; (try dsimp only at hSw); go_simp; try with_reducible rfl)
      simp only [List.getElem_toArray, List.getElem_cons_zero, List.getElem_cons_succ, Act.put, List.setIfInBounds_toArray, List.set_cons_zero, List.set_cons_succ]
      refine' wpAnyH_take (i := 8) (oi := _) (v := _) rfl (by kernel_rfl) (by kernel_rfl) (by kernel_rfl) (fun _ _ _ h => h) (Or.inl ⟨by rfl, ?hy8⟩) hHeld ?rest8
      case hy8 => (intro w' hSw; (try dsimp only at hSw); go_simp; try with_reducible rfl)
      simp only [List.getElem_toArray, List.getElem_cons_zero, List.getElem_cons_succ, Act.put, List.setIfInBounds_toArray, List.set_cons_zero, List.set_cons_succ]
      refine' wpAnyH_take (i := 9) (oi := _) (v := _) rfl (by kernel_rfl) (by kernel_rfl) (by kernel_rfl) (fun _ _ _ h => h) (Or.inl ⟨by rfl, ?hy9⟩) hHeld ?rest9
      case hy9 => (intro w' hSw; (try dsimp only at hSw); go_simp; try with_reducible rfl)
      simp only [List.getElem_toArray, List.getElem_cons_zero, List.getElem_cons_succ, Act.put, List.setIfInBounds_toArray, List.set_cons_zero, List.set_cons_succ]
      refine' wpAnyH_take (i := 10) (oi := _) (v := _) rfl (by kernel_rfl) (by kernel_rfl) (by kernel_rfl) (fun _ _ _ h => h) (Or.inl ⟨by rfl, ?hy10⟩) hHeld ?rest10
      case hy10 => (intro w' hSw; (try dsimp only at hSw); go_simp; try with_reducible rfl)
      simp only [List.getElem_toArray, List.getElem_cons_zero, List.getElem_cons_succ, Act.put, List.setIfInBounds_toArray, List.set_cons_zero, List.set_cons_succ]
      refine' wpAnyH_take (i := 11) (oi := _) (v := _) rfl (by kernel_rfl) (by kernel_rfl) (by kernel_rfl) (fun _ _ _ h => h) (Or.inl ⟨by rfl, ?hy11⟩) hHeld ?rest11
      case hy11 => (intro w' hSw; (try dsimp only at hSw); go_simp; try with_reducible rfl)
      simp only [List.getElem_toArray, List.getElem_cons_zero, List.getElem_cons_succ, Act.put, List.setIfInBounds_toArray, List.set_cons_zero, List.set_cons_succ]
      refine' wpAnyH_take (i := 12) (oi := _) (v := _) rfl (by kernel_rfl) (by kernel_rfl) (by kernel_rfl) (fun _ _ _ h => h) (Or.inl ⟨by rfl, ?hy12⟩) hHeld ?rest12
      case hy12 => (intro w' hSw; (try dsimp only at hSw); go_simp; try with_reducible rfl)
      simp only [List.getElem_toArray, List.getElem_cons_zero, List.getElem_cons_succ, Act.put, List.setIfInBounds_toArray, List.set_cons_zero, List.set_cons_succ]
      refine' wpAnyH_take (i := 13) (oi := _) (v := _) rfl (by kernel_rfl) (by kernel_rfl) (by kernel_rfl) (fun _ _ _ h => h) (Or.inl ⟨by rfl, ?hy13⟩) hHeld ?rest13
      case hy13 => (intro w' hSw; (try dsimp only at hSw); go_simp; try with_reducible rfl)
      simp only [List.getElem_toArray, List.getElem_cons_zero, List.getElem_cons_succ, Act.put, List.setIfInBounds_toArray, List.set_cons_zero, List.set_cons_succ]
      refine' wpAnyH_take (i := 14) (oi := _) (v := _) rfl (by kernel_rfl) (by kernel_rfl) (by kernel_rfl) (fun _ _ _ h => h) (Or.inl ⟨by rfl, ?hy14⟩) hHeld ?rest14
      case hy14 => (intro w' hSw; (try dsimp only at hSw); go_simp; try with_reducible rfl)
      simp only [List.getElem_toArray, List.getElem_cons_zero, List.getElem_cons_succ, Act.put, List.setIfInBounds_toArray, List.set_cons_zero, List.set_cons_succ]
      refine' wpAnyH_take (i := 15) (oi := _) (v := _) rfl (by kernel_rfl) (by kernel_rfl) (by kernel_rfl) (fun _ _ _ h => h) (Or.inl ⟨by rfl, ?hy15⟩) hHeld ?rest15
      case hy15 => (intro w' hSw; (try dsimp only at hSw); go_simp; try with_reducible rfl)
      simp only [List.getElem_toArray, List.getElem_cons_zero, List.getElem_cons_succ, Act.put, List.setIfInBounds_toArray, List.set_cons_zero, List.set_cons_succ]
      refine' wpAnyH_take (i := 16) (oi := _) (v := _) rfl (by kernel_rfl) (by kernel_rfl) (by kernel_rfl) (fun _ _ _ h => h) (Or.inl ⟨by rfl, ?hy16⟩) hHeld ?rest16
      case hy16 => (intro w' hSw; (try dsimp only at hSw); go_simp; try with_reducible rfl)
      simp only [List.getElem_toArray, List.getElem_cons_zero, List.getElem_cons_succ, Act.put, List.setIfInBounds_toArray, List.set_cons_zero, List.set_cons_succ]
      refine' wpAnyH_take (i := 17) (oi := _) (v := _) rfl (by kernel_rfl) (by kernel_rfl) (by kernel_rfl) (fun _ _ _ h => h) (Or.inl ⟨by rfl, ?hy17⟩) hHeld ?rest17
      case hy17 => (intro w' hSw; (try dsimp only at hSw); go_simp; try with_reducible rfl)
      simp only [List.getElem_toArray, List.getElem_cons_zero, List.getElem_cons_succ, Act.put, List.setIfInBounds_toArray, List.set_cons_zero, List.set_cons_succ]
      refine' wpAnyH_take (i := 18) (oi := _) (v := _) rfl (by kernel_rfl) (by kernel_rfl) (by kernel_rfl) (fun _ _ _ h => h) (Or.inl ⟨by rfl, ?hy18⟩) hHeld ?rest18
      case hy18 => (intro w' hSw; (try dsimp only at hSw); go_simp; try with_reducible rfl)
      simp only [List.getElem_toArray, List.getElem_cons_zero, List.getElem_cons_succ, Act.put, List.setIfInBounds_toArray, List.set_cons_zero, List.set_cons_succ]
      refine' wpAnyH_take (i := 19) (oi := _) (v := _) rfl (by kernel_rfl) (by kernel_rfl) (by kernel_rfl) (fun _ _ _ h => h) (Or.inl ⟨by rfl, ?hy19⟩) hHeld ?rest19
      case hy19 => (intro w' hSw; (try dsimp only at hSw); go_simp; try with_reducible rfl)
      simp only [List.getElem_toArray, List.getElem_cons_zero, List.getElem_cons_succ, Act.put, List.setIfInBounds_toArray, List.set_cons_zero, List.set_cons_succ]
      refine wpAnyH_ready (rs := [20]) (by kernel_rfl) (by simp) ?_
      refine AllReadyH.cons (o := _) rfl (fun K hK => ?_) AllReadyH.nil
      rw [if_pos (by rfl)]
      go_simp
      go_at_call 71
      refine (same_byte Av Au n cv cu l wr.drew hn RV.out RU.out).mono ?_
      rintro e w6 ⟨rfl, q, rfl⟩
      refine hK.out _ _ ⟨x0, x1, x3, y0, y1⟩ (fun hHeld2 => ?_)
      clear hK K
      try simp only [List.getElem_toArray, List.getElem_cons_zero, List.getElem_cons_succ, Act.put, List.setIfInBounds_toArray, List.set_cons_zero, List.set_cons_succ]
      refine' wpAnyH_take (i := 21) (oi := _) (v := _) rfl (by kernel_rfl) (by kernel_rfl) (by kernel_rfl) (fun _ _ _ h => h) (Or.inl ⟨by rfl, ?hy21⟩) hHeld2 ?rest21
      case hy21 => (intro w' hSw; (try dsimp only at hSw); go_simp; try with_reducible rfl)
      simp only [List.getElem_toArray, List.getElem_cons_zero, List.getElem_cons_succ, Act.put, List.setIfInBounds_toArray, List.set_cons_zero, List.set_cons_succ]
      refine' wpAnyH_take (i := 22) (oi := _) (v := _) rfl (by kernel_rfl) (by kernel_rfl) (by kernel_rfl) (fun _ _ _ h => h) (Or.inl ⟨by rfl, ?hy22⟩) hHeld2 ?rest22
      case hy22 => (intro w' hSw; (try dsimp only at hSw); go_simp; try with_reducible rfl)
      simp only [List.getElem_toArray, List.getElem_cons_zero, List.getElem_cons_succ, Act.put, List.setIfInBounds_toArray, List.set_cons_zero, List.set_cons_succ]
      refine' wpAnyH_take (i := 23) (oi := _) (v := _) rfl (by kernel_rfl) (by kernel_rfl) (by kernel_rfl) (fun _ _ _ h => h) (Or.inl ⟨by rfl, ?hy23⟩) hHeld2 ?rest23
      case hy23 => (intro w' hSw; (try dsimp only at hSw); go_simp; try with_reducible rfl)
      simp only [List.getElem_toArray, List.getElem_cons_zero, List.getElem_cons_succ, Act.put, List.setIfInBounds_toArray, List.set_cons_zero, List.set_cons_succ]
      refine' wpAnyH_take (i := 24) (oi := _) (v := _) rfl (by kernel_rfl) (by kernel_rfl) (by kernel_rfl) (fun _ _ _ h => h) (Or.inl ⟨by rfl, ?hy24⟩) hHeld2 ?rest24
      case hy24 => (intro w' hSw; (try dsimp only at hSw); go_simp; try with_reducible rfl)
      simp only [List.getElem_toArray, List.getElem_cons_zero, List.getElem_cons_succ, Act.put, List.setIfInBounds_toArray, List.set_cons_zero, List.set_cons_succ]
      refine' wpAnyH_take (i := 25) (oi := _) (v := _) rfl (by kernel_rfl) (by kernel_rfl) (by kernel_rfl) (fun _ _ _ h => h) (Or.inl ⟨by rfl, ?hy25⟩) hHeld2 ?rest25
      case hy25 => (intro w' hSw; (try dsimp only at hSw); go_simp; try with_reducible rfl)
      try simp only [List.getElem_toArray, List.getElem_cons_zero, List.getElem_cons_succ, Act.put]
      refine wpAnyH_done (by kernel_rfl) ?_ _
      show Oper.wp _ _ _ _ _ _
      have H6 := H3.drew.drewN q
      have E6 := E3.drew.drewN q
      generalize wr.drew.drewN q = w6 at *
      have c3 := H6.cell 3
      have f3 := H6.free 3
      have H7 : Sat (w6.setCell ⟨b, 3, none⟩ (.bool false)) (row b 41 #[.slice (some ⟨gL, oL, none⟩) m cL, .slice (some ⟨gW, oW, none⟩) m cW, .int .i64 held, .bool false] :: ownO 30 (.slice (some ⟨gL, oL, none⟩) m cL) m (items.map (·.v)) :: ownO 30 (.slice (some ⟨gW, oW, none⟩) m cW) m (items.map (·.u)) :: all (bkL_byte items) :: all (bkW_byte items) :: F) := H6.set (i := 3) (.bool false)
      have E7 := E6.set ⟨b, 3, none⟩ (.bool false)
      clear x0 x1 x3 y0 y1 hHeld hHeld2
      go_simp
      generalize w6.setCell ⟨b, 3, none⟩ (.bool false) = w7 at *
      clear c3 f3 H3 E3 H6 E6
      go_wp2_with fail
      go_roundw
      case rel => exact ⟨k + 1, by omega, by go_num, H7, E7⟩
      case measure => simp [intOf]; omega
    · go_wp2_with fail
      go_ret
      exact ⟨rfl, by rw [HM.out]; exact Sat.bk_shut_byte ⟨.slice AL m cL, .slice AW m cW, items, held⟩ (by dsimp only; rw [HM.out]; exact H3), E3⟩
end Go.Proofs.Ythbabdjicplooaa
