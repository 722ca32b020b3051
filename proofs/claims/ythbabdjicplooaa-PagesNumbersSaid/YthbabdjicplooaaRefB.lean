/- deponentref3's disk as chunks: Write, put, Flush, Crash. Conditions: none. -/
import Derived.Test.YthbabdjicplooaaRef
namespace Go.Proofs.Ythbabdjicplooaa
open Go.RowKit

set_option maxHeartbeats 1000000 in
set_option maxRecDepth 100000 in
theorem rwrite_arg {w : World} {r : Nat} {D : Dsk} {F : List HP} (n : Int) (A : Option Addr) (m c : Nat) (H : Sat w (rdisk r D :: F)) (hn : n < 0 ∨ D.safe.length ≤ n ∨ m ≠ 128) (_ : m < 4294967296) :
    Calls Try.prog 39 #[.pointer (some ⟨r, 0, none⟩), .int .i64 n, .slice A m c] w fun e w' => e = .returned (.int .i64 1) ∧ w = w' := by
  obtain ⟨safe, pend, vS, vP, B, hok, H⟩ := H.rd_open
  have hl : D.safe.length = safe.length := by rw [hok.out.ds]; simp
  rw [hl] at hn
  clear hl
  have hc := H.cell 0
  obtain ⟨AS, cS, rfl, -, -, -⟩ := H.b1.own_form
  go_enter Try.func39, Try.ntmps39
  by_cases h : n < 0
  · go_wp2_with fail
    go_ret
    exact ⟨rfl, rfl⟩
  · by_cases h2 : (safe.length : Int) ≤ n
    · go_wp2_with fail
      go_ret
      exact ⟨rfl, rfl⟩
    · have h3 : ((m : Int) == 128) = false := by simp; omega
      go_wp2_with fail
      go_ret
      exact ⟨rfl, rfl⟩

set_option maxHeartbeats 1000000 in
set_option maxRecDepth 100000 in
theorem rwrite_stop {w : World} {r : Nat} {D : Dsk} {F : List HP} (n : Nat) (A : Option Addr) (c : Nat) (H : Sat w (rdisk r D :: F)) (hn : n < D.safe.length) (hl : D.left = some 0) :
    Calls Try.prog 39 #[.pointer (some ⟨r, 0, none⟩), .int .i64 n, .slice A 128 c] w fun e w' => e = .returned (.int .i64 13) ∧ w = w' := by
  have HG := Lib.hid (rgoes_no H hl)
  obtain ⟨safe, pend, vS, vP, B, hok, H⟩ := H.rd_open
  have hns : n < safe.length := by rw [hok.out.ds] at hn; simpa using hn
  clear hn
  have hc := H.cell 0
  obtain ⟨AS, cS, rfl, -, -, -⟩ := H.b1.own_form
  have hni : (n : Int) < (safe.length : Int) := by omega
  go_enter Try.func39, Try.ntmps39
  go_wp2_with fail
  refine HG.out.mono ?_
  rintro e w2 ⟨rfl, rfl⟩
  go_wp2_with fail
  go_ret
  exact ⟨rfl, rfl⟩

set_option maxHeartbeats 2000000 in
set_option maxRecDepth 100000 in
theorem rwrite {w : World} {r : Nat} {D : Dsk} {F : List HP} (n : Nat) (A : Option Addr) (c : Nat) (xs : List Int) (H : Sat w (rdisk r D :: F)) (hr : Reads F 1 A 128 (bytes xs)) (hn : n < D.safe.length) (hl : D.left ≠ some 0) (hp : D.pend.length < 4294967296) :
    Calls Try.prog 39 #[.pointer (some ⟨r, 0, none⟩), .int .i64 n, .slice A 128 c] w fun e w' => e = .returned (.int .i64 0) ∧ Sat w' (rdisk r (D.write n xs) :: F) ∧ Env w w' := by
  have HG := Lib.hid (rgoes_yes H hl)
  have HRA := Lib.hid hr
  have hx128 : xs.length = 128 := by have := (hr w H.tail).1; simpa [bytes] using this
  have HX := Lib.hid hx128
  have HNS := Lib.hid hn
  have HPP := Lib.hid hp
  obtain ⟨safe, pend, vS, vP, B, hok, H2⟩ := H.rd_open
  have hns : n < safe.length := by rw [hok.out.ds] at hn; simpa using hn
  clear hn hr hx128 hp hl
  have hc := H2.cell 0
  obtain ⟨AS, cS, rfl, -, -, -⟩ := H2.b1.own_form
  have hni : (n : Int) < (safe.length : Int) := by omega
  go_enter Try.func39, Try.ntmps39
  go_wp2_with fail
  refine HG.out.mono ?_
  clear H H2 HG hok hns hni hc
  rintro e w2 ⟨rfl, H2, E2⟩
  obtain ⟨safe, pend, vS, vP, B, hok, H3⟩ := H2.rd_open
  obtain ⟨AP, cP, rfl, -, -, -⟩ := H3.b2.own_form
  have hpl : pend.length < 4294967296 := by have h := hok.out.dp; have h2 := HPP.out; dsimp only at h; rw [h] at h2; simpa using h2
  obtain ⟨m, hm⟩ : ∃ m, pend.length = m := ⟨_, rfl⟩
  have HM := Lib.hid hm
  rw [hm] at H3 hpl
  clear hm H2
  go_upto_region 5 with fail
  have x1 : w2.drew.cell? ⟨r, 1, none⟩ = some (.slice AP m cP) := H3.drew.cell 1
  refine region_aside2 (fun w' => w'.cell? ⟨r, 1, none⟩ = some (.slice AP m cP)) 14 _ (by kernel_rfl) rfl rfl rfl (by kernel_rfl) (by kernel_rfl) x1 (fun hHeld => ?_)
  simp only [setAside, List.setIfInBounds_toArray, List.set_cons_zero, List.set_cons_succ]
  refine' wpAnyH_take (i := 0) (oi := _) (v := _) rfl (by kernel_rfl) (by kernel_rfl) (by kernel_rfl) (fun _ _ _ h => h) (Or.inl ⟨by rfl, ?hy0⟩) hHeld ?rest0
  case hy0 => (intro w' hSw; (try dsimp only at hSw); go_simp; try with_reducible rfl)
  simp only [List.getElem_toArray, List.getElem_cons_zero, List.getElem_cons_succ, Act.put, List.setIfInBounds_toArray, List.set_cons_zero, List.set_cons_succ]
  refine' wpAnyH_take (i := 1) (oi := _) (v := _) rfl (by kernel_rfl) (by kernel_rfl) (by kernel_rfl) (fun _ _ _ h => h) (Or.inl ⟨by rfl, ?hy1⟩) hHeld ?rest1
  case hy1 => (intro w' hSw; (try dsimp only at hSw); go_simp; try with_reducible rfl)
  simp only [List.getElem_toArray, List.getElem_cons_zero, List.getElem_cons_succ, Act.put, List.setIfInBounds_toArray, List.set_cons_zero, List.set_cons_succ]
  refine' wpAnyH_take (i := 2) (oi := _) (v := _) rfl (by kernel_rfl) (by kernel_rfl) (by kernel_rfl) (fun _ _ _ h => h) (Or.inl ⟨by rfl, ?hy2⟩) hHeld ?rest2
  case hy2 => (intro w' hSw; (try dsimp only at hSw); go_simp; try with_reducible rfl)
  simp only [List.getElem_toArray, List.getElem_cons_zero, List.getElem_cons_succ, Act.put, List.setIfInBounds_toArray, List.set_cons_zero, List.set_cons_succ]
  refine' wpAnyH_take (i := 3) (oi := _) (v := _) rfl (by kernel_rfl) (by kernel_rfl) (by kernel_rfl) (fun _ _ _ h => h) (Or.inl ⟨by rfl, ?hy3⟩) hHeld ?rest3
  case hy3 => (intro w' hSw; (try dsimp only at hSw); go_simp; try with_reducible rfl)
  simp only [List.getElem_toArray, List.getElem_cons_zero, List.getElem_cons_succ, Act.put, List.setIfInBounds_toArray, List.set_cons_zero, List.set_cons_succ]
  refine' wpAnyH_take (i := 4) (oi := _) (v := _) rfl (by kernel_rfl) (by kernel_rfl) (by kernel_rfl) (fun _ _ _ h => h) (Or.inl ⟨by rfl, ?hy4⟩) hHeld ?rest4
  case hy4 => (intro w' hSw; (try dsimp only at hSw); go_simp; try with_reducible rfl)
  simp only [List.getElem_toArray, List.getElem_cons_zero, List.getElem_cons_succ, Act.put, List.setIfInBounds_toArray, List.set_cons_zero, List.set_cons_succ]
  refine' wpAnyH_take (i := 5) (oi := _) (v := _) rfl (by kernel_rfl) (by kernel_rfl) (by kernel_rfl) (fun _ _ _ h => h) (Or.inl ⟨by rfl, ?hy5⟩) hHeld ?rest5
  case hy5 => (intro w' hSw; (try dsimp only at hSw); go_simp; try with_reducible rfl)
  simp only [List.getElem_toArray, List.getElem_cons_zero, List.getElem_cons_succ, Act.put, List.setIfInBounds_toArray, List.set_cons_zero, List.set_cons_succ]
  refine' wpAnyH_take (i := 7) (oi := _) (v := _) rfl (by kernel_rfl) (by kernel_rfl) (by kernel_rfl) (fun _ _ _ h => h) (Or.inl ⟨by rfl, ?hy7⟩) hHeld ?rest7
  case hy7 => (intro w' hSw; (try dsimp only at hSw); go_simp; try with_reducible rfl)
  simp only [List.getElem_toArray, List.getElem_cons_zero, List.getElem_cons_succ, Act.put, List.setIfInBounds_toArray, List.set_cons_zero, List.set_cons_succ]
  refine wpAnyH_ready (rs := [6]) (by kernel_rfl) (by simp) ?_
  refine AllReadyH.cons (o := _) rfl (fun K hK => ?_) AllReadyH.nil
  rw [if_pos (by rfl)]
  go_simp
  have H4 := H3.drew.own_lit 5 1 #[] 0 (by simp [maxLen]) rfl
  refine hK.out _ _ (H4.b1.cell 1) (fun hHeld2 => ?_)
  clear hK K
  try simp only [List.getElem_toArray, List.getElem_cons_zero, List.getElem_cons_succ, Act.put, List.setIfInBounds_toArray, List.set_cons_zero, List.set_cons_succ]
  refine wpAnyH_ready (rs := [8]) (by kernel_rfl) (by simp) ?_
  refine AllReadyH.cons (o := _) rfl (fun K hK => ?_) AllReadyH.nil
  refine step_append_sat rfl (.tmp 32) (.tmp 33) 30 rfl H4 rfl _ 1 Try.underlying30 Try.info_byte rfl (by omega) _ _ _ (bytes xs) rfl ((HRA.out _ H4.tail.tail.tail.tail.tail).src_none (by omega)) (HRA.out _ H4.tail.tail.tail.tail.tail).1 (HRA.out _ H4.tail.tail.tail.tail.tail).src (bytes_one xs) (by simp only [maxLen]; omega) (by omega) ?_
  intro v5 w5 H5 E5
  replace H5 : Sat w5 (own 5 1 v5 128 (bytes xs) :: row r 124 #[vS, .slice AP m cP, .int .i64 (leftZ (D.left.map (· - 1)))] :: own 30 1 vS safe.length (safe.map (·.1)) :: own 126 2 (.slice AP m cP) m (flatP pend) :: pool B :: F) := by simpa using H5
  obtain ⟨g5, c5, rfl, -⟩ := H5.own_addr (by omega)
  refine hK.out _ _ (H5.b1.cell 1) (fun hHeld3 => ?_)
  clear hK K
  try simp only [List.getElem_toArray, List.getElem_cons_zero, List.getElem_cons_succ, Act.put, List.setIfInBounds_toArray, List.set_cons_zero, List.set_cons_succ]
  refine' wpAnyH_take (i := 9) (oi := _) (v := _) rfl (by kernel_rfl) (by kernel_rfl) (by kernel_rfl) (fun _ _ _ h => h) (Or.inl ⟨by rfl, ?hy9⟩) hHeld3 ?rest9
  case hy9 => (intro w' hSw; (try dsimp only at hSw); go_simp; try with_reducible rfl)
  simp only [List.getElem_toArray, List.getElem_cons_zero, List.getElem_cons_succ, Act.put, List.setIfInBounds_toArray, List.set_cons_zero, List.set_cons_succ]
  refine wpAnyH_ready (rs := [10]) (by kernel_rfl) (by simp) ?_
  refine AllReadyH.cons (o := _) rfl (fun K hK => ?_) AllReadyH.nil
  rw [if_pos (by rfl)]
  go_simp
  have H6 := H5.b3.alloc' (.cells #[.int .i64 n, .slice (some ⟨g5, 0, none⟩) 128 c5] 126)
  refine hK.out _ _ (H6.b2.cell 1) (fun hHeld4 => ?_)
  clear hK K
  try simp only [List.getElem_toArray, List.getElem_cons_zero, List.getElem_cons_succ, Act.put, List.setIfInBounds_toArray, List.set_cons_zero, List.set_cons_succ]
  refine wpAnyH_ready (rs := [11]) (by kernel_rfl) (by simp) ?_
  refine AllReadyH.cons (o := _) rfl (fun K hK => ?_) AllReadyH.nil
  refine step_append_sat rfl (.tmp 30) (.tmp 36) 122 rfl H6 rfl _ 32 Try.underlying122 Try.info_rwrite rfl (by omega) _ _ _ [.int .i64 n, .slice (some ⟨g5, 0, none⟩) 128 c5] rfl (fun h => by cases h) rfl (lit_src _ _ _ _ rfl) (by simp [Value.oneCell']) (by simp only [maxLen]; omega) (by omega) ?_
  intro v7 w7 H7 E7
  obtain ⟨A7, c7, rfl, -, -, -⟩ := H7.own_form
  refine hK.out _ _ (H7.b2.cell 1) (fun hHeld5 => ?_)
  clear hK K
  try simp only [List.getElem_toArray, List.getElem_cons_zero, List.getElem_cons_succ, Act.put, List.setIfInBounds_toArray, List.set_cons_zero, List.set_cons_succ]
  refine' wpAnyH_take (i := 12) (oi := _) (v := _) rfl (by kernel_rfl) (by kernel_rfl) (by kernel_rfl) (fun _ _ _ h => h) (Or.inl ⟨by rfl, ?hy12⟩) hHeld5 ?rest12
  case hy12 => (intro w' hSw; (try dsimp only at hSw); go_simp; try with_reducible rfl)
  simp only [List.getElem_toArray, List.getElem_cons_zero, List.getElem_cons_succ, Act.put, List.setIfInBounds_toArray, List.set_cons_zero, List.set_cons_succ]
  refine' wpAnyH_take (i := 13) (oi := _) (v := _) rfl (by kernel_rfl) (by kernel_rfl) (by kernel_rfl) (fun _ _ _ h => h) (Or.inl ⟨by rfl, ?hy13⟩) hHeld5 ?rest13
  case hy13 => (intro w' hSw; (try dsimp only at hSw); go_simp; try with_reducible rfl)
  simp only [List.getElem_toArray, List.getElem_cons_zero, List.getElem_cons_succ, Act.put, List.setIfInBounds_toArray, List.set_cons_zero, List.set_cons_succ]
  refine' wpAnyH_take (i := 14) (oi := _) (v := _) rfl (by kernel_rfl) (by kernel_rfl) (by kernel_rfl) (fun _ _ _ h => h) (Or.inl ⟨by rfl, ?hy14⟩) hHeld5 ?rest14
  case hy14 => (intro w' hSw; (try dsimp only at hSw); go_simp; try with_reducible rfl)
  try simp only [List.getElem_toArray, List.getElem_cons_zero, List.getElem_cons_succ, Act.put, List.setIfInBounds_toArray, List.set_cons_zero, List.set_cons_succ]
  refine wpAnyH_done (by kernel_rfl) ?_ _
  show Oper.wp _ _ _ _ _ _
  have c1 := H7.b2.cell 1
  have f1 := H7.b2.free 1
  have H8 := H7.b2.set (i := 1) (.slice A7 (m + 1) c7)
  have E8 := ((((E2.drew.alloc (.cells #[] 5)).trans E5).alloc (.cells #[.int .i64 n, .slice (some ⟨g5, 0, none⟩) 128 c5] 126)).trans E7).set ⟨r, 1, none⟩ (.slice A7 (m + 1) c7)
  go_simp
  generalize w7.setCell ⟨r, 1, none⟩ (.slice A7 (m + 1) c7) = w8 at *
  clear c1 f1 hHeld hHeld2 hHeld3 hHeld4 hHeld5 x1 H3 H4 H5 H6 H7 E2 E5 E7
  go_wp2_with fail
  go_ret
  have hok := hok.out
  -- the new buffer goes into the pool
  have H9 := (H8.b4.b3.pool_add (xs := xs)).p3
  refine ⟨rfl, Sat.rd_shut safe (pend ++ [(n, (.slice (some ⟨g5, 0, none⟩) 128 c5, xs))]) vS (.slice A7 (m + 1) c7) ((.slice (some ⟨g5, 0, none⟩) 128 c5, xs) :: B) ?_ ?_, E8⟩
  · refine ⟨hok.ds, ?_, fun p hp => List.mem_cons_of_mem _ (hok.good p hp), fun p hp => ?_, fun p hp => ?_, hok.after, hok.some_⟩
    · simp only [Dsk.write, List.map_append, List.map_cons, List.map_nil]
      rw [← hok.dp]
    · rcases List.mem_append.1 hp with hp | hp
      · exact ⟨(hok.pgood p hp).1, List.mem_cons_of_mem _ (hok.pgood p hp).2⟩
      · rw [List.mem_singleton.1 hp]
        exact ⟨by have h := hok.ds; have h2 := HNS.out; dsimp only at h; rw [h] at h2; simpa using h2, List.mem_cons_self⟩
    · rcases List.mem_cons.1 hp with rfl | hp
      · exact HX.out
      · exact hok.full p hp
  · have e : flatP (pend ++ [(n, (.slice (some ⟨g5, 0, none⟩) 128 c5, xs))]) = flatP pend ++ [.int .i64 n, .slice (some ⟨g5, 0, none⟩) 128 c5] := by simp [flatP]
    rw [e, List.length_append, HM.out]
    exact H9.b2.b1

set_option maxHeartbeats 4000000 in
set_option maxRecDepth 100000 in
/-- A write's first bytes put where they belong, over the parts of the disk. -/
theorem rput {w : World} {r gS L cS : Nat} {vP lz u : Value} {safe B : List Buf} {xs : List Int} {F : List HP} (n k : Nat)
    (H : Sat w (row r 124 #[.slice (some ⟨gS, 0, none⟩) L cS, vP, lz] :: own 30 1 (.slice (some ⟨gS, 0, none⟩) L cS) L (safe.map (·.1)) :: pool B :: F))
    (hL : safe.length = L) (hn : n < L) (hg : ∀ p ∈ safe, p ∈ B) (hf : ∀ p ∈ B, p.2.length = 128) (hu : (u, xs) ∈ B) (hk : k ≤ 128) :
    Calls Try.prog 74 #[.pointer (some ⟨r, 0, none⟩), .agg #[.int .i64 n, u], .int .i64 k] w fun e w' => e = .returned (.tuple #[]) ∧ ∃ v ys, ys = tornL (safe.getD n (.slice none 0 0, noughts)).2 xs k ∧ ys.length = 128 ∧
      Sat w' (row r 124 #[.slice (some ⟨gS, 0, none⟩) L cS, vP, lz] :: own 30 1 (.slice (some ⟨gS, 0, none⟩) L cS) L ((safe.set n (v, ys)).map (·.1)) :: pool ((v, ys) :: B) :: F) ∧ Env w w' := by
  have hns : n < safe.length := by omega
  obtain ⟨v0, x0, hv0⟩ : ∃ v0 x0, safe[n] = (v0, x0) := ⟨_, _, rfl⟩
  have hm0 := hg _ (List.getElem_mem hns)
  rw [hv0] at hm0
  have hx0 := Lib.hid (hf _ hm0)
  have hxs := Lib.hid (hf _ hu)
  obtain ⟨g0, c0, rfl, hc0⟩ := (H.b2.pool_at hm0).own_addr (by omega)
  obtain ⟨gu, cu, rfl, hcu⟩ := (H.b2.pool_at hu).own_addr (by omega)
  have HD0 := Lib.hid (show (safe.getD n (.slice none 0 0, noughts)).2 = x0 by rw [List.getD_eq_getElem?_getD, List.getElem?_eq_getElem hns, hv0]; rfl)
  have HS0 := Lib.hid (show (safe.map (·.1))[n]? = some (.slice (some ⟨g0, 0, none⟩) 128 c0) by simp [hns, hv0])
  have HM0 := Lib.hid hm0
  have HU := Lib.hid hu
  have HNS := Lib.hid hns
  clear hv0 hm0 hg hf hu hns hL
  have hni : (n : Int) < (L : Int) := by omega
  have hk0 : (0 : Int) ≤ (k : Int) := by omega
  have hkc : (k : Int) ≤ (cu : Int) := by omega
  go_enter Try.func74, Try.ntmps74
  go_upto_region 1 with fail
  have H1 := H.alloc (.cells #[.int .i64 n, .slice (some ⟨gu, 0, none⟩) 128 cu] 126)
  have E1 := (Env.refl w).alloc (.cells #[.int .i64 n, .slice (some ⟨gu, 0, none⟩) 128 cu] 126)
  generalize w.alloc (.cells #[.int .i64 n, .slice (some ⟨gu, 0, none⟩) 128 cu] 126) = w1 at *
  generalize w.heap.size = b1 at *
  clear H
  have x0' := H1.cell 0
  have x1' := H1.cell 1
  have x2' := H1.b1.cell 0
  have x3' := H1.b2.own_cell n _ HS0.out
  have HRD := Lib.hid (H1.b3.pool_at HM0.out).own_at.1
  go_region_held_law (fun w' => w'.cell? ⟨b1, 0, none⟩ = some (.int .i64 n) ∧ w'.cell? ⟨r, 0, none⟩ = some (.slice (some ⟨gS, 0, none⟩) L cS) ∧ w'.cell? ⟨gS, n, none⟩ = some (.slice (some ⟨g0, 0, none⟩) 128 c0)) (first | exact ⟨x0', x2', x3'⟩ | exact ⟨cell_alloc _ _ _ x0', cell_alloc _ _ _ x2', cell_alloc _ _ _ x3'⟩ | exact ⟨H5.b1.cell 0, H5.b2.cell 0, H5.b3.own_cell n _ HS0.out⟩) (first | (refine step_append_sat rfl (.tmp 7) (.tmp 15) 30 rfl (H1.own_lit 5 1 #[] 0 (by simp [maxLen]) rfl).drew rfl _ 1 Try.underlying30 Try.info_byte rfl (by omega) _ _ _ (bytes x0) rfl (by simp) HRD.out.1 (HRD.out.alloc _).src (bytes_one x0) (by simp only [maxLen]; omega) (by omega) ?_; intro v5 w5 H5 E5))
  replace H5 : Sat w5 (own 5 1 v5 128 (bytes x0) :: row b1 126 #[.int .i64 n, .slice (some ⟨gu, 0, none⟩) 128 cu] :: row r 124 #[.slice (some ⟨gS, 0, none⟩) L cS, vP, lz] :: own 30 1 (.slice (some ⟨gS, 0, none⟩) L cS) L (safe.map (·.1)) :: pool B :: F) := by simpa using H5
  have E5' := ((E1.alloc (.cells #[] 5)).drew).trans E5
  obtain ⟨g5, c5, rfl, -⟩ := H5.own_addr (by omega)
  have y0 := H5.b1.cell 0
  have y1 := H5.b1.cell 1
  clear x0' x1' x2' x3' HRD H1 E1 E5
  go_upto_region 3 with (show wpList _ _ _ ({ dst := some 22, op := Op.call { callee := Callee.builtin Builtin.copy, args := _, argTypes := _ }, type := _, pos := _, after := _, guard := _ } :: _) _ _; go_must (refine wpList_copy_sat rfl (.tmp 17) (.tmp 21) 30 30 rfl 5 1 Try.underlying30 (by kernel_rfl) H5 _ _ _ _ _ _ rfl rfl 0 k (bytes (xs.take k)) (Nat.min_eq_left (by omega)).symm (fun _ => rfl) (by have := (H5.b4.pool_rd2 (.inr HU.out)).take (m := k) (by omega); rwa [Nat.mul_one, bytes, ← List.map_take] at this) (by have h1 := hx0.out; have h2 := hxs.out; dsimp only at h1 h2; simp [bytes]; omega) (bytes_one _) ?_); intro w6 H6 E6)
  rw [splice_torn x0 xs k (by rw [hxs.out]; exact hk)] at H6
  have E6' := E5'.trans E6
  have q0 := H6.b2.cell 0
  have q1 := H6.b1.cell 0
  have q3 := H6.b3.own_cell n _ HS0.out
  have q4 := H6.b3.own_free (by omega) n
  clear y0 y1 H5 E5' E6
  simp only [Act.put, List.setIfInBounds_toArray, List.set_cons_zero, List.set_cons_succ]
  go_region
  go_end0
  have H7 := (H6.b3.own_set (i := n) (by omega) (.slice (some ⟨g5, 0, none⟩) 128 c5)).drew
  have H8 := (H7.b4.b2.pool_add (xs := tornL x0 xs k)).b2.tail.b2.b2.b1
  have ht : (tornL x0 xs k).length = 128 := by have h1 := hx0.out; have h2 := hxs.out; dsimp only at h1 h2; simp only [tornL, List.length_append, List.length_take, List.length_drop]; omega
  have hset : (safe.map (·.1)).set n (.slice (some ⟨g5, 0, none⟩) 128 c5) = (safe.set n (.slice (some ⟨g5, 0, none⟩) 128 c5, tornL x0 xs k)).map (·.1) := by rw [List.map_set]
  rw [hset] at H8
  exact ⟨rfl, _, _, by rw [HD0.out], ht, H8, (E6'.set ⟨gS, n, none⟩ (.slice (some ⟨g5, 0, none⟩) 128 c5)).drew⟩
end Go.Proofs.Ythbabdjicplooaa
