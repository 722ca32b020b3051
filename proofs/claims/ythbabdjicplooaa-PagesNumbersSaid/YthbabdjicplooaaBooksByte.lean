/- The book of lists, elements uint8: Keep: whatever is let go, what is kept is kept. Conditions: fewer than 4000 lists, of fewer than 2^32 elements. -/
import Derived.Test.YthbabdjicplooaaBookBaseG
import Derived.Test.YthbabdjicplooaaOpen
import Derived.Test.YthbabdjicplooaaProg
import Derived.Test.YthbabdjicplooaaSameBG
import Derived.WalkMore
import Derived.Deep.CutBlock
import Derived.Deep.RegionHeld3
import Derived.Deep.RegionHeldLaw
import Derived.BigRegion
import Derived.Deep.QuietTactic
import Derived.BigQuiet
namespace Go.Proofs.Ythbabdjicplooaa
open Go.RowKit

def bkL_byte (L : List Kp) : List HP := L.map fun p => own 5 1 p.v p.n p.xs
def bkW_byte (L : List Kp) : List HP := L.map fun p => own 5 1 p.u p.n p.xs
theorem Try.info_row_byte : (Try.prog.info? 30).map (fun i => (i.zero, i.size, i.bytes)) = some (some (.slice none 0 0), 1, 24) := by kernel_rfl
theorem Try.info_el_byte : (Try.prog.info? 5).map (fun i => (i.zero, i.size, i.bytes)) = some (some (.int .u8 0), 1, 1) := by kernel_rfl
def bk_byte (b : Nat) (R : Bk) : HP := all [row b 41 #[R.vL, R.vW, .int .i64 R.held, .bool false], ownO 30 R.vL R.items.length (R.items.map (·.v)), ownO 30 R.vW R.items.length (R.items.map (·.u)), all (bkL_byte R.items), all (bkW_byte R.items)]
theorem Sat.bk_open_byte {w : World} {F : List HP} {b : Nat} {R : Bk} (H : Sat w (bk_byte b R :: F)) : Sat w (row b 41 #[R.vL, R.vW, .int .i64 R.held, .bool false] :: ownO 30 R.vL R.items.length (R.items.map (·.v)) :: ownO 30 R.vW R.items.length (R.items.map (·.u)) :: all (bkL_byte R.items) :: all (bkW_byte R.items) :: F) := H.open_all
theorem Sat.bk_shut_byte {w : World} {F : List HP} {b : Nat} (R : Bk) (H : Sat w (row b 41 #[R.vL, R.vW, .int .i64 R.held, .bool false] :: ownO 30 R.vL R.items.length (R.items.map (·.v)) :: ownO 30 R.vW R.items.length (R.items.map (·.u)) :: all (bkL_byte R.items) :: all (bkW_byte R.items) :: F)) : Sat w (bk_byte b R :: F) := Sat.shut_all (L := [_, _, _, _, _]) H
theorem Sat.bk_new_byte {w : World} {F : List HP} {b : Nat} (H : Sat w (row b 41 #[.slice none 0 0, .slice none 0 0, .int .i64 0, .bool false] :: F)) : Sat w (bk_byte b ⟨.slice none 0 0, .slice none 0 0, [], 0⟩ :: F) := by
  have h2 : Sat w (row b 41 #[.slice none 0 0, .slice none 0 0, .int .i64 0, .bool false] :: all [] :: all [] :: F) := (Sat.shut_all (L := []) (Sat.shut_all (L := []) H)).b2
  exact Sat.bk_shut_byte ⟨.slice none 0 0, .slice none 0 0, [], 0⟩ (((h2.ownO_nil 30).ownO_nil 30).b2)
theorem keep_shut_byte {w : World} {F : List HP} (b : Nat) (items : List Kp) (A A5 A7 A9 : Option Addr) (n c c5 c7 c9 m : Nat) (hd : Int) (xs : List Value) (hm : items.length = m)
    (H : Sat w (row b 41 #[.slice A5 (m + 1) c5, .slice A9 (m + 1) c9, .int .i64 hd, .bool false] :: ownO 30 (.slice A9 (m + 1) c9) (m + 1) (items.map (·.u) ++ [.slice A7 n c7]) :: own 5 1 (.slice A7 n c7) n xs :: ownO 30 (.slice A5 (m + 1) c5) (m + 1) (items.map (·.v) ++ [.slice A n c]) :: all (bkL_byte items) :: all (bkW_byte items) :: own 5 1 (.slice A n c) n xs :: F)) :
    Sat w (bk_byte b ⟨.slice A5 (m + 1) c5, .slice A9 (m + 1) c9, items ++ [⟨.slice A n c, n, .slice A7 n c7, xs⟩], hd⟩ :: F) := by
  have h1 := H.f6.f5.b1.all_snoc
  have h2 := h1.b3.f5.b1.all_snoc
  have h3 := h2.b1.b3.b4.b4
  refine Sat.bk_shut_byte ⟨.slice A5 (m + 1) c5, .slice A9 (m + 1) c9, items ++ [⟨.slice A n c, n, .slice A7 n c7, xs⟩], hd⟩ ?_
  simp only [bkL_byte, bkW_byte, List.map_append, List.map_cons, List.map_nil, List.length_append, List.length_cons, List.length_nil, hm] at h3 ⊢
  exact h3

set_option maxHeartbeats 8000000 in
set_option maxRecDepth 100000 in
theorem keep_byte {w : World} {F : List HP} (b : Nat) (R : Bk) (A : Option Addr) (n c : Nat) (xs : List Value) (H : Sat w (bk_byte b R :: own 5 1 (.slice A n c) n xs :: F)) (h1 : ∀ u ∈ xs, u.oneCell' = true) (hn : n < 4294967296) (hi : R.items.length < 3999)
    (hx : ∀ p ∈ R.items, p.n < 4294967296 ∧ ∃ l : List Int, p.xs = l.map (Value.int .u8)) (hxs : ∃ l : List Int, xs = l.map (Value.int .u8)) :
    Calls Try.prog 29 #[.pointer (some ⟨b, 0, none⟩), .slice A n c] w fun e w' => e = .returned (.tuple #[]) ∧ ∃ R' : Bk, Sat w' (bk_byte b R' :: F) ∧ Env w w' ∧ R'.items.length ≤ R.items.length + 1 ∧ (∀ p ∈ R'.items, p.n < 4294967296 ∧ ∃ l : List Int, p.xs = l.map (Value.int .u8)) := by
  have H1' := Lib.hid h1
  have HX := Lib.hid hx
  have HXS := Lib.hid hxs
  clear h1 hx hxs
  obtain ⟨vL, vW, items, held⟩ := R
  dsimp only at hi HX ⊢
  have H2 := H.bk_open_byte
  clear H
  dsimp only at H2
  obtain ⟨AL, cL, rfl, -, -, -⟩ := H2.b1.ownO_form
  obtain ⟨AW, cW, rfl, -, -, -⟩ := H2.b2.ownO_form
  have hc0 := H2.cell 0
  obtain ⟨m, hm⟩ : ∃ m, items.length = m := ⟨_, rfl⟩
  have HM := Lib.hid hm
  rw [hm] at H2 hc0 hi
  clear hm
  go_enter Try.func29, Try.ntmps29
  go_upto_region 1 with (at_builtin; go_must (refine wpList_append_satO rfl (.tmp 8) (.tmp 10) 39 rfl (H2.b1.alloc' _) rfl _ 24 Try.underlying39 Try.info_row_byte rfl _ _ _ [.slice A n c] rfl rfl (lit_src _ _ _ _ rfl _ rfl) (by simp [Value.oneCell']) (by simp only [maxLen]; omega) (by omega) ?_); intro v5 w5 H5 E5; obtain ⟨A5, c5, rfl, -, -, -⟩ := H5.ownO_form; have hq1 := H5.b1.cell 0; have hq2 := H5.b1.free 0)
  have H6 := H5.b1.set (i := 0) (.slice A5 (m + 1) c5)
  have E6 := (((Env.refl w).alloc (.cells #[.slice A n c] 30)).trans E5).set ⟨b, 0, none⟩ (.slice A5 (m + 1) c5)
  generalize w5.setCell ⟨b, 0, none⟩ (.slice A5 (m + 1) c5) = w6 at *
  clear hq1 hq2 hc0 H2 H5 E5
  replace H6 : Sat w6 (row b 41 #[.slice A5 (m + 1) c5, .slice AW m cW, .int .i64 held, .bool false] :: ownO 30 (.slice A5 (m + 1) c5) (m + 1) (items.map (·.v) ++ [.slice A n c]) :: ownO 30 (.slice AW m cW) m (items.map (·.u)) :: all (bkL_byte items) :: all (bkW_byte items) :: own 5 1 (.slice A n c) n xs :: F) := H6
  have hb1 : w6.drew.cell? ⟨b, 1, none⟩ = some (.slice AW m cW) := H6.drew.cell 1
  have hrd := H6.drew.f5.own_at.1
  have HRD := Lib.hid hrd
  clear hrd
  refine region_aside2 (fun w' => w'.cell? ⟨b, 1, none⟩ = some (.slice AW m cW)) 11 _ (by kernel_rfl) rfl rfl rfl (by kernel_rfl) (by kernel_rfl) hb1 (fun hHeld => ?_)
  simp only [setAside, List.setIfInBounds_toArray, List.set_cons_zero, List.set_cons_succ]
  refine' wpAnyH_take (i := 0) (oi := _) (v := _) rfl (by kernel_rfl) (by kernel_rfl) (by kernel_rfl) (fun _ _ _ h => h) (Or.inl ⟨by rfl, ?hy0⟩) hHeld ?rest0
  case hy0 => (intro w' hSw; (try dsimp only at hSw); go_simp; try with_reducible rfl)
  simp only [List.getElem_toArray, List.getElem_cons_zero, List.getElem_cons_succ, Act.put, List.setIfInBounds_toArray, List.set_cons_zero, List.set_cons_succ]
  refine' wpAnyH_take (i := 1) (oi := _) (v := _) rfl (by kernel_rfl) (by kernel_rfl) (by kernel_rfl) (fun _ _ _ h => h) (Or.inl ⟨by rfl, ?hy1⟩) hHeld ?rest1
  case hy1 => (intro w' hSw; (try dsimp only at hSw); go_simp; try with_reducible rfl)
  simp only [List.getElem_toArray, List.getElem_cons_zero, List.getElem_cons_succ, Act.put, List.setIfInBounds_toArray, List.set_cons_zero, List.set_cons_succ]
  refine' wpAnyH_take (i := 2) (oi := _) (v := _) rfl (by kernel_rfl) (by kernel_rfl) (by kernel_rfl) (fun _ _ _ h => h) (Or.inl ⟨by rfl, ?hy2⟩) hHeld ?rest2
  case hy2 => (intro w' hSw; (try dsimp only at hSw); go_simp; try with_reducible rfl)
  simp only [List.getElem_toArray, List.getElem_cons_zero, List.getElem_cons_succ, Act.put, List.setIfInBounds_toArray, List.set_cons_zero, List.set_cons_succ]
  refine' wpAnyH_take (i := 3) (oi := _) (v := _) rfl (by kernel_rfl) (by kernel_rfl) (by kernel_rfl) (fun _ _ _ h => h) (Or.inl ⟨by rfl, ?hy3⟩) hHeld ?rest3
  case hy3 => (intro w' hSw; (try dsimp only at hSw); go_simp; try with_reducible rfl)
  simp only [List.getElem_toArray, List.getElem_cons_zero, List.getElem_cons_succ, Act.put, List.setIfInBounds_toArray, List.set_cons_zero, List.set_cons_succ]
  refine' wpAnyH_take (i := 4) (oi := _) (v := _) rfl (by kernel_rfl) (by kernel_rfl) (by kernel_rfl) (fun _ _ _ h => h) (Or.inl ⟨by rfl, ?hy4⟩) hHeld ?rest4
  case hy4 => (intro w' hSw; (try dsimp only at hSw); go_simp; try with_reducible rfl)
  simp only [List.getElem_toArray, List.getElem_cons_zero, List.getElem_cons_succ, Act.put, List.setIfInBounds_toArray, List.set_cons_zero, List.set_cons_succ]
  refine' wpAnyH_take (i := 5) (oi := _) (v := _) rfl (by kernel_rfl) (by kernel_rfl) (by kernel_rfl) (fun _ _ _ h => h) (Or.inl ⟨by rfl, ?hy5⟩) hHeld ?rest5
  case hy5 => (intro w' hSw; (try dsimp only at hSw); go_simp; try with_reducible rfl)
  simp only [List.getElem_toArray, List.getElem_cons_zero, List.getElem_cons_succ, Act.put, List.setIfInBounds_toArray, List.set_cons_zero, List.set_cons_succ]
  refine wpAnyH_ready (rs := [6]) (by kernel_rfl) (by simp) ?_
  refine AllReadyH.cons (o := _) rfl (fun K hK => ?_) AllReadyH.nil
  refine step_append_sat rfl (.const (.slice none 0 0)) (.tmp 19) 30 rfl (H6.drew.own_nil 5 1) rfl _ 1 Try.underlying30 Try.info_el_byte rfl (by omega) A n c xs rfl (HRD.out.src_none (by omega)) HRD.out.1 HRD.out.src H1'.out (by simp only [maxLen]; omega) (by omega) ?_
  intro v7 w7 H7 E7
  rw [Nat.zero_add, List.nil_append] at H7
  obtain ⟨A7, c7, rfl, -, -, -⟩ := H7.own_form
  refine hK.out _ _ (H7.b1.cell 1) (fun hHeld2 => ?_)
  clear hK K
  try simp only [List.getElem_toArray, List.getElem_cons_zero, List.getElem_cons_succ, Act.put, List.setIfInBounds_toArray, List.set_cons_zero, List.set_cons_succ]
  refine wpAnyH_ready (rs := [7]) (by kernel_rfl) (by simp) ?_
  refine AllReadyH.cons (o := _) rfl (fun K hK => ?_) AllReadyH.nil
  rw [if_pos (by rfl)]
  go_simp
  have H8 := H7.b3.alloc' (.cells #[.slice A7 n c7] 30)
  refine hK.out _ _ (H8.b2.cell 1) (fun hHeld3 => ?_)
  clear hK K
  try simp only [List.getElem_toArray, List.getElem_cons_zero, List.getElem_cons_succ, Act.put, List.setIfInBounds_toArray, List.set_cons_zero, List.set_cons_succ]
  refine wpAnyH_ready (rs := [8]) (by kernel_rfl) (by simp) ?_
  refine AllReadyH.cons (o := _) rfl (fun K hK => ?_) AllReadyH.nil
  refine step_append_satO rfl (.tmp 18) (.tmp 21) 39 rfl H8 rfl _ 24 Try.underlying39 Try.info_row_byte rfl _ _ _ [.slice A7 n c7] rfl rfl (lit_src _ _ _ _ rfl _ rfl) (by simp [Value.oneCell']) (by simp only [maxLen]; omega) (by omega) ?_
  intro v9 w9 H9 E9
  obtain ⟨A9, c9, rfl, -, -, -⟩ := H9.ownO_form
  refine hK.out _ _ (H9.b2.cell 1) (fun hHeld4 => ?_)
  clear hK K
  try simp only [List.getElem_toArray, List.getElem_cons_zero, List.getElem_cons_succ, Act.put, List.setIfInBounds_toArray, List.set_cons_zero, List.set_cons_succ]
  refine' wpAnyH_take (i := 9) (oi := _) (v := _) rfl (by kernel_rfl) (by kernel_rfl) (by kernel_rfl) (fun _ _ _ h => h) (Or.inl ⟨by rfl, ?hy9⟩) hHeld4 ?rest9
  case hy9 => (intro w' hSw; (try dsimp only at hSw); go_simp; try with_reducible rfl)
  simp only [List.getElem_toArray, List.getElem_cons_zero, List.getElem_cons_succ, Act.put, List.setIfInBounds_toArray, List.set_cons_zero, List.set_cons_succ]
  refine' wpAnyH_take (i := 10) (oi := _) (v := _) rfl (by kernel_rfl) (by kernel_rfl) (by kernel_rfl) (fun _ _ _ h => h) (Or.inl ⟨by rfl, ?hy10⟩) hHeld4 ?rest10
  case hy10 => (intro w' hSw; (try dsimp only at hSw); go_simp; try with_reducible rfl)
  simp only [List.getElem_toArray, List.getElem_cons_zero, List.getElem_cons_succ, Act.put, List.setIfInBounds_toArray, List.set_cons_zero, List.set_cons_succ]
  refine' wpAnyH_take (i := 11) (oi := _) (v := _) rfl (by kernel_rfl) (by kernel_rfl) (by kernel_rfl) (fun _ _ _ h => h) (Or.inl ⟨by rfl, ?hy11⟩) hHeld4 ?rest11
  case hy11 => (intro w' hSw; (try dsimp only at hSw); go_simp; try with_reducible rfl)
  try simp only [List.getElem_toArray, List.getElem_cons_zero, List.getElem_cons_succ, Act.put, List.setIfInBounds_toArray, List.set_cons_zero, List.set_cons_succ]
  refine wpAnyH_done (by kernel_rfl) ?_ _
  show Oper.wp _ _ _ _ _ _
  have c3 := H9.b2.cell 1
  have c5' := H9.b2.free 1
  have H10 : Sat (w9.setCell ⟨b, 1, none⟩ (.slice A9 (m + 1) c9)) (row b 41 #[.slice A5 (m + 1) c5, .slice A9 (m + 1) c9, .int .i64 held, .bool false] :: ownO 30 (.slice A9 (m + 1) c9) (m + 1) (items.map (·.u) ++ [.slice A7 n c7]) :: own 5 1 (.slice A7 n c7) n xs :: ownO 30 (.slice A5 (m + 1) c5) (m + 1) (items.map (·.v) ++ [.slice A n c]) :: all (bkL_byte items) :: all (bkW_byte items) :: own 5 1 (.slice A n c) n xs :: F) := H9.b2.set (i := 1) (.slice A9 (m + 1) c9)
  have E10 := (((E6.drew.trans E7).alloc (.cells #[.slice A7 n c7] 30)).trans E9).set ⟨b, 1, none⟩ (.slice A9 (m + 1) c9)
  go_simp
  generalize w9.setCell ⟨b, 1, none⟩ (.slice A9 (m + 1) c9) = w10 at *
  clear c3 c5' H6 H7 H8 H9 E6 E7 E9 hb1 hHeld hHeld2 hHeld3 hHeld4
  have x0 := H10.cell 0
  have x2 := H10.cell 2
  have f2 := H10.free 2
  obtain ⟨hd0, e1⟩ : ∃ hd0, IntKind.i64.wrap (held + (c : Int)) = hd0 := ⟨_, rfl⟩
  obtain ⟨hd, e2⟩ : ∃ hd, IntKind.i64.wrap (hd0 + 1) = hd := ⟨_, rfl⟩
  have H11 : Sat (w10.setCell ⟨b, 2, none⟩ (.int .i64 hd)) (row b 41 #[.slice A5 (m + 1) c5, .slice A9 (m + 1) c9, .int .i64 hd, .bool false] :: ownO 30 (.slice A9 (m + 1) c9) (m + 1) (items.map (·.u) ++ [.slice A7 n c7]) :: own 5 1 (.slice A7 n c7) n xs :: ownO 30 (.slice A5 (m + 1) c5) (m + 1) (items.map (·.v) ++ [.slice A n c]) :: all (bkL_byte items) :: all (bkW_byte items) :: own 5 1 (.slice A n c) n xs :: F) := H10.set (i := 2) (.int .i64 hd)
  have E11 := E10.set ⟨b, 2, none⟩ (.int .i64 hd)
  go_upto_region 3 with fail
  generalize w10.setCell ⟨b, 2, none⟩ (.int .i64 hd) = w11 at *
  clear x0 x2 f2 H10 E10 e1 e2
  have H12 := keep_shut_byte b items A A5 A7 A9 n c c5 c7 c9 m hd xs HM.out H11
  clear H11
  have HX2 := Lib.hid (show ∀ p ∈ items ++ [(⟨.slice A n c, n, .slice A7 n c7, xs⟩ : Kp)], p.n < 4294967296 ∧ ∃ l : List Int, p.xs = l.map (Value.int .u8) from fun p hp => by
    rcases List.mem_append.1 hp with hp | hp
    · exact HX.out p hp
    · rw [List.mem_singleton.1 hp]; exact ⟨hn, HXS.out⟩)
  have HL2 := Lib.hid (show (items ++ [(⟨.slice A n c, n, .slice A7 n c7, xs⟩ : Kp)]).length = m + 1 by rw [List.length_append, HM.out]; rfl)
  clear HX HXS
  generalize items ++ [(⟨.slice A n c, n, .slice A7 n c7, xs⟩ : Kp)] = its0 at H12 HX2 HL2
  generalize (Value.slice A5 (m + 1) c5) = vL0 at H12
  generalize (Value.slice A9 (m + 1) c9) = vW0 at H12
  go_loopw [] (fun wr => ∃ R' : Bk, Sat wr (bk_byte b R' :: F) ∧ Env w wr ∧ Hid (SubK R'.items its0)) (fun wr => lenAt b wr)
  case atStart => exact ⟨_, H12, E11, SubK.refl _⟩
  case round =>
    clear H12 E11 HRD
    obtain ⟨⟨vL, vW, its, held⟩, H2, E2, HS⟩ := hrel
    dsimp only at HS
    have H3 := H2.bk_open_byte
    dsimp only at H3
    obtain ⟨AL, cL, rfl, hcL, -, -⟩ := H3.b1.ownO_form
    obtain ⟨AW, cW, rfl, hcW, -, -⟩ := H3.b2.ownO_form
    have hlen : its.length < 4001 := by have := HS.out.1; have := HL2.out; omega
    have hex : its.length ≤ m + 1 := by have := HS.out.1; have := HL2.out; omega
    cases its with
    | nil =>
      have y0 := H3.cell 0
      have y2 := H3.cell 2
      go_wp2_with fail
      go_end0
      exact ⟨rfl, _, H2, E2, by simp, fun p hp => HX2.out p (HS.out.2 p hp)⟩
    | cons p0 its =>
      cases its with
      | nil =>
        have y0 := H3.cell 0
        have y2 := H3.cell 2
        go_wp2_with fail
        go_end0
        exact ⟨rfl, _, H2, E2, by simp, fun p hp => HX2.out p (HS.out.2 p hp)⟩
      | cons p1 its =>
        have y0 := H3.cell 0
        have y2 := H3.cell 2
        obtain ⟨k, hk⟩ : ∃ k, (p0 :: p1 :: its).length = k + 2 := ⟨its.length, rfl⟩
        have HK := Lib.hid hk
        rw [hk] at hlen hex y0 hcL hcW H3
        clear hk
        have HLW := Lib.hid (show lenAt b wr = k + 2 by simp only [lenAt]; rw [y0]; rfl)
        have hm1 : (1 : Int) < (((k + 2 : Nat)) : Int) := by omega
        have hm2 : ¬ (4000 : Int) < (((k + 2 : Nat)) : Int) := by omega
        by_cases hm3 : (1000000 : Int) < held
        · clear H2
          obtain ⟨gL, oL, cL', hAL, -⟩ := H3.b1.ownO_addr (by omega)
          cases hAL
          obtain ⟨gW, oW, cW', hAW, -⟩ := H3.b2.ownO_addr (by omega)
          cases hAW
          obtain ⟨v, n0, u, xs0⟩ := p0
          obtain ⟨hn0, l, hl0⟩ := HX2.out _ (HS.out.2 _ List.mem_cons_self)
          dsimp only at hn0 hl0
          subst hl0
          have hv : Sat wr [own 5 1 v n0 (l.map (Value.int .u8))] := H3.b3.open_all.only
          have hu : Sat wr [own 5 1 u n0 (l.map (Value.int .u8))] := H3.b4.open_all.only
          obtain ⟨Av, cv, rfl, -, -, rv⟩ := hv.own_form
          obtain ⟨Au, cu, rfl, -, -, ru⟩ := hu.own_form
          have x1 := H3.cell 1
          have x3 := H3.cell 3
          have z0 : wr.cell? ⟨gL, oL, none⟩ = some (.slice Av n0 cv) := by have := H3.b1.ownO_cell 0 (.slice Av n0 cv) (by simp); simpa using this
          have z1 : wr.cell? ⟨gW, oW, none⟩ = some (.slice Au n0 cu) := by have := H3.b2.ownO_cell 0 (.slice Au n0 cu) (by simp); simpa using this
          have RV := Lib.hid rv
          have RU := Lib.hid ru
          clear rv ru hv hu
          have hk2 : (0 : Int) < (k : Int) + 2 := by omega
          go_upto_region 4 with fail
          clear hm3
          refine region_aside2 (fun w' => w'.cell? ⟨b, 0, none⟩ = some (.slice (some ⟨gL, oL, none⟩) (k + 2) cL) ∧ w'.cell? ⟨b, 1, none⟩ = some (.slice (some ⟨gW, oW, none⟩) (k + 2) cW) ∧ w'.cell? ⟨b, 3, none⟩ = some (.bool false) ∧ w'.cell? ⟨gL, oL, none⟩ = some (.slice Av n0 cv) ∧ w'.cell? ⟨gW, oW, none⟩ = some (.slice Au n0 cu)) 23 _ (by kernel_rfl) rfl rfl rfl (by kernel_rfl) (by kernel_rfl) ⟨y0, x1, x3, z0, z1⟩ (fun hHeld => ?_)
          simp only [setAside, List.setIfInBounds_toArray, List.set_cons_zero, List.set_cons_succ]
          refine' wpAnyH_take (i := 0) (oi := _) (v := _) rfl (by kernel_rfl) (by kernel_rfl) (by kernel_rfl) (fun _ _ _ h => h) (Or.inl ⟨by rfl, ?hyb0⟩) hHeld ?restb0
          case hyb0 => (intro w' hSw; (try dsimp only at hSw); go_simp; try with_reducible rfl)
          simp only [List.getElem_toArray, List.getElem_cons_zero, List.getElem_cons_succ, Act.put, List.setIfInBounds_toArray, List.set_cons_zero, List.set_cons_succ]
          refine' wpAnyH_take (i := 1) (oi := _) (v := _) rfl (by kernel_rfl) (by kernel_rfl) (by kernel_rfl) (fun _ _ _ h => h) (Or.inl ⟨by rfl, ?hyb1⟩) hHeld ?restb1
          case hyb1 => (intro w' hSw; (try dsimp only at hSw); go_simp; try with_reducible rfl)
          simp only [List.getElem_toArray, List.getElem_cons_zero, List.getElem_cons_succ, Act.put, List.setIfInBounds_toArray, List.set_cons_zero, List.set_cons_succ]
          refine' wpAnyH_take (i := 2) (oi := _) (v := _) rfl (by kernel_rfl) (by kernel_rfl) (by kernel_rfl) (fun _ _ _ h => h) (Or.inl ⟨by rfl, ?hyb2⟩) hHeld ?restb2
          case hyb2 => (intro w' hSw; (try dsimp only at hSw); go_simp; try with_reducible rfl)
          simp only [List.getElem_toArray, List.getElem_cons_zero, List.getElem_cons_succ, Act.put, List.setIfInBounds_toArray, List.set_cons_zero, List.set_cons_succ]
          refine' wpAnyH_take (i := 3) (oi := _) (v := _) rfl (by kernel_rfl) (by kernel_rfl) (by kernel_rfl) (fun _ _ _ h => h) (Or.inl ⟨by rfl, ?hyb3⟩) hHeld ?restb3
          case hyb3 => (intro w' hSw; (try dsimp only at hSw); go_simp; try with_reducible rfl)
          simp only [List.getElem_toArray, List.getElem_cons_zero, List.getElem_cons_succ, Act.put, List.setIfInBounds_toArray, List.set_cons_zero, List.set_cons_succ]
          refine' wpAnyH_take (i := 4) (oi := _) (v := _) rfl (by kernel_rfl) (by kernel_rfl) (by kernel_rfl) (fun _ _ _ h => h) (Or.inl ⟨by rfl, ?hyb4⟩) hHeld ?restb4
          case hyb4 => (intro w' hSw; (try dsimp only at hSw); go_simp; try with_reducible rfl)
          simp only [List.getElem_toArray, List.getElem_cons_zero, List.getElem_cons_succ, Act.put, List.setIfInBounds_toArray, List.set_cons_zero, List.set_cons_succ]
          refine' wpAnyH_take (i := 5) (oi := _) (v := _) rfl (by kernel_rfl) (by kernel_rfl) (by kernel_rfl) (fun _ _ _ h => h) (Or.inl ⟨by rfl, ?hyb5⟩) hHeld ?restb5
          case hyb5 => (intro w' hSw; (try dsimp only at hSw); go_simp; try with_reducible rfl)
          simp only [List.getElem_toArray, List.getElem_cons_zero, List.getElem_cons_succ, Act.put, List.setIfInBounds_toArray, List.set_cons_zero, List.set_cons_succ]
          refine' wpAnyH_take (i := 6) (oi := _) (v := _) rfl (by kernel_rfl) (by kernel_rfl) (by kernel_rfl) (fun _ _ _ h => h) (Or.inl ⟨by rfl, ?hyb6⟩) hHeld ?restb6
          case hyb6 => (intro w' hSw; (try dsimp only at hSw); go_simp; try with_reducible rfl)
          simp only [List.getElem_toArray, List.getElem_cons_zero, List.getElem_cons_succ, Act.put, List.setIfInBounds_toArray, List.set_cons_zero, List.set_cons_succ]
          refine' wpAnyH_take (i := 7) (oi := _) (v := _) rfl (by kernel_rfl) (by kernel_rfl) (by kernel_rfl) (fun _ _ _ h => h) (Or.inl ⟨by rfl, ?hyb7⟩) hHeld ?restb7
          case hyb7 => (intro w' hSw; (try dsimp only at hSw); go_simp; try with_reducible rfl)
          simp only [List.getElem_toArray, List.getElem_cons_zero, List.getElem_cons_succ, Act.put, List.setIfInBounds_toArray, List.set_cons_zero, List.set_cons_succ]
          refine' wpAnyH_take (i := 8) (oi := _) (v := _) rfl (by kernel_rfl) (by kernel_rfl) (by kernel_rfl) (fun _ _ _ h => h) (Or.inl ⟨by rfl, ?hyb8⟩) hHeld ?restb8
          case hyb8 => (intro w' hSw; (try dsimp only at hSw); go_simp; try with_reducible rfl)
          simp only [List.getElem_toArray, List.getElem_cons_zero, List.getElem_cons_succ, Act.put, List.setIfInBounds_toArray, List.set_cons_zero, List.set_cons_succ]
          refine' wpAnyH_take (i := 9) (oi := _) (v := _) rfl (by kernel_rfl) (by kernel_rfl) (by kernel_rfl) (fun _ _ _ h => h) (Or.inl ⟨by rfl, ?hyb9⟩) hHeld ?restb9
          case hyb9 => (intro w' hSw; (try dsimp only at hSw); go_simp; try with_reducible rfl)
          simp only [List.getElem_toArray, List.getElem_cons_zero, List.getElem_cons_succ, Act.put, List.setIfInBounds_toArray, List.set_cons_zero, List.set_cons_succ]
          refine' wpAnyH_take (i := 10) (oi := _) (v := _) rfl (by kernel_rfl) (by kernel_rfl) (by kernel_rfl) (fun _ _ _ h => h) (Or.inl ⟨by rfl, ?hyb10⟩) hHeld ?restb10
          case hyb10 => (intro w' hSw; (try dsimp only at hSw); go_simp; try with_reducible rfl)
          simp only [List.getElem_toArray, List.getElem_cons_zero, List.getElem_cons_succ, Act.put, List.setIfInBounds_toArray, List.set_cons_zero, List.set_cons_succ]
          refine' wpAnyH_take (i := 11) (oi := _) (v := _) rfl (by kernel_rfl) (by kernel_rfl) (by kernel_rfl) (fun _ _ _ h => h) (Or.inl ⟨by rfl, ?hyb11⟩) hHeld ?restb11
          case hyb11 => (intro w' hSw; (try dsimp only at hSw); go_simp; try with_reducible rfl)
          simp only [List.getElem_toArray, List.getElem_cons_zero, List.getElem_cons_succ, Act.put, List.setIfInBounds_toArray, List.set_cons_zero, List.set_cons_succ]
          refine' wpAnyH_take (i := 12) (oi := _) (v := _) rfl (by kernel_rfl) (by kernel_rfl) (by kernel_rfl) (fun _ _ _ h => h) (Or.inl ⟨by rfl, ?hyb12⟩) hHeld ?restb12
          case hyb12 => (intro w' hSw; (try dsimp only at hSw); go_simp; try with_reducible rfl)
          simp only [List.getElem_toArray, List.getElem_cons_zero, List.getElem_cons_succ, Act.put, List.setIfInBounds_toArray, List.set_cons_zero, List.set_cons_succ]
          refine' wpAnyH_take (i := 13) (oi := _) (v := _) rfl (by kernel_rfl) (by kernel_rfl) (by kernel_rfl) (fun _ _ _ h => h) (Or.inl ⟨by rfl, ?hyb13⟩) hHeld ?restb13
          case hyb13 => (intro w' hSw; (try dsimp only at hSw); go_simp; try with_reducible rfl)
          simp only [List.getElem_toArray, List.getElem_cons_zero, List.getElem_cons_succ, Act.put, List.setIfInBounds_toArray, List.set_cons_zero, List.set_cons_succ]
          refine' wpAnyH_take (i := 14) (oi := _) (v := _) rfl (by kernel_rfl) (by kernel_rfl) (by kernel_rfl) (fun _ _ _ h => h) (Or.inl ⟨by rfl, ?hyb14⟩) hHeld ?restb14
          case hyb14 => (intro w' hSw; (try dsimp only at hSw); go_simp; try with_reducible rfl)
          simp only [List.getElem_toArray, List.getElem_cons_zero, List.getElem_cons_succ, Act.put, List.setIfInBounds_toArray, List.set_cons_zero, List.set_cons_succ]
          refine' wpAnyH_take (i := 15) (oi := _) (v := _) rfl (by kernel_rfl) (by kernel_rfl) (by kernel_rfl) (fun _ _ _ h => h) (Or.inl ⟨by rfl, ?hyb15⟩) hHeld ?restb15
          case hyb15 => (intro w' hSw; (try dsimp only at hSw); go_simp; try with_reducible rfl)
          simp only [List.getElem_toArray, List.getElem_cons_zero, List.getElem_cons_succ, Act.put, List.setIfInBounds_toArray, List.set_cons_zero, List.set_cons_succ]
          refine' wpAnyH_take (i := 16) (oi := _) (v := _) rfl (by kernel_rfl) (by kernel_rfl) (by kernel_rfl) (fun _ _ _ h => h) (Or.inl ⟨by rfl, ?hyb16⟩) hHeld ?restb16
          case hyb16 => (intro w' hSw; (try dsimp only at hSw); go_simp; try with_reducible rfl)
          simp only [List.getElem_toArray, List.getElem_cons_zero, List.getElem_cons_succ, Act.put, List.setIfInBounds_toArray, List.set_cons_zero, List.set_cons_succ]
          refine' wpAnyH_take (i := 17) (oi := _) (v := _) rfl (by kernel_rfl) (by kernel_rfl) (by kernel_rfl) (fun _ _ _ h => h) (Or.inl ⟨by rfl, ?hyb17⟩) hHeld ?restb17
          case hyb17 => (intro w' hSw; (try dsimp only at hSw); go_simp; try with_reducible rfl)
          simp only [List.getElem_toArray, List.getElem_cons_zero, List.getElem_cons_succ, Act.put, List.setIfInBounds_toArray, List.set_cons_zero, List.set_cons_succ]
          refine wpAnyH_ready (rs := [18]) (by kernel_rfl) (by simp) ?_
          refine AllReadyH.cons (o := _) rfl (fun K hK => ?_) AllReadyH.nil
          rw [if_pos (by rfl)]
          go_simp
          go_at_call 71
          refine (same_byte Av Au n0 cv cu l wr.drew hn0 RV.out RU.out).mono ?_
          rintro e w6 ⟨rfl, q, rfl⟩
          refine hK.out _ _ ⟨y0, x1, x3, z0, z1⟩ (fun hHeld2 => ?_)
          clear hK K
          try simp only [List.getElem_toArray, List.getElem_cons_zero, List.getElem_cons_succ, Act.put, List.setIfInBounds_toArray, List.set_cons_zero, List.set_cons_succ]
          refine' wpAnyH_take (i := 19) (oi := _) (v := _) rfl (by kernel_rfl) (by kernel_rfl) (by kernel_rfl) (fun _ _ _ h => h) (Or.inl ⟨by rfl, ?hyb19⟩) hHeld2 ?restb19
          case hyb19 => (intro w' hSw; (try dsimp only at hSw); go_simp; try with_reducible rfl)
          simp only [List.getElem_toArray, List.getElem_cons_zero, List.getElem_cons_succ, Act.put, List.setIfInBounds_toArray, List.set_cons_zero, List.set_cons_succ]
          refine' wpAnyH_take (i := 20) (oi := _) (v := _) rfl (by kernel_rfl) (by kernel_rfl) (by kernel_rfl) (fun _ _ _ h => h) (Or.inl ⟨by rfl, ?hyb20⟩) hHeld2 ?restb20
          case hyb20 => (intro w' hSw; (try dsimp only at hSw); go_simp; try with_reducible rfl)
          simp only [List.getElem_toArray, List.getElem_cons_zero, List.getElem_cons_succ, Act.put, List.setIfInBounds_toArray, List.set_cons_zero, List.set_cons_succ]
          refine' wpAnyH_take (i := 21) (oi := _) (v := _) rfl (by kernel_rfl) (by kernel_rfl) (by kernel_rfl) (fun _ _ _ h => h) (Or.inl ⟨by rfl, ?hyb21⟩) hHeld2 ?restb21
          case hyb21 => (intro w' hSw; (try dsimp only at hSw); go_simp; try with_reducible rfl)
          simp only [List.getElem_toArray, List.getElem_cons_zero, List.getElem_cons_succ, Act.put, List.setIfInBounds_toArray, List.set_cons_zero, List.set_cons_succ]
          refine' wpAnyH_take (i := 22) (oi := _) (v := _) rfl (by kernel_rfl) (by kernel_rfl) (by kernel_rfl) (fun _ _ _ h => h) (Or.inl ⟨by rfl, ?hyb22⟩) hHeld2 ?restb22
          case hyb22 => (intro w' hSw; (try dsimp only at hSw); go_simp; try with_reducible rfl)
          simp only [List.getElem_toArray, List.getElem_cons_zero, List.getElem_cons_succ, Act.put, List.setIfInBounds_toArray, List.set_cons_zero, List.set_cons_succ]
          refine' wpAnyH_take (i := 23) (oi := _) (v := _) rfl (by kernel_rfl) (by kernel_rfl) (by kernel_rfl) (fun _ _ _ h => h) (Or.inl ⟨by rfl, ?hyb23⟩) hHeld2 ?restb23
          case hyb23 => (intro w' hSw; (try dsimp only at hSw); go_simp; try with_reducible rfl)
          try simp only [List.getElem_toArray, List.getElem_cons_zero, List.getElem_cons_succ, Act.put, List.setIfInBounds_toArray, List.set_cons_zero, List.set_cons_succ]
          refine wpAnyH_done (by kernel_rfl) ?_ _
          show Oper.wp _ _ _ _ _ _
          have H6 := H3.drew.drewN q
          have E6 := E2.drew.drewN q
          have z06 : (wr.drew.drewN q).cell? ⟨gL, oL, none⟩ = some (.slice Av n0 cv) := z0
          generalize wr.drew.drewN q = w6 at *
          have c3 := H6.cell 3
          have f3 := H6.free 3
          have H7 := H6.set (i := 3) (.bool false)
          have E7 := E6.set ⟨b, 3, none⟩ (.bool false)
          replace H7 : Sat (w6.setCell ⟨b, 3, none⟩ (.bool false)) (row b 41 #[.slice (some ⟨gL, oL, none⟩) (k + 2) cL, .slice (some ⟨gW, oW, none⟩) (k + 2) cW, .int .i64 held, .bool false] :: ownO 30 (.slice (some ⟨gL, oL, none⟩) (k + 2) cL) (k + 2) (.slice Av n0 cv :: p1.v :: its.map (·.v)) :: ownO 30 (.slice (some ⟨gW, oW, none⟩) (k + 2) cW) (k + 2) (.slice Au n0 cu :: p1.u :: its.map (·.u)) :: all (own 5 1 (.slice Av n0 cv) n0 (l.map (Value.int .u8)) :: bkL_byte (p1 :: its)) :: all (own 5 1 (.slice Au n0 cu) n0 (l.map (Value.int .u8)) :: bkW_byte (p1 :: its)) :: F) := H7
          clear x1 x3 y0 y2 z0 z1 z06 hHeld hHeld2 H3 E2 H6 E6 RV RU
          go_simp
          generalize w6.setCell ⟨b, 3, none⟩ (.bool false) = w7 at *
          clear c3 f3
          have y0 := H7.drew.cell 0
          have y2 := H7.drew.cell 2
          have z0 : w7.drew.cell? ⟨gL, oL, none⟩ = some (.slice Av n0 cv) := by have := H7.drew.b1.ownO_cell 0 (.slice Av n0 cv) (by simp); simpa using this
          go_upto_region 5 with fail
          obtain ⟨hd0, e1⟩ : ∃ hd0, IntKind.i64.wrap (held - (cv : Int)) = hd0 := ⟨_, rfl⟩
          obtain ⟨hd, e2⟩ : ∃ hd, IntKind.i64.wrap (hd0 - 1) = hd := ⟨_, rfl⟩
          refine region_aside2 (fun w' => w'.cell? ⟨b, 0, none⟩ = some (.slice (some ⟨gL, oL, none⟩) (k + 2) cL) ∧ w'.cell? ⟨b, 2, none⟩ = some (.int .i64 held) ∧ w'.cell? ⟨gL, oL, none⟩ = some (.slice Av n0 cv)) 16 _ (by kernel_rfl) rfl rfl rfl (by kernel_rfl) (by kernel_rfl) ⟨y0, y2, z0⟩ (fun hHeld => ?_)
          simp only [setAside, List.setIfInBounds_toArray, List.set_cons_zero, List.set_cons_succ]
          refine' wpAnyH_take (i := 0) (oi := _) (v := _) rfl (by kernel_rfl) (by kernel_rfl) (by kernel_rfl) (fun _ _ _ h => h) (Or.inl ⟨by rfl, ?hyc0⟩) hHeld ?restc0
          case hyc0 => (intro w' hSw; (try dsimp only at hSw); go_simp; try with_reducible rfl)
          simp only [List.getElem_toArray, List.getElem_cons_zero, List.getElem_cons_succ, Act.put, List.setIfInBounds_toArray, List.set_cons_zero, List.set_cons_succ]
          refine' wpAnyH_take (i := 1) (oi := _) (v := _) rfl (by kernel_rfl) (by kernel_rfl) (by kernel_rfl) (fun _ _ _ h => h) (Or.inl ⟨by rfl, ?hyc1⟩) hHeld ?restc1
          case hyc1 => (intro w' hSw; (try dsimp only at hSw); go_simp; try with_reducible rfl)
          simp only [List.getElem_toArray, List.getElem_cons_zero, List.getElem_cons_succ, Act.put, List.setIfInBounds_toArray, List.set_cons_zero, List.set_cons_succ]
          refine' wpAnyH_take (i := 2) (oi := _) (v := _) rfl (by kernel_rfl) (by kernel_rfl) (by kernel_rfl) (fun _ _ _ h => h) (Or.inl ⟨by rfl, ?hyc2⟩) hHeld ?restc2
          case hyc2 => (intro w' hSw; (try dsimp only at hSw); go_simp; try with_reducible rfl)
          simp only [List.getElem_toArray, List.getElem_cons_zero, List.getElem_cons_succ, Act.put, List.setIfInBounds_toArray, List.set_cons_zero, List.set_cons_succ]
          refine' wpAnyH_take (i := 3) (oi := _) (v := _) rfl (by kernel_rfl) (by kernel_rfl) (by kernel_rfl) (fun _ _ _ h => h) (Or.inl ⟨by rfl, ?hyc3⟩) hHeld ?restc3
          case hyc3 => (intro w' hSw; (try dsimp only at hSw); go_simp; try with_reducible rfl)
          simp only [List.getElem_toArray, List.getElem_cons_zero, List.getElem_cons_succ, Act.put, List.setIfInBounds_toArray, List.set_cons_zero, List.set_cons_succ]
          refine' wpAnyH_take (i := 4) (oi := _) (v := _) rfl (by kernel_rfl) (by kernel_rfl) (by kernel_rfl) (fun _ _ _ h => h) (Or.inl ⟨by rfl, ?hyc4⟩) hHeld ?restc4
          case hyc4 => (intro w' hSw; (try dsimp only at hSw); go_simp; try with_reducible rfl)
          simp only [List.getElem_toArray, List.getElem_cons_zero, List.getElem_cons_succ, Act.put, List.setIfInBounds_toArray, List.set_cons_zero, List.set_cons_succ]
          refine' wpAnyH_take (i := 5) (oi := _) (v := _) rfl (by kernel_rfl) (by kernel_rfl) (by kernel_rfl) (fun _ _ _ h => h) (Or.inl ⟨by rfl, ?hyc5⟩) hHeld ?restc5
          case hyc5 => (intro w' hSw; (try dsimp only at hSw); go_simp; try with_reducible rfl)
          simp only [List.getElem_toArray, List.getElem_cons_zero, List.getElem_cons_succ, Act.put, List.setIfInBounds_toArray, List.set_cons_zero, List.set_cons_succ]
          refine' wpAnyH_take (i := 6) (oi := _) (v := _) rfl (by kernel_rfl) (by kernel_rfl) (by kernel_rfl) (fun _ _ _ h => h) (Or.inl ⟨by rfl, ?hyc6⟩) hHeld ?restc6
          case hyc6 => (intro w' hSw; (try dsimp only at hSw); go_simp; try with_reducible rfl)
          simp only [List.getElem_toArray, List.getElem_cons_zero, List.getElem_cons_succ, Act.put, List.setIfInBounds_toArray, List.set_cons_zero, List.set_cons_succ]
          refine' wpAnyH_take (i := 7) (oi := _) (v := _) rfl (by kernel_rfl) (by kernel_rfl) (by kernel_rfl) (fun _ _ _ h => h) (Or.inl ⟨by rfl, ?hyc7⟩) hHeld ?restc7
          case hyc7 => (intro w' hSw; (try dsimp only at hSw); go_simp; try with_reducible rfl)
          simp only [List.getElem_toArray, List.getElem_cons_zero, List.getElem_cons_succ, Act.put, List.setIfInBounds_toArray, List.set_cons_zero, List.set_cons_succ]
          refine' wpAnyH_take (i := 8) (oi := _) (v := _) rfl (by kernel_rfl) (by kernel_rfl) (by kernel_rfl) (fun _ _ _ h => h) (Or.inl ⟨by rfl, ?hyc8⟩) hHeld ?restc8
          case hyc8 => (intro w' hSw; (try dsimp only at hSw); go_simp; try with_reducible rfl)
          simp only [List.getElem_toArray, List.getElem_cons_zero, List.getElem_cons_succ, Act.put, List.setIfInBounds_toArray, List.set_cons_zero, List.set_cons_succ]
          refine' wpAnyH_take (i := 9) (oi := _) (v := _) rfl (by kernel_rfl) (by kernel_rfl) (by kernel_rfl) (fun _ _ _ h => h) (Or.inl ⟨by rfl, ?hyc9⟩) hHeld ?restc9
          case hyc9 => (intro w' hSw; (try dsimp only at hSw); go_simp; try with_reducible rfl)
          simp only [List.getElem_toArray, List.getElem_cons_zero, List.getElem_cons_succ, Act.put, List.setIfInBounds_toArray, List.set_cons_zero, List.set_cons_succ]
          refine' wpAnyH_take (i := 10) (oi := _) (v := _) rfl (by kernel_rfl) (by kernel_rfl) (by kernel_rfl) (fun _ _ _ h => h) (Or.inl ⟨by rfl, ?hyc10⟩) hHeld ?restc10
          case hyc10 => (intro w' hSw; (try dsimp only at hSw); go_simp; try with_reducible rfl)
          simp only [List.getElem_toArray, List.getElem_cons_zero, List.getElem_cons_succ, Act.put, List.setIfInBounds_toArray, List.set_cons_zero, List.set_cons_succ]
          refine' wpAnyH_take (i := 11) (oi := _) (v := _) rfl (by kernel_rfl) (by kernel_rfl) (by kernel_rfl) (fun _ _ _ h => h) (Or.inl ⟨by rfl, ?hyc11⟩) hHeld ?restc11
          case hyc11 => (intro w' hSw; (try dsimp only at hSw); go_simp; try with_reducible rfl)
          simp only [List.getElem_toArray, List.getElem_cons_zero, List.getElem_cons_succ, Act.put, List.setIfInBounds_toArray, List.set_cons_zero, List.set_cons_succ]
          refine' wpAnyH_take (i := 12) (oi := _) (v := _) rfl (by kernel_rfl) (by kernel_rfl) (by kernel_rfl) (fun _ _ _ h => h) (Or.inl ⟨by rfl, ?hyc12⟩) hHeld ?restc12
          case hyc12 => (intro w' hSw; (try dsimp only at hSw); go_simp; try with_reducible rfl)
          simp only [List.getElem_toArray, List.getElem_cons_zero, List.getElem_cons_succ, Act.put, List.setIfInBounds_toArray, List.set_cons_zero, List.set_cons_succ]
          refine' wpAnyH_take (i := 13) (oi := _) (v := _) rfl (by kernel_rfl) (by kernel_rfl) (by kernel_rfl) (fun _ _ _ h => h) (Or.inl ⟨by rfl, ?hyc13⟩) hHeld ?restc13
          case hyc13 => (intro w' hSw; (try dsimp only at hSw); go_simp; try with_reducible rfl)
          simp only [List.getElem_toArray, List.getElem_cons_zero, List.getElem_cons_succ, Act.put, List.setIfInBounds_toArray, List.set_cons_zero, List.set_cons_succ]
          refine' wpAnyH_take (i := 14) (oi := _) (v := _) rfl (by kernel_rfl) (by kernel_rfl) (by kernel_rfl) (fun _ _ _ h => h) (Or.inl ⟨by rfl, ?hyc14⟩) hHeld ?restc14
          case hyc14 => (intro w' hSw; (try dsimp only at hSw); go_simp; try with_reducible rfl)
          simp only [List.getElem_toArray, List.getElem_cons_zero, List.getElem_cons_succ, Act.put, List.setIfInBounds_toArray, List.set_cons_zero, List.set_cons_succ]
          refine' wpAnyH_take (i := 15) (oi := _) (v := _) rfl (by kernel_rfl) (by kernel_rfl) (by kernel_rfl) (fun _ _ _ h => h) (Or.inl ⟨by rfl, ?hyc15⟩) hHeld ?restc15
          case hyc15 => (intro w' hSw; (try dsimp only at hSw); go_simp; try with_reducible rfl)
          simp only [List.getElem_toArray, List.getElem_cons_zero, List.getElem_cons_succ, Act.put, List.setIfInBounds_toArray, List.set_cons_zero, List.set_cons_succ]
          refine' wpAnyH_take (i := 16) (oi := _) (v := _) rfl (by kernel_rfl) (by kernel_rfl) (by kernel_rfl) (fun _ _ _ h => h) (Or.inl ⟨by rfl, ?hyc16⟩) hHeld ?restc16
          case hyc16 => (intro w' hSw; (try dsimp only at hSw); go_simp; try with_reducible rfl)
          try simp only [List.getElem_toArray, List.getElem_cons_zero, List.getElem_cons_succ, Act.put, List.setIfInBounds_toArray, List.set_cons_zero, List.set_cons_succ]
          refine wpAnyH_done (by kernel_rfl) ?_ _
          show Oper.wp _ _ _ _ _ _
          replace H7 := H7.drew
          replace E7 := E7.drew
          generalize w7.drew = w7d at *
          have f2 := H7.free 2
          have H8 : Sat (w7d.setCell ⟨b, 2, none⟩ (.int .i64 hd)) (row b 41 #[.slice (some ⟨gL, oL, none⟩) (k + 2) cL, .slice (some ⟨gW, oW, none⟩) (k + 2) cW, .int .i64 hd, .bool false] :: ownO 30 (.slice (some ⟨gL, oL, none⟩) (k + 2) cL) (k + 2) (.slice Av n0 cv :: p1.v :: its.map (·.v)) :: ownO 30 (.slice (some ⟨gW, oW, none⟩) (k + 2) cW) (k + 2) (.slice Au n0 cu :: p1.u :: its.map (·.u)) :: all (own 5 1 (.slice Av n0 cv) n0 (l.map (Value.int .u8)) :: bkL_byte (p1 :: its)) :: all (own 5 1 (.slice Au n0 cu) n0 (l.map (Value.int .u8)) :: bkW_byte (p1 :: its)) :: F) := H7.set (i := 2) (.int .i64 hd)
          have E8 := E7.set ⟨b, 2, none⟩ (.int .i64 hd)
          go_simp
          generalize w7d.setCell ⟨b, 2, none⟩ (.int .i64 hd) = w8 at *
          clear f2 y0 y2 z0 hHeld H7 E7 e1 e2
          have y0 := H8.cell 0
          have f0 := H8.free 0
          have hc1 : ¬ cL = 1 := by omega
          have hc2 : ¬ cW = 1 := by omega
          have hc3 : (1 : Int) ≤ (k : Int) + 2 := by omega
          have H9 : Sat (w8.setCell ⟨b, 0, none⟩ (.slice (some ⟨gL, oL + 1, none⟩) (k + 1) (cL - 1))) (row b 41 #[.slice (some ⟨gL, oL + 1, none⟩) (k + 1) (cL - 1), .slice (some ⟨gW, oW, none⟩) (k + 2) cW, .int .i64 hd, .bool false] :: ownO 30 (.slice (some ⟨gL, oL, none⟩) (k + 2) cL) (k + 2) (.slice Av n0 cv :: p1.v :: its.map (·.v)) :: ownO 30 (.slice (some ⟨gW, oW, none⟩) (k + 2) cW) (k + 2) (.slice Au n0 cu :: p1.u :: its.map (·.u)) :: all (own 5 1 (.slice Av n0 cv) n0 (l.map (Value.int .u8)) :: bkL_byte (p1 :: its)) :: all (own 5 1 (.slice Au n0 cu) n0 (l.map (Value.int .u8)) :: bkW_byte (p1 :: its)) :: F) := H8.set (i := 0) (.slice (some ⟨gL, oL + 1, none⟩) (k + 1) (cL - 1))
          have E9 := E8.set ⟨b, 0, none⟩ (.slice (some ⟨gL, oL + 1, none⟩) (k + 1) (cL - 1))
          go_upto_region 7 with fail
          generalize w8.setCell ⟨b, 0, none⟩ (.slice (some ⟨gL, oL + 1, none⟩) (k + 1) (cL - 1)) = w9 at *
          clear y0 f0 H8 E8
          have y1 := H9.cell 1
          have f1 := H9.free 1
          have H10 : Sat (w9.setCell ⟨b, 1, none⟩ (.slice (some ⟨gW, oW + 1, none⟩) (k + 1) (cW - 1))) (row b 41 #[.slice (some ⟨gL, oL + 1, none⟩) (k + 1) (cL - 1), .slice (some ⟨gW, oW + 1, none⟩) (k + 1) (cW - 1), .int .i64 hd, .bool false] :: ownO 30 (.slice (some ⟨gL, oL, none⟩) (k + 2) cL) (k + 2) (.slice Av n0 cv :: p1.v :: its.map (·.v)) :: ownO 30 (.slice (some ⟨gW, oW, none⟩) (k + 2) cW) (k + 2) (.slice Au n0 cu :: p1.u :: its.map (·.u)) :: all (own 5 1 (.slice Av n0 cv) n0 (l.map (Value.int .u8)) :: bkL_byte (p1 :: its)) :: all (own 5 1 (.slice Au n0 cu) n0 (l.map (Value.int .u8)) :: bkW_byte (p1 :: its)) :: F) := H9.set (i := 1) (.slice (some ⟨gW, oW + 1, none⟩) (k + 1) (cW - 1))
          have E10 := E9.set ⟨b, 1, none⟩ (.slice (some ⟨gW, oW + 1, none⟩) (k + 1) (cW - 1))
          go_wp2_with fail
          generalize w9.setCell ⟨b, 1, none⟩ (.slice (some ⟨gW, oW + 1, none⟩) (k + 1) (cW - 1)) = w10 at *
          clear y1 f1 H9 E9
          have H11 := H10.b1.ownO_tail.b1
          have H12 := H11.b2.ownO_tail.p2
          have H13 := H12.b3.all_tail.p3
          have H14 := H13.b4.all_tail.p4
          have hk1 : (p1 :: its).length = k + 1 := by have := HK.out; simp only [List.length_cons] at this ⊢; omega
          have hz := H14.cell 0
          clear H10 H11 H12 H13
          have H15 := Sat.bk_shut_byte (F := F) ⟨.slice (some ⟨gL, oL + 1, none⟩) (k + 1) (cL - 1), .slice (some ⟨gW, oW + 1, none⟩) (k + 1) (cW - 1), p1 :: its, hd⟩ (by dsimp only; rw [hk1]; exact H14)
          exact ⟨⟨_, H15, E10, HS.out.tail⟩, by rw [HLW.out]; simp only [lenAt]; rw [hz]; exact Nat.lt_succ_self _⟩
        · go_wp2_with fail
          go_end0
          exact ⟨rfl, _, H2, E2, by have := HK.out; have := HM.out; dsimp only; omega, fun p hp => HX2.out p (HS.out.2 p hp)⟩
end Go.Proofs.Ythbabdjicplooaa
