/- The book of lists: Keep, as long as nothing is let go. Conditions: fewer than 4000 lists, fewer than 1000000 places. -/
import Derived.Test.YthbabdjicplooaaCopy
import Derived.Test.YthbabdjicplooaaOpen
import Derived.Test.YthbabdjicplooaaSplitB
import Derived.Test.YthbabdjicplooaaProg
import Derived.WalkMore
import Derived.Deep.CutBlock
import Derived.Deep.RegionHeld3
import Derived.Deep.RegionHeldLaw
import Derived.BigRegion
import Derived.Deep.QuietTactic
import Derived.BigQuiet
namespace Go.Proofs.Ythbabdjicplooaa
open Go.RowKit

theorem Sat.f5 {w : World} {A B C D E X : HP} {L : List HP} (H : Sat w (A :: B :: C :: D :: E :: X :: L)) : Sat w (X :: A :: B :: C :: D :: E :: L) := H.perm (List.perm_middle (l₁ := [A, B, C, D, E]))
theorem Sat.f6 {w : World} {A B C D E G X : HP} {L : List HP} (H : Sat w (A :: B :: C :: D :: E :: G :: X :: L)) : Sat w (X :: A :: B :: C :: D :: E :: G :: L) := H.perm (List.perm_middle (l₁ := [A, B, C, D, E, G]))
/-- A list that is kept: itself, its length, the copy, its cells. -/
structure Kp where
  v : Value
  n : Nat
  u : Value
  xs : List Value
structure Bk where
  vL : Value
  vW : Value
  items : List Kp
  held : Int
def bkL (L : List Kp) : List HP := L.map fun p => own 5 1 p.v p.n p.xs
def bkW (L : List Kp) : List HP := L.map fun p => own 5 1 p.u p.n p.xs
theorem Try.info_row : (Try.prog.info? 30).map (fun i => (i.zero, i.size, i.bytes)) = some (some (.slice none 0 0), 1, 24) := by kernel_rfl
theorem Try.info_el : (Try.prog.info? 5).map (fun i => (i.zero, i.size, i.bytes)) = some (some (.int .u8 0), 1, 1) := by kernel_rfl
def bk (b : Nat) (R : Bk) : HP := all [row b 41 #[R.vL, R.vW, .int .i64 R.held, .bool false], own 30 1 R.vL R.items.length (R.items.map (·.v)), own 30 1 R.vW R.items.length (R.items.map (·.u)), all (bkL R.items), all (bkW R.items)]
theorem Sat.bk_open {w : World} {F : List HP} {b : Nat} {R : Bk} (H : Sat w (bk b R :: F)) : Sat w (row b 41 #[R.vL, R.vW, .int .i64 R.held, .bool false] :: own 30 1 R.vL R.items.length (R.items.map (·.v)) :: own 30 1 R.vW R.items.length (R.items.map (·.u)) :: all (bkL R.items) :: all (bkW R.items) :: F) := H.open_all
theorem Sat.bk_shut {w : World} {F : List HP} {b : Nat} (R : Bk) (H : Sat w (row b 41 #[R.vL, R.vW, .int .i64 R.held, .bool false] :: own 30 1 R.vL R.items.length (R.items.map (·.v)) :: own 30 1 R.vW R.items.length (R.items.map (·.u)) :: all (bkL R.items) :: all (bkW R.items) :: F)) : Sat w (bk b R :: F) := Sat.shut_all (L := [_, _, _, _, _]) H
theorem Sat.bk_new {w : World} {F : List HP} {b : Nat} (H : Sat w (row b 41 #[.slice none 0 0, .slice none 0 0, .int .i64 0, .bool false] :: F)) : Sat w (bk b ⟨.slice none 0 0, .slice none 0 0, [], 0⟩ :: F) := by
  have h2 : Sat w (row b 41 #[.slice none 0 0, .slice none 0 0, .int .i64 0, .bool false] :: all [] :: all [] :: F) := (Sat.shut_all (L := []) (Sat.shut_all (L := []) H)).b2
  exact Sat.bk_shut ⟨.slice none 0 0, .slice none 0 0, [], 0⟩ (((h2.own_nil 30 1).own_nil 30 1).b2)
theorem Sat.all_snoc {w : World} {F : List HP} {A : HP} {L : List HP} (H : Sat w (A :: all L :: F)) : Sat w (all (L ++ [A]) :: F) := by
  have h1 := H.b1.open_all
  exact Sat.shut_all (L := L ++ [A]) (by rw [List.append_assoc]; exact h1)
theorem keep_shut {w : World} {F : List HP} (b : Nat) (items : List Kp) (A A5 A7 A9 : Option Addr) (n c c5 c7 c9 m : Nat) (hd : Int) (xs : List Value) (hm : items.length = m)
    (H : Sat w (row b 41 #[.slice A5 (m + 1) c5, .slice A9 (m + 1) c9, .int .i64 hd, .bool false] :: own 30 1 (.slice A9 (m + 1) c9) (m + 1) (items.map (·.u) ++ [.slice A7 n c7]) :: own 5 1 (.slice A7 n c7) n xs :: own 30 1 (.slice A5 (m + 1) c5) (m + 1) (items.map (·.v) ++ [.slice A n c]) :: all (bkL items) :: all (bkW items) :: own 5 1 (.slice A n c) n xs :: F)) :
    Sat w (bk b ⟨.slice A5 (m + 1) c5, .slice A9 (m + 1) c9, items ++ [⟨.slice A n c, n, .slice A7 n c7, xs⟩], hd⟩ :: F) := by
  have h1 := H.f6.f5.b1.all_snoc
  have h2 := h1.b3.f5.b1.all_snoc
  have h3 := h2.b1.b3.b4.b4
  refine Sat.bk_shut ⟨.slice A5 (m + 1) c5, .slice A9 (m + 1) c9, items ++ [⟨.slice A n c, n, .slice A7 n c7, xs⟩], hd⟩ ?_
  simp only [bkL, bkW, List.map_append, List.map_cons, List.map_nil, List.length_append, List.length_cons, List.length_nil, hm] at h3 ⊢
  exact h3

set_option maxHeartbeats 4000000 in
set_option maxRecDepth 100000 in
theorem keep_any {w : World} {F : List HP} (b : Nat) (R : Bk) (A : Option Addr) (n c : Nat) (xs : List Value) (H : Sat w (bk b R :: own 5 1 (.slice A n c) n xs :: F)) (h1 : ∀ u ∈ xs, u.oneCell' = true) (hn : n < 4294967296) (hh : 0 ≤ R.held ∧ R.held + c + 1 ≤ 1000000) (hi : R.items.length < 4000) :
    Calls Try.prog 29 #[.pointer (some ⟨b, 0, none⟩), .slice A n c] w fun e w' => e = .returned (.tuple #[]) ∧ ∃ vL vW u, Sat w' (bk b ⟨vL, vW, R.items ++ [⟨.slice A n c, n, u, xs⟩], R.held + c + 1⟩ :: F) ∧ Env w w' := by
  have H1' := Lib.hid h1
  clear h1
  obtain ⟨vL, vW, items, held⟩ := R
  dsimp only at hh hi ⊢
  have H2 := H.bk_open
  clear H
  dsimp only at H2
  obtain ⟨AL, cL, rfl, -, -, -⟩ := H2.b1.own_form
  obtain ⟨AW, cW, rfl, -, -, -⟩ := H2.b2.own_form
  have hc0 := H2.cell 0
  obtain ⟨m, hm⟩ : ∃ m, items.length = m := ⟨_, rfl⟩
  have HM := Lib.hid hm
  rw [hm] at H2 hc0 hi
  clear hm
  go_enter Try.func29, Try.ntmps29
  go_upto_region 1 with (at_builtin; go_must (refine wpList_append_sat rfl (.tmp 8) (.tmp 10) 39 rfl (H2.b1.alloc' _) rfl _ 24 Try.underlying39 Try.info_row rfl (by omega) _ _ _ [.slice A n c] rfl (fun h => by cases h) rfl (lit_src _ _ _ _ rfl) (by simp [Value.oneCell']) (by simp only [maxLen]; omega) (by omega) ?_); intro v5 w5 H5 E5; obtain ⟨A5, c5, rfl, -, -, -⟩ := H5.own_form; have hq1 := H5.b1.cell 0; have hq2 := H5.b1.free 0)
  have H6 := H5.b1.set (i := 0) (.slice A5 (m + 1) c5)
  have E6 := (((Env.refl w).alloc (.cells #[.slice A n c] 30)).trans E5).set ⟨b, 0, none⟩ (.slice A5 (m + 1) c5)
  generalize w5.setCell ⟨b, 0, none⟩ (.slice A5 (m + 1) c5) = w6 at *
  clear hq1 hq2 hc0 H2 H5 E5
  replace H6 : Sat w6 (row b 41 #[.slice A5 (m + 1) c5, .slice AW m cW, .int .i64 held, .bool false] :: own 30 1 (.slice A5 (m + 1) c5) (m + 1) (items.map (·.v) ++ [.slice A n c]) :: own 30 1 (.slice AW m cW) m (items.map (·.u)) :: all (bkL items) :: all (bkW items) :: own 5 1 (.slice A n c) n xs :: F) := H6
  have hb1 : w6.drew.cell? ⟨b, 1, none⟩ = some (.slice AW m cW) := H6.drew.cell 1
  have hrd := H6.drew.f5.own_at.1
  have HRD := Lib.hid hrd
  clear hrd
  refine region_aside2 (fun w' => w'.cell? ⟨b, 1, none⟩ = some (.slice AW m cW)) 11 _ (by kernel_rfl) rfl rfl rfl (by kernel_rfl) (by kernel_rfl) hb1 (fun hHeld => ?_)
  simp only [setAside, List.setIfInBounds_toArray, List.set_cons_zero, List.set_cons_succ]
  refine' wpAnyH_take (i := 0) (oi := _) (v := _) rfl (by kernel_rfl) (by kernel_rfl) (by kernel_rfl) (fun _ _ _ h => h) (Or.inl ⟨by rfl, ?hy0⟩) hHeld ?rest0
  case hy0 => (intro w' hSw; (try dsimp only at hSw); go_simp; try with_reducible rfl)
  simp only [List.getElem_toArray, List.getElem_cons_zero, List.getElem_cons_succ, Act.put, List.setIfInBounds_toArray, List.set_cons_zero, List.set_cons_succ]
  refine' wpAnyH_take (i := 1) (oi := _) (v := _) rfl (by kernel_rfl) (by kernel_rfl) (by kernel_rfl) (fun _ _ _ h => h) (Or.inl ⟨by rfl, ?hy1⟩) hHeld ?rest1
  case hy1 => (intro w' hSw; (try dsimp only at hSw); go_simp; try with_reducible rfl)
  simp only [List.getElem_toArray, List.getElem_cons_zero, List.getElem_cons_succ, Act.put, List.setIfInBounds_toArray, List.set_cons_zero, List.set_cons_succ]
  refine' wpAnyH_take (i := 2) (oi := _) (v := _) rfl (by kernel_rfl) (by kernel_rfl) (by kernel_rfl) (fun _ _ _ h => h) (Or.inl ⟨by rfl, ?hy2⟩) hHeld ?rest2
  case hy2 => (intro w' hSw; (try dsimp only at hSw); go_simp; try with_reducible rfl)
  simp only [List.getElem_toArray, List.getElem_cons_zero, List.getElem_cons_succ, Act.put, List.setIfInBounds_toArray, List.set_cons_zero, List.set_cons_succ]
  refine' wpAnyH_take (i := 3) (oi := _) (v := _) rfl (by kernel_rfl) (by kernel_rfl) (by kernel_rfl) (fun _ _ _ h => h) (Or.inl ⟨by rfl, ?hy3⟩) hHeld ?rest3
  case hy3 => (intro w' hSw; (try dsimp only at hSw); go_simp; try with_reducible rfl)
  simp only [List.getElem_toArray, List.getElem_cons_zero, List.getElem_cons_succ, Act.put, List.setIfInBounds_toArray, List.set_cons_zero, List.set_cons_succ]
  refine' wpAnyH_take (i := 4) (oi := _) (v := _) rfl (by kernel_rfl) (by kernel_rfl) (by kernel_rfl) (fun _ _ _ h => h) (Or.inl ⟨by rfl, ?hy4⟩) hHeld ?rest4
  case hy4 => (intro w' hSw; (try dsimp only at hSw); go_simp; try with_reducible rfl)
  simp only [List.getElem_toArray, List.getElem_cons_zero, List.getElem_cons_succ, Act.put, List.setIfInBounds_toArray, List.set_cons_zero, List.set_cons_succ]
  refine' wpAnyH_take (i := 5) (oi := _) (v := _) rfl (by kernel_rfl) (by kernel_rfl) (by kernel_rfl) (fun _ _ _ h => h) (Or.inl ⟨by rfl, ?hy5⟩) hHeld ?rest5
  case hy5 => (intro w' hSw; (try dsimp only at hSw); go_simp; try with_reducible rfl)
  simp only [List.getElem_toArray, List.getElem_cons_zero, List.getElem_cons_succ, Act.put, List.setIfInBounds_toArray, List.set_cons_zero, List.set_cons_succ]
  refine wpAnyH_ready (rs := [6]) (by kernel_rfl) (by simp) ?_
  refine AllReadyH.cons (o := _) rfl (fun K hK => ?_) AllReadyH.nil
  refine step_append_sat rfl (.const (.slice none 0 0)) (.tmp 19) 30 rfl (H6.drew.own_nil 5 1) rfl _ 1 Try.underlying30 Try.info_el rfl (by omega) A n c xs rfl (HRD.out.src_none (by omega)) HRD.out.1 HRD.out.src H1'.out (by simp only [maxLen]; omega) (by omega) ?_
  intro v7 w7 H7 E7
  rw [Nat.zero_add, List.nil_append] at H7
  obtain ⟨A7, c7, rfl, -, -, -⟩ := H7.own_form
  refine hK.out _ _ (H7.b1.cell 1) (fun hHeld2 => ?_)
  clear hK K
  try simp only [List.getElem_toArray, List.getElem_cons_zero, List.getElem_cons_succ, Act.put, List.setIfInBounds_toArray, List.set_cons_zero, List.set_cons_succ]
  refine wpAnyH_ready (rs := [7]) (by kernel_rfl) (by simp) ?_
  refine AllReadyH.cons (o := _) rfl (fun K hK => ?_) AllReadyH.nil
  rw [if_pos (by rfl)]
  go_simp
  have H8 := H7.b3.alloc' (.cells #[.slice A7 n c7] 30)
  refine hK.out _ _ (H8.b2.cell 1) (fun hHeld3 => ?_)
  clear hK K
  try simp only [List.getElem_toArray, List.getElem_cons_zero, List.getElem_cons_succ, Act.put, List.setIfInBounds_toArray, List.set_cons_zero, List.set_cons_succ]
  refine wpAnyH_ready (rs := [8]) (by kernel_rfl) (by simp) ?_
  refine AllReadyH.cons (o := _) rfl (fun K hK => ?_) AllReadyH.nil
  refine step_append_sat rfl (.tmp 18) (.tmp 21) 39 rfl H8 rfl _ 24 Try.underlying39 Try.info_row rfl (by omega) _ _ _ [.slice A7 n c7] rfl (fun h => by cases h) rfl (lit_src _ _ _ _ rfl) (by simp [Value.oneCell']) (by simp only [maxLen]; omega) (by omega) ?_
  intro v9 w9 H9 E9
  obtain ⟨A9, c9, rfl, -, -, -⟩ := H9.own_form
  refine hK.out _ _ (H9.b2.cell 1) (fun hHeld4 => ?_)
  clear hK K
  try simp only [List.getElem_toArray, List.getElem_cons_zero, List.getElem_cons_succ, Act.put, List.setIfInBounds_toArray, List.set_cons_zero, List.set_cons_succ]
  refine' wpAnyH_take (i := 9) (oi := _) (v := _) rfl (by kernel_rfl) (by kernel_rfl) (by kernel_rfl) (fun _ _ _ h => h) (Or.inl ⟨by rfl, ?hy9⟩) hHeld4 ?rest9
  case hy9 => (intro w' hSw; (try dsimp only at hSw); go_simp; try with_reducible rfl)
  simp only [List.getElem_toArray, List.getElem_cons_zero, List.getElem_cons_succ, Act.put, List.setIfInBounds_toArray, List.set_cons_zero, List.set_cons_succ]
  refine' wpAnyH_take (i := 10) (oi := _) (v := _) rfl (by kernel_rfl) (by kernel_rfl) (by kernel_rfl) (fun _ _ _ h => h) (Or.inl ⟨by rfl, ?hy10⟩) hHeld4 ?rest10
  case hy10 => (intro w' hSw; (try dsimp only at hSw); go_simp; try with_reducible rfl)
  simp only [List.getElem_toArray, List.getElem_cons_zero, List.getElem_cons_succ, Act.put, List.setIfInBounds_toArray, List.set_cons_zero, List.set_cons_succ]
  refine' wpAnyH_take (i := 11) (oi := _) (v := _) rfl (by kernel_rfl) (by kernel_rfl) (by kernel_rfl) (fun _ _ _ h => h) (Or.inl ⟨by rfl, ?hy11⟩) hHeld4 ?rest11
  case hy11 => (intro w' hSw; (try dsimp only at hSw); go_simp; try with_reducible rfl)
  try simp only [List.getElem_toArray, List.getElem_cons_zero, List.getElem_cons_succ, Act.put]
  refine wpAnyH_done (by kernel_rfl) ?_ _
  show Oper.wp _ _ _ _ _ _
  have c3 := H9.b2.cell 1
  have c5' := H9.b2.free 1
  have H10 : Sat (w9.setCell ⟨b, 1, none⟩ (.slice A9 (m + 1) c9)) (row b 41 #[.slice A5 (m + 1) c5, .slice A9 (m + 1) c9, .int .i64 held, .bool false] :: own 30 1 (.slice A9 (m + 1) c9) (m + 1) (items.map (·.u) ++ [.slice A7 n c7]) :: own 5 1 (.slice A7 n c7) n xs :: own 30 1 (.slice A5 (m + 1) c5) (m + 1) (items.map (·.v) ++ [.slice A n c]) :: all (bkL items) :: all (bkW items) :: own 5 1 (.slice A n c) n xs :: F) := H9.b2.set (i := 1) (.slice A9 (m + 1) c9)
  have E10 := (((E6.drew.trans E7).alloc (.cells #[.slice A7 n c7] 30)).trans E9).set ⟨b, 1, none⟩ (.slice A9 (m + 1) c9)
  go_simp
  generalize w9.setCell ⟨b, 1, none⟩ (.slice A9 (m + 1) c9) = w10 at *
  clear c3 c5' H6 H7 H8 H9 E6 E7 E9 hb1 hHeld hHeld2 hHeld3 hHeld4
  have x0 := H10.cell 0
  have x2 := H10.cell 2
  have f2 := H10.free 2
  have e1 : IntKind.i64.wrap (held + (c : Int)) = held + c := IntWalk.i64_in _ (by omega)
  have e2 : IntKind.i64.wrap (held + (c : Int) + 1) = held + c + 1 := IntWalk.i64_in _ (by omega)
  have H11 : Sat (w10.setCell ⟨b, 2, none⟩ (.int .i64 (held + c + 1))) (row b 41 #[.slice A5 (m + 1) c5, .slice A9 (m + 1) c9, .int .i64 (held + c + 1), .bool false] :: own 30 1 (.slice A9 (m + 1) c9) (m + 1) (items.map (·.u) ++ [.slice A7 n c7]) :: own 5 1 (.slice A7 n c7) n xs :: own 30 1 (.slice A5 (m + 1) c5) (m + 1) (items.map (·.v) ++ [.slice A n c]) :: all (bkL items) :: all (bkW items) :: own 5 1 (.slice A n c) n xs :: F) := H10.set (i := 2) (.int .i64 (held + c + 1))
  have E11 := E10.set ⟨b, 2, none⟩ (.int .i64 (held + c + 1))
  go_upto_region 3 with fail
  generalize w10.setCell ⟨b, 2, none⟩ (.int .i64 (held + c + 1)) = w11 at *
  clear x0 x2 f2 H10 E10 e1 e2
  have hhd : held + c + 1 ≤ 1000000 := hh.2
  generalize hde : held + (c : Int) + 1 = hd at *
  have HDE := Lib.hid hde
  clear hde
  have y0 := H11.cell 0
  have y2 := H11.cell 2
  go_loopw [] (fun wr => wr = w11) (fun _ => 0)
  case atStart => exact rfl
  case round =>
    rw [hrel]
    clear hrel wr
    by_cases hm0 : m = 0
    · subst hm0
      go_wp2_with fail
      go_end0
      exact ⟨rfl, _, _, _, by rw [HDE.out]; exact keep_shut b items A A5 A7 A9 n c c5 c7 c9 0 hd xs HM.out H11, E11⟩
    · have hm1 : (1 : Int) < (m : Int) + 1 := by omega
      have hm2 : ¬ (4000 : Int) < (m : Int) + 1 := by omega
      have hm3 : ¬ (1000000 : Int) < hd := by omega
      go_wp2_with fail
      go_end0
      exact ⟨rfl, ⟨_, _, _, by rw [HDE.out]; exact keep_shut b items A A5 A7 A9 n c c5 c7 c9 m hd xs HM.out H11⟩, E11⟩
end Go.Proofs.Ythbabdjicplooaa
