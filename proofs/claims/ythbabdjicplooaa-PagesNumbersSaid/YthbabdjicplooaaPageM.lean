/- law 5's known; Put and Open on disks that do not stop. Conditions: epochs below 190. -/
import Derived.Test.YthbabdjicplooaaPageLG
namespace Go.Proofs.Ythbabdjicplooaa
open Go.RowKit

theorem ownB_shrd {v' : HP} {R : List Sh} {F : List HP} {w : World} (H : Sat w (ownB (R.map (·.2)) :: F)) : ∀ q ∈ R, ShRd (v' :: ownB (R.map (·.2)) :: F) q := fun q hq => by
  have hm : q.2 ∈ R.map (·.2) := List.mem_map.2 ⟨q, hq, rfl⟩
  obtain ⟨A', c', g1, g2, -⟩ := H.ownB_at hm
  refine ⟨A', c', g1, g2, fun w h => ?_⟩
  obtain ⟨A2, c2, g3, -, g4⟩ := h.b1.ownB_at hm
  rw [g1] at g3
  cases g3
  exact g4
/-- Put of a list that is owned. -/
theorem pput_own {w : World} {s d p : Nat} {D : Dsk} {L : LogV} {e : Nat} {m : Nat → List Int} {F : List HP} (A : Option Addr) (n c : Nat) (R : List Sh)
    (H : Sat w (sto s d p (D.rd 7679) :: logc p d L :: disk d D :: own 98 2 (.slice A n c) n (flatS R) :: ownB (R.map (·.2)) :: F)) (hb : ∀ q ∈ R, InB q.2.2) (hn : n < 100000) (hC : Clean D L e m) (he : e < 190) :
    Calls Try.prog 60 #[.pointer (some ⟨s, 0, none⟩), .slice A n c] w fun e' w' => ∃ r S' D' L', e' = .returned (.int .i64 r) ∧ PutA D D' L L' S' e m R r ∧ Sat w' (sto s d p S' :: logc p d L' :: disk d D' :: own 98 2 (.slice A n c) n (flatS R) :: ownB (R.map (·.2)) :: F) ∧ Env w w' :=
  pput_any A n c R H (fun w h => h.own_at.1) (ownB_shrd H.tail.tail.tail.tail) hb hn hC he
/-- Put of pages that may be, on a disk that does not stop. -/
theorem pput_fine {w : World} {s d p : Nat} {D : Dsk} {L : LogV} {e : Nat} {m : Nat → List Int} {F : List HP} (A : Option Addr) (n c : Nat) (R : List Sh)
    (H : Sat w (sto s d p (D.rd 7679) :: logc p d L :: disk d D :: own 98 2 (.slice A n c) n (flatS R) :: ownB (R.map (·.2)) :: F)) (hR : Shs R) (h0 : R ≠ []) (hC : Clean D L e m) (hl : D.left = none) (he : e < 190) :
    Calls Try.prog 60 #[.pointer (some ⟨s, 0, none⟩), .slice A n c] w fun e' w' => ∃ D' L', e' = .returned (.int .i64 0) ∧ Clean D' L' (e + 1) (updR m R) ∧ D'.left = none ∧ Sat w' (sto s d p (D'.rd 7679) :: logc p d L' :: disk d D' :: own 98 2 (.slice A n c) n (flatS R) :: ownB (R.map (·.2)) :: F) ∧ Env w w' := by
  have hn : n < 100000 := by
    have h1 := H.tail.tail.tail.own_at.1.1
    rw [flatS_len] at h1
    have := hR.len; omega
  refine (pput_own A n c R H (fun q hq => (hR.ok q hq).inb) hn hC he).mono ?_
  rintro e' w' ⟨r, S', D', L', rfl, hP, H', E'⟩
  obtain ⟨hW, hS⟩ := hP.put hR h0
  obtain ⟨rfl, hl'⟩ := hW.fine hl
  rw [hS rfl] at H'
  exact ⟨D', L', rfl, hW.ok rfl, hl', H', E'⟩
theorem popen_fine {w : World} {d : Nat} {D : Dsk} {L : LogV} {e : Nat} {m : Nat → List Int} {F : List HP} (H : Sat w (disk d D :: F)) (hC : Clean D L e m) (hl : D.left = none) (he : e < 190) :
    Calls Try.prog 58 #[.pointer (some ⟨d, 0, none⟩)] w fun e' w' => ∃ s p, e' = .returned (.tuple #[.pointer (some ⟨s, 0, none⟩), .int .i64 0]) ∧ Sat w' (sto s d p (D.rd 7679) :: logc p d L :: disk d D :: F) ∧ Env w w' := by
  refine (popen_any (R := []) H (.inl hC) he).mono ?_
  rintro e' w4 ⟨r, s, p, D4, L4, hW, rfl, H4, -, E4⟩
  obtain ⟨rfl, -⟩ := hW.fine hl
  obtain ⟨-, rfl, rfl⟩ | ⟨h, -⟩ := hW.ok rfl
  · exact ⟨s, p, rfl, H4 rfl, E4⟩
  · exact absurd hC.recs h
/-- Read, of pages that are known. -/
theorem pread_fine {w : World} {s d p : Nat} {D : Dsk} {L : LogV} {e : Nat} {m : Nat → List Int} {G F : List HP} (n : Nat) (hn : n < 512) (H : Sat w (sto s d p (D.rd 7679) :: disk d D :: F)) (hC : Clean D L e m) :
    Calls Try.prog 59 #[.pointer (some ⟨s, 0, none⟩), .int .i64 n] w fun e' w' => ∃ v, e' = .returned (.tuple #[v, .int .i64 0]) ∧ Sat w' (own 5 1 v 1024 (bytes (m n)) :: sto s d p (D.rd 7679) :: disk d D :: F) ∧ Env w w' := by
  refine (pread_any n hn H (hC.st.inv.db.rd _).1 hC.st.inv.db hC.st.len).mono ?_
  rintro e' w' ⟨v, rfl, H', E'⟩
  rw [show pageD D (D.rd 7679) n = m n from hC.pg n hn] at H'
  exact ⟨v, rfl, H', E'⟩
theorem shs_one {n c : Nat} {x : Int} {A : Option Addr} (hn : n < 512) : Shs [((n : Int), .slice A 1024 c, pageL x)] :=
  ⟨fun q hq => by rw [List.mem_singleton.1 hq]; exact ⟨by dsimp only; omega, by dsimp only; omega, by dsimp only; exact pageL_len x, by dsimp only; exact pageL_in x⟩, List.nodup_cons.2 ⟨by simp, List.nodup_nil⟩, by show 1 ≤ 256; omega⟩
/-- The list of one sheet, as it is made. -/
theorem Sat.sheet_one {w : World} {n : Int} {A : Option Addr} {m c : Nat} {b : List Int} {F : List HP} (H : Sat w (own 5 1 (.slice A m c) m (bytes b) :: F)) (hb : b.length = m) :
    Sat (w.alloc (.cells #[.int .i64 n, .slice A m c] 98)) (own 98 2 (.slice (some ⟨w.heap.size, 0, none⟩) 1 1) 1 (flatS [(n, .slice A m c, b)]) :: ownB ([(n, (.slice A m c : Value), b)].map (·.2)) :: F) := by
  have H1 : Sat w (ownB ([] ++ [((.slice A m c : Value), b)]) :: F) := Sat.ownB_snoc (by rw [hb]; exact Sat.b1 (Sat.ownB_nil H))
  exact H1.own_lit 98 2 #[.int .i64 n, .slice A m c] 1 (by simp [maxLen]) rfl

theorem step_makeg_sat {P : Program} {w : World} {ops : Array Oper} {o : Oper} {a : Act} {K : Act → World → Prop} {Q : Exit → Act → World → Prop} {E : Prop} {F : List HP}
    (hw : Region.wanted o (yielded ops a.tmps) = true) (l c : Operand) (t : TypeId) (hop : o.op = Op.makeSlice t l c) (H : Sat w F)
    (e : TypeId) (z : Value) (size bytes : Nat) (ht : P.underlying t = some (.slice e)) (hi : (P.info? e).map (fun i => (i.zero, i.size, i.bytes)) = some (some z, size, bytes))
    (kl kc : IntKind) (n : Nat) (hl : a.eval l = .int kl n) (hc : a.eval c = .int kc n) (hb : bytes * n ≤ 281474976710656) (hm : n ≤ maxLen)
    (h : ∀ w', Sat w' (own e size (.slice (some ⟨w.heap.size, 0, none⟩) n n) n (madeCells z.cells (n * size)).toList :: F) → Env w w' → K (a.put o.dst (.slice (some ⟨w.heap.size, 0, none⟩) n n)) w') :
    if Region.wanted o (yielded ops a.tmps) = true then Oper.wp P o a w K Q else E := by
  obtain ⟨w', hrun, r1, r2⟩ := H.make t e z size bytes ht hi kl kc n hb hm
  rw [if_pos hw]
  unfold Oper.wp
  simp [execOp, hop, hl, hc, hrun, Result.andThen]
  exact h w' r1 r2
theorem step_conv {P : Program} {w : World} {ops : Array Oper} {o : Oper} {a : Act} {K : Act → World → Prop} {Q : Exit → Act → World → Prop} {E : Prop}
    (hw : Region.wanted o (yielded ops a.tmps) = true) (t u : TypeId) (x : Operand) (hop : o.op = Op.convert t u x) (v r : Value) (hx : a.eval x = v) (hrun : (convert t u v).run P w = .ok r w) (h : K (a.put o.dst r) w) :
    if Region.wanted o (yielded ops a.tmps) = true then Oper.wp P o a w K Q else E := by
  rw [if_pos hw]
  unfold Oper.wp
  simp [execOp, hop, hx, hrun, Result.andThen]
  exact h

set_option maxHeartbeats 8000000 in
set_option maxRecDepth 100000 in
theorem known5 {w : World} {F : List HP} (H : Sat w F) :
    Calls Try.prog 63 #[] w fun e w' => e = .returned (.bool true) ∧ Sat w' F ∧ Env w w' := by
  go_enter Try.func63, Try.ntmps63
  go_wp2_with fail
  refine (begun5 H).mono ?_
  rintro e w2 ⟨d, s, p, D, rfl, hC, hl, H2, E2⟩
  have HC := Lib.hid hC
  have HL := Lib.hid hl
  clear hC hl H
  go_wp2_with fail
  refine (page5 1 H2 (by omega)).mono ?_
  rintro e w3 ⟨v3, rfl, H3, E3⟩
  obtain ⟨A3, c3, rfl, -, -, -⟩ := H3.own_form
  have H4 := H3.sheet_one (n := 3) (pageL_len 1)
  have E4 := (E2.trans E3).alloc (.cells #[.int .i64 3, .slice A3 1024 c3] 98)
  have HS := Lib.hid (shs_one (n := 3) (c := c3) (x := 1) (A := A3) (by omega))
  clear H2 E2 H3 E3
  go_wp2_with fail
  generalize w3.alloc (.cells #[.int .i64 3, .slice A3 1024 c3] 98) = w4 at *
  refine (pput_fine _ 1 1 _ H4.b4.b4.b4 HS.out (by simp) HC.out HL.out (by omega)).mono ?_
  rintro e w5 ⟨D5, L5, rfl, hC5, hl5, H5, E5⟩
  have HC5 := Lib.hid hC5
  have HL5 := Lib.hid hl5
  have E5' := E4.trans E5
  clear hC5 hl5 H4 E4 E5 HC HL HS
  go_wp2_with fail
  refine (popen_fine H5.b2 HC5.out HL5.out (by omega)).mono ?_
  rintro e w6 ⟨s6, p6, rfl, H6, E6⟩
  have E6' := E5'.trans E6
  have H6' := H6.b1.tail
  clear H5 E5' H6 E6
  go_wp2_with fail
  refine (pread_fine (G := []) 3 (by omega) H6' HC5.out).mono ?_
  rintro e w7 ⟨v7, rfl, H7, E7⟩
  obtain ⟨A7, c7, rfl, -, -, -⟩ := H7.own_form
  rw [show updR zeroM [((3 : Int), .slice A3 1024 c3, pageL 1)] 3 = pageL 1 from rfl] at H7
  go_wp2_with fail
  refine (pread_fine (G := []) 4 (by omega) H7.b2.b2 HC5.out).mono ?_
  rintro e w8 ⟨v8, rfl, H8, E8⟩
  obtain ⟨A8, c8, rfl, -, -, -⟩ := H8.own_form
  rw [show updR zeroM [((3 : Int), .slice A3 1024 c3, pageL 1)] 4 = zeroP from rfl] at H8
  have E8' := (E6'.trans E7).trans E8
  have H9 := H8.b3
  clear H6' E6' H7 E7 H8 E8
  go_upto_region 9 with fail
  obtain ⟨s1, hs1⟩ : ∃ s1, strOfNums (pageL 1) = s1 := ⟨_, rfl⟩
  obtain ⟨s0, hs0⟩ : ∃ s0, strOfNums zeroP = s0 := ⟨_, rfl⟩
  have KS := Lib.hid (fun (w : World) (G : List HP) (H : Sat w (own 5 1 (.slice A7 1024 c7) 1024 (bytes (pageL 1)) :: own 5 1 (.slice A8 1024 c8) 1024 (bytes zeroP) :: G)) => show (convert 30 9 (.slice A7 1024 c7)).run Try.prog w = .ok (.string s1) w ∧ (convert 30 9 (.slice A8 1024 c8)).run Try.prog w = .ok (.string s0) w from ⟨hs1 ▸ conv_any H.own_at.1, hs0 ▸ conv_any H.tail.own_at.1⟩)
  have KC := Lib.hid (And.intro hs1 hs0)
  clear hs1 hs0
  have k0 := KS.out w8.drew _ H9.drew
  refine wp_region_held_drew (S := fun w' => (convert 30 9 (.slice A7 1024 c7)).run Try.prog w' = .ok (.string s1) w' ∧ (convert 30 9 (.slice A8 1024 c8)).run Try.prog w' = .ok (.string s0) w') (by kernel_rfl) k0 (fun hHeld => ?_)
  refine' wpAnyH_take (i := 0) (oi := _) (v := _) rfl (by kernel_rfl) (by kernel_rfl) (by kernel_rfl) (fun _ _ _ h => h) (Or.inl ⟨by rfl, ?hy0x1⟩) hHeld ?rest0x1
  case hy0x1 => (intro w' hSw; (try dsimp only at hSw); go_simp; try with_reducible rfl)
  simp only [List.getElem_toArray, List.getElem_cons_zero, List.getElem_cons_succ, Act.put, List.setIfInBounds_toArray, List.set_cons_zero, List.set_cons_succ]
  refine' wpAnyH_take (i := 1) (oi := _) (v := _) rfl (by kernel_rfl) (by kernel_rfl) (by kernel_rfl) (fun _ _ _ h => h) (Or.inl ⟨by rfl, ?hy1x2⟩) hHeld ?rest1x2
  case hy1x2 => (intro w' hSw; (try dsimp only at hSw); go_simp; try with_reducible rfl)
  simp only [List.getElem_toArray, List.getElem_cons_zero, List.getElem_cons_succ, Act.put, List.setIfInBounds_toArray, List.set_cons_zero, List.set_cons_succ]
  refine' wpAnyH_take (i := 2) (oi := _) (v := _) rfl (by kernel_rfl) (by kernel_rfl) (by kernel_rfl) (fun _ _ _ h => h) (Or.inl ⟨by rfl, ?hy2x3⟩) hHeld ?rest2x3
  case hy2x3 => (intro w' hSw; (try dsimp only at hSw); go_simp; try with_reducible rfl)
  simp only [List.getElem_toArray, List.getElem_cons_zero, List.getElem_cons_succ, Act.put, List.setIfInBounds_toArray, List.set_cons_zero, List.set_cons_succ]
  refine' wpAnyH_take (i := 3) (oi := _) (v := _) rfl (by kernel_rfl) (by kernel_rfl) (by kernel_rfl) (fun _ _ _ h => h) (Or.inl ⟨by rfl, ?hy3x4⟩) hHeld ?rest3x4
  case hy3x4 => (intro w' hSw; (try dsimp only at hSw); go_simp; try with_reducible rfl)
  simp only [List.getElem_toArray, List.getElem_cons_zero, List.getElem_cons_succ, Act.put, List.setIfInBounds_toArray, List.set_cons_zero, List.set_cons_succ]
  refine' wpAnyH_take (i := 4) (oi := _) (v := _) rfl (by kernel_rfl) (by kernel_rfl) (by kernel_rfl) (fun _ _ _ h => h) (Or.inl ⟨by rfl, ?hy4x5⟩) hHeld ?rest4x5
  case hy4x5 => (intro w' hSw; (try dsimp only at hSw); go_simp; try with_reducible rfl)
  simp only [List.getElem_toArray, List.getElem_cons_zero, List.getElem_cons_succ, Act.put, List.setIfInBounds_toArray, List.set_cons_zero, List.set_cons_succ]
  refine' wpAnyH_take (i := 5) (oi := _) (v := _) rfl (by kernel_rfl) (by kernel_rfl) (by kernel_rfl) (fun _ _ _ h => h) (Or.inl ⟨by rfl, ?hy5x6⟩) hHeld ?rest5x6
  case hy5x6 => (intro w' hSw; (try dsimp only at hSw); go_simp; try with_reducible rfl)
  simp only [List.getElem_toArray, List.getElem_cons_zero, List.getElem_cons_succ, Act.put, List.setIfInBounds_toArray, List.set_cons_zero, List.set_cons_succ]
  refine' wpAnyH_take (i := 6) (oi := _) (v := _) rfl (by kernel_rfl) (by kernel_rfl) (by kernel_rfl) (fun _ _ _ h => h) (Or.inl ⟨by rfl, ?hy6x7⟩) hHeld ?rest6x7
  case hy6x7 => (intro w' hSw; (try dsimp only at hSw); go_simp; try with_reducible rfl)
  simp only [List.getElem_toArray, List.getElem_cons_zero, List.getElem_cons_succ, Act.put, List.setIfInBounds_toArray, List.set_cons_zero, List.set_cons_succ]
  refine' wpAnyH_take (i := 7) (oi := _) (v := _) rfl (by kernel_rfl) (by kernel_rfl) (by kernel_rfl) (fun _ _ _ h => h) (Or.inl ⟨by rfl, ?hy7x8⟩) hHeld ?rest7x8
  case hy7x8 => (intro w' hSw; (try dsimp only at hSw); go_simp; try with_reducible rfl)
  simp only [List.getElem_toArray, List.getElem_cons_zero, List.getElem_cons_succ, Act.put, List.setIfInBounds_toArray, List.set_cons_zero, List.set_cons_succ]
  refine' wpAnyH_take (i := 8) (oi := _) (v := _) rfl (by kernel_rfl) (by kernel_rfl) (by kernel_rfl) (fun _ _ _ h => h) (Or.inl ⟨by rfl, ?hy8x9⟩) hHeld ?rest8x9
  case hy8x9 => (intro w' hSw; (try dsimp only at hSw); go_simp; try with_reducible rfl)
  simp only [List.getElem_toArray, List.getElem_cons_zero, List.getElem_cons_succ, Act.put, List.setIfInBounds_toArray, List.set_cons_zero, List.set_cons_succ]
  refine wpAnyH_ready (rs := [9]) (by kernel_rfl) (by simp) ?_
  refine AllReadyH.cons (o := _) rfl (fun K hK => ?_) AllReadyH.nil
  rw [if_pos (by rfl)]
  go_simp
  go_at_call 61
  refine (page5 1 H9.drew (by omega)).mono ?_
  rintro e w10 ⟨v10, rfl, H10, E10⟩
  obtain ⟨A10, c10, rfl, -, -, -⟩ := H10.own_form
  refine hK.out _ _ (KS.out _ _ H10.tail) (fun hHeld2 => ?_)
  clear hK K
  try simp only [List.getElem_toArray, List.getElem_cons_zero, List.getElem_cons_succ, Act.put, List.setIfInBounds_toArray, List.set_cons_zero, List.set_cons_succ]
  refine wpAnyH_ready (rs := [10]) (by kernel_rfl) (by simp) ?_
  refine AllReadyH.cons (o := _) rfl (fun K hK => ?_) AllReadyH.nil
  refine step_conv (by rfl) 30 9 (.tmp 55) rfl (.slice A10 1024 c10) (.string s1) rfl (KC.out.1 ▸ conv_any H10.own_at.1) ?_
  refine hK.out _ _ hHeld2 (fun hHeld3 => ?_)
  clear hK K
  try simp only [List.getElem_toArray, List.getElem_cons_zero, List.getElem_cons_succ, Act.put, List.setIfInBounds_toArray, List.set_cons_zero, List.set_cons_succ]
  refine' wpAnyH_take (i := 11) (oi := _) (v := _) rfl (by kernel_rfl) (by kernel_rfl) (by kernel_rfl) (fun _ _ _ h => h) (Or.inl ⟨by rfl, ?hy11x10⟩) hHeld3 ?rest11x10
  case hy11x10 => (intro w' hSw; (try dsimp only at hSw); go_simp; try with_reducible rfl)
  simp only [List.getElem_toArray, List.getElem_cons_zero, List.getElem_cons_succ, Act.put, List.setIfInBounds_toArray, List.set_cons_zero, List.set_cons_succ]
  refine' wpAnyH_take (i := 12) (oi := _) (v := _) rfl (by kernel_rfl) (by kernel_rfl) (by kernel_rfl) (fun _ _ _ h => h) (Or.inl ⟨by rfl, ?hy12x11⟩) hHeld3 ?rest12x11
  case hy12x11 => (intro w' hSw; (try dsimp only at hSw); go_simp; try with_reducible rfl)
  simp only [List.getElem_toArray, List.getElem_cons_zero, List.getElem_cons_succ, Act.put, List.setIfInBounds_toArray, List.set_cons_zero, List.set_cons_succ]
  refine' wpAnyH_take (i := 13) (oi := _) (v := _) rfl (by kernel_rfl) (by kernel_rfl) (by kernel_rfl) (fun _ _ _ h => h) (Or.inl ⟨by rfl, ?hy13x12⟩) hHeld3 ?rest13x12
  case hy13x12 => (intro w' hSw; (try dsimp only at hSw); go_simp; try with_reducible rfl)
  simp only [List.getElem_toArray, List.getElem_cons_zero, List.getElem_cons_succ, Act.put, List.setIfInBounds_toArray, List.set_cons_zero, List.set_cons_succ]
  refine' wpAnyH_take (i := 14) (oi := _) (v := _) rfl (by kernel_rfl) (by kernel_rfl) (by kernel_rfl) (fun _ _ _ h => h) (Or.inl ⟨by rfl, ?hy14x13⟩) hHeld3 ?rest14x13
  case hy14x13 => (intro w' hSw; (try dsimp only at hSw); go_simp; try with_reducible rfl)
  simp only [List.getElem_toArray, List.getElem_cons_zero, List.getElem_cons_succ, Act.put, List.setIfInBounds_toArray, List.set_cons_zero, List.set_cons_succ]
  refine' wpAnyH_take (i := 15) (oi := _) (v := _) rfl (by kernel_rfl) (by kernel_rfl) (by kernel_rfl) (fun _ _ _ h => h) (Or.inl ⟨by rfl, ?hy15x14⟩) hHeld3 ?rest15x14
  case hy15x14 => (intro w' hSw; (try dsimp only at hSw); go_simp; try with_reducible rfl)
  simp only [List.getElem_toArray, List.getElem_cons_zero, List.getElem_cons_succ, Act.put, List.setIfInBounds_toArray, List.set_cons_zero, List.set_cons_succ]
  refine wpAnyH_ready (rs := [16]) (by kernel_rfl) (by simp) ?_
  refine AllReadyH.cons (o := _) rfl (fun K hK => ?_) AllReadyH.nil
  refine step_makeg_sat (by rfl) _ _ 30 rfl H10 5 (.int .u8 0) 1 1 Try.underlying30 Try.info_byte _ _ 1024 rfl rfl (by omega) (by simp only [maxLen]; omega) ?_
  intro w11 H11 E11
  rw [made_byte] at H11
  refine hK.out _ _ (KS.out _ _ H11.tail.tail) (fun hHeld4 => ?_)
  clear hK K
  try simp only [List.getElem_toArray, List.getElem_cons_zero, List.getElem_cons_succ, Act.put, List.setIfInBounds_toArray, List.set_cons_zero, List.set_cons_succ]
  refine wpAnyH_ready (rs := [17]) (by kernel_rfl) (by simp) ?_
  refine AllReadyH.cons (o := _) rfl (fun K hK => ?_) AllReadyH.nil
  refine step_conv (by rfl) 30 9 (.tmp 62) rfl _ (.string s0) rfl (KC.out.2 ▸ conv_any H11.own_at.1) ?_
  refine hK.out _ _ hHeld4 (fun hHeld5 => ?_)
  clear hK K
  try simp only [List.getElem_toArray, List.getElem_cons_zero, List.getElem_cons_succ, Act.put, List.setIfInBounds_toArray, List.set_cons_zero, List.set_cons_succ]
  refine' wpAnyH_take (i := 18) (oi := _) (v := _) rfl (by kernel_rfl) (by kernel_rfl) (by kernel_rfl) (fun _ _ _ h => h) (Or.inl ⟨by rfl, ?hy18x15⟩) hHeld5 ?rest18x15
  case hy18x15 => (intro w' hSw; (try dsimp only at hSw); go_simp; try with_reducible rfl)
  simp only [List.getElem_toArray, List.getElem_cons_zero, List.getElem_cons_succ, Act.put, List.setIfInBounds_toArray, List.set_cons_zero, List.set_cons_succ]
  refine' wpAnyH_take (i := 19) (oi := _) (v := _) rfl (by kernel_rfl) (by kernel_rfl) (by kernel_rfl) (fun _ _ _ h => h) (Or.inl ⟨by rfl, ?hy19x16⟩) hHeld5 ?rest19x16
  case hy19x16 => (intro w' hSw; (try dsimp only at hSw); go_simp; try with_reducible rfl)
  simp only [List.getElem_toArray, List.getElem_cons_zero, List.getElem_cons_succ, Act.put, List.setIfInBounds_toArray, List.set_cons_zero, List.set_cons_succ]
  refine' wpAnyH_take (i := 20) (oi := _) (v := _) rfl (by kernel_rfl) (by kernel_rfl) (by kernel_rfl) (fun _ _ _ h => h) (Or.inl ⟨by rfl, ?hy20x17⟩) hHeld5 ?rest20x17
  case hy20x17 => (intro w' hSw; (try dsimp only at hSw); go_simp; try with_reducible rfl)
  simp only [List.getElem_toArray, List.getElem_cons_zero, List.getElem_cons_succ, Act.put, List.setIfInBounds_toArray, List.set_cons_zero, List.set_cons_succ]
  refine wpAnyH_done (by kernel_rfl) ?_ _
  have E12 := (E8'.drew.trans E10).trans E11
  have H12 := H11.tail.tail.tail.tail.tail.tail.tail.tail.tail.tail
  clear H9 H10 H11 E8' E10 E11 hHeld hHeld2 hHeld3 hHeld4 hHeld5 k0 KS KC
  go_wp2_with fail
  go_ret
  exact ⟨rfl, H12, E12⟩
end Go.Proofs.Ythbabdjicplooaa
