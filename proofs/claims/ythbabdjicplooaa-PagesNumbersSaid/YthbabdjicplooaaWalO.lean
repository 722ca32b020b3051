/- package wal: Open. Conditions: sectors' bytes are bytes; fewer than 8193 sectors. -/
import Derived.Test.YthbabdjicplooaaWalR
namespace Go.Proofs.Ythbabdjicplooaa
open Go.RowKit

theorem Sat.recB_snoc {w : World} {F : List HP} {R : List (Value × List Int)} {v : Value} {b : List Int} (H : Sat w (ownR v b :: recB R :: F)) : Sat w (recB (R ++ [(v, b)]) :: F) := by
  have H1 := H.b1.open_all
  refine Sat.shut_all ?_
  rw [List.map_append, List.append_assoc]
  exact H1
theorem Sat.recB_nil {w : World} {F : List HP} (H : Sat w F) : Sat w (recB [] :: F) := Sat.shut_all H

/-- The records that stand behind the log's own. -/
def openGo (D : Dsk) : Nat → LogV → LogV
  | 0, L => L
  | r + 1, L => match readD D L with
    | none => L
    | some b => openGo D r { L with next := L.next + partsN b.length, recs := L.recs ++ [b] }
def epD (D : Dsk) (fr : Nat) : Int := if (heldD D fr).2.2 = 0 then (heldD D fr).1 else (heldD D fr).2.1
def openD (D : Dsk) (fr ct : Nat) : Option LogV := if epD D fr = 0 then none else some (openGo D ct ⟨fr, ct, epD D fr, (heldD D fr).2.2, 0, []⟩)
theorem epochAt_range {b : List Int} (h : InB b) : 0 ≤ epochAt b ∧ epochAt b < 18446744073709551616 := by
  have := ofBE_range (h.take 8)
  have h8 : (256 : Int) ^ (b.take 8).length ≤ 18446744073709551616 := by
    have hl : (b.take 8).length ≤ 8 := by rw [List.length_take]; omega
    generalize (b.take 8).length = n at hl
    have : n = 0 ∨ n = 1 ∨ n = 2 ∨ n = 3 ∨ n = 4 ∨ n = 5 ∨ n = 6 ∨ n = 7 ∨ n = 8 := by omega
    rcases this with rfl | rfl | rfl | rfl | rfl | rfl | rfl | rfl | rfl <;> decide
  unfold epochAt
  split <;> omega
theorem epD_range {D : Dsk} (h : DB D) (fr : Nat) : 0 ≤ epD D fr ∧ epD D fr < 18446744073709551616 := by
  unfold epD heldD
  split
  · exact epochAt_range (h.rd _).1
  · exact epochAt_range (h.rd _).1
theorem slotD_lt (D : Dsk) (fr : Nat) : (heldD D fr).2.2 < 2 := by unfold heldD; simp only; split <;> omega
theorem readD_len {D : Dsk} {L : LogV} {b : List Int} (h : readD D L = some b) (hr : b.length ≤ roomL L) : L.next + partsN b.length + 2 ≤ L.count := by
  unfold readD at h
  split at h
  · cases h
  · unfold roomL at hr; unfold partsN; omega

def nextAt (p : Nat) (w : World) : Nat := match w.cell? ⟨p, 5, none⟩ with
  | some v => (intOf v).toNat
  | none => 0

set_option maxHeartbeats 8000000 in
set_option maxRecDepth 100000 in
theorem open_log {w : World} {d : Nat} {D : Dsk} {F : List HP} (fr ct : Nat) (H : Sat w (disk d D :: F)) (h1 : 4 ≤ ct) (hf : fr + ct ≤ D.safe.length) (h3 : D.safe.length ≤ 8192) (hb : DB D) :
    Calls Try.prog 50 #[.pointer (some ⟨d, 0, none⟩), .int .i64 fr, .int .i64 ct] w fun e w' =>
      (openD D fr ct = none ∧ e = .returned (.tuple #[.pointer none, .int .i64 13]) ∧ Sat w' (disk d D :: F) ∧ Env w w') ∨
      (∃ L p, openD D fr ct = some L ∧ e = .returned (.tuple #[.pointer (some ⟨p, 0, none⟩), .int .i64 0]) ∧ Sat w' (logc p d L :: disk d D :: F) ∧ Env w w') := by
  obtain ⟨R, hR⟩ : ∃ R, openD D fr ct = R := ⟨_, rfl⟩
  have HFT := Lib.hid (fits_yes fr ct H h1 hf h3)
  have HB := Lib.hid hb
  have HF := Lib.hid (show fr + ct ≤ D.safe.length ∧ D.safe.length ≤ 8192 ∧ 4 ≤ ct from ⟨hf, h3, h1⟩)
  have hct : ct ≤ 8192 := by omega
  have hfr : fr ≤ 8192 := by omega
  rw [hR]
  unfold openD at hR
  have hsl := slotD_lt D fr
  have her := epD_range hb fr
  clear hf h3 hb
  go_enter Try.func50, Try.ntmps50
  go_wp2_with fail
  refine HFT.out.mono ?_
  rintro e wx ⟨rfl, rfl⟩
  go_upto_region 4 with fail
  have H1 := (H.alloc (.cells #[.pointer (some ⟨d, 0, none⟩), .int .i64 fr, .int .i64 ct, .int .u64 0, .int .i64 0, .int .i64 0, .slice none 0 0] 135)).b1
  have E1 := (Env.refl w).alloc (.cells #[.pointer (some ⟨d, 0, none⟩), .int .i64 fr, .int .i64 ct, .int .u64 0, .int .i64 0, .int .i64 0, .slice none 0 0] 135)
  generalize w.alloc (.cells #[.pointer (some ⟨d, 0, none⟩), .int .i64 fr, .int .i64 ct, .int .u64 0, .int .i64 0, .int .i64 0, .slice none 0 0] 135) = w1 at *
  generalize w.heap.size = p at *
  clear H HFT
  go_wp2_with fail
  refine (held_any fr H1 (by have := HF.out; omega) HF.out.2.1 HB.out).mono ?_
  rintro e w2 ⟨rfl, H2, E2⟩
  have E2' := E1.trans E2
  clear H1 E1 E2
  have hepi : #[Value.int .u64 (heldD D fr).1, .int .u64 (heldD D fr).2.1][(heldD D fr).2.2]? = some (.int .u64 (epD D fr)) := by
    unfold epD
    have : (heldD D fr).2.2 = 0 ∨ (heldD D fr).2.2 = 1 := by omega
    rcases this with h | h <;> rw [h] <;> rfl
  have HEPI := Lib.hid hepi
  clear hepi
  generalize epD D fr = ep at *
  generalize (heldD D fr).2.2 = sl at *
  generalize (heldD D fr).1 = e0 at *
  generalize (heldD D fr).2.1 = e1 at *
  go_upto_region 5 with fail
  have H3 := (H2.alloc (.cells #[.int .u64 e0, .int .u64 e1] 139)).b2
  have E3 := E2'.alloc (.cells #[.int .u64 e0, .int .u64 e1] 139)
  generalize w2.alloc (.cells #[.int .u64 e0, .int .u64 e1] 139) = w3 at *
  generalize w2.heap.size = T at *
  have xT : w3.cell? ⟨T, sl, none⟩ = some (.int .u64 ep) := (H3.b1.cell sl).trans HEPI.out
  have x3 := H3.cell 3
  have f3 := H3.free 3
  have x4 := H3.cell 4
  have f4 := H3.free 4
  have hs0 : (0 : Int) ≤ (sl : Int) := by omega
  have hs2 : (sl : Int) < 2 := by omega
  go_upto_region 6 with fail
  have H4 := (H3.set (i := 3) (.int .u64 ep)).set (i := 4) (.int .i64 sl)
  have E4 := (E3.set ⟨p, 3, none⟩ (.int .u64 ep)).set ⟨p, 4, none⟩ (.int .i64 sl)
  generalize (w3.setCell ⟨p, 3, none⟩ (.int .u64 ep)).setCell ⟨p, 4, none⟩ (.int .i64 sl) = w4 at *
  replace H4 : Sat w4 (row p 135 #[.pointer (some ⟨d, 0, none⟩), .int .i64 fr, .int .i64 ct, .int .u64 ep, .int .i64 sl, .int .i64 (0 : Nat), .slice none 0 0] :: disk d D :: F) := H4.b1.tail
  clear H2 H3 E2' E3 xT x3 f3 x4 f4 hs0 hs2 HEPI
  have y3 := H4.cell 3
  by_cases hep : ep = 0
  · subst hep
    have HRR := Lib.hid (show R = none by rw [if_pos rfl] at hR; exact hR.symm)
    clear hR
    go_wp2_with fail
    go_ret2
    exact .inl ⟨HRR.out, rfl, H4.tail, E4⟩
  · rw [if_neg hep] at hR
    have H5 : Sat w4 (logc p d ⟨fr, ct, ep, sl, 0, []⟩ :: disk d D :: F) := Sat.log_shut ⟨fr, ct, ep, sl, 0, []⟩ (.slice none 0 0) [] rfl ((H4.recB_nil.b1.own_nil 30 1).b1)
    have HG0 : Hid (LogOk ⟨fr, ct, ep, sl, 0, []⟩ ∧ ∃ r, some (openGo D r ⟨fr, ct, ep, sl, 0, []⟩) = R ∧ ct - 0 ≤ r) := Lib.hid ⟨⟨by have := HF.out; show fr + ct ≤ 8192; omega, by simp, by simp, her⟩, ct, hR, by omega⟩
    have hepb : (ep == 0) = false := by simp [hep]
    clear hR H4 hep
    go_upto_region 8 with fail
    clear y3
    go_loopw [] (fun wr => ∃ L : LogV, Hid (LogOk L ∧ L.count = ct ∧ L.from_ = fr ∧ L.recs.length ≤ L.next ∧ L.next ≤ ct ∧ ∃ r, some (openGo D r L) = R ∧ ct - L.next ≤ r) ∧ Sat wr (logc p d L :: disk d D :: F) ∧ Env w wr) (fun wr => ct - nextAt p wr)
    case atStart => exact ⟨⟨fr, ct, ep, sl, 0, []⟩, Lib.hid ⟨HG0.out.1, rfl, rfl, by simp, by simp, HG0.out.2⟩, H5, E4⟩
    case round =>
      clear H5 E4 HG0
      obtain ⟨L, hL, H5, E5⟩ := hrel
      have hmu : nextAt p wr = L.next := by unfold nextAt; rw [H5.log_cells.2.2.2.2.2.1]; simp [intOf]
      rw [hmu]
      clear hmu
      go_wp2_with fail
      refine (read_log H5 hL.out.1 (by rw [hL.out.2.1, hL.out.2.2.1]; exact HF.out.1) HF.out.2.1 HB.out).mono ?_
      rintro e w6 (⟨hr, rfl, H6, E6⟩ | ⟨b, c, hr, hb0, hbr, rfl, H6, E6⟩)
      · have HRR := Lib.hid (show R = some L by
          obtain ⟨-, -, -, -, -, r, h, -⟩ := hL.out
          rw [← h]
          cases r with
          | zero => rfl
          | succ r => unfold openGo; rw [hr])
        clear hr hL
        have E6' := E5.trans E6
        clear H5 E5 E6
        go_wp2_with fail
        go_ret2
        exact .inr ⟨L, p, HRR.out, rfl, H6, E6'⟩
      · obtain ⟨n, hn⟩ : ∃ n, b.length = n := ⟨_, rfl⟩
        have hlen := readD_len hr hbr
        rw [hn] at hb0 hbr hlen H6 ⊢
        have hnr : n < 1000000 := by unfold roomL at hbr; have := hL.out.2.1; omega
        have HN := Lib.hid (show b.length = n ∧ readD D L = some b ∧ L.next + partsN n + 2 ≤ L.count from ⟨hn, hr, hlen⟩)
        have E6' := E5.trans E6
        obtain ⟨v, RR, hRR, H7⟩ := H6.b1.log_open
        obtain ⟨m, hm⟩ : ∃ m, RR.length = m := ⟨_, rfl⟩
        have hml : m ≤ 8192 := by have := hL.out.1.recs; rw [← hRR.out, List.length_map, hm] at this; exact this
        have HM := Lib.hid hm
        rw [hm] at H7
        obtain ⟨A7, c7, rfl, -, -, -⟩ := H7.b1.own_form
        have x6 := H7.cell 6
        have f6 := H7.free 6
        clear hn hr hlen hbr H5 H6 E5 E6 hm
        go_upto_region 12 with (at_builtin; go_must (refine wpList_append_sat rfl (.tmp 56) (.tmp 58) 39 rfl (H7.b1.alloc' _) rfl _ 24 Try.underlying39 Try.info_bytes rfl (by omega) _ _ _ [.slice c n n] rfl (fun h => by cases h) rfl (lit_src _ _ _ _ rfl) (by simp [Value.oneCell']) (by simp only [maxLen]; omega) (by omega) ?_); intro v8 w8 H8 E8; obtain ⟨A8, c8, rfl, -, -, -⟩ := H8.own_form; have y6 := H8.b1.cell 6; have g6 := H8.b1.free 6)
        have H9 := H8.b1.set (i := 6) (.slice A8 (m + 1) c8)
        have E9 := ((E6'.alloc (.cells #[.slice c n n] 30)).trans E8).set ⟨p, 6, none⟩ (.slice A8 (m + 1) c8)
        generalize w8.setCell ⟨p, 6, none⟩ (.slice A8 (m + 1) c8) = w9 at *
        replace H9 : Sat w9 (row p 135 #[.pointer (some ⟨d, 0, none⟩), .int .i64 L.from_, .int .i64 L.count, .int .u64 L.epoch, .int .i64 L.slot, .int .i64 L.next, .slice A8 (m + 1) c8] :: own 30 1 (.slice A8 (m + 1) c8) (m + 1) (RR.map (·.1) ++ [.slice c n n]) :: recB RR :: ownR (.slice c n n) b :: disk d D :: F) := H9
        obtain ⟨nx, hnx⟩ : ∃ nx, L.next = nx := ⟨_, rfl⟩
        have HNX := Lib.hid hnx
        rw [hnx] at H9
        have z5 : w9.drew.cell? ⟨p, 5, none⟩ = some (.int .i64 nx) := H9.drew.cell 5
        have hpn : IntKind.i64.wrap ((nx : Int) + (partsN n : Int)) = ((nx + partsN n : Nat) : Int) := by
          have := HN.out.2.2; have := hL.out.2.1
          rw [IntWalk.i64_in _ (by omega)]; omega
        clear H7 H8 E8 E6' x6 f6 y6 g6 hnx
        refine region_aside2 (fun w' => w'.cell? ⟨p, 5, none⟩ = some (.int .i64 nx)) 10 _ (by kernel_rfl) rfl rfl rfl (by kernel_rfl) (by kernel_rfl) z5 (fun hHeld => ?_)
        simp only [setAside, List.setIfInBounds_toArray, List.set_cons_zero, List.set_cons_succ]
        refine' wpAnyH_take (i := 0) (oi := _) (v := _) rfl (by kernel_rfl) (by kernel_rfl) (by kernel_rfl) (fun _ _ _ h => h) (Or.inl ⟨by rfl, ?hy0⟩) hHeld ?rest0
        case hy0 => (intro w' hSw; (try dsimp only at hSw); go_simp; try with_reducible rfl)
        simp only [List.getElem_toArray, List.getElem_cons_zero, List.getElem_cons_succ, Act.put, List.setIfInBounds_toArray, List.set_cons_zero, List.set_cons_succ]
        refine' wpAnyH_take (i := 1) (oi := _) (v := _) rfl (by kernel_rfl) (by kernel_rfl) (by kernel_rfl) (fun _ _ _ h => h) (Or.inl ⟨by rfl, ?hy1⟩) hHeld ?rest1
        case hy1 => (intro w' hSw; (try dsimp only at hSw); go_simp; try with_reducible rfl)
        simp only [List.getElem_toArray, List.getElem_cons_zero, List.getElem_cons_succ, Act.put, List.setIfInBounds_toArray, List.set_cons_zero, List.set_cons_succ]
        refine' wpAnyH_take (i := 2) (oi := _) (v := _) rfl (by kernel_rfl) (by kernel_rfl) (by kernel_rfl) (fun _ _ _ h => h) (Or.inl ⟨by rfl, ?hy2⟩) hHeld ?rest2
        case hy2 => (intro w' hSw; (try dsimp only at hSw); go_simp; try with_reducible rfl)
        simp only [List.getElem_toArray, List.getElem_cons_zero, List.getElem_cons_succ, Act.put, List.setIfInBounds_toArray, List.set_cons_zero, List.set_cons_succ]
        refine' wpAnyH_take (i := 3) (oi := _) (v := _) rfl (by kernel_rfl) (by kernel_rfl) (by kernel_rfl) (fun _ _ _ h => h) (Or.inl ⟨by rfl, ?hy3⟩) hHeld ?rest3
        case hy3 => (intro w' hSw; (try dsimp only at hSw); go_simp; try with_reducible rfl)
        simp only [List.getElem_toArray, List.getElem_cons_zero, List.getElem_cons_succ, Act.put, List.setIfInBounds_toArray, List.set_cons_zero, List.set_cons_succ]
        refine' wpAnyH_take (i := 4) (oi := _) (v := _) rfl (by kernel_rfl) (by kernel_rfl) (by kernel_rfl) (fun _ _ _ h => h) (Or.inl ⟨by rfl, ?hy4⟩) hHeld ?rest4
        case hy4 => (intro w' hSw; (try dsimp only at hSw); go_simp; try with_reducible rfl)
        simp only [List.getElem_toArray, List.getElem_cons_zero, List.getElem_cons_succ, Act.put, List.setIfInBounds_toArray, List.set_cons_zero, List.set_cons_succ]
        refine' wpAnyH_take (i := 5) (oi := _) (v := _) rfl (by kernel_rfl) (by kernel_rfl) (by kernel_rfl) (fun _ _ _ h => h) (Or.inl ⟨by rfl, ?hy5⟩) hHeld ?rest5
        case hy5 => (intro w' hSw; (try dsimp only at hSw); go_simp; try with_reducible rfl)
        simp only [List.getElem_toArray, List.getElem_cons_zero, List.getElem_cons_succ, Act.put, List.setIfInBounds_toArray, List.set_cons_zero, List.set_cons_succ]
        refine wpAnyH_ready (rs := [6]) (by kernel_rfl) (by simp) ?_
        refine AllReadyH.cons (o := _) rfl (fun K hK => ?_) AllReadyH.nil
        rw [if_pos (by rfl)]
        go_simp
        go_at_call 80
        refine (parts_any n _ (by omega)).mono ?_
        rintro e w' ⟨rfl, rfl⟩
        refine hK.out _ _ z5 (fun hHeld2 => ?_)
        clear hK K
        try simp only [List.getElem_toArray, List.getElem_cons_zero, List.getElem_cons_succ, Act.put, List.setIfInBounds_toArray, List.set_cons_zero, List.set_cons_succ]
        refine' wpAnyH_take (i := 7) (oi := _) (v := _) rfl (by kernel_rfl) (by kernel_rfl) (by kernel_rfl) (fun _ _ _ h => h) (Or.inl ⟨by rfl, ?hy7⟩) hHeld2 ?rest7
        case hy7 => (intro w' hSw; (try dsimp only at hSw); (try rw [hpn]); go_simp; try with_reducible rfl)
        simp only [List.getElem_toArray, List.getElem_cons_zero, List.getElem_cons_succ, Act.put, List.setIfInBounds_toArray, List.set_cons_zero, List.set_cons_succ]
        refine' wpAnyH_take (i := 8) (oi := _) (v := _) rfl (by kernel_rfl) (by kernel_rfl) (by kernel_rfl) (fun _ _ _ h => h) (Or.inl ⟨by rfl, ?hy8⟩) hHeld2 ?rest8
        case hy8 => (intro w' hSw; (try dsimp only at hSw); (try rw [hpn]); go_simp; try with_reducible rfl)
        simp only [List.getElem_toArray, List.getElem_cons_zero, List.getElem_cons_succ, Act.put, List.setIfInBounds_toArray, List.set_cons_zero, List.set_cons_succ]
        refine' wpAnyH_take (i := 9) (oi := _) (v := _) rfl (by kernel_rfl) (by kernel_rfl) (by kernel_rfl) (fun _ _ _ h => h) (Or.inl ⟨by rfl, ?hy9⟩) hHeld2 ?rest9
        case hy9 => (intro w' hSw; (try dsimp only at hSw); (try rw [hpn]); go_simp; try with_reducible rfl)
        simp only [List.getElem_toArray, List.getElem_cons_zero, List.getElem_cons_succ, Act.put, List.setIfInBounds_toArray, List.set_cons_zero, List.set_cons_succ]
        refine' wpAnyH_take (i := 10) (oi := _) (v := _) rfl (by kernel_rfl) (by kernel_rfl) (by kernel_rfl) (fun _ _ _ h => h) (Or.inl ⟨by rfl, ?hy10⟩) hHeld2 ?rest10
        case hy10 => (intro w' hSw; (try dsimp only at hSw); go_simp; try with_reducible rfl)
        try simp only [List.getElem_toArray, List.getElem_cons_zero, List.getElem_cons_succ, Act.put, List.setIfInBounds_toArray, List.set_cons_zero, List.set_cons_succ]
        refine wpAnyH_done (by kernel_rfl) ?_ _
        show Oper.wp _ _ _ _ _ _
        have E10 := (E9.set ⟨p, 5, none⟩ (.int .i64 ((nx : Int) + (partsN n : Int)))).drew
        have H10 := (H9.set (i := 5) (.int .i64 ((nx : Int) + (partsN n : Int)))).drew
        have k5 := H9.drew.cell 5
        have g5 := H9.drew.free 5
        go_simp
        generalize (w9.setCell ⟨p, 5, none⟩ (.int .i64 ((nx : Int) + (partsN n : Int)))).drew = w10 at *
        replace H10 : Sat w10 (row p 135 #[.pointer (some ⟨d, 0, none⟩), .int .i64 L.from_, .int .i64 L.count, .int .u64 L.epoch, .int .i64 L.slot, .int .i64 ((nx : Int) + (partsN n : Int)), .slice A8 (m + 1) c8] :: own 30 1 (.slice A8 (m + 1) c8) (m + 1) (RR.map (·.1) ++ [.slice c n n]) :: recB RR :: ownR (.slice c n n) b :: disk d D :: F) := H10
        have H11 : Sat w10 (logc p d { L with next := L.next + partsN b.length, recs := L.recs ++ [b] } :: disk d D :: F) := Sat.log_shut _ (.slice A8 (m + 1) c8) (RR ++ [(.slice c n n, b)]) (by rw [List.map_append, hRR.out]; rfl) (by
          rw [List.length_append, HM.out, List.map_append]
          show Sat w10 (row p 135 #[.pointer (some ⟨d, 0, none⟩), .int .i64 L.from_, .int .i64 L.count, .int .u64 L.epoch, .int .i64 L.slot, .int .i64 ((L.next + partsN b.length : Nat) : Int), .slice A8 (m + 1) c8] :: own 30 1 (.slice A8 (m + 1) c8) (m + 1) (RR.map (·.1) ++ [.slice c n n]) :: recB (RR ++ [(.slice c n n, b)]) :: disk d D :: F)
          rw [HN.out.1, HNX.out, Int.natCast_add]
          exact (H10.b2.b3.recB_snoc).b2.b2)
        have HL2 := Lib.hid (show LogOk { L with next := L.next + partsN b.length, recs := L.recs ++ [b] } ∧ L.count = ct ∧ L.from_ = fr ∧ (L.recs ++ [b]).length ≤ L.next + partsN b.length ∧ L.next + partsN b.length ≤ ct ∧ ∃ r, some (openGo D r { L with next := L.next + partsN b.length, recs := L.recs ++ [b] }) = R ∧ ct - (L.next + partsN b.length) ≤ r from by
          obtain ⟨h1, h2, h3, h4, h5, r, h6, h7⟩ := hL.out
          have h8 := HN.out.2.2
          rw [HN.out.1]
          have hp1 : 1 ≤ partsN n := by unfold partsN; omega
          refine ⟨⟨h1.far, by show L.next + partsN n ≤ 8192; omega, by show (L.recs ++ [b]).length ≤ 8192; rw [List.length_append, List.length_singleton]; omega, h1.ep⟩, h2, h3, by rw [List.length_append, List.length_singleton]; omega, by omega, ?_⟩
          cases r with
          | zero => omega
          | succ r =>
            unfold openGo at h6
            rw [HN.out.2.1] at h6
            simp only [HN.out.1] at h6
            exact ⟨r, h6, by omega⟩)
        have hmu : nextAt p w10 = nx + partsN n := by unfold nextAt; rw [H11.log_cells.2.2.2.2.2.1]; simp [intOf, HN.out.1, HNX.out]; omega
        have hme : ct - (nx + partsN n) < ct - nx := by have := HN.out.2.2; have := hL.out.2.1; rw [HNX.out] at *; unfold partsN at *; omega
        have HME := Lib.hid hme
        have HMU := Lib.hid hmu
        clear hme hmu k5 g5 z5 H9 E9 H10 hpn hHeld hHeld2
        go_wp2_with fail
        go_roundw
        case rel => exact ⟨{ L with next := L.next + partsN b.length, recs := L.recs ++ [b] }, HL2, H11, E10⟩
        case measure => rw [HMU.out, HNX.out]; exact HME.out
end Go.Proofs.Ythbabdjicplooaa
