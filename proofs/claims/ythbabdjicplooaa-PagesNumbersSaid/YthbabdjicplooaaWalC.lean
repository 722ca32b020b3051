/- package wal: Clear, Records. Conditions: fewer than 8193 sectors. -/
import Derived.Test.YthbabdjicplooaaWalO
import Derived.Test.YthbabdjicplooaaBookBaseG
namespace Go.Proofs.Ythbabdjicplooaa
open Go.RowKit

def clearD (D : Dsk) (L : LogV) : Int × Dsk := safeD D (L.from_ + (1 - L.slot)) (headL (L.epoch + 1))
def clearL (L : LogV) : LogV := { L with epoch := L.epoch + 1, slot := 1 - L.slot, next := 0, recs := [] }

set_option maxHeartbeats 8000000 in
set_option maxRecDepth 100000 in
theorem clear_log {w : World} {p d : Nat} {L : LogV} {D : Dsk} {F : List HP} (H : Sat w (logc p d L :: disk d D :: F)) (hL : LogOk L) (hs : L.slot < 2) (he : L.epoch + 1 < 18446744073709551616) (hf : L.from_ + 1 < D.safe.length) (hp : D.pend.length < 4294967295) :
    Calls Try.prog 53 #[.pointer (some ⟨p, 0, none⟩)] w fun e w' => e = .returned (.int .i64 (clearD D L).1) ∧ Sat w' (logc p d (if (clearD D L).1 = 0 then clearL L else L) :: disk d (clearD D L).2 :: F) ∧ Env w w' := by
  obtain ⟨fr, ct, ep, sl, nx, rs⟩ := L
  have h0 := hL.ep
  have h1 := hL.far
  simp only at h0 h1 hs he hf
  have hw1 : IntKind.i64.wrap (1 - (sl : Int)) = ((1 - sl : Nat) : Int) := by rw [IntWalk.i64_in _ (by omega)]; omega
  have hw2 : IntKind.i64.wrap ((fr : Int) + ((1 - sl : Nat) : Int)) = ((fr + (1 - sl) : Nat) : Int) := by rw [IntWalk.i64_in _ (by omega)]; omega
  have hw3 : IntKind.u64.wrap (ep + 1) = ep + 1 := by rw [IntKind.wrap_u64]; omega
  have HE := Lib.hid (show 0 ≤ ep + 1 ∧ ep + 1 < 18446744073709551616 by omega)
  have HN := Lib.hid (show fr + (1 - sl) < D.safe.length by omega)
  obtain ⟨x0, x1, -, x3, x4, -, -⟩ := H.log_cells
  simp only at x0 x1 x3 x4
  obtain ⟨⟨a, D'⟩, hR⟩ : ∃ R, clearD D ⟨fr, ct, ep, sl, nx, rs⟩ = R := ⟨_, rfl⟩
  rw [hR]
  have hR2 : safeD D (fr + (1 - sl)) (headL (ep + 1)) = (a, D') := hR
  clear hR
  dsimp only
  generalize hs1 : 1 - sl = s1 at *
  have HR := Lib.hid hR2
  clear he hf h0 h1 hL hR2
  go_enter Try.func53, Try.ntmps53
  go_upto_region 2 with fail
  go_region_held3 (fun w' => w'.cell? ⟨p, 0, none⟩ = some (.pointer (some ⟨d, 0, none⟩)) ∧ w'.cell? ⟨p, 1, none⟩ = some (.int .i64 fr) ∧ w'.cell? ⟨p, 3, none⟩ = some (.int .u64 ep)) (first | exact ⟨x0, x1, x3⟩ | exact ⟨H4.b1.log_cells.1, H4.b1.log_cells.2.1, H4.b1.log_cells.2.2.2.1⟩ | exact ⟨H5.b2.log_cells.1, H5.b2.log_cells.2.1, H5.b2.log_cells.2.2.2.1⟩) (first
    | (go_at_call 89; refine (head_any (ep + 1) H.drew HE.out).mono ?_; rintro e w4 ⟨g4, rfl, H4, E4⟩)
    | (go_at_call 88; refine (safe_any (fr + s1) (some ⟨g4, 0, none⟩) 128 (headL (ep + 1)) H4.b2 (fun w h => h.own_at.1) HN.out hp).mono ?_; rintro e w5 ⟨rfl, H5, E5⟩))
  rw [HR.out] at H5
  rw [HR.out]
  have H6 := H5.b1.tail.b1
  have E6 := ((Env.refl w).drew.trans E4).trans E5
  have hs1' := Lib.hid hs1
  dsimp only at H6 ⊢
  clear H4 H5 E4 E5 H x0 x1 x3 x4 HN HE hw1 hw2 hs1
  by_cases ha0 : a = 0
  · subst ha0
    obtain ⟨v, RR, hRR, H7⟩ := H6.log_open
    obtain ⟨A7, c7, rfl, -, -, -⟩ := H7.b1.own_form
    have y3 := H7.cell 3
    have y4 := H7.cell 4
    have y5 := H7.cell 5
    have y6 := H7.cell 6
    have f3 := H7.free 3
    have f4 := H7.free 4
    have f5 := H7.free 5
    have f6 := H7.free 6
    clear H6
    go_wp2_with fail
    go_ret
    have H8 := (((H7.set (i := 3) (.int .u64 (ep + 1))).set (i := 4) (.int .i64 s1)).set (i := 5) (.int .i64 0)).set (i := 6) (.slice none 0 0)
    have H9 := (H8.b1.tail.b1.tail.recB_nil.b1.own_nil 30 1).b1
    refine ⟨rfl, ?_, (((E6.set ⟨p, 3, none⟩ (.int .u64 (ep + 1))).set ⟨p, 4, none⟩ (.int .i64 s1)).set ⟨p, 5, none⟩ (.int .i64 0)).set ⟨p, 6, none⟩ (.slice none 0 0)⟩
    refine Sat.log_shut _ (.slice none 0 0) [] rfl ?_
    show Sat _ (row p 135 #[.pointer (some ⟨d, 0, none⟩), .int .i64 fr, .int .i64 ct, .int .u64 (ep + 1), .int .i64 ((1 - sl : Nat) : Int), .int .i64 0, .slice none 0 0] :: own 30 1 (.slice none 0 0) 0 [] :: recB [] :: disk d D' :: F)
    rw [hs1'.out]
    exact H9
  · have hab : (a == 0) = false := by simp [ha0]
    go_wp2_with fail
    go_ret
    exact ⟨rfl, H6, E6⟩

/-- Lists of bytes, each its own. -/
def ownB (R : List (Value × List Int)) : HP := all (R.map fun p => own 5 1 p.1 p.2.length (bytes p.2))
theorem Sat.ownB_snoc {w : World} {F : List HP} {R : List (Value × List Int)} {v : Value} {b : List Int} (H : Sat w (own 5 1 v b.length (bytes b) :: ownB R :: F)) : Sat w (ownB (R ++ [(v, b)]) :: F) := by
  have H1 := H.b1.open_all
  refine Sat.shut_all ?_
  rw [List.map_append, List.append_assoc]
  exact H1
theorem Sat.ownB_nil {w : World} {F : List HP} (H : Sat w F) : Sat w (ownB [] :: F) := Sat.shut_all H
theorem Sat.recB_at {w : World} {F : List HP} {R : List (Value × List Int)} {q : Value × List Int} (H : Sat w (recB R :: F)) (hq : q ∈ R) : ∃ A c, q.1 = .slice A q.2.length c ∧ q.2.length ≤ c ∧ Rd w 1 A q.2.length (bytes q.2) :=
  (H.all_at (List.mem_map.2 ⟨q, hq, rfl⟩)).ownR_rd
theorem Sat.ownB_at {w : World} {F : List HP} {R : List (Value × List Int)} {q : Value × List Int} (H : Sat w (ownB R :: F)) (hq : q ∈ R) : ∃ A c, q.1 = .slice A q.2.length c ∧ q.2.length ≤ c ∧ Rd w 1 A q.2.length (bytes q.2) := by
  have H1 := H.all_at (List.mem_map.2 ⟨q, hq, rfl⟩)
  obtain ⟨A, c, h, -, -, -⟩ := H1.own_form
  have H2 := H1
  rw [h] at H2
  exact ⟨A, c, h, H2.own_at.2.2, H2.own_at.1⟩
/-- A list of lists of bytes, its own. -/
def recL (v : Value) (l : List (List Int)) : HP := ex fun R : List (Value × List Int) => all [fact (R.map (·.2) = l), own 30 1 v R.length (R.map (·.1)), ownB R]
theorem Sat.recL_open {w : World} {v : Value} {l : List (List Int)} {F : List HP} (H : Sat w (recL v l :: F)) : ∃ R : List (Value × List Int), R.map (·.2) = l ∧ Sat w (own 30 1 v R.length (R.map (·.1)) :: ownB R :: F) := by
  obtain ⟨R, H⟩ := H.open_ex
  have H := H.open_all
  exact ⟨R, Sat.get_fact H, H.tail⟩
theorem Sat.recL_shut {w : World} {v : Value} {l : List (List Int)} {F : List HP} (R : List (Value × List Int)) (h : R.map (·.2) = l) (H : Sat w (own 30 1 v R.length (R.map (·.1)) :: ownB R :: F)) : Sat w (recL v l :: F) :=
  Sat.shut_ex (f := fun R : List (Value × List Int) => all [fact (R.map (·.2) = l), own 30 1 v R.length (R.map (·.1)), ownB R]) R (Sat.shut_all (L := [_, _, _]) (Sat.put_fact H h))

set_option maxHeartbeats 8000000 in
set_option maxRecDepth 100000 in
/-- Records: new memory, each. -/
theorem records_log {w : World} {p d : Nat} {L : LogV} {F : List HP} (H : Sat w (logc p d L :: F)) (hL : LogOk L) (hb : ∀ b ∈ L.recs, b.length < 4294967296) :
    Calls Try.prog 48 #[.pointer (some ⟨p, 0, none⟩)] w fun e w' => ∃ v, e = .returned v ∧ Sat w' (recL v L.recs :: logc p d L :: F) ∧ Env w w' := by
  obtain ⟨v, RR, hRR, H1⟩ := H.log_open
  obtain ⟨m, hm⟩ : ∃ m, RR.length = m := ⟨_, rfl⟩
  have hml : m ≤ 8192 := by have := hL.recs; rw [← hRR.out, List.length_map, hm] at this; exact this
  have HM := Lib.hid (show RR.length = m ∧ ∀ q ∈ RR, q.2.length < 4294967296 from ⟨hm, fun q hq => hb _ (by rw [← hRR.out]; exact List.mem_map.2 ⟨q, hq, rfl⟩)⟩)
  rw [hm] at H1
  obtain ⟨A7, c7, rfl, -, -, -⟩ := H1.b1.own_form
  have x6 := H1.cell 6
  clear hm hL hb H
  go_enter Try.func48, Try.ntmps48
  go_wp2_with fail
  go_loopw [3, 11] (fun s3 i wr => ∃ (k : Nat) (Q : List (Value × List Int)), k ≤ m ∧ i = .int .i64 k ∧ Hid (Q.map (·.2) = (RR.map (·.2)).take k ∧ Q.length = k) ∧ Sat wr (own 30 1 s3 k (Q.map (·.1)) :: ownB Q :: row p 135 #[.pointer (some ⟨d, 0, none⟩), .int .i64 L.from_, .int .i64 L.count, .int .u64 L.epoch, .int .i64 L.slot, .int .i64 L.next, .slice A7 m c7] :: own 30 1 (.slice A7 m c7) m (RR.map (·.1)) :: recB RR :: F) ∧ Env w wr) (fun _ i _ => m - (intOf i).toNat)
  case atStart => exact ⟨0, [], by omega, rfl, Lib.hid ⟨by simp, rfl⟩, H1.ownB_nil.own_nil _ 1, Env.refl w⟩
  case round =>
    clear H1 x6
    obtain ⟨k, Q, hk, rfl, hQ, H2, E2⟩ := hrel
    obtain ⟨A3, c3, rfl, -, -, -⟩ := H2.own_form
    by_cases hlt : k < m
    · obtain ⟨g7, cg, hA, -⟩ := H2.b3.own_addr (by omega)
      injection hA with hA1 _ hA3
      subst hA1
      clear hA3 cg
      have hkl : k < RR.length := by rw [HM.out.1]; exact hlt
      obtain ⟨q, hq⟩ : ∃ q, RR[k] = q := ⟨_, rfl⟩
      have HQ := Lib.hid (show RR[k]? = some q by rw [List.getElem?_eq_getElem hkl, hq])
      have hqm : q ∈ RR := hq ▸ List.getElem_mem hkl
      obtain ⟨qv, qb⟩ := q
      obtain ⟨A4, c4, h4, hc4, HR4⟩ := H2.b4.recB_at hqm
      simp only at h4 hc4 HR4
      subst h4
      obtain ⟨n, hn⟩ : ∃ n, qb.length = n := ⟨_, rfl⟩
      have hnn : n < 4294967296 := by have := HM.out.2 _ hqm; simp only at this; omega
      have HN := Lib.hid hn
      rw [hn] at HQ hc4 HR4
      have HRR4 := Lib.hid HR4
      have xk : wr.cell? ⟨g7, k, none⟩ = some (.slice A4 n c4) := H2.b3.own_cell k _ (by rw [List.getElem?_map, HQ.out]; rfl)
      clear hkl hq hqm hn HR4
      go_wp2_with fail
      refine (clone_byte A4 n c4 (bytes qb) H2 HRR4.out (bytes_one _) (by omega)).mono ?_
      rintro e w5 ⟨v5, rfl, H5, E5⟩
      obtain ⟨A5, c5, rfl, -, -, -⟩ := H5.own_form
      have E5' := E2.trans E5
      clear H2 E2 E5 xk
      go_wp2_with (at_builtin; go_must (refine wpList_append_sat rfl (.tmp 15) (.tmp 18) 39 rfl (H5.b1.alloc' _) rfl _ 24 Try.underlying39 Try.info_bytes rfl (by omega) _ _ _ [.slice A5 n c5] rfl (fun h => by cases h) rfl (lit_src _ _ _ _ rfl) (by simp [Value.oneCell']) (by simp only [maxLen]; omega) (by omega) ?_); intro v8 w8 H8 E8; obtain ⟨A8, c8, rfl, -, -, -⟩ := H8.own_form)
      have E8' := (E5'.alloc (.cells #[.slice A5 n c5] 30)).trans E8
      have H9 := H8.b2.b2
      rw [← HN.out] at H9
      have H10 := H9.ownB_snoc.b1
      rw [HN.out] at H10
      have HQ2 := Lib.hid (show (Q ++ [((Value.slice A5 n c5, qb) : Value × List Int)]).map (·.2) = (RR.map (·.2)).take (k + 1) ∧ (Q ++ [((Value.slice A5 n c5, qb) : Value × List Int)]).length = k + 1 from by
        refine ⟨?_, by rw [List.length_append, hQ.out.2]; rfl⟩
        rw [List.map_append, hQ.out.1, List.take_add_one, List.getElem?_map, HQ.out]; rfl)
      rw [show Q.map (·.1) ++ [Value.slice A5 n c5] = (Q ++ [((Value.slice A5 n c5, qb) : Value × List Int)]).map (·.1) by rw [List.map_append]; rfl] at H10
      clear H5 H8 H9 E5' E8
      go_wp2_with fail
      go_roundw
      case rel => exact ⟨k + 1, Q ++ [((Value.slice A5 n c5, qb) : Value × List Int)], by omega, by go_num, HQ2, H10, E8'⟩
      case measure => simp [intOf]; omega
    · obtain rfl : k = m := by omega
      have HQ2 := Lib.hid (show Q.map (·.2) = L.recs by rw [hQ.out.1, ← hRR.out, List.take_of_length_le]; rw [List.length_map, HM.out.1]; exact Nat.le_refl _)
      rw [← hQ.out.2] at H2
      have H3 := (Sat.recL_shut Q HQ2.out (by rw [hQ.out.2] at H2 ⊢; exact H2)).b3.b3.b3
      rw [← HM.out.1] at H3
      have H4 := (Sat.log_shut L _ RR hRR.out H3).b1
      rw [HM.out.1] at H4
      clear H2 H3
      go_wp2_with fail
      go_ret
      exact ⟨_, rfl, H4, E2⟩
end Go.Proofs.Ythbabdjicplooaa
