/- package wal: fits, safe, held, blank. Conditions: sectors' bytes are bytes; fewer than 2^32 pending writes. -/
import Derived.Test.YthbabdjicplooaaWalL
import Derived.Test.YthbabdjicplooaaPlaysLibG
namespace Go.Proofs.Ythbabdjicplooaa
open Go.RowKit

set_option maxHeartbeats 2000000 in
theorem fits_yes {w : World} {d : Nat} {D : Dsk} {F : List HP} (fr ct : Nat) (H : Sat w (disk d D :: F)) (h1 : 4 ≤ ct) (h2 : fr + ct ≤ D.safe.length) (h3 : D.safe.length ≤ 8192) :
    Calls Try.prog 85 #[.pointer (some ⟨d, 0, none⟩), .int .i64 fr, .int .i64 ct] w fun e w' => e = .returned (.bool true) ∧ w = w' := by
  have HS := Lib.hid (dsectors H)
  obtain ⟨N, hN⟩ : ∃ N, D.safe.length = N := ⟨_, rfl⟩
  rw [hN] at HS h2 h3
  clear hN H
  have g1 : (4 : Int) ≤ (ct : Int) := by omega
  have g2 : (fr : Int) ≤ (N : Int) := by omega
  have g3 : IntKind.i64.wrap ((N : Int) - (fr : Int)) = (N : Int) - (fr : Int) := IntWalk.i64_in _ (by omega)
  have g4 : (ct : Int) ≤ (N : Int) - (fr : Int) := by omega
  go_enter Try.func85, Try.ntmps85
  go_wp2_with fail
  refine HS.out.mono ?_
  rintro e w' ⟨rfl, rfl⟩
  go_wp2_with fail
  refine HS.out.mono ?_
  rintro e w' ⟨rfl, rfl⟩
  go_wp2_with fail
  go_ret
  exact ⟨rfl, rfl⟩

set_option maxHeartbeats 2000000 in
theorem fits_no {w : World} {d : Nat} {D : Dsk} {F : List HP} (fr ct : Int) (H : Sat w (disk d D :: F)) (h : fr < 0 ∨ ct < 4 ∨ (D.safe.length : Int) < fr + ct) (hr : -9223372036854775808 ≤ fr ∧ fr ≤ 9223372036854775807 ∧ -9223372036854775808 ≤ ct ∧ ct ≤ 9223372036854775807) (h3 : D.safe.length ≤ 8192) :
    Calls Try.prog 85 #[.pointer (some ⟨d, 0, none⟩), .int .i64 fr, .int .i64 ct] w fun e w' => e = .returned (.bool false) ∧ w = w' := by
  have HS := Lib.hid (dsectors H)
  obtain ⟨N, hN⟩ : ∃ N, D.safe.length = N := ⟨_, rfl⟩
  rw [hN] at HS h h3
  clear hN H
  go_enter Try.func85, Try.ntmps85
  by_cases g0 : fr < 0
  · have g : ¬ 0 ≤ fr := by omega
    go_wp2_with fail
    go_ret
    exact ⟨rfl, rfl⟩
  · by_cases g1 : ct < 4
    · have g : ¬ 4 ≤ ct := by omega
      go_wp2_with fail
      go_ret
      exact ⟨rfl, rfl⟩
    · by_cases g2 : (N : Int) < fr
      · have g : ¬ fr ≤ (N : Int) := by omega
        go_wp2_with fail
        refine HS.out.mono ?_
        rintro e w' ⟨rfl, rfl⟩
        go_wp2_with fail
        go_ret
        exact ⟨rfl, rfl⟩
      · have g3 : IntKind.i64.wrap ((N : Int) - fr) = (N : Int) - fr := IntWalk.i64_in _ (by omega)
        have g4 : ¬ ct ≤ (N : Int) - fr := by omega
        go_wp2_with fail
        refine HS.out.mono ?_
        rintro e w' ⟨rfl, rfl⟩
        go_wp2_with fail
        refine HS.out.mono ?_
        rintro e w' ⟨rfl, rfl⟩
        go_wp2_with fail
        go_ret
        refine ⟨?_, rfl⟩
        have hd : decide (ct ≤ (N : Int) - fr) = false := by simp; omega
        show Ending.returned (.bool (decide (ct ≤ (N : Int) - fr))) = _
        rw [hd]

set_option maxHeartbeats 2000000 in
theorem fits_nil (fr ct : Int) (w : World) :
    Calls Try.prog 85 #[.pointer none, .int .i64 fr, .int .i64 ct] w fun e w' => e = .returned (.bool false) ∧ w = w' := by
  go_enter Try.func85, Try.ntmps85
  go_wp2_with fail
  go_ret
  exact ⟨rfl, rfl⟩

/-- A sector written and flushed: the answer, the disk. -/
def safeD (D : Dsk) (n : Nat) (xs : List Int) : Int × Dsk := if D.left = some 0 then (13, D) else (fcode (D.write n xs), fnext (D.write n xs))
set_option maxHeartbeats 2000000 in
theorem safe_any {w : World} {d : Nat} {D : Dsk} {F : List HP} (n : Nat) (A : Option Addr) (c : Nat) (xs : List Int) (H : Sat w (disk d D :: F)) (hr : Reads F 1 A 128 (bytes xs)) (hn : n < D.safe.length) (hp : D.pend.length < 4294967295) :
    Calls Try.prog 88 #[.pointer (some ⟨d, 0, none⟩), .int .i64 n, .slice A 128 c] w fun e w' => e = .returned (.int .i64 (safeD D n xs).1) ∧ Sat w' (disk d (safeD D n xs).2 :: F) ∧ Env w w' := by
  unfold safeD
  by_cases hl : D.left = some 0
  · rw [if_pos hl]
    have HW := Lib.hid (dwrite_stop n A c H hn hl)
    go_enter Try.func88, Try.ntmps88
    go_wp2_with fail
    refine HW.out.mono ?_
    rintro e w2 ⟨rfl, rfl⟩
    go_wp2_with fail
    go_ret
    exact ⟨rfl, H, Env.refl _⟩
  · rw [if_neg hl]
    have HW := Lib.hid (dwrite n A c xs H hr hn hl (by omega))
    have hp2 : (D.write n xs).pend.length < 4294967296 := by simp [Dsk.write]; omega
    clear H
    go_enter Try.func88, Try.ntmps88
    go_wp2_with fail
    refine HW.out.mono ?_
    rintro e w2 ⟨rfl, H2, E2⟩
    go_wp2_with fail
    refine (dflush_all H2 hp2).mono ?_
    rintro e w3 ⟨rfl, H3, E3⟩
    go_wp2_with fail
    go_ret
    exact ⟨rfl, H3, E2.trans E3⟩

/-- All bytes of a disk are bytes. -/
def DB (D : Dsk) : Prop := (∀ x ∈ D.safe, InB x ∧ x.length = 128) ∧ ∀ p ∈ D.pend, InB p.2 ∧ p.2.length = 128
theorem noughts_inb : InB noughts := fun x hx => by rw [noughts, List.mem_replicate] at hx; omega
theorem DB.rd {D : Dsk} (h : DB D) (n : Nat) : InB (D.rd n) ∧ (D.rd n).length = 128 := by
  unfold Dsk.rd
  cases hp : lastP D.pend n with
  | some x => exact h.2 _ (lastP_mem hp)
  | none =>
    simp only [Option.getD_none]
    by_cases hn : n < D.safe.length
    · rw [List.getD_eq_getElem?_getD, List.getElem?_eq_getElem hn]; exact h.1 _ (List.getElem_mem hn)
    · rw [List.getD_eq_getElem?_getD, List.getElem?_eq_none (by omega)]; exact ⟨noughts_inb, noughts_len⟩
theorem dig_range (n : Int) (i : Nat) : 0 ≤ dig n i ∧ dig n i ≤ 255 := by unfold dig; omega
theorem beL_inb (n : Int) (k : Nat) : InB (beL n k) := fun x hx => by
  simp only [beL, List.mem_map] at hx
  obtain ⟨j, _, rfl⟩ := hx
  exact dig_range n _
theorem InB.app {a b : List Int} (h1 : InB a) (h2 : InB b) : InB (a ++ b) := fun x hx => (List.mem_append.1 hx).elim (h1 x) (h2 x)
theorem InB.take {a : List Int} (h : InB a) (n : Nat) : InB (a.take n) := fun x hx => h x (List.mem_of_mem_take hx)
theorem InB.drop {a : List Int} (h : InB a) (n : Nat) : InB (a.drop n) := fun x hx => h x (List.mem_of_mem_drop hx)
theorem InB.spl {a b : List Int} (h1 : InB a) (h2 : InB b) (o : Nat) : InB (spl a o b) := ((h1.take o).app h2).app (h1.drop _)
theorem InB.set {a : List Int} (h : InB a) (i : Nat) {y : Int} (hy : 0 ≤ y ∧ y ≤ 255) : InB (a.set i y) := fun x hx => (List.mem_or_eq_of_mem_set hx).elim (h x) (fun e => e ▸ hy)
theorem logT_inb (e : Int) : InB (logT e) := (beL_inb e 8).app ((beL_inb 3 2).app (fun x hx => by simp at hx; omega))
theorem headL_inb (e : Int) : InB (headL e) := (((noughts_inb.spl (logT_inb e) 0).spl (beL_inb e 8) 119).set 127 (by omega))
theorem labelL_inb (L : LogV) (s p : Nat) : InB (labelL L s p) := ((((beL_inb _ 8).app (beL_inb _ 4)).app (beL_inb _ 4)).app (beL_inb _ 2)).app (beL_inb _ 2)

/-- The epoch that a sector tells, 0: it is no head. -/
def epochAt (b : List Int) : Int := if 0 < ofBE (b.take 8) ∧ b = headL (ofBE (b.take 8)) then ofBE (b.take 8) else 0
def heldD (D : Dsk) (fr : Nat) : Int × Int × Nat := (epochAt (D.rd fr), epochAt (D.rd (fr + 1)), if epochAt (D.rd fr) < epochAt (D.rd (fr + 1)) then 1 else 0)

theorem ret_held {w : World} {F : List HP} {T : Nat} {a b : Value} (H : Sat w (row T 139 #[a, b] :: F)) (tmps : Array Value) (h4 : tmps.getD 4 undef = .pointer (some ⟨T, 0, none⟩)) :
    (results Try.f86 tmps).run Try.prog w = .ok (.tuple #[.agg #[a, b], tmps.getD 5 undef]) w := by
  rw [results_cell_tmp (p := 4) (u := 5) (ty := 139) (by rfl) tmps Try.prog w]
  rw [h4]
  have hl := run_loadVar_row (P := Try.prog) w T 139 139 #[a, b] (0, 0) _ H.get Try.underlying139 rfl (by kernel_rfl)
  simp only [asAddr, Sem.run_pure, Result.andThen_ok, hl]

set_option maxHeartbeats 4000000 in
set_option maxRecDepth 100000 in
theorem held_any {w : World} {d : Nat} {D : Dsk} {F : List HP} (fr : Nat) (H : Sat w (disk d D :: F)) (h1 : fr + 1 < D.safe.length) (h3 : D.safe.length ≤ 8192) (hb : DB D) :
    Calls Try.prog 86 #[.pointer (some ⟨d, 0, none⟩), .int .i64 fr] w fun e w' => e = .returned (.tuple #[.agg #[.int .u64 (heldD D fr).1, .int .u64 (heldD D fr).2.1], .int .i64 (heldD D fr).2.2]) ∧ Sat w' (disk d D :: F) ∧ Env w w' := by
  have HB := Lib.hid hb
  have hfr : fr < 8192 := by omega
  have H1F := Lib.hid h1
  clear hb h3 h1
  go_enter Try.func86, Try.ntmps86
  go_upto_region 2 with fail
  have H1 := ((H.alloc (.cells #[.int .u64 0, .int .u64 0] 139)).alloc (.cells #[.int .u64 0, .int .u64 0] 139)).b2.b1
  rw [show (w.alloc (.cells #[.int .u64 0, .int .u64 0] 139)).heap.size = w.heap.size + 1 by simp] at H1
  have E1 := ((Env.refl w).alloc (.cells #[.int .u64 0, .int .u64 0] 139)).alloc (.cells #[.int .u64 0, .int .u64 0] 139)
  generalize (w.alloc (.cells #[.int .u64 0, .int .u64 0] 139)).alloc (.cells #[.int .u64 0, .int .u64 0] 139) = w1 at *
  generalize w.heap.size + 1 = T6 at *
  generalize w.heap.size = T4 at *
  clear H
  go_wp2_with fail
  go_loopw [7, 12] (fun sl i wr => ∃ k : Nat, k ≤ 2 ∧ i = .int .i64 k ∧ sl = .int .i64 (if k = 2 then (if epochAt (D.rd fr) < epochAt (D.rd (fr + 1)) then 1 else 0) else 0) ∧
    Sat wr (row T6 139 #[.int .u64 (if k = 0 then 0 else epochAt (D.rd fr)), .int .u64 (if k = 2 then epochAt (D.rd (fr + 1)) else 0)] :: disk d D :: row T4 139 #[.int .u64 0, .int .u64 0] :: F) ∧ Env w wr) (fun _ i _ => 2 - (intOf i).toNat)
  case atStart => exact ⟨0, by omega, rfl, rfl, by simpa using H1, E1⟩
  case round =>
    clear H1 E1
    obtain ⟨k, hk, rfl, rfl, H2, E2⟩ := hrel
    have hcase : k = 0 ∨ k = 1 ∨ k = 2 := by omega
    rcases hcase with rfl | rfl | rfl
    · as_aux_lemma =>
      have hcur : True := trivial
      replace H2 : Sat wr (row T6 139 #[.int .u64 0, .int .u64 0] :: disk d D :: row T4 139 #[.int .u64 0, .int .u64 0] :: F) := by simpa using H2
      have hw0 : IntKind.i64.wrap ((fr : Int) + 0) = ((fr : Nat) : Int) := by rw [IntWalk.i64_in _ (by omega)]; omega
      go_wp2_with fail
      refine (dread (fr) H2.b1 (by have := H1F.out; omega)).mono ?_
      rintro e w3 ⟨v3, rfl, H3, E3⟩
      obtain ⟨A3, c3, rfl, -, -, -⟩ := H3.own_form
      go_wp2_with fail
      refine (rdnew A3 128 c3 H3 H3.own_at.1 (by omega)).mono ?_
      rintro e w4 ⟨q4, rfl, H4, E4⟩
      have hbs := HB.out.rd (fr)
      have HBS := Lib.hid hbs
      go_wp2_with fail
      refine (rnumber 8 H4 (by omega) (by rw [hbs.2]; omega) (by rw [hbs.2]; omega) hbs.1).mono ?_
      rintro e w5 ⟨rfl, H5, E5⟩
      have hrg := ofBE_range (HBS.out.1.take 8)
      rw [List.length_take, HBS.out.2] at hrg
      obtain ⟨ev, hev⟩ : ∃ ev, epochAt (D.rd (fr)) = ev := ⟨_, rfl⟩
      have HEV := Lib.hid hev
      unfold epochAt at hev
      generalize hn : ofBE ((D.rd (fr)).take 8) = n at *
      have E5' := ((E2.trans E3).trans E4).trans E5
      replace H5 : Sat w5 (own 5 1 (.slice A3 128 c3) 128 (bytes (D.rd (fr))) :: row T6 139 #[.int .u64 0, .int .u64 0] :: disk d D :: row T4 139 #[.int .u64 0, .int .u64 0] :: F) := H5.b2.p2.b1.p2.b1.b1
      clear H3 H4 E2 E3 E4 E5 hbs
      by_cases h0 : 0 < n
      · have hn64 : 0 ≤ n ∧ n < 18446744073709551616 := by have := hrg.2; simp at this; omega
        clear hrg
        go_wp2_with fail
        refine (head_any n H5 hn64).mono ?_
        rintro e w6 ⟨g6, rfl, H6, E6⟩
        go_wp2_with fail
        refine (bequal A3 (some ⟨g6, 0, none⟩) 128 128 c3 128 (D.rd (fr)) (headL n) _ H6.b1.own_at.1 H6.own_at.1 (by omega) (by omega) HBS.out.1 (headL_inb n)).mono ?_
        rintro e w7 ⟨rfl, rfl⟩
        have HM := H6.tail.tail
        have EM := E5'.trans E6
        clear H5 H6 E5' E6
        by_cases heq : D.rd (fr) = headL n
        · rw [if_pos ⟨h0, heq⟩] at hev
          have hev2 := hev.symm
          subst hev2
          have hd : decide (D.rd (fr) = headL ev) = true := by simp [heq]
          rw [hd]
          have f0 := HM.free 0
          have y9 := HM.cell 0
          have HN : Sat (w6.setCell ⟨T6, 0, none⟩ (.int .u64 ev)) (row T6 139 #[.int .u64 ev, .int .u64 0] :: disk d D :: row T4 139 #[.int .u64 0, .int .u64 0] :: F) := HM.set (i := 0) (.int .u64 ev)
          have EN := EM.set ⟨T6, 0, none⟩ (.int .u64 ev)
          clear hd heq hn64 hn
          go_upto_region 10 with fail
          generalize w6.setCell ⟨T6, 0, none⟩ (.int .u64 ev) = wn at *
          clear f0 y9 HM EM
          have y0 := HN.cell 0
          have hnl : ¬ (ev : Int) < ev := by omega
          clear hcur
          go_quiet (fail)
          have HN2 := HN.drewN nq
          have EN2 := EN.drewN nq
          go_wp2_with fail
          exact ⟨⟨1, by omega, by go_num, rfl, by simpa [HEV.out] using HN2, EN2⟩, by simp [intOf]⟩
        · rw [if_neg (fun h => heq h.2)] at hev
          subst hev
          have hd : decide (D.rd (fr) = headL n) = false := by simp [heq]
          rw [hd]
          have HN : Sat w6 (row T6 139 #[.int .u64 0, .int .u64 0] :: disk d D :: row T4 139 #[.int .u64 0, .int .u64 0] :: F) := HM
          have EN := EM
          clear hd heq hn64 hn HM EM
          go_upto_region 10 with fail
          have y0 := HN.cell 0
          have hnl : ¬ (0 : Int) < 0 := by omega
          clear hcur
          go_quiet (fail)
          have HN2 := HN.drewN nq
          have EN2 := EN.drewN nq
          go_wp2_with fail
          exact ⟨⟨1, by omega, by go_num, rfl, by simpa [HEV.out] using HN2, EN2⟩, by simp [intOf]⟩
      · rw [if_neg (fun h => h0 h.1)] at hev
        subst hev
        have h00 : n = 0 := by omega
        subst h00
        have HN : Sat w5 (row T6 139 #[.int .u64 0, .int .u64 0] :: disk d D :: row T4 139 #[.int .u64 0, .int .u64 0] :: F) := H5.tail
        have EN := E5'
        clear hrg hn H5 E5'
        go_upto_region 10 with fail
        have y0 := HN.cell 0
        have hnl : ¬ (0 : Int) < 0 := by omega
        clear hcur
        go_quiet (fail)
        have HN2 := HN.drewN nq
        have EN2 := EN.drewN nq
        go_wp2_with fail
        exact ⟨⟨1, by omega, by go_num, rfl, by simpa [HEV.out] using HN2, EN2⟩, by simp [intOf]⟩
    · as_aux_lemma =>
      have hcur : True := trivial
      replace H2 : Sat wr (row T6 139 #[.int .u64 (epochAt (D.rd fr)), .int .u64 0] :: disk d D :: row T4 139 #[.int .u64 0, .int .u64 0] :: F) := by simpa using H2
      have hw0 : IntKind.i64.wrap ((fr : Int) + 1) = ((fr + 1 : Nat) : Int) := by rw [IntWalk.i64_in _ (by omega)]; omega
      go_wp2_with fail
      refine (dread (fr + 1) H2.b1 (by have := H1F.out; omega)).mono ?_
      rintro e w3 ⟨v3, rfl, H3, E3⟩
      obtain ⟨A3, c3, rfl, -, -, -⟩ := H3.own_form
      go_wp2_with fail
      refine (rdnew A3 128 c3 H3 H3.own_at.1 (by omega)).mono ?_
      rintro e w4 ⟨q4, rfl, H4, E4⟩
      have hbs := HB.out.rd (fr + 1)
      have HBS := Lib.hid hbs
      go_wp2_with fail
      refine (rnumber 8 H4 (by omega) (by rw [hbs.2]; omega) (by rw [hbs.2]; omega) hbs.1).mono ?_
      rintro e w5 ⟨rfl, H5, E5⟩
      have hrg := ofBE_range (HBS.out.1.take 8)
      rw [List.length_take, HBS.out.2] at hrg
      obtain ⟨ev, hev⟩ : ∃ ev, epochAt (D.rd (fr + 1)) = ev := ⟨_, rfl⟩
      have HEV := Lib.hid hev
      unfold epochAt at hev
      generalize hn : ofBE ((D.rd (fr + 1)).take 8) = n at *
      have E5' := ((E2.trans E3).trans E4).trans E5
      replace H5 : Sat w5 (own 5 1 (.slice A3 128 c3) 128 (bytes (D.rd (fr + 1))) :: row T6 139 #[.int .u64 (epochAt (D.rd fr)), .int .u64 0] :: disk d D :: row T4 139 #[.int .u64 0, .int .u64 0] :: F) := H5.b2.p2.b1.p2.b1.b1
      clear H3 H4 E2 E3 E4 E5 hbs
      by_cases h0 : 0 < n
      · have hn64 : 0 ≤ n ∧ n < 18446744073709551616 := by have := hrg.2; simp at this; omega
        clear hrg
        go_wp2_with fail
        refine (head_any n H5 hn64).mono ?_
        rintro e w6 ⟨g6, rfl, H6, E6⟩
        go_wp2_with fail
        refine (bequal A3 (some ⟨g6, 0, none⟩) 128 128 c3 128 (D.rd (fr + 1)) (headL n) _ H6.b1.own_at.1 H6.own_at.1 (by omega) (by omega) HBS.out.1 (headL_inb n)).mono ?_
        rintro e w7 ⟨rfl, rfl⟩
        have HM := H6.tail.tail
        have EM := E5'.trans E6
        clear H5 H6 E5' E6
        by_cases heq : D.rd (fr + 1) = headL n
        · rw [if_pos ⟨h0, heq⟩] at hev
          have hev2 := hev.symm
          subst hev2
          have hd : decide (D.rd (fr + 1) = headL ev) = true := by simp [heq]
          rw [hd]
          have f0 := HM.free 1
          have y9 := HM.cell 1
          have HN : Sat (w6.setCell ⟨T6, 1, none⟩ (.int .u64 ev)) (row T6 139 #[.int .u64 (epochAt (D.rd fr)), .int .u64 ev] :: disk d D :: row T4 139 #[.int .u64 0, .int .u64 0] :: F) := HM.set (i := 1) (.int .u64 ev)
          have EN := EM.set ⟨T6, 1, none⟩ (.int .u64 ev)
          clear hd heq hn64 hn
          go_upto_region 10 with fail
          generalize w6.setCell ⟨T6, 1, none⟩ (.int .u64 ev) = wn at *
          clear f0 y9 HM EM
          have y0 := HN.cell 0
          have y1 := HN.cell 1
          clear hcur
          by_cases hgt : epochAt (D.rd fr) < ev
          · have HG := Lib.hid (show (if epochAt (D.rd fr) < epochAt (D.rd (fr + 1)) then 1 else 0 : Int) = 1 by rw [HEV.out, if_pos hgt])
            generalize epochAt (D.rd fr) = e0 at y0 hgt
            go_quiet (fail)
            have HN2 := HN.drewN nq
            have EN2 := EN.drewN nq
            go_wp2_with fail
            exact ⟨⟨2, by omega, by go_num, by simp [HG.out], by simpa [HEV.out] using HN2, EN2⟩, by simp [intOf]⟩
          · have HG := Lib.hid (show (if epochAt (D.rd fr) < epochAt (D.rd (fr + 1)) then 1 else 0 : Int) = 0 by rw [HEV.out, if_neg hgt])
            generalize epochAt (D.rd fr) = e0 at y0 hgt
            go_quiet (fail)
            have HN2 := HN.drewN nq
            have EN2 := EN.drewN nq
            go_wp2_with fail
            exact ⟨⟨2, by omega, by go_num, by simp [HG.out], by simpa [HEV.out] using HN2, EN2⟩, by simp [intOf]⟩
        · rw [if_neg (fun h => heq h.2)] at hev
          subst hev
          have hd : decide (D.rd (fr + 1) = headL n) = false := by simp [heq]
          rw [hd]
          have HN : Sat w6 (row T6 139 #[.int .u64 (epochAt (D.rd fr)), .int .u64 0] :: disk d D :: row T4 139 #[.int .u64 0, .int .u64 0] :: F) := HM
          have EN := EM
          clear hd heq hn64 hn HM EM
          go_upto_region 10 with fail
          have y0 := HN.cell 0
          have y1 := HN.cell 1
          clear hcur
          by_cases hgt : epochAt (D.rd fr) < 0
          · have HG := Lib.hid (show (if epochAt (D.rd fr) < epochAt (D.rd (fr + 1)) then 1 else 0 : Int) = 1 by rw [HEV.out, if_pos hgt])
            generalize epochAt (D.rd fr) = e0 at y0 hgt
            go_quiet (fail)
            have HN2 := HN.drewN nq
            have EN2 := EN.drewN nq
            go_wp2_with fail
            exact ⟨⟨2, by omega, by go_num, by simp [HG.out], by simpa [HEV.out] using HN2, EN2⟩, by simp [intOf]⟩
          · have HG := Lib.hid (show (if epochAt (D.rd fr) < epochAt (D.rd (fr + 1)) then 1 else 0 : Int) = 0 by rw [HEV.out, if_neg hgt])
            generalize epochAt (D.rd fr) = e0 at y0 hgt
            go_quiet (fail)
            have HN2 := HN.drewN nq
            have EN2 := EN.drewN nq
            go_wp2_with fail
            exact ⟨⟨2, by omega, by go_num, by simp [HG.out], by simpa [HEV.out] using HN2, EN2⟩, by simp [intOf]⟩
      · rw [if_neg (fun h => h0 h.1)] at hev
        subst hev
        have h00 : n = 0 := by omega
        subst h00
        have HN : Sat w5 (row T6 139 #[.int .u64 (epochAt (D.rd fr)), .int .u64 0] :: disk d D :: row T4 139 #[.int .u64 0, .int .u64 0] :: F) := H5.tail
        have EN := E5'
        clear hrg hn H5 E5'
        go_upto_region 10 with fail
        have y0 := HN.cell 0
        have y1 := HN.cell 1
        clear hcur
        by_cases hgt : epochAt (D.rd fr) < 0
        · have HG := Lib.hid (show (if epochAt (D.rd fr) < epochAt (D.rd (fr + 1)) then 1 else 0 : Int) = 1 by rw [HEV.out, if_pos hgt])
          generalize epochAt (D.rd fr) = e0 at y0 hgt
          go_quiet (fail)
          have HN2 := HN.drewN nq
          have EN2 := EN.drewN nq
          go_wp2_with fail
          exact ⟨⟨2, by omega, by go_num, by simp [HG.out], by simpa [HEV.out] using HN2, EN2⟩, by simp [intOf]⟩
        · have HG := Lib.hid (show (if epochAt (D.rd fr) < epochAt (D.rd (fr + 1)) then 1 else 0 : Int) = 0 by rw [HEV.out, if_neg hgt])
          generalize epochAt (D.rd fr) = e0 at y0 hgt
          go_quiet (fail)
          have HN2 := HN.drewN nq
          have EN2 := EN.drewN nq
          go_wp2_with fail
          exact ⟨⟨2, by omega, by go_num, by simp [HG.out], by simpa [HEV.out] using HN2, EN2⟩, by simp [intOf]⟩
    · replace H2 : Sat wr (row T6 139 #[.int .u64 (epochAt (D.rd fr)), .int .u64 (epochAt (D.rd (fr + 1)))] :: disk d D :: row T4 139 #[.int .u64 0, .int .u64 0] :: F) := by simpa using H2
      rw [if_pos rfl]
      obtain ⟨sl, hsl⟩ : ∃ sl : Int, (if epochAt (D.rd fr) < epochAt (D.rd (fr + 1)) then 1 else 0) = sl := ⟨_, rfl⟩
      have HSL := Lib.hid (show ((heldD D fr).2.2 : Int) = sl by rw [← hsl]; unfold heldD; dsimp only; split <;> rfl)
      rw [hsl]
      clear hsl
      have HE0 := Lib.hid (show (heldD D fr).1 = epochAt (D.rd fr) from rfl)
      have HE1 := Lib.hid (show (heldD D fr).2.1 = epochAt (D.rd (fr + 1)) from rfl)
      generalize epochAt (D.rd fr) = e0 at *
      generalize epochAt (D.rd (fr + 1)) = e1 at *
      have y0 := H2.cell 0
      have y1 := H2.cell 1
      have z0 := H2.b2.cell 0
      have z1 := H2.b2.cell 1
      have f0 := H2.b2.free 0
      have f1 := H2.b2.free 1
      have H3 : Sat ((wr.setCell ⟨T4, 0, none⟩ (.int .u64 e0)).setCell ⟨T4, 1, none⟩ (.int .u64 e1)) (row T4 139 #[.int .u64 e0, .int .u64 e1] :: row T6 139 #[.int .u64 e0, .int .u64 e1] :: disk d D :: F) := (H2.b2.set (i := 0) (.int .u64 e0)).set (i := 1) (.int .u64 e1)
      have E3 := (E2.set ⟨T4, 0, none⟩ (.int .u64 e0)).set ⟨T4, 1, none⟩ (.int .u64 e1)
      go_wp2_with fail
      refine bodyPost_ret (ret_held (by simpa using H3) _ rfl) rfl ⟨?_, H3.tail.tail, E3⟩
      rw [HE0.out, HE1.out, HSL.out]
      rfl
end Go.Proofs.Ythbabdjicplooaa
