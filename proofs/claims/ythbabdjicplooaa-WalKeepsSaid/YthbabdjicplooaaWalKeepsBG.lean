/- package deponentlaw4: a log that is found again after a crash. Conditions: none. -/
import Derived.Test.YthbabdjicplooaaWalCrash
import Derived.Test.YthbabdjicplooaaSplitB
import Derived.Test.YthbabdjicplooaaWalFullWalk
namespace Go.Proofs.Ythbabdjicplooaa
open Go.RowKit

/-- A log of W2's disk. -/
structure GoodW (D : Dsk) (L : LogV) (e : Nat) : Prop where
  inv : Inv D L
  from_ : L.from_ = 3
  count : L.count = 50
  ep : L.epoch ≤ e
  short : ∀ x ∈ L.recs, x.length < 4294967296
theorem Rest.to {D1 D2 D3 : Dsk} {L M : LogV} (h1 : Rest D1 D2 L) (h2 : Rest D2 D3 M) (hf : M.from_ = L.from_) (hc : M.count = L.count) : Rest D1 D3 L :=
  ⟨h2.1.trans h1.1, fun k hk hr => (h2.2 k (by rw [h1.1]; exact hk) (by rw [hf, hc]; exact hr)).trans (h1.2 k hk hr)⟩
theorem GoodW.crash {D : Dsk} {L : LogV} {e : Nat} (h : GoodW D L e) (keep : List Bool) (torn nb : Int) : GoodW (D.crash keep torn nb) L e ∧ Rest D (D.crash keep torn nb) L :=
  ⟨⟨h.inv.crash keep torn nb, h.from_, h.count, h.ep, h.short⟩, ⟨(crash_len _ _ _ _).1, fun k hk _ => crash_same h.inv.pend keep torn nb hk⟩⟩
theorem GoodW.stopped {D : Dsk} {L : LogV} {e : Nat} (h : GoodW D L e) (o : Option Nat) : GoodW { D with left := o } L e :=
  ⟨h.inv.stopped o, h.from_, h.count, h.ep, h.short⟩
theorem GoodW.recs {D : Dsk} {L : LogV} {e : Nat} (h : GoodW D L e) : L.recs.length < 4294967296 := by
  have := h.inv.rl
  have := h.inv.nx
  have := h.count
  omega
set_option maxHeartbeats 16000000 in
set_option maxRecDepth 100000 in
theorem reopen_any {w : World} {bw d p : Nat} {D : Dsk} {G : List HP} (v vw : Value) (l lw : List (List Int)) (A : Option Addr) (nk ck : Nat) (torn nb ag : Int) (ar : Bool) (keep : List Bool) (M : LogV) (e : Nat)
    (H : Sat w (row bw 85 #[.pointer (some ⟨d, 0, none⟩), .pointer (some ⟨p, 0, none⟩), v, .slice A nk ck, .int .i64 torn, .int .i64 nb, .int .i64 ag, .bool ar] :: disk d D :: G))
    (hg : GoodW (D.crash keep torn nb) M e) (hm : M.recs = l ∨ M.recs = lw) (hag : ag ≤ 9223372036854775807) (hp : D.pend.length < 4294967296)
    (hk : Reads G 1 A nk (keep.map Value.bool)) (hv : ∀ w, Sat w G → RdB w v l ∧ RdB w vw lw) (hl : l.length < 4294967296 ∧ InL l) (hlw : lw.length < 4294967296 ∧ InL lw) :
    Calls Try.prog 91 #[.pointer (some ⟨bw, 0, none⟩), vw] w fun e' w' => e' = .returned (.bool true) ∧ ∃ v' p' D', GoodW D' M e ∧ D'.left = none ∧ Rest (D.crash keep torn nb) D' M ∧
      Sat w' (row bw 85 #[.pointer (some ⟨d, 0, none⟩), .pointer (some ⟨p', 0, none⟩), v', .slice A nk ck, .int .i64 torn, .int .i64 nb, .int .i64 ag, .bool false] :: recL v' M.recs :: logc p' d M :: disk d D' :: G) ∧ Env w w' := by
  have HG := Lib.hid hg
  have HM := Lib.hid hm
  have HP := Lib.hid hp
  have HK := Lib.hid hk
  have HV := Lib.hid hv
  have HLL := Lib.hid (And.intro hl hlw)
  have HAG := Lib.hid hag
  clear hg hm hp hk hv hl hlw hag
  go_enter Try.func91, Try.ntmps91
  go_wp2_with fail
  have y : w.cell? ⟨bw, 0, none⟩ = some (.pointer (some ⟨d, 0, none⟩)) ∧ w.cell? ⟨bw, 3, none⟩ = some (.slice A nk ck) ∧ w.cell? ⟨bw, 4, none⟩ = some (.int .i64 torn) ∧ w.cell? ⟨bw, 5, none⟩ = some (.int .i64 nb) := ⟨H.cell 0, H.cell 3, H.cell 4, H.cell 5⟩
  go_region_held3 (fun w' => w'.cell? ⟨bw, 0, none⟩ = some (.pointer (some ⟨d, 0, none⟩)) ∧ w'.cell? ⟨bw, 3, none⟩ = some (.slice A nk ck) ∧ w'.cell? ⟨bw, 4, none⟩ = some (.int .i64 torn) ∧ w'.cell? ⟨bw, 5, none⟩ = some (.int .i64 nb)) (first | exact y | exact ⟨H1.b1.cell 0, H1.b1.cell 3, H1.b1.cell 4, H1.b1.cell 5⟩) (first
    | (go_at_call 25; refine (dcrash A nk ck keep torn nb H.b1.drew (fun w h => HK.out w h.tail) HP.out).mono ?_; rintro e1 w1 ⟨rfl, H1, E1⟩))
  have H1' := H1.b1
  have E1' : Env w w1 := (Env.refl w).drew.trans E1
  have HD1 := Lib.hid (show (D.crash keep torn nb).left = none from rfl)
  have HDE := Lib.hid (show ∃ D1, D.crash keep torn nb = D1 from ⟨_, rfl⟩)
  obtain ⟨D1, hD1⟩ := HDE.out
  have HDE := Lib.hid hD1
  rw [hD1] at H1' HG HD1
  clear hD1
  clear y H H1 E1 HP
  have x6 : w1.cell? ⟨bw, 6, none⟩ = some (.int .i64 ag) := H1'.cell 6
  go_upto_if 22 with fail
  go_cut [5, 6] from 18 to 54 (fun _ _ wr => ∃ D3, GoodW D3 M e ∧ D3.left = none ∧ Rest D1 D3 M ∧ Sat wr (row bw 85 #[.pointer (some ⟨d, 0, none⟩), .pointer (some ⟨p, 0, none⟩), v, .slice A nk ck, .int .i64 torn, .int .i64 nb, .int .i64 ag, .bool ar] :: disk d D3 :: G) ∧ Env w wr)
  case first =>
    by_cases h0 : 0 ≤ ag
    · go_wp2_with fail
      have y2 : w1.cell? ⟨bw, 0, none⟩ = some (.pointer (some ⟨d, 0, none⟩)) ∧ w1.cell? ⟨bw, 6, none⟩ = some (.int .i64 ag) := ⟨H1'.cell 0, x6⟩
      go_region_held3 (fun w' => w'.cell? ⟨bw, 0, none⟩ = some (.pointer (some ⟨d, 0, none⟩)) ∧ w'.cell? ⟨bw, 6, none⟩ = some (.int .i64 ag)) (first | exact y2 | exact ⟨H2.b1.cell 0, H2.b1.cell 6⟩) (first
        | (go_at_call 33; refine (dstop ag H1'.b1.drew HAG.out).mono ?_; rintro e1 w2 ⟨rfl, H2, E2⟩))
      have H2' := H2.b1
      have E2' := E1'.drew.trans E2
      have HG2 := Lib.hid (HG.out.stopped (some ag.toNat))
      have HR2 := Lib.hid (show Rest D1 ({ D1 with left := some ag.toNat } : Dsk) M from ⟨rfl, fun _ _ _ => rfl⟩)
      generalize ({ D1 with left := some ag.toNat } : Dsk) = D2 at *
      clear x6 y2 H1' H2 E2 E1'
      have x0 : w2.cell? ⟨bw, 0, none⟩ = some (.pointer (some ⟨d, 0, none⟩)) := H2'.cell 0
      go_wp2_with fail
      refine (open_at 3 50 HG2.out.inv HG2.out.from_ HG2.out.count H2'.b1).mono ?_
      rintro e1 w3 ⟨p3, rfl, H3, E3⟩
      have H3' := H3.b2.p2.tail.b1
      have E3' := E2'.trans E3
      clear x0 H2' E2' H3 E3
      go_wp2_with fail
      have y3 : w3.cell? ⟨bw, 0, none⟩ = some (.pointer (some ⟨d, 0, none⟩)) ∧ w3.cell? ⟨bw, 3, none⟩ = some (.slice A nk ck) ∧ w3.cell? ⟨bw, 4, none⟩ = some (.int .i64 torn) ∧ w3.cell? ⟨bw, 5, none⟩ = some (.int .i64 nb) := ⟨H3'.cell 0, H3'.cell 3, H3'.cell 4, H3'.cell 5⟩
      have hp2 : D2.pend.length < 4294967296 := by rw [HG2.out.inv.pend]; simp
      go_region_held3 (fun w' => w'.cell? ⟨bw, 0, none⟩ = some (.pointer (some ⟨d, 0, none⟩)) ∧ w'.cell? ⟨bw, 3, none⟩ = some (.slice A nk ck) ∧ w'.cell? ⟨bw, 4, none⟩ = some (.int .i64 torn) ∧ w'.cell? ⟨bw, 5, none⟩ = some (.int .i64 nb)) (first | exact y3 | exact ⟨H4.b1.cell 0, H4.b1.cell 3, H4.b1.cell 4, H4.b1.cell 5⟩) (first
        | (go_at_call 25; refine (dcrash A nk ck keep torn nb H3'.b1.drew (fun w h => HK.out w h.tail) hp2).mono ?_; rintro e1 w4 ⟨rfl, H4, E4⟩))
      have HC := HG2.out.crash keep torn nb
      have H5 := H4.b1
      have E5 := E3'.drew.trans E4
      clear y3 hp2 H3' E3' H4 E4
      go_wp2_with fail
      go_meet
      case rel => exact ⟨_, HC.1, rfl, Rest.to HR2.out HC.2 rfl rfl, H5, E5⟩
    · go_wp2_with fail
      go_meet
      case rel => exact ⟨D1, HG.out, HD1.out, ⟨rfl, fun _ _ _ => rfl⟩, H1', E1'⟩
  case rest =>
    obtain ⟨D3, hg3, hl3, hr3, H3, E3⟩ := hcut
    have HG := Lib.hid hg3
    have HL := Lib.hid hl3
    have HR := Lib.hid hr3
    clear hg3 hl3 hr3 H1' E1' HD1
    have x0 : wc.cell? ⟨bw, 0, none⟩ = some (.pointer (some ⟨d, 0, none⟩)) := H3.cell 0
    go_wp2_with fail
    refine (open_at 3 50 HG.out.inv HG.out.from_ HG.out.count H3.b1).mono ?_
    rintro e1 w4 ⟨p4, rfl, H4, E4⟩
    have H4' := H4.b2
    have E4' := E3.trans E4
    clear x0 H3 E3 H4 E4
    have c7 := H4'.cell 7
    have f7 := H4'.free 7
    have H5 : Sat (w4.setCell ⟨bw, 7, none⟩ (.bool false)) (row bw 85 #[.pointer (some ⟨d, 0, none⟩), .pointer (some ⟨p, 0, none⟩), v, .slice A nk ck, .int .i64 torn, .int .i64 nb, .int .i64 ag, .bool false] :: logc p4 d M :: disk d D3 :: G) := H4'.set (i := 7) (.bool false)
    have E5 := E4'.set ⟨bw, 7, none⟩ (.bool false)
    go_upto_region 10 with fail
    generalize w4.setCell ⟨bw, 7, none⟩ (.bool false) = w5 at *
    have y5 : w5.cell? ⟨bw, 2, none⟩ = some v := H5.cell 2
    clear c7 f7 H4' E4'
    have HSH := Lib.hid (And.intro HG.out.recs (And.intro HG.out.inv.inl HG.out.short))
    have y5' : w5.drew.cell? ⟨bw, 2, none⟩ = some v := y5
    refine wp_region_held_drew (S := fun w' => w'.cell? ⟨bw, 2, none⟩ = some v) (by kernel_rfl) y5' (fun hHeld => ?_)
    refine' wpAnyH_take (i := 0) (oi := _) (v := _) rfl (by kernel_rfl) (by kernel_rfl) (by kernel_rfl) (fun _ _ _ h => h) (Or.inl ⟨by rfl, ?hy0x1⟩) hHeld ?rest0x1
    case hy0x1 => (intro w' hSw; (try dsimp only at hSw); go_simp; try with_reducible rfl)
    simp only [List.getElem_toArray, List.getElem_cons_zero, List.getElem_cons_succ, Act.put, List.setIfInBounds_toArray, List.set_cons_zero, List.set_cons_succ]
    refine' wpAnyH_take (i := 1) (oi := _) (v := _) rfl (by kernel_rfl) (by kernel_rfl) (by kernel_rfl) (fun _ _ _ h => h) (Or.inl ⟨by rfl, ?hy1x2⟩) hHeld ?rest1x2
    case hy1x2 => (intro w' hSw; (try dsimp only at hSw); go_simp; try with_reducible rfl)
    simp only [List.getElem_toArray, List.getElem_cons_zero, List.getElem_cons_succ, Act.put, List.setIfInBounds_toArray, List.set_cons_zero, List.set_cons_succ]
    refine' wpAnyH_take (i := 2) (oi := _) (v := _) rfl (by kernel_rfl) (by kernel_rfl) (by kernel_rfl) (fun _ _ _ h => h) (Or.inl ⟨by rfl, ?hy2x3⟩) hHeld ?rest2x3
    case hy2x3 => (intro w' hSw; (try dsimp only at hSw); go_simp; try with_reducible rfl)
    simp only [List.getElem_toArray, List.getElem_cons_zero, List.getElem_cons_succ, Act.put, List.setIfInBounds_toArray, List.set_cons_zero, List.set_cons_succ]
    refine' wpAnyH_take (i := 3) (oi := _) (v := _) rfl (by kernel_rfl) (by kernel_rfl) (by kernel_rfl) (fun _ _ _ h => h) (Or.inl ⟨by rfl, ?hy3x4⟩) hHeld ?rest3x4
    case hy3x4 => (intro w' hSw; (try dsimp only at hSw); go_simp; try with_reducible rfl)
    simp only [List.getElem_toArray, List.getElem_cons_zero, List.getElem_cons_succ, Act.put, List.setIfInBounds_toArray, List.set_cons_zero, List.set_cons_succ]
    refine' wpAnyH_take (i := 4) (oi := _) (v := _) rfl (by kernel_rfl) (by kernel_rfl) (by kernel_rfl) (fun _ _ _ h => h) (Or.inl ⟨by rfl, ?hy4x5⟩) hHeld ?rest4x5
    case hy4x5 => (intro w' hSw; (try dsimp only at hSw); go_simp; try with_reducible rfl)
    simp only [List.getElem_toArray, List.getElem_cons_zero, List.getElem_cons_succ, Act.put, List.setIfInBounds_toArray, List.set_cons_zero, List.set_cons_succ]
    refine' wpAnyH_take (i := 5) (oi := _) (v := _) rfl (by kernel_rfl) (by kernel_rfl) (by kernel_rfl) (fun _ _ _ h => h) (Or.inl ⟨by rfl, ?hy5x6⟩) hHeld ?rest5x6
    case hy5x6 => (intro w' hSw; (try dsimp only at hSw); go_simp; try with_reducible rfl)
    simp only [List.getElem_toArray, List.getElem_cons_zero, List.getElem_cons_succ, Act.put, List.setIfInBounds_toArray, List.set_cons_zero, List.set_cons_succ]
    refine' wpAnyH_take (i := 6) (oi := _) (v := _) rfl (by kernel_rfl) (by kernel_rfl) (by kernel_rfl) (fun _ _ _ h => h) (Or.inl ⟨by rfl, ?hy6x7⟩) hHeld ?rest6x7
    case hy6x7 => (intro w' hSw; (try dsimp only at hSw); go_simp; try with_reducible rfl)
    simp only [List.getElem_toArray, List.getElem_cons_zero, List.getElem_cons_succ, Act.put, List.setIfInBounds_toArray, List.set_cons_zero, List.set_cons_succ]
    refine' wpAnyH_take (i := 7) (oi := _) (v := _) rfl (by kernel_rfl) (by kernel_rfl) (by kernel_rfl) (fun _ _ _ h => h) (Or.inl ⟨by rfl, ?hy7x8⟩) hHeld ?rest7x8
    case hy7x8 => (intro w' hSw; (try dsimp only at hSw); go_simp; try with_reducible rfl)
    simp only [List.getElem_toArray, List.getElem_cons_zero, List.getElem_cons_succ, Act.put, List.setIfInBounds_toArray, List.set_cons_zero, List.set_cons_succ]
    refine' wpAnyH_take (i := 9) (oi := _) (v := _) rfl (by kernel_rfl) (by kernel_rfl) (by kernel_rfl) (fun _ _ _ h => h) (Or.inl ⟨by rfl, ?hy9x9⟩) hHeld ?rest9x9
    case hy9x9 => (intro w' hSw; (try dsimp only at hSw); go_simp; try with_reducible rfl)
    simp only [List.getElem_toArray, List.getElem_cons_zero, List.getElem_cons_succ, Act.put, List.setIfInBounds_toArray, List.set_cons_zero, List.set_cons_succ]
    refine' wpAnyH_take (i := 10) (oi := _) (v := _) rfl (by kernel_rfl) (by kernel_rfl) (by kernel_rfl) (fun _ _ _ h => h) (Or.inl ⟨by rfl, ?hy10x10⟩) hHeld ?rest10x10
    case hy10x10 => (intro w' hSw; (try dsimp only at hSw); go_simp; try with_reducible rfl)
    simp only [List.getElem_toArray, List.getElem_cons_zero, List.getElem_cons_succ, Act.put, List.setIfInBounds_toArray, List.set_cons_zero, List.set_cons_succ]
    refine' wpAnyH_take (i := 11) (oi := _) (v := _) rfl (by kernel_rfl) (by kernel_rfl) (by kernel_rfl) (fun _ _ _ h => h) (Or.inl ⟨by rfl, ?hy11x11⟩) hHeld ?rest11x11
    case hy11x11 => (intro w' hSw; (try dsimp only at hSw); go_simp; try with_reducible rfl)
    simp only [List.getElem_toArray, List.getElem_cons_zero, List.getElem_cons_succ, Act.put, List.setIfInBounds_toArray, List.set_cons_zero, List.set_cons_succ]
    refine' wpAnyH_take (i := 12) (oi := _) (v := _) rfl (by kernel_rfl) (by kernel_rfl) (by kernel_rfl) (fun _ _ _ h => h) (Or.inl ⟨by rfl, ?hy12x12⟩) hHeld ?rest12x12
    case hy12x12 => (intro w' hSw; (try dsimp only at hSw); go_simp; try with_reducible rfl)
    simp only [List.getElem_toArray, List.getElem_cons_zero, List.getElem_cons_succ, Act.put, List.setIfInBounds_toArray, List.set_cons_zero, List.set_cons_succ]
    refine wpAnyH_ready (rs := [8]) (by kernel_rfl) (by simp) ?_
    refine AllReadyH.cons (o := _) rfl (fun K hK => ?_) AllReadyH.nil
    rw [if_pos (by rfl)]
    go_simp
    go_at_call 48
    refine (records_log H5.b1.drew HG.out.inv.ok HSH.out.2.2).mono ?_
    rintro e1 w6 ⟨v6, rfl, H6, E6⟩
    refine hK.out _ _ (H6.b2.cell 2) (fun hHeld2 => ?_)
    clear hK K
    try simp only [List.getElem_toArray, List.getElem_cons_zero, List.getElem_cons_succ, Act.put, List.setIfInBounds_toArray, List.set_cons_zero, List.set_cons_succ]
    refine wpAnyH_ready (rs := [13]) (by kernel_rfl) (by simp) ?_
    refine AllReadyH.cons (o := _) rfl (fun K hK => ?_) AllReadyH.nil
    rw [if_pos (by rfl)]
    go_simp
    go_at_call 54
    refine (same_any v6 v M.recs l w6 H6.recL_rd (HV.out _ H6.tail.tail.tail.tail).1 HSH.out.1 HSH.out.2.1 HLL.out.1.2).mono ?_
    rintro e1 w7 ⟨rfl, q6, hw7⟩
    have H7 := (H6.drewN q6).tail
    have E7 := E5.drew.trans (E6.drewN q6)
    rw [← hw7] at H7 E7
    clear hw7 H6 E6 y5 y5' hHeld hHeld2 H5 E5
    refine hK.out _ _ (H7.b1.cell 2) (fun hHeld3 => ?_)
    clear hK K
    try simp only [List.getElem_toArray, List.getElem_cons_zero, List.getElem_cons_succ, Act.put, List.setIfInBounds_toArray, List.set_cons_zero, List.set_cons_succ]
    obtain ⟨q, hq⟩ : ∃ q, decide (M.recs = l) = q := ⟨_, rfl⟩
    rw [hq]
    cases q with
    | true =>
      refine' wpAnyH_take (i := 14) (oi := _) (v := _) rfl (by kernel_rfl) (by kernel_rfl) (by kernel_rfl) (fun _ _ _ h => h) (Or.inl ⟨by rfl, ?hy14x13⟩) hHeld3 ?rest14x13
      case hy14x13 => (intro w' hSw; (try dsimp only at hSw); go_simp; try with_reducible rfl)
      simp only [List.getElem_toArray, List.getElem_cons_zero, List.getElem_cons_succ, Act.put, List.setIfInBounds_toArray, List.set_cons_zero, List.set_cons_succ]
      refine' wpAnyH_take (i := 15) (oi := _) (v := _) rfl (by kernel_rfl) (by kernel_rfl) (by kernel_rfl) (fun _ _ _ h => h) (Or.inl ⟨by rfl, ?hy15x14⟩) hHeld3 ?rest15x14
      case hy15x14 => (intro w' hSw; (try dsimp only at hSw); go_simp; try with_reducible rfl)
      simp only [List.getElem_toArray, List.getElem_cons_zero, List.getElem_cons_succ, Act.put, List.setIfInBounds_toArray, List.set_cons_zero, List.set_cons_succ]
      refine' wpAnyH_take (i := 16) (oi := _) (v := undef) rfl (by kernel_rfl) (by kernel_rfl) (by kernel_rfl) (fun _ _ _ h => h) (Or.inr ⟨by rfl, rfl⟩) hHeld3 ?rest16x15
      try simp only [List.getElem_toArray, List.getElem_cons_zero, List.getElem_cons_succ, Act.put, List.setIfInBounds_toArray, List.set_cons_zero, List.set_cons_succ]
      refine' wpAnyH_take (i := 17) (oi := _) (v := undef) rfl (by kernel_rfl) (by kernel_rfl) (by kernel_rfl) (fun _ _ _ h => h) (Or.inr ⟨by rfl, rfl⟩) hHeld3 ?rest17x16
      try simp only [List.getElem_toArray, List.getElem_cons_zero, List.getElem_cons_succ, Act.put, List.setIfInBounds_toArray, List.set_cons_zero, List.set_cons_succ]
      refine' wpAnyH_take (i := 18) (oi := _) (v := undef) rfl (by kernel_rfl) (by kernel_rfl) (by kernel_rfl) (fun _ _ _ h => h) (Or.inr ⟨by rfl, rfl⟩) hHeld3 ?rest18x17
      try simp only [List.getElem_toArray, List.getElem_cons_zero, List.getElem_cons_succ, Act.put, List.setIfInBounds_toArray, List.set_cons_zero, List.set_cons_succ]
      refine' wpAnyH_take (i := 19) (oi := _) (v := undef) rfl (by kernel_rfl) (by kernel_rfl) (by kernel_rfl) (fun _ _ _ h => h) (Or.inr ⟨by rfl, rfl⟩) hHeld3 ?rest19x18
      try simp only [List.getElem_toArray, List.getElem_cons_zero, List.getElem_cons_succ, Act.put, List.setIfInBounds_toArray, List.set_cons_zero, List.set_cons_succ]
      refine' wpAnyH_take (i := 20) (oi := _) (v := undef) rfl (by kernel_rfl) (by kernel_rfl) (by kernel_rfl) (fun _ _ _ h => h) (Or.inr ⟨by rfl, rfl⟩) hHeld3 ?rest20x19
      try simp only [List.getElem_toArray, List.getElem_cons_zero, List.getElem_cons_succ, Act.put, List.setIfInBounds_toArray, List.set_cons_zero, List.set_cons_succ]
      refine' wpAnyH_take (i := 21) (oi := _) (v := _) rfl (by kernel_rfl) (by kernel_rfl) (by kernel_rfl) (fun _ _ _ h => h) (Or.inl ⟨by rfl, ?hy21x20⟩) hHeld3 ?rest21x20
      case hy21x20 => (intro w' hSw; (try dsimp only at hSw); go_simp; try with_reducible rfl)
      simp only [List.getElem_toArray, List.getElem_cons_zero, List.getElem_cons_succ, Act.put, List.setIfInBounds_toArray, List.set_cons_zero, List.set_cons_succ]
      refine' wpAnyH_take (i := 22) (oi := _) (v := _) rfl (by kernel_rfl) (by kernel_rfl) (by kernel_rfl) (fun _ _ _ h => h) (Or.inl ⟨by rfl, ?hy22x21⟩) hHeld3 ?rest22x21
      case hy22x21 => (intro w' hSw; (try dsimp only at hSw); go_simp; try with_reducible rfl)
      simp only [List.getElem_toArray, List.getElem_cons_zero, List.getElem_cons_succ, Act.put, List.setIfInBounds_toArray, List.set_cons_zero, List.set_cons_succ]
      have c1 := H7.b1.cell 1
      have f1 := H7.b1.free 1
      have H10 : Sat (w7.setCell ⟨bw, 1, none⟩ (.pointer (some ⟨p4, 0, none⟩))) (row bw 85 #[.pointer (some ⟨d, 0, none⟩), .pointer (some ⟨p4, 0, none⟩), v, .slice A nk ck, .int .i64 torn, .int .i64 nb, .int .i64 ag, .bool false] :: logc p4 d M :: disk d D3 :: G) := H7.b1.set (i := 1) _
      have E10 := E7.set ⟨bw, 1, none⟩ (.pointer (some ⟨p4, 0, none⟩))
      refine wpAnyH_done (by kernel_rfl) ?_ _
      go_upto_region 13 with fail
      generalize w7.setCell ⟨bw, 1, none⟩ (.pointer (some ⟨p4, 0, none⟩)) = w10 at *
      clear c1 f1 H7 E7
      go_wp2_with fail
      refine (records_log H10.b1 HG.out.inv.ok HSH.out.2.2).mono ?_
      rintro e1 w11 ⟨v11, rfl, H11, E11⟩
      obtain ⟨A11, c11, rfl⟩ := H11.recL_form
      have c2 := H11.b2.cell 2
      have f2 := H11.b2.free 2
      have H12 : Sat (w11.setCell ⟨bw, 2, none⟩ (.slice A11 M.recs.length c11)) (row bw 85 #[.pointer (some ⟨d, 0, none⟩), .pointer (some ⟨p4, 0, none⟩), (.slice A11 M.recs.length c11), .slice A nk ck, .int .i64 torn, .int .i64 nb, .int .i64 ag, .bool false] :: recL (.slice A11 M.recs.length c11) M.recs :: logc p4 d M :: disk d D3 :: G) := H11.b2.set (i := 2) _
      have E12 := (E10.trans E11).set ⟨bw, 2, none⟩ (.slice A11 M.recs.length c11)
      go_wp2_with fail
      go_ret
      exact ⟨rfl, _, _, D3, HG.out, HL.out, HDE.out ▸ HR.out, H12, E12⟩
    | false =>
      have HQ2 := Lib.hid (show decide (M.recs = lw) = true from decide_eq_true (HM.out.resolve_left (of_decide_eq_false hq)))
      clear hq
      refine' wpAnyH_take (i := 14) (oi := _) (v := _) rfl (by kernel_rfl) (by kernel_rfl) (by kernel_rfl) (fun _ _ _ h => h) (Or.inl ⟨by rfl, ?hy14x22⟩) hHeld3 ?rest14x22
      case hy14x22 => (intro w' hSw; (try dsimp only at hSw); go_simp; try with_reducible rfl)
      simp only [List.getElem_toArray, List.getElem_cons_zero, List.getElem_cons_succ, Act.put, List.setIfInBounds_toArray, List.set_cons_zero, List.set_cons_succ]
      refine' wpAnyH_take (i := 15) (oi := _) (v := _) rfl (by kernel_rfl) (by kernel_rfl) (by kernel_rfl) (fun _ _ _ h => h) (Or.inl ⟨by rfl, ?hy15x23⟩) hHeld3 ?rest15x23
      case hy15x23 => (intro w' hSw; (try dsimp only at hSw); go_simp; try with_reducible rfl)
      simp only [List.getElem_toArray, List.getElem_cons_zero, List.getElem_cons_succ, Act.put, List.setIfInBounds_toArray, List.set_cons_zero, List.set_cons_succ]
      refine' wpAnyH_take (i := 16) (oi := _) (v := _) rfl (by kernel_rfl) (by kernel_rfl) (by kernel_rfl) (fun _ _ _ h => h) (Or.inl ⟨by rfl, ?hy16x24⟩) hHeld3 ?rest16x24
      case hy16x24 => (intro w' hSw; (try dsimp only at hSw); go_simp; try with_reducible rfl)
      simp only [List.getElem_toArray, List.getElem_cons_zero, List.getElem_cons_succ, Act.put, List.setIfInBounds_toArray, List.set_cons_zero, List.set_cons_succ]
      refine' wpAnyH_take (i := 18) (oi := _) (v := _) rfl (by kernel_rfl) (by kernel_rfl) (by kernel_rfl) (fun _ _ _ h => h) (Or.inl ⟨by rfl, ?hy18x25⟩) hHeld3 ?rest18x25
      case hy18x25 => (intro w' hSw; (try dsimp only at hSw); go_simp; try with_reducible rfl)
      simp only [List.getElem_toArray, List.getElem_cons_zero, List.getElem_cons_succ, Act.put, List.setIfInBounds_toArray, List.set_cons_zero, List.set_cons_succ]
      refine wpAnyH_ready (rs := [17]) (by kernel_rfl) (by simp) ?_
      refine AllReadyH.cons (o := _) rfl (fun K hK => ?_) AllReadyH.nil
      rw [if_pos (by rfl)]
      go_simp
      go_at_call 48
      refine (records_log H7 HG.out.inv.ok HSH.out.2.2).mono ?_
      rintro e1 w8 ⟨v8, rfl, H8, E8⟩
      refine hK.out _ _ (H8.b2.cell 2) (fun hHeld4 => ?_)
      clear hK K
      try simp only [List.getElem_toArray, List.getElem_cons_zero, List.getElem_cons_succ, Act.put, List.setIfInBounds_toArray, List.set_cons_zero, List.set_cons_succ]
      refine wpAnyH_ready (rs := [19]) (by kernel_rfl) (by simp) ?_
      refine AllReadyH.cons (o := _) rfl (fun K hK => ?_) AllReadyH.nil
      rw [if_pos (by rfl)]
      go_simp
      go_at_call 54
      refine (same_any v8 vw M.recs lw w8 H8.recL_rd (HV.out _ H8.tail.tail.tail.tail).2 HSH.out.1 HSH.out.2.1 HLL.out.2.2).mono ?_
      rw [HQ2.out]
      rintro e1 w9 ⟨rfl, q8, hw9⟩
      have H9 := (H8.drewN q8).tail
      have E9 := E7.trans (E8.drewN q8)
      rw [← hw9] at H9 E9
      clear hw9 H8 E8 hHeld3 hHeld4
      refine hK.out _ _ (H9.b1.cell 2) (fun hHeld5 => ?_)
      clear hK K
      try simp only [List.getElem_toArray, List.getElem_cons_zero, List.getElem_cons_succ, Act.put, List.setIfInBounds_toArray, List.set_cons_zero, List.set_cons_succ]
      refine' wpAnyH_take (i := 20) (oi := _) (v := _) rfl (by kernel_rfl) (by kernel_rfl) (by kernel_rfl) (fun _ _ _ h => h) (Or.inl ⟨by rfl, ?hy20x26⟩) hHeld5 ?rest20x26
      case hy20x26 => (intro w' hSw; (try dsimp only at hSw); go_simp; try with_reducible rfl)
      simp only [List.getElem_toArray, List.getElem_cons_zero, List.getElem_cons_succ, Act.put, List.setIfInBounds_toArray, List.set_cons_zero, List.set_cons_succ]
      refine' wpAnyH_take (i := 21) (oi := _) (v := _) rfl (by kernel_rfl) (by kernel_rfl) (by kernel_rfl) (fun _ _ _ h => h) (Or.inl ⟨by rfl, ?hy21x27⟩) hHeld5 ?rest21x27
      case hy21x27 => (intro w' hSw; (try dsimp only at hSw); go_simp; try with_reducible rfl)
      simp only [List.getElem_toArray, List.getElem_cons_zero, List.getElem_cons_succ, Act.put, List.setIfInBounds_toArray, List.set_cons_zero, List.set_cons_succ]
      refine' wpAnyH_take (i := 22) (oi := _) (v := _) rfl (by kernel_rfl) (by kernel_rfl) (by kernel_rfl) (fun _ _ _ h => h) (Or.inl ⟨by rfl, ?hy22x28⟩) hHeld5 ?rest22x28
      case hy22x28 => (intro w' hSw; (try dsimp only at hSw); go_simp; try with_reducible rfl)
      simp only [List.getElem_toArray, List.getElem_cons_zero, List.getElem_cons_succ, Act.put, List.setIfInBounds_toArray, List.set_cons_zero, List.set_cons_succ]
      have c1 := H9.b1.cell 1
      have f1 := H9.b1.free 1
      have H10 : Sat (w9.setCell ⟨bw, 1, none⟩ (.pointer (some ⟨p4, 0, none⟩))) (row bw 85 #[.pointer (some ⟨d, 0, none⟩), .pointer (some ⟨p4, 0, none⟩), v, .slice A nk ck, .int .i64 torn, .int .i64 nb, .int .i64 ag, .bool false] :: logc p4 d M :: disk d D3 :: G) := H9.b1.set (i := 1) _
      have E10 := E9.set ⟨bw, 1, none⟩ (.pointer (some ⟨p4, 0, none⟩))
      refine wpAnyH_done (by kernel_rfl) ?_ _
      go_upto_region 13 with fail
      generalize w9.setCell ⟨bw, 1, none⟩ (.pointer (some ⟨p4, 0, none⟩)) = w10 at *
      clear c1 f1 H9 E9
      go_wp2_with fail
      refine (records_log H10.b1 HG.out.inv.ok HSH.out.2.2).mono ?_
      rintro e1 w11 ⟨v11, rfl, H11, E11⟩
      obtain ⟨A11, c11, rfl⟩ := H11.recL_form
      have c2 := H11.b2.cell 2
      have f2 := H11.b2.free 2
      have H12 : Sat (w11.setCell ⟨bw, 2, none⟩ (.slice A11 M.recs.length c11)) (row bw 85 #[.pointer (some ⟨d, 0, none⟩), .pointer (some ⟨p4, 0, none⟩), (.slice A11 M.recs.length c11), .slice A nk ck, .int .i64 torn, .int .i64 nb, .int .i64 ag, .bool false] :: recL (.slice A11 M.recs.length c11) M.recs :: logc p4 d M :: disk d D3 :: G) := H11.b2.set (i := 2) _
      have E12 := (E10.trans E11).set ⟨bw, 2, none⟩ (.slice A11 M.recs.length c11)
      go_wp2_with fail
      go_ret
      exact ⟨rfl, _, _, D3, HG.out, HL.out, HDE.out ▸ HR.out, H12, E12⟩
end Go.Proofs.Ythbabdjicplooaa

/- package deponentlaw4: one call of W2's runs. Conditions: none. -/
namespace Go.Proofs.Ythbabdjicplooaa
open Go.RowKit

/-- One call that is asked for. -/
structure AskW where
  kind : Int
  size : Int
  after : Int
  again : Int
  fill : Int
  A : Option Addr
  nk : Nat
  ck : Nat
  keep : List Bool
  torn : Int
  nb : Int
def cellsW (x : AskW) : List Value := [.int .i64 x.kind, .int .i64 x.size, .int .i64 x.after, .int .i64 x.again, .int .u8 x.fill, .slice x.A x.nk x.ck, .int .i64 x.torn, .int .i64 x.nb]
def AskWOk (F : List HP) (x : AskW) : Prop := (-9223372036854775808 ≤ x.again ∧ x.again ≤ 9223372036854775807) ∧ (0 ≤ x.fill ∧ x.fill ≤ 255) ∧ Reads F 1 x.A x.nk (x.keep.map (Value.bool))

/-- What a cut is, and when it is to come. -/
structure CutW (F : List HP) (A : Option Addr) (nk : Nat) (keep : List Bool) (ag : Int) : Prop where
  keep : Reads F 1 A nk (keep.map Value.bool)
  ag : ag ≤ 9223372036854775807
structure StW (D : Dsk) (L : LogV) (e : Nat) (ar : Bool) : Prop where
  good : GoodW D L e
  left : ar = false → D.left = none
/-- A call on the log has gone, or the disk has stopped. -/
structure Met2 (D D' : Dsk) (L Lx : LogV) (lw : List (List Int)) (e : Nat) (ar : Bool) (r : Int) : Prop where
  or : r = 0 ∨ r = 13
  ok : r = 0 → StW D' Lx e ar ∧ Lx.recs = lw ∧ Rest D D' L
  no : r = 13 → ar = true ∧ Lx.recs = L.recs ∧ ∀ keep torn nb, ∃ M, GoodW (D'.crash keep torn nb) M e ∧ (M.recs = L.recs ∨ M.recs = lw) ∧ Rest D (D'.crash keep torn nb) L
  logok : LogOk Lx
  pend : D'.pend.length < 4294967296
  lw : lw.length < 4294967296 ∧ InL lw ∧ ∀ x ∈ lw, x.length < 4294967296
theorem GoodW.up {D : Dsk} {L : LogV} {e : Nat} (h : GoodW D L e) : GoodW D L (e + 1) := ⟨h.inv, h.from_, h.count, by have := h.ep; omega, h.short⟩
theorem Met2.same {D D' : Dsk} {L : LogV} {e : Nat} {ar : Bool} (h : StW D' L e ar) (hr : Rest D D' L) : Met2 D D' L L L.recs (e + 1) ar 0 :=
  ⟨.inl rfl, fun _ => ⟨⟨h.good.up, h.left⟩, rfl, hr⟩, fun h => by omega, h.good.inv.ok, by rw [h.good.inv.pend]; simp, h.good.recs, h.good.inv.inl, h.good.short⟩
theorem clearL_ok {D : Dsk} {L : LogV} (h : Inv D L) (he : L.epoch + 1 < 250) : LogOk (clearL L) :=
  ⟨by have := h.fit; have := h.len; show L.from_ + L.count ≤ 8192; omega, by show (0 : Nat) ≤ 8192; omega, by show (0 : Nat) ≤ 8192; omega, by have := h.ep; show 0 ≤ L.epoch + 1 ∧ L.epoch + 1 < 18446744073709551616; omega⟩
theorem Rest.rfl' (D : Dsk) (L : LogV) : Rest D D L := ⟨rfl, fun _ _ _ => rfl⟩
theorem Went.met2 {D D' : Dsk} {L L' : LogV} {e : Nat} {ar : Bool} {r : Int} (h : Went D D' L L' r) (hs : StW D L e ar) (hg : ∀ D', Inv D' L' → GoodW D' L' (e + 1)) (hrec : L'.recs.length < 4294967296 ∧ InL L'.recs ∧ ∀ x ∈ L'.recs, x.length < 4294967296) (hok : LogOk L') :
    Met2 D D' L (okL r L' L) L'.recs (e + 1) ar r := by
  refine ⟨h.or, fun h0 => ?_, fun h0 => ?_, ?_, by have := h.pend; omega, hrec⟩
  · have h1 := h.ok h0
    rw [show okL r L' L = L' from if_pos h0]
    refine ⟨⟨hg _ h1.1, fun ha => (h.fine (hs.left ha)).2⟩, rfl, h1.2⟩
  · rw [show okL r L' L = L from if_neg (by omega)]
    refine ⟨?_, rfl, fun keep torn nb => ?_⟩
    · cases ar with
      | true => rfl
      | false => have := (h.fine (hs.left rfl)).1; omega
    · have h1 := h.no h0 keep torn nb
      rcases h1.1 with h2 | h2
      · exact ⟨L, ⟨h2, hs.good.from_, hs.good.count, by have := hs.good.ep; omega, hs.good.short⟩, .inl rfl, h1.2⟩
      · exact ⟨L', hg _ h2, .inr rfl, h1.2⟩
  · unfold okL
    split
    · exact hok
    · exact hs.good.inv.ok
theorem Sat.recL_nil {w : World} {F : List HP} (H : Sat w F) : Sat w (recL (.slice none 0 0) [] :: F) :=
  Sat.recL_shut [] rfl ((Sat.shut_all (L := []) H).own_nil 30 1)
def Lists (X : List HP) (v : Value) (l : List (List Int)) (vw : Value) (lw : List (List Int)) : Prop :=
  ∀ (F : List HP) (w : World), Sat w (X ++ F) → RdB w v l ∧ RdB w vw lw ∧ Sat w (recL vw lw :: F)

theorem lists_add {R : List (Value × List Int)} {v vw vb : Value} {b : List Int} : Lists [own 30 1 v R.length (R.map (·.1)), own 30 1 vw (R.length + 1) (R.map (·.1) ++ [vb]), ownB R, own 5 1 vb b.length (bytes b)] v (R.map (·.2)) vw (R.map (·.2) ++ [b]) := by
  intro F w h
  have h : Sat w (own 30 1 v R.length (R.map (·.1)) :: own 30 1 vw (R.length + 1) (R.map (·.1) ++ [vb]) :: ownB R :: own 5 1 vb b.length (bytes b) :: F) := h
  have h2 : Sat w (own 30 1 vw (R.length + 1) (R.map (·.1) ++ [vb]) :: ownB (R ++ [(vb, b)]) :: F) := (Sat.ownB_snoc h.tail.b2.b2.b1).b1
  have h3 : Sat w (recL vw (R.map (·.2) ++ [b]) :: F) := Sat.recL_shut (R ++ [(vb, b)]) (by simp) (by rw [List.length_append, List.map_append]; exact h2)
  exact ⟨(Sat.recL_shut R rfl h.b2.b1).recL_rd, h3.recL_rd, h3⟩
def Stepped (w w' : World) (bw d : Nat) (D : Dsk) (L : LogV) (e : Nat) (F : List HP) : Prop :=
  ∃ (p' : Nat) (A0' : Option Addr) (c0' : Nat) (A' : Option Addr) (nk' ck' : Nat) (keep' : List Bool) (torn' nb' ag' : Int) (ar' : Bool) (D' : Dsk) (L' : LogV), StW D' L' (e + 1) ar' ∧ CutW F A' nk' keep' ag' ∧ Rest D D' L ∧
      Sat w' (row bw 85 #[.pointer (some ⟨d, 0, none⟩), .pointer (some ⟨p', 0, none⟩), (.slice A0' L'.recs.length c0'), .slice A' nk' ck', .int .i64 torn', .int .i64 nb', .int .i64 ag', .bool ar'] :: recL (.slice A0' L'.recs.length c0') L'.recs :: logc p' d L' :: disk d D' :: F) ∧ Env w w'
set_option maxHeartbeats 16000000 in
set_option maxRecDepth 100000 in
theorem step_any {w : World} {bw d p : Nat} {D : Dsk} {L : LogV} {F : List HP} (A0 : Option Addr) (c0 : Nat) (A : Option Addr) (nk ck : Nat) (keep : List Bool) (torn nb ag : Int) (ar : Bool) (e : Nat) (x : AskW)
    (H : Sat w (row bw 85 #[.pointer (some ⟨d, 0, none⟩), .pointer (some ⟨p, 0, none⟩), (.slice A0 L.recs.length c0), .slice A nk ck, .int .i64 torn, .int .i64 nb, .int .i64 ag, .bool ar] :: recL (.slice A0 L.recs.length c0) L.recs :: logc p d L :: disk d D :: F))
    (hs : StW D L e ar) (hc : CutW F A nk keep ag) (hx : AskWOk F x) (he : e < 100) :
    Calls Try.prog 56 #[.pointer (some ⟨bw, 0, none⟩), .agg (cellsW x).toArray] w fun e' w' => e' = .returned (.bool true) ∧
      Stepped w w' bw d D L e F := by
  have HS := Lib.hid hs
  have HC := Lib.hid hc
  have HX := Lib.hid hx
  have HE := Lib.hid he
  clear hs hc hx he
  obtain ⟨kd, sz, af, gn, fl, AK, nkx, ckx, kpx, tn, bn⟩ := x
  rw [show (cellsW ⟨kd, sz, af, gn, fl, AK, nkx, ckx, kpx, tn, bn⟩).toArray = #[.int .i64 kd, .int .i64 sz, .int .i64 af, .int .i64 gn, .int .u8 fl, .slice AK nkx ckx, .int .i64 tn, .int .i64 bn] from rfl]
  have HFL := Lib.hid (show 0 ≤ fl ∧ fl ≤ 255 from HX.out.2.1)
  have HGN := Lib.hid (show gn ≤ 9223372036854775807 from HX.out.1.2)
  have HKX := Lib.hid (show Reads F 1 AK nkx (kpx.map Value.bool) from HX.out.2.2)
  obtain ⟨nl, hnl⟩ : ∃ nl, L.recs.length = nl := ⟨_, rfl⟩
  rw [hnl] at H
  have HNL := Lib.hid hnl
  clear hnl HX
  go_enter Try.func56, Try.ntmps56
  go_upto_region 1 with fail
  have H1 := H.alloc (.cells #[.int .i64 kd, .int .i64 sz, .int .i64 af, .int .i64 gn, .int .u8 fl, .slice AK nkx ckx, .int .i64 tn, .int .i64 bn] 88)
  have E1 := (Env.refl w).alloc (.cells #[.int .i64 kd, .int .i64 sz, .int .i64 af, .int .i64 gn, .int .u8 fl, .slice AK nkx ckx, .int .i64 tn, .int .i64 bn] 88)
  generalize w.alloc (.cells #[.int .i64 kd, .int .i64 sz, .int .i64 af, .int .i64 gn, .int .u8 fl, .slice AK nkx ckx, .int .i64 tn, .int .i64 bn] 88) = w1 at *
  generalize w.heap.size = bx at *
  have x2 : w1.cell? ⟨bw, 2, none⟩ = some (.slice A0 nl c0) := H1.b1.cell 2
  have z0 : w1.cell? ⟨bx, 0, none⟩ = some (.int .i64 kd) := H1.cell 0
  clear H
  go_upto_block 0 with fail
  go_cut [5, 6] from 7 to 146 (fun s5 s6 wr => ∃ (X : List HP) (Aw : Option Addr) (nw cw : Nat) (lw : List (List Int)) (r : Int) (p' : Nat) (Lx : LogV) (D' : Dsk) (A' : Option Addr) (nk' ck' : Nat) (keep' : List Bool) (torn' nb' ag' : Int) (ar' : Bool),
      s5 = .slice Aw nw cw ∧ s6 = .int .i64 r ∧ Hid (Met2 D D' L Lx lw (e + 1) ar' r ∧ CutW F A' nk' keep' ag' ∧ Lists X (.slice A0 nl c0) L.recs (.slice Aw nw cw) lw ∧ nw = lw.length) ∧
      Sat wr (row bw 85 #[.pointer (some ⟨d, 0, none⟩), .pointer (some ⟨p', 0, none⟩), (.slice A0 nl c0), .slice A' nk' ck', .int .i64 torn', .int .i64 nb', .int .i64 ag', .bool ar'] :: all X :: logc p' d Lx :: disk d D' :: F) ∧ Env w wr)
  case first =>
    have HI := Lib.hid (show L.recs.length < 4294967296 ∧ InL L.recs ∧ ∀ x ∈ L.recs, x.length < 4294967296 from ⟨HS.out.good.recs, HS.out.good.inv.inl, HS.out.good.short⟩)
    by_cases k1 : kd = 1
    · subst k1
      have hb := within_range sz (lo := 0) (hi := 900) (by omega)
      obtain ⟨s0, hs0⟩ := Int.eq_ofNat_of_zero_le hb.1
      obtain ⟨s, hs⟩ : ∃ s, s0 + 1 = s := ⟨_, rfl⟩
      have hsb : 1 ≤ s ∧ s ≤ 901 := by omega
      have hws : IntKind.i64.wrap ((s0 : Int) + 1) = (s : Int) := by rw [IntWalk.i64_in _ (by omega)]; omega
      have HS0 := Lib.hid hs0
      clear hb hs0 hs x2
      go_upto_region 5 with fail
      have y : w1.cell? ⟨bx, 1, none⟩ = some (.int .i64 sz) ∧ w1.cell? ⟨bx, 4, none⟩ = some (.int .u8 fl) := ⟨H1.cell 1, H1.cell 4⟩
      go_region_held3 (fun w' => w'.cell? ⟨bx, 1, none⟩ = some (.int .i64 sz) ∧ w'.cell? ⟨bx, 4, none⟩ = some (.int .u8 fl)) (first | exact y | exact ⟨H2.b1.cell 1, H2.b1.cell 4⟩) (first
        | (go_at_call 32; refine (within_any sz 0 900 _ (by omega) (by omega) (by omega)).mono ?_; rw [HS0.out]; rintro e1 wq ⟨rfl, rfl⟩)
        | (go_at_call 51; refine (record_any s fl H1.drew HFL.out (by omega)).mono ?_; rintro e1 w2 ⟨v2, rfl, H2, E2⟩; obtain ⟨A2, c2, rfl, hc2, -, -⟩ := H2.own_form))
      have HB := Lib.hid (show InB (recordL s fl) ∧ (recordL s fl).length = s ∧ s ≤ c2 from ⟨recordL_inb _ _, recordL_len _ _, hc2⟩)
      generalize recordL s fl = b at *
      have E3 := E1.drew.trans E2
      clear y E1 E2 H1 hws HS0 hc2 z0
      have y1 : w2.cell? ⟨bw, 1, none⟩ = some (.pointer (some ⟨p, 0, none⟩)) := H2.b2.cell 1
      go_wp2_with fail
      refine (room_any H2.b4 HS.out.good.inv.ok).mono ?_
      rintro e1 w3 ⟨rfl, q3, hw3⟩
      have H3 := H2.drewN q3
      have E4 := E3.drewN q3
      rw [← hw3] at H3 E4
      clear hw3 H2 E3 y1
      obtain ⟨ro, hro⟩ : ∃ r, roomL L = r := ⟨_, rfl⟩
      have HRO := Lib.hid hro
      have hrb : ro ≤ 5136 := by have := HS.out.good.count; rw [← hro]; unfold roomL; omega
      rw [hro]
      clear hro
      have y1 : w3.cell? ⟨bw, 1, none⟩ = some (.pointer (some ⟨p, 0, none⟩)) := H3.b2.cell 1
      by_cases hfit : s ≤ ro
      · obtain ⟨R, hR, H4⟩ := H3.b3.recL_open
        have hRl : R.length = nl := by have := congrArg List.length hR; rw [List.length_map] at this; rw [this]; exact HNL.out
        rw [hRl] at H4
        have hnlb : nl ≤ 8192 := by rw [← HNL.out]; exact HS.out.good.inv.ok.recs
        have HRR := Lib.hid (And.intro hR hRl)
        have RD := Lib.hid H4.own_at
        have HFM := H4.own_form
        clear hR hRl H3
        have y2 : (w3.alloc (.cells #[] 30)).cell? ⟨bw, 2, none⟩ = some (.slice A0 nl c0) := cell_alloc _ _ _ (H4.b4.cell 2)
        have HONE := Lib.hid (show ∀ u ∈ R.map (·.1), u.oneCell' = true from fun u hu => by
          obtain ⟨q, hq, rfl⟩ := List.mem_map.1 hu
          obtain ⟨A', c', h, -, -⟩ := H4.b1.ownB_at hq
          rw [h]; rfl)
        go_upto_region 10 with (first
          | (at_builtin; refine wpList_append_sat rfl (.tmp 52) (.tmp 56) 39 rfl (H4.own_lit 30 1 #[] 0 (by simp [maxLen]) rfl) rfl _ 24 Try.underlying39 Try.info_bytes rfl (by omega) _ nl c0 (R.map (·.1)) rfl (RD.out.1.src_none (by omega)) RD.out.1.1 (RD.out.1.alloc _).src HONE.out (by simp only [maxLen]; omega) (by omega) ?_; intro v8 w8 H8 E8; rw [Nat.zero_add] at H8; obtain ⟨A8, c8, rfl, -, -, -⟩ := H8.own_form)
          | (at_builtin; go_must (refine wpList_append_sat rfl (.tmp 57) (.tmp 59) 39 rfl (H8.alloc' _) rfl _ 24 Try.underlying39 Try.info_bytes rfl (by omega) _ _ _ [.slice A2 s c2] rfl (fun h => by cases h) rfl (lit_src _ _ _ _ rfl) (by simp [Value.oneCell']) (by simp only [maxLen]; omega) (by omega) ?_); intro v9 w9 H9 E9; obtain ⟨A9, c9, rfl, -, -, -⟩ := H9.own_form))
        have E10 := ((E4.alloc (.cells #[] 30)).trans E8).trans ((Env.refl w8).alloc (.cells #[.slice A2 s c2] 30) |>.trans E9)
        have H10 := H9
        rw [show (#[] : Array Value).toList ++ R.map (·.1) ++ [Value.slice A2 s c2] = R.map (·.1) ++ [Value.slice A2 s c2] from rfl] at H10
        clear H9 E9 H8 E8 H4 E4 y1 y2 HONE RD HFM
        go_wp2_with fail
        refine (roomy_byte A2 s c2 b 165 H10 (fun w h => h.b3.own_at.1) (by omega)).mono ?_
        rintro e1 w11 ⟨v11, rfl, H11, E11⟩
        obtain ⟨A11, c11, rfl, hc11, -, -⟩ := H11.own_form
        have E11' := E10.trans E11
        have H12 := Sat.shut_all (L := [_, _, _, _]) H11.b5.tail.b4.b4.b3.b4
        obtain ⟨X, hX⟩ : ∃ X, [own 30 1 (.slice A0 nl c0) nl (R.map (·.1)), own 30 1 (.slice A9 (nl + 1) c9) (nl + 1) (R.map (·.1) ++ [Value.slice A2 s c2]), ownB R, own 5 1 (.slice A2 s c2) s (bytes b)] = X := ⟨_, rfl⟩
        have HLS := Lib.hid (show Lists X (.slice A0 nl c0) L.recs (.slice A9 (nl + 1) c9) (L.recs ++ [b]) ∧ ∀ F w, Sat w (all X :: F) → Rd w 1 A2 s (bytes b) from by
          subst hX
          refine ⟨?_, fun F w h => h.open_all.b3.own_at.1⟩
          have := lists_add (R := R) (v := .slice A0 nl c0) (vw := .slice A9 (nl + 1) c9) (vb := .slice A2 s c2) (b := b)
          rw [HRR.out.1, HRR.out.2, HB.out.2.1] at this
          exact this)
        rw [hX] at H12
        have HTK := Lib.hid (show ∀ w F2, Sat w (own 5 1 (.slice A11 (s + 80) c11) (s + 80) (bytes (b ++ List.replicate 80 165)) :: F2) → Rd w 1 A11 s (bytes b) from fun w F2 h => by
          have := h.own_at.1.take (m := s) (by omega)
          rwa [Nat.mul_one, bytes, List.map_append, List.take_left' (by rw [List.length_map, HB.out.2.1])] at this)
        have y1 : w11.cell? ⟨bw, 1, none⟩ = some (.pointer (some ⟨p, 0, none⟩)) := H12.b2.cell 1
        have hm0 : (0 : Int) ≤ (s : Int) := by omega
        have hmc : (s : Int) ≤ (c11 : Int) := by omega
        clear H10 E10 E11 H11 hX HRR hc11 hnlb
        go_upto_region 11 with fail
        go_region_held3 (fun w' => w'.cell? ⟨bw, 1, none⟩ = some (.pointer (some ⟨p, 0, none⟩))) (first | exact y1 | exact H13.b4.cell 1) (first
          | (go_at_call 47; refine (commit_may A11 s c11 b HS.out.good.inv H12.b4.b4.drew (fun w h => HTK.out w _ h.b1) (by omega) (by rw [HB.out.2.1]; omega) HB.out.1 (by rw [HB.out.2.1, HRO.out]; omega)).mono ?_; rintro e1 w13 ⟨r, D13, rfl, hW, H13, E13⟩))
        have HW := Lib.hid hW
        have E13' := E11'.drew.trans E13
        clear hW H12 E11' E13 y1 hm0 hmc
        go_upto_region 12 with fail
        have HBD := Lib.hid (show s < 4294967296 ∧ s ≤ c11 ∧ s ≤ c2 from ⟨by omega, by have := H13.b3.own_at.2.2; omega, HB.out.2.2⟩)
        obtain ⟨rn, hrn⟩ : ∃ rn, roomL (commitL L b) = rn := ⟨_, rfl⟩
        obtain ⟨i1, hi1⟩ : ∃ k : Int, (ro : Int) - (s : Int) = k := ⟨_, rfl⟩
        obtain ⟨i2, hi2⟩ : ∃ k : Int, i1 - 256 = k := ⟨_, rfl⟩
        have hw1 : IntKind.i64.wrap ((ro : Int) - (s : Int)) = i1 := by rw [IntWalk.i64_in _ (by omega)]; exact hi1
        have hw2 : IntKind.i64.wrap (i1 - 256) = i2 := by rw [IntWalk.i64_in _ (by omega)]; exact hi2
        have hlt : ¬ (rn : Int) < i2 := by
          have h1 := HRO.out
          have h2 := HB.out.2.1
          have h3 : (L.count - 2 - (L.next + partsN b.length)) * 107 = rn := hrn
          unfold partsN at h3
          unfold roomL at h1
          omega
        have HRN := Lib.hid hrn
        have HFIT := Lib.hid hfit
        have HSB := Lib.hid hsb
        have HWW := Lib.hid (And.intro hw1 (And.intro hw2 hlt))
        clear hi1 hi2 hrn hsb hrb hfit hw1 hw2 hlt
        have hgood : ∀ D', Inv D' (commitL L b) → GoodW D' (commitL L b) (e + 1) := fun D' h => ⟨h, HS.out.good.from_, HS.out.good.count, by have := HS.out.good.ep; show L.epoch ≤ ((e + 1 : Nat) : Int); omega, fun x hx => by
          have hx : x ∈ L.recs ++ [b] := hx
          rcases List.mem_append.1 hx with hx | hx
          · exact HS.out.good.short x hx
          · rw [List.mem_singleton.1 hx, HB.out.2.1]; exact HBD.out.1⟩
        have hM := Went.met2 HW.out HS.out hgood ⟨by show (L.recs ++ [b]).length < 4294967296; rw [List.length_append]; have := HS.out.good.inv.ok.recs; simp only [List.length_cons, List.length_nil]; omega, fun x hx => by
          have hx : x ∈ L.recs ++ [b] := hx
          rcases List.mem_append.1 hx with hx | hx
          · exact HS.out.good.inv.inl x hx
          · rw [List.mem_singleton.1 hx]; exact ⟨fun h => by have h1 := HB.out.2.1; have h2 := HSB.out; rw [h] at h1; simp at h1; omega, HB.out.1⟩, fun x hx => by
          have hx : x ∈ L.recs ++ [b] := hx
          rcases List.mem_append.1 hx with hx | hx
          · exact HS.out.good.short x hx
          · rw [List.mem_singleton.1 hx, HB.out.2.1]; exact HBD.out.1⟩ (by
          have h1 := HS.out.good.inv.ok
          have h2 := HS.out.good.count
          have h3 := HS.out.good.inv.nx
          have h4 := HS.out.good.inv.rl
          have h5 := HSB.out
          refine ⟨h1.far, ?_, ?_, h1.ep⟩
          · show L.next + partsN b.length ≤ 8192
            rw [HB.out.2.1]; unfold partsN; omega
          · show (L.recs ++ [b]).length ≤ 8192
            rw [List.length_append]; simp only [List.length_cons, List.length_nil]; omega)
        have HM := Lib.hid hM
        clear hgood hM
        rcases HW.out.or with h0 | h0
        · subst h0
          rw [show okL 0 (commitL L b) L = commitL L b from if_pos rfl] at H13 HM
          go_wp2_with fail
          refine (intact_byte A11 A2 s (s + 80) c11 c2 b 165 rfl H13 (fun w h => h.b3.own_at.1) (fun w h => HLS.out.2 _ w h.b2) HBD.out.1 HBD.out.2.1).mono ?_
          rintro e1 w14 ⟨rfl, H14, E14⟩
          have E14' := E13'.trans E14
          have y1 : w14.cell? ⟨bw, 1, none⟩ = some (.pointer (some ⟨p, 0, none⟩)) := H14.b4.cell 1
          clear H13 E13' E14
          obtain ⟨hw1, hw2, hlt⟩ := HWW.out
          go_wp2_with fail
          refine (room_any H14 HM.out.logok).mono ?_
          rw [HRN.out]
          rintro e1 w15 ⟨rfl, q15, hw15⟩
          have H15 := H14.drewN q15
          have E15 := E14'.drewN q15
          rw [← hw15] at H15 E15
          clear hw15 H14 E14' y1
          go_wp2_with fail
          go_meet
          case rel =>
            have hn1 : nl + 1 = (L.recs ++ [b]).length := by rw [List.length_append, HNL.out]; rfl
            exact ⟨X, A9, nl + 1, c9, L.recs ++ [b], 0, p, commitL L b, D13, A, nk, ck, keep, torn, nb, ag, ar, rfl, rfl, Lib.hid ⟨HM.out, HC.out, HLS.out.1, hn1⟩, H15.b3.tail.b3.b3.b1, E15⟩
        · subst h0
          rw [show okL 13 (commitL L b) L = L from if_neg (by omega)] at H13 HM
          go_wp2_with fail
          refine (intact_byte A11 A2 s (s + 80) c11 c2 b 165 rfl H13 (fun w h => h.b3.own_at.1) (fun w h => HLS.out.2 _ w h.b2) HBD.out.1 HBD.out.2.1).mono ?_
          rintro e1 w14 ⟨rfl, H14, E14⟩
          have E15 := E13'.trans E14
          clear H13 E13' E14
          go_wp2_with fail
          go_meet
          case rel =>
            have hn1 : nl + 1 = (L.recs ++ [b]).length := by rw [List.length_append, HNL.out]; rfl
            exact ⟨X, A9, nl + 1, c9, L.recs ++ [b], 13, p, L, D13, A, nk, ck, keep, torn, nb, ag, ar, rfl, rfl, Lib.hid ⟨HM.out, HC.out, HLS.out.1, hn1⟩, H14.b3.tail.b3.b3.b1, E15⟩
      · have hlts : (ro : Int) < (s : Int) := by omega
        go_wp2_with fail
        refine (commit_full A2 s c2 b HS.out.good.inv H3.b5.b5 (fun w h => h.own_at.1) HB.out.2.2 HB.out.1 (by omega) (by rw [HB.out.2.1, HRO.out]; omega)).mono ?_
        rintro e1 w4 ⟨rfl, H4, E5⟩
        have E6 := E4.trans E5
        clear H3 E4 E5 y1
        have y1 : w4.cell? ⟨bw, 1, none⟩ = some (.pointer (some ⟨p, 0, none⟩)) := H4.b4.cell 1
        go_wp2_with fail
        refine (room_any H4 HS.out.good.inv.ok).mono ?_
        rw [HRO.out]
        rintro e1 w5 ⟨rfl, q5, hw5⟩
        have H5 := H4.drewN q5
        have E7 := E6.drewN q5
        rw [← hw5] at H5 E7
        clear hw5 H4 E6 y1
        go_wp2_with fail
        go_ret
        have H6 := H5.b2.tail.b2.tail.b3.b3
        rw [← HNL.out] at H6
        exact ⟨rfl, p, A0, c0, A, nk, ck, keep, torn, nb, ag, ar, D, L, ⟨HS.out.good.up, HS.out.left⟩, HC.out, Rest.rfl' _ _, H6, E7⟩
    · by_cases k2 : kd = 2
      · subst k2
        have y1 : w1.cell? ⟨bw, 1, none⟩ = some (.pointer (some ⟨p, 0, none⟩)) := H1.b1.cell 1
        clear x2
        go_wp2_with fail
        refine (clear_may HS.out.good.inv (by have := HS.out.good.ep; have := HE.out; omega) H1.b4.b4).mono ?_
        rintro e1 w2 ⟨r, D2, rfl, hW, H2, E2⟩
        have HW := Lib.hid hW
        clear hW
        go_wp2_with fail
        go_meet
        case rel =>
          have H3 := (Sat.shut_all (L := [_]) H2.b2.tail.b3).b3
          refine ⟨[recL (.slice A0 nl c0) L.recs], none, 0, 0, [], r, p, okL r (clearL L) L, D2, A, nk, ck, keep, torn, nb, ag, ar, rfl, rfl, Lib.hid ⟨?_, HC.out, fun F w h => ⟨h.recL_rd, (Sat.recL_nil h).recL_rd, Sat.recL_nil h.tail⟩, rfl⟩, H3, E1.trans E2⟩
          exact Went.met2 HW.out HS.out (fun D' h => ⟨h, HS.out.good.from_, HS.out.good.count, by have := HS.out.good.ep; show L.epoch + 1 ≤ ((e + 1 : Nat) : Int); omega, (fun x hx => by cases hx)⟩) ⟨(by show (0 : Nat) < 4294967296; omega), (fun x hx => by cases hx), (fun x hx => by cases hx)⟩ (clearL_ok HS.out.good.inv (by have := HS.out.good.ep; have := HE.out; omega))
      · by_cases k3 : kd = 3
        · subst k3
          have y7 : w1.cell? ⟨bw, 7, none⟩ = some (.bool ar) := H1.b1.cell 7
          cases ar with
          | true =>
            go_wp2_with fail
            go_ret
            have h1 := H1.tail
            rw [← HNL.out] at h1
            exact ⟨rfl, p, A0, c0, A, nk, ck, keep, torn, nb, ag, true, D, L, ⟨HS.out.good.up, HS.out.left⟩, HC.out, Rest.rfl' _ _, h1, E1⟩
          | false =>
            have y0 : w1.cell? ⟨bw, 0, none⟩ = some (.pointer (some ⟨d, 0, none⟩)) := H1.b1.cell 0
            clear x2
            go_wp2_with fail
            refine (open_at 3 50 HS.out.good.inv HS.out.good.from_ HS.out.good.count H1.b4).mono ?_
            rintro e1 w2 ⟨p2, rfl, H2, E2⟩
            have H3 := H2.b3
            have E3 := E1.trans E2
            have c1 := H3.cell 1
            have f1 := H3.free 1
            have H4 : Sat (w2.setCell ⟨bw, 1, none⟩ (.pointer (some ⟨p2, 0, none⟩))) (row bw 85 #[.pointer (some ⟨d, 0, none⟩), .pointer (some ⟨p2, 0, none⟩), (.slice A0 nl c0), .slice A nk ck, .int .i64 torn, .int .i64 nb, .int .i64 ag, .bool false] :: logc p2 d L :: disk d D :: blk bx (.cells #[.int .i64 3, .int .i64 sz, .int .i64 af, .int .i64 gn, .int .u8 fl, .slice AK nkx ckx, .int .i64 tn, .int .i64 bn] 88) :: recL (.slice A0 nl c0) L.recs :: logc p d L :: F) := H3.set (i := 1) _
            have E4 := E3.set ⟨bw, 1, none⟩ (.pointer (some ⟨p2, 0, none⟩))
            clear H1 E1 y7 y0 H2 E2 E3 z0
            go_wp2_with fail
            go_meet
            case rel =>
              have H5 := (Sat.shut_all (L := [_]) H4.b3.tail.b4.tail.b3).b1
              exact ⟨[recL (.slice A0 nl c0) L.recs], A0, nl, c0, L.recs, 0, p2, L, D, A, nk, ck, keep, torn, nb, ag, false, rfl, rfl, Lib.hid ⟨Met2.same HS.out (Rest.rfl' _ _), HC.out, fun F w h => ⟨h.recL_rd, h.recL_rd, h⟩, HNL.out.symm⟩, H5, E4⟩
        · by_cases k4 : kd = 4
          · subst k4
            go_upto_region 25 with fail
            have y : w1.cell? ⟨bw, 0, none⟩ = some (.pointer (some ⟨d, 0, none⟩)) ∧ w1.cell? ⟨bx, 2, none⟩ = some (.int .i64 af) := ⟨H1.b1.cell 0, H1.cell 2⟩
            have hb := (within_range af (lo := 0) (hi := 12) (by omega))
            obtain ⟨wa, hwa⟩ : ∃ wa, within af 0 12 = wa := ⟨_, rfl⟩
            rw [hwa] at hb
            have HB := Lib.hid hb
            have HWA := Lib.hid hwa
            clear hb hwa x2
            go_region_held3 (fun w' => w'.cell? ⟨bw, 0, none⟩ = some (.pointer (some ⟨d, 0, none⟩)) ∧ w'.cell? ⟨bx, 2, none⟩ = some (.int .i64 af)) (first | exact y | exact ⟨H2.b2.cell 0, H2.b1.cell 2⟩) (first
              | (go_at_call 32; refine (within_any af 0 12 _ (by omega) (by omega) (by omega)).mono ?_; rw [HWA.out]; rintro e1 wq ⟨rfl, rfl⟩)
              | (go_at_call 33; refine (dstop wa H1.b4.drew (by have := HB.out; omega)).mono ?_; rintro e1 w2 ⟨rfl, H2, E2⟩))
            have E3 := E1.drew.trans E2
            have HS2 := Lib.hid (show StW ({ D with left := some wa.toNat } : Dsk) L e true ∧ Rest D ({ D with left := some wa.toNat } : Dsk) L from ⟨⟨HS.out.good.stopped _, fun h => by cases h⟩, ⟨rfl, fun _ _ _ => rfl⟩⟩)
            generalize ({ D with left := some wa.toNat } : Dsk) = D2 at *
            have H3 := H2.b2
            clear H1 E1 y E2 H2
            have x5 := H3.b2.cell 5
            have x6 := H3.b2.cell 6
            have x7 := H3.b2.cell 7
            have c3 := H3.cell 3
            have c4 := H3.cell 4
            have c5 := H3.cell 5
            have f3 := H3.free 3
            have f4 := H3.free 4
            have f5 := H3.free 5
            go_upto_region 27 with fail
            have H4 : Sat (((w2.setCell ⟨bw, 3, none⟩ (.slice AK nkx ckx)).setCell ⟨bw, 4, none⟩ (.int .i64 tn)).setCell ⟨bw, 5, none⟩ (.int .i64 bn)) (row bw 85 #[.pointer (some ⟨d, 0, none⟩), .pointer (some ⟨p, 0, none⟩), (.slice A0 nl c0), .slice AK nkx ckx, .int .i64 tn, .int .i64 bn, .int .i64 ag, .bool ar] :: disk d D2 :: blk bx (.cells #[.int .i64 4, .int .i64 sz, .int .i64 af, .int .i64 gn, .int .u8 fl, .slice AK nkx ckx, .int .i64 tn, .int .i64 bn] 88) :: recL (.slice A0 nl c0) L.recs :: logc p d L :: F) := ((H3.set (i := 3) _).set (i := 4) _).set (i := 5) _
            have E4 := ((E3.set ⟨bw, 3, none⟩ (.slice AK nkx ckx)).set ⟨bw, 4, none⟩ (.int .i64 tn)).set ⟨bw, 5, none⟩ (.int .i64 bn)
            generalize ((w2.setCell ⟨bw, 3, none⟩ (.slice AK nkx ckx)).setCell ⟨bw, 4, none⟩ (.int .i64 tn)).setCell ⟨bw, 5, none⟩ (.int .i64 bn) = w4 at *
            clear x5 x6 x7 c3 c4 c5 f3 f4 f5 H3 E3
            have x3 := H4.b2.cell 3
            have c6 := H4.cell 6
            have f6 := H4.free 6
            go_upto_region 28 with fail
            have H5 : Sat (w4.setCell ⟨bw, 6, none⟩ (.int .i64 gn)) (row bw 85 #[.pointer (some ⟨d, 0, none⟩), .pointer (some ⟨p, 0, none⟩), (.slice A0 nl c0), .slice AK nkx ckx, .int .i64 tn, .int .i64 bn, .int .i64 gn, .bool ar] :: disk d D2 :: blk bx (.cells #[.int .i64 4, .int .i64 sz, .int .i64 af, .int .i64 gn, .int .u8 fl, .slice AK nkx ckx, .int .i64 tn, .int .i64 bn] 88) :: recL (.slice A0 nl c0) L.recs :: logc p d L :: F) := H4.set (i := 6) _
            have E5 := E4.set ⟨bw, 6, none⟩ (.int .i64 gn)
            generalize w4.setCell ⟨bw, 6, none⟩ (.int .i64 gn) = w5 at *
            clear x3 c6 f6 H4 E4
            have c7 := H5.cell 7
            have f7 := H5.free 7
            have H6 : Sat (w5.setCell ⟨bw, 7, none⟩ (.bool true)) (row bw 85 #[.pointer (some ⟨d, 0, none⟩), .pointer (some ⟨p, 0, none⟩), (.slice A0 nl c0), .slice AK nkx ckx, .int .i64 tn, .int .i64 bn, .int .i64 gn, .bool true] :: disk d D2 :: blk bx (.cells #[.int .i64 4, .int .i64 sz, .int .i64 af, .int .i64 gn, .int .u8 fl, .slice AK nkx ckx, .int .i64 tn, .int .i64 bn] 88) :: recL (.slice A0 nl c0) L.recs :: logc p d L :: F) := H5.set (i := 7) _
            have E6 := E5.set ⟨bw, 7, none⟩ (.bool true)
            clear H5 E5
            go_wp2_with fail
            go_meet
            case rel =>
              have H7 := (Sat.shut_all (L := [_]) H6.b2.tail.b1.p3.b1).b1
              exact ⟨[recL (.slice A0 nl c0) L.recs], A0, nl, c0, L.recs, 0, p, L, D2, AK, nkx, ckx, kpx, tn, bn, gn, true, rfl, rfl, Lib.hid ⟨Met2.same HS2.out.1 HS2.out.2, ⟨HKX.out, HGN.out⟩, fun F w h => ⟨h.recL_rd, h.recL_rd, h⟩, HNL.out.symm⟩, H7, E6⟩
          · go_wp2_with fail
            go_meet
            case rel =>
              exact ⟨[recL (.slice A0 nl c0) L.recs], A0, nl, c0, L.recs, 0, p, L, D, A, nk, ck, keep, torn, nb, ag, ar, rfl, rfl, Lib.hid ⟨Met2.same HS.out (Rest.rfl' _ _), HC.out, fun F w h => ⟨h.recL_rd, h.recL_rd, h⟩, HNL.out.symm⟩, (Sat.shut_all (L := [_]) H1.tail.b1).b1, E1⟩
  case rest =>
    obtain ⟨X, Aw, nw, cw, lw, r, p', Lx, D', A', nk', ck', keep', torn', nb', ag', ar', rfl, rfl, HM, H2, E2⟩ := hcut
    clear H1 E1 x2 z0
    have x7 : wc.cell? ⟨bw, 7, none⟩ = some (.bool ar') := H2.cell 7
    have HLX := Lib.hid HM.out.2.2.1
    rcases HM.out.1.or with hr | hr
    · obtain ⟨h1, h2, h3⟩ := HM.out.1.ok hr
      subst hr
      obtain rfl := HM.out.2.2.2
      subst h2
      have HR := Lib.hid (And.intro h1 h3)
      clear h1 h3
      have c2 := H2.cell 2
      have f2 := H2.free 2
      have H3 : Sat (wc.setCell ⟨bw, 2, none⟩ (.slice Aw Lx.recs.length cw)) (row bw 85 #[.pointer (some ⟨d, 0, none⟩), .pointer (some ⟨p', 0, none⟩), (.slice Aw Lx.recs.length cw), .slice A' nk' ck', .int .i64 torn', .int .i64 nb', .int .i64 ag', .bool ar'] :: all X :: logc p' d Lx :: disk d D' :: F) := H2.set (i := 2) _
      have E3 := E2.set ⟨bw, 2, none⟩ (.slice Aw Lx.recs.length cw)
      go_upto_region 34 with fail
      generalize wc.setCell ⟨bw, 2, none⟩ (.slice Aw Lx.recs.length cw) = w3 at *
      clear c2 f2 H2 E2 x7
      have H4 := (HLX.out _ _ H3.b1.open_all).2.2
      clear H3
      have y4 : w3.drew.cell? ⟨bw, 1, none⟩ = some (.pointer (some ⟨p', 0, none⟩)) ∧ w3.drew.cell? ⟨bw, 2, none⟩ = some (.slice Aw Lx.recs.length cw) := ⟨H4.b1.cell 1, H4.b1.cell 2⟩
      refine wp_region_held_drew (S := fun w' => w'.cell? ⟨bw, 1, none⟩ = some (.pointer (some ⟨p', 0, none⟩)) ∧ w'.cell? ⟨bw, 2, none⟩ = some (.slice Aw Lx.recs.length cw)) (by kernel_rfl) y4 (fun hHeld => ?_)
      refine' wpAnyH_take (i := 0) (oi := _) (v := _) rfl (by kernel_rfl) (by kernel_rfl) (by kernel_rfl) (fun _ _ _ h => h) (Or.inl ⟨by rfl, ?hy0x1⟩) hHeld ?rest0x1
      case hy0x1 => (intro w' hSw; (try dsimp only at hSw); go_simp; try with_reducible rfl)
      simp only [List.getElem_toArray, List.getElem_cons_zero, List.getElem_cons_succ, Act.put, List.setIfInBounds_toArray, List.set_cons_zero, List.set_cons_succ]
      refine' wpAnyH_take (i := 1) (oi := _) (v := _) rfl (by kernel_rfl) (by kernel_rfl) (by kernel_rfl) (fun _ _ _ h => h) (Or.inl ⟨by rfl, ?hy1x2⟩) hHeld ?rest1x2
      case hy1x2 => (intro w' hSw; (try dsimp only at hSw); go_simp; try with_reducible rfl)
      simp only [List.getElem_toArray, List.getElem_cons_zero, List.getElem_cons_succ, Act.put, List.setIfInBounds_toArray, List.set_cons_zero, List.set_cons_succ]
      refine' wpAnyH_take (i := 2) (oi := _) (v := _) rfl (by kernel_rfl) (by kernel_rfl) (by kernel_rfl) (fun _ _ _ h => h) (Or.inl ⟨by rfl, ?hy2x3⟩) hHeld ?rest2x3
      case hy2x3 => (intro w' hSw; (try dsimp only at hSw); go_simp; try with_reducible rfl)
      simp only [List.getElem_toArray, List.getElem_cons_zero, List.getElem_cons_succ, Act.put, List.setIfInBounds_toArray, List.set_cons_zero, List.set_cons_succ]
      refine' wpAnyH_take (i := 3) (oi := _) (v := _) rfl (by kernel_rfl) (by kernel_rfl) (by kernel_rfl) (fun _ _ _ h => h) (Or.inl ⟨by rfl, ?hy3x4⟩) hHeld ?rest3x4
      case hy3x4 => (intro w' hSw; (try dsimp only at hSw); go_simp; try with_reducible rfl)
      simp only [List.getElem_toArray, List.getElem_cons_zero, List.getElem_cons_succ, Act.put, List.setIfInBounds_toArray, List.set_cons_zero, List.set_cons_succ]
      refine' wpAnyH_take (i := 5) (oi := _) (v := _) rfl (by kernel_rfl) (by kernel_rfl) (by kernel_rfl) (fun _ _ _ h => h) (Or.inl ⟨by rfl, ?hy5x5⟩) hHeld ?rest5x5
      case hy5x5 => (intro w' hSw; (try dsimp only at hSw); go_simp; try with_reducible rfl)
      simp only [List.getElem_toArray, List.getElem_cons_zero, List.getElem_cons_succ, Act.put, List.setIfInBounds_toArray, List.set_cons_zero, List.set_cons_succ]
      refine' wpAnyH_take (i := 6) (oi := _) (v := _) rfl (by kernel_rfl) (by kernel_rfl) (by kernel_rfl) (fun _ _ _ h => h) (Or.inl ⟨by rfl, ?hy6x6⟩) hHeld ?rest6x6
      case hy6x6 => (intro w' hSw; (try dsimp only at hSw); go_simp; try with_reducible rfl)
      simp only [List.getElem_toArray, List.getElem_cons_zero, List.getElem_cons_succ, Act.put, List.setIfInBounds_toArray, List.set_cons_zero, List.set_cons_succ]
      refine' wpAnyH_take (i := 7) (oi := _) (v := _) rfl (by kernel_rfl) (by kernel_rfl) (by kernel_rfl) (fun _ _ _ h => h) (Or.inl ⟨by rfl, ?hy7x7⟩) hHeld ?rest7x7
      case hy7x7 => (intro w' hSw; (try dsimp only at hSw); go_simp; try with_reducible rfl)
      simp only [List.getElem_toArray, List.getElem_cons_zero, List.getElem_cons_succ, Act.put, List.setIfInBounds_toArray, List.set_cons_zero, List.set_cons_succ]
      refine' wpAnyH_take (i := 8) (oi := _) (v := _) rfl (by kernel_rfl) (by kernel_rfl) (by kernel_rfl) (fun _ _ _ h => h) (Or.inl ⟨by rfl, ?hy8x8⟩) hHeld ?rest8x8
      case hy8x8 => (intro w' hSw; (try dsimp only at hSw); go_simp; try with_reducible rfl)
      simp only [List.getElem_toArray, List.getElem_cons_zero, List.getElem_cons_succ, Act.put, List.setIfInBounds_toArray, List.set_cons_zero, List.set_cons_succ]
      refine wpAnyH_ready (rs := [4]) (by kernel_rfl) (by simp) ?_
      refine AllReadyH.cons (o := _) rfl (fun K hK => ?_) AllReadyH.nil
      rw [if_pos (by rfl)]
      go_simp
      go_at_call 48
      refine (records_log H4.b2.drew HM.out.1.logok HM.out.1.lw.2.2).mono ?_
      rintro e1 w5 ⟨v5, rfl, H5, E5⟩
      refine hK.out _ _ ⟨H5.b3.cell 1, H5.b3.cell 2⟩ (fun hHeld2 => ?_)
      clear hK K
      try simp only [List.getElem_toArray, List.getElem_cons_zero, List.getElem_cons_succ, Act.put, List.setIfInBounds_toArray, List.set_cons_zero, List.set_cons_succ]
      refine wpAnyH_ready (rs := [9]) (by kernel_rfl) (by simp) ?_
      refine AllReadyH.cons (o := _) rfl (fun K hK => ?_) AllReadyH.nil
      rw [if_pos (by rfl)]
      go_simp
      go_at_call 54
      refine (same_any v5 (.slice Aw Lx.recs.length cw) Lx.recs Lx.recs w5 H5.recL_rd H5.b2.recL_rd HM.out.1.lw.1 HM.out.1.lw.2.1 HM.out.1.lw.2.1).mono ?_
      rw [decide_eq_true rfl]
      rintro e1 w6 ⟨rfl, q6, hw6⟩
      have H6 := (H5.drewN q6).tail
      have E6 := E3.drew.trans (E5.drewN q6)
      rw [← hw6] at H6 E6
      clear hw6 H5 E5 hHeld hHeld2 y4 H4 E3
      refine hK.out _ _ ⟨H6.b2.cell 1, H6.b2.cell 2⟩ (fun hHeld3 => ?_)
      clear hK K
      try simp only [List.getElem_toArray, List.getElem_cons_zero, List.getElem_cons_succ, Act.put, List.setIfInBounds_toArray, List.set_cons_zero, List.set_cons_succ]
      refine' wpAnyH_take (i := 10) (oi := _) (v := _) rfl (by kernel_rfl) (by kernel_rfl) (by kernel_rfl) (fun _ _ _ h => h) (Or.inl ⟨by rfl, ?hy10x9⟩) hHeld3 ?rest10x9
      case hy10x9 => (intro w' hSw; (try dsimp only at hSw); go_simp; try with_reducible rfl)
      simp only [List.getElem_toArray, List.getElem_cons_zero, List.getElem_cons_succ, Act.put, List.setIfInBounds_toArray, List.set_cons_zero, List.set_cons_succ]
      refine wpAnyH_done (by kernel_rfl) ?_ _
      go_wp2_with fail
      go_ret
      exact ⟨rfl, p', Aw, cw, A', nk', ck', keep', torn', nb', ag', ar', D', Lx, HR.out.1, HM.out.2.1, HR.out.2, H6.b1.b2, E6⟩
    · obtain ⟨h1, h2, h3⟩ := HM.out.1.no hr
      subst hr
      subst h1
      obtain ⟨M, hM1, hM2, hM3⟩ := h3 keep' torn' nb'
      have HR := Lib.hid (And.intro h2 (And.intro hM1 (And.intro hM2 hM3)))
      clear h2 h3 hM1 hM2 hM3
      have HL := Lib.hid (show (L.recs.length < 4294967296 ∧ InL L.recs) ∧ ∀ x ∈ L.recs, x.length < 4294967296 from ⟨⟨HS.out.good.recs, HS.out.good.inv.inl⟩, HS.out.good.short⟩)
      go_upto_region 30 with fail
      have y1 : wc.cell? ⟨bw, 1, none⟩ = some (.pointer (some ⟨p', 0, none⟩)) := H2.cell 1
      have y2 : wc.cell? ⟨bw, 2, none⟩ = some (.slice A0 nl c0) := H2.cell 2
      go_region_with (first
        | (go_at_call 48; refine (records_log H2.b2.drew HM.out.1.logok (by rw [HR.out.1]; exact HL.out.2)).mono ?_; rintro e1 w3 ⟨v3, rfl, H3, E3⟩; have z2 : w3.cell? ⟨bw, 2, none⟩ = some (.slice A0 nl c0) := H3.b2.cell 2)
        | (go_at_call 54; refine (same_any v3 (.slice A0 nl c0) Lx.recs L.recs w3 H3.recL_rd (HLX.out _ _ H3.b3.open_all).1 (by rw [HR.out.1]; exact HL.out.1.1) (by rw [HR.out.1]; exact HL.out.1.2) HL.out.1.2).mono ?_; rw [decide_eq_true HR.out.1]; rintro e1 w4 ⟨rfl, q4, rfl⟩)
        | (go_at_call 91; refine (reopen_any (.slice A0 nl c0) (.slice Aw nw cw) L.recs lw A' nk' ck' torn' nb' ag' true keep' M (e + 1) (H3.drewN q4).tail.b3.b2 HR.out.2.1 HR.out.2.2.1 HM.out.2.1.ag HM.out.1.pend (fun w h => HM.out.2.1.keep w h.tail.tail) (fun w h => ⟨(HLX.out _ _ h.b1.open_all).1, (HLX.out _ _ h.b1.open_all).2.1⟩) HL.out.1 ⟨HM.out.1.lw.1, HM.out.1.lw.2.1⟩).mono ?_; rintro e1 w5 ⟨rfl, v5, p5, D5, hg5, hl5, hr5, H5, E5⟩))
      all_goals
        obtain ⟨A5, c5, rfl⟩ := H5.b1.recL_form
        have H6 := H5.b4.tail.b4.tail
        have E6 := ((E2.drew.trans E3).drewN q4).trans E5
        go_wp2_with fail
        go_ret
        exact ⟨rfl, p5, A5, c5, A', nk', ck', keep', torn', nb', ag', false, D5, M, ⟨hg5, fun _ => hl5⟩, HM.out.2.1, Rest.to HR.out.2.2.2 hr5 (hg5.from_.trans HS.out.good.from_.symm) (hg5.count.trans HS.out.good.count.symm), H6, E6⟩
end Go.Proofs.Ythbabdjicplooaa
