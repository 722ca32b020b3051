/- deponentref16.Serve: the same turn as fair.Serve's. Conditions: small numbers, fewer than 2^32 lanes. -/
import Derived.Test.YtcgpmenknloagaaFairRoom
import Derived.Deep.RegionHeld3
import Derived.BigRegion
namespace Go.Proofs.Ytcgpmenknloagaa
open Go.RowKit Go.WideShapes

theorem ret_rturn {w : World} {F : List HP} {T : Nat} {a b c : Value} (H : Sat w (row T 67 #[a, b, c] :: F)) (tmps : Array Value) (h6 : tmps.getD 6 undef = .pointer (some ⟨T, 0, none⟩)) :
    (results Try.f37 tmps).run Try.prog w = .ok (.tuple #[.agg #[a, b, c], tmps.getD 7 undef]) w := by
  rw [results_cell_tmp (p := 6) (u := 7) (ty := 67) (by rfl) tmps Try.prog w]
  rw [h6]
  have hl := run_loadVar_row (P := Try.prog) w T 67 67 #[a, b, c] (0, 0) _ H.get Try.underlying67 rfl (by kernel_rfl)
  simp only [asAddr, Sem.run_pure, Result.andThen_ok, hl]

set_option maxHeartbeats 8000000 in
set_option maxRecDepth 100000 in
theorem rserve_hit {w : World} {F : List HP} (A : Option Addr) (n c : Nat) (l : List Lane) (at_ q : Int) (H : Sat w F) (hr : Reads F 3 A n (flatL l)) (hsz : n < 4294967296)
    (hat : -9223372036854775808 ≤ at_ ∧ at_ ≤ 9223372036854775807) (hs : Small l) (m i : Nat) (hn : n = l.length) (hi : i < l.length) (ht : Turns l (begins n at_) m i) :
    Calls Try.prog 37 #[.slice A n c, .int .i64 at_, .int .i64 q] w fun e w' => ∃ v, e = .returned (.tuple #[.agg #[.int .i64 i, .int .i64 (takes q l[i]), .int .i64 (((i + 1) % n : Nat) : Int)], v]) ∧
      Sat w' (own 73 3 v n (flatL (l.set i (served q l[i]))) :: F) ∧ Env w w' := by
  have HN := Lib.hid hn
  have HR := Lib.hid hr
  have HS := Lib.hid hs
  clear hr hs hn
  obtain ⟨s, hs⟩ : ∃ s, s = begins n at_ := ⟨_, rfl⟩
  have hcase : (at_ < 0 ∧ s = 0) ∨ (0 ≤ at_ ∧ (n : Int) ≤ at_ ∧ s = 0) ∨ ((s : Int) = at_ ∧ s < n) := by
    subst hs; unfold begins
    by_cases h : at_ < 0 ∨ (n : Int) ≤ at_
    · rw [if_pos h]; omega
    · rw [if_neg h]; omega
  rw [← hs] at ht
  clear hs
  have HTn := Lib.hid ht
  have hm : m < n := by rw [HN.out]; exact ht.1
  clear ht
  have hx := HS.out _ (List.getElem_mem hi)
  have hwt1 : 1 ≤ l[i].1 := by obtain ⟨h, h'⟩ := HTn.out.2.2.1; exact h'
  have hin : i < n := by have := HN.out; omega
  have hsn : s < n := by omega
  obtain ⟨X, hX⟩ : ∃ X, l[i].1 = X := ⟨_, rfl⟩
  obtain ⟨Y, hY⟩ : ∃ Y, l[i].2.1 = Y := ⟨_, rfl⟩
  obtain ⟨Z, hZ⟩ : ∃ Z, l[i].2.2 = Z := ⟨_, rfl⟩
  have hli : l[i] = (X, Y, Z) := by rw [← hX, ← hY, ← hZ]
  rw [hX] at hwt1 hx
  rw [hY] at hx
  rw [hZ] at hx
  have HL := Lib.hid (show l[i].1 = X ∧ l[i] = (X, Y, Z) from ⟨hX, hli⟩)
  clear hX hY hZ
  rw [hli]
  clear hli
  obtain ⟨G1, e1, r1⟩ : ∃ G1 : Int, inr X 1 4 = G1 ∧ G1 = min X 4 := ⟨_, rfl, by rw [inr_def (by omega)]; omega⟩
  obtain ⟨G2, e2, r2⟩ : ∃ G2 : Int, inr q 1 2 = G2 ∧ G2 = min (max q 1) 2 := ⟨_, rfl, by rw [inr_def (by omega)]; omega⟩
  obtain ⟨gr, e4, hgr⟩ : ∃ gr, G1 * G2 = gr ∧ gr = grows X q := ⟨_, rfl, by unfold grows; rw [← r2, ← r1]⟩
  have hgr2 := grows_pos (q := q) hwt1
  rw [← hgr] at hgr2
  have hb1 : 1 ≤ G1 ∧ G1 ≤ 4 := by omega
  have hb2 : 1 ≤ G2 ∧ G2 ≤ 2 := by omega
  obtain ⟨T, hT⟩ : ∃ T, T = takes q (X, Y, Z) := ⟨_, rfl⟩
  have hT2 : T = max (min (Z + gr) Y) 0 := by rw [hT]; unfold takes; rw [← hgr]
  rw [← hT]
  have HTK := Lib.hid hT
  have HT2 := Lib.hid hT2
  have hTr : 0 ≤ T ∧ T ≤ 1099511627800 := by omega
  clear r1 r2 hT hT2
  have HGR := Lib.hid hgr
  have HE := Lib.hid (show inr X 1 4 = G1 ∧ inr q 1 2 = G2 ∧ G1 * G2 = gr from ⟨e1, e2, e4⟩)
  clear hgr e1 e2 e4
  go_enter Try.func37, Try.ntmps37
  go_upto_region 1 with (fail)
  have HA := H.alloc (.cells #[.int .i64 0, .int .i64 0, .int .i64 0] 67)
  have EA := (Env.refl w).alloc (.cells #[.int .i64 0, .int .i64 0, .int .i64 0] 67)
  generalize w.alloc (.cells #[.int .i64 0, .int .i64 0, .int .i64 0] 67) = wa at *
  generalize w.heap.size = bt at *
  have hrd := HR.out wa HA.tail
  go_upto_region 2 with (at_builtin; go_must (refine wpList_append_sat rfl (.tmp 14) (.tmp 15) 68 rfl (HA.own_lit 73 3 #[] 0 (by simp [maxLen]) rfl) rfl _ 24 Try.underlying68 Try.info_rlane rfl (by omega) _ _ _ (flatL l) rfl (hrd.src_none (by omega)) hrd.1 (hrd.alloc _).src (flatL_one l) (by simp only [maxLen]; omega) (by omega) ?_); intro v1 w1 H1 E1)
  replace H1 : Sat w1 (own 73 3 v1 n (flatL l) :: row bt 67 #[.int .i64 0, .int .i64 0, .int .i64 0] :: F) := by simpa using H1
  replace E1 := (EA.alloc _).trans E1
  clear HA EA hrd
  obtain ⟨g, c1, rfl, hc1⟩ := H1.own_addr (by omega)
  go_cut [24] from 17 to 24 (fun s24 wr => ∃ b, s24 = .bool b ∧ wr = w1 ∧ (b = true ∧ s = 0 ∨ b = false ∧ (s : Int) = at_))
  case first =>
    rcases hcase with ⟨hc1, rfl⟩ | ⟨hc1, hc2, rfl⟩ | ⟨rfl, hc2⟩
    all_goals
      go_wp2_with fail
      go_meet
      case rel => exact ⟨_, rfl, rfl, by first | (simp; done) | (simp; omega)⟩
  case rest =>
  obtain ⟨bb, rfl, hw, hb⟩ := hcut
  rw [hw]
  clear hw wc
  go_upto_if 24 with fail
  go_cut [1] from 25 to 24 (fun s1 wr => s1 = .int .i64 s ∧ wr = w1)
  case first =>
    rcases hb with ⟨rfl, rfl⟩ | ⟨rfl, rfl⟩
    all_goals
      go_wp2_with fail
      go_meet
      case rel => exact ⟨rfl, rfl⟩
  case rest =>
    obtain ⟨rfl, hw⟩ := hcut
    rw [hw]
    clear hw wc hcase
    go_wp2_with fail
    go_loopw [9] (fun i wr => wr = w1 ∧ ∃ k : Nat, k ≤ m ∧ i = .int .i64 k) (fun i _ => n - (intOf i).toNat)
    case atStart => exact ⟨rfl, 0, by omega, rfl⟩
    case round =>
      obtain ⟨hw, k, hk, rfl⟩ := hrel
      rw [hw]
      clear hw wr
      have hi0 : (s + k) % n < n := Nat.mod_lt _ (by omega)
      have hi1 : 0 ≤ ((s : Int) + k) % n := Int.emod_nonneg _ (by omega)
      have hi2 : ((s : Int) + k) % n < n := Int.emod_lt_of_pos _ (by omega)
      have hil : (s + k) % n < l.length := by have := HN.out; omega
      obtain ⟨b, off, rfl⟩ := rd3_at (HR.out _ H1.tail.tail) (by omega)
      by_cases hlt : k < m
      · have hwt : l[(s + k) % n].1 < 1 := by
          have := HTn.out.2.2.2 k hlt
          simp only [← HN.out] at this
          exact this hi0
        have hcell := (rd3 (HR.out _ H1.tail.tail) hil rfl).1
        generalize l[(s + k) % n].1 = wt at hcell hwt
        go_wp2_with fail
        go_roundw
        case rel => exact ⟨trivial, k + 1, by omega, by go_num⟩
        case measure => simp [intOf]; omega
      · obtain rfl : k = m := by omega
        have hki : (s + k) % n = i := by have := HTn.out.2.1; rw [← HN.out] at this; exact this.symm
        have hki' : ((s : Int) + k) % n = (i : Int) := by rw [← hki]; simp
        obtain ⟨x1, x2, x3⟩ := rd3 (HR.out _ H1.tail.tail) (show i < l.length from hi) HL.out.2
        have hblt := block_lt_of_cell x1
        clear hil
        clear hi0 hi1 hi2 hki
        go_upto_region 9 with fail
        go_wp2_with fail
        have e1 := HE.out.1
        have e2 := HE.out.2.1
        have e4 := HE.out.2.2
        obtain ⟨D, hD⟩ : ∃ D, Z + gr = D := ⟨_, rfl⟩
        have e5 : IntKind.i64.wrap gr = gr := IntWalk.i64_in _ (by omega)
        have e6 : IntKind.i64.wrap (Z + gr) = D := by rw [IntWalk.i64_in _ (by omega)]; exact hD
        have hDr : -1099511627776 ≤ D ∧ D ≤ 1099511627800 := by omega
        have HD := Lib.hid hD
        clear hD
        go_region_held3 (fun w' => w'.cell? ⟨b, off + i * 3, none⟩ = some (.int .i64 X) ∧ w'.cell? ⟨b, off + i * 3 + 2, none⟩ = some (.int .i64 Z)) (first | exact ⟨x1, x3⟩) (first | (go_at_call 54; refine (in_any _ _ _ _).mono ?_; rintro e w4 ⟨rfl, rfl⟩))
        clear e1 e2 e4 e5 e6
        have H2 := H1.drew
        have E2 := E1.drew
        generalize w1.drew = w2 at *
        obtain ⟨T1, hT1⟩ : ∃ T1, (Y < D ∧ T1 = Y) ∨ (¬ Y < D ∧ T1 = D) := by
          by_cases h : Y < D
          · exact ⟨Y, .inl ⟨h, rfl⟩⟩
          · exact ⟨D, .inr ⟨h, rfl⟩⟩
        have hT : (T1 < 0 ∧ T = 0) ∨ (¬ T1 < 0 ∧ T = T1) := by have := HT2.out; have := HD.out; omega
        clear x1 x2 x3
        obtain ⟨x1, x2, x3⟩ := rd3 (HR.out _ H2.tail.tail) (show i < l.length from hi) HL.out.2
        go_upto_if 65 with fail
        go_cut [12] from 65 to 70 (fun s12 wr => s12 = .int .i64 T1 ∧ wr = w2)
        case first =>
          rcases hT1 with ⟨h, rfl⟩ | ⟨h, rfl⟩
          all_goals
            go_wp2_with fail
            go_meet
            case rel => exact ⟨rfl, rfl⟩
        case rest =>
        obtain ⟨rfl, hw⟩ := hcut
        rw [hw]
        clear hw wc
        go_upto_if 72 with fail
        go_cut [12] from 71 to 72 (fun s12 wr => s12 = .int .i64 T ∧ wr = w2)
        case first =>
          rcases hT with ⟨h, rfl⟩ | ⟨h, rfl⟩
          all_goals
            go_wp2_with fail
            go_meet
            case rel => exact ⟨rfl, rfl⟩
        case rest =>
        obtain ⟨rfl, hw⟩ := hcut
        rw [hw]
        clear hw wc
        go_upto_region 15 with fail
        have e7 : IntKind.i64.wrap (Y - T) = Y - T := IntWalk.i64_in _ (by omega)
        have e8 : IntKind.i64.wrap (D - T) = D - T := IntWalk.i64_in _ (by omega)
        have hblt2 := block_lt_of_cell x1
        go_region_held3 (fun w' => w'.cell? ⟨b, off + i * 3, none⟩ = some (.int .i64 X) ∧ w'.cell? ⟨b, off + i * 3 + 1, none⟩ = some (.int .i64 Y)) (first | exact ⟨x1, x2⟩ | exact ⟨cell_alloc _ _ _ x1, cell_alloc _ _ _ x2⟩ | go_keep) (first | fail)
        clear e7 e8 x1 x2 x3 hblt hblt2
        have H3 := (H2.alloc (.cells #[.int .i64 X, .int .i64 (Y - T), .int .i64 (D - T)] 73)).drew
        have E3 := (E2.alloc (.cells #[.int .i64 X, .int .i64 (Y - T), .int .i64 (D - T)] 73)).drew
        generalize (w2.alloc (.cells #[.int .i64 X, .int .i64 (Y - T), .int .i64 (D - T)] 73)).drew = w3 at *
        generalize w2.heap.size = bx at *
        obtain ⟨R, hR⟩ : ∃ R, (Y - T = 0 ∧ R = 0) ∨ (¬ Y - T = 0 ∧ R = D - T) := by
          by_cases h : Y - T = 0
          · exact ⟨0, .inl ⟨h, rfl⟩⟩
          · exact ⟨D - T, .inr ⟨h, rfl⟩⟩
        have HRR := Lib.hid (show R = if Y - T = 0 then 0 else D - T by rcases hR with ⟨h, h'⟩ | ⟨h, h'⟩ <;> simp [h, h'])
        have y1 := H3.cell 1
        have y2 := H3.cell 2
        have z2 := H3.free 2
        go_upto_if 91 with fail
        go_cut [12] from 73 to 92 (fun s12 wr => s12 = .int .i64 T ∧ Sat wr (row bx 73 #[.int .i64 X, .int .i64 (Y - T), .int .i64 R] :: own 73 3 (.slice (some ⟨g, 0, none⟩) n c1) n (flatL l) :: row bt 67 #[.int .i64 0, .int .i64 0, .int .i64 0] :: F) ∧ Env w wr)
        case first =>
          rcases hR with ⟨h, rfl⟩ | ⟨h, rfl⟩
          · have hb1 : (Y - T == 0) = true := by simp [h]
            clear h
            go_wp2_with fail
            go_meet
            case rel => exact ⟨rfl, by simpa using H3.set (i := 2) (.int .i64 0), E3.set _ _⟩
          · have hb1 : (Y - T == 0) = false := by simp [h]
            clear h
            go_wp2_with fail
            go_meet
            case rel => exact ⟨rfl, H3, E3⟩
        case rest =>
        obtain ⟨rfl, H4, E4⟩ := hcut
        clear y1 y2 z2 H3 E3 hR
        have hg := flatL_get l i hi
        have z0 := H4.cell 0
        have z1 := H4.cell 1
        have z2 := H4.cell 2
        have o0 := H4.b1.own_cell _ _ hg.1
        have o1 := H4.b1.own_cell _ _ hg.2.1
        have o2 := H4.b1.own_cell _ _ hg.2.2
        have p0 := H4.b1.own_free (by omega) (i * 3)
        have p1 := H4.b1.own_free (by omega) (i * 3 + 1)
        have p2 := H4.b1.own_free (by omega) (i * 3 + 2)
        clear hg
        rw [HL.out.2] at o0 o1 o2
        have H5 := ((H4.b1.own_set (i := i * 3) (by omega) (.int .i64 X)).own_set (i := i * 3 + 1) (by omega) (.int .i64 (Y - T))).own_set (i := i * 3 + 2) (by omega) (.int .i64 R)
        have E5 := ((E4.set ⟨g, i * 3, none⟩ (.int .i64 X)).set ⟨g, i * 3 + 1, none⟩ (.int .i64 (Y - T))).set ⟨g, i * 3 + 2, none⟩ (.int .i64 R)
        rw [flatL_put l i hi X (Y - T) R] at H5
        go_upto_region 19 with fail
        generalize ((wc.setCell ⟨g, i * 3, none⟩ (.int .i64 X)).setCell ⟨g, i * 3 + 1, none⟩ (.int .i64 (Y - T))).setCell ⟨g, i * 3 + 2, none⟩ (.int .i64 R) = w5 at *
        clear z0 z1 z2 o0 o1 o2 p0 p1 p2 H4 E4
        have z0 := H5.b2.cell 0
        have z1 := H5.b2.cell 1
        have z2 := H5.b2.cell 2
        have p0 := H5.b2.free 0
        have p1 := H5.b2.free 1
        have p2 := H5.b2.free 2
        go_wp2_with fail
        have HZ := (((H5.b2.set (i := 0) (.int .i64 i)).set (i := 1) (.int .i64 T)).set (i := 2) (.int .i64 (((i : Int) + 1) % n)))
        try rw [Exit.noGoto_ret]
        refine bodyPost_ret (ret_rturn (by simpa using HZ) _ rfl) rfl ⟨.slice (some ⟨g, 0, none⟩) n c1, by simp, ?_, ((E5.set _ _).set _ _).set _ _⟩
        have hsv : served q (X, Y, Z) = (X, Y - T, R) := by unfold served; rw [← HTK.out, ← HGR.out, HRR.out, ← HD.out]
        rw [hsv]
        exact HZ.tail.b1.tail

set_option maxHeartbeats 4000000 in
set_option maxRecDepth 100000 in
theorem rserve_none {w : World} {F : List HP} (A : Option Addr) (n c : Nat) (l : List Lane) (at_ q : Int) (H : Sat w F) (hr : Reads F 3 A n (flatL l)) (hsz : n < 4294967296)
    (hat : -9223372036854775808 ≤ at_ ∧ at_ ≤ 9223372036854775807) (hno : ∀ x ∈ l, x.1 < 1) :
    Calls Try.prog 37 #[.slice A n c, .int .i64 at_, .int .i64 q] w fun e w' => ∃ v, e = .returned (.tuple #[.agg #[.int .i64 (-1), .int .i64 0, .int .i64 (begins n at_)], v]) ∧
      Sat w' (own 73 3 v n (flatL l) :: F) ∧ Env w w' := by
  have HN := Lib.hid (show n = l.length by have := (hr w H).1; rw [flatL_len] at this; omega)
  have HR := Lib.hid hr
  have HX := Lib.hid hno
  clear hr hno
  obtain ⟨s, hs⟩ : ∃ s, s = begins n at_ := ⟨_, rfl⟩
  have hcase : (at_ < 0 ∧ s = 0) ∨ (0 ≤ at_ ∧ (n : Int) ≤ at_ ∧ s = 0) ∨ ((s : Int) = at_ ∧ s < n) := by
    subst hs; unfold begins
    by_cases h : at_ < 0 ∨ (n : Int) ≤ at_
    · rw [if_pos h]; omega
    · rw [if_neg h]; omega
  rw [← hs]
  clear hs
  go_enter Try.func37, Try.ntmps37
  go_upto_region 1 with (fail)
  have HA := H.alloc (.cells #[.int .i64 0, .int .i64 0, .int .i64 0] 67)
  have EA := (Env.refl w).alloc (.cells #[.int .i64 0, .int .i64 0, .int .i64 0] 67)
  generalize w.alloc (.cells #[.int .i64 0, .int .i64 0, .int .i64 0] 67) = wa at *
  generalize w.heap.size = bt at *
  have hrd := HR.out wa HA.tail
  go_upto_region 2 with (at_builtin; go_must (refine wpList_append_sat rfl (.tmp 14) (.tmp 15) 68 rfl (HA.own_lit 73 3 #[] 0 (by simp [maxLen]) rfl) rfl _ 24 Try.underlying68 Try.info_rlane rfl (by omega) _ _ _ (flatL l) rfl (hrd.src_none (by omega)) hrd.1 (hrd.alloc _).src (flatL_one l) (by simp only [maxLen]; omega) (by omega) ?_); intro v1 w1 H1 E1)
  replace H1 : Sat w1 (own 73 3 v1 n (flatL l) :: row bt 67 #[.int .i64 0, .int .i64 0, .int .i64 0] :: F) := by simpa using H1
  replace E1 := (EA.alloc _).trans E1
  clear HA EA hrd
  obtain ⟨A1, c1, rfl, -, -, -⟩ := H1.own_form
  go_cut [24] from 17 to 24 (fun s24 wr => ∃ b, s24 = .bool b ∧ wr = w1 ∧ (b = true ∧ s = 0 ∨ b = false ∧ (s : Int) = at_))
  case first =>
    rcases hcase with ⟨hc1, rfl⟩ | ⟨hc1, hc2, rfl⟩ | ⟨rfl, hc2⟩
    all_goals
      go_wp2_with fail
      go_meet
      case rel => exact ⟨_, rfl, rfl, by first | (simp; done) | (simp; omega)⟩
  case rest =>
  obtain ⟨bb, rfl, hw, hb⟩ := hcut
  rw [hw]
  clear hw wc
  go_upto_if 24 with fail
  go_cut [1] from 25 to 24 (fun s1 wr => s1 = .int .i64 s ∧ wr = w1)
  case first =>
    rcases hb with ⟨rfl, rfl⟩ | ⟨rfl, rfl⟩
    all_goals
      go_wp2_with fail
      go_meet
      case rel => exact ⟨rfl, rfl⟩
  case rest =>
    obtain ⟨rfl, hw⟩ := hcut
    rw [hw]
    clear hw wc
    have hsn : s = 0 ∨ s < n := by omega
    clear hcase
    have z0 := H1.b1.cell 0
    have z1 := H1.b1.cell 1
    have z2 := H1.b1.cell 2
    have p0 := H1.b1.free 0
    have p1 := H1.b1.free 1
    have p2 := H1.b1.free 2
    go_wp2_with fail
    go_loopw [9] (fun i wr => wr = w1 ∧ ∃ k : Nat, k ≤ n ∧ i = .int .i64 k) (fun i _ => n - (intOf i).toNat)
    case atStart => exact ⟨rfl, 0, by omega, rfl⟩
    case round =>
      obtain ⟨hw, k, hk, rfl⟩ := hrel
      rw [hw]
      clear hw wr
      by_cases hlt : k < n
      · have hi0 : (s + k) % n < n := Nat.mod_lt _ (by omega)
        have hi1 : 0 ≤ ((s : Int) + k) % n := Int.emod_nonneg _ (by omega)
        have hi2 : ((s : Int) + k) % n < n := Int.emod_lt_of_pos _ (by omega)
        have hil : (s + k) % n < l.length := by have := HN.out; omega
        obtain ⟨b, off, rfl⟩ := rd3_at (HR.out _ H1.tail.tail) (by omega)
        have hwt := HX.out _ (List.getElem_mem hil)
        have hcell := (rd3 (HR.out _ H1.tail.tail) hil rfl).1
        generalize l[(s + k) % n].1 = wt at hcell hwt
        go_wp2_with fail
        go_roundw
        case rel => exact ⟨trivial, k + 1, by omega, by go_num⟩
        case measure => simp [intOf]; omega
      · obtain rfl : k = n := by omega
        go_wp2_with fail
        have HZ := (((H1.b1.set (i := 0) (.int .i64 (-1))).set (i := 1) (.int .i64 0)).set (i := 2) (.int .i64 s))
        try rw [Exit.noGoto_ret]
        refine bodyPost_ret (ret_rturn (by simpa using HZ) _ rfl) rfl ⟨.slice A1 k c1, rfl, HZ.tail, ((E1.set _ _).set _ _).set _ _⟩
end Go.Proofs.Ytcgpmenknloagaa
