/- FairWaits answers true and keeps what was there. Conditions: the slices are of a size that a machine has. -/
import Derived.Test.YtcgpmenknloagaaFairWaitsPlain
import Derived.Test.YtcgpmenknloagaaFairRoundWalk
import Derived.Deep.LoopGhost
namespace Go.Proofs.Ytcgpmenknloagaa
open Go.RowKit

theorem flatL_set1 (l : List Lane) (k : Nat) (hk : k < l.length) (b : Int) :
    (flatL l).set (k * 3 + 1) (.int .i64 b) = flatL (l.set k (l[k].1, b, l[k].2.2)) := by
  induction l generalizing k with
  | nil => simp at hk
  | cons x l ih =>
    cases k with
    | zero => simp [flatL]
    | succ k =>
      have := ih k (by simpa using hk)
      simp only [flatL, List.flatMap_cons, List.set_cons_succ, List.getElem_cons_succ] at this ⊢
      rw [← this]
      simp [Nat.add_mul, List.set_append]
theorem wts_get {l : List Lane} {s t : Nat} (h : (s + t) % l.length < l.length) : wtAt (wts l) s t = l[(s + t) % l.length].1 := by
  rw [wt_get (by rw [wts_len]; exact h)]
  simp [wts]

set_option maxHeartbeats 8000000 in
set_option maxRecDepth 100000 in
theorem fairWaits_any {w : World} {F : List HP} (A B : Option Addr) (n m c d : Nat) (ws bs : List Int) (at_ qq lane ahead : Int) (H : Sat w F) (hr : Reads F 1 A n (ws.map (Value.int .i64))) (hr2 : Reads F 1 B m (bs.map (Value.int .i64)))
    (hqr : -9223372036854775808 ≤ at_ ∧ at_ ≤ 9223372036854775807) :
    Calls Try.prog 9 #[.slice A n c, .slice B m d, .int .i64 at_, .int .i64 qq, .int .i64 lane, .int .i64 ahead] w fun e w' => e = .returned (.bool true) ∧ Sat w' F ∧ Env w w' := by
  have HF := Lib.hid (fresh_any A B n m c d ws bs H hr hr2)
  have HAT := Lib.hid hqr
  clear hr hr2 hqr
  go_enter Try.func9, Try.ntmps9
  go_wp2_with fail
  refine HF.out.mono ?_
  clear HF
  obtain ⟨L, hL⟩ : ∃ L, L = min n 12 := ⟨_, rfl⟩
  have hL12 : L ≤ 12 := by omega
  rw [← hL]
  clear hL
  have hfine := fresh_fine ws bs L
  have hlen := freshL_len ws bs L
  generalize freshL ws bs L = l0 at *
  rintro e w1 ⟨v1, rfl, H1, E1⟩
  obtain ⟨A1, c1, rfl, -, -, -⟩ := H1.own_form
  have hpl := part_le l0
  have hpw := part_wts l0
  change part l0 = partW (wts l0) at hpw
  have HPW := Lib.hid hpw
  generalize part l0 = N at *
  rw [hlen] at hpl
  by_cases hN : N = 0
  · subst hN
    clear hlen hpw hfine
    go_wp2_with fail
    refine (known16 H1.tail).mono ?_
    rintro e w2 ⟨rfl, H2, E2⟩
    go_wp2_with fail
    go_ret
    exact ⟨rfl, H2, E1.trans E2⟩
  · have hN1 : ((N : Int) == 0) = false := by simp; omega
    have hN0 : 0 < N := by omega
    have hs := within_range lane (lo := 0) (hi := (L : Int) - 1) (by omega)
    have hP0 : ∃ P0 : Nat, within lane 0 ((L : Int) - 1) = P0 ∧ P0 < L := by
      obtain ⟨P0, h⟩ := Int.eq_ofNat_of_zero_le hs.1
      exact ⟨P0, h, by omega⟩
    obtain ⟨P0, hP0, hP0L⟩ := hP0
    obtain ⟨us, -, hus, hu3, -, hu5⟩ := cnt_next (wts l0) P0 0 (wts l0).length (by rw [cnt_total, ← hpw]; simpa [cnt] using hN0)
    rw [wts_len, hlen] at hus
    have HU : Hid (∀ u, u ≤ us → ∀ h : (P0 + u) % L < l0.length, (u = us → 0 < l0[(P0 + u) % L].1) ∧ (u < us → l0[(P0 + u) % L].1 = 0)) := by
      refine Lib.hid fun u hu h => ?_
      have e := wts_get (l := l0) (s := P0) (t := u) (by rw [hlen]; exact Nat.mod_lt _ (by omega))
      simp only [hlen] at e
      refine ⟨fun h' => by subst h'; omega, fun h' => ?_⟩
      have h1 := hu5 u (by omega) h'
      have h2 := hfine _ (List.getElem_mem h)
      omega
    have HFN := Lib.hid hfine
    have HLN := Lib.hid hlen
    clear hN hs hu3 hu5 hfine hlen hpw
    go_wp2_with fail
    refine (within_any lane 0 ((L : Int) - 1) _ (by omega) (by omega) (by omega)).mono ?_
    rw [hP0]
    clear hP0
    rintro e w2 ⟨rfl, rfl⟩
    go_wp2_with fail
    go_loopg [4] us (fun k v wr => ∃ u : Nat, u + k = us ∧ v = .int .i64 (((P0 + u) % L : Nat) : Int) ∧ wr = w1)
    case atStart => exact ⟨0, by omega, by rw [Nat.add_zero, Nat.mod_eq_of_lt hP0L], rfl⟩
    case round =>
      obtain ⟨u, hu, rfl, rfl⟩ := hrel
      have hlt : (P0 + u) % L < L := Nat.mod_lt _ (by omega)
      have hll : (P0 + u) % L < l0.length := by have := HLN.out; omega
      obtain ⟨g1, c1', hcc, -⟩ := H1.own_addr (by omega)
      cases hcc
      have hc := H1.own_cell _ _ (flatL_get l0 _ hll).1
      have hc2 := H1.own_cell _ _ (flatL_get l0 _ hll).2.1
      have hU := HU.out u (by omega) hll
      by_cases hk : gk = 0
      · obtain rfl : u = us := by omega
        subst hk
        have hw0 := hU.1 rfl
        have HX := Lib.hid (HFN.out _ (List.getElem_mem hll))
        have HWP := Lib.hid (show (wts l0)[(P0 + u) % L]'(by rw [wts_len]; exact hll) = l0[(P0 + u) % L].1 by simp [wts])
        generalize hP : (P0 + u) % L = P at *
        obtain ⟨lp, hlp⟩ : ∃ lp, lp = l0[P] := ⟨_, rfl⟩
        rw [← hlp] at hc hc2 HX HWP hw0
        have HLP := Lib.hid hlp
        have hX1 := HX.out.1
        have hX2 := HX.out.2.1
        obtain ⟨lw, lb, ld⟩ := lp
        dsimp only at *
        have hne : (lw == 0) = false := by simp; omega
        obtain ⟨m5, hm5, hm5'⟩ : ∃ m5 : Int, lb.tmod 5 = m5 ∧ 0 ≤ m5 ∧ m5 ≤ 4 := ⟨_, rfl, by rw [Int.tmod_eq_emod_of_nonneg (by omega)]; omega, by rw [Int.tmod_eq_emod_of_nonneg (by omega)]; omega⟩
        have hah := within_range ahead (lo := 0) (hi := 50) (by omega)
        obtain ⟨ahead', hah'⟩ : ∃ a, within ahead 0 50 = a := ⟨_, rfl⟩
        rw [hah'] at hah
        have hqq := within_range qq (lo := 0) (hi := 1) (by omega)
        have hmf := H1.own_free (by omega) (P * 3 + 1)
        clear hU
        have hl1 : (flatL l0).set (P * 3 + 1) (.int .i64 (ahead' + 1 + m5)) = flatL (l0.set P (lw, ahead' + 1 + m5, ld)) := by
          have := flatL_set1 l0 P hll (ahead' + 1 + m5); rw [← hlp] at this; exact this
        go_wp2_with fail
        refine (within_any ahead 0 50 _ (by omega) (by omega) (by omega)).mono ?_
        rw [hah']
        clear hah'
        rintro e w2 ⟨rfl, rfl⟩
        go_wp2_with fail
        have H3 := H1.own_set (i := P * 3 + 1) (by omega) (.int .i64 (ahead' + 1 + m5))
        rw [hl1] at H3
        have E3 := E1.set ⟨g1, P * 3 + 1, none⟩ (.int .i64 (ahead' + 1 + m5))
        generalize wr.setCell ⟨g1, P * 3 + 1, none⟩ (.int .i64 (ahead' + 1 + m5)) = w3 at *
        have hl1w : wts (l0.set P (lw, ahead' + 1 + m5, ld)) = wts l0 := by
          apply List.ext_getElem
          · simp [wts]
          · intro j h1 h2
            simp only [wts, List.getElem_map, List.getElem_set]
            split
            · subst_vars; rw [← hlp]
            · rfl
        have hl1f : Fine 60 (l0.set P (lw, ahead' + 1 + m5, ld)) := by
          intro x hx
          rcases List.mem_or_eq_of_mem_set hx with hx | rfl
          · exact HFN.out x hx
          · exact ⟨HX.out.1, by dsimp only; omega, HX.out.2.2⟩
        have hl1b : ∀ h : P < (l0.set P (lw, ahead' + 1 + m5, ld)).length, (l0.set P (lw, ahead' + 1 + m5, ld))[P].2.1 = ahead' + 1 + m5 := by
          intro h; rw [List.getElem_set_self]
        have hl1g : ∃ h : P < (l0.set P (lw, ahead' + 1 + m5, ld)).length, (l0.set P (lw, ahead' + 1 + m5, ld))[P].1 = lw := ⟨by rw [List.length_set]; exact hll, by rw [List.getElem_set_self]⟩
        generalize l0.set P (lw, ahead' + 1 + m5, ld) = l1 at *
        generalize hBB : ahead' + 1 + m5 = BB at *
        have hBB' : ahead' + 1 ≤ BB ∧ BB ≤ 60 := by omega
        clear hlp hm5 hm5' hc hc2 hmf HLP
        refine (within_any qq 0 1 _ (by omega) (by omega) (by omega)).mono ?_
        generalize within qq 0 1 = q1 at *
        rintro e w2 ⟨rfl, rfl⟩
        obtain ⟨hl1l, hl1g⟩ := hl1g
        have hc3 := H3.own_cell _ _ (flatL_get l1 P hl1l).1
        rw [hl1g] at hc3
        clear hl1g
        obtain ⟨s, hsb⟩ : ∃ s, s = begins L at_ := ⟨_, rfl⟩
        have hsL : s < L := by rw [hsb]; unfold begins; split <;> omega
        have hWl : (wts l0).length = L := by rw [wts_len]; exact HLN.out
        have hgw : grows lw (1 + q1) = lw * (1 + q1) := by rw [(grows_range (q := 1 + q1) HX.out.1.1 HX.out.1.2).1]; congr 1; omega
        have hgr : 1 ≤ grows lw (1 + q1) := (grows_pos (by omega)).1
        have hwt : waits ahead' lw (1 + q1) N = ((ahead' + 1) - 1 + grows lw (1 + q1)) / grows lw (1 + q1) * (N : Int) := by
          unfold waits
          rw [hgw, show min (max ahead' 0) 1048576 = ahead' by omega, show min (max lw 1) 4 = lw by omega, show min (max (1 + q1) 1) 2 = 1 + q1 by omega, show min (max (N : Int) 1) 1048576 = N by omega]
          congr 2; omega
        have hD0 : 0 ≤ ((ahead' + 1) - 1 + grows lw (1 + q1)) / grows lw (1 + q1) := Int.ediv_nonneg (by omega) (by omega)
        obtain ⟨M, hM⟩ : ∃ M : Nat, waits ahead' lw (1 + q1) N = M := Int.eq_ofNat_of_zero_le (by rw [hwt]; exact Int.mul_nonneg hD0 (by omega))
        have hMb : M ≤ 2000 := by
          have h1 : ((ahead' + 1) - 1 + grows lw (1 + q1)) / grows lw (1 + q1) ≤ 60 := by
            have := Int.ediv_le_self (b := grows lw (1 + q1)) (a := (ahead' + 1) - 1 + grows lw (1 + q1)) (by omega)
            have h8 : grows lw (1 + q1) ≤ 8 := (grows_pos (by omega)).2
            omega
          have h2 := Int.mul_le_mul h1 (show (N : Int) ≤ 12 by omega) (by omega) (by omega)
          rw [← hwt, hM] at h2
          omega
        have HI0 := WaitInv.start (W := wts l0) (s := s) (P := P) (G := grows lw (1 + q1)) (A := ahead' + 1) (B := BB) (l := l1) (by omega) hl1w hl1f hl1b
        have hPW : P < (wts l0).length := by rw [hWl]; exact hlt
        have HW := Lib.hid (show ∃ h : P < (wts l0).length, (wts l0)[P] = lw from ⟨hPW, HWP.out⟩)
        have HD := Lib.hid (show ∀ (T : Nat) (left : Int) (l : List Lane), WaitInv (wts l0) s P (grows lw (1 + q1)) (ahead' + 1) BB T M left l → left ≤ 0 from fun T left l h =>
          h.done hPW (by rw [HWP.out]; exact hw0) hgr (by omega) (by omega) (by rw [← hM, hwt, HPW.out]))
        have HSB := Lib.hid hsb
        have HWL := Lib.hid hWl
        have HI := Lib.hid HI0
        clear hwt hD0 hgw hgr HI0 hPW hsb hWl hl1w hl1f hl1b
        go_wp2_with fail
        refine (wait_any ahead' lw (1 + q1) N _).mono ?_
        rw [hM]
        clear hM
        rintro e w2 ⟨rfl, rfl⟩
        go_wp2_with fail
        go_loopw [2, 13, 15, 17] (fun a v lf j wo => ∃ (k T : Nat) (p left : Int) (l : List Lane), j = .int .i64 k ∧ k ≤ M ∧ a = .int .i64 p ∧ lf = .int .i64 left ∧ Hid (begins L p = (s + T) % L) ∧ (-9223372036854775808 ≤ p ∧ p ≤ 9223372036854775807) ∧ (-100 ≤ left ∧ left ≤ 100) ∧
          Hid (WaitInv (wts l0) s P (grows lw (1 + q1)) (ahead' + 1) BB T k left l) ∧ Sat wo (own 63 3 v L (flatL l) :: F) ∧ Env w wo) (fun _ _ _ j _ => M - (intOf j).toNat)
        case atStart => exact ⟨0, 0, at_, ahead' + 1, l1, rfl, by omega, rfl, rfl, by rw [Nat.add_zero, Nat.mod_eq_of_lt hsL]; exact HSB.out.symm, HAT.out, by omega, HI.out, H3, E3⟩
        case round =>
          clear HI
          obtain ⟨k, T, p, left, l, rfl, hk, rfl, rfl, HB, hpr, hlr, HI, H4, E4⟩ := hrel
          have HPR := Lib.hid hpr
          clear hpr
          obtain ⟨g3, c3, rfl, -⟩ := H4.own_addr (by omega)
          by_cases hkM : k < M
          · by_cases hlf : 0 < left
            · have hinv := HI.out
              obtain ⟨t, ht1, ht2, ht3, ht4, ht5⟩ := hinv.next (by rw [← HPW.out]; exact hN0)
              rw [HWL.out] at ht2
              have hll4 : l.length = L := hinv.2.2.2.2.1.trans HWL.out
              have hwl4 : wts l = wts l0 := hinv.2.2.1
              have hturn := turns_of (l := l) (s := s) (T := T) (t := t) (by omega) ht1 (by omega) (by rw [hwl4]; exact ht3) (by rw [hwl4]; exact ht5)
              rw [hll4, ← HB.out] at hturn
              obtain ⟨hPW, hwP⟩ := HW.out
              rw [← hwP] at hinv
              have hnext : ((s + t) % L + 1) % L = (s + (t + 1)) % L := by rw [Nat.mod_add_mod, Nat.add_assoc]
              generalize hi : (s + t) % L = i at *
              have hiL : i < L := by rw [← hi]; exact Nat.mod_lt _ (by omega)
              have hil : i < l.length := by omega
              have hst := hinv.step hPW (by rw [hwP]; exact hw0) ht1 ht3 ht4 ht5 hil (by rw [HWL.out]; exact hi)
              rw [hwP] at hst
              have htk : 0 ≤ takes (1 + q1) l[i] ∧ takes (1 + q1) l[i] ≤ 8 := by
                have hf := hinv.2.2.2.1 _ (List.getElem_mem hil)
                have := (grows_range (q := 1 + q1) hf.1.1 hf.1.2).2
                rw [(served_fine (1 + q1) hf).1]
                omega
              have HX := Lib.hid (hinv.2.2.2.1.small (by omega))
              have HT := Lib.hid hturn
              have HST := Lib.hid hst
              have HNX := Lib.hid hnext
              have HLL := Lib.hid hll4
              clear hinv ht1 ht2 ht3 ht4 ht5 hst hturn hnext hi hll4 hwl4 hwP
              go_wp2_with fail
              refine (serve_hit _ L c3 l p (1 + q1) H4 (fun w H => H.own_at.1) (by omega) HPR.out HX.out (t - T) i HLL.out.symm hil HT.out).mono ?_
              rintro e w5 ⟨v5, rfl, H5, E5⟩
              obtain ⟨g5, c5, rfl, -⟩ := H5.own_addr (by omega)
              have HTK := Lib.hid (show takes (1 + q1) l[i] = takes (1 + q1) l[i] from rfl)
              generalize takes (1 + q1) l[i] = tk at *
              by_cases hiP : i = P
              all_goals
                have q2 : decide (L ≤ i) = false := by simp; omega
                go_wp2_with fail
                have st := HST.out
                first
                  | rw [if_pos (by omega)] at st
                  | rw [if_neg (by omega)] at st
                go_roundw
                case rel => exact ⟨k + 1, t + 1, ((i + 1) % L : Nat), _, l.set i (served (1 + q1) l[i]), by go_num, by omega, (by first | (simp; done) | (rw [hiP]; simp)), rfl, (by rw [begins_nat (Nat.mod_lt _ (by omega))]; exact HNX.out), ⟨by omega, by have := Nat.mod_lt (i + 1) (show 0 < L by omega); omega⟩, by omega, st, (H5.alloc _).tail.b1.tail, (E4.trans E5).alloc _⟩
                case measure => simp [intOf]; omega
            · go_wp2_with fail
              refine (known16 H4.tail).mono ?_
              rintro e w5 ⟨rfl, H5, E5⟩
              go_wp2_with fail
              go_ret
              exact ⟨rfl, H5, E4.trans E5⟩
          · obtain rfl : k = M := by omega
            have hdone := HD.out T left l HI.out
            go_wp2_with fail
            refine (known16 H4.tail).mono ?_
            rintro e w5 ⟨rfl, H5, E5⟩
            go_wp2_with fail
            go_ret
            exact ⟨rfl, H5, E4.trans E5⟩
      · have hw0 := hU.2 (by omega)
        rw [hw0] at hc
        have hnx : (((P0 + u) % L : Nat) + 1) % L = (P0 + (u + 1)) % L := by rw [Nat.mod_add_mod, Nat.add_assoc]
        clear hU hw0 hc2
        generalize (P0 + u) % L = P at *
        have e1 : IntKind.i64.wrap ((P : Int) + 1) = (P : Int) + 1 := IntWalk.i64_in _ (by omega)
        have e2 : ((P : Int) + 1).tmod L = (((P + 1) % L : Nat) : Int) := by rw [Int.tmod_eq_emod_of_nonneg (by omega)]; simp
        have HNX := Lib.hid hnx
        clear hnx
        go_wp2_with fail
        clear e1 e2
        go_roundg (gk - 1)
        case measure => omega
        case rel => exact ⟨u + 1, by omega, by rw [← HNX.out]; simp, rfl⟩
end Go.Proofs.Ytcgpmenknloagaa
