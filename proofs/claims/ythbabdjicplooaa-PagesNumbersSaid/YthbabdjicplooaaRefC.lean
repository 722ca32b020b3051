/- deponentref3's disk as chunks: Flush and Crash. Conditions: fewer than 2^32 pending writes. -/
import Derived.Test.YthbabdjicplooaaRefB
namespace Go.Proofs.Ythbabdjicplooaa
open Go.RowKit

theorem tornL_full {was is : List Int} (h1 : was.length = 128) (h2 : is.length = 128) : tornL was is 128 = is := by
  simp only [tornL]
  rw [List.take_of_length_le (by omega), List.drop_of_length_le (by omega), List.append_nil]
/-- The sectors on their way. -/
structure Way (safe B safe0 B0 : List Buf) (S : List (List Int)) : Prop where
  len : safe.length = safe0.length
  is : safe.map (·.2) = S
  good : ∀ p ∈ safe, p ∈ B
  more : ∀ p ∈ B0, p ∈ B
  full : ∀ p ∈ B, p.2.length = 128
theorem Way.put {safe B safe0 B0 : List Buf} {S : List (List Int)} (h : Way safe B safe0 B0 S) (n : Nat) (v : Value) (ys : List Int) (hy : ys.length = 128) : Way (safe.set n (v, ys)) ((v, ys) :: B) safe0 B0 (S.set n ys) := by
  refine ⟨by rw [List.length_set]; exact h.len, by rw [List.map_set, h.is], fun p hp => ?_, fun p hp => List.mem_cons_of_mem _ (h.more p hp), fun p hp => ?_⟩
  · rcases List.mem_or_eq_of_mem_set hp with hp | rfl
    · exact List.mem_cons_of_mem _ (h.good p hp)
    · exact List.mem_cons_self
  · rcases List.mem_cons.1 hp with rfl | hp
    · exact hy
    · exact h.full p hp
theorem Way.getD {safe B safe0 B0 : List Buf} {S : List (List Int)} (h : Way safe B safe0 B0 S) (n : Nat) : (safe.getD n (.slice none 0 0, noughts)).2 = S.getD n noughts := by
  rw [← h.is, List.getD_eq_getElem?_getD, List.getD_eq_getElem?_getD, List.getElem?_map]
  cases safe[n]? <;> rfl

set_option maxHeartbeats 1000000 in
theorem rflush_stop {w : World} {r : Nat} {D : Dsk} {F : List HP} (H : Sat w (rdisk r D :: F)) (hl : D.left = some 0) :
    Calls Try.prog 41 #[.pointer (some ⟨r, 0, none⟩)] w fun e w' => e = .returned (.int .i64 13) ∧ w = w' := by
  have HG := Lib.hid (rgoes_no H hl)
  go_enter Try.func41, Try.ntmps41
  go_wp2_with fail
  refine HG.out.mono ?_
  rintro e w2 ⟨rfl, rfl⟩
  go_wp2_with fail
  go_ret
  exact ⟨rfl, rfl⟩

set_option maxHeartbeats 4000000 in
set_option maxRecDepth 100000 in
theorem rflush {w : World} {r : Nat} {D : Dsk} {F : List HP} (H : Sat w (rdisk r D :: F)) (hl : D.left ≠ some 0) (hp : D.pend.length < 4294967296) :
    Calls Try.prog 41 #[.pointer (some ⟨r, 0, none⟩)] w fun e w' => e = .returned (.int .i64 0) ∧ Sat w' (rdisk r D.flush :: F) ∧ Env w w' := by
  have HG := Lib.hid (rgoes_yes H hl)
  clear H
  go_enter Try.func41, Try.ntmps41
  go_wp2_with fail
  refine HG.out.mono ?_
  rintro e w2 ⟨rfl, H2, E2⟩
  obtain ⟨safe, pend, vS, vP, B, hok, H3⟩ := H2.rd_open
  have HDP := Lib.hid (show D.pend = pend.map (fun p => (p.1, p.2.2)) from hok.out.dp)
  have HDS := Lib.hid (show D.safe = safe.map (·.2) from hok.out.ds)
  have hpl : pend.length < 4294967296 := by rw [HDP.out] at hp; simpa using hp
  clear hp hl HG H2
  obtain ⟨AP, cP, rfl, -, -, -⟩ := H3.b2.own_form
  obtain ⟨AS, cS, rfl, -, -, -⟩ := H3.b1.own_form
  generalize hlz : leftZ _ = lz at H3
  have HLZ := Lib.hid hlz
  clear hlz
  have HW := Lib.hid (show Way safe B safe B (sets D.safe (D.pend.take 0)) from ⟨rfl, by rw [HDS.out]; rfl, hok.out.good, fun _ h => h, hok.out.full⟩)
  have H4 := H3.b2.p3
  clear H3
  go_wp2_with fail
  go_loopw [3] (fun i wr => ∃ (k : Nat) (sk Bk : List Buf), k ≤ pend.length ∧ i = .int .i64 k ∧ Hid (Way sk Bk safe B (sets D.safe (D.pend.take k))) ∧ Sat wr (row r 124 #[.slice AS safe.length cS, .slice AP pend.length cP, .int .i64 lz] :: own 30 1 (.slice AS safe.length cS) safe.length (sk.map (·.1)) :: pool Bk :: own 126 2 (.slice AP pend.length cP) pend.length (flatP pend) :: F) ∧ Env w wr) (fun i _ => pend.length - (intOf i).toNat)
  case atStart => exact ⟨0, safe, B, by omega, rfl, HW.out, H4, E2⟩
  case round =>
    clear H4 HW E2
    obtain ⟨k, sk, Bk, hk, rfl, hw, H5, E5⟩ := hrel
    have hc1 := H5.cell 1
    by_cases hlt : k < pend.length
    · obtain ⟨nk, vk, xk, hpk⟩ : ∃ nk vk xk, pend[k] = (nk, (vk, xk)) := ⟨_, _, _, rfl⟩
      have hpm := hok.out.pgood (nk, (vk, xk)) (by rw [← hpk]; exact List.getElem_mem hlt)
      have hnk : nk < safe.length := hpm.1
      have hmB := hw.out.more _ hpm.2
      obtain ⟨gk, ck, rfl, -⟩ := (H5.b2.pool_at hmB).own_addr (by omega)
      obtain ⟨gP, cP', hAP, -⟩ := H5.b3.own_addr (by omega)
      cases hAP
      obtain ⟨gS, cS', hAS, -⟩ := H5.b1.own_addr (by omega)
      cases hAS
      have hfp := flatP_get pend k hlt
      rw [hpk] at hfp
      have p1 := H5.b3.own_cell _ _ hfp.1
      have p2 := H5.b3.own_cell _ _ hfp.2
      have HT := Lib.hid (show D.pend.take (k + 1) = D.pend.take k ++ [(nk, xk)] by rw [HDP.out, ← List.map_take, ← List.map_take, List.take_succ_eq_append_getElem hlt, hpk, List.map_append]; rfl)
      have HPUT := Lib.hid (rput nk 128 H5 hw.out.len hnk hw.out.good hw.out.full hmB (by omega))
      have HXK := Lib.hid (hw.out.full _ hmB)
      clear hfp hpk hpm hmB
      go_wp2_with fail
      refine HPUT.out.mono ?_
      rintro e w6 ⟨rfl, v, ys, hys, hyl, H6, E6⟩
      have hys2 : ys = xk := by
        have h0 := hw.out.good
        have hd := hw.out.len
        rw [hys]
        refine tornL_full ?_ HXK.out
        have hm2 : sk.getD nk (.slice none 0 0, noughts) ∈ sk := by rw [List.getD_eq_getElem?_getD, List.getElem?_eq_getElem (show nk < sk.length by omega)]; exact List.getElem_mem _
        exact hw.out.full _ (h0 _ hm2)
      have HW6 := Lib.hid (show Way (sk.set nk (v, ys)) ((v, ys) :: Bk) safe B (sets D.safe (D.pend.take (k + 1))) by rw [HT.out, sets_snoc]; have := hw.out.put nk v ys hyl; rwa [show (sets D.safe (D.pend.take k)).set nk ys = (sets D.safe (D.pend.take k)).set nk xk by rw [hys2]] at this)
      have E7 := E5.trans E6
      clear H5 E5 E6 hys hyl hys2 HPUT p1 p2
      go_wp2_with fail
      go_roundw
      case rel => exact ⟨k + 1, _, _, by omega, by go_num, HW6.out, H6, E7⟩
      case measure => simp [intOf]; omega
    · obtain rfl : k = pend.length := by omega
      have hf1 := H5.free 1
      have H6 := H5.set (i := 1) (.slice none 0 0)
      have E6 := E5.set ⟨r, 1, none⟩ (.slice none 0 0)
      go_wp2_with fail
      go_ret
      have hw := hw.out
      have hok := hok.out
      refine ⟨rfl, Sat.rd_shut sk [] (.slice AS safe.length cS) (.slice none 0 0) Bk ⟨?_, rfl, hw.good, by simp, hw.full, hok.after, by rw [hw.len]; exact hok.some_⟩ ?_, E6⟩
      · show sets D.safe D.pend = _
        rw [hw.is, HDP.out, List.take_of_length_le (by simp)]
      · rw [hw.len]
        show Sat _ (row r 124 #[.slice AS safe.length cS, .slice none 0 0, .int .i64 (leftZ (D.left.map (· - 1)))] :: _)
        have h9 := HLZ.out
        rw [h9]
        exact ((H6.b3.tail).own_nil 126 2).p2

set_option maxHeartbeats 8000000 in
set_option maxRecDepth 100000 in
theorem rcrash {w : World} {r : Nat} {D : Dsk} {F : List HP} (AK : Option Addr) (nk ck : Nat) (keep : List Bool) (torn nb : Int) (H : Sat w (rdisk r D :: F)) (hr : Reads F 1 AK nk (keep.map (Value.bool))) (hp : D.pend.length < 4294967296) :
    Calls Try.prog 43 #[.pointer (some ⟨r, 0, none⟩), .slice AK nk ck, .int .i64 torn, .int .i64 nb] w fun e w' => e = .returned (.tuple #[]) ∧ Sat w' (rdisk r (D.crash keep torn nb) :: F) ∧ Env w w' := by
  obtain ⟨nt, e1, r1⟩ : ∃ nt : Nat, (nt : Int) = max 0 (min nb 128) ∧ (min nb 128).toNat = nt := ⟨(min nb 128).toNat, by omega, rfl⟩
  have HNT := Lib.hid r1
  have hnt : nt ≤ 128 := by omega
  have HKN := Lib.hid (show nk = keep.length by have := (hr w H.tail).1; simpa using this.symm)
  have HKR := Lib.hid hr
  clear r1 hr
  obtain ⟨safe, pend, vS, vP, B, hok, H3⟩ := H.rd_open
  have HDP := Lib.hid (show D.pend = pend.map (fun p => (p.1, p.2.2)) from hok.out.dp)
  have HDS := Lib.hid (show D.safe = safe.map (·.2) from hok.out.ds)
  have hpl : pend.length < 4294967296 := by rw [HDP.out] at hp; simpa using hp
  clear hp H
  obtain ⟨AP, cP, rfl, -, -, -⟩ := H3.b2.own_form
  obtain ⟨AS, cS, rfl, -, -, -⟩ := H3.b1.own_form
  generalize leftZ _ = lz at H3
  have HW := Lib.hid (show Way safe B safe B (crashS keep torn nt D.safe D.pend 0) from ⟨rfl, by rw [HDS.out]; rfl, hok.out.good, fun _ h => h, hok.out.full⟩)
  have H4 := H3.b2.p3
  clear H3
  go_enter Try.func43, Try.ntmps43
  go_upto_if 10 with fail
  go_cut [3] from 10 to 10 (fun s3 wr => s3 = .int .i64 (max 0 nb) ∧ wr = w)
  case first =>
    by_cases h : nb < 0
    · go_wp2_with fail
      go_meet
      case rel => exact ⟨by rw [show max 0 nb = 0 by omega], rfl⟩
    · go_wp2_with fail
      go_meet
      case rel => exact ⟨by rw [show max 0 nb = nb by omega], rfl⟩
  case rest =>
  obtain ⟨rfl, hw⟩ := hcut
  rw [hw]
  clear hw wc
  generalize hM : max 0 nb = M
  have hM2 : (nt : Int) = min M 128 ∧ 0 ≤ M := by omega
  clear hM e1
  go_upto_if 12 with fail
  go_cut [3] from 12 to 12 (fun s3 wr => s3 = .int .i64 nt ∧ wr = w)
  case first =>
    by_cases h : 128 < M
    · go_wp2_with fail
      go_meet
      case rel => exact ⟨by rw [show (nt : Int) = 128 by omega], rfl⟩
    · go_wp2_with fail
      go_meet
      case rel => exact ⟨by rw [show (nt : Int) = M by omega], rfl⟩
  case rest =>
  obtain ⟨rfl, hw⟩ := hcut
  rw [hw]
  clear hw wc hM2
  go_wp2_with fail
  go_loopw [8] (fun i wr => ∃ (k : Nat) (sk Bk : List Buf), k ≤ pend.length ∧ i = .int .i64 k ∧ Hid (Way sk Bk safe B (crashS keep torn nt D.safe D.pend k)) ∧ Sat wr (row r 124 #[.slice AS safe.length cS, .slice AP pend.length cP, .int .i64 lz] :: own 30 1 (.slice AS safe.length cS) safe.length (sk.map (·.1)) :: pool Bk :: own 126 2 (.slice AP pend.length cP) pend.length (flatP pend) :: F) ∧ Env w wr) (fun i _ => pend.length - (intOf i).toNat)
  case atStart => exact ⟨0, safe, B, by omega, rfl, HW.out, H4, Env.refl w⟩
  case round =>
    clear H4 HW
    obtain ⟨k, sk, Bk, hk, rfl, hw, H5, E5⟩ := hrel
    have hc1 := H5.cell 1
    by_cases hlt : k < pend.length
    · obtain ⟨mk, vk, xk, hpk⟩ : ∃ mk vk xk, pend[k] = (mk, (vk, xk)) := ⟨_, _, _, rfl⟩
      have hpm := hok.out.pgood (mk, (vk, xk)) (by rw [← hpk]; exact List.getElem_mem hlt)
      have hnk : mk < safe.length := hpm.1
      have hmB := hw.out.more _ hpm.2
      obtain ⟨gk, cvk, rfl, -⟩ := (H5.b2.pool_at hmB).own_addr (by omega)
      obtain ⟨gP, cP', hAP, -⟩ := H5.b3.own_addr (by omega)
      cases hAP
      obtain ⟨gS, cS', hAS, -⟩ := H5.b1.own_addr (by omega)
      cases hAS
      have hfp := flatP_get pend k hlt
      rw [hpk] at hfp
      have p1 := H5.b3.own_cell _ _ hfp.1
      have p2 := H5.b3.own_cell _ _ hfp.2
      have HPD := Lib.hid (show D.pend[k]? = some (mk, xk) by rw [HDP.out, List.getElem?_map, List.getElem?_eq_getElem hlt, hpk]; rfl)
      have HXK := Lib.hid (hw.out.full _ hmB)
      clear hfp hpk hpm
      by_cases hkn : k < nk
      · have hkl : k < keep.length := by have := HKN.out; omega
        obtain ⟨bK, oK, rfl, hcK⟩ := (HKR.out wr H5.tail.tail.tail.tail).2 k (.bool keep[k]) (by simp [hkl])
        have HKB := Lib.hid (show keep.getD k false = keep[k] by simp [hkl])
        generalize keep[k] = kb at hcK HKB
        have hkn2 : (k : Int) < (nk : Int) := by omega
        cases kb with
        | true =>
          as_aux_lemma =>
          have HPUT := Lib.hid (rput mk 128 H5 hw.out.len hnk hw.out.good hw.out.full hmB (by omega))
          go_wp2_with fail
          refine HPUT.out.mono ?_
          rintro e w6 ⟨rfl, v, ys, hys, hyl, H6, E6⟩
          have hys2 : ys = xk := by
            have h0 := hw.out.good
            have hd := hw.out.len
            rw [hys]
            refine tornL_full ?_ HXK.out
            have hm2 : sk.getD mk (.slice none 0 0, noughts) ∈ sk := by rw [List.getD_eq_getElem?_getD, List.getElem?_eq_getElem (show mk < sk.length by omega)]; exact List.getElem_mem _
            exact hw.out.full _ (h0 _ hm2)
          have HW6 := Lib.hid (show Way (sk.set mk (v, ys)) ((v, ys) :: Bk) safe B (crashS keep torn nt D.safe D.pend (k + 1)) by have h := hw.out.put mk v ys hyl; simp only [crashS, HPD.out, HKB.out, if_true]; rwa [hys2] at h ⊢)
          have E7 := E5.trans E6
          clear H5 E5 E6 hys hyl hys2 HPUT p1 p2
          go_wp2_with fail
          go_roundw
          case rel => exact ⟨k + 1, _, _, by omega, by go_num, HW6.out, H6, E7⟩
          case measure => simp [intOf]; omega
        | false =>
          by_cases htn : (k : Int) = torn
          · as_aux_lemma =>
            have HPUT := Lib.hid (rput mk nt H5 hw.out.len hnk hw.out.good hw.out.full hmB hnt)
            subst htn
            have htb : ((k : Int) == (k : Int)) = true := by simp
            go_wp2_with fail
            refine HPUT.out.mono ?_
            rintro e w6 ⟨rfl, v, ys, hys, hyl, H6, E6⟩
            have HW6 := Lib.hid (show Way (sk.set mk (v, ys)) ((v, ys) :: Bk) safe B (crashS keep (k : Int) nt D.safe D.pend (k + 1)) by have h := hw.out.put mk v ys hyl; have hg := hw.out.getD mk; simp only [crashS, HPD.out, HKB.out, eq_self_iff_true, if_true, Bool.false_eq_true, if_false]; rw [← hg, ← hys]; exact h)
            have E7 := E5.trans E6
            clear H5 E5 E6 hys hyl HPUT p1 p2
            go_wp2_with fail
            go_roundw
            case rel => exact ⟨k + 1, _, _, by omega, by go_num, HW6.out, H6, E7⟩
            case measure => simp [intOf]; omega
          · as_aux_lemma =>
            have htb : ((k : Int) == torn) = false := by simp [htn]
            have HW6 := Lib.hid (show Way sk Bk safe B (crashS keep torn nt D.safe D.pend (k + 1)) by simp only [crashS, HPD.out, HKB.out, htn, Bool.false_eq_true, if_false]; exact hw.out)
            go_wp2_with fail
            go_roundw
            case rel => exact ⟨k + 1, _, _, by omega, by go_num, HW6.out, H5, E5⟩
            case measure => simp [intOf]; omega
      · have HKB := Lib.hid (show keep.getD k false = false by simp [List.getElem?_eq_none (show keep.length ≤ k by have := HKN.out; omega)])
        have hkn2 : ¬ (k : Int) < (nk : Int) := by omega
        by_cases htn : (k : Int) = torn
        · as_aux_lemma =>
          have HPUT := Lib.hid (rput mk nt H5 hw.out.len hnk hw.out.good hw.out.full hmB hnt)
          subst htn
          have htb : ((k : Int) == (k : Int)) = true := by simp
          go_wp2_with fail
          refine HPUT.out.mono ?_
          rintro e w6 ⟨rfl, v, ys, hys, hyl, H6, E6⟩
          have HW6 := Lib.hid (show Way (sk.set mk (v, ys)) ((v, ys) :: Bk) safe B (crashS keep (k : Int) nt D.safe D.pend (k + 1)) by have h := hw.out.put mk v ys hyl; have hg := hw.out.getD mk; simp only [crashS, HPD.out, HKB.out, eq_self_iff_true, if_true, Bool.false_eq_true, if_false]; rw [← hg, ← hys]; exact h)
          have E7 := E5.trans E6
          clear H5 E5 E6 hys hyl HPUT p1 p2
          go_wp2_with fail
          go_roundw
          case rel => exact ⟨k + 1, _, _, by omega, by go_num, HW6.out, H6, E7⟩
          case measure => simp [intOf]; omega
        · as_aux_lemma =>
          have htb : ((k : Int) == torn) = false := by simp [htn]
          have HW6 := Lib.hid (show Way sk Bk safe B (crashS keep torn nt D.safe D.pend (k + 1)) by simp only [crashS, HPD.out, HKB.out, htn, Bool.false_eq_true, if_false]; exact hw.out)
          go_wp2_with fail
          go_roundw
          case rel => exact ⟨k + 1, _, _, by omega, by go_num, HW6.out, H5, E5⟩
          case measure => simp [intOf]; omega
    · obtain rfl : k = pend.length := by omega
      have hf1 := H5.free 1
      have hc2 := H5.cell 2
      have hf2 := H5.free 2
      have H6 := (H5.set (i := 1) (.slice none 0 0)).set (i := 2) (.int .i64 (-1))
      have E6 := (E5.set ⟨r, 1, none⟩ (.slice none 0 0)).set ⟨r, 2, none⟩ (.int .i64 (-1))
      go_wp2_with fail
      go_end0
      have hw := hw.out
      have hok := hok.out
      refine ⟨rfl, Sat.rd_shut sk [] (.slice AS safe.length cS) (.slice none 0 0) Bk ⟨?_, rfl, hw.good, by simp, hw.full, fun j hj => (by cases hj), by rw [hw.len]; exact hok.some_⟩ ?_, E6⟩
      · show crashS keep torn (min nb 128).toNat D.safe D.pend D.pend.length = _
        rw [hw.is, HNT.out, HDP.out, List.length_map]
      · rw [hw.len]
        exact ((H6.b3.tail).own_nil 126 2).p2
end Go.Proofs.Ythbabdjicplooaa
