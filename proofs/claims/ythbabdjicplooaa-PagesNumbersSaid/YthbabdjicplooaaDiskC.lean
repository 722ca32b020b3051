/- The disk's Crash. Conditions: fewer than 2^32 writes pending. -/
import Derived.Test.YthbabdjicplooaaSplitG
namespace Go.Proofs.Ythbabdjicplooaa
open Go.RowKit

theorem Sat.b5 {w : World} {A B C D E X : HP} {L : List HP} (H : Sat w (A :: B :: C :: D :: E :: X :: L)) : Sat w (X :: A :: B :: C :: D :: E :: L) := H.perm (List.perm_middle (l₁ := [A, B, C, D, E]))
theorem Sat.b6 {w : World} {A B C D E G X : HP} {L : List HP} (H : Sat w (A :: B :: C :: D :: E :: G :: X :: L)) : Sat w (X :: A :: B :: C :: D :: E :: G :: L) := H.perm (List.perm_middle (l₁ := [A, B, C, D, E, G]))
theorem Sat.p5 {w : World} {A B C D E X : HP} {L : List HP} (H : Sat w (X :: A :: B :: C :: D :: E :: L)) : Sat w (A :: B :: C :: D :: E :: X :: L) := H.perm (List.perm_middle (l₁ := [A, B, C, D, E])).symm
theorem Sat.p6 {w : World} {A B C D E G X : HP} {L : List HP} (H : Sat w (X :: A :: B :: C :: D :: E :: G :: L)) : Sat w (A :: B :: C :: D :: E :: G :: X :: L) := H.perm (List.perm_middle (l₁ := [A, B, C, D, E, G])).symm
def tornL (was is : List Int) (n : Nat) : List Int := is.take n ++ was.drop n
theorem splice_torn (was is : List Int) (n : Nat) (hi : n ≤ is.length) : splice (bytes was) 0 (bytes (is.take n)) = bytes (tornL was is n) := by
  simp [splice, bytes, tornL, Nat.min_eq_left hi]

set_option maxHeartbeats 2000000 in
set_option maxRecDepth 100000 in
theorem torn_any {w : World} {B : List Buf} {F : List HP} (v u : Value) (was is : List Int) (n : Nat) (H : Sat w (pool B :: F)) (hw : Good B (v, was)) (hi : (u, is) ∈ B) (hlw : was.length = 128) (hli : is.length = 128) (hn : n ≤ 128) :
    Calls Try.prog 70 #[v, u, .int .i64 n] w fun e w' => ∃ x, e = .returned x ∧ Sat w' (own 5 1 x 128 (bytes (tornL was is n)) :: pool B :: F) ∧ Env w w' := by
  have HW := Lib.hid hw
  have HI := Lib.hid (show Good B (u, is) from .inr hi)
  have hlw' := Lib.hid hlw
  have hli' := Lib.hid hli
  obtain ⟨gu, cu, rfl, hcu⟩ := (H.pool_at hi).own_addr (by omega)
  have hk0 : (0 : Int) ≤ (n : Int) := by omega
  have hkc : (n : Int) ≤ (cu : Int) := by omega
  have h2 := size_madeCells (Value.int .u8 0).cells (128 * 1)
  rw [← Array.length_toList] at h2
  have H2' := Lib.hid h2
  clear hi hw h2 hlw hli
  rcases H.pool_rd HW.out with ⟨rfl, hx⟩ | ⟨g, c, rfl, hc, hr⟩
  · go_enter Try.func70, Try.ntmps70
    go_wp2_with (first
      | (at_make; go_must (refine wpList_make_sat rfl _ _ 30 rfl H 5 (.int .u8 0) 1 1 Try.underlying30 Try.info_byte _ _ 128 rfl rfl (by omega) (by simp only [maxLen]; omega) ?_); intro w2 H2 E2; rw [made_byte] at H2)
      | (show wpList _ _ _ ({ dst := some 11, op := Op.call { callee := Callee.builtin Builtin.copy, args := _, argTypes := _ }, type := _, pos := _, after := _, guard := _ } :: _) _ _; go_must (refine wpList_copy_sat rfl (.tmp 9) (.tmp 10) 30 30 rfl 5 1 Try.underlying30 (by kernel_rfl) H2 _ _ _ _ _ _ rfl rfl 0 0 [] (by simp) (fun _ => rfl) (Rd.nil _ _ _) (by simp) (by simp) ?_); intro w3 H3 E3)
      | (show wpList _ _ _ ({ dst := some 16, op := Op.call { callee := Callee.builtin Builtin.copy, args := _, argTypes := _ }, type := _, pos := _, after := _, guard := _ } :: _) _ _; go_must (refine wpList_copy_sat rfl (.tmp 12) (.tmp 15) 30 30 rfl 5 1 Try.underlying30 (by kernel_rfl) H3 _ _ _ _ _ _ rfl rfl 0 n (bytes (is.take n)) (Nat.min_eq_left (by omega)).symm (fun _ => rfl) (by have := (H3.b1.pool_rd2 HI.out).take (m := n) (by omega); rwa [Nat.mul_one, bytes, ← List.map_take] at this) (by have := hli'.out; simp [splice, bytes]; omega) (bytes_one _) ?_); intro w4 H4 E4))
    go_ret
    refine ⟨_, rfl, ?_, (E2.trans E3).trans E4⟩
    have e1 : splice (splice (bytes (List.replicate 128 0)) 0 []) 0 (bytes (is.take n)) = bytes (tornL was is n) := by
      rw [show splice (bytes (List.replicate 128 0)) 0 [] = bytes was by rw [hx]; simp [splice, noughts]]
      exact splice_torn was is n (by rw [hli'.out]; exact hn)
    rw [e1] at H4
    exact H4
  · go_enter Try.func70, Try.ntmps70
    go_wp2_with (first
      | (at_make; go_must (refine wpList_make_sat rfl _ _ 30 rfl H 5 (.int .u8 0) 1 1 Try.underlying30 Try.info_byte _ _ 128 rfl rfl (by omega) (by simp only [maxLen]; omega) ?_); intro w2 H2 E2; rw [made_byte] at H2)
      | (show wpList _ _ _ ({ dst := some 11, op := Op.call { callee := Callee.builtin Builtin.copy, args := _, argTypes := _ }, type := _, pos := _, after := _, guard := _ } :: _) _ _; go_must (refine wpList_copy_sat rfl (.tmp 9) (.tmp 10) 30 30 rfl 5 1 Try.underlying30 (by kernel_rfl) H2 _ _ _ _ _ _ rfl rfl 0 128 (bytes was) (by simp) (fun _ => rfl) (H2.b1.pool_rd2 HW.out) (by have := hlw'.out; simp [bytes]; omega) (bytes_one _) ?_); intro w3 H3 E3)
      | (show wpList _ _ _ ({ dst := some 16, op := Op.call { callee := Callee.builtin Builtin.copy, args := _, argTypes := _ }, type := _, pos := _, after := _, guard := _ } :: _) _ _; go_must (refine wpList_copy_sat rfl (.tmp 12) (.tmp 15) 30 30 rfl 5 1 Try.underlying30 (by kernel_rfl) H3 _ _ _ _ _ _ rfl rfl 0 n (bytes (is.take n)) (Nat.min_eq_left (by omega)).symm (fun _ => rfl) (by have := (H3.b1.pool_rd2 HI.out).take (m := n) (by omega); rwa [Nat.mul_one, bytes, ← List.map_take] at this) (by have := hli'.out; have := hlw'.out; simp [splice, bytes]; omega) (bytes_one _) ?_); intro w4 H4 E4))
    go_ret
    refine ⟨_, rfl, ?_, (E2.trans E3).trans E4⟩
    have e1 : splice (splice (bytes (List.replicate 128 0)) 0 (bytes was)) 0 (bytes (is.take n)) = bytes (tornL was is n) := by
      rw [splice_full (bytes (List.replicate 128 0)) (bytes was) (by rw [bytes_len, bytes_len, List.length_replicate]; exact hlw'.out.symm)]
      exact splice_torn was is n (by rw [hli'.out]; exact hn)
    rw [e1] at H4
    exact H4

/-- What a crash leaves of the sectors, once k writes are looked at. -/
def crashS (keep : List Bool) (torn : Int) (nb : Nat) (S : List (List Int)) (P : List (Nat × List Int)) : Nat → List (List Int)
  | 0 => S
  | k + 1 => match P[k]? with
    | none => crashS keep torn nb S P k
    | some p => if keep.getD k false then (crashS keep torn nb S P k).set p.1 p.2
      else if (k : Int) = torn then (crashS keep torn nb S P k).set p.1 (tornL ((crashS keep torn nb S P k).getD p.1 noughts) p.2 nb)
      else crashS keep torn nb S P k
def Dsk.crash (D : Dsk) (keep : List Bool) (torn nb : Int) : Dsk := ⟨crashS keep torn (min nb 128).toNat D.safe D.pend D.pend.length, [], none⟩
theorem crashS_len (keep : List Bool) (torn : Int) (nb : Nat) (S : List (List Int)) (P : List (Nat × List Int)) (k : Nat) : (crashS keep torn nb S P k).length = S.length := by
  induction k with
  | zero => rfl
  | succ k ih =>
    simp only [crashS]
    split
    · exact ih
    · split
      · simp [ih]
      · split
        · simp [ih]
        · exact ih

/-- The disk's sectors on a crash's way. -/
def OnWay (B Bk sk : List Buf) (n : Nat) (keep : List Bool) (torn : Int) (nt : Nat) (S : List (List Int)) (P : List (Nat × List Int)) (k : Nat) : Prop :=
  (∀ p ∈ B, p ∈ Bk) ∧ (∀ p ∈ Bk, p.2.length = 128) ∧ (∀ p ∈ sk, Good Bk p) ∧ sk.length = n ∧ sk.map (·.2) = crashS keep torn nt S P k
theorem good_len {B : List Buf} (h : ∀ p ∈ B, p.2.length = 128) {p : Buf} (hp : Good B p) : p.2.length = 128 := by
  rcases hp with rfl | hp
  · exact noughts_len
  · exact h p hp
theorem crash_keep {B Bk sk : List Buf} {n : Nat} {keep : List Bool} {torn : Int} {nt : Nat} {S : List (List Int)} {P : List (Nat × List Int)} {k m : Nat} {v : Value} {x : List Int} (h : OnWay B Bk sk n keep torn nt S P k)
    (hp : P[k]? = some (m, x)) (hk : keep.getD k false = true) (hb : (v, x) ∈ Bk) : OnWay B Bk (sk.set m (v, x)) n keep torn nt S P (k + 1) := by
  obtain ⟨h1, h2, h3, h4, h5⟩ := h
  refine ⟨h1, h2, ?_, by simpa using h4, ?_⟩
  · intro p hp
    rcases List.mem_or_eq_of_mem_set hp with h | rfl
    · exact h3 p h
    · exact .inr hb
  · simp only [crashS, hp, hk, if_true, List.map_set, h5]
theorem crash_torn {B Bk sk : List Buf} {n : Nat} {keep : List Bool} {nt : Nat} {S : List (List Int)} {P : List (Nat × List Int)} {k m : Nat} {v u : Value} {x xo : List Int} (h : OnWay B Bk sk n keep k nt S P k)
    (hp : P[k]? = some (m, x)) (hk : keep.getD k false = false) (ho : sk[m]? = some (u, xo)) (hl : (tornL xo x nt).length = 128) : OnWay B ((v, tornL xo x nt) :: Bk) (sk.set m (v, tornL xo x nt)) n keep k nt S P (k + 1) := by
  obtain ⟨h1, h2, h3, h4, h5⟩ := h
  refine ⟨fun p hp => List.mem_cons_of_mem _ (h1 p hp), ?_, ?_, by simpa using h4, ?_⟩
  · intro p hp
    rcases List.mem_cons.1 hp with rfl | hp
    · exact hl
    · exact h2 p hp
  · intro p hp
    rcases List.mem_or_eq_of_mem_set hp with h | rfl
    · exact (h3 p h).imp id (List.mem_cons_of_mem _)
    · exact .inr List.mem_cons_self
  · have : (crashS keep k nt S P k).getD m noughts = xo := by rw [← h5]; simp [ho]
    simp only [crashS, hp, hk, if_true, List.map_set, h5, Bool.false_eq_true, if_false, this]
theorem crash_skip {B Bk sk : List Buf} {n : Nat} {keep : List Bool} {torn : Int} {nt : Nat} {S : List (List Int)} {P : List (Nat × List Int)} {k m : Nat} {x : List Int} (h : OnWay B Bk sk n keep torn nt S P k)
    (hp : P[k]? = some (m, x)) (hk : keep.getD k false = false) (ht : ¬ (k : Int) = torn) : OnWay B Bk sk n keep torn nt S P (k + 1) := by
  obtain ⟨h1, h2, h3, h4, h5⟩ := h
  exact ⟨h1, h2, h3, h4, by simp only [crashS, hp, hk, ht, h5, Bool.false_eq_true, if_false]⟩

set_option maxHeartbeats 4000000 in
set_option maxRecDepth 100000 in
theorem crash_any {w : World} {d : Nat} {B : List Buf} {D : Dsk} {F : List HP} (AK : Option Addr) (nk ck : Nat) (keep : List Bool) (torn nb : Int) (H : Sat w (dk d B D :: pool B :: F)) (hr : Reads F 1 AK nk (keep.map (Value.bool))) (hp : D.pend.length < 4294967296) :
    Calls Try.prog 25 #[.pointer (some ⟨d, 0, none⟩), .agg #[.slice AK nk ck, .int .i64 torn, .int .i64 nb]] w fun e w' => e = .returned (.tuple #[]) ∧ ∃ B', (∀ p ∈ B, p ∈ B') ∧ Sat w' (dk d B' (D.crash keep torn nb) :: pool B' :: F) ∧ Env w w' := by
  have HR := Lib.hid hr
  have HKN := Lib.hid (show nk = keep.length by have := (hr w H.tail.tail).1; simpa using this.symm)
  clear hr
  obtain ⟨safe, last, pend, stops, after, vS, vP, mb, hok, habs, H3⟩ := H.dk_open
  have hD := habs.out
  have HD1 := Lib.hid (show D.safe = safe.map (·.2) from congrArg Dsk.safe hD)
  have HD2 := Lib.hid (show D.pend = pend.map (fun p => (p.1, p.2.2)) from congrArg Dsk.pend hD)
  have hpl : pend.length < 4294967296 := by rw [HD2.out] at hp; simpa using hp
  have hsl : safe.length ≤ 8192 := hok.out.some_
  clear hp hD H habs
  obtain ⟨M1, e1, r1⟩ : ∃ M : Int, (if nb < 0 then (0 : Int) else nb) = M ∧ M = max nb 0 := ⟨_, rfl, by split <;> omega⟩
  obtain ⟨M2, e2, r2⟩ : ∃ M : Int, (if 128 < M1 then (128 : Int) else M1) = M ∧ M = min M1 128 := ⟨_, rfl, by split <;> omega⟩
  obtain ⟨nt, hnt, hnt2⟩ : ∃ nt : Nat, M2 = (nt : Int) ∧ nt = (min nb 128).toNat := ⟨(min nb 128).toNat, by omega, rfl⟩
  subst hnt
  have hnt1 : nt ≤ 128 := by omega
  unfold Dsk.crash
  rw [← hnt2]
  clear r1 r2 hnt2
  obtain ⟨AP, cP, rfl, -, -, -⟩ := H3.b3.own_form
  obtain ⟨AS, cS, rfl, -, -, -⟩ := H3.b1.own_form
  go_enter Try.func25, Try.ntmps25
  go_upto_region 1 with fail
  have H4 := (H3.alloc (.cells #[.slice AK nk ck, .int .i64 torn, .int .i64 nb] 24)).p4
  have E4 := (Env.refl w).alloc (.cells #[.slice AK nk ck, .int .i64 torn, .int .i64 nb] 24)
  generalize w.alloc (.cells #[.slice AK nk ck, .int .i64 torn, .int .i64 nb] 24) = wa at *
  generalize w.heap.size = bx at *
  have hc2 := H4.cell 2
  go_wp2_with fail
  have HP0 := Lib.hid (show (∀ p ∈ B, p ∈ B) ∧ (∀ p ∈ B, p.2.length = 128) ∧ (∀ p ∈ safe, Good B p) ∧ safe.length = safe.length ∧ safe.map (·.2) = crashS keep torn nt D.safe D.pend 0 from ⟨fun _ h => h, hok.out.full, hok.out.good, rfl, HD1.out.symm⟩)
  go_loopw [11] (fun i wr => ∃ (k : Nat) (Bk sk : List Buf), k ≤ pend.length ∧ i = .int .i64 k ∧ Hid ((∀ p ∈ B, p ∈ Bk) ∧ (∀ p ∈ Bk, p.2.length = 128) ∧ (∀ p ∈ sk, Good Bk p) ∧ sk.length = safe.length ∧ sk.map (·.2) = crashS keep torn nt D.safe D.pend k) ∧
    Sat wr (row d 115 #[.slice AS safe.length cS, .map (some mb), .slice AP pend.length cP, .bool stops, .int .i64 after] :: own 30 1 (.slice AS safe.length cS) safe.length (sk.map (·.1)) :: imap mb last :: own 117 2 (.slice AP pend.length cP) pend.length (flatP pend) :: row bx 24 #[.slice AK nk ck, .int .i64 torn, .int .i64 nb] :: pool Bk :: F) ∧ Env w wr) (fun i _ => pend.length - (intOf i).toNat)
  case atStart => exact ⟨0, B, safe, by omega, rfl, HP0.out, H4, E4⟩
  case round =>
    clear H3 H4 hc2 E4 HP0
    obtain ⟨k, Bk, sk, hk, rfl, HP, H4, E4⟩ := hrel
    by_cases hlt : k < pend.length
    · obtain ⟨m, vk, xk, hpk⟩ : ∃ m vk xk, pend[k] = (m, (vk, xk)) := ⟨_, _, _, rfl⟩
      have hpm := hok.out.pgood (m, (vk, xk)) (by dsimp only; rw [← hpk]; exact List.getElem_mem hlt)
      have hm : m < safe.length := hpm.1
      have HMB := Lib.hid (show (vk, xk) ∈ Bk from HP.out.1 _ hpm.2)
      obtain ⟨gk, ck2, rfl, -⟩ := (H4.b5.pool_at HMB.out).own_addr (by omega)
      obtain ⟨gP, cP', hAP, -⟩ := H4.b3.own_addr (by omega)
      cases hAP
      obtain ⟨gS, cS', hAS, -⟩ := H4.b1.own_addr (by omega)
      cases hAS
      have hfp := flatP_get pend k hlt
      rw [hpk] at hfp
      have p1 := H4.b3.own_cell _ _ hfp.1
      have p2 := H4.b3.own_cell _ _ hfp.2
      have HPK := Lib.hid (show D.pend[k]? = some (m, xk) by rw [HD2.out]; simp [hlt, hpk])
      clear hfp hpk hpm
      go_upto_region 4 with fail
      have H5 := (H4.alloc (.cells #[.int .i64 m, .slice (some ⟨gk, 0, none⟩) 128 ck2] 117)).p5
      have E5 := E4.alloc (.cells #[.int .i64 m, .slice (some ⟨gk, 0, none⟩) 128 ck2] 117)
      generalize wr.alloc (.cells #[.int .i64 m, .slice (some ⟨gk, 0, none⟩) 128 ck2] 117) = wx at *
      generalize wr.heap.size = T5 at *
      clear H4 E4 p1 p2
      have b0 := H5.b4.cell 0
      have b1 := H5.b4.cell 1
      have b2 := H5.b4.cell 2
      have q0 := H5.b5.cell 0
      have q1 := H5.b5.cell 1
      have q2 := H5.cell 0
      have hskl : m < sk.length := by rw [HP.out.2.2.2.1]; exact hm
      obtain ⟨vo, xo, hso⟩ : ∃ vo xo, sk[m] = (vo, xo) := ⟨_, _, rfl⟩
      have hz : (sk.map (·.1))[m]? = some vo := by simp [hskl, hso]
      have HSO := Lib.hid (show sk[m]? = some (vo, xo) by rw [List.getElem?_eq_getElem hskl, hso])
      have q3 := H5.b1.own_cell m _ hz
      have q4 := H5.b1.own_free (by omega) m
      have HZ := Lib.hid hz
      clear hz hskl hso
      obtain ⟨kb, hkb⟩ : ∃ kb, keep.getD k false = kb := ⟨_, rfl⟩
      go_cut [16] from 17 to 28 (fun s16 wr => s16 = .bool kb ∧ wr = wx)
      case first =>
        by_cases hkn : k < nk
        · have hkl : k < keep.length := by have := HKN.out; omega
          obtain ⟨bK, oK, rfl, hcK⟩ := (HR.out wx H5.tail.tail.tail.tail.tail.tail.tail).2 k (.bool keep[k]) (by simp [hkl])
          have hkk : keep[k] = kb := by rw [← hkb]; simp [hkl]
          rw [hkk] at hcK
          clear hkk hkb
          go_wp2_with fail
          go_meet
          case rel => exact ⟨rfl, rfl⟩
        · have hkf : kb = false := by rw [← hkb]; simp [List.getElem?_eq_none (show keep.length ≤ k by have := HKN.out; omega)]
          subst hkf
          clear hkb
          go_wp2_with fail
          go_meet
          case rel => exact ⟨rfl, rfl⟩
      case rest =>
      obtain ⟨rfl, hw⟩ := hcut
      rw [hw]
      clear hw wc
      have HKB := Lib.hid hkb
      clear hkb
      cases kb with
      | true =>
        go_upto_region 5 with fail
        go_region
        have H6 := (H5.b1.own_set (i := m) (by omega) (.slice (some ⟨gk, 0, none⟩) 128 ck2)).drew.b5.tail.b1
        have E6 := (E5.set ⟨gS, m, none⟩ (.slice (some ⟨gk, 0, none⟩) 128 ck2)).drew
        have HP2 := Lib.hid (crash_keep HP.out HPK.out HKB.out HMB.out)
        rw [show (sk.map (·.1)).set m (.slice (some ⟨gk, 0, none⟩) 128 ck2) = (sk.set m (.slice (some ⟨gk, 0, none⟩) 128 ck2, xk)).map (·.1) by rw [List.map_set]] at H6
        generalize (wx.setCell ⟨gS, m, none⟩ (.slice (some ⟨gk, 0, none⟩) 128 ck2)).drew = wy at *
        clear b0 b1 b2 q0 q1 q2 q3 q4 H5 E5
        go_wp2_with fail
        go_roundw
        case rel => exact ⟨k + 1, Bk, sk.set m (.slice (some ⟨gk, 0, none⟩) 128 ck2, xk), by omega, by go_num, HP2.out, H6, E6⟩
        case measure => simp [intOf]; omega
      | false =>
        by_cases ht : (k : Int) = torn
        · subst ht
          have e3 : ((k : Int) == (k : Int)) = true := by simp
          go_upto_region 7 with fail
          have HGO := Lib.hid (HP.out.2.2.1 (vo, xo) (List.mem_of_getElem? HSO.out))
          have HXO := Lib.hid (good_len HP.out.2.1 HGO.out)
          have HXK := Lib.hid (HP.out.2.1 _ HMB.out)
          refine region_aside (fun w' => w'.cell? ⟨d, 0, none⟩ = some (.slice (some ⟨gS, 0, none⟩) safe.length cS) ∧ w'.cell? ⟨T5, 0, none⟩ = some (.int .i64 m) ∧ w'.cell? ⟨T5, 1, none⟩ = some (.slice (some ⟨gk, 0, none⟩) 128 ck2) ∧ w'.cell? ⟨gS, m, none⟩ = some vo ∧ w'.cell? ⟨bx, 2, none⟩ = some (.int .i64 nb)) 22 _ (by kernel_rfl) rfl rfl rfl (by kernel_rfl) (by kernel_rfl) ⟨q2, q0, q1, q3, b2⟩ (fun hHeld => ?_)
          simp only [setAside, List.setIfInBounds_toArray, List.set_cons_zero, List.set_cons_succ]
          refine' wpAnyH_take (i := 0) (oi := _) (v := _) rfl (by kernel_rfl) (by kernel_rfl) (by kernel_rfl) (fun _ _ _ h => h) (Or.inl ⟨by rfl, ?hy0⟩) hHeld ?rest0
          case hy0 => (intro w' hSw; (try dsimp only at hSw); go_simp; try with_reducible rfl)
          simp only [List.getElem_toArray, List.getElem_cons_zero, List.getElem_cons_succ, Act.put, List.setIfInBounds_toArray, List.set_cons_zero, List.set_cons_succ]
          refine' wpAnyH_take (i := 1) (oi := _) (v := _) rfl (by kernel_rfl) (by kernel_rfl) (by kernel_rfl) (fun _ _ _ h => h) (Or.inl ⟨by rfl, ?hy1⟩) hHeld ?rest1
          case hy1 => (intro w' hSw; (try dsimp only at hSw); go_simp; try with_reducible rfl)
          simp only [List.getElem_toArray, List.getElem_cons_zero, List.getElem_cons_succ, Act.put, List.setIfInBounds_toArray, List.set_cons_zero, List.set_cons_succ]
          refine' wpAnyH_take (i := 2) (oi := _) (v := _) rfl (by kernel_rfl) (by kernel_rfl) (by kernel_rfl) (fun _ _ _ h => h) (Or.inl ⟨by rfl, ?hy2⟩) hHeld ?rest2
          case hy2 => (intro w' hSw; (try dsimp only at hSw); go_simp; try with_reducible rfl)
          simp only [List.getElem_toArray, List.getElem_cons_zero, List.getElem_cons_succ, Act.put, List.setIfInBounds_toArray, List.set_cons_zero, List.set_cons_succ]
          refine' wpAnyH_take (i := 3) (oi := _) (v := _) rfl (by kernel_rfl) (by kernel_rfl) (by kernel_rfl) (fun _ _ _ h => h) (Or.inl ⟨by rfl, ?hy3⟩) hHeld ?rest3
          case hy3 => (intro w' hSw; (try dsimp only at hSw); go_simp; try with_reducible rfl)
          simp only [List.getElem_toArray, List.getElem_cons_zero, List.getElem_cons_succ, Act.put, List.setIfInBounds_toArray, List.set_cons_zero, List.set_cons_succ]
          refine' wpAnyH_take (i := 4) (oi := _) (v := _) rfl (by kernel_rfl) (by kernel_rfl) (by kernel_rfl) (fun _ _ _ h => h) (Or.inl ⟨by rfl, ?hy4⟩) hHeld ?rest4
          case hy4 => (intro w' hSw; (try dsimp only at hSw); go_simp; try with_reducible rfl)
          simp only [List.getElem_toArray, List.getElem_cons_zero, List.getElem_cons_succ, Act.put, List.setIfInBounds_toArray, List.set_cons_zero, List.set_cons_succ]
          refine' wpAnyH_take (i := 5) (oi := _) (v := _) rfl (by kernel_rfl) (by kernel_rfl) (by kernel_rfl) (fun _ _ _ h => h) (Or.inl ⟨by rfl, ?hy5⟩) hHeld ?rest5
          case hy5 => (intro w' hSw; (try dsimp only at hSw); go_simp; try with_reducible rfl)
          simp only [List.getElem_toArray, List.getElem_cons_zero, List.getElem_cons_succ, Act.put, List.setIfInBounds_toArray, List.set_cons_zero, List.set_cons_succ]
          refine' wpAnyH_take (i := 6) (oi := _) (v := _) rfl (by kernel_rfl) (by kernel_rfl) (by kernel_rfl) (fun _ _ _ h => h) (Or.inl ⟨by rfl, ?hy6⟩) hHeld ?rest6
          case hy6 => (intro w' hSw; (try dsimp only at hSw); go_simp; try with_reducible rfl)
          simp only [List.getElem_toArray, List.getElem_cons_zero, List.getElem_cons_succ, Act.put, List.setIfInBounds_toArray, List.set_cons_zero, List.set_cons_succ]
          refine' wpAnyH_take (i := 7) (oi := _) (v := _) rfl (by kernel_rfl) (by kernel_rfl) (by kernel_rfl) (fun _ _ _ h => h) (Or.inl ⟨by rfl, ?hy7⟩) hHeld ?rest7
          case hy7 => (intro w' hSw; (try dsimp only at hSw); go_simp; try with_reducible rfl)
          simp only [List.getElem_toArray, List.getElem_cons_zero, List.getElem_cons_succ, Act.put, List.setIfInBounds_toArray, List.set_cons_zero, List.set_cons_succ]
          refine' wpAnyH_take (i := 8) (oi := _) (v := _) rfl (by kernel_rfl) (by kernel_rfl) (by kernel_rfl) (fun _ _ _ h => h) (Or.inl ⟨by rfl, ?hy8⟩) hHeld ?rest8
          case hy8 => (intro w' hSw; (try dsimp only at hSw); go_simp; try with_reducible rfl)
          simp only [List.getElem_toArray, List.getElem_cons_zero, List.getElem_cons_succ, Act.put, List.setIfInBounds_toArray, List.set_cons_zero, List.set_cons_succ]
          refine' wpAnyH_take (i := 9) (oi := _) (v := _) rfl (by kernel_rfl) (by kernel_rfl) (by kernel_rfl) (fun _ _ _ h => h) (Or.inl ⟨by rfl, ?hy9⟩) hHeld ?rest9
          case hy9 => (intro w' hSw; (try dsimp only at hSw); go_simp; try with_reducible rfl)
          simp only [List.getElem_toArray, List.getElem_cons_zero, List.getElem_cons_succ, Act.put, List.setIfInBounds_toArray, List.set_cons_zero, List.set_cons_succ]
          refine' wpAnyH_take (i := 10) (oi := _) (v := _) rfl (by kernel_rfl) (by kernel_rfl) (by kernel_rfl) (fun _ _ _ h => h) (Or.inl ⟨by rfl, ?hy10⟩) hHeld ?rest10
          case hy10 => (intro w' hSw; (try dsimp only at hSw); go_simp; try with_reducible rfl)
          simp only [List.getElem_toArray, List.getElem_cons_zero, List.getElem_cons_succ, Act.put, List.setIfInBounds_toArray, List.set_cons_zero, List.set_cons_succ]
          refine' wpAnyH_take (i := 11) (oi := _) (v := _) rfl (by kernel_rfl) (by kernel_rfl) (by kernel_rfl) (fun _ _ _ h => h) (Or.inl ⟨by rfl, ?hy11⟩) hHeld ?rest11
          case hy11 => (intro w' hSw; (try dsimp only at hSw); go_simp; try with_reducible rfl)
          simp only [List.getElem_toArray, List.getElem_cons_zero, List.getElem_cons_succ, Act.put, List.setIfInBounds_toArray, List.set_cons_zero, List.set_cons_succ]
          refine' wpAnyH_take (i := 12) (oi := _) (v := _) rfl (by kernel_rfl) (by kernel_rfl) (by kernel_rfl) (fun _ _ _ h => h) (Or.inl ⟨by rfl, ?hy12⟩) hHeld ?rest12
          case hy12 => (intro w' hSw; (try dsimp only at hSw); go_simp; try with_reducible rfl)
          simp only [List.getElem_toArray, List.getElem_cons_zero, List.getElem_cons_succ, Act.put, List.setIfInBounds_toArray, List.set_cons_zero, List.set_cons_succ]
          refine' wpAnyH_take (i := 13) (oi := _) (v := _) rfl (by kernel_rfl) (by kernel_rfl) (by kernel_rfl) (fun _ _ _ h => h) (Or.inl ⟨by rfl, ?hy13⟩) hHeld ?rest13
          case hy13 => (intro w' hSw; (try dsimp only at hSw); go_simp; try with_reducible rfl)
          simp only [List.getElem_toArray, List.getElem_cons_zero, List.getElem_cons_succ, Act.put, List.setIfInBounds_toArray, List.set_cons_zero, List.set_cons_succ]
          refine' wpAnyH_take (i := 14) (oi := _) (v := _) rfl (by kernel_rfl) (by kernel_rfl) (by kernel_rfl) (fun _ _ _ h => h) (Or.inl ⟨by rfl, ?hy14⟩) hHeld ?rest14
          case hy14 => (intro w' hSw; (try dsimp only at hSw); go_simp; try with_reducible rfl)
          simp only [List.getElem_toArray, List.getElem_cons_zero, List.getElem_cons_succ, Act.put, List.setIfInBounds_toArray, List.set_cons_zero, List.set_cons_succ]
          refine' wpAnyH_take (i := 15) (oi := _) (v := _) rfl (by kernel_rfl) (by kernel_rfl) (by kernel_rfl) (fun _ _ _ h => h) (Or.inl ⟨by rfl, ?hy15⟩) hHeld ?rest15
          case hy15 => (intro w' hSw; (try dsimp only at hSw); go_simp; try with_reducible rfl)
          simp only [List.getElem_toArray, List.getElem_cons_zero, List.getElem_cons_succ, Act.put, List.setIfInBounds_toArray, List.set_cons_zero, List.set_cons_succ]
          refine' wpAnyH_take (i := 16) (oi := _) (v := _) rfl (by kernel_rfl) (by kernel_rfl) (by kernel_rfl) (fun _ _ _ h => h) (Or.inl ⟨by rfl, ?hy16⟩) hHeld ?rest16
          case hy16 => (intro w' hSw; (try dsimp only at hSw); go_simp; try with_reducible rfl)
          simp only [List.getElem_toArray, List.getElem_cons_zero, List.getElem_cons_succ, Act.put, List.setIfInBounds_toArray, List.set_cons_zero, List.set_cons_succ]
          refine' wpAnyH_take (i := 17) (oi := _) (v := _) rfl (by kernel_rfl) (by kernel_rfl) (by kernel_rfl) (fun _ _ _ h => h) (Or.inl ⟨by rfl, ?hy17⟩) hHeld ?rest17
          case hy17 => (intro w' hSw; (try dsimp only at hSw); go_simp; try with_reducible rfl)
          simp only [List.getElem_toArray, List.getElem_cons_zero, List.getElem_cons_succ, Act.put, List.setIfInBounds_toArray, List.set_cons_zero, List.set_cons_succ]
          refine' wpAnyH_take (i := 18) (oi := _) (v := _) rfl (by kernel_rfl) (by kernel_rfl) (by kernel_rfl) (fun _ _ _ h => h) (Or.inl ⟨by rfl, ?hy18⟩) hHeld ?rest18
          case hy18 => (intro w' hSw; (try dsimp only at hSw); go_simp; try with_reducible rfl)
          simp only [List.getElem_toArray, List.getElem_cons_zero, List.getElem_cons_succ, Act.put, List.setIfInBounds_toArray, List.set_cons_zero, List.set_cons_succ]
          refine' wpAnyH_take (i := 19) (oi := _) (v := _) rfl (by kernel_rfl) (by kernel_rfl) (by kernel_rfl) (fun _ _ _ h => h) (Or.inl ⟨by rfl, ?hy19⟩) hHeld ?rest19
          case hy19 => (intro w' hSw; (try dsimp only at hSw); go_simp; try with_reducible rfl)
          simp only [List.getElem_toArray, List.getElem_cons_zero, List.getElem_cons_succ, Act.put, List.setIfInBounds_toArray, List.set_cons_zero, List.set_cons_succ]
          refine wpAnyH_ready (rs := [20]) (by kernel_rfl) (by simp) ?_
          refine AllReadyH.cons (o := _) rfl (fun K hK => ?_) AllReadyH.nil
          rw [if_pos (by rfl)]
          go_simp
          go_at_call 70
          refine (torn_any vo (.slice (some ⟨gk, 0, none⟩) 128 ck2) xo xk nt H5.drew.b6 HGO.out HMB.out HXO.out HXK.out hnt1).mono ?_
          rintro e w6 ⟨v6, rfl, H6, E6⟩
          obtain ⟨g6, c6, rfl, -⟩ := H6.own_addr (by omega)
          refine hK.out _ _ ⟨H6.b2.cell 0, H6.tail.tail.b5.cell 0, H6.tail.tail.b5.cell 1, H6.b3.own_cell m _ HZ.out, H6.b6.cell 2⟩ (fun hHeld2 => ?_)
          clear hK K
          try simp only [List.getElem_toArray, List.getElem_cons_zero, List.getElem_cons_succ, Act.put, List.setIfInBounds_toArray, List.set_cons_zero, List.set_cons_succ]
          refine' wpAnyH_take (i := 21) (oi := _) (v := _) rfl (by kernel_rfl) (by kernel_rfl) (by kernel_rfl) (fun _ _ _ h => h) (Or.inl ⟨by rfl, ?hy21⟩) hHeld2 ?rest21
          case hy21 => (intro w' hSw; (try dsimp only at hSw); go_simp; try with_reducible rfl)
          simp only [List.getElem_toArray, List.getElem_cons_zero, List.getElem_cons_succ, Act.put, List.setIfInBounds_toArray, List.set_cons_zero, List.set_cons_succ]
          refine' wpAnyH_take (i := 22) (oi := _) (v := _) rfl (by kernel_rfl) (by kernel_rfl) (by kernel_rfl) (fun _ _ _ h => h) (Or.inl ⟨by rfl, ?hy22⟩) hHeld2 ?rest22
          case hy22 => (intro w' hSw; (try dsimp only at hSw); go_simp; try with_reducible rfl)
          try simp only [List.getElem_toArray, List.getElem_cons_zero, List.getElem_cons_succ, Act.put]
          refine wpAnyH_done (by kernel_rfl) ?_ _
          show Oper.wp _ _ _ _ _ _
          have c3 := H6.b3.own_cell m _ HZ.out
          have c5 := H6.b3.own_free (by omega) m
          have H7 := (H6.b3.own_set (i := m) (by omega) (.slice (some ⟨g6, 0, none⟩) 128 c6)).p2.pool_add.b6.tail.p5.b1
          have E7 := (E5.drew.trans E6).set ⟨gS, m, none⟩ (.slice (some ⟨g6, 0, none⟩) 128 c6)
          have HP2 := Lib.hid (crash_torn (v := .slice (some ⟨g6, 0, none⟩) 128 c6) HP.out HPK.out HKB.out HSO.out (by rw [tornL, List.length_append, List.length_take, List.length_drop, HXO.out, HXK.out]; omega))
          rw [show (sk.map (·.1)).set m (.slice (some ⟨g6, 0, none⟩) 128 c6) = (sk.set m (.slice (some ⟨g6, 0, none⟩) 128 c6, tornL xo xk nt)).map (·.1) by rw [List.map_set]] at H7
          go_simp
          generalize w6.setCell ⟨gS, m, none⟩ (.slice (some ⟨g6, 0, none⟩) 128 c6) = wy at *
          clear c3 c5 b0 b1 b2 q0 q1 q2 q3 q4 H5 E5 H6
          go_wp2_with fail
          go_roundw
          case rel => exact ⟨k + 1, (.slice (some ⟨g6, 0, none⟩) 128 c6, tornL xo xk nt) :: Bk, sk.set m (.slice (some ⟨g6, 0, none⟩) 128 c6, tornL xo xk nt), by omega, by go_num, HP2.out, H7, E7⟩
          case measure => simp [intOf]; omega
        · have e3 : ((k : Int) == torn) = false := by simpa using ht
          have HP2 := Lib.hid (crash_skip HP.out HPK.out HKB.out ht)
          have H6 := H5.b5.tail
          go_wp2_with fail
          go_roundw
          case rel => exact ⟨k + 1, Bk, sk, by omega, by go_num, HP2.out, H6, E5⟩
          case measure => simp [intOf]; omega
    · obtain rfl : k = pend.length := by omega
      obtain ⟨hB1, hB2, hB3, hB4, hB5⟩ := HP.out
      have hlen : D.pend.length = pend.length := by rw [HD2.out]; simp
      have hok := hok.out
      have H6 : Sat wr (dk d Bk ⟨crashS keep torn nt D.safe D.pend pend.length, D.pend, if stops then some after else none⟩ :: pool Bk :: F) :=
        Sat.dk_shut ⟨sk, last, pend, stops, after, .slice AS safe.length cS, .slice AP pend.length cP, mb⟩
          ⟨hB3, fun p hp => ⟨by have := (hok.pgood p hp).1; simp only at this ⊢; omega, hB1 _ (hok.pgood p hp).2⟩, hok.last, hok.after, hB2, by simp only; rw [hB4]; exact hsl⟩
          (by simp only [Raw.abs, hB5, HD2.out]) (by simp only [hB4]; exact H4.b4.tail)
      have HB1 := Lib.hid hB1
      clear hB1 hB2 hB3 hB4 hB5 hok HP
      go_upto_region 10 with (go_at_call 69; refine (settle_any H6).mono ?_; rintro e w6 ⟨rfl, H7, E7⟩)
      obtain ⟨safe2, last2, pend2, stops2, after2, vS2, vP2, mb2, hok2, habs2, H8⟩ := H7.dk_open
      have hc3 := H8.cell 3
      have hf3 := H8.free 3
      go_wp2_with fail
      go_end0
      refine ⟨rfl, Bk, HB1.out, ?_, (E4.trans E7).set _ _⟩
      have h9 := habs2.out
      have hok2 := hok2.out
      have g1 : crashS keep torn nt D.safe D.pend pend.length = safe2.map (·.2) := congrArg Dsk.safe h9
      have g2 : [] = pend2.map (fun p => (p.1, p.2.2)) := congrArg Dsk.pend h9
      exact Sat.dk_shut ⟨safe2, last2, pend2, false, after2, vS2, vP2, mb2⟩ ⟨hok2.good, hok2.pgood, hok2.last, hok2.after, hok2.full, hok2.some_⟩ (by simp only [Raw.abs, ← g1, ← g2, hlen]; rfl) (by simpa using H8.set (i := 3) (.bool false))
end Go.Proofs.Ythbabdjicplooaa
