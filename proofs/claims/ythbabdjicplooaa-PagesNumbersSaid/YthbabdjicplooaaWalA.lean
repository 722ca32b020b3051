/- package wal, first part: nothing, parts, head. Conditions: none. -/
import Derived.Test.YthbabdjicplooaaCodec
import Derived.Lib.SlBytesConst
namespace Go.Proofs.Ythbabdjicplooaa
open Go.RowKit

theorem step_copy_row {P : Program} {w : World} {ops : Array Oper} {o : Oper} {a : Act} {K : Act → World → Prop} {Q : Exit → Act → World → Prop} {E : Prop} {F : List HP}
    (hgd : o.guard = none) (d s : Operand) (dT sT : TypeId) (ho : o.op = .call { callee := .builtin .copy, args := #[d, s], argTypes := #[dT, sT] }) (elem : TypeId) (k : Nat)
    (hu : P.underlying dT = some (.slice elem)) (hsz : (P.info? elem).map (·.size) = some k) {g : Nat} {t : TypeId} {cur : Array Value} (H : Sat w (row g t cur :: F))
    (dp sp : Option Addr) (dLen dCap sLen sCap : Nat) (hd : a.eval d = .slice dp dLen dCap) (hs : a.eval s = .slice sp sLen sCap) (off m : Nat) (cs : List Value) (hm : m = Nat.min sLen dLen)
    (hpos : 0 < m → dp = some ⟨g, off, none⟩) (hr : Rd w k sp m cs) (hfit : off + cs.length ≤ cur.size) (h1 : ∀ v ∈ cs, v.oneCell' = true)
    (h : ∀ w', Sat w' (row g t (splice cur.toList off cs).toArray :: F) → Env w w' → K (a.put o.dst (goInt m)) w') : if Region.wanted o (yielded ops a.tmps) = true then Oper.wp P o a w K Q else E := by
  have hrun := run_copy_any (P := P) w dT sT o.type elem k g off dLen dCap sLen sCap dp sp cur t m cs hu hsz H.get hm hpos hr hfit h1
  have hw : Region.wanted o (yielded ops a.tmps) = true := by unfold Region.wanted; rw [hgd]
  rw [if_pos hw]
  unfold Oper.wp execOp
  simp only [ho, resolve, invoke, builtin, Sem.run_bind, Sem.run_pure, Result.andThen_ok, List.map_toArray, List.map_cons, List.map_nil, hd, hs, hrun]
  refine h _ ?_ ⟨rfl, rfl, rfl, by simp [World.setRow]⟩
  have hb := H.get
  refine H.update (by simp [World.setRow]) fun S1 hlt h => ⟨S1, ⟨h.1, setRow_heap w g _ _ t _ hb⟩, fun k hk => ⟨by have := hlt k hk; simpa [World.setRow] using this, .inl hk⟩, fun k _ hne => setRow_other w g k _ (fun e => hne (by rw [e]; exact h.1))⟩

theorem step_copy_sat {P : Program} {w : World} {ops : Array Oper} {o : Oper} {a : Act} {K : Act → World → Prop} {Q : Exit → Act → World → Prop} {E : Prop} {F : List HP}
    (hgd : o.guard = none) (d s : Operand) (dT sT : TypeId) (ho : o.op = .call { callee := .builtin .copy, args := #[d, s], argTypes := #[dT, sT] }) (elem : TypeId) (k : Nat)
    (hu : P.underlying dT = some (.slice elem)) (hsz : (P.info? elem).map (·.size) = some k) {e : TypeId} {g n c : Nat} {xs : List Value} (H : Sat w (own e k (.slice (some ⟨g, 0, none⟩) n c) n xs :: F))
    (dp sp : Option Addr) (dLen dCap sLen sCap : Nat) (hd : a.eval d = .slice dp dLen dCap) (hs : a.eval s = .slice sp sLen sCap) (off m : Nat) (cs : List Value) (hm : m = Nat.min sLen dLen)
    (hpos : 0 < m → dp = some ⟨g, off, none⟩) (hr : Rd w k sp m cs) (hfit : off + cs.length ≤ xs.length) (h1 : ∀ v ∈ cs, v.oneCell' = true)
    (h : ∀ w', Sat w' (own e k (.slice (some ⟨g, 0, none⟩) n c) n (splice xs off cs) :: F) → Env w w' → K (a.put o.dst (goInt m)) w') : if Region.wanted o (yielded ops a.tmps) = true then Oper.wp P o a w K Q else E := by
  obtain ⟨S1, S2, a1, a2, a3, ⟨hl, hH⟩, a5⟩ := id H
  rcases hH with ⟨h, _⟩ | ⟨g', cap, cur, hv, hS, hg, hc, hmx, hcs, ht⟩
  · cases h
  · injection hv with hA _ hC
    injection hA with hA
    injection hA with hA _
    subst hA; subst hC
    have hnk := Nat.mul_le_mul_right k hc
    have H' : Sat w (row g e cur :: F) := ⟨S1, S2, a1, a2, a3, ⟨hS, hg⟩, a5⟩
    refine step_copy_row hgd d s dT sT ho elem k hu hsz H' dp sp dLen dCap sLen sCap hd hs off m cs hm hpos hr (by omega) h1 ?_
    intro w' G E
    have hcl : cur.toList.length = c * k := by rw [Array.length_toList]; exact hcs
    refine h w' (G.own_shut hc hmx ?_ ?_) E
    · have := length_splice cur.toList off cs (by omega)
      simpa [hcs] using this
    · simp only [splice]
      rw [← ht, List.take_append, List.take_append, List.length_take, Array.length_toList, List.take_take, List.take_take, List.drop_take]
      have hx : off + cs.length ≤ n * k := by omega
      have hcz : cur.size = c * k := hcs
      rw [show min (n * k) off = off by omega, show min off (n * k) = off by omega, show min off cur.size = off by omega, List.take_of_length_le (show cs.length ≤ n * k - off by omega), Nat.sub_sub]

/-- Bytes laid over others. -/
def spl (a : List Int) (o : Nat) (b : List Int) : List Int := a.take o ++ b ++ a.drop (o + b.length)
theorem splice_bytes (a b : List Int) (o : Nat) : splice (bytes a) o (bytes b) = bytes (spl a o b) := by simp [splice, spl, bytes]
theorem spl_len (a b : List Int) (o : Nat) (h : o + b.length ≤ a.length) : (spl a o b).length = a.length := by simp [spl]; omega

theorem nothing_any {w : World} {F : List HP} (H : Sat w F) :
    Calls Try.prog 83 #[] w fun e w' => ∃ g, e = .returned (.slice (some ⟨g, 0, none⟩) 128 128) ∧ Sat w' (own 5 1 (.slice (some ⟨g, 0, none⟩) 128 128) 128 (bytes noughts) :: F) ∧ Env w w' := by
  go_enter Try.func83, Try.ntmps83
  go_wp2_with (at_make; go_must (refine wpList_make_sat rfl _ _ 30 rfl H 5 (.int .u8 0) 1 1 Try.underlying30 Try.info_byte _ _ 128 rfl rfl (by omega) (by simp only [maxLen]; omega) ?_); intro w2 H2 E2; rw [made_byte] at H2)
  go_ret
  exact ⟨_, rfl, H2, E2⟩

def partsN (n : Nat) : Nat := (n + 106) / 107
theorem parts_any (n : Nat) (w : World) (hn : n < 4294967296) :
    Calls Try.prog 80 #[.int .i64 n] w fun e w' => e = .returned (.int .i64 (partsN n)) ∧ w = w' := by
  have h1 : IntKind.i64.wrap ((n : Int) + 107) = (n : Int) + 107 := IntWalk.i64_in _ (by omega)
  have h2 : IntKind.i64.wrap ((n : Int) + 107 - 1) = (n : Int) + 106 := by rw [IntWalk.i64_in _ (by omega)]; omega
  have h3 : ((n : Int) + 106) / 107 = (partsN n : Int) := by unfold partsN; omega
  have h4 : ((n : Int) + 106).tdiv 107 = (partsN n : Int) := by rw [Int.tdiv_eq_ediv_of_nonneg (by omega)]; exact h3
  generalize partsN n = q at *
  go_enter Try.func80, Try.ntmps80
  go_wp2_with fail
  go_ret
  first
    | exact ⟨rfl, rfl⟩
    | exact ⟨by congr 2; omega, rfl⟩

def logT (e : Int) : List Int := beL e 8 ++ (beL 3 2 ++ [108, 111, 103])
def headL (e : Int) : List Int := (spl (spl noughts 0 (logT e)) 119 (beL e 8)).set 127 1

set_option maxHeartbeats 2000000 in
set_option maxRecDepth 100000 in
theorem head_any {w : World} {F : List HP} (e : Int) (H : Sat w F) (he : 0 ≤ e ∧ e < 18446744073709551616) :
    Calls Try.prog 89 #[.int .u64 e] w fun r w' => ∃ g, r = .returned (.slice (some ⟨g, 0, none⟩) 128 128) ∧ Sat w' (own 5 1 (.slice (some ⟨g, 0, none⟩) 128 128) 128 (bytes (headL e)) :: F) ∧ Env w w' := by
  have HE := Lib.hid he
  clear he
  have hlt : (logT e).length = 13 := by simp [logT, beL_len]
  have HL := Lib.hid hlt
  clear hlt
  have kc := fun (w : World) (C : Array Value) (n c : Nat) => Lib.run_convert_bytes_const (P := Try.prog) w 30 5 C n c Try.underlying30 Try.underlying5
  go_enter Try.func89, Try.ntmps89
  go_wp2_with fail
  refine (wnew H).mono ?_
  rintro r w1 ⟨p, rfl, H1, E1⟩
  go_wp2_with fail
  refine (wnumber e 8 H1 (by omega) HE.out (by simp)).mono ?_
  rintro r w2 ⟨rfl, H2, E2⟩
  rw [List.nil_append] at H2
  go_wp2_with fail
  clear kc
  have H3 := (H2.alloc (.cells #[.int .u8 108, .int .u8 111, .int .u8 103] 5 (3, 4))).b1
  have E3 := (E1.trans E2).alloc (.cells #[.int .u8 108, .int .u8 111, .int .u8 103] 5 (3, 4))
  have hrl : Reads (blk w2.heap.size (.cells #[.int .u8 108, .int .u8 111, .int .u8 103] 5 (3, 4)) :: F) 1 (some ⟨w2.heap.size, 0, none⟩) 3 (bytes [108, 111, 103]) := fun w h => ⟨rfl, fun j u hu => ⟨_, 0, rfl, by
    rw [cell_of_row w _ _ _ _ _ h.get, Nat.zero_add]
    match j, hu with
    | 0, hu => exact hu
    | 1, hu => exact hu
    | 2, hu => exact hu⟩⟩
  refine (wbytes (some ⟨w2.heap.size, 0, none⟩) 3 3 H3 hrl (by omega) (by omega) (by rw [beL_len]; omega)).mono ?_
  rintro r w4 ⟨rfl, H4, E4⟩
  replace H4 : Sat w4 (wtr p (logT e) :: F) := H4.b1.tail
  have E4' := E3.trans E4
  clear H H1 H2 H3 E1 E2 E3 E4 hrl
  go_wp2_with fail
  refine (nothing_any H4).mono ?_
  rintro r w5 ⟨g, rfl, H5, E5⟩
  go_wp2_with fail
  refine (wdone H5.b1 (by rw [HL.out]; omega)).mono ?_
  rintro r w6 ⟨v6, rfl, H6, E6⟩
  rw [HL.out] at H6
  obtain ⟨A6, c6, rfl, -, -, -⟩ := H6.own_form
  go_upto_region 6 with (show wpList _ _ _ ({ dst := some 17, op := Op.call { callee := Callee.builtin Builtin.copy, args := _, argTypes := _ }, type := _, pos := _, after := _, guard := _ } :: _) _ _; go_must (refine wpList_copy_sat rfl (.tmp 14) (.tmp 16) 30 30 rfl 5 1 Try.underlying30 (by kernel_rfl) H6.b2 _ _ _ _ _ _ rfl rfl 0 13 (bytes (logT e)) rfl (fun _ => rfl) H6.own_at.1 (by rw [bytes_len, bytes_len, HL.out, noughts_len]; omega) (bytes_one _) ?_); intro w7 H7 E7)
  rw [splice_bytes] at H7
  have E7' := ((E4'.trans E5).trans E6).trans E7
  replace H7 : Sat w7 (own 5 1 (.slice (some ⟨g, 0, none⟩) 128 128) 128 (bytes (spl noughts 0 (logT e))) :: wtr p (logT e) :: F) := H7.b1.tail
  have HS1 := Lib.hid (show (spl noughts 0 (logT e)).length = 128 by rw [spl_len _ _ _ (by rw [HL.out, noughts_len]; omega), noughts_len])
  have HT8 := Lib.hid (show (logT e).take 8 = beL e 8 by unfold logT; rw [List.take_left' (beL_len e 8)])
  clear H4 H5 H6 E4' E5 E6 E7
  simp only [Act.put, List.setIfInBounds_toArray, List.set_cons_zero, List.set_cons_succ]
  refine wp_region_held_drew (S := fun _ => True) (by kernel_rfl) trivial (fun hHeld => ?_)
  refine' wpAnyH_take (i := 0) (oi := _) (v := _) rfl (by kernel_rfl) (by kernel_rfl) (by kernel_rfl) (fun _ _ _ h => h) (Or.inl ⟨by rfl, ?hy0⟩) hHeld ?rest0
  case hy0 => (intro w' hSw; (try dsimp only at hSw); go_simp; try with_reducible rfl)
  simp only [List.getElem_toArray, List.getElem_cons_zero, List.getElem_cons_succ, Act.put, List.setIfInBounds_toArray, List.set_cons_zero, List.set_cons_succ]
  refine' wpAnyH_take (i := 1) (oi := _) (v := _) rfl (by kernel_rfl) (by kernel_rfl) (by kernel_rfl) (fun _ _ _ h => h) (Or.inl ⟨by rfl, ?hy1⟩) hHeld ?rest1
  case hy1 => (intro w' hSw; (try dsimp only at hSw); go_simp; try with_reducible rfl)
  simp only [List.getElem_toArray, List.getElem_cons_zero, List.getElem_cons_succ, Act.put, List.setIfInBounds_toArray, List.set_cons_zero, List.set_cons_succ]
  refine' wpAnyH_take (i := 2) (oi := _) (v := _) rfl (by kernel_rfl) (by kernel_rfl) (by kernel_rfl) (fun _ _ _ h => h) (Or.inl ⟨by rfl, ?hy2⟩) hHeld ?rest2
  case hy2 => (intro w' hSw; (try dsimp only at hSw); go_simp; try with_reducible rfl)
  simp only [List.getElem_toArray, List.getElem_cons_zero, List.getElem_cons_succ, Act.put, List.setIfInBounds_toArray, List.set_cons_zero, List.set_cons_succ]
  refine wpAnyH_ready (rs := [3]) (by kernel_rfl) (by simp) ?_
  refine AllReadyH.cons (o := _) rfl (fun K hK => ?_) AllReadyH.nil
  rw [if_pos (by rfl)]
  go_simp
  go_at_call 104
  refine (wdone H7.drew.b1 (by rw [HL.out]; omega)).mono ?_
  rintro r w8 ⟨v8, rfl, H8, E8⟩
  rw [HL.out] at H8
  obtain ⟨A8, c8, rfl, hc8, -, -⟩ := H8.own_form
  have hc8i : (8 : Int) ≤ (c8 : Int) := by omega
  refine hK.out _ _ trivial (fun hHeld2 => ?_)
  clear hK K
  try simp only [List.getElem_toArray, List.getElem_cons_zero, List.getElem_cons_succ, Act.put, List.setIfInBounds_toArray, List.set_cons_zero, List.set_cons_succ]
  refine' wpAnyH_take (i := 4) (oi := _) (v := _) rfl (by kernel_rfl) (by kernel_rfl) (by kernel_rfl) (fun _ _ _ h => h) (Or.inl ⟨by rfl, ?hy4⟩) hHeld2 ?rest4
  case hy4 => (intro w' hSw; (try dsimp only at hSw); go_simp; try with_reducible rfl)
  simp only [List.getElem_toArray, List.getElem_cons_zero, List.getElem_cons_succ, Act.put, List.setIfInBounds_toArray, List.set_cons_zero, List.set_cons_succ]
  refine wpAnyH_ready (rs := [5]) (by kernel_rfl) (by simp) ?_
  refine AllReadyH.cons (o := _) rfl (fun K hK => ?_) AllReadyH.nil
  refine step_copy_sat rfl (.tmp 19) (.tmp 22) 30 30 rfl 5 1 Try.underlying30 (by kernel_rfl) H8.b2 _ _ _ _ _ _ rfl rfl 119 8 (bytes (beL e 8)) rfl (fun _ => rfl) (by have := H8.own_at.1.take (m := 8) (by omega); rwa [Nat.mul_one, bytes, ← List.map_take, HT8.out] at this) (by rw [bytes_len, bytes_len, beL_len, HS1.out]; omega) (bytes_one _) ?_
  intro w9 H9 E9
  refine hK.out _ _ trivial (fun hHeld3 => ?_)
  clear hK K
  try simp only [List.getElem_toArray, List.getElem_cons_zero, List.getElem_cons_succ, Act.put, List.setIfInBounds_toArray, List.set_cons_zero, List.set_cons_succ]
  refine wpAnyH_done (by kernel_rfl) ?_ _
  rw [splice_bytes] at H9
  have hl9 : (spl (spl noughts 0 (logT e)) 119 (beL e 8)).length = 128 := by rw [spl_len _ _ _ (by rw [beL_len, HS1.out]; omega), HS1.out]
  have E9' := (E7'.drew.trans E8).trans E9
  replace H9 : Sat w9 (own 5 1 (.slice (some ⟨g, 0, none⟩) 128 128) 128 (bytes (spl (spl noughts 0 (logT e)) 119 (beL e 8))) :: F) := H9.b1.tail.b1.tail
  have HH := Lib.hid (show headL e = (spl (spl noughts 0 (logT e)) 119 (beL e 8)).set 127 1 from rfl)
  generalize spl (spl noughts 0 (logT e)) 119 (beL e 8) = ys at *
  have c1 := H9.own_cell 127 (.int .u8 (ys.getD 127 0)) (by rw [bytes, List.getElem?_map, List.getD_eq_getElem?_getD, List.getElem?_eq_getElem (by omega)]; rfl)
  have f1 := H9.own_free (by omega) 127
  generalize ys.getD 127 0 = y0 at c1
  have H10 := H9.own_set (i := 127) (by omega) (.int .u8 1)
  rw [show (bytes ys).set 127 (.int .u8 1) = bytes (headL e) by rw [HH.out, bytes, bytes, List.map_set]] at H10
  have E10 := E9'.set ⟨g, 127, none⟩ (.int .u8 1)
  clear H7 H8 E7' E8 E9 E9' hHeld hHeld2 hHeld3 hc8 hc8i
  have HS10 := Lib.hid H10
  have HE10 := Lib.hid E10
  clear H10 E10 hl9
  go_wp2_with fail
  go_ret
  exact ⟨g, rfl, HS10.out, HE10.out⟩
end Go.Proofs.Ythbabdjicplooaa
