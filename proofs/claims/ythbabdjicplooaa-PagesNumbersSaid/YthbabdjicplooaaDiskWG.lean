/- The disk's Read and Write. Conditions: fewer than 2^32 writes pending. -/
import Derived.Test.YthbabdjicplooaaDisk
namespace Go.Proofs.Ythbabdjicplooaa
open Go.RowKit

/-- What a sector reads as. -/
def Dsk.rd (D : Dsk) (n : Nat) : List Int := (lastP D.pend n).getD (D.safe.getD n noughts)

theorem made_byte (n : Nat) : (madeCells (Value.int .u8 0).cells (n * 1)).toList = bytes (List.replicate n 0) := by
  rw [Nat.mul_one]; exact (toList_madeCells_one _ _).trans (by simp [bytes])

theorem Sat.pool_rd2 {w : World} {F : List HP} {B : List Buf} (H : Sat w (pool B :: F)) {g n c : Nat} {xs : List Int} (hp : Good B (.slice (some ⟨g, 0, none⟩) n c, xs)) : Rd w 1 (some ⟨g, 0, none⟩) 128 (bytes xs) := by
  rcases H.pool_rd hp with ⟨h, _⟩ | ⟨g', c', h, _, h2⟩
  · cases h
  · cases h; exact h2
theorem splice_full (a b : List Value) (h : a.length = b.length) : splice a 0 b = b := by
  simp [splice, ← h]
theorem zero_bytes (w : World) : (zeroValue 30).run Try.prog w = .ok (.slice none 0 0) w := by
  go_simp

set_option maxHeartbeats 1000000 in
set_option maxRecDepth 100000 in
theorem read_no {w : World} {d : Nat} {B : List Buf} {D : Dsk} {F : List HP} (n : Int) (H : Sat w (dk d B D :: F)) (hn : n < 0 ∨ D.safe.length ≤ n) :
    Calls Try.prog 26 #[.pointer (some ⟨d, 0, none⟩), .int .i64 n] w fun e w' => e = .returned (.tuple #[.slice none 0 0, .int .i64 1]) ∧ w = w' := by
  have HH := Lib.hid (has_any n H)
  have hd : decide (0 ≤ n ∧ n < D.safe.length) = false := by simp; omega
  rw [hd] at HH
  go_enter Try.func26, Try.ntmps26
  go_wp2_with (go_at_call 66; refine HH.out.mono ?_; rintro e w' ⟨rfl, rfl⟩)
  go_ret2
  exact ⟨rfl, rfl⟩

set_option maxHeartbeats 1000000 in
set_option maxRecDepth 100000 in
theorem read_any {w : World} {d : Nat} {B : List Buf} {D : Dsk} {F : List HP} (n : Nat) (H : Sat w (dk d B D :: pool B :: F)) (hn : n < D.safe.length) :
    Calls Try.prog 26 #[.pointer (some ⟨d, 0, none⟩), .int .i64 n] w fun e w' => ∃ v, e = .returned (.tuple #[v, .int .i64 0]) ∧ Sat w' (own 5 1 v 128 (bytes (D.rd n)) :: dk d B D :: pool B :: F) ∧ Env w w' := by
  have HH := Lib.hid (has_any n H)
  have hd : decide (0 ≤ (n : Int) ∧ (n : Int) < D.safe.length) = true := by simp; omega
  rw [hd] at HH
  have H0 := Lib.hid H
  obtain ⟨safe, last, pend, stops, after, vS, vP, mb, hok, habs, H⟩ := H.dk_open
  have hns : n < safe.length := by have := habs.out; rw [this] at hn; simpa using hn
  -- the sector's buffer
  obtain ⟨v, xs, hlook, hgood, hrd⟩ : ∃ v xs, (match mget last n with | some u => u = v | none => (safe.map (·.1))[n]? = some v) ∧ Good B (v, xs) ∧ D.rd n = xs := by
    have hl := hok.out.last n
    simp only [show ¬ (n : Int) < 0 by omega, if_false, Int.toNat_natCast] at hl
    cases hp : lastP pend n with
    | some p =>
      rw [hp] at hl
      refine ⟨p.1, p.2, by simp [hl], .inr (hok.out.pgood _ (lastP_mem hp)).2, ?_⟩
      unfold Dsk.rd
      rw [habs.out]
      simp only
      rw [lastP_map (fun p : Buf => p.2), hp]; rfl
    | none =>
      rw [hp] at hl
      refine ⟨safe[n].1, safe[n].2, by simp [hl, hns], hok.out.good _ (List.getElem_mem hns), ?_⟩
      unfold Dsk.rd
      rw [habs.out]
      simp only
      rw [lastP_map (fun p : Buf => p.2), hp]; simp [hns]
  have HG := Lib.hid hgood
  have HRD := Lib.hid hrd
  rw [hrd]
  have hxl := Lib.hid (show xs.length = 128 by
    rcases hgood with h | h
    · cases h; exact noughts_len
    · exact hok.out.full _ h)
  clear hgood hrd
  have hc0 := H.cell 0
  have hc1 := H.cell 1
  have hlk := H.b2.imap_look (P := Try.prog) Try.underlying113 Try.underlying3 (.slice none 0 0) (zero_bytes w) n true
  obtain ⟨gS, cS, rfl, -⟩ := H.b1.own_addr (by omega)
  go_enter Try.func26, Try.ntmps26
  rcases H.b4.pool_rd HG.out with ⟨rfl, hx⟩ | ⟨g, c, rfl, hc, hr⟩
  · all_goals
      rcases hm : mget last n with _ | u
      all_goals
        rw [hm] at hlook hlk
        dsimp only at hlook
        first
          | (have hcS := H.b1.own_cell n _ hlook; clear hlook)
          | subst hlook
        simp only [Option.getD_some, Option.getD_none, Option.isSome_some, Option.isSome_none, if_true] at hlk
        clear hm
        go_wp2_with (first
          | (go_at_call 66; refine HH.out.mono ?_; rintro e w' ⟨rfl, rfl⟩)
          | (at_make; go_must (refine wpList_make_sat rfl _ _ 30 rfl H0.out 5 (.int .u8 0) 1 1 Try.underlying30 Try.info_byte _ _ 128 rfl rfl (by omega) (by simp only [maxLen]; omega) ?_); intro w2 H2 E2)
          | (show wpList _ _ _ ({ dst := _, op := Op.call { callee := Callee.builtin Builtin.copy, args := _, argTypes := _ }, type := _, pos := _, after := _, guard := _ } :: _) _ _; go_must (refine wpList_copy_sat rfl (.tmp 32) (.tmp 33) 30 30 rfl 5 1 Try.underlying30 (by kernel_rfl) H2 _ _ _ _ _ _ rfl rfl 0 0 [] (by simp) (fun _ => rfl) (Rd.nil _ _ _) (by have h2 := size_madeCells (Value.int .u8 0).cells (128 * 1); rw [← Array.length_toList] at h2; simp) (by simp) ?_); intro w3 H3 E3))
        go_ret2
        refine ⟨_, rfl, ?_, E2.trans E3⟩
        rw [made_byte] at H3
        rw [hx]
        exact H3
  · all_goals
      rcases hm : mget last n with _ | u
      all_goals
        rw [hm] at hlook hlk
        dsimp only at hlook
        first
          | (have hcS := H.b1.own_cell n _ hlook; clear hlook)
          | subst hlook
        simp only [Option.getD_some, Option.getD_none, Option.isSome_some, Option.isSome_none, if_true] at hlk
        clear hm
        go_wp2_with (first
          | (go_at_call 66; refine HH.out.mono ?_; rintro e w' ⟨rfl, rfl⟩)
          | (at_make; go_must (refine wpList_make_sat rfl _ _ 30 rfl H0.out 5 (.int .u8 0) 1 1 Try.underlying30 Try.info_byte _ _ 128 rfl rfl (by omega) (by simp only [maxLen]; omega) ?_); intro w2 H2 E2)
          | (show wpList _ _ _ ({ dst := _, op := Op.call { callee := Callee.builtin Builtin.copy, args := _, argTypes := _ }, type := _, pos := _, after := _, guard := _ } :: _) _ _; go_must (refine wpList_copy_sat rfl (.tmp 32) (.tmp 33) 30 30 rfl 5 1 Try.underlying30 (by kernel_rfl) H2 _ _ _ _ _ _ rfl rfl 0 128 (bytes xs) (by simp) (fun _ => rfl) (H2.b2.pool_rd2 HG.out) (by have h2 := size_madeCells (Value.int .u8 0).cells (128 * 1); rw [← Array.length_toList] at h2; have h3 := bytes_len xs; have := hxl.out; omega) (bytes_one xs) ?_); intro w3 H3 E3))
        go_ret2
        refine ⟨_, rfl, ?_, E2.trans E3⟩
        rw [made_byte, splice_full _ _ (by simp [bytes, hxl.out])] at H3
        exact H3
end Go.Proofs.Ythbabdjicplooaa

/- The disk's Write. Conditions: fewer than 2^32 writes pending. -/
namespace Go.Proofs.Ythbabdjicplooaa
open Go.RowKit

set_option maxHeartbeats 400000 in
/-- slices.Clone of what can be read: new memory. -/
theorem clone_byte {w : World} {F : List HP} (A : Option Addr) (n c : Nat) (xs : List Value) (H : Sat w F) (hr : Rd w 1 A n xs) (h1 : ∀ u ∈ xs, u.oneCell' = true) (hsz : n < 4294967296) :
    Calls Try.prog 68 #[.slice A n c] w fun e w' => ∃ v, e = .returned v ∧ Sat w' (own 5 1 v n xs :: F) ∧ Env w w' := by
  have he := fun w => Go.Lib.run_eql_slice_nil (P := Try.prog) w 30 5 A n c 0 0 Try.underlying30
  have HR := Lib.hid hr
  have H1 := Lib.hid h1
  clear hr h1
  cases A with
  | none =>
    have h0 : n = 0 := HR.out.src_none (by omega) rfl
    subst h0
    have hl : xs = [] := List.eq_nil_of_length_eq_zero (by simpa using HR.out.1)
    subst hl
    go_enter Try.func68, Try.ntmps68
    go_wp2
    go_ret
    exact ⟨_, rfl, H.own_nil _ _, Env.refl w⟩
  | some a =>
    go_enter Try.func68, Try.ntmps68
    go_wp2_with (at_builtin; go_must (refine wpList_append_sat rfl (.tmp 5) (.tmp 6) 30 rfl (H.own_lit 5 1 #[] 0 (by simp [maxLen]) rfl) rfl _ 1 Try.underlying30 Try.info_byte rfl (by omega) _ _ _ xs rfl (by simp) HR.out.1 (HR.out.alloc _).src H1.out (by simp only [maxLen]; omega) (by omega) ?_); intro v' w' H' E')
    go_ret
    exact ⟨_, rfl, by simpa using H', ((Env.refl w).alloc _).trans E'⟩

theorem Try.info_write : (Try.prog.info? 117).map (fun i => (i.zero, i.size, i.bytes)) = some (some (.agg #[.int .i64 0, .slice none 0 0]), 2, 32) := by kernel_rfl
def Dsk.write (D : Dsk) (n : Nat) (xs : List Int) : Dsk := ⟨D.safe, D.pend ++ [(n, xs)], D.left.map (· - 1)⟩

set_option maxHeartbeats 1000000 in
set_option maxRecDepth 100000 in
theorem write_arg {w : World} {d : Nat} {B : List Buf} {D : Dsk} {F : List HP} (n : Int) (A : Option Addr) (m c : Nat) (H : Sat w (dk d B D :: F)) (hn : n < 0 ∨ D.safe.length ≤ n ∨ m ≠ 128) (_ : m < 4294967296) :
    Calls Try.prog 22 #[.pointer (some ⟨d, 0, none⟩), .int .i64 n, .slice A m c] w fun e w' => e = .returned (.int .i64 1) ∧ w = w' := by
  have HH := Lib.hid (has_any n H)
  by_cases hd : 0 ≤ n ∧ n < D.safe.length
  · have hm2 : ((m : Int) == 128) = false := by simp; omega
    have hd2 : decide (0 ≤ n ∧ n < D.safe.length) = true := by simpa using hd
    rw [hd2] at HH
    clear hd hd2 hn
    go_enter Try.func22, Try.ntmps22
    go_wp2_with (go_at_call 66; refine HH.out.mono ?_; rintro e w' ⟨rfl, rfl⟩)
    go_ret
    exact ⟨rfl, rfl⟩
  · have hd2 : decide (0 ≤ n ∧ n < D.safe.length) = false := by simpa using hd
    rw [hd2] at HH
    clear hd hd2 hn
    go_enter Try.func22, Try.ntmps22
    go_wp2_with (go_at_call 66; refine HH.out.mono ?_; rintro e w' ⟨rfl, rfl⟩)
    go_ret
    exact ⟨rfl, rfl⟩

set_option maxHeartbeats 1000000 in
set_option maxRecDepth 100000 in
theorem write_stop {w : World} {d : Nat} {B : List Buf} {D : Dsk} {F : List HP} (n : Nat) (A : Option Addr) (c : Nat) (H : Sat w (dk d B D :: F)) (hn : n < D.safe.length) (hl : D.left = some 0) :
    Calls Try.prog 22 #[.pointer (some ⟨d, 0, none⟩), .int .i64 n, .slice A 128 c] w fun e w' => e = .returned (.int .i64 13) ∧ w = w' := by
  have HH := Lib.hid (has_any n H)
  have HG := Lib.hid (goes_no H hl)
  have hd2 : decide (0 ≤ (n : Int) ∧ (n : Int) < D.safe.length) = true := by simp; omega
  rw [hd2] at HH
  clear hd2 hn
  go_enter Try.func22, Try.ntmps22
  go_wp2_with (first
    | (go_at_call 66; refine HH.out.mono ?_; rintro e w' ⟨rfl, rfl⟩)
    | (go_at_call 67; refine HG.out.mono ?_; rintro e w' ⟨rfl, rfl⟩))
  go_ret
  exact ⟨rfl, rfl⟩

set_option maxHeartbeats 2000000 in
set_option maxRecDepth 100000 in
theorem write_ok {w : World} {d : Nat} {B : List Buf} {D : Dsk} {F : List HP} (n : Nat) (A : Option Addr) (c : Nat) (xs : List Int) (H : Sat w (dk d B D :: pool B :: F)) (hr : Reads F 1 A 128 (bytes xs)) (hn : n < D.safe.length) (hl : D.left ≠ some 0) (hp : D.pend.length < 4294967296) :
    Calls Try.prog 22 #[.pointer (some ⟨d, 0, none⟩), .int .i64 n, .slice A 128 c] w fun e w' => e = .returned (.int .i64 0) ∧ ∃ B', (∀ p ∈ B, p ∈ B') ∧ Sat w' (dk d B' (D.write n xs) :: pool B' :: F) ∧ Env w w' := by
  have HR := Lib.hid hr
  clear hr
  have HH := Lib.hid (has_any n H)
  have HG := Lib.hid (goes_yes H hl)
  have hd2 : decide (0 ≤ (n : Int) ∧ (n : Int) < D.safe.length) = true := by simp; omega
  rw [hd2] at HH
  clear hd2
  go_enter Try.func22, Try.ntmps22
  go_upto_region 6 with (first
    | (go_at_call 66; refine HH.out.mono ?_; rintro e w' ⟨rfl, rfl⟩)
    | (go_at_call 67; refine HG.out.mono ?_; rintro e w2 ⟨rfl, H2, E2⟩)
    | (go_at_call 68; refine (clone_byte A 128 c (bytes xs) H2 (HR.out w2 H2.tail.tail) (bytes_one xs) (by omega)).mono ?_; rintro e w3 ⟨v3, rfl, H3, E3⟩))
  obtain ⟨g3, c3, rfl, -⟩ := H3.own_addr (by omega)
  have hxl := (HR.out w3 H3.tail.tail.tail).1
  simp only [bytes_len, Nat.mul_one] at hxl
  have HXL := Lib.hid hxl
  clear hxl
  obtain ⟨safe, last, pend, stops, after, vS, vP, mb, hok, habs, H4⟩ := H3.b2.b1.pool_add.b1.dk_open
  obtain ⟨AP, cP, rfl, -, -, -⟩ := H4.b3.own_form
  have hpl : pend.length < 4294967296 := by
    have h1 : D.pend.length = pend.length := by have := congrArg (fun D => D.pend.length) habs.out; simpa using this
    omega
  clear hp
  have hc2 := H4.cell 2
  have E3' := E2.trans E3
  clear H H2 H3 HH HG E2 E3
  go_upto_region 7 with (at_builtin; go_must (refine wpList_append_sat rfl (.tmp 26) (.tmp 30) 112 rfl (H4.b3.alloc' _) rfl _ 32 Try.underlying112 Try.info_write rfl (by omega) _ _ _ [.int .i64 n, .slice (some ⟨g3, 0, none⟩) 128 c3] rfl (fun h => by cases h) rfl (lit_src _ _ _ _ rfl) (by simp [Value.oneCell']) (by simp only [maxLen]; omega) (by omega) ?_); intro v5 w5 H5 E5; obtain ⟨A5, c5, rfl, -, -, -⟩ := H5.own_form; have hq1 := H5.b1.cell 2; have hq2 := H5.b1.free 2)
  have H6 := H5.b1.set (i := 2) (.slice A5 (pend.length + 1) c5)
  have E6 := ((E3'.alloc (.cells #[.int .i64 n, .slice (some ⟨g3, 0, none⟩) 128 c3] 117)).trans E5).set ⟨d, 2, none⟩ (.slice A5 (pend.length + 1) c5)
  generalize w5.setCell ⟨d, 2, none⟩ (.slice A5 (pend.length + 1) c5) = w6 at *
  clear hq1 hq2 hc2 H4 H5 E3' E5
  have hc1 := H6.cell 1
  go_wp2_with (show wpList _ _ _ ({ dst := _, op := Op.mapUpdate _ _ _ _, type := _, pos := _, after := _, guard := _ } :: _) _ _; go_must (refine wpList_put_sat rfl (.tmp 37) (.tmp 38) (.tmp 39) 113 rfl Try.underlying113 Try.underlying3 H6.b3 rfl n (.slice (some ⟨g3, 0, none⟩) 128 c3) rfl rfl ?_); intro w7 H7 E7)
  go_ret
  refine ⟨rfl, (.slice (some ⟨g3, 0, none⟩) 128 c3, xs) :: B, fun p hp => List.mem_cons_of_mem _ hp, ?_, E6.trans E7⟩
  have hD := habs.out
  have hD1 : D.safe = safe.map (·.2) := congrArg Dsk.safe hD
  have hD2 : D.pend = pend.map (fun p => (p.1, p.2.2)) := congrArg Dsk.pend hD
  have hD3 : D.left.map (· - 1) = (if stops then some after else none) := congrArg Dsk.left hD
  refine Sat.dk_shut ⟨safe, mput last n (.slice (some ⟨g3, 0, none⟩) 128 c3), pend ++ [(n, (.slice (some ⟨g3, 0, none⟩) 128 c3, xs))], stops, after, vS, .slice A5 (pend.length + 1) c5, mb⟩ ?_ (by simp only [Raw.abs, Dsk.write, hD1, hD2, hD3, List.map_append]; rfl) ?_
  · have hok := hok.out
    refine ⟨fun p hp => (hok.good p hp).imp id (List.mem_cons_of_mem _), ?_, ?_, hok.after, ?_, hok.some_⟩
    · intro p hp
      rcases List.mem_append.1 hp with hp | hp
      · exact ⟨(hok.pgood p hp).1, List.mem_cons_of_mem _ (hok.pgood p hp).2⟩
      · rw [List.mem_singleton.1 hp]
        exact ⟨by rw [hD1] at hn; simpa using hn, List.mem_cons_self⟩
    · intro k
      rw [mget_mput]
      have hk := hok.last k
      dsimp only at hk ⊢
      rw [hk, lastP_snoc]
      by_cases h0 : k < 0
      · have : ¬ (n : Int) = k := by omega
        simp [h0, this]
      · by_cases h1 : (n : Int) = k
        · subst h1; simp
        · have : ¬ n = k.toNat := by omega
          simp [h0, h1, this]
    · intro p hp
      rcases List.mem_cons.1 hp with rfl | hp
      · exact HXL.out
      · exact hok.full p hp
  · have e : flatP (pend ++ [(n, (.slice (some ⟨g3, 0, none⟩) 128 c3, xs))]) = flatP pend ++ [.int .i64 n, .slice (some ⟨g3, 0, none⟩) 128 c3] := by simp [flatP]
    rw [e]
    simpa using H7.b3.b2
end Go.Proofs.Ythbabdjicplooaa
