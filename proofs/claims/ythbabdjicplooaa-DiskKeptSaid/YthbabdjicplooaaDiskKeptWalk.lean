/- The disk's Read once more: what is read has no spare room. DiskKept's walk: what is read is new memory each time. Conditions: none. -/
import Derived.Test.YthbabdjicplooaaDiskKnown
import Derived.Test.YthbabdjicplooaaBookApart
namespace Go.Proofs.Ythbabdjicplooaa
open Go.RowKit Go.WideShapes

set_option maxHeartbeats 1000000 in
set_option maxRecDepth 100000 in
theorem read_cap {w : World} {d : Nat} {B : List Buf} {D : Dsk} {F : List HP} (n : Nat) (H : Sat w (dk d B D :: pool B :: F)) (hn : n < D.safe.length) :
    Calls Try.prog 26 #[.pointer (some ⟨d, 0, none⟩), .int .i64 n] w fun e w' => ∃ g, e = .returned (.tuple #[.slice (some ⟨g, 0, none⟩) 128 128, .int .i64 0]) ∧ Sat w' (own 5 1 (.slice (some ⟨g, 0, none⟩) 128 128) 128 (bytes (D.rd n)) :: dk d B D :: pool B :: F) ∧ Env w w' := by
  have HH := Lib.hid (has_any n H)
  have hd : decide (0 ≤ (n : Int) ∧ (n : Int) < D.safe.length) = true := by simp; omega
  rw [hd] at HH
  have H0 := Lib.hid H
  obtain ⟨safe, last, pend, stops, after, vS, vP, mb, hok, habs, H⟩ := H.dk_open
  have hns : n < safe.length := by have := habs.out; rw [this] at hn; simpa using hn
  -- the sector's buffer
  obtain ⟨v, xs, hlook, hgood, hrd⟩ : ∃ v xs, (match mget last n with | some u => u = v | none => (safe.map (·.1))[n]? = some v) ∧ Good B (v, xs) ∧ D.rd n = xs := by
    have hl := hok.out.last n
    simp only [show ¬ (n : Int) < 0 by omega, if_false, Int.toNat_natCast] at hl
    cases hp : lastP pend n with
    | some p =>
      rw [hp] at hl
      refine ⟨p.1, p.2, by simp [hl], .inr (hok.out.pgood _ (lastP_mem hp)).2, ?_⟩
      unfold Dsk.rd
      rw [habs.out]
      simp only
      rw [lastP_map (fun p : Buf => p.2), hp]; rfl
    | none =>
      rw [hp] at hl
      refine ⟨safe[n].1, safe[n].2, by simp [hl, hns], hok.out.good _ (List.getElem_mem hns), ?_⟩
      unfold Dsk.rd
      rw [habs.out]
      simp only
      rw [lastP_map (fun p : Buf => p.2), hp]; simp [hns]
  have HG := Lib.hid hgood
  have HRD := Lib.hid hrd
  rw [hrd]
  have hxl := Lib.hid (show xs.length = 128 by
    rcases hgood with h | h
    · cases h; exact noughts_len
    · exact hok.out.full _ h)
  clear hgood hrd
  have hc0 := H.cell 0
  have hc1 := H.cell 1
  have hlk := H.b2.imap_look (P := Try.prog) Try.underlying113 Try.underlying3 (.slice none 0 0) (zero_bytes w) n true
  obtain ⟨gS, cS, rfl, -⟩ := H.b1.own_addr (by omega)
  go_enter Try.func26, Try.ntmps26
  rcases H.b4.pool_rd HG.out with ⟨rfl, hx⟩ | ⟨g, c, rfl, hc, hr⟩
  · all_goals
      rcases hm : mget last n with _ | u
      all_goals
        rw [hm] at hlook hlk
        dsimp only at hlook
        first
          | (have hcS := H.b1.own_cell n _ hlook; clear hlook)
          | subst hlook
        simp only [Option.getD_some, Option.getD_none, Option.isSome_some, Option.isSome_none, if_true] at hlk
        clear hm
        go_wp2_with (first
          | (go_at_call 66; refine HH.out.mono ?_; rintro e w' ⟨rfl, rfl⟩)
          | (at_make; go_must (refine wpList_make_sat rfl _ _ 30 rfl H0.out 5 (.int .u8 0) 1 1 Try.underlying30 Try.info_byte _ _ 128 rfl rfl (by omega) (by simp only [maxLen]; omega) ?_); intro w2 H2 E2)
          | (show wpList _ _ _ ({ dst := _, op := Op.call { callee := Callee.builtin Builtin.copy, args := _, argTypes := _ }, type := _, pos := _, after := _, guard := _ } :: _) _ _; go_must (refine wpList_copy_sat rfl (.tmp 32) (.tmp 33) 30 30 rfl 5 1 Try.underlying30 (by kernel_rfl) H2 _ _ _ _ _ _ rfl rfl 0 0 [] (by simp) (fun _ => rfl) (Rd.nil _ _ _) (by have h2 := size_madeCells (Value.int .u8 0).cells (128 * 1); rw [← Array.length_toList] at h2; simp) (by simp) ?_); intro w3 H3 E3))
        go_ret2
        refine ⟨_, rfl, ?_, E2.trans E3⟩
        rw [made_byte] at H3
        rw [hx]
        exact H3
  · all_goals
      rcases hm : mget last n with _ | u
      all_goals
        rw [hm] at hlook hlk
        dsimp only at hlook
        first
          | (have hcS := H.b1.own_cell n _ hlook; clear hlook)
          | subst hlook
        simp only [Option.getD_some, Option.getD_none, Option.isSome_some, Option.isSome_none, if_true] at hlk
        clear hm
        go_wp2_with (first
          | (go_at_call 66; refine HH.out.mono ?_; rintro e w' ⟨rfl, rfl⟩)
          | (at_make; go_must (refine wpList_make_sat rfl _ _ 30 rfl H0.out 5 (.int .u8 0) 1 1 Try.underlying30 Try.info_byte _ _ 128 rfl rfl (by omega) (by simp only [maxLen]; omega) ?_); intro w2 H2 E2)
          | (show wpList _ _ _ ({ dst := _, op := Op.call { callee := Callee.builtin Builtin.copy, args := _, argTypes := _ }, type := _, pos := _, after := _, guard := _ } :: _) _ _; go_must (refine wpList_copy_sat rfl (.tmp 32) (.tmp 33) 30 30 rfl 5 1 Try.underlying30 (by kernel_rfl) H2 _ _ _ _ _ _ rfl rfl 0 128 (bytes xs) (by simp) (fun _ => rfl) (H2.b2.pool_rd2 HG.out) (by have h2 := size_madeCells (Value.int .u8 0).cells (128 * 1); rw [← Array.length_toList] at h2; have h3 := bytes_len xs; have := hxl.out; omega) (bytes_one xs) ?_); intro w3 H3 E3))
        go_ret2
        refine ⟨_, rfl, ?_, E2.trans E3⟩
        rw [made_byte, splice_full _ _ (by simp [bytes, hxl.out])] at H3
        exact H3

theorem dread_cap {w : World} {d : Nat} {D : Dsk} {F : List HP} (n : Nat) (H : Sat w (disk d D :: F)) (hn : n < D.safe.length) :
    Calls Try.prog 26 #[.pointer (some ⟨d, 0, none⟩), .int .i64 n] w fun e w' => ∃ g, e = .returned (.tuple #[.slice (some ⟨g, 0, none⟩) 128 128, .int .i64 0]) ∧ Sat w' (own 5 1 (.slice (some ⟨g, 0, none⟩) 128 128) 128 (bytes (D.rd n)) :: disk d D :: F) ∧ Env w w' := by
  obtain ⟨B, H⟩ := H.disk_open
  exact (read_cap n H hn).mono fun _ _ ⟨g, he, h, hE⟩ => ⟨g, he, h.p2.disk_shut.b1, hE⟩

/-- The state on the way. -/
def KeptAt (k : Nat) (D : Dsk) (R : Bk) : Prop := D.safe.length = 1 ∧ D.left = none ∧ D.pend.length ≤ 1 ∧ R.items.length = k ∧ 0 ≤ R.held ∧ R.held ≤ 129 * k ∧ ∀ p ∈ R.items, p.n < 4294967296 ∧ ∃ l : List Int, p.xs = l.map (Value.int .u8)
theorem KeptAt.step {k : Nat} {D : Dsk} {R : Bk} (h : KeptAt k D R) (vL vW v u : Value) (xs : List Int) : KeptAt (k + 1) D ⟨vL, vW, R.items ++ [⟨v, 128, u, bytes xs⟩], R.held + 128 + 1⟩ := by
  obtain ⟨h1, h2, h3, h4, h5, h6, h7⟩ := h
  refine ⟨h1, h2, h3, by simp [h4], by simp only; omega, by simp only; omega, ?_⟩
  intro p hp
  rcases List.mem_append.1 hp with hp | hp
  · exact h7 p hp
  · rw [List.mem_singleton.1 hp]
    exact ⟨by show 128 < 4294967296; omega, xs, rfl⟩

set_option maxHeartbeats 4000000 in
set_option maxRecDepth 100000 in
theorem diskKept_any {w : World} {F : List HP} (a : Int) (H : Sat w F) (ha : 0 ≤ a ∧ a ≤ 255) :
    Calls Try.prog 4 #[.int .u8 a] w fun e w' => e = .returned (.bool true) ∧ Sat w' F ∧ Env w w' := by
  go_enter Try.func4, Try.ntmps4
  go_wp2_with fail
  refine (begun_any 1 H (by omega) (by omega)).mono ?_
  rintro e w1 ⟨d, rfl, H1, E1⟩
  go_wp2_with fail
  refine (sector_any a 128 H1 ha (by omega)).mono ?_
  rintro e w2 ⟨v2, rfl, H2, E2⟩
  obtain ⟨A2, c2, rfl, -, -, -⟩ := H2.own_form
  go_wp2_with fail
  refine (dwrite 0 A2 c2 (sectorL a 128) H2.b1 (fun w H => H.own_at.1) (by decide) (by decide) (by decide)).mono ?_
  rintro e w3 ⟨rfl, H3, E3⟩
  replace E3 := (E1.trans E2).trans E3
  replace H3 := H3.b1.tail
  clear H H1 H2 E1 E2
  go_upto_region 6 with fail
  have H4 := (H3.alloc (.cells #[.slice none 0 0, .slice none 0 0, .int .i64 0, .bool false] 41)).bk_new
  have E4 := E3.alloc (.cells #[.slice none 0 0, .slice none 0 0, .int .i64 0, .bool false] 41)
  generalize w3.alloc (.cells #[.slice none 0 0, .slice none 0 0, .int .i64 0, .bool false] 41) = w4 at *
  generalize w3.heap.size = b at *
  have HK0 := Lib.hid (show KeptAt 0 ((newD 1).write 0 (sectorL a 128)) ⟨.slice none 0 0, .slice none 0 0, [], 0⟩ from ⟨rfl, rfl, by simp [Dsk.write, newD], rfl, by simp, by simp, by simp⟩)
  generalize (newD 1).write 0 (sectorL a 128) = D0 at *
  generalize (⟨.slice none 0 0, .slice none 0 0, [], 0⟩ : Bk) = R0 at *
  clear H3 E3
  go_wp2_with fail
  go_loopw [6] (fun i wr => ∃ (k : Nat) (D : Dsk) (R : Bk), k ≤ 3 ∧ i = .int .i64 k ∧ Hid (KeptAt k D R) ∧ Sat wr (bk b R :: disk d D :: F) ∧ Env w wr) (fun i _ => 3 - (intOf i).toNat)
  case atStart => exact ⟨0, D0, R0, by omega, rfl, HK0.out, H4, E4⟩
  case round =>
    clear HK0 H4 E4
    obtain ⟨k, D, R, hk, rfl, HK, H5, E5⟩ := hrel
    by_cases hlt : k < 3
    · go_wp2_with fail
      refine (dread_cap 0 H5.b1 (by rw [HK.out.1]; omega)).mono ?_
      rintro e w6 ⟨g, rfl, H6, E6⟩
      go_wp2_with fail
      refine (keep_any b R (some ⟨g, 0, none⟩) 128 128 (bytes (D.rd 0)) H6.b2 (bytes_one _) (by omega) ⟨HK.out.2.2.2.2.1, by have := HK.out.2.2.2.2.2.1; omega⟩ (by rw [HK.out.2.2.2.1]; omega)).mono ?_
      rintro e w7 ⟨rfl, vL, vW, u, H7, E7⟩
      have HK7 := Lib.hid (HK.out.step vL vW (.slice (some ⟨g, 0, none⟩) 128 128) u (D.rd 0))
      replace E7 := (E5.trans E6).trans E7
      generalize (⟨vL, vW, R.items ++ [⟨.slice (some ⟨g, 0, none⟩) 128 128, 128, u, bytes (D.rd 0)⟩], R.held + 128 + 1⟩ : Bk) = R7 at *
      clear H5 E5 H6 E6 HK
      by_cases hk1 : k = 1
      · subst hk1
        go_wp2_with fail
        refine (dflush H7.b1 (by rw [HK7.out.2.1]; simp) (by have := HK7.out.2.2.1; omega)).mono ?_
        rintro e w8 ⟨rfl, H8, E8⟩
        have HK8 := Lib.hid (show KeptAt 2 D.flush R7 from ⟨by simp [Dsk.flush, sets_len, HK7.out.1], by simp [Dsk.flush, HK7.out.2.1], by simp [Dsk.flush], HK7.out.2.2.2⟩)
        have H9 := H8.b1
        have E9 := E7.trans E8
        go_wp2_with fail
        go_roundw
        case rel => exact ⟨2, D.flush, R7, by omega, by go_num, HK8.out, H9, E9⟩
        case measure => simp [intOf]
      · have hk2 : ((k : Int) == 1) = false := by simp; omega
        go_wp2_with fail
        go_roundw
        case rel => exact ⟨k + 1, D, R7, by omega, by go_num, HK7.out, H7, E7⟩
        case measure => simp [intOf]; omega
    · obtain rfl : k = 3 := by omega
      go_wp2_with fail
      refine (apart_any b R H5 (by rw [HK.out.2.2.2.1]; omega) HK.out.2.2.2.2.2.2).mono ?_
      rintro e w6 ⟨rfl, H6, E6⟩
      go_wp2_with fail
      refine (known3 H6.tail).mono ?_
      rintro e w7 ⟨rfl, H7, E7⟩
      go_wp2_with fail
      go_ret
      exact ⟨rfl, H7, (E5.trans E6).trans E7⟩
end Go.Proofs.Ythbabdjicplooaa
