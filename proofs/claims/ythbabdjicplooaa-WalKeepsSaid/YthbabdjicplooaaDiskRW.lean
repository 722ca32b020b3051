/- The disk's Read and Write. Conditions: fewer than 2^32 writes pending. -/
import Derived.Test.YthbabdjicplooaaDisk
namespace Go.Proofs.Ythbabdjicplooaa
open Go.RowKit

/-- What a sector reads as. -/
def Dsk.rd (D : Dsk) (n : Nat) : List Int := (lastP D.pend n).getD (D.safe.getD n noughts)

theorem made_byte (n : Nat) : (madeCells (Value.int .u8 0).cells (n * 1)).toList = bytes (List.replicate n 0) := by
  rw [Nat.mul_one]; exact (toList_madeCells_one _ _).trans (by simp [bytes])

theorem Sat.pool_rd2 {w : World} {F : List HP} {B : List Buf} (H : Sat w (pool B :: F)) {g n c : Nat} {xs : List Int} (hp : Good B (.slice (some ⟨g, 0, none⟩) n c, xs)) : Rd w 1 (some ⟨g, 0, none⟩) 128 (bytes xs) := by
  rcases H.pool_rd hp with ⟨h, _⟩ | ⟨g', c', h, _, h2⟩
  · cases h
  · cases h; exact h2
theorem splice_full (a b : List Value) (h : a.length = b.length) : splice a 0 b = b := by
  simp [splice, ← h]
theorem zero_bytes (w : World) : (zeroValue 30).run Try.prog w = .ok (.slice none 0 0) w := by
  go_simp

set_option maxHeartbeats 1000000 in
set_option maxRecDepth 100000 in
theorem read_no {w : World} {d : Nat} {B : List Buf} {D : Dsk} {F : List HP} (n : Int) (H : Sat w (dk d B D :: F)) (hn : n < 0 ∨ D.safe.length ≤ n) :
    Calls Try.prog 26 #[.pointer (some ⟨d, 0, none⟩), .int .i64 n] w fun e w' => e = .returned (.tuple #[.slice none 0 0, .int .i64 1]) ∧ w = w' := by
  have HH := Lib.hid (has_any n H)
  have hd : decide (0 ≤ n ∧ n < D.safe.length) = false := by simp; omega
  rw [hd] at HH
  go_enter Try.func26, Try.ntmps26
  go_wp2_with (go_at_call 66; refine HH.out.mono ?_; rintro e w' ⟨rfl, rfl⟩)
  go_ret2
  exact ⟨rfl, rfl⟩

set_option maxHeartbeats 1000000 in
set_option maxRecDepth 100000 in
theorem read_any {w : World} {d : Nat} {B : List Buf} {D : Dsk} {F : List HP} (n : Nat) (H : Sat w (dk d B D :: pool B :: F)) (hn : n < D.safe.length) :
    Calls Try.prog 26 #[.pointer (some ⟨d, 0, none⟩), .int .i64 n] w fun e w' => ∃ v, e = .returned (.tuple #[v, .int .i64 0]) ∧ Sat w' (own 5 1 v 128 (bytes (D.rd n)) :: dk d B D :: pool B :: F) ∧ Env w w' := by
  have HH := Lib.hid (has_any n H)
  have hd : decide (0 ≤ (n : Int) ∧ (n : Int) < D.safe.length) = true := by simp; omega
  rw [hd] at HH
  have H0 := Lib.hid H
  obtain ⟨safe, last, pend, stops, after, vS, vP, mb, hok, habs, H⟩ := H.dk_open
  have hns : n < safe.length := by have := habs.out; rw [this] at hn; simpa using hn
  -- the sector's buffer
  obtain ⟨v, xs, hlook, hgood, hrd⟩ : ∃ v xs, (match mget last n with | some u => u = v | none => (safe.map (·.1))[n]? = some v) ∧ Good B (v, xs) ∧ D.rd n = xs := by
    have hl := hok.out.last n
    simp only [show ¬ (n : Int) < 0 by omega, if_false, Int.toNat_natCast] at hl
    cases hp : lastP pend n with
    | some p =>
      rw [hp] at hl
      refine ⟨p.1, p.2, by simp [hl], .inr (hok.out.pgood _ (lastP_mem hp)).2, ?_⟩
      unfold Dsk.rd
      rw [habs.out]
      simp only
      rw [lastP_map (fun p : Buf => p.2), hp]; rfl
    | none =>
      rw [hp] at hl
      refine ⟨safe[n].1, safe[n].2, by simp [hl, hns], hok.out.good _ (List.getElem_mem hns), ?_⟩
      unfold Dsk.rd
      rw [habs.out]
      simp only
      rw [lastP_map (fun p : Buf => p.2), hp]; simp [hns]
  have HG := Lib.hid hgood
  have HRD := Lib.hid hrd
  rw [hrd]
  have hxl := Lib.hid (show xs.length = 128 by
    rcases hgood with h | h
    · cases h; exact noughts_len
    · exact hok.out.full _ h)
  clear hgood hrd
  have hc0 := H.cell 0
  have hc1 := H.cell 1
  have hlk := H.b2.imap_look (P := Try.prog) Try.underlying113 Try.underlying3 (.slice none 0 0) (zero_bytes w) n true
  obtain ⟨gS, cS, rfl, -⟩ := H.b1.own_addr (by omega)
  go_enter Try.func26, Try.ntmps26
  rcases H.b4.pool_rd HG.out with ⟨rfl, hx⟩ | ⟨g, c, rfl, hc, hr⟩
  · all_goals
      rcases hm : mget last n with _ | u
      all_goals
        rw [hm] at hlook hlk
        dsimp only at hlook
        first
          | (have hcS := H.b1.own_cell n _ hlook; clear hlook)
          | subst hlook
        simp only [Option.getD_some, Option.getD_none, Option.isSome_some, Option.isSome_none, if_true] at hlk
        clear hm
        go_wp2_with (first
          | (go_at_call 66; refine HH.out.mono ?_; rintro e w' ⟨rfl, rfl⟩)
          | (at_make; go_must (refine wpList_make_sat rfl _ _ 30 rfl H0.out 5 (.int .u8 0) 1 1 Try.underlying30 Try.info_byte _ _ 128 rfl rfl (by omega) (by simp only [maxLen]; omega) ?_); intro w2 H2 E2)
          | (show wpList _ _ _ ({ dst := _, op := Op.call { callee := Callee.builtin Builtin.copy, args := _, argTypes := _ }, type := _, pos := _, after := _, guard := _ } :: _) _ _; go_must (refine wpList_copy_sat rfl (.tmp 32) (.tmp 33) 30 30 rfl 5 1 Try.underlying30 (by kernel_rfl) H2 _ _ _ _ _ _ rfl rfl 0 0 [] (by simp) (fun _ => rfl) (Rd.nil _ _ _) (by have h2 := size_madeCells (Value.int .u8 0).cells (128 * 1); rw [← Array.length_toList] at h2; simp) (by simp) ?_); intro w3 H3 E3))
        go_ret2
        refine ⟨_, rfl, ?_, E2.trans E3⟩
        rw [made_byte] at H3
        rw [hx]
        exact H3
  · all_goals
      rcases hm : mget last n with _ | u
      all_goals
        rw [hm] at hlook hlk
        dsimp only at hlook
        first
          | (have hcS := H.b1.own_cell n _ hlook; clear hlook)
          | subst hlook
        simp only [Option.getD_some, Option.getD_none, Option.isSome_some, Option.isSome_none, if_true] at hlk
        clear hm
        go_wp2_with (first
          | (go_at_call 66; refine HH.out.mono ?_; rintro e w' ⟨rfl, rfl⟩)
          | (at_make; go_must (refine wpList_make_sat rfl _ _ 30 rfl H0.out 5 (.int .u8 0) 1 1 Try.underlying30 Try.info_byte _ _ 128 rfl rfl (by omega) (by simp only [maxLen]; omega) ?_); intro w2 H2 E2)
          | (show wpList _ _ _ ({ dst := _, op := Op.call { callee := Callee.builtin Builtin.copy, args := _, argTypes := _ }, type := _, pos := _, after := _, guard := _ } :: _) _ _; go_must (refine wpList_copy_sat rfl (.tmp 32) (.tmp 33) 30 30 rfl 5 1 Try.underlying30 (by kernel_rfl) H2 _ _ _ _ _ _ rfl rfl 0 128 (bytes xs) (by simp) (fun _ => rfl) (H2.b2.pool_rd2 HG.out) (by have h2 := size_madeCells (Value.int .u8 0).cells (128 * 1); rw [← Array.length_toList] at h2; have h3 := bytes_len xs; have := hxl.out; omega) (bytes_one xs) ?_); intro w3 H3 E3))
        go_ret2
        refine ⟨_, rfl, ?_, E2.trans E3⟩
        rw [made_byte, splice_full _ _ (by simp [bytes, hxl.out])] at H3
        exact H3
end Go.Proofs.Ythbabdjicplooaa
