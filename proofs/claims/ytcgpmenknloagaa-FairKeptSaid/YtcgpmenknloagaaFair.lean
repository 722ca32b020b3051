/- fair.Serve: what it answers and leaves. Conditions: small numbers, fewer than 2^32 lanes. -/
import Derived.Test.YtcgpmenknloagaaFairPlain
import Derived.Test.YtcgpmenknloagaaProg
import Derived.WalkMore
import Derived.Deep.QuietTactic
import Derived.BigQuiet
namespace Go.Proofs.Ytcgpmenknloagaa
open Go.RowKit Go.WideShapes

theorem Try.info_lane : (Try.prog.info? 63).map (fun i => (i.zero, i.size, i.bytes)) = some (some (.agg #[.int .i64 0, .int .i64 0, .int .i64 0]), 3, 24) := by kernel_rfl
set_option maxHeartbeats 400000 in
/-- slices.Clone of what can be read: new memory. -/
theorem clone_lane {w : World} {F : List HP} (A : Option Addr) (n c : Nat) (xs : List Value) (H : Sat w F) (hr : Rd w 3 A n xs) (h1 : ∀ u ∈ xs, u.oneCell' = true) (hsz : n < 4294967296) :
    Calls Try.prog 53 #[.slice A n c] w fun e w' => ∃ v, e = .returned v ∧ Sat w' (own 63 3 v n xs :: F) ∧ Env w w' := by
  have he := fun w => Go.Lib.run_eql_slice_nil (P := Try.prog) w 59 63 A n c 0 0 Try.underlying59
  have HR := Lib.hid hr
  have H1 := Lib.hid h1
  clear hr h1
  cases A with
  | none =>
    have h0 : n = 0 := HR.out.src_none (by omega) rfl
    subst h0
    have hl : xs = [] := List.eq_nil_of_length_eq_zero (by simpa using HR.out.1)
    subst hl
    go_enter Try.func53, Try.ntmps53
    go_wp2
    go_ret
    exact ⟨_, rfl, H.own_nil _ _, Env.refl w⟩
  | some a =>
    go_enter Try.func53, Try.ntmps53
    go_wp2_with (at_builtin; go_must (refine wpList_append_sat rfl (.tmp 5) (.tmp 6) 59 rfl (H.own_lit 63 3 #[] 0 (by simp [maxLen]) rfl) rfl _ 24 Try.underlying59 Try.info_lane rfl (by omega) _ _ _ xs rfl (by simp) HR.out.1 (HR.out.alloc _).src H1.out (by simp only [maxLen]; omega) (by omega) ?_); intro v' w' H' E')
    go_ret
    exact ⟨_, rfl, by simpa using H', ((Env.refl w).alloc _).trans E'⟩

/-- Chunks by which a slice can be read. -/
def Reads (F : List HP) (k : Nat) (A : Option Addr) (n : Nat) (xs : List Value) : Prop := ∀ w, Sat w F → Rd w k A n xs


theorem ret_turn {w : World} {F : List HP} {T : Nat} {a b c : Value} (H : Sat w (row T 58 #[a, b, c] :: F)) (tmps : Array Value) (h6 : tmps.getD 6 undef = .pointer (some ⟨T, 0, none⟩)) :
    (results Try.f32 tmps).run Try.prog w = .ok (.tuple #[.agg #[a, b, c], tmps.getD 7 undef]) w := by
  rw [results_cell_tmp (p := 6) (u := 7) (ty := 58) (by rfl) tmps Try.prog w]
  rw [h6]
  have hl := run_loadVar_row (P := Try.prog) w T 58 58 #[a, b, c] (0, 0) _ H.get Try.underlying58 rfl (by kernel_rfl)
  simp only [asAddr, Sem.run_pure, Result.andThen_ok, hl]

set_option maxHeartbeats 2000000 in
set_option maxRecDepth 100000 in
theorem serve_none {w : World} {F : List HP} (A : Option Addr) (n c : Nat) (l : List Lane) (at_ q : Int) (H : Sat w F) (hr : Reads F 3 A n (flatL l)) (hsz : n < 4294967296)
    (hat : -9223372036854775808 ≤ at_ ∧ at_ ≤ 9223372036854775807) (hno : ∀ x ∈ l, x.1 < 1) :
    Calls Try.prog 32 #[.slice A n c, .int .i64 at_, .int .i64 q] w fun e w' => ∃ v, e = .returned (.tuple #[.agg #[.int .i64 (-1), .int .i64 0, .int .i64 (begins n at_)], v]) ∧
      Sat w' (own 63 3 v n (flatL l) :: F) ∧ Env w w' := by
  have HN := Lib.hid (show n = l.length by have := (hr w H).1; rw [flatL_len] at this; omega)
  have HR := Lib.hid hr
  have HX := Lib.hid hno
  clear hr hno
  obtain ⟨s, hs⟩ : ∃ s, s = begins n at_ := ⟨_, rfl⟩
  have hcase : (at_ < 0 ∧ s = 0) ∨ (0 ≤ at_ ∧ (n : Int) ≤ at_ ∧ s = 0) ∨ ((s : Int) = at_ ∧ s < n) := by
    subst hs; unfold begins
    by_cases h : at_ < 0 ∨ (n : Int) ≤ at_
    · rw [if_pos h]; omega
    · rw [if_neg h]; omega
  rw [← hs]
  clear hs
  go_enter Try.func32, Try.ntmps32
  go_wp2_with fail
  go_step3
  go_wp2_with fail
  refine (clone_lane A n c _ (H.alloc _) ((HR.out w H).alloc _) (flatL_one l) hsz).mono ?_
  rintro e w1 ⟨v, rfl, H1, E1⟩
  have HT := H1.tail.cell
  have HT0 := HT 0
  have HT1 := HT 1
  have HT2 := HT 2
  have HF0 := H1.tail.free 0
  have HF1 := H1.tail.free 1
  have HF2 := H1.tail.free 2
  clear HT
  rcases hcase with ⟨hc1, rfl⟩ | ⟨hc1, hc2, rfl⟩ | ⟨rfl, hc2⟩
  · skip
    go_wp2_with fail
    go_step3
    go_wp2_with fail
    go_loop [9, 27] (fun nn i => nn = .int .i64 (-1) ∧ ∃ k : Nat, k ≤ n ∧ i = .int .i64 k) (fun _ i => n - (intOf i).toNat)
    case atStart => exact ⟨rfl, 0, by omega, rfl⟩
    case round =>
      obtain ⟨rfl, k, hk, rfl⟩ := hrel
      by_cases hlt : k < n
      · have hi : k % n < n := Nat.mod_lt _ (by omega)
        have hi1 : 0 ≤ (k : Int) % n := Int.emod_nonneg _ (by omega)
        have hi2 : (k : Int) % n < n := Int.emod_lt_of_pos _ (by omega)
        have hil : k % n < l.length := by have := HN.out; omega
        have hwt := HX.out _ (List.getElem_mem hil)
        obtain ⟨b, off, rfl, hcell⟩ := (HR.out w1 H1.tail.tail).2 _ _ (flatL_get l _ hil).1
        generalize l[k % n].1 = wt at hcell hwt
        go_wp2_with fail
        go_round
        case rel => exact ⟨rfl, k + 1, by omega, by go_num⟩
        case measure => simp [intOf]; omega
      · go_wp2_with fail
        have HZ := (((H1.b1.set (i := 0) (.int .i64 (-1))).set (i := 1) (.int .i64 0)).set (i := 2) (.int .i64 0))
        exact bodyPost_ret (ret_turn (by simpa using HZ) _ rfl) rfl ⟨v, rfl, HZ.tail, ((((((Env.refl w).alloc _).trans E1).set _ _).set _ _).set _ _)⟩
  · skip
    go_wp2_with fail
    go_step3
    go_wp2_with fail
    go_loop [9, 27] (fun nn i => nn = .int .i64 (-1) ∧ ∃ k : Nat, k ≤ n ∧ i = .int .i64 k) (fun _ i => n - (intOf i).toNat)
    case atStart => exact ⟨rfl, 0, by omega, rfl⟩
    case round =>
      obtain ⟨rfl, k, hk, rfl⟩ := hrel
      by_cases hlt : k < n
      · have hi : k % n < n := Nat.mod_lt _ (by omega)
        have hi1 : 0 ≤ (k : Int) % n := Int.emod_nonneg _ (by omega)
        have hi2 : (k : Int) % n < n := Int.emod_lt_of_pos _ (by omega)
        have hil : k % n < l.length := by have := HN.out; omega
        have hwt := HX.out _ (List.getElem_mem hil)
        obtain ⟨b, off, rfl, hcell⟩ := (HR.out w1 H1.tail.tail).2 _ _ (flatL_get l _ hil).1
        generalize l[k % n].1 = wt at hcell hwt
        go_wp2_with fail
        go_round
        case rel => exact ⟨rfl, k + 1, by omega, by go_num⟩
        case measure => simp [intOf]; omega
      · go_wp2_with fail
        have HZ := (((H1.b1.set (i := 0) (.int .i64 (-1))).set (i := 1) (.int .i64 0)).set (i := 2) (.int .i64 0))
        exact bodyPost_ret (ret_turn (by simpa using HZ) _ rfl) rfl ⟨v, rfl, HZ.tail, ((((((Env.refl w).alloc _).trans E1).set _ _).set _ _).set _ _)⟩
  · skip
    go_wp2_with fail
    go_step3
    go_wp2_with fail
    go_loop [9, 27] (fun nn i => nn = .int .i64 (-1) ∧ ∃ k : Nat, k ≤ n ∧ i = .int .i64 k) (fun _ i => n - (intOf i).toNat)
    case atStart => exact ⟨rfl, 0, by omega, rfl⟩
    case round =>
      obtain ⟨rfl, k, hk, rfl⟩ := hrel
      by_cases hlt : k < n
      · have hi : (s + k) % n < n := Nat.mod_lt _ (by omega)
        have hi1 : 0 ≤ ((s : Int) + k) % n := Int.emod_nonneg _ (by omega)
        have hi2 : ((s : Int) + k) % n < n := Int.emod_lt_of_pos _ (by omega)
        have hil : (s + k) % n < l.length := by have := HN.out; omega
        have hwt := HX.out _ (List.getElem_mem hil)
        obtain ⟨b, off, rfl, hcell⟩ := (HR.out w1 H1.tail.tail).2 _ _ (flatL_get l _ hil).1
        generalize l[(s + k) % n].1 = wt at hcell hwt
        go_wp2_with fail
        go_round
        case rel => exact ⟨rfl, k + 1, by omega, by go_num⟩
        case measure => simp [intOf]; omega
      · go_wp2_with fail
        have HZ := (((H1.b1.set (i := 0) (.int .i64 (-1))).set (i := 1) (.int .i64 0)).set (i := 2) (.int .i64 s))
        exact bodyPost_ret (ret_turn (by simpa using HZ) _ rfl) rfl ⟨v, rfl, HZ.tail, ((((((Env.refl w).alloc _).trans E1).set _ _).set _ _).set _ _)⟩

end Go.Proofs.Ytcgpmenknloagaa
