/- package codec as far as wal and pages use it: NewWriter, Number, Bytes, Done; NewReader, Number of a fresh reader; bytes.Equal. Conditions: fewer than 2^32 bytes. -/
import Derived.Test.YthbabdjicplooaaSplitBG
import Derived.Test.YthbabdjicplooaaDiskOrderPlainG
import Derived.Lib.EndianBits
import Derived.Deep.QuietTactic
import Derived.BigQuiet
namespace Go.Proofs.Ythbabdjicplooaa
open Go.RowKit

/-- A number's byte, the lowest is number 0. -/
def dig (n : Int) (i : Nat) : Int := n / 256 ^ i % 256
/-- A number's lowest bytes, the highest first. -/
def beL (n : Int) (k : Nat) : List Int := (List.range k).map fun j => dig n (k - 1 - j)
theorem dig_shr (n : Int) (i : Nat) (hi : i < 8) : IntKind.u8.wrap (n / 2 ^ (8 * (i : Int)).toNat) = dig n i := by
  have hx : ∀ x : Int, IntKind.u8.wrap x = x % 256 := fun x => by simp [IntKind.wrap, IntKind.bits, IntKind.signed]
  rw [hx]
  have h : i = 0 ∨ i = 1 ∨ i = 2 ∨ i = 3 ∨ i = 4 ∨ i = 5 ∨ i = 6 ∨ i = 7 := by omega
  rcases h with rfl | rfl | rfl | rfl | rfl | rfl | rfl | rfl <;> simp [dig]
theorem beL_len (n : Int) (k : Nat) : (beL n k).length = k := by simp [beL]
theorem beL_take (n : Int) {k j : Nat} (h : j < k) : (beL n k).take (j + 1) = (beL n k).take j ++ [dig n (k - 1 - j)] := by
  rw [List.take_succ_eq_append_getElem (by rw [beL_len]; exact h)]
  simp [beL]

def wtr (p : Nat) (xs : List Int) : HP := ex fun v => all [row p 162 #[v], own 5 1 v xs.length (bytes xs)]
theorem Sat.wtr_open {w : World} {p : Nat} {xs : List Int} {F : List HP} (H : Sat w (wtr p xs :: F)) : ∃ v, Sat w (row p 162 #[v] :: own 5 1 v xs.length (bytes xs) :: F) := by
  obtain ⟨v, H⟩ := H.open_ex
  exact ⟨v, H.open_all⟩
theorem Sat.wtr_shut {w : World} {p : Nat} {xs : List Int} {F : List HP} {v : Value} (H : Sat w (row p 162 #[v] :: own 5 1 v xs.length (bytes xs) :: F)) : Sat w (wtr p xs :: F) :=
  Sat.shut_ex v (Sat.shut_all (L := [_, _]) H)

theorem wnew {w : World} {F : List HP} (H : Sat w F) :
    Calls Try.prog 102 #[] w fun e w' => ∃ p, e = .returned (.pointer (some ⟨p, 0, none⟩)) ∧ Sat w' (wtr p [] :: F) ∧ Env w w' := by
  go_enter Try.func102, Try.ntmps102
  go_wp2
  go_ret
  refine ⟨_, rfl, ?_, (Env.refl w).alloc _⟩
  exact Sat.wtr_shut (v := .slice none 0 0) ((H.alloc _).own_nil _ 1).swap

theorem csize_any (k : Nat) (w : World) (hk : 1 ≤ k ∧ k ≤ 8) :
    Calls Try.prog 110 #[.int .i64 k] w fun e w' => e = .returned (.int .i64 k) ∧ w = w' := by
  have h1 : ¬ (k : Int) < 1 := by omega
  have h2 : ¬ (8 : Int) < (k : Int) := by omega
  go_enter Try.func110, Try.ntmps110
  go_wp2_with fail
  go_ret
  first
    | exact ⟨rfl, rfl⟩
    | exact ⟨by congr 2; omega, rfl⟩

set_option maxHeartbeats 400000 in
theorem wdone {w : World} {p : Nat} {xs : List Int} {F : List HP} (H : Sat w (wtr p xs :: F)) (hl : xs.length < 4294967296) :
    Calls Try.prog 104 #[.pointer (some ⟨p, 0, none⟩)] w fun e w' => ∃ v, e = .returned v ∧ Sat w' (own 5 1 v xs.length (bytes xs) :: wtr p xs :: F) ∧ Env w w' := by
  have H0 := H
  obtain ⟨v, H⟩ := H.wtr_open
  have hc := H.cell 0
  obtain ⟨A, c, rfl, -, -, hr⟩ := H.b1.own_form
  have HI := Lib.hid (clone_byte A xs.length c _ H0 hr (bytes_one xs) hl)
  clear hr
  go_enter Try.func104, Try.ntmps104
  go_wp2_with fail
  refine HI.out.mono ?_
  rintro e w' ⟨v, rfl, H', E'⟩
  go_wp2_with fail
  go_ret
  exact ⟨_, rfl, H', E'⟩

set_option maxHeartbeats 2000000 in
set_option maxRecDepth 100000 in
theorem wnumber {w : World} {p : Nat} {xs : List Int} {F : List HP} (n : Int) (k : Nat) (H : Sat w (wtr p xs :: F)) (hk : 1 ≤ k ∧ k ≤ 8) (hn : 0 ≤ n ∧ n < 18446744073709551616) (hl : xs.length < 4294967296) :
    Calls Try.prog 103 #[.pointer (some ⟨p, 0, none⟩), .int .u64 n, .int .i64 k] w fun e w' => e = .returned (.tuple #[]) ∧ Sat w' (wtr p (xs ++ beL n k) :: F) ∧ Env w w' := by
  have HN := Lib.hid hn
  clear hn
  go_enter Try.func103, Try.ntmps103
  go_wp2_with fail
  refine (csize_any k _ hk).mono ?_
  rintro e w' ⟨rfl, rfl⟩
  have hw0 : IntKind.i64.wrap ((k : Int) - 1) = (k : Int) - 1 := IntWalk.i64_in _ (by omega)
  go_wp2_with fail
  go_loopw [6] (fun i wr => ∃ j : Nat, j ≤ k ∧ i = .int .i64 ((k : Int) - 1 - j) ∧ Sat wr (wtr p (xs ++ (beL n k).take j) :: F) ∧ Env w wr) (fun i _ => (intOf i + 1).toNat)
  case atStart => exact ⟨0, by omega, by simp, by simpa using H, Env.refl w⟩
  case round =>
    clear H hw0
    obtain ⟨j, hj, rfl, H1, E1⟩ := hrel
    by_cases hlt : j < k
    · obtain ⟨i, hi⟩ : ∃ i : Nat, k - 1 - j = i := ⟨_, rfl⟩
      have hii : (k : Int) - 1 - (j : Int) = (i : Int) := by omega
      have hi8 : i < 8 := by omega
      have HT := Lib.hid (beL_take n hlt)
      rw [hi] at HT
      rw [hii]
      obtain ⟨v, H2⟩ := H1.wtr_open
      obtain ⟨m, hm⟩ : ∃ m, (xs ++ (beL n k).take j).length = m := ⟨_, rfl⟩
      have hm2 : m < 4294967306 := by rw [← hm, List.length_append, List.length_take, beL_len]; omega
      have HM := Lib.hid hm
      rw [hm] at H2
      clear hm H1
      obtain ⟨A, c, rfl, -, -, -⟩ := H2.b1.own_form
      have x0 : wr.drew.cell? ⟨p, 0, none⟩ = some (.slice A m c) := H2.drew.cell 0
      have hi0 : (0 : Int) ≤ (i : Int) := by omega
      have hwm : IntKind.i64.wrap (8 * (i : Int)) = ((8 * i : Nat) : Int) := by rw [IntWalk.i64_in _ (by omega)]; omega
      go_upto_region 3 with fail
      refine region_aside2 (fun w' => w'.cell? ⟨p, 0, none⟩ = some (.slice A m c)) 14 _ (by kernel_rfl) rfl rfl rfl (by kernel_rfl) (by kernel_rfl) x0 (fun hHeld => ?_)
      simp only [setAside, List.setIfInBounds_toArray, List.set_cons_zero, List.set_cons_succ]
      refine' wpAnyH_take (i := 0) (oi := _) (v := _) rfl (by kernel_rfl) (by kernel_rfl) (by kernel_rfl) (fun _ _ _ h => h) (Or.inl ⟨by rfl, ?hy0⟩) hHeld ?rest0
      case hy0 => (intro w' hSw; (try dsimp only at hSw); go_simp; try with_reducible rfl)
      simp only [List.getElem_toArray, List.getElem_cons_zero, List.getElem_cons_succ, Act.put, List.setIfInBounds_toArray, List.set_cons_zero, List.set_cons_succ]
      refine' wpAnyH_take (i := 1) (oi := _) (v := _) rfl (by kernel_rfl) (by kernel_rfl) (by kernel_rfl) (fun _ _ _ h => h) (Or.inl ⟨by rfl, ?hy1⟩) hHeld ?rest1
      case hy1 => (intro w' hSw; (try dsimp only at hSw); go_simp; try with_reducible rfl)
      simp only [List.getElem_toArray, List.getElem_cons_zero, List.getElem_cons_succ, Act.put, List.setIfInBounds_toArray, List.set_cons_zero, List.set_cons_succ]
      refine' wpAnyH_take (i := 2) (oi := _) (v := _) rfl (by kernel_rfl) (by kernel_rfl) (by kernel_rfl) (fun _ _ _ h => h) (Or.inl ⟨by rfl, ?hy2⟩) hHeld ?rest2
      case hy2 => (intro w' hSw; (try dsimp only at hSw); go_simp; try with_reducible rfl)
      simp only [List.getElem_toArray, List.getElem_cons_zero, List.getElem_cons_succ, Act.put, List.setIfInBounds_toArray, List.set_cons_zero, List.set_cons_succ]
      refine' wpAnyH_take (i := 3) (oi := _) (v := _) rfl (by kernel_rfl) (by kernel_rfl) (by kernel_rfl) (fun _ _ _ h => h) (Or.inl ⟨by rfl, ?hy3⟩) hHeld ?rest3
      case hy3 => (intro w' hSw; (try dsimp only at hSw); go_simp; try with_reducible rfl)
      simp only [List.getElem_toArray, List.getElem_cons_zero, List.getElem_cons_succ, Act.put, List.setIfInBounds_toArray, List.set_cons_zero, List.set_cons_succ]
      refine' wpAnyH_take (i := 4) (oi := _) (v := _) rfl (by kernel_rfl) (by kernel_rfl) (by kernel_rfl) (fun _ _ _ h => h) (Or.inl ⟨by rfl, ?hy4⟩) hHeld ?rest4
      case hy4 => (intro w' hSw; (try dsimp only at hSw); go_simp; try with_reducible rfl)
      simp only [List.getElem_toArray, List.getElem_cons_zero, List.getElem_cons_succ, Act.put, List.setIfInBounds_toArray, List.set_cons_zero, List.set_cons_succ]
      refine' wpAnyH_take (i := 5) (oi := _) (v := _) rfl (by kernel_rfl) (by kernel_rfl) (by kernel_rfl) (fun _ _ _ h => h) (Or.inl ⟨by rfl, ?hy5⟩) hHeld ?rest5
      case hy5 => (intro w' hSw; (try dsimp only at hSw); go_simp; try with_reducible rfl)
      simp only [List.getElem_toArray, List.getElem_cons_zero, List.getElem_cons_succ, Act.put, List.setIfInBounds_toArray, List.set_cons_zero, List.set_cons_succ]
      refine' wpAnyH_take (i := 6) (oi := _) (v := _) rfl (by kernel_rfl) (by kernel_rfl) (by kernel_rfl) (fun _ _ _ h => h) (Or.inl ⟨by rfl, ?hy6⟩) hHeld ?rest6
      case hy6 => (intro w' hSw; (try dsimp only at hSw); go_simp; try with_reducible rfl)
      simp only [List.getElem_toArray, List.getElem_cons_zero, List.getElem_cons_succ, Act.put, List.setIfInBounds_toArray, List.set_cons_zero, List.set_cons_succ]
      refine' wpAnyH_take (i := 7) (oi := _) (v := _) rfl (by kernel_rfl) (by kernel_rfl) (by kernel_rfl) (fun _ _ _ h => h) (Or.inl ⟨by rfl, ?hy7⟩) hHeld ?rest7
      case hy7 => (intro w' hSw; (try dsimp only at hSw); go_simp; try with_reducible rfl)
      simp only [List.getElem_toArray, List.getElem_cons_zero, List.getElem_cons_succ, Act.put, List.setIfInBounds_toArray, List.set_cons_zero, List.set_cons_succ]
      refine' wpAnyH_take (i := 8) (oi := _) (v := _) rfl (by kernel_rfl) (by kernel_rfl) (by kernel_rfl) (fun _ _ _ h => h) (Or.inl ⟨by rfl, ?hy8⟩) hHeld ?rest8
      case hy8 => (intro w' hSw; (try dsimp only at hSw); go_simp; try with_reducible rfl)
      simp only [List.getElem_toArray, List.getElem_cons_zero, List.getElem_cons_succ, Act.put, List.setIfInBounds_toArray, List.set_cons_zero, List.set_cons_succ]
      refine' wpAnyH_take (i := 9) (oi := _) (v := _) rfl (by kernel_rfl) (by kernel_rfl) (by kernel_rfl) (fun _ _ _ h => h) (Or.inl ⟨by rfl, ?hy9⟩) hHeld ?rest9
      case hy9 => (intro w' hSw; (try dsimp only at hSw); go_simp; try with_reducible rfl)
      simp only [List.getElem_toArray, List.getElem_cons_zero, List.getElem_cons_succ, Act.put, List.setIfInBounds_toArray, List.set_cons_zero, List.set_cons_succ]
      rw [dig_shr n i hi8]
      generalize dig n i = dg at HT ⊢
      refine wpAnyH_ready (rs := [10]) (by kernel_rfl) (by simp) ?_
      refine AllReadyH.cons (o := _) rfl (fun K hK => ?_) AllReadyH.nil
      rw [if_pos (by rfl)]
      go_simp
      have H4 := H2.drew.b1.alloc' (.cells #[.int .u8 dg] 5)
      refine hK.out _ _ (H4.b1.cell 0) (fun hHeld2 => ?_)
      clear hK K
      try simp only [List.getElem_toArray, List.getElem_cons_zero, List.getElem_cons_succ, Act.put, List.setIfInBounds_toArray, List.set_cons_zero, List.set_cons_succ]
      refine wpAnyH_ready (rs := [11]) (by kernel_rfl) (by simp) ?_
      refine AllReadyH.cons (o := _) rfl (fun K hK => ?_) AllReadyH.nil
      refine step_append_sat rfl (.tmp 18) (.tmp 24) 30 rfl H4 rfl _ 1 Try.underlying30 Try.info_byte rfl (by omega) _ _ _ [.int .u8 dg] rfl (fun h => by cases h) rfl (lit_src _ _ _ _ rfl) (by simp [Value.oneCell']) (by simp only [maxLen]; omega) (by omega) ?_
      intro v5 w5 H5 E5
      obtain ⟨A5, c5, rfl, -, -, -⟩ := H5.own_form
      refine hK.out _ _ (H5.b1.cell 0) (fun hHeld3 => ?_)
      clear hK K
      try simp only [List.getElem_toArray, List.getElem_cons_zero, List.getElem_cons_succ, Act.put, List.setIfInBounds_toArray, List.set_cons_zero, List.set_cons_succ]
      refine' wpAnyH_take (i := 12) (oi := _) (v := _) rfl (by kernel_rfl) (by kernel_rfl) (by kernel_rfl) (fun _ _ _ h => h) (Or.inl ⟨by rfl, ?hy12⟩) hHeld3 ?rest12
      case hy12 => (intro w' hSw; (try dsimp only at hSw); go_simp; try with_reducible rfl)
      simp only [List.getElem_toArray, List.getElem_cons_zero, List.getElem_cons_succ, Act.put, List.setIfInBounds_toArray, List.set_cons_zero, List.set_cons_succ]
      refine' wpAnyH_take (i := 13) (oi := _) (v := _) rfl (by kernel_rfl) (by kernel_rfl) (by kernel_rfl) (fun _ _ _ h => h) (Or.inl ⟨by rfl, ?hy13⟩) hHeld3 ?rest13
      case hy13 => (intro w' hSw; (try dsimp only at hSw); go_simp; try with_reducible rfl)
      simp only [List.getElem_toArray, List.getElem_cons_zero, List.getElem_cons_succ, Act.put, List.setIfInBounds_toArray, List.set_cons_zero, List.set_cons_succ]
      refine' wpAnyH_take (i := 14) (oi := _) (v := _) rfl (by kernel_rfl) (by kernel_rfl) (by kernel_rfl) (fun _ _ _ h => h) (Or.inl ⟨by rfl, ?hy14⟩) hHeld3 ?rest14
      case hy14 => (intro w' hSw; (try dsimp only at hSw); go_simp; try with_reducible rfl)
      try simp only [List.getElem_toArray, List.getElem_cons_zero, List.getElem_cons_succ, Act.put, List.setIfInBounds_toArray, List.set_cons_zero, List.set_cons_succ]
      refine wpAnyH_done (by kernel_rfl) ?_ _
      show Oper.wp _ _ _ _ _ _
      have c0 := H5.b1.cell 0
      have f0 := H5.b1.free 0
      have H6 := H5.b1.set (i := 0) (.slice A5 (m + 1) c5)
      have E6 := ((E1.drew.alloc (.cells #[.int .u8 dg] 5)).trans E5).set ⟨p, 0, none⟩ (.slice A5 (m + 1) c5)
      go_simp
      generalize w5.setCell ⟨p, 0, none⟩ (.slice A5 (m + 1) c5) = w6 at *
      have hlen : (xs ++ (beL n k).take (j + 1)).length = m + 1 := by rw [HT.out, ← List.append_assoc, List.length_append, HM.out]; rfl
      have H7 : Sat w6 (wtr p (xs ++ (beL n k).take (j + 1)) :: F) := Sat.wtr_shut (v := .slice A5 (m + 1) c5) (by
        rw [hlen, HT.out, ← List.append_assoc, bytes, List.map_append]; exact H6)
      have hw1 : IntKind.i64.wrap ((i : Int) - 1) = (k : Int) - 1 - ((j + 1 : Nat) : Int) := by rw [IntWalk.i64_in _ (by omega)]; omega
      clear c0 f0 hHeld hHeld2 hHeld3 x0 H2 H4 H5 H6 E1 E5 hlen hwm
      go_wp2_with fail
      go_roundw
      case rel => exact ⟨j + 1, by omega, by first | rfl | (congr 1; omega), H7, E6⟩
      case measure => simp [intOf]; omega
    · obtain rfl : j = k := by omega
      go_wp2_with fail
      go_end0
      rw [List.take_of_length_le (by rw [beL_len]; omega)] at H1
      exact ⟨rfl, H1, E1⟩

set_option maxHeartbeats 2000000 in
set_option maxRecDepth 100000 in
theorem wbytes {w : World} {p : Nat} {xs ys : List Int} {F : List HP} (A : Option Addr) (n c : Nat) (H : Sat w (wtr p xs :: F)) (hr : Reads F 1 A n (bytes ys)) (hn : n < 65536) (hc : n ≤ c) (hl : xs.length < 4294967296) :
    Calls Try.prog 107 #[.pointer (some ⟨p, 0, none⟩), .slice A n c] w fun e w' => e = .returned (.tuple #[]) ∧ Sat w' (wtr p (xs ++ (beL n 2 ++ ys)) :: F) ∧ Env w w' := by
  have HR := Lib.hid hr
  clear hr
  have hand : bits .and .i64 (n : Int) 65535 = (n : Int) := by
    have := bits_mask .i64 63 (by decide) (fun x h0 h1 => by rw [IntKind.wrap_i64]; omega) 16 (by decide) (n : Int) (by omega) (by omega)
    rw [show ((2 : Int) ^ 16 - 1) = 65535 by rfl] at this
    rw [this]; omega
  have hwu : IntKind.u64.wrap (n : Int) = (n : Int) := by rw [IntKind.wrap_u64]; omega
  go_enter Try.func107, Try.ntmps107
  go_wp2_with fail
  refine (wnumber (n : Int) 2 H (by omega) (by omega) hl).mono ?_
  rintro e w1 ⟨rfl, H1, E1⟩
  obtain ⟨v, H2⟩ := H1.wtr_open
  obtain ⟨m, hm⟩ : ∃ m, (xs ++ beL n 2).length = m := ⟨_, rfl⟩
  have hm2 : m < 4294967299 := by rw [← hm, List.length_append, beL_len]; omega
  have HM := Lib.hid hm
  rw [hm] at H2
  clear hm H1 H hl
  obtain ⟨A1, c1, rfl, -, -, -⟩ := H2.b1.own_form
  have x0 : w1.drew.cell? ⟨p, 0, none⟩ = some (.slice A1 m c1) := H2.drew.cell 0
  have hn0 : (0 : Int) ≤ (n : Int) := by omega
  have hnc : (n : Int) ≤ (c : Int) := by omega
  go_upto_region 2 with fail
  refine region_aside2 (fun w' => w'.cell? ⟨p, 0, none⟩ = some (.slice A1 m c1)) 11 _ (by kernel_rfl) rfl rfl rfl (by kernel_rfl) (by kernel_rfl) x0 (fun hHeld => ?_)
  simp only [setAside, List.setIfInBounds_toArray, List.set_cons_zero, List.set_cons_succ]
  refine' wpAnyH_take (i := 0) (oi := _) (v := _) rfl (by kernel_rfl) (by kernel_rfl) (by kernel_rfl) (fun _ _ _ h => h) (Or.inl ⟨by rfl, ?hy0⟩) hHeld ?rest0
  case hy0 => (intro w' hSw; (try dsimp only at hSw); go_simp; try with_reducible rfl)
  simp only [List.getElem_toArray, List.getElem_cons_zero, List.getElem_cons_succ, Act.put, List.setIfInBounds_toArray, List.set_cons_zero, List.set_cons_succ]
  refine' wpAnyH_take (i := 1) (oi := _) (v := _) rfl (by kernel_rfl) (by kernel_rfl) (by kernel_rfl) (fun _ _ _ h => h) (Or.inl ⟨by rfl, ?hy1⟩) hHeld ?rest1
  case hy1 => (intro w' hSw; (try dsimp only at hSw); go_simp; try with_reducible rfl)
  simp only [List.getElem_toArray, List.getElem_cons_zero, List.getElem_cons_succ, Act.put, List.setIfInBounds_toArray, List.set_cons_zero, List.set_cons_succ]
  refine' wpAnyH_take (i := 2) (oi := _) (v := _) rfl (by kernel_rfl) (by kernel_rfl) (by kernel_rfl) (fun _ _ _ h => h) (Or.inl ⟨by rfl, ?hy2⟩) hHeld ?rest2
  case hy2 => (intro w' hSw; (try dsimp only at hSw); go_simp; try with_reducible rfl)
  simp only [List.getElem_toArray, List.getElem_cons_zero, List.getElem_cons_succ, Act.put, List.setIfInBounds_toArray, List.set_cons_zero, List.set_cons_succ]
  refine' wpAnyH_take (i := 3) (oi := _) (v := _) rfl (by kernel_rfl) (by kernel_rfl) (by kernel_rfl) (fun _ _ _ h => h) (Or.inl ⟨by rfl, ?hy3⟩) hHeld ?rest3
  case hy3 => (intro w' hSw; (try dsimp only at hSw); go_simp; try with_reducible rfl)
  simp only [List.getElem_toArray, List.getElem_cons_zero, List.getElem_cons_succ, Act.put, List.setIfInBounds_toArray, List.set_cons_zero, List.set_cons_succ]
  refine' wpAnyH_take (i := 4) (oi := _) (v := _) rfl (by kernel_rfl) (by kernel_rfl) (by kernel_rfl) (fun _ _ _ h => h) (Or.inl ⟨by rfl, ?hy4⟩) hHeld ?rest4
  case hy4 => (intro w' hSw; (try dsimp only at hSw); go_simp; try with_reducible rfl)
  simp only [List.getElem_toArray, List.getElem_cons_zero, List.getElem_cons_succ, Act.put, List.setIfInBounds_toArray, List.set_cons_zero, List.set_cons_succ]
  refine' wpAnyH_take (i := 5) (oi := _) (v := _) rfl (by kernel_rfl) (by kernel_rfl) (by kernel_rfl) (fun _ _ _ h => h) (Or.inl ⟨by rfl, ?hy5⟩) hHeld ?rest5
  case hy5 => (intro w' hSw; (try dsimp only at hSw); go_simp; try with_reducible rfl)
  simp only [List.getElem_toArray, List.getElem_cons_zero, List.getElem_cons_succ, Act.put, List.setIfInBounds_toArray, List.set_cons_zero, List.set_cons_succ]
  refine' wpAnyH_take (i := 6) (oi := _) (v := _) rfl (by kernel_rfl) (by kernel_rfl) (by kernel_rfl) (fun _ _ _ h => h) (Or.inl ⟨by rfl, ?hy6⟩) hHeld ?rest6
  case hy6 => (intro w' hSw; (try dsimp only at hSw); go_simp; try with_reducible rfl)
  simp only [List.getElem_toArray, List.getElem_cons_zero, List.getElem_cons_succ, Act.put, List.setIfInBounds_toArray, List.set_cons_zero, List.set_cons_succ]
  refine' wpAnyH_take (i := 7) (oi := _) (v := _) rfl (by kernel_rfl) (by kernel_rfl) (by kernel_rfl) (fun _ _ _ h => h) (Or.inl ⟨by rfl, ?hy7⟩) hHeld ?rest7
  case hy7 => (intro w' hSw; (try dsimp only at hSw); go_simp; try with_reducible rfl)
  simp only [List.getElem_toArray, List.getElem_cons_zero, List.getElem_cons_succ, Act.put, List.setIfInBounds_toArray, List.set_cons_zero, List.set_cons_succ]
  refine wpAnyH_ready (rs := [8]) (by kernel_rfl) (by simp) ?_
  refine AllReadyH.cons (o := _) rfl (fun K hK => ?_) AllReadyH.nil
  refine step_append_sat rfl (.tmp 16) (.tmp 19) 30 rfl H2.drew.b1 rfl _ 1 Try.underlying30 Try.info_byte rfl (by omega) _ _ _ (bytes ys) rfl ((HR.out _ H2.drew.tail.tail).src_none (by omega)) (HR.out _ H2.drew.tail.tail).1 (HR.out _ H2.drew.tail.tail).src (bytes_one ys) (by simp only [maxLen]; omega) (by omega) ?_
  intro v5 w5 H5 E5
  obtain ⟨A5, c5, rfl, -, -, -⟩ := H5.own_form
  refine hK.out _ _ (H5.b1.cell 0) (fun hHeld3 => ?_)
  clear hK K
  try simp only [List.getElem_toArray, List.getElem_cons_zero, List.getElem_cons_succ, Act.put, List.setIfInBounds_toArray, List.set_cons_zero, List.set_cons_succ]
  refine' wpAnyH_take (i := 9) (oi := _) (v := _) rfl (by kernel_rfl) (by kernel_rfl) (by kernel_rfl) (fun _ _ _ h => h) (Or.inl ⟨by rfl, ?hy9⟩) hHeld3 ?rest9
  case hy9 => (intro w' hSw; (try dsimp only at hSw); go_simp; try with_reducible rfl)
  simp only [List.getElem_toArray, List.getElem_cons_zero, List.getElem_cons_succ, Act.put, List.setIfInBounds_toArray, List.set_cons_zero, List.set_cons_succ]
  refine' wpAnyH_take (i := 10) (oi := _) (v := _) rfl (by kernel_rfl) (by kernel_rfl) (by kernel_rfl) (fun _ _ _ h => h) (Or.inl ⟨by rfl, ?hy10⟩) hHeld3 ?rest10
  case hy10 => (intro w' hSw; (try dsimp only at hSw); go_simp; try with_reducible rfl)
  simp only [List.getElem_toArray, List.getElem_cons_zero, List.getElem_cons_succ, Act.put, List.setIfInBounds_toArray, List.set_cons_zero, List.set_cons_succ]
  refine' wpAnyH_take (i := 11) (oi := _) (v := _) rfl (by kernel_rfl) (by kernel_rfl) (by kernel_rfl) (fun _ _ _ h => h) (Or.inl ⟨by rfl, ?hy11⟩) hHeld3 ?rest11
  case hy11 => (intro w' hSw; (try dsimp only at hSw); go_simp; try with_reducible rfl)
  try simp only [List.getElem_toArray, List.getElem_cons_zero, List.getElem_cons_succ, Act.put, List.setIfInBounds_toArray, List.set_cons_zero, List.set_cons_succ]
  refine wpAnyH_done (by kernel_rfl) ?_ _
  show Oper.wp _ _ _ _ _ _
  have c0 := H5.b1.cell 0
  have f0 := H5.b1.free 0
  have H6 := H5.b1.set (i := 0) (.slice A5 (m + n) c5)
  have E6 := (E1.drew.trans E5).set ⟨p, 0, none⟩ (.slice A5 (m + n) c5)
  go_simp
  generalize w5.setCell ⟨p, 0, none⟩ (.slice A5 (m + n) c5) = w6 at *
  have hyl : ys.length = n := by have := (HR.out _ H2.tail.tail).1; rw [bytes_len] at this; omega
  have hlen : (xs ++ (beL n 2 ++ ys)).length = m + n := by rw [← List.append_assoc, List.length_append, HM.out, hyl]
  go_end0
  refine ⟨rfl, Sat.wtr_shut (v := .slice A5 (m + n) c5) ?_, E6⟩
  rw [hlen, ← List.append_assoc, bytes, List.map_append]
  exact H6

/-- A reader that has read nothing yet. -/
def rdr (p : Nat) (xs : List Int) : HP := ex fun v => all [row p 165 #[v, .int .i64 0, .pointer none], own 5 1 v xs.length (bytes xs)]
theorem Sat.rdr_open {w : World} {p : Nat} {xs : List Int} {F : List HP} (H : Sat w (rdr p xs :: F)) : ∃ v, Sat w (row p 165 #[v, .int .i64 0, .pointer none] :: own 5 1 v xs.length (bytes xs) :: F) := by
  obtain ⟨v, H⟩ := H.open_ex
  exact ⟨v, H.open_all⟩

set_option maxHeartbeats 1000000 in
theorem rdnew {w : World} {F : List HP} {xs : List Int} (A : Option Addr) (n c : Nat) (H : Sat w F) (hr : Rd w 1 A n (bytes xs)) (hn : n < 4294967296) :
    Calls Try.prog 105 #[.slice A n c] w fun e w' => ∃ p, e = .returned (.pointer (some ⟨p, 0, none⟩)) ∧ Sat w' (rdr p xs :: F) ∧ Env w w' := by
  have hxl : xs.length = n := by have := hr.1; rw [bytes_len] at this; omega
  have HI := Lib.hid (clone_byte A n c _ H hr (bytes_one xs) hn)
  clear hr
  go_enter Try.func105, Try.ntmps105
  go_wp2_with fail
  refine HI.out.mono ?_
  rintro e w1 ⟨v, rfl, H1, E1⟩
  obtain ⟨A1, c1, rfl, -, -, -⟩ := H1.own_form
  go_wp2_with fail
  go_ret
  refine ⟨_, rfl, ?_, E1.alloc _⟩
  exact Sat.shut_ex (.slice A1 n c1) (Sat.shut_all (L := [_, _]) (by rw [hxl]; exact H1.alloc _))

set_option maxHeartbeats 2000000 in
set_option maxRecDepth 100000 in
theorem take_any {w : World} {p : Nat} {xs : List Int} {F : List HP} (k : Nat) (H : Sat w (rdr p xs :: F)) (hk : 1 ≤ k ∧ k ≤ 8) (hl : k ≤ xs.length) (hx : xs.length < 4294967296) :
    Calls Try.prog 111 #[.pointer (some ⟨p, 0, none⟩), .int .i64 k] w fun e w' => ∃ A c, e = .returned (.slice A k c) ∧ Sat w' F ∧ Rd w' 1 A k (bytes (xs.take k)) ∧ Env w w' := by
  obtain ⟨v, H1⟩ := H.rdr_open
  obtain ⟨m, hm⟩ : ∃ m, xs.length = m := ⟨_, rfl⟩
  rw [hm] at H1 hl hx
  clear H hm
  obtain ⟨g, c, rfl, hc⟩ := H1.b1.own_addr (by omega)
  have x0 := H1.cell 0
  have x1 := H1.cell 1
  have x2 := H1.cell 2
  have f1 := H1.free 1
  have h1 : ¬ (m : Int) < (k : Int) := by omega
  have h2 : (k : Int) ≤ (c : Int) := by omega
  have h3 : (0 : Int) ≤ (k : Int) := by omega
  go_enter Try.func111, Try.ntmps111
  go_wp2_with fail
  go_quiet (fail)
  have H2 := H1.drewN nq
  have E2 := (Env.refl w).drewN nq
  generalize w.drewN nq = w2 at *
  clear x0 x1 x2 f1 H1
  have x0 := H2.cell 0
  have x1 := H2.cell 1
  have f1 := H2.free 1
  go_upto_region 7 with fail
  have H3 := H2.set (i := 1) (.int .i64 k)
  have E3 := E2.set ⟨p, 1, none⟩ (.int .i64 k)
  generalize w2.setCell ⟨p, 1, none⟩ (.int .i64 k) = w3 at *
  clear x0 x1 f1 H2 E2
  have x0 := H3.cell 0
  have x1 := H3.cell 1
  go_quiet (fail)
  have H4 := H3.drewN nq
  have E4 := E3.drewN nq
  go_wp2_with fail
  go_ret
  refine ⟨some ⟨g, 0, none⟩, c, by simp, H4.tail.tail, ?_, E4⟩
  have := H4.b1.own_at.1.take (m := k) hl
  rwa [Nat.mul_one, bytes, ← List.map_take] at this

/-- The number that bytes are, the highest first. -/
def ofBE (l : List Int) : Int := l.foldl (fun a b => a * 256 + b) 0
theorem ofBE_snoc (l : List Int) (b : Int) : ofBE (l ++ [b]) = ofBE l * 256 + b := by simp [ofBE]
def InB (l : List Int) : Prop := ∀ x ∈ l, 0 ≤ x ∧ x ≤ 255
theorem foldBE (l : List Int) : ∀ a : Int, 0 ≤ a → InB l → 0 ≤ l.foldl (fun a b => a * 256 + b) a ∧ l.foldl (fun a b => a * 256 + b) a < (a + 1) * 256 ^ l.length := by
  induction l with
  | nil => intro a ha _; simp; omega
  | cons b l ih =>
    intro a ha h
    have h2 := h b (by simp)
    obtain ⟨g1, g2⟩ := ih (a * 256 + b) (by omega) (fun x hx => h x (by simp [hx]))
    refine ⟨g1, Int.lt_of_lt_of_le g2 ?_⟩
    rw [List.length_cons, Int.pow_succ, Int.mul_comm (256 ^ l.length) 256, ← Int.mul_assoc]
    exact Int.mul_le_mul_of_nonneg_right (by omega) (Int.pow_nonneg (by omega))
theorem ofBE_range {l : List Int} (h : InB l) : 0 ≤ ofBE l ∧ ofBE l < 256 ^ l.length := by
  have := foldBE l 0 (by omega) h
  simpa [ofBE] using this

set_option maxHeartbeats 2000000 in
set_option maxRecDepth 100000 in
theorem rnumber {w : World} {p : Nat} {xs : List Int} {F : List HP} (k : Nat) (H : Sat w (rdr p xs :: F)) (hk : 1 ≤ k ∧ k ≤ 8) (hl : k ≤ xs.length) (hx : xs.length < 4294967296) (hb : InB xs) :
    Calls Try.prog 106 #[.pointer (some ⟨p, 0, none⟩), .int .i64 k] w fun e w' => e = .returned (.int .u64 (ofBE (xs.take k))) ∧ Sat w' F ∧ Env w w' := by
  have HT := Lib.hid (take_any k H hk hl hx)
  have HB := Lib.hid (show InB (xs.take k) from fun x hx => hb x (List.mem_of_mem_take hx))
  have hlen : (xs.take k).length = k := by rw [List.length_take]; omega
  generalize xs.take k = ys at *
  clear H hb hl hx
  go_enter Try.func106, Try.ntmps106
  go_wp2_with fail
  refine (csize_any k _ hk).mono ?_
  rintro e w' ⟨rfl, rfl⟩
  go_wp2_with fail
  refine HT.out.mono ?_
  rintro e w2 ⟨A, c, rfl, H2, hr, E2⟩
  have HR := Lib.hid hr
  clear hr HT
  go_wp2_with fail
  go_loopw [5, 13] (fun acc i wr => ∃ j : Nat, j ≤ k ∧ i = .int .i64 j ∧ acc = .int .u64 (ofBE (ys.take j)) ∧ wr = w2) (fun _ i _ => k - (intOf i).toNat)
  case atStart => exact ⟨0, by omega, rfl, rfl, rfl⟩
  case round =>
    obtain ⟨j, hj, rfl, rfl, rfl⟩ := hrel
    by_cases hlt : j < k
    · have hjl : j < ys.length := by omega
      obtain ⟨b, off, rfl, hcell⟩ := HR.out.2 j (.int .u8 ys[j]) (by simp [bytes, hjl])
      have hyb := HB.out _ (List.getElem_mem hjl)
      have HS := Lib.hid (show ofBE (ys.take (j + 1)) = ofBE (ys.take j) * 256 + ys[j] by rw [List.take_succ_eq_append_getElem hjl, ofBE_snoc])
      have hrg := ofBE_range (l := ys.take j) (fun x hx => HB.out x (List.mem_of_mem_take hx))
      have hpw : (256 : Int) ^ (ys.take j).length ≤ 72057594037927936 := by
        rw [List.length_take, show min j ys.length = j by omega]
        have h : j = 0 ∨ j = 1 ∨ j = 2 ∨ j = 3 ∨ j = 4 ∨ j = 5 ∨ j = 6 ∨ j = 7 := by omega
        rcases h with rfl | rfl | rfl | rfl | rfl | rfl | rfl | rfl <;> decide
      generalize ys[j] = y at hcell hyb HS
      generalize ofBE (ys.take j) = a at HS hrg ⊢
      have ha : 0 ≤ a ∧ a < 72057594037927936 := by omega
      clear hrg hpw
      have hor : bits .or .u64 (a * 256) y = a * 256 + y := bits_join .u64 64 (by decide) wraps_u64 8 (a * 256) y (by omega) (by omega) (by omega) (by omega) (by omega) (by omega)
      have hw1 : IntKind.u64.wrap (a * 256) = a * 256 := by rw [IntKind.wrap_u64]; omega
      have hw2 : IntKind.u64.wrap y = y := by rw [IntKind.wrap_u64]; omega
      go_wp2_with fail
      exact ⟨⟨j + 1, by omega, by go_num, by rw [HS.out], trivial⟩, by simp [intOf]; omega⟩
    · obtain rfl : j = k := by omega
      go_wp2_with fail
      go_ret
      rw [List.take_of_length_le (by omega)]
      exact ⟨rfl, H2, E2⟩

theorem strOfNums_inj {xs ys : List Int} (hx : InB xs) (hy : InB ys) (h : (strOfNums xs).toList = (strOfNums ys).toList) : xs = ys := by
  have h1 : xs.map (fun n => UInt8.ofNat n.toNat) = ys.map (fun n => UInt8.ofNat n.toNat) := by
    rw [ByteArray.toList_eq, ByteArray.toList_eq] at h
    exact h
  have key : ∀ (a b : List Int), InB a → InB b → a.map (fun n => UInt8.ofNat n.toNat) = b.map (fun n => UInt8.ofNat n.toNat) → a = b := by
    intro a
    induction a with
    | nil => intro b _ _ h; cases b with
      | nil => rfl
      | cons y b => simp at h
    | cons x a ih =>
      intro b ha hb h
      cases b with
      | nil => simp at h
      | cons y b =>
        simp only [List.map_cons, List.cons.injEq] at h
        have hx := ha x (by simp)
        have hy := hb y (by simp)
        have e : x = y := by
          have := congrArg UInt8.toNat h.1
          simp at this
          omega
        rw [e, ih b (fun z hz => ha z (by simp [hz])) (fun z hz => hb z (by simp [hz])) h.2]
  exact key xs ys hx hy h1

set_option maxHeartbeats 1000000 in
theorem bequal (A B : Option Addr) (n m c d : Nat) (xs ys : List Int) (w : World) (h1 : Rd w 1 A n (bytes xs)) (h2 : Rd w 1 B m (bytes ys)) (hn : 0 < n) (hm : 0 < m) (hx : InB xs) (hy : InB ys) :
    Calls Try.prog 101 #[.slice A n c, .slice B m d] w fun e w' => e = .returned (.bool (decide (xs = ys))) ∧ w = w' := by
  have q1 := conv_rd (c := c) h1 hn
  have q2 := conv_rd (c := d) h2 hm
  have hb : ((strOfNums xs).toList == (strOfNums ys).toList) = decide (xs = ys) := by
    by_cases h : xs = ys
    · subst h; simp
    · have : ¬ (strOfNums xs).toList = (strOfNums ys).toList := fun e => h (strOfNums_inj hx hy e)
      simp [h, this]
  clear h1 h2 hn hm hx hy
  generalize decide (xs = ys) = bb at *
  go_enter Try.func101, Try.ntmps101
  go_wp2_with fail
  go_ret
  exact ⟨rfl, rfl⟩
end Go.Proofs.Ythbabdjicplooaa
