/- package pages: its smallest functions. Conditions: pages below 512, seals of 128 bytes. -/
import Derived.Test.YthbabdjicplooaaWalCrashG
import Derived.Test.YthbabdjicplooaaSplitBG
namespace Go.Proofs.Ythbabdjicplooaa
open Go.RowKit

/-- A store: its disk, its log, its seal. -/
def sto (s d p : Nat) (S : List Int) : HP := ex fun v => all [row s 148 #[.pointer (some ⟨d, 0, none⟩), .pointer (some ⟨p, 0, none⟩), v], own 5 1 v 128 (bytes S)]
theorem Sat.sto_open {w : World} {s d p : Nat} {S : List Int} {F : List HP} (H : Sat w (sto s d p S :: F)) : ∃ A c, Sat w (row s 148 #[.pointer (some ⟨d, 0, none⟩), .pointer (some ⟨p, 0, none⟩), .slice A 128 c] :: own 5 1 (.slice A 128 c) 128 (bytes S) :: F) := by
  obtain ⟨v, H⟩ := H.open_ex
  have H := H.open_all
  obtain ⟨A, c, rfl, -, -, -⟩ := Sat.own_form (SatS.tail H)
  exact ⟨A, c, H⟩
theorem Sat.sto_shut {w : World} {s d p : Nat} {S : List Int} {F : List HP} {v : Value} (H : Sat w (row s 148 #[.pointer (some ⟨d, 0, none⟩), .pointer (some ⟨p, 0, none⟩), v] :: own 5 1 v 128 (bytes S) :: F)) : Sat w (sto s d p S :: F) :=
  Sat.shut_ex (f := fun v => all [row s 148 #[.pointer (some ⟨d, 0, none⟩), .pointer (some ⟨p, 0, none⟩), v], own 5 1 v 128 (bytes S)]) v (Sat.shut_all (L := [_, _]) H)
theorem Sat.sto_len {w : World} {s d p : Nat} {S : List Int} {F : List HP} (H : Sat w (sto s d p S :: F)) : S.length = 128 := by
  obtain ⟨A, c, H1⟩ := H.sto_open
  have := (Sat.own_at (SatS.tail H1)).1.1
  simpa [bytes] using this

theorem bytes_atP {xs : List Int} {i : Nat} (h : i < xs.length) : (bytes xs)[i]? = some (.int .u8 (xs.getD i 0)) := by simp [bytes, h]
def bitS (S : List Int) (n : Nat) : Bool := bits .and .u8 (S.getD (5 + n / 8) 0 / 2 ^ (n % 8)) 1 == 1
set_option maxHeartbeats 8000000 in
set_option maxRecDepth 100000 in
theorem put_bit {w : World} {s d p : Nat} {S : List Int} {F : List HP} (n : Nat) (H : Sat w (sto s d p S :: F)) (hn : n < 512) (hS : InB S) :
    Calls Try.prog 96 #[.pointer (some ⟨s, 0, none⟩), .int .i64 n] w fun e w' => e = .returned (.bool (bitS S n)) ∧ w = w' := by
  have hlen := H.sto_len
  obtain ⟨A, c, H1⟩ := H.sto_open
  have H2 := H1.b1
  obtain ⟨b, c', hA, -⟩ := H2.own_addr (by omega)
  injection hA with hA _ hc
  subst hA; subst hc
  have hcell := H2.own_cell (5 + n / 8) _ (bytes_atP (by omega))
  have hxb : 0 ≤ S.getD (5 + n / 8) 0 ∧ S.getD (5 + n / 8) 0 ≤ 255 := by
    rw [List.getD_eq_getElem?_getD, List.getElem?_eq_getElem (by omega)]; exact hS _ (List.getElem_mem _)
  have hb : bitS S n = (bits .and .u8 (S.getD (5 + n / 8) 0 / 2 ^ (n % 8)) 1 == 1) := rfl
  rw [hb]
  generalize S.getD (5 + n / 8) 0 = x at *
  have x2 := H1.cell 2
  clear hb hlen H hS
  go_enter Try.func96, Try.ntmps96
  go_wp2_with fail
  go_ret
  exact ⟨rfl, rfl⟩

set_option maxHeartbeats 8000000 in
set_option maxRecDepth 100000 in
theorem puts_bit {w : World} {s d p : Nat} {S : List Int} {F : List HP} (n : Nat) (H : Sat w (sto s d p S :: F)) (hn : n < 512) (hS : InB S) :
    Calls Try.prog 108 #[.pointer (some ⟨s, 0, none⟩), .int .i64 n] w fun e w' => e = .returned (.tuple #[]) ∧ Sat w' (sto s d p (S.set (5 + n / 8) (bits .or .u8 (S.getD (5 + n / 8) 0) (2 ^ (n % 8)))) :: F) ∧ Env w w' := by
  have hlen := H.sto_len
  obtain ⟨A, c, H1⟩ := H.sto_open
  have H2 := H1.b1
  obtain ⟨b, c', hA, -⟩ := H2.own_addr (by omega)
  injection hA with hA _ hc
  subst hA; subst hc
  have hcell : w.drew.cell? ⟨b, 5 + n / 8, none⟩ = some (.int .u8 (S.getD (5 + n / 8) 0)) := by
    have := H2.own_cell (5 + n / 8) _ (bytes_atP (by omega))
    exact this
  have hxb : 0 ≤ S.getD (5 + n / 8) 0 ∧ S.getD (5 + n / 8) 0 ≤ 255 := by
    rw [List.getD_eq_getElem?_getD, List.getElem?_eq_getElem (by omega)]; exact hS _ (List.getElem_mem _)
  obtain ⟨x, hx⟩ : ∃ x, S.getD (5 + n / 8) 0 = x := ⟨_, rfl⟩
  rw [hx] at hcell hxb
  rw [hx]
  have x2 : w.drew.cell? ⟨s, 2, none⟩ = some (.slice (some ⟨b, 0, none⟩) 128 c) := H1.cell 2
  have y := And.intro x2 hcell
  obtain ⟨m, hm⟩ : ∃ m, n / 8 = m := ⟨_, rfl⟩
  obtain ⟨j, hj⟩ : ∃ j, n % 8 = j := ⟨_, rfl⟩
  obtain ⟨i, hi⟩ : ∃ i, 5 + n / 8 = i := ⟨_, rfl⟩
  have hw1 : IntKind.i64.wrap ((n : Int) / 8) = (m : Int) := by rw [IntWalk.i64_in _ (by omega)]; omega
  have hw2 : IntKind.i64.wrap (5 + (m : Int)) = (i : Int) := by rw [IntWalk.i64_in _ (by omega)]; omega
  have hw3 : (n : Int).tmod 8 = (j : Int) := by rw [Int.tmod_eq_emod_of_nonneg (by omega)]; omega
  have hib : i < 128 := by omega
  have hib' : (i : Int) < 128 := by omega
  have hjb' : (j : Int) < 8 := by omega
  have hjb : j < 8 := by omega
  rw [hi] at hcell y hx
  have HI := Lib.hid (And.intro hi hj)
  rw [hi, hj]
  clear hlen H hS hi hj hm hcell x2
  go_enter Try.func108, Try.ntmps108
  go_upto_region 0 with fail
  refine region_aside2 (fun w' => w'.cell? ⟨s, 2, none⟩ = some (.slice (some ⟨b, 0, none⟩) 128 c) ∧ w'.cell? ⟨b, i, none⟩ = some (.int .u8 x)) 14 _ (by kernel_rfl) rfl rfl rfl (by kernel_rfl) (by kernel_rfl) y (fun hHeld => ?_)
  simp only [setAside, List.setIfInBounds_toArray, List.set_cons_zero, List.set_cons_succ]
  refine' wpAnyH_take (i := 0) (oi := _) (v := _) rfl (by kernel_rfl) (by kernel_rfl) (by kernel_rfl) (fun _ _ _ h => h) (Or.inl ⟨by rfl, ?hy0x1⟩) hHeld ?rest0x1
  case hy0x1 => (intro w' hSw; (try dsimp only at hSw); go_simp; try with_reducible rfl)
  simp only [List.getElem_toArray, List.getElem_cons_zero, List.getElem_cons_succ, Act.put, List.setIfInBounds_toArray, List.set_cons_zero, List.set_cons_succ]
  refine' wpAnyH_take (i := 1) (oi := _) (v := _) rfl (by kernel_rfl) (by kernel_rfl) (by kernel_rfl) (fun _ _ _ h => h) (Or.inl ⟨by rfl, ?hy1x2⟩) hHeld ?rest1x2
  case hy1x2 => (intro w' hSw; (try dsimp only at hSw); go_simp; try with_reducible rfl)
  simp only [List.getElem_toArray, List.getElem_cons_zero, List.getElem_cons_succ, Act.put, List.setIfInBounds_toArray, List.set_cons_zero, List.set_cons_succ]
  refine' wpAnyH_take (i := 2) (oi := _) (v := _) rfl (by kernel_rfl) (by kernel_rfl) (by kernel_rfl) (fun _ _ _ h => h) (Or.inl ⟨by rfl, ?hy2x3⟩) hHeld ?rest2x3
  case hy2x3 => (intro w' hSw; (try dsimp only at hSw); go_simp; try with_reducible rfl)
  simp only [List.getElem_toArray, List.getElem_cons_zero, List.getElem_cons_succ, Act.put, List.setIfInBounds_toArray, List.set_cons_zero, List.set_cons_succ]
  refine' wpAnyH_take (i := 3) (oi := _) (v := _) rfl (by kernel_rfl) (by kernel_rfl) (by kernel_rfl) (fun _ _ _ h => h) (Or.inl ⟨by rfl, ?hy3x4⟩) hHeld ?rest3x4
  case hy3x4 => (intro w' hSw; (try dsimp only at hSw); go_simp; try with_reducible rfl)
  simp only [List.getElem_toArray, List.getElem_cons_zero, List.getElem_cons_succ, Act.put, List.setIfInBounds_toArray, List.set_cons_zero, List.set_cons_succ]
  refine' wpAnyH_take (i := 4) (oi := _) (v := _) rfl (by kernel_rfl) (by kernel_rfl) (by kernel_rfl) (fun _ _ _ h => h) (Or.inl ⟨by rfl, ?hy4x5⟩) hHeld ?rest4x5
  case hy4x5 => (intro w' hSw; (try dsimp only at hSw); go_simp; try with_reducible rfl)
  simp only [List.getElem_toArray, List.getElem_cons_zero, List.getElem_cons_succ, Act.put, List.setIfInBounds_toArray, List.set_cons_zero, List.set_cons_succ]
  refine' wpAnyH_take (i := 5) (oi := _) (v := _) rfl (by kernel_rfl) (by kernel_rfl) (by kernel_rfl) (fun _ _ _ h => h) (Or.inl ⟨by rfl, ?hy5x6⟩) hHeld ?rest5x6
  case hy5x6 => (intro w' hSw; (try dsimp only at hSw); go_simp; try with_reducible rfl)
  simp only [List.getElem_toArray, List.getElem_cons_zero, List.getElem_cons_succ, Act.put, List.setIfInBounds_toArray, List.set_cons_zero, List.set_cons_succ]
  refine' wpAnyH_take (i := 6) (oi := _) (v := _) rfl (by kernel_rfl) (by kernel_rfl) (by kernel_rfl) (fun _ _ _ h => h) (Or.inl ⟨by rfl, ?hy6x7⟩) hHeld ?rest6x7
  case hy6x7 => (intro w' hSw; (try dsimp only at hSw); go_simp; try with_reducible rfl)
  simp only [List.getElem_toArray, List.getElem_cons_zero, List.getElem_cons_succ, Act.put, List.setIfInBounds_toArray, List.set_cons_zero, List.set_cons_succ]
  refine' wpAnyH_take (i := 7) (oi := _) (v := _) rfl (by kernel_rfl) (by kernel_rfl) (by kernel_rfl) (fun _ _ _ h => h) (Or.inl ⟨by rfl, ?hy7x8⟩) hHeld ?rest7x8
  case hy7x8 => (intro w' hSw; (try dsimp only at hSw); go_simp; try with_reducible rfl)
  simp only [List.getElem_toArray, List.getElem_cons_zero, List.getElem_cons_succ, Act.put, List.setIfInBounds_toArray, List.set_cons_zero, List.set_cons_succ]
  refine' wpAnyH_take (i := 8) (oi := _) (v := _) rfl (by kernel_rfl) (by kernel_rfl) (by kernel_rfl) (fun _ _ _ h => h) (Or.inl ⟨by rfl, ?hy8x9⟩) hHeld ?rest8x9
  case hy8x9 => (intro w' hSw; (try dsimp only at hSw); go_simp; try with_reducible rfl)
  simp only [List.getElem_toArray, List.getElem_cons_zero, List.getElem_cons_succ, Act.put, List.setIfInBounds_toArray, List.set_cons_zero, List.set_cons_succ]
  refine' wpAnyH_take (i := 9) (oi := _) (v := _) rfl (by kernel_rfl) (by kernel_rfl) (by kernel_rfl) (fun _ _ _ h => h) (Or.inl ⟨by rfl, ?hy9x10⟩) hHeld ?rest9x10
  case hy9x10 => (intro w' hSw; (try dsimp only at hSw); go_simp; try with_reducible rfl)
  simp only [List.getElem_toArray, List.getElem_cons_zero, List.getElem_cons_succ, Act.put, List.setIfInBounds_toArray, List.set_cons_zero, List.set_cons_succ]
  refine' wpAnyH_take (i := 10) (oi := _) (v := _) rfl (by kernel_rfl) (by kernel_rfl) (by kernel_rfl) (fun _ _ _ h => h) (Or.inl ⟨by rfl, ?hy10x11⟩) hHeld ?rest10x11
  case hy10x11 => (intro w' hSw; (try dsimp only at hSw); go_simp; try with_reducible rfl)
  simp only [List.getElem_toArray, List.getElem_cons_zero, List.getElem_cons_succ, Act.put, List.setIfInBounds_toArray, List.set_cons_zero, List.set_cons_succ]
  refine' wpAnyH_take (i := 11) (oi := _) (v := _) rfl (by kernel_rfl) (by kernel_rfl) (by kernel_rfl) (fun _ _ _ h => h) (Or.inl ⟨by rfl, ?hy11x12⟩) hHeld ?rest11x12
  case hy11x12 => (intro w' hSw; (try dsimp only at hSw); go_simp; try with_reducible rfl)
  simp only [List.getElem_toArray, List.getElem_cons_zero, List.getElem_cons_succ, Act.put, List.setIfInBounds_toArray, List.set_cons_zero, List.set_cons_succ]
  refine' wpAnyH_take (i := 12) (oi := _) (v := _) rfl (by kernel_rfl) (by kernel_rfl) (by kernel_rfl) (fun _ _ _ h => h) (Or.inl ⟨by rfl, ?hy12x13⟩) hHeld ?rest12x13
  case hy12x13 => (intro w' hSw; (try dsimp only at hSw); go_simp; try with_reducible rfl)
  simp only [List.getElem_toArray, List.getElem_cons_zero, List.getElem_cons_succ, Act.put, List.setIfInBounds_toArray, List.set_cons_zero, List.set_cons_succ]
  refine' wpAnyH_take (i := 13) (oi := _) (v := _) rfl (by kernel_rfl) (by kernel_rfl) (by kernel_rfl) (fun _ _ _ h => h) (Or.inl ⟨by rfl, ?hy13x14⟩) hHeld ?rest13x14
  case hy13x14 => (intro w' hSw; (try dsimp only at hSw); go_simp; try with_reducible rfl)
  simp only [List.getElem_toArray, List.getElem_cons_zero, List.getElem_cons_succ, Act.put, List.setIfInBounds_toArray, List.set_cons_zero, List.set_cons_succ]
  refine' wpAnyH_take (i := 14) (oi := _) (v := _) rfl (by kernel_rfl) (by kernel_rfl) (by kernel_rfl) (fun _ _ _ h => h) (Or.inl ⟨by rfl, ?hy14x15⟩) hHeld ?rest14x15
  case hy14x15 => (intro w' hSw; (try dsimp only at hSw); go_simp; try with_reducible rfl)
  try simp only [List.getElem_toArray, List.getElem_cons_zero, List.getElem_cons_succ, Act.put, List.setIfInBounds_toArray, List.set_cons_zero, List.set_cons_succ]
  refine wpAnyH_done (by kernel_rfl) ?_ _
  show Oper.wp _ _ _ _ _ _
  have hwj : IntKind.u8.wrap (2 ^ j) = 2 ^ j := by
    have h : j = 0 ∨ j = 1 ∨ j = 2 ∨ j = 3 ∨ j = 4 ∨ j = 5 ∨ j = 6 ∨ j = 7 := by omega
    rcases h with rfl | rfl | rfl | rfl | rfl | rfl | rfl | rfl <;> decide
  rw [hwj]
  obtain ⟨z, hz⟩ : ∃ z, bits .or .u8 x (2 ^ j) = z := ⟨_, rfl⟩
  rw [hz]
  have c0 := y.2
  have f0 := H2.drew.own_free (by omega) i
  have H3 := H2.drew.own_set (i := i) (by omega) (.int .u8 z)
  have E3 := (Env.refl w).drew.set ⟨b, i, none⟩ (.int .u8 z)
  rw [show (bytes S).set i (.int .u8 z) = bytes (S.set i z) by rw [bytes, bytes, List.map_set]] at H3
  go_simp
  go_end0
  exact ⟨rfl, H3.b1.sto_shut, E3⟩

theorem or_bits : ∀ x : Fin 256, ∀ j k : Fin 8, (bits .and .u8 (bits .or .u8 (x.val : Int) (2 ^ j.val) / 2 ^ k.val) 1 == 1) = (decide (j = k) || bits .and .u8 ((x.val : Int) / 2 ^ k.val) 1 == 1) ∧ 0 ≤ bits .or .u8 (x.val : Int) (2 ^ j.val) ∧ bits .or .u8 (x.val : Int) (2 ^ j.val) ≤ 255 :=
  of_decide_eq_true (by kernel_rfl)
/-- A seal that says of one page more that it was put. -/
def setB (S : List Int) (n : Nat) : List Int := S.set (5 + n / 8) (bits .or .u8 (S.getD (5 + n / 8) 0) (2 ^ (n % 8)))
theorem setB_len (S : List Int) (n : Nat) : (setB S n).length = S.length := by simp [setB]
theorem getD_in {S : List Int} (h : InB S) (i : Nat) : 0 ≤ S.getD i 0 ∧ S.getD i 0 ≤ 255 := by
  rw [List.getD_eq_getElem?_getD]
  cases hx : S[i]? with
  | none => simp
  | some x => exact h x (List.mem_of_getElem? hx)
theorem or_bits' {x : Int} (hx : 0 ≤ x ∧ x ≤ 255) {j k : Nat} (hj : j < 8) (hk : k < 8) : (bits .and .u8 (bits .or .u8 x (2 ^ j) / 2 ^ k) 1 == 1) = (decide (j = k) || bits .and .u8 (x / 2 ^ k) 1 == 1) ∧ 0 ≤ bits .or .u8 x (2 ^ j) ∧ bits .or .u8 x (2 ^ j) ≤ 255 := by
  obtain ⟨m, rfl⟩ := Int.eq_ofNat_of_zero_le hx.1
  have := or_bits ⟨m, by omega⟩ ⟨j, hj⟩ ⟨k, hk⟩
  simpa [Fin.mk.injEq] using this
theorem setB_in {S : List Int} (h : InB S) (n : Nat) : InB (setB S n) := fun x hx => by
  rcases List.mem_or_eq_of_mem_set hx with h1 | rfl
  · exact h x h1
  · exact (or_bits' (getD_in h _) (Nat.mod_lt _ (by omega)) (k := 0) (by omega)).2
theorem setB_get (S : List Int) (n i : Nat) (hl : S.length = 128) (hn : n < 512) : (setB S n).getD i 0 = if i = 5 + n / 8 then bits .or .u8 (S.getD (5 + n / 8) 0) (2 ^ (n % 8)) else S.getD i 0 := by
  unfold setB
  simp only [List.getD_eq_getElem?_getD, List.getElem?_set]
  by_cases h : i = 5 + n / 8
  · subst h
    rw [if_pos rfl, if_pos rfl, if_pos (by omega)]; rfl
  · rw [if_neg (Ne.symm h), if_neg h]
theorem bitS_set {S : List Int} (h : InB S) (hl : S.length = 128) {n m : Nat} (hn : n < 512) : bitS (setB S n) m = (decide (n = m) || bitS S m) := by
  unfold bitS
  rw [setB_get S n _ hl hn]
  by_cases h1 : 5 + m / 8 = 5 + n / 8
  · rw [if_pos h1, (or_bits' (getD_in h _) (Nat.mod_lt _ (by omega)) (Nat.mod_lt _ (by omega))).1, ← h1]
    congr 1
    apply Bool.eq_iff_iff.2
    simp only [decide_eq_true_eq]
    omega
  · rw [if_neg h1]
    have : decide (n = m) = false := decide_eq_false (by rintro rfl; exact h1 rfl)
    rw [this, Bool.false_or]
end Go.Proofs.Ythbabdjicplooaa
