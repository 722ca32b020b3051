/- deponentlaw16.small and lanes, and the books' Roomy, Same and Intact over lanes. Conditions: fewer than 2^32 lanes. -/
import Derived.Test.YtcgpmenknloagaaFairLawA
import Derived.Test.YtcgpmenknloagaaCopy
import Derived.Test.YtcgpmenknloagaaMake
import Derived.Deep.RegionHeld3
import Derived.Deep.RegionHeldLaw
namespace Go.Proofs.Ytcgpmenknloagaa
open Go.RowKit

theorem neLane (a b c a' b' c' : Int) (w : World) : (binOp .neq 63 (.agg #[.int .i64 a, .int .i64 b, .int .i64 c]) (.agg #[.int .i64 a', .int .i64 b', .int .i64 c'])).run Try.prog w = .ok (.bool (!(a == a' && b == b' && c == c'))) w := by
  have u3 := Try.underlying3
  have a3 := Try.isAgg3
  have z3 := Try.sizeOf3
  have hS : Try.prog.underlying 63 = some (.struct (Try.prog.fieldsOf 63)) := by kernel_rfl
  have hp : Try.prog.stoodInHeld 63 = false := by kernel_rfl
  rw [run_neq_struct, show (10000 : Nat) = 9999 + 1 from rfl, run_equalIn_agg w 9999 63 _ _ hS hp]
  simp only [Program.fieldsOf, Try.underlying63]
  go_simp
  by_cases h1 : a = a' <;> by_cases h2 : b = b' <;> by_cases h3 : c = c' <;> simp [h1, h2, h3]

theorem Try.info_rlane : (Try.prog.info? 73).map (fun i => (i.zero, i.size, i.bytes)) = some (some (.agg #[.int .i64 0, .int .i64 0, .int .i64 0]), 3, 24) := by kernel_rfl
def smallLane (x : Lane) : Lane := (x.1.tmod 10, x.2.1.tmod 1000, x.2.2.tmod 100)
def smallL (l : List Lane) : List Lane := (l.take 20).map smallLane
theorem tmod_range (a : Int) {m : Int} (h : 0 < m) : -m < a.tmod m ∧ a.tmod m < m :=
  ⟨Int.neg_lt_of_neg_lt (by have := Int.tmod_lt_of_pos (-a) h; rwa [Int.neg_tmod] at this), Int.tmod_lt_of_pos a h⟩
theorem smallL_small (l : List Lane) : Small (smallL l) := by
  intro x hx
  simp only [smallL, List.mem_map] at hx
  obtain ⟨y, _, rfl⟩ := hx
  have h1 := tmod_range y.1 (m := 10) (by omega)
  have h2 := tmod_range y.2.1 (m := 1000) (by omega)
  have h3 := tmod_range y.2.2 (m := 100) (by omega)
  simp only [smallLane]
  omega

theorem rd3_at {w : World} {A : Option Addr} {n : Nat} {l : List Lane} (h : Rd w 3 A n (flatL l)) (hn : 0 < n) : ∃ b off, A = some ⟨b, off, none⟩ := by
  have h1 := h.1
  rw [flatL_len] at h1
  obtain ⟨b, off, h2, _⟩ := h.2 _ _ (flatL_get l 0 (by omega)).1
  exact ⟨b, off, h2⟩
theorem rd3 {w : World} {b off n : Nat} {l : List Lane} (h : Rd w 3 (some ⟨b, off, none⟩) n (flatL l)) {k : Nat} {p r s : Int} (hk : k < l.length) (hl : l[k] = (p, r, s)) :
    w.cell? ⟨b, off + k * 3, none⟩ = some (.int .i64 p) ∧ w.cell? ⟨b, off + k * 3 + 1, none⟩ = some (.int .i64 r) ∧ w.cell? ⟨b, off + k * 3 + 2, none⟩ = some (.int .i64 s) := by
  have hg := flatL_get l k hk
  rw [hl] at hg
  obtain ⟨b1, off1, h1, x1⟩ := h.2 _ _ hg.1
  cases h1
  obtain ⟨b1, off1, h1, x2⟩ := h.2 _ _ hg.2.1
  cases h1
  obtain ⟨b1, off1, h1, x3⟩ := h.2 _ _ hg.2.2
  cases h1
  exact ⟨x1, by rw [Nat.add_assoc]; exact x2, by rw [Nat.add_assoc]; exact x3⟩

set_option maxHeartbeats 4000000 in
set_option maxRecDepth 100000 in
theorem small_any {w : World} {F : List HP} (A : Option Addr) (n c : Nat) (l : List Lane) (H : Sat w F) (hr : Reads F 3 A n (flatL l)) :
    Calls Try.prog 35 #[.slice A n c] w fun e w' => ∃ v, e = .returned v ∧ Sat w' (own 63 3 v (min n 20) (flatL (smallL l)) :: F) ∧ Env w w' := by
  have HN := Lib.hid (show n = l.length by have := (hr w H).1; rw [flatL_len] at this; omega)
  have HR := Lib.hid hr
  clear hr
  go_enter Try.func35, Try.ntmps35
  go_wp2_with fail
  go_loopw [3, 4] (fun v i wr => ∃ k : Nat, k ≤ n ∧ k ≤ 20 ∧ i = .int .i64 k ∧ Sat wr (own 63 3 v k (flatL (smallL (l.take k))) :: F) ∧ Env w wr) (fun _ i _ => 20 - (intOf i).toNat)
  case atStart => exact ⟨0, by omega, by omega, rfl, H.own_nil _ _, Env.refl w⟩
  case round =>
    obtain ⟨k, hk, hk2, rfl, H1, E1⟩ := hrel
    obtain ⟨A1, c1, rfl, -, -, -⟩ := H1.own_form
    by_cases hlt : k < n
    · by_cases hlt2 : k < 20
      · have hkl : k < l.length := by have := HN.out; omega
        obtain ⟨b, off, rfl⟩ := rd3_at (HR.out wr H1.tail) (by omega)
        have hnx : smallL (l.take (k + 1)) = smallL (l.take k) ++ [smallLane l[k]] := by
          unfold smallL
          rw [List.take_take, List.take_take, show min 20 (k + 1) = k + 1 by omega, show min 20 k = k by omega, List.take_succ_eq_append_getElem hkl, List.map_append]; rfl
        have HNX := Lib.hid hnx
        clear hnx
        generalize hlk : l[k] = lk at HNX
        obtain ⟨p, r, s⟩ := lk
        have HLK := Lib.hid hlk
        clear hlk
        obtain ⟨x1, x2, x3⟩ := rd3 (HR.out wr H1.tail) hkl HLK.out
        obtain ⟨p', e1⟩ : ∃ p', p.tmod 10 = p' := ⟨_, rfl⟩
        obtain ⟨r', e2⟩ : ∃ r', r.tmod 1000 = r' := ⟨_, rfl⟩
        obtain ⟨s', e3⟩ : ∃ s', s.tmod 100 = s' := ⟨_, rfl⟩
        have HSL := Lib.hid (show smallLane (p, r, s) = (p', r', s') by simp only [smallLane, e1, e2, e3])
        go_wp2_with fail
        go_region_held_law (fun w' => w'.cell? ⟨b, off + k * 3, none⟩ = some (.int .i64 p) ∧ w'.cell? ⟨b, off + k * 3 + 1, none⟩ = some (.int .i64 r) ∧ w'.cell? ⟨b, off + k * 3 + 2, none⟩ = some (.int .i64 s)) (first | exact ⟨x1, x2, x3⟩ | exact ⟨cell_alloc _ _ _ x1, cell_alloc _ _ _ x2, cell_alloc _ _ _ x3⟩ | exact rd3 (HR.out w5 H5.tail) hkl HLK.out) (first | (refine step_append_sat rfl (.tmp 15) (.tmp 35) 59 rfl (H1.alloc' _).drew rfl _ 24 Try.underlying59 Try.info_lane rfl (by omega) _ _ _ [.int .i64 p', .int .i64 r', .int .i64 s'] rfl (fun h => by cases h) rfl (lit_src wr _ _ _ rfl) (by simp [Value.oneCell']) (by simp only [maxLen]; omega) (by omega) ?_; intro v5 w5 H5 E5))
        replace H5 : Sat w5 (own 63 3 v5 (k + 1) (flatL (smallL (l.take (k + 1)))) :: F) := by rw [HNX.out, HSL.out, flatL_append]; exact H5
        obtain ⟨A5, c5, rfl, -, -, -⟩ := H5.own_form
        have E6 := (E1.alloc _).drew.trans E5
        go_wp2_with fail
        go_roundw
        case rel => exact ⟨k + 1, by omega, by omega, by go_num, H5, E6⟩
        case measure => simp [intOf]; omega
      · obtain rfl : k = 20 := by omega
        go_wp2_with fail
        go_ret
        rw [show min n 20 = 20 by omega]
        have : smallL (l.take 20) = smallL l := by unfold smallL; rw [List.take_take]; rfl
        exact ⟨_, rfl, this ▸ H1, E1⟩
    · obtain rfl : k = n := by omega
      go_wp2_with fail
      go_ret
      rw [Nat.min_eq_left hk2]
      have : smallL (l.take k) = smallL l := by rw [List.take_of_length_le (by have := HN.out; omega)]
      exact ⟨_, rfl, this ▸ H1, E1⟩
set_option maxHeartbeats 4000000 in
set_option maxRecDepth 100000 in
theorem lanes_any {w : World} {F : List HP} (A : Option Addr) (n c : Nat) (l : List Lane) (H : Sat w F) (hr : Reads F 3 A n (flatL l)) (hsz : n < 4294967296) :
    Calls Try.prog 38 #[.slice A n c] w fun e w' => ∃ v, e = .returned v ∧ Sat w' (own 73 3 v n (flatL l) :: F) ∧ Env w w' := by
  have HN := Lib.hid (show n = l.length by have := (hr w H).1; rw [flatL_len] at this; omega)
  have HR := Lib.hid hr
  clear hr
  go_enter Try.func38, Try.ntmps38
  go_wp2_with fail
  go_loopw [3, 4] (fun v i wr => ∃ k : Nat, k ≤ n ∧ i = .int .i64 k ∧ Sat wr (own 73 3 v k (flatL (l.take k)) :: F) ∧ Env w wr) (fun _ i _ => n - (intOf i).toNat)
  case atStart => exact ⟨0, by omega, rfl, H.own_nil _ _, Env.refl w⟩
  case round =>
    obtain ⟨k, hk, rfl, H1, E1⟩ := hrel
    obtain ⟨A1, c1, rfl, -, -, -⟩ := H1.own_form
    by_cases hlt : k < n
    · have hkl : k < l.length := by have := HN.out; omega
      obtain ⟨b, off, rfl⟩ := rd3_at (HR.out wr H1.tail) (by omega)
      have hnx : l.take (k + 1) = l.take k ++ [l[k]] := List.take_succ_eq_append_getElem hkl
      have HNX := Lib.hid hnx
      clear hnx
      generalize hlk : l[k] = lk at HNX
      obtain ⟨p, r, s⟩ := lk
      have HLK := Lib.hid hlk
      clear hlk
      obtain ⟨x1, x2, x3⟩ := rd3 (HR.out wr H1.tail) hkl HLK.out
      go_wp2_with fail
      go_region_held_law (fun w' => w'.cell? ⟨b, off + k * 3, none⟩ = some (.int .i64 p) ∧ w'.cell? ⟨b, off + k * 3 + 1, none⟩ = some (.int .i64 r) ∧ w'.cell? ⟨b, off + k * 3 + 2, none⟩ = some (.int .i64 s)) (first | exact ⟨x1, x2, x3⟩ | exact ⟨cell_alloc _ _ _ x1, cell_alloc _ _ _ x2, cell_alloc _ _ _ x3⟩ | exact rd3 (HR.out w5 H5.tail) hkl HLK.out) (first | (refine step_append_sat rfl (.tmp 11) (.tmp 28) 68 rfl (H1.alloc' _).drew rfl _ 24 Try.underlying68 Try.info_rlane rfl (by omega) _ _ _ [.int .i64 p, .int .i64 r, .int .i64 s] rfl (fun h => by cases h) rfl (lit_src wr _ _ _ rfl) (by simp [Value.oneCell']) (by simp only [maxLen]; omega) (by omega) ?_; intro v5 w5 H5 E5))
      replace H5 : Sat w5 (own 73 3 v5 (k + 1) (flatL (l.take (k + 1))) :: F) := by rw [HNX.out, flatL_append]; exact H5
      obtain ⟨A5, c5, rfl, -, -, -⟩ := H5.own_form
      have E6 := (E1.alloc _).drew.trans E5
      go_wp2_with fail
      go_roundw
      case rel => exact ⟨k + 1, by omega, by go_num, H5, E6⟩
      case measure => simp [intOf]; omega
    · obtain rfl : k = n := by omega
      go_wp2_with fail
      go_ret
      have : l.take k = l := List.take_of_length_le (by have := HN.out; omega)
      exact ⟨_, rfl, this ▸ H1, E1⟩

end Go.Proofs.Ytcgpmenknloagaa
