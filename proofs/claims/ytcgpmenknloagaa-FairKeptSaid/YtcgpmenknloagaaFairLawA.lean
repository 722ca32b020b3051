/- fair.Wait, '==' between turns and between lanes, and chapter 16's runs. Conditions: none. -/
import Derived.Test.YtcgpmenknloagaaFairHit
import Derived.Laws.StructEq
namespace Go.Proofs.Ytcgpmenknloagaa
open Go.RowKit

def waits (ahead weight quantum lanes : Int) : Int :=
  ((min (max ahead 0) 1048576 + 1) + min (max weight 1) 4 * min (max quantum 1) 2 - 1) / (min (max weight 1) 4 * min (max quantum 1) 2) * min (max lanes 1) 1048576

theorem eqTurn (a b c a' b' c' : Int) (w : World) : (binOp .eql 58 (.agg #[.int .i64 a, .int .i64 b, .int .i64 c]) (.agg #[.int .i64 a', .int .i64 b', .int .i64 c'])).run Try.prog w = .ok (.bool (a == a' && b == b' && c == c')) w := by
  have u3 := Try.underlying3
  have a3 := Try.isAgg3
  have z3 := Try.sizeOf3
  have hS : Try.prog.underlying 58 = some (.struct (Try.prog.fieldsOf 58)) := by kernel_rfl
  have hp : Try.prog.stoodInHeld 58 = false := by kernel_rfl
  rw [run_eql_struct, show (10000 : Nat) = 9999 + 1 from rfl, run_equalIn_agg w 9999 58 _ _ hS hp]
  simp only [Program.fieldsOf, Try.underlying58]
  go_simp
  by_cases h1 : a = a' <;> by_cases h2 : b = b' <;> by_cases h3 : c = c' <;> simp [h1, h2, h3]
theorem eqLane (a b c a' b' c' : Int) (w : World) : (binOp .eql 63 (.agg #[.int .i64 a, .int .i64 b, .int .i64 c]) (.agg #[.int .i64 a', .int .i64 b', .int .i64 c'])).run Try.prog w = .ok (.bool (a == a' && b == b' && c == c')) w := by
  have u3 := Try.underlying3
  have a3 := Try.isAgg3
  have z3 := Try.sizeOf3
  have hS : Try.prog.underlying 63 = some (.struct (Try.prog.fieldsOf 63)) := by kernel_rfl
  have hp : Try.prog.stoodInHeld 63 = false := by kernel_rfl
  rw [run_eql_struct, show (10000 : Nat) = 9999 + 1 from rfl, run_equalIn_agg w 9999 63 _ _ hS hp]
  simp only [Program.fieldsOf, Try.underlying63]
  go_simp
  by_cases h1 : a = a' <;> by_cases h2 : b = b' <;> by_cases h3 : c = c' <;> simp [h1, h2, h3]

set_option maxHeartbeats 1000000 in
theorem wait_any (a wt q n : Int) (w : World) :
    Calls Try.prog 33 #[.int .i64 a, .int .i64 wt, .int .i64 q, .int .i64 n] w fun e w' => e = .returned (.int .i64 (waits a wt q n)) ∧ w = w' := by
  obtain ⟨A1, e1, r1⟩ : ∃ A1 : Int, (if a < 0 then (0 : Int) else a) = A1 ∧ A1 = max a 0 := ⟨_, rfl, by split <;> omega⟩
  obtain ⟨A2, e2, r2⟩ : ∃ A2 : Int, (if 1048576 < A1 then (1048576 : Int) else A1) = A2 ∧ A2 = min A1 1048576 := ⟨_, rfl, by split <;> omega⟩
  obtain ⟨W1, e3, r3⟩ : ∃ W1 : Int, (if wt < 1 then (1 : Int) else wt) = W1 ∧ W1 = max wt 1 := ⟨_, rfl, by split <;> omega⟩
  obtain ⟨W2, e4, r4⟩ : ∃ W2 : Int, (if 4 < W1 then (4 : Int) else W1) = W2 ∧ W2 = min W1 4 := ⟨_, rfl, by split <;> omega⟩
  obtain ⟨Q1, e5, r5⟩ : ∃ Q1 : Int, (if q < 1 then (1 : Int) else q) = Q1 ∧ Q1 = max q 1 := ⟨_, rfl, by split <;> omega⟩
  obtain ⟨Q2, e6, r6⟩ : ∃ Q2 : Int, (if 2 < Q1 then (2 : Int) else Q1) = Q2 ∧ Q2 = min Q1 2 := ⟨_, rfl, by split <;> omega⟩
  obtain ⟨N1, e7, r7⟩ : ∃ N1 : Int, (if n < 1 then (1 : Int) else n) = N1 ∧ N1 = max n 1 := ⟨_, rfl, by split <;> omega⟩
  obtain ⟨N2, e8, r8⟩ : ∃ N2 : Int, (if 1048576 < N1 then (1048576 : Int) else N1) = N2 ∧ N2 = min N1 1048576 := ⟨_, rfl, by split <;> omega⟩
  obtain ⟨G, e9, r9⟩ : ∃ G : Int, W2 * Q2 = G ∧ G = W2 * Q2 := ⟨_, rfl, rfl⟩
  have hG : 1 ≤ G ∧ G ≤ 8 := by
    have h1 : W2 = 1 ∨ W2 = 2 ∨ W2 = 3 ∨ W2 = 4 := by omega
    have h2 : Q2 = 1 ∨ Q2 = 2 := by omega
    rcases h1 with h | h | h | h <;> rcases h2 with h' | h' <;> rw [r9, h, h'] <;> omega
  have hA : 0 ≤ A2 ∧ A2 ≤ 1048576 := by omega
  have hN : 1 ≤ N2 ∧ N2 ≤ 1048576 := by omega
  obtain ⟨D, e10, r10⟩ : ∃ D : Int, (A2 + 1 + G - 1) / G = D ∧ D = (A2 + 1 + G - 1) / G := ⟨_, rfl, rfl⟩
  have hD : 0 ≤ D ∧ D ≤ 1048584 := by
    rw [r10]
    refine ⟨Int.ediv_nonneg (by omega) (by omega), Int.le_trans (Int.ediv_le_self _ (by omega)) (by omega)⟩
  obtain ⟨R, e11, r11⟩ : ∃ R : Int, D * N2 = R ∧ R = D * N2 := ⟨_, rfl, rfl⟩
  have hR : 0 ≤ R ∧ R ≤ 1099522048000 := by
    rw [r11]
    refine ⟨Int.mul_nonneg (by omega) (by omega), ?_⟩
    have := Int.mul_le_mul hD.2 hN.2 (by omega) (by omega)
    omega
  have HW := Lib.hid (show R = waits a wt q n by unfold waits; rw [← r1, ← r3, ← r5, ← r7, ← r2, ← r4, ← r6, ← r8, ← r9, ← r10, ← r11])
  clear r1 r2 r3 r4 r5 r6 r7 r8 r9 r10 r11
  go_enter Try.func33, Try.ntmps33
  go_wp2_with fail
  go_ret
  exact ⟨by rw [← HW.out]; rfl, rfl⟩

def kl : List Lane := [(1, 5, 0), (2, 5, 0)]
theorem kl_small : Small kl := by intro x hx; simp [kl] at hx; rcases hx with rfl | rfl <;> simp
theorem kl_turn : Turns kl (begins 2 0) 0 0 := ⟨by decide, by decide, ⟨by decide, by decide⟩, fun j hj => by omega⟩
theorem waits_k : waits 3 2 1 5 = 10 := by decide

set_option maxHeartbeats 2000000 in
theorem known16 {w : World} {F : List HP} (H : Sat w F) :
    Calls Try.prog 34 #[] w fun e w' => e = .returned (.bool true) ∧ Sat w' F ∧ Env w w' := by
  have hq := eqTurn
  go_enter Try.func34, Try.ntmps34
  go_wp2_with fail
  have H1 := H.own_lit 63 3 #[.int .i64 1, .int .i64 5, .int .i64 0, .int .i64 2, .int .i64 5, .int .i64 0] 2 (by simp [maxLen]) rfl
  have ht : takes 1 (kl[0]'(by decide)) = 1 := by decide
  have hk := waits_k
  refine (serve_hit (F := own 63 3 (.slice (some ⟨w.heap.size, 0, none⟩) 2 2) 2 (flatL kl) :: F) _ 2 2 kl 0 1 H1 (fun w H => H.own_at.1) (by omega) (by omega) kl_small 0 0 rfl (by decide) kl_turn).mono ?_
  rintro e w2 ⟨v, rfl, H2, E2⟩
  obtain ⟨g, cv, rfl, hcv⟩ := H2.own_addr (by omega)
  have hc1 := H2.own_cell 1 (.int .i64 4) (by rfl)
  have hg := block_lt_of_cell hc1
  go_wp2_with (go_at_call 33; refine (wait_any 3 2 1 5 _).mono ?_; rintro e w3 ⟨rfl, rfl⟩)
  go_ret
  exact ⟨rfl, (H2.alloc' _).tail.tail, (((Env.refl w).alloc _).trans E2).alloc _⟩

def fl2 : List Lane := [(1, 5, 0), (2, 5, 0)]
theorem fl2_turn : Turns kl (begins 2 1) 0 1 := ⟨by decide, by decide, ⟨by decide, by decide⟩, fun j hj => by omega⟩
def zl : List Lane := [(0, 0, 0), (0, 0, 0)]

set_option maxHeartbeats 2000000 in
set_option maxRecDepth 100000 in
theorem fairNumbers_any {w : World} {F : List HP} (H : Sat w F) :
    Calls Try.prog 7 #[] w fun e w' => e = .returned (.bool true) ∧ Sat w' F ∧ Env w w' := by
  have hq := eqTurn
  have hql := eqLane
  go_enter Try.func7, Try.ntmps7
  go_wp2_with fail
  have H1 := H.own_lit 63 3 #[.int .i64 1, .int .i64 5, .int .i64 0, .int .i64 2, .int .i64 5, .int .i64 0] 2 (by simp [maxLen]) rfl
  have ht : takes 2 (kl[1]'(by decide)) = 4 := by decide
  have hk : waits (-5) 0 9 0 = 1 := by decide
  have hb1 : begins 0 5 = 0 := by decide
  have hb2 : begins 2 (-1) = 0 := by decide
  have hb3 : begins 2 1 = 1 := by decide
  refine (serve_hit (F := own 63 3 (.slice (some ⟨w.heap.size, 0, none⟩) 2 2) 2 (flatL kl) :: F) _ 2 2 kl 1 2 H1 (fun w H => H.own_at.1) (by omega) (by omega) kl_small 0 1 rfl (by decide) fl2_turn).mono ?_
  rintro e w2 ⟨v, rfl, H2, E2⟩
  replace H2 := H2.b1.tail
  obtain ⟨g, cv, rfl, hcv⟩ := H2.own_addr (by omega)
  go_wp2_with fail
  have H2' := H2.alloc (.cells #[.int .i64 1, .int .i64 4, .int .i64 0] 58)
  refine (serve_none none 0 0 [] 5 1 H2' (fun w H => Rd.nil _ _ _) (by omega) (by omega) (by simp)).mono ?_
  rw [hb1]
  rintro e w3 ⟨v3, rfl, H3, E3⟩
  obtain ⟨A3, c3, rfl, -, -, -⟩ := H3.own_form
  replace H3 := H3.tail
  go_wp2_with fail
  have H3' := (H3.alloc (.cells #[.int .i64 (-1), .int .i64 0, .int .i64 0] 58)).own_lit 63 3 #[.int .i64 0, .int .i64 0, .int .i64 0, .int .i64 0, .int .i64 0, .int .i64 0] 2 (by simp [maxLen]) rfl
  rw [World.size_alloc] at H3'
  refine (serve_none _ 2 2 zl (-1) 1 H3' (fun w H => H.own_at.1) (by omega) (by omega) (by decide)).mono ?_
  rw [hb2]
  rintro e w4 ⟨v4, rfl, H4, E4⟩
  obtain ⟨A4, c4, rfl, -, -, -⟩ := H4.own_form
  replace H4 := H4.tail.tail
  go_wp2_with fail
  have H4' := (H4.alloc (.cells #[.int .i64 (-1), .int .i64 0, .int .i64 0] 58)).own_lit 63 3 #[.int .i64 0, .int .i64 0, .int .i64 0, .int .i64 0, .int .i64 0, .int .i64 0] 2 (by simp [maxLen]) rfl
  rw [World.size_alloc] at H4'
  refine (serve_none _ 2 2 zl 1 1 H4' (fun w H => H.own_at.1) (by omega) (by omega) (by decide)).mono ?_
  rw [hb3]
  rintro e w5 ⟨v5, rfl, H5, E5⟩
  obtain ⟨A5, c5, rfl, -, -, -⟩ := H5.own_form
  replace H5 := H5.tail.tail
  have a0 := H5.cell 0
  have a1 := H5.cell 1
  have a2 := H5.cell 2
  have b0 := H5.b1.cell 0
  have b1 := H5.b1.cell 1
  have b2 := H5.b1.cell 2
  have c0 := H5.b2.cell 0
  have c1 := H5.b2.cell 1
  have c2 := H5.b2.cell 2
  have d0 := H5.b3.own_cell 3 (.int .i64 2) (by rfl)
  have d1 := H5.b3.own_cell 4 (.int .i64 1) (by rfl)
  have d2 := H5.b3.own_cell 5 (.int .i64 0) (by rfl)
  have la := H5.lt
  have lb := H5.b1.lt
  have lc := H5.b2.lt
  have ld := block_lt_of_cell d0
  go_wp2_with (go_at_call 33; refine (wait_any (-5) 0 9 0 _).mono ?_; rintro e w6 ⟨rfl, rfl⟩)
  refine (known16 (H5.alloc' _)).mono ?_
  rintro e w6 ⟨rfl, H6, E6⟩
  go_wp2_with fail
  go_ret
  exact ⟨rfl, H6.tail.tail.tail.tail, ((((((((Env.refl w).alloc _).trans E2).alloc _).trans E3).alloc _).alloc _).trans E4).alloc _ |>.alloc _ |>.trans E5 |>.alloc _ |>.trans E6⟩
end Go.Proofs.Ytcgpmenknloagaa
