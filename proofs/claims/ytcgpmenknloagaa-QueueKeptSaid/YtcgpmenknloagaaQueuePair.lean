/- Contracts of package queue at [2]int: what each call answers and leaves, over chunks. Conditions: fewer than 2^32 elements. -/
import Derived.Test.YtcgpmenknloagaaQueue
import Derived.Test.YtcgpmenknloagaaCopy
import Derived.Test.YtcgpmenknloagaaSplitB
import Derived.ChangeKeysEq
import Derived.WalkMore
import Derived.Deep.QuietTactic
import Derived.BigQuiet
import Derived.Deep.RegionHeld3
import Derived.Deep.RegionHeldLaw
namespace Go.Proofs.Ytcgpmenknloagaa
open Go.RowKit Go.WideShapes

abbrev Pr := Int × Int
def flat2 (l : List Pr) : List Value := l.flatMap fun x => [.int .i64 x.1, .int .i64 x.2]
theorem flat2_len (l : List Pr) : (flat2 l).length = l.length * 2 := by
  induction l with
  | nil => rfl
  | cons x l ih => simp only [flat2, List.flatMap_cons, List.length_append, List.length_cons, List.length_nil] at ih ⊢; omega
theorem flat2_get (l : List Pr) (k : Nat) (hk : k < l.length) :
    (flat2 l)[k * 2]? = some (.int .i64 l[k].1) ∧ (flat2 l)[k * 2 + 1]? = some (.int .i64 l[k].2) := by
  induction l generalizing k with
  | nil => simp at hk
  | cons x l ih =>
    cases k with
    | zero => simp [flat2]
    | succ k =>
      have := ih k (by simpa using hk)
      simp only [flat2, List.flatMap_cons] at this ⊢
      refine ⟨?_, ?_⟩ <;> rw [List.getElem?_append_right (by simp; omega)]
      · simpa [Nat.add_mul] using this.1
      · simpa [Nat.add_mul] using this.2
theorem flat2_one (l : List Pr) : ∀ u ∈ flat2 l, u.oneCell' = true := by
  intro u hu
  simp only [flat2, List.mem_flatMap] at hu
  obtain ⟨x, _, hx⟩ := hu
  simp at hx
  rcases hx with rfl | rfl <;> rfl
theorem flat2_append (l m : List Pr) : flat2 (l ++ m) = flat2 l ++ flat2 m := by simp [flat2]
theorem flat2_take (l : List Pr) (k : Nat) : (flat2 l).take (k * 2) = flat2 (l.take k) := by
  induction l generalizing k with
  | nil => simp [flat2]
  | cons x l ih =>
    cases k with
    | zero => simp [flat2]
    | succ k =>
      have := ih k
      simp only [flat2, List.flatMap_cons, List.take_succ_cons, Nat.succ_mul] at this ⊢
      rw [← this]
      simp
theorem flat2_drop (l : List Pr) (k : Nat) : (flat2 l).drop (k * 2) = flat2 (l.drop k) := by
  induction l generalizing k with
  | nil => simp [flat2]
  | cons x l ih =>
    cases k with
    | zero => simp
    | succ k =>
      have := ih k
      simp only [flat2, List.flatMap_cons, List.drop_succ_cons, Nat.succ_mul] at this ⊢
      rw [← this]
      simp

theorem rd2_at {w : World} {A : Option Addr} {n : Nat} {l : List Pr} (h : Rd w 2 A n (flat2 l)) (hn : 0 < n) : ∃ b off, A = some ⟨b, off, none⟩ := by
  have h1 := h.1
  rw [flat2_len] at h1
  obtain ⟨b, off, h2, _⟩ := h.2 _ _ (flat2_get l 0 (by omega)).1
  exact ⟨b, off, h2⟩
theorem rd2 {w : World} {b off n : Nat} {l : List Pr} (h : Rd w 2 (some ⟨b, off, none⟩) n (flat2 l)) {k : Nat} {p r : Int} (hk : k < l.length) (hl : l[k] = (p, r)) :
    w.cell? ⟨b, off + k * 2, none⟩ = some (.int .i64 p) ∧ w.cell? ⟨b, off + k * 2 + 1, none⟩ = some (.int .i64 r) := by
  have hg := flat2_get l k hk
  rw [hl] at hg
  obtain ⟨b1, off1, h1, x1⟩ := h.2 _ _ hg.1
  cases h1
  obtain ⟨b1, off1, h1, x2⟩ := h.2 _ _ hg.2
  cases h1
  exact ⟨x1, by rw [Nat.add_assoc]; exact x2⟩

theorem eqIn2 (w : World) (a b a' b' : Int) : (Op.equalIn 10000 38 (.agg #[.int .i64 a, .int .i64 b]) (.agg #[.int .i64 a', .int .i64 b'])).run Try.prog w = .ok (a == a' && b == b') w := by
  have u3 := Try.underlying3
  have a3 := Try.isAgg3
  have hu := Try.underlying38
  obtain ⟨i, hi⟩ : ∃ i, Try.prog.info? 3 = some i := by
    cases h : Try.prog.info? 3 with
    | none => have := Try.info_int; rw [h] at this; cases this
    | some i => exact ⟨i, rfl⟩
  have hc : Try.prog.cellsOf 3 = 1 := by kernel_rfl
  rw [show (10000 : Nat) = 9999 + 1 from rfl, run_equalIn_array w 9999 _ _ hu hi, hc]
  simp only [List.range_succ, List.range_zero, List.nil_append, List.cons_append, Op.eqItems]
  go_simp
  by_cases h1 : a = a' <;> by_cases h2 : b = b' <;> simp [h1, h2]
theorem eqPair (a b a' b' : Int) (w : World) : (binOp .eql 38 (.agg #[.int .i64 a, .int .i64 b]) (.agg #[.int .i64 a', .int .i64 b'])).run Try.prog w = .ok (.bool (a == a' && b == b')) w := by
  rw [run_eql_struct, eqIn2]; rfl
theorem nePair (a b a' b' : Int) (w : World) : (binOp .neq 38 (.agg #[.int .i64 a, .int .i64 b]) (.agg #[.int .i64 a', .int .i64 b'])).run Try.prog w = .ok (.bool (!(a == a' && b == b'))) w := by
  rw [run_neq_struct, eqIn2]; rfl

theorem Try.info_pair : (Try.prog.info? 38).map (fun i => (i.zero, i.size, i.bytes)) = some (some (.agg #[.int .i64 0, .int .i64 0]), 2, 16) := by kernel_rfl
set_option maxHeartbeats 400000 in
/-- slices.Clone of what can be read: new memory. -/
theorem clone_pair {w : World} {F : List HP} (A : Option Addr) (n c : Nat) (xs : List Value) (H : Sat w F) (hr : Rd w 2 A n xs) (h1 : ∀ u ∈ xs, u.oneCell' = true) (hsz : n < 4294967296) :
    Calls Try.prog 51 #[.slice A n c] w fun e w' => ∃ v, e = .returned v ∧ Sat w' (own 38 2 v n xs :: F) ∧ Env w w' := by
  have he := fun w => Go.Lib.run_eql_slice_nil (P := Try.prog) w 43 38 A n c 0 0 Try.underlying43
  have HR := Lib.hid hr
  have H1 := Lib.hid h1
  clear hr h1
  cases A with
  | none =>
    have h0 : n = 0 := HR.out.src_none (by omega) rfl
    subst h0
    have hl : xs = [] := List.eq_nil_of_length_eq_zero (by simpa using HR.out.1)
    subst hl
    go_enter Try.func51, Try.ntmps51
    go_wp2
    go_ret
    exact ⟨_, rfl, H.own_nil _ _, Env.refl w⟩
  | some a =>
    go_enter Try.func51, Try.ntmps51
    go_wp2_with (at_builtin; go_must (refine wpList_append_sat rfl (.tmp 5) (.tmp 6) 43 rfl (H.own_lit 38 2 #[] 0 (by simp [maxLen]) rfl) rfl _ 16 Try.underlying43 Try.info_pair rfl (by omega) _ _ _ xs rfl (by simp) HR.out.1 (HR.out.alloc _).src H1.out (by simp only [maxLen]; omega) (by omega) ?_); intro v' w' H' E')
    go_ret
    exact ⟨_, rfl, by simpa using H', ((Env.refl w).alloc _).trans E'⟩

set_option maxHeartbeats 400000 in
theorem index_pair {w : World} {F : List HP} (A : Option Addr) (n c : Nat) (l : List Pr) (x y : Int) (H : Sat w F) (hsz : n < 4294967296) (hr : Rd w 2 A n (flat2 l)) :
    Calls Try.prog 58 #[.slice A n c, .agg #[.int .i64 x, .int .i64 y]] w fun e w' => e = .returned (.int .i64 (idx l (x, y))) ∧ Sat w' F ∧ Env w w' := by
  have HN := Lib.hid (show n = l.length by have := hr.1; rw [flat2_len] at this; omega)
  have HR := Lib.hid hr
  clear hr
  go_enter Try.func58, Try.ntmps58
  go_wp2_with fail
  have HR' := Lib.hid (HR.out.alloc (.cells #[.int .i64 x, .int .i64 y] 38))
  have H' := H.alloc (.cells #[.int .i64 x, .int .i64 y] 38)
  have E' := (Env.refl w).alloc (.cells #[.int .i64 x, .int .i64 y] 38)
  generalize hwx : w.alloc (.cells #[.int .i64 x, .int .i64 y] 38) = wx at HR' H' E' ⊢
  clear hwx
  have hx0 := H'.cell 0
  have hx1 := H'.cell 1
  go_loopw [8] (fun i wr => ∃ k : Nat, k ≤ n ∧ i = .int .i64 k ∧ Hid (∀ j (hj : j < l.length), j < k → l[j] ≠ (x, y)) ∧ ∃ q, wr = wx.drewN q) (fun i _ => n - (intOf i).toNat)
  case atStart => exact ⟨0, by omega, rfl, fun j _ h => by omega, 0, rfl⟩
  case round =>
    obtain ⟨k, hk, rfl, hne, q, rfl⟩ := hrel
    by_cases hlt : k < n
    · have hkl : k < l.length := by have := HN.out; omega
      obtain ⟨b, off, rfl⟩ := rd2_at HR'.out (by omega)
      obtain ⟨p, r, hlk⟩ : ∃ p r, l[k] = (p, r) := ⟨_, _, rfl⟩
      obtain ⟨x1, x2⟩ := rd2 HR'.out hkl hlk
      have HY2 := Lib.hid hlk
      clear hlk
      have heq := eqPair x y p r
      by_cases hx : (p, r) = (x, y)
      · have hxb : (x == p && y == r) = true := by cases hx; simp
        have H0 := Lib.hid hx
        clear hx
        rw [hxb] at heq
        go_wp2
        go_quiet (fail)
        go_wp2
        go_ret
        refine ⟨?_, ((H'.drewN _).drewN _).tail, (E'.drewN _).drewN _⟩
        rw [idx_hit hkl (by rw [HY2.out, H0.out]) (fun j hj => hne.out j _ hj)]; rfl
      · have hxb : (x == p && y == r) = false := by
          simp only [Bool.and_eq_false_iff, beq_eq_false_iff_ne]
          by_cases h1 : x = p
          · exact Or.inr fun h2 => hx (by rw [h1, h2])
          · exact Or.inl h1
        rw [hxb] at heq
        go_wp2
        go_quiet (fail)
        go_wp2
        go_roundw
        case rel =>
          refine ⟨k + 1, by omega, by go_num, fun j hj hjk => ?_, _, rfl⟩
          rcases Nat.lt_or_eq_of_le (Nat.le_of_lt_succ hjk) with h | h
          · exact hne.out j hj h
          · subst h; rw [HY2.out]; exact hx
        case measure => simp [intOf]; omega
    · go_wp2
      go_ret
      refine ⟨?_, (H'.drewN _).tail, E'.drewN _⟩
      rw [idx_miss (fun j hj => hne.out j hj (by have := HN.out; omega))]; rfl

/-- A queue behind a pointer. -/
def queue_pair (q : Nat) (l : List Pr) : HP := ex fun v => all [row q 96 #[v], own 38 2 v l.length (flat2 l)]

theorem Sat.open_queue_pair {w : World} {q : Nat} {l : List Pr} {F : List HP} (H : Sat w (queue_pair q l :: F)) : ∃ v, Sat w (row q 96 #[v] :: own 38 2 v l.length (flat2 l) :: F) := by
  obtain ⟨v, H⟩ := H.open_ex
  exact ⟨v, H.open_all⟩
theorem Sat.shut_queue_pair {w : World} {q : Nat} {l : List Pr} {F : List HP} {v : Value} (H : Sat w (row q 96 #[v] :: own 38 2 v l.length (flat2 l) :: F)) : Sat w (queue_pair q l :: F) :=
  Sat.shut_ex v (Sat.shut_all (L := [_, _]) H)

set_option maxHeartbeats 400000 in
theorem place_pair {w : World} {q : Nat} {l : List Pr} {F : List HP} (x y : Int) (H : Sat w (queue_pair q l :: F)) (hl : l.length < 4294967296) :
    Calls Try.prog 49 #[.pointer (some ⟨q, 0, none⟩), .agg #[.int .i64 x, .int .i64 y]] w fun e w' => e = .returned (.tuple #[.int .i64 (if 0 ≤ idx l (x, y) then idx l (x, y) else 0), .bool (decide (0 ≤ idx l (x, y)))]) ∧ Sat w' (queue_pair q l :: F) ∧ Env w w' := by
  obtain ⟨v, H⟩ := H.open_queue_pair
  obtain ⟨A, c, rfl, -, -, hr⟩ := H.tail.own_form
  obtain ⟨i, hi0⟩ : ∃ i, idx l (x, y) = i := ⟨_, rfl⟩
  rw [hi0]
  go_enter Try.func49, Try.ntmps49
  go_wp2_with fail
  have HR := Lib.hid (hr.alloc (.cells #[.int .i64 x, .int .i64 y] 38))
  have H' := H.alloc (.cells #[.int .i64 x, .int .i64 y] 38)
  have E' := (Env.refl w).alloc (.cells #[.int .i64 x, .int .i64 y] 38)
  clear hr H
  generalize hwx : w.alloc (.cells #[.int .i64 x, .int .i64 y] 38) = wx at HR H' E' ⊢
  clear hwx
  have hx0 := H'.cell 0
  have hx1 := H'.cell 1
  have hc := H'.b1.cell 0
  go_region_held3 (fun w' => w'.cell? ⟨w.heap.size, 0, none⟩ = some (.int .i64 x) ∧ w'.cell? ⟨w.heap.size, 1, none⟩ = some (.int .i64 y) ∧ w'.cell? ⟨q, 0, none⟩ = some (.slice A l.length c)) (first | exact ⟨hx0, hx1, hc⟩ | exact ⟨H2.cell 0, H2.cell 1, H2.b1.cell 0⟩) (first | (go_at_call 58; have HI := index_pair A l.length c l x y (H'.drewN 1) hl (HR.out.keep fun _ _ h => h); rw [hi0] at HI; refine HI.mono ?_; rintro e w2 ⟨rfl, H2, E2⟩))
  have H3 := H2.tail.shut_queue_pair
  have E3 := (E'.drewN 1).trans E2
  clear H2 E2
  by_cases hi : 0 ≤ i
  · have hd : decide (0 ≤ i) = true := by simp [hi]
    go_wp2_with fail
    go_ret2
    exact ⟨by simp [hi], H3, E3⟩
  · have hd : decide (0 ≤ i) = false := by simp; omega
    go_wp2_with fail
    go_ret2
    exact ⟨by simp [hi], H3, E3⟩

set_option maxHeartbeats 400000 in
theorem push_met_pair {w : World} {q : Nat} {l : List Pr} {F : List HP} (x y : Int) (H : Sat w (queue_pair q l :: F)) (hl : l.length < 4294967296) (hx : 0 ≤ idx l (x, y)) :
    Calls Try.prog 23 #[.pointer (some ⟨q, 0, none⟩), .agg #[.int .i64 x, .int .i64 y]] w fun e w' => e = .returned (.tuple #[.int .i64 (idx l (x, y)), .bool true, .int .i64 0]) ∧ Sat w' (queue_pair q l :: F) ∧ Env w w' := by
  have HP := Lib.hid (place_pair x y (H.alloc (.cells #[.int .i64 x, .int .i64 y] 38)).swap hl)
  have E' := (Env.refl w).alloc (.cells #[.int .i64 x, .int .i64 y] 38)
  obtain ⟨i, hi0⟩ : ∃ i, idx l (x, y) = i := ⟨_, rfl⟩
  rw [hi0] at HP hx ⊢
  rw [if_pos hx, show decide (0 ≤ i) = true by simp [hx]] at HP
  go_enter Try.func23, Try.ntmps23
  go_wp2_with (go_at_call 49; refine HP.out.mono ?_; rintro e w' ⟨rfl, H2, E2⟩)
  go_ret3
  exact ⟨rfl, H2.b1.tail, E'.trans E2⟩

set_option maxHeartbeats 400000 in
theorem push_full_pair {w : World} {q : Nat} {l : List Pr} {F : List HP} (x y : Int) (H : Sat w (queue_pair q l :: F)) (hl : l.length < 4294967296) (hx : idx l (x, y) < 0) (hf : 64 ≤ l.length) :
    Calls Try.prog 23 #[.pointer (some ⟨q, 0, none⟩), .agg #[.int .i64 x, .int .i64 y]] w fun e w' => e = .returned (.tuple #[.int .i64 0, .bool false, .int .i64 4]) ∧ Sat w' (queue_pair q l :: F) ∧ Env w w' := by
  have HP := Lib.hid (place_pair x y (H.alloc (.cells #[.int .i64 x, .int .i64 y] 38)).swap hl)
  have E' := (Env.refl w).alloc (.cells #[.int .i64 x, .int .i64 y] 38)
  obtain ⟨i, hi0⟩ : ∃ i, idx l (x, y) = i := ⟨_, rfl⟩
  rw [hi0] at HP hx
  rw [if_neg (by omega), show decide (0 ≤ i) = false by simp; omega] at HP
  clear hi0 hx
  go_enter Try.func23, Try.ntmps23
  go_wp2_with (go_at_call 49; refine HP.out.mono ?_; rintro e w' ⟨rfl, H2, E2⟩; obtain ⟨v, H3⟩ := H2.open_queue_pair; have hc := H3.cell 0; obtain ⟨A, c, rfl, -, -, -⟩ := H3.tail.own_form)
  go_ret3
  exact ⟨rfl, H2.b1.tail, E'.trans E2⟩

set_option maxHeartbeats 400000 in
theorem push_new_pair {w : World} {q : Nat} {l : List Pr} {F : List HP} (x y : Int) (H : Sat w (queue_pair q l :: F)) (hx : idx l (x, y) < 0) (hf : l.length < 64) :
    Calls Try.prog 23 #[.pointer (some ⟨q, 0, none⟩), .agg #[.int .i64 x, .int .i64 y]] w fun e w' => e = .returned (.tuple #[.int .i64 l.length, .bool false, .int .i64 0]) ∧ Sat w' (queue_pair q (l ++ [(x, y)]) :: F) ∧ Env w w' := by
  have HP := Lib.hid (place_pair x y (H.alloc (.cells #[.int .i64 x, .int .i64 y] 38)).swap (by omega))
  have E' := (Env.refl w).alloc (.cells #[.int .i64 x, .int .i64 y] 38)
  obtain ⟨i, hi0⟩ : ∃ i, idx l (x, y) = i := ⟨_, rfl⟩
  rw [hi0] at HP hx
  rw [if_neg (by omega), show decide (0 ≤ i) = false by simp; omega] at HP
  clear hi0 hx
  have hfl := Lib.hid (flat2_append l [(x, y)])
  go_enter Try.func23, Try.ntmps23
  go_wp2_with fail
  refine HP.out.mono ?_
  rintro e w2 ⟨rfl, H2, E2⟩
  obtain ⟨v, H3⟩ := H2.open_queue_pair
  have hc := H3.cell 0
  obtain ⟨A, c, rfl, -, -, -⟩ := H3.tail.own_form
  have hx0 := H3.b2.cell 0
  have hx1 := H3.b2.cell 1
  go_wp2_with fail
  generalize w.heap.size = b0 at hx0 hx1 H3 ⊢
  replace H3 : Sat w2 (row q 96 #[.slice A l.length c] :: own 38 2 (.slice A l.length c) l.length (flat2 l) :: row b0 38 #[.int .i64 x, .int .i64 y] :: F) := H3
  refine region_aside2 (fun w' => w'.cell? ⟨b0, 0, none⟩ = some (.int .i64 x) ∧ w'.cell? ⟨b0, 1, none⟩ = some (.int .i64 y) ∧ w'.cell? ⟨q, 0, none⟩ = some (.slice A l.length c)) 10 _ (by kernel_rfl) rfl rfl rfl (by kernel_rfl) (by kernel_rfl) ⟨hx0, hx1, hc⟩ (fun hHeld => ?_)
  simp only [setAside, List.setIfInBounds_toArray, List.set_cons_zero, List.set_cons_succ]
  refine' wpAnyH_take (i := 0) (oi := _) (v := _) rfl (by kernel_rfl) (by kernel_rfl) (by kernel_rfl) (fun _ _ _ h => h) (Or.inl ⟨by rfl, ?hy0⟩) hHeld ?rest0
  case hy0 => (intro w' hSw; (try dsimp only at hSw); go_simp; try with_reducible rfl)
  simp only [List.getElem_toArray, List.getElem_cons_zero, List.getElem_cons_succ, Act.put, List.setIfInBounds_toArray, List.set_cons_zero, List.set_cons_succ]
  refine' wpAnyH_take (i := 1) (oi := _) (v := _) rfl (by kernel_rfl) (by kernel_rfl) (by kernel_rfl) (fun _ _ _ h => h) (Or.inl ⟨by rfl, ?hy1⟩) hHeld ?rest1
  case hy1 => (intro w' hSw; (try dsimp only at hSw); go_simp; try with_reducible rfl)
  simp only [List.getElem_toArray, List.getElem_cons_zero, List.getElem_cons_succ, Act.put, List.setIfInBounds_toArray, List.set_cons_zero, List.set_cons_succ]
  refine' wpAnyH_take (i := 2) (oi := _) (v := _) rfl (by kernel_rfl) (by kernel_rfl) (by kernel_rfl) (fun _ _ _ h => h) (Or.inl ⟨by rfl, ?hy2⟩) hHeld ?rest2
  case hy2 => (intro w' hSw; (try dsimp only at hSw); go_simp; try with_reducible rfl)
  simp only [List.getElem_toArray, List.getElem_cons_zero, List.getElem_cons_succ, Act.put, List.setIfInBounds_toArray, List.set_cons_zero, List.set_cons_succ]
  refine' wpAnyH_take (i := 3) (oi := _) (v := _) rfl (by kernel_rfl) (by kernel_rfl) (by kernel_rfl) (fun _ _ _ h => h) (Or.inl ⟨by rfl, ?hy3⟩) hHeld ?rest3
  case hy3 => (intro w' hSw; (try dsimp only at hSw); go_simp; try with_reducible rfl)
  simp only [List.getElem_toArray, List.getElem_cons_zero, List.getElem_cons_succ, Act.put, List.setIfInBounds_toArray, List.set_cons_zero, List.set_cons_succ]
  refine' wpAnyH_take (i := 4) (oi := _) (v := _) rfl (by kernel_rfl) (by kernel_rfl) (by kernel_rfl) (fun _ _ _ h => h) (Or.inl ⟨by rfl, ?hy4⟩) hHeld ?rest4
  case hy4 => (intro w' hSw; (try dsimp only at hSw); go_simp; try with_reducible rfl)
  simp only [List.getElem_toArray, List.getElem_cons_zero, List.getElem_cons_succ, Act.put, List.setIfInBounds_toArray, List.set_cons_zero, List.set_cons_succ]
  refine' wpAnyH_take (i := 5) (oi := _) (v := _) rfl (by kernel_rfl) (by kernel_rfl) (by kernel_rfl) (fun _ _ _ h => h) (Or.inl ⟨by rfl, ?hy5⟩) hHeld ?rest5
  case hy5 => (intro w' hSw; (try dsimp only at hSw); go_simp; try with_reducible rfl)
  simp only [List.getElem_toArray, List.getElem_cons_zero, List.getElem_cons_succ, Act.put, List.setIfInBounds_toArray, List.set_cons_zero, List.set_cons_succ]
  refine wpAnyH_ready (rs := [6]) (by kernel_rfl) (by simp) ?_
  refine AllReadyH.cons (o := _) rfl (fun K hK => ?_) AllReadyH.nil
  rw [if_pos (by rfl)]
  go_simp
  have H4 := H3.b1.alloc' (.cells #[.int .i64 x, .int .i64 y] 38)
  refine hK.out _ _ ⟨H4.b2.cell 0, H4.b2.cell 1, H4.b1.cell 0⟩ (fun hHeld2 => ?_)
  clear hK K
  try simp only [List.getElem_toArray, List.getElem_cons_zero, List.getElem_cons_succ, Act.put, List.setIfInBounds_toArray, List.set_cons_zero, List.set_cons_succ]
  refine wpAnyH_ready (rs := [7]) (by kernel_rfl) (by simp) ?_
  refine AllReadyH.cons (o := _) rfl (fun K hK => ?_) AllReadyH.nil
  refine step_append_sat rfl (.tmp 27) (.tmp 29) 43 rfl H4 rfl _ 16 Try.underlying43 Try.info_pair rfl (by omega) _ _ _ [.int .i64 x, .int .i64 y] rfl (fun h => by cases h) rfl (lit_src _ _ _ _ rfl) (by simp [Value.oneCell']) (by simp only [maxLen]; omega) (by omega) ?_
  intro v5 w5 H5 E5
  obtain ⟨A5, c5, rfl, -, -, -⟩ := H5.own_form
  refine hK.out _ _ ⟨H5.b2.cell 0, H5.b2.cell 1, H5.b1.cell 0⟩ (fun hHeld3 => ?_)
  clear hK K
  try simp only [List.getElem_toArray, List.getElem_cons_zero, List.getElem_cons_succ, Act.put, List.setIfInBounds_toArray, List.set_cons_zero, List.set_cons_succ]
  refine' wpAnyH_take (i := 8) (oi := _) (v := _) rfl (by kernel_rfl) (by kernel_rfl) (by kernel_rfl) (fun _ _ _ h => h) (Or.inl ⟨by rfl, ?hy8⟩) hHeld3 ?rest8
  case hy8 => (intro w' hSw; (try dsimp only at hSw); go_simp; try with_reducible rfl)
  try simp only [List.getElem_toArray, List.getElem_cons_zero, List.getElem_cons_succ, Act.put, List.setIfInBounds_toArray, List.set_cons_zero, List.set_cons_succ]
  refine' wpAnyH_take (i := 9) (oi := _) (v := _) rfl (by kernel_rfl) (by kernel_rfl) (by kernel_rfl) (fun _ _ _ h => h) (Or.inl ⟨by rfl, ?hy9⟩) hHeld3 ?rest9
  case hy9 => (intro w' hSw; (try dsimp only at hSw); go_simp; try with_reducible rfl)
  try simp only [List.getElem_toArray, List.getElem_cons_zero, List.getElem_cons_succ, Act.put, List.setIfInBounds_toArray, List.set_cons_zero, List.set_cons_succ]
  refine' wpAnyH_take (i := 10) (oi := _) (v := _) rfl (by kernel_rfl) (by kernel_rfl) (by kernel_rfl) (fun _ _ _ h => h) (Or.inl ⟨by rfl, ?hy10⟩) hHeld3 ?rest10
  case hy10 => (intro w' hSw; (try dsimp only at hSw); go_simp; try with_reducible rfl)
  try simp only [List.getElem_toArray, List.getElem_cons_zero, List.getElem_cons_succ, Act.put, List.setIfInBounds_toArray, List.set_cons_zero, List.set_cons_succ]
  refine wpAnyH_done (by kernel_rfl) ?_ _
  show Oper.wp _ _ _ _ _ _
  have c3 := H5.b1.cell 0
  have f3 := H5.b1.free 0
  have H6 := H5.b1.set (i := 0) (.slice A5 (l.length + 1) c5)
  have E6 := (((E'.trans E2).drew.alloc (.cells #[.int .i64 x, .int .i64 y] 38)).trans E5).set ⟨q, 0, none⟩ (.slice A5 (l.length + 1) c5)
  replace H6 : Sat (w5.setCell ⟨q, 0, none⟩ (.slice A5 (l.length + 1) c5)) (row q 96 #[.slice A5 (l.length + 1) c5] :: own 38 2 (.slice A5 (l.length + 1) c5) (l.length + 1) (flat2 l ++ [.int .i64 x, .int .i64 y]) :: F) := H6.b2.tail
  go_simp
  generalize w5.setCell ⟨q, 0, none⟩ (.slice A5 (l.length + 1) c5) = w6 at *
  clear c3 f3 H4 H5 H3 E2 E5 hHeld hHeld2 hHeld3 hc hx0 hx1
  have hc6 := H6.cell 0
  go_wp2_with fail
  go_ret3
  refine ⟨by simp, Sat.shut_queue_pair (v := .slice A5 (l.length + 1) c5) ?_, E6⟩
  rw [hfl.out, List.length_append]
  exact H6

set_option maxHeartbeats 400000 in
theorem new_pair {w : World} {F : List HP} (H : Sat w F) :
    Calls Try.prog 21 #[] w fun e w' => ∃ q, e = .returned (.pointer (some ⟨q, 0, none⟩)) ∧ Sat w' (queue_pair q [] :: F) ∧ Env w w' := by
  go_enter Try.func21, Try.ntmps21
  go_wp2
  go_ret
  refine ⟨_, rfl, ?_, (Env.refl w).alloc _⟩
  exact Sat.shut_queue_pair (v := .slice none 0 0) ((H.alloc _).own_nil _ 2).swap

set_option maxHeartbeats 400000 in
theorem len_pair {w : World} {q : Nat} {l : List Pr} {F : List HP} (H : Sat w (queue_pair q l :: F)) :
    Calls Try.prog 27 #[.pointer (some ⟨q, 0, none⟩)] w fun e w' => e = .returned (.int .i64 l.length) ∧ w = w' := by
  obtain ⟨v, H⟩ := H.open_queue_pair
  have hc := H.cell 0
  obtain ⟨A, c, rfl, -, -, -⟩ := H.tail.own_form
  go_enter Try.func27, Try.ntmps27
  go_wp2
  go_ret
  exact ⟨rfl, rfl⟩

set_option maxHeartbeats 400000 in
theorem take_pair {w : World} {q : Nat} {l : List Pr} {F : List HP} (m : Int) (k : Nat) (H : Sat w (queue_pair q l :: F)) (hl : l.length < 4294967296) (hm : -9223372036854775808 ≤ m ∧ m ≤ 9223372036854775807) (hk : (k : Int) = min (max m 0) l.length) :
    Calls Try.prog 25 #[.pointer (some ⟨q, 0, none⟩), .int .i64 m] w fun e w' => ∃ v, e = .returned v ∧ Sat w' (own 38 2 v k (flat2 (l.take k)) :: queue_pair q (l.drop k) :: F) ∧ Env w w' := by
  obtain ⟨v, H⟩ := H.open_queue_pair
  have hc := H.cell 0
  have hf := H.free 0
  obtain ⟨A, c, rfl, hcap, -, hr⟩ := H.tail.own_form
  have hkl : k ≤ l.length := by omega
  have HI := Lib.hid (fun c' => clone_pair A k c' _ H (by have := hr.take hkl; rwa [flat2_take] at this : Rd w 2 A k (flat2 (l.take k))) (flat2_one _) (by omega))
  have HR := Lib.hid hr
  have hcase : (m < 0 ∧ k = 0) ∨ (m = (k : Int) ∧ k < l.length) ∨ (m = (l.length : Int) ∧ k = l.length) ∨ ((l.length : Int) < m ∧ k = l.length) := by omega
  clear hr hk
  rcases hcase with ⟨h1, rfl⟩ | ⟨rfl, h1⟩ | ⟨rfl, rfl⟩ | ⟨h1, rfl⟩
  · go_enter Try.func25, Try.ntmps25
    go_wp2_with fail
    refine (HI.out _).mono ?_
    rintro e w1 ⟨v1, rfl, H1, E1⟩
    have hc1 := H1.b1.cell 0
    go_wp2_with fail
    refine (clone_pair A l.length _ _ H1 H1.b2.own_at.1 (flat2_one l) hl).mono ?_
    rintro e w2 ⟨v2, rfl, H2, E2⟩
    have hc2 := H2.b2.cell 0
    have hf2 := H2.b2.free 0
    obtain ⟨A2, c2, rfl, -, -, -⟩ := H2.own_form
    go_wp2_with fail
    go_ret
    exact ⟨_, rfl, by simpa using (Sat.shut_queue_pair (l := l) (v := .slice A2 l.length c2) (by simpa using (H2.b2.set (i := 0) (.slice A2 l.length c2)).b3.tail)).b1, (E1.trans E2).set _ _⟩
  · go_enter Try.func25, Try.ntmps25
    go_wp2_with fail
    refine (HI.out _).mono ?_
    rintro e w1 ⟨v1, rfl, H1, E1⟩
    have hc1 := H1.b1.cell 0
    have hd := Lib.hid (H1.b2.own_at.1.drop (m := k) (c := c) hkl hcap)
    go_wp2_with fail
    refine (clone_pair _ (l.length - k) _ _ H1 (by have := hd.out; rwa [if_neg (by omega), flat2_drop] at this) (flat2_one _) (by omega)).mono ?_
    rintro e w2 ⟨v2, rfl, H2, E2⟩
    have hc2 := H2.b2.cell 0
    have hf2 := H2.b2.free 0
    obtain ⟨A2, c2, rfl, -, -, -⟩ := H2.own_form
    go_wp2_with fail
    go_ret
    exact ⟨_, rfl, by simpa using (Sat.shut_queue_pair (l := l.drop k) (v := .slice A2 (l.length - k) c2) (by simpa using (H2.b2.set (i := 0) (.slice A2 (l.length - k) c2)).b3.tail)).b1, (E1.trans E2).set _ _⟩
  all_goals
    go_enter Try.func25, Try.ntmps25
    go_wp2_with fail
    refine (HI.out _).mono ?_
    rintro e w1 ⟨v1, rfl, H1, E1⟩
    have hc1 := H1.b1.cell 0
    go_wp2_with fail
    all_goals
      refine (clone_pair _ _ _ [] H1 (by first | exact Rd.nil _ _ _ | (rw [Nat.sub_self]; exact Rd.nil _ _ _)) (by simp) (by omega)).mono ?_
      rintro e w2 ⟨v2, rfl, H2, E2⟩
      have hc2 := H2.b2.cell 0
      have hf2 := H2.b2.free 0
      obtain ⟨A2, c2, rfl, -, -, -⟩ := H2.own_form
      go_wp2_with fail
      go_ret
      exact ⟨_, rfl, by simpa using (Sat.shut_queue_pair (l := []) (v := .slice A2 0 c2) (by simpa [flat2] using (H2.b2.set (i := 0) (.slice A2 0 c2)).b3.tail)).b1, (E1.trans E2).set _ _⟩
end Go.Proofs.Ytcgpmenknloagaa
