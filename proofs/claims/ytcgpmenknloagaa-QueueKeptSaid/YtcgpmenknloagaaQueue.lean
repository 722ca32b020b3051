/- Contracts of package queue at int and at string: what each call answers and leaves, over chunks. Conditions: fewer than 2^32 elements. -/
import Derived.Test.YtcgpmenknloagaaCore
import Derived.Test.YtcgpmenknloagaaProg
namespace Go.Proofs.Ytcgpmenknloagaa
open Go.RowKit Go.WideShapes

/-- The first place of x, -1 if there is none. -/
def idx {α : Type} [DecidableEq α] (l : List α) (x : α) : Int := match l.findIdx? (· == x) with | some k => k | none => -1
theorem idx_hit {α : Type} [DecidableEq α] {l : List α} {x : α} {k : Nat} (hk : k < l.length) (h : l[k] = x) (hn : ∀ j (hj : j < k), l[j]'(by omega) ≠ x) : idx l x = k := by
  have : l.findIdx? (· == x) = some k := by
    rw [List.findIdx?_eq_some_iff_getElem]
    exact ⟨hk, by simpa using h, fun j hj => by simpa using hn j hj⟩
  simp [idx, this]
theorem idx_miss {α : Type} [DecidableEq α] {l : List α} {x : α} (hn : ∀ j (hj : j < l.length), l[j] ≠ x) : idx l x = -1 := by
  have : l.findIdx? (· == x) = none := by
    rw [List.findIdx?_eq_none_iff]
    intro y hy
    obtain ⟨j, hj, rfl⟩ := List.getElem_of_mem hy
    simpa using hn j hj
  simp [idx, this]
theorem ret_int {k : IntKind} {a b : Int} (h : a = b) : Ending.returned (.int k a) = .returned (.int k b) := by rw [h]

theorem Try.info_int : (Try.prog.info? 3).map (fun i => (i.zero, i.size, i.bytes)) = some (some (.int .i64 0), 1, 8) := by kernel_rfl
set_option maxHeartbeats 400000 in
/-- slices.Clone of what can be read: new memory. -/
theorem clone_int {w : World} {F : List HP} (A : Option Addr) (n c : Nat) (xs : List Value) (H : Sat w F) (hr : Rd w 1 A n xs) (h1 : ∀ u ∈ xs, u.oneCell' = true) (hsz : n < 4294967296) :
    Calls Try.prog 46 #[.slice A n c] w fun e w' => ∃ v, e = .returned v ∧ Sat w' (own 3 1 v n xs :: F) ∧ Env w w' := by
  have he := fun w => Go.Lib.run_eql_slice_nil (P := Try.prog) w 27 3 A n c 0 0 Try.underlying27
  have HR := Lib.hid hr
  have H1 := Lib.hid h1
  clear hr h1
  cases A with
  | none =>
    have h0 : n = 0 := HR.out.src_none (by omega) rfl
    subst h0
    have hl : xs = [] := List.eq_nil_of_length_eq_zero (by simpa using HR.out.1)
    subst hl
    go_enter Try.func46, Try.ntmps46
    go_wp2
    go_ret
    exact ⟨_, rfl, H.own_nil _ _, Env.refl w⟩
  | some a =>
    go_enter Try.func46, Try.ntmps46
    go_wp2_with (at_builtin; go_must (refine wpList_append_sat rfl (.tmp 5) (.tmp 6) 27 rfl (H.own_lit 3 1 #[] 0 (by simp [maxLen]) rfl) rfl _ 8 Try.underlying27 Try.info_int rfl (by omega) _ _ _ xs rfl (by simp) HR.out.1 (HR.out.alloc _).src H1.out (by simp only [maxLen]; omega) (by omega) ?_); intro v' w' H' E')
    go_ret
    exact ⟨_, rfl, by simpa using H', ((Env.refl w).alloc _).trans E'⟩

theorem Try.info_str : (Try.prog.info? 9).map (fun i => (i.zero, i.size, i.bytes)) = some (some (.string ByteArray.empty), 1, 16) := by kernel_rfl
set_option maxHeartbeats 400000 in
/-- slices.Clone of what can be read: new memory. -/
theorem clone_str {w : World} {F : List HP} (A : Option Addr) (n c : Nat) (xs : List Value) (H : Sat w F) (hr : Rd w 1 A n xs) (h1 : ∀ u ∈ xs, u.oneCell' = true) (hsz : n < 4294967296) :
    Calls Try.prog 50 #[.slice A n c] w fun e w' => ∃ v, e = .returned v ∧ Sat w' (own 9 1 v n xs :: F) ∧ Env w w' := by
  have he := fun w => Go.Lib.run_eql_slice_nil (P := Try.prog) w 41 9 A n c 0 0 Try.underlying41
  have HR := Lib.hid hr
  have H1 := Lib.hid h1
  clear hr h1
  cases A with
  | none =>
    have h0 : n = 0 := HR.out.src_none (by omega) rfl
    subst h0
    have hl : xs = [] := List.eq_nil_of_length_eq_zero (by simpa using HR.out.1)
    subst hl
    go_enter Try.func50, Try.ntmps50
    go_wp2
    go_ret
    exact ⟨_, rfl, H.own_nil _ _, Env.refl w⟩
  | some a =>
    go_enter Try.func50, Try.ntmps50
    go_wp2_with (at_builtin; go_must (refine wpList_append_sat rfl (.tmp 5) (.tmp 6) 41 rfl (H.own_lit 9 1 #[] 0 (by simp [maxLen]) rfl) rfl _ 16 Try.underlying41 Try.info_str rfl (by omega) _ _ _ xs rfl (by simp) HR.out.1 (HR.out.alloc _).src H1.out (by simp only [maxLen]; omega) (by omega) ?_); intro v' w' H' E')
    go_ret
    exact ⟨_, rfl, by simpa using H', ((Env.refl w).alloc _).trans E'⟩

set_option maxHeartbeats 400000 in
theorem index_int (A : Option Addr) (n c : Nat) (l : List Int) (x : Int) (w : World) (hsz : n < 4294967296) (hr : Rd w 1 A n (l.map (Value.int .i64))) :
    Calls Try.prog 47 #[.slice A n c, .int .i64 x] w fun e w' => e = .returned (.int .i64 (idx l x)) ∧ w = w' := by
  have HN := Lib.hid (show n = l.length by have := hr.1; simpa using this.symm)
  have HR := Lib.hid hr
  clear hr
  go_enter Try.func47, Try.ntmps47
  go_wp2
  go_loop [8] (fun i => ∃ k : Nat, k ≤ n ∧ i = .int .i64 k ∧ Hid (∀ j (hj : j < l.length), j < k → l[j] ≠ x)) (fun i => n - (intOf i).toNat)
  case atStart => exact ⟨0, by omega, rfl, fun j _ h => by omega⟩
  case round =>
    obtain ⟨k, hk, rfl, hne⟩ := hrel
    by_cases hlt : k < n
    · have hkl : k < l.length := by have := HN.out; omega
      have HY := Lib.hid (List.getElem?_eq_getElem hkl)
      obtain ⟨b, off, rfl, hck⟩ := HR.out.2 k _ (by rw [List.getElem?_map, HY.out]; rfl)
      generalize hy : l[k] = y at hck HY
      have HY2 := Lib.hid hy
      clear hy
      by_cases hx : y = x
      · have hxb : (x == y) = true := by simp [hx]
        have H0 := Lib.hid hx
        clear hx
        go_wp2
        go_ret
        refine ⟨?_, rfl⟩
        rw [idx_hit hkl (by rw [HY2.out, H0.out]) (fun j hj => hne.out j _ hj)]; rfl
      · have hxb : (x == y) = false := by simp; exact fun h => hx h.symm
        go_wp2
        go_round
        case rel =>
          refine ⟨k + 1, by omega, by go_num, fun j hj hjk => ?_⟩
          rcases Nat.lt_or_eq_of_le (Nat.le_of_lt_succ hjk) with h | h
          · exact hne.out j hj h
          · subst h; rw [HY2.out]; exact hx
        case measure => simp [intOf]; omega
    · go_wp2
      go_ret
      refine ⟨?_, rfl⟩
      rw [idx_miss (fun j hj => hne.out j hj (by have := HN.out; omega))]; rfl

/-- A queue behind a pointer. -/
def queue_int (q : Nat) (l : List Int) : HP := ex fun v => all [row q 89 #[v], own 3 1 v l.length (l.map (Value.int .i64))]

theorem Sat.open_queue_int {w : World} {q : Nat} {l : List Int} {F : List HP} (H : Sat w (queue_int q l :: F)) : ∃ v, Sat w (row q 89 #[v] :: own 3 1 v l.length (l.map (Value.int .i64)) :: F) := by
  obtain ⟨v, H⟩ := H.open_ex
  exact ⟨v, H.open_all⟩
theorem Sat.shut_queue_int {w : World} {q : Nat} {l : List Int} {F : List HP} {v : Value} (H : Sat w (row q 89 #[v] :: own 3 1 v l.length (l.map (Value.int .i64)) :: F)) : Sat w (queue_int q l :: F) :=
  Sat.shut_ex v (Sat.shut_all (L := [_, _]) H)
theorem one_int (l : List Int) : ∀ u ∈ l.map (Value.int .i64), u.oneCell' = true := by
  intro u hu
  obtain ⟨x, _, rfl⟩ := List.mem_map.1 hu
  rfl

set_option maxHeartbeats 400000 in
theorem place_met_int {w : World} {q : Nat} {l : List Int} {F : List HP} (x : Int) (H : Sat w (queue_int q l :: F)) (hl : l.length < 4294967296) (hx : 0 ≤ idx l x) :
    Calls Try.prog 16 #[.pointer (some ⟨q, 0, none⟩), .int .i64 x] w fun e w' => e = .returned (.tuple #[.int .i64 (idx l x), .bool true]) ∧ w = w' := by
  obtain ⟨v, H⟩ := H.open_queue_int
  have hc := H.cell 0
  obtain ⟨A, c, rfl, -, -, hr⟩ := H.tail.own_form
  have HI := Lib.hid (index_int A l.length c l x w hl hr)
  clear hr
  go_enter Try.func16, Try.ntmps16
  go_wp2_with (go_at_call 47; refine HI.out.mono ?_; rintro e w' ⟨rfl, rfl⟩)
  go_ret2
  exact ⟨rfl, rfl⟩

set_option maxHeartbeats 400000 in
theorem place_none_int {w : World} {q : Nat} {l : List Int} {F : List HP} (x : Int) (H : Sat w (queue_int q l :: F)) (hl : l.length < 4294967296) (hx : idx l x < 0) :
    Calls Try.prog 16 #[.pointer (some ⟨q, 0, none⟩), .int .i64 x] w fun e w' => e = .returned (.tuple #[.int .i64 0, .bool false]) ∧ w = w' := by
  obtain ⟨v, H⟩ := H.open_queue_int
  have hc := H.cell 0
  obtain ⟨A, c, rfl, -, -, hr⟩ := H.tail.own_form
  have HI := Lib.hid (index_int A l.length c l x w hl hr)
  clear hr
  go_enter Try.func16, Try.ntmps16
  go_wp2_with (go_at_call 47; refine HI.out.mono ?_; rintro e w' ⟨rfl, rfl⟩)
  go_ret2
  refine ⟨?_, rfl⟩
  have : decide (0 ≤ idx l x) = false := by simp; omega
  simp [this]

set_option maxHeartbeats 400000 in
theorem new_int {w : World} {F : List HP} (H : Sat w F) :
    Calls Try.prog 13 #[] w fun e w' => ∃ q, e = .returned (.pointer (some ⟨q, 0, none⟩)) ∧ Sat w' (queue_int q [] :: F) ∧ Env w w' := by
  go_enter Try.func13, Try.ntmps13
  go_wp2
  go_ret
  refine ⟨_, rfl, ?_, (Env.refl w).alloc _⟩
  exact Sat.shut_queue_int (v := .slice none 0 0) ((H.alloc _).own_nil _ 1).swap

set_option maxHeartbeats 400000 in
theorem len_int {w : World} {q : Nat} {l : List Int} {F : List HP} (H : Sat w (queue_int q l :: F)) :
    Calls Try.prog 18 #[.pointer (some ⟨q, 0, none⟩)] w fun e w' => e = .returned (.int .i64 l.length) ∧ w = w' := by
  obtain ⟨v, H⟩ := H.open_queue_int
  have hc := H.cell 0
  obtain ⟨A, c, rfl, -, -, -⟩ := H.tail.own_form
  go_enter Try.func18, Try.ntmps18
  go_wp2
  go_ret
  exact ⟨rfl, rfl⟩

set_option maxHeartbeats 400000 in
theorem push_met_int {w : World} {q : Nat} {l : List Int} {F : List HP} (x : Int) (H : Sat w (queue_int q l :: F)) (hl : l.length < 4294967296) (hx : 0 ≤ idx l x) :
    Calls Try.prog 14 #[.pointer (some ⟨q, 0, none⟩), .int .i64 x] w fun e w' => e = .returned (.tuple #[.int .i64 (idx l x), .bool true, .int .i64 0]) ∧ w = w' := by
  have HP := Lib.hid (place_met_int x H hl hx)
  go_enter Try.func14, Try.ntmps14
  go_wp2_with (go_at_call 16; refine HP.out.mono ?_; rintro e w' ⟨rfl, rfl⟩)
  go_ret3
  exact ⟨rfl, rfl⟩

set_option maxHeartbeats 400000 in
theorem push_full_int {w : World} {q : Nat} {l : List Int} {F : List HP} (x : Int) (H : Sat w (queue_int q l :: F)) (hl : l.length < 4294967296) (hx : idx l x < 0) (hf : 64 ≤ l.length) :
    Calls Try.prog 14 #[.pointer (some ⟨q, 0, none⟩), .int .i64 x] w fun e w' => e = .returned (.tuple #[.int .i64 0, .bool false, .int .i64 4]) ∧ w = w' := by
  have HP := Lib.hid (place_none_int x H hl hx)
  obtain ⟨v, H⟩ := H.open_queue_int
  have hc := H.cell 0
  obtain ⟨A, c, rfl, -, -, -⟩ := H.tail.own_form
  go_enter Try.func14, Try.ntmps14
  go_wp2_with (go_at_call 16; refine HP.out.mono ?_; rintro e w' ⟨rfl, rfl⟩)
  go_ret3
  exact ⟨rfl, rfl⟩

set_option maxHeartbeats 400000 in
theorem push_new_int {w : World} {q : Nat} {l : List Int} {F : List HP} (x : Int) (H : Sat w (queue_int q l :: F)) (hx : idx l x < 0) (hf : l.length < 64) :
    Calls Try.prog 14 #[.pointer (some ⟨q, 0, none⟩), .int .i64 x] w fun e w' => e = .returned (.tuple #[.int .i64 l.length, .bool false, .int .i64 0]) ∧ Sat w' (queue_int q (l ++ [x]) :: F) ∧ Env w w' := by
  have HP := Lib.hid (place_none_int x H (by omega) hx)
  obtain ⟨v, H⟩ := H.open_queue_int
  have hc := H.cell 0
  obtain ⟨A, c, rfl, -, -, -⟩ := H.tail.own_form
  go_enter Try.func14, Try.ntmps14
  go_wp2_with (first
    | (go_at_call 16; refine HP.out.mono ?_; rintro e w' ⟨rfl, rfl⟩)
    | (at_builtin; go_must (refine wpList_append_sat rfl (.tmp 27) (.tmp 29) 27 rfl (H.swap.alloc' _) rfl _ 8 Try.underlying27 Try.info_int rfl (by omega) _ _ _ [.int .i64 x] rfl (by simp) rfl (Rd.src (k := 1) (n := 1) ⟨rfl, fun j u hu => by
        match j, hu with
        | 0, hu => simp at hu; subst hu; exact ⟨_, _, rfl, by simp [go_sem]⟩⟩) (by simp [Value.oneCell']) (by simp only [maxLen]; omega) (by omega) ?_); intro v' w' H' E'; obtain ⟨A', c', hv', -, -, -⟩ := H'.own_form; subst hv'; have hc1 := H'.swap.cell 0; have hf1 := H'.swap.free 0))
  go_ret3
  exact ⟨rfl, Sat.shut_queue_int (v := .slice A' (l.length + 1) c') (by simpa using H'.swap.set (i := 0) _), (((Env.refl w).alloc _).trans E').set _ _⟩

set_option maxHeartbeats 400000 in
theorem take_int {w : World} {q : Nat} {l : List Int} {F : List HP} (m : Int) (k : Nat) (H : Sat w (queue_int q l :: F)) (hl : l.length < 4294967296) (hm : -9223372036854775808 ≤ m ∧ m ≤ 9223372036854775807) (hk : (k : Int) = min (max m 0) l.length) :
    Calls Try.prog 15 #[.pointer (some ⟨q, 0, none⟩), .int .i64 m] w fun e w' => ∃ v, e = .returned v ∧ Sat w' (own 3 1 v k ((l.take k).map (Value.int .i64)) :: queue_int q (l.drop k) :: F) ∧ Env w w' := by
  obtain ⟨v, H⟩ := H.open_queue_int
  have hc := H.cell 0
  have hf := H.free 0
  obtain ⟨A, c, rfl, hcap, -, hr⟩ := H.tail.own_form
  have hkl : k ≤ l.length := by omega
  have HI := Lib.hid (fun c' => clone_int A k c' _ H (hr.take hkl) (fun u hu => one_int l u (List.mem_of_mem_take hu)) (by omega))
  have HR := Lib.hid hr
  have hcase : (m < 0 ∧ k = 0) ∨ (m = (k : Int) ∧ k < l.length) ∨ (m = (l.length : Int) ∧ k = l.length) ∨ ((l.length : Int) < m ∧ k = l.length) := by omega
  clear hr hk
  rcases hcase with ⟨h1, rfl⟩ | ⟨rfl, h1⟩ | ⟨rfl, rfl⟩ | ⟨h1, rfl⟩
  · go_enter Try.func15, Try.ntmps15
    go_wp2_with fail
    refine (HI.out _).mono ?_
    rintro e w1 ⟨v1, rfl, H1, E1⟩
    have hc1 := H1.b1.cell 0
    go_wp2_with fail
    refine (clone_int A l.length _ _ H1 H1.b2.own_at.1 (one_int l) hl).mono ?_
    rintro e w2 ⟨v2, rfl, H2, E2⟩
    have hc2 := H2.b2.cell 0
    have hf2 := H2.b2.free 0
    obtain ⟨A2, c2, rfl, -, -, -⟩ := H2.own_form
    go_wp2_with fail
    go_ret
    exact ⟨_, rfl, by simpa using (Sat.shut_queue_int (l := l) (v := .slice A2 l.length c2) (by simpa using (H2.b2.set (i := 0) (.slice A2 l.length c2)).b3.tail)).b1, (E1.trans E2).set _ _⟩
  · go_enter Try.func15, Try.ntmps15
    go_wp2_with fail
    refine (HI.out _).mono ?_
    rintro e w1 ⟨v1, rfl, H1, E1⟩
    have hc1 := H1.b1.cell 0
    have hd := Lib.hid (H1.b2.own_at.1.drop (m := k) (c := c) hkl hcap)
    go_wp2_with fail
    refine (clone_int _ (l.length - k) _ _ H1 (by have := hd.out; rwa [if_neg (by omega), Nat.mul_one] at this) (fun u hu => one_int l u (List.mem_of_mem_drop hu)) (by omega)).mono ?_
    rintro e w2 ⟨v2, rfl, H2, E2⟩
    have hc2 := H2.b2.cell 0
    have hf2 := H2.b2.free 0
    obtain ⟨A2, c2, rfl, -, -, -⟩ := H2.own_form
    go_wp2_with fail
    go_ret
    exact ⟨_, rfl, by simpa using (Sat.shut_queue_int (l := l.drop k) (v := .slice A2 (l.length - k) c2) (by simpa using (H2.b2.set (i := 0) (.slice A2 (l.length - k) c2)).b3.tail)).b1, (E1.trans E2).set _ _⟩
  all_goals
    go_enter Try.func15, Try.ntmps15
    go_wp2_with fail
    refine (HI.out _).mono ?_
    rintro e w1 ⟨v1, rfl, H1, E1⟩
    have hc1 := H1.b1.cell 0
    go_wp2_with fail
    all_goals
      refine (clone_int _ _ _ [] H1 (by first | exact Rd.nil _ _ _ | (rw [Nat.sub_self]; exact Rd.nil _ _ _)) (by simp) (by omega)).mono ?_
      rintro e w2 ⟨v2, rfl, H2, E2⟩
      rw [show List.take (l.length * 1) (l.map (Value.int .i64)) = l.map (Value.int .i64) from by rw [Nat.mul_one]; exact List.take_of_length_le (by simp)] at H2
      have hc2 := H2.b2.cell 0
      have hf2 := H2.b2.free 0
      obtain ⟨A2, c2, rfl, -, -, -⟩ := H2.own_form
      go_wp2_with fail
      go_ret
      exact ⟨_, rfl, by simpa using (Sat.shut_queue_int (l := []) (v := .slice A2 0 c2) (by simpa using (H2.b2.set (i := 0) (.slice A2 0 c2)).b3.tail)).b1, (E1.trans E2).set _ _⟩

set_option maxHeartbeats 400000 in
theorem all_int {w : World} {q : Nat} {l : List Int} {F : List HP} (H : Sat w (queue_int q l :: F)) (hl : l.length < 4294967296) :
    Calls Try.prog 28 #[.pointer (some ⟨q, 0, none⟩)] w fun e w' => ∃ v, e = .returned v ∧ Sat w' (own 3 1 v l.length (l.map (Value.int .i64)) :: queue_int q l :: F) ∧ Env w w' := by
  have H0 := H
  obtain ⟨v, H⟩ := H.open_queue_int
  have hc := H.cell 0
  obtain ⟨A, c, rfl, -, -, hr⟩ := H.tail.own_form
  have HI := Lib.hid (clone_int A l.length c _ H0 hr (one_int l) hl)
  clear hr
  go_enter Try.func28, Try.ntmps28
  go_wp2_with (go_at_call 46; refine HI.out.mono ?_; rintro e w' ⟨v, rfl, H', E'⟩)
  go_ret
  exact ⟨_, rfl, H', E'⟩

set_option maxHeartbeats 400000 in
theorem index_str (A : Option Addr) (n c : Nat) (l : List ByteArray) (x : ByteArray) (w : World) (hsz : n < 4294967296) (hr : Rd w 1 A n (l.map (Value.string))) :
    Calls Try.prog 57 #[.slice A n c, .string x] w fun e w' => e = .returned (.int .i64 (idx l x)) ∧ w = w' := by
  have HN := Lib.hid (show n = l.length by have := hr.1; simpa using this.symm)
  have HR := Lib.hid hr
  clear hr
  go_enter Try.func57, Try.ntmps57
  go_wp2
  go_loop [8] (fun i => ∃ k : Nat, k ≤ n ∧ i = .int .i64 k ∧ Hid (∀ j (hj : j < l.length), j < k → l[j] ≠ x)) (fun i => n - (intOf i).toNat)
  case atStart => exact ⟨0, by omega, rfl, fun j _ h => by omega⟩
  case round =>
    obtain ⟨k, hk, rfl, hne⟩ := hrel
    by_cases hlt : k < n
    · have hkl : k < l.length := by have := HN.out; omega
      have HY := Lib.hid (List.getElem?_eq_getElem hkl)
      obtain ⟨b, off, rfl, hck⟩ := HR.out.2 k _ (by rw [List.getElem?_map, HY.out]; rfl)
      generalize hy : l[k] = y at hck HY
      have HY2 := Lib.hid hy
      clear hy
      by_cases hx : y = x
      · have hxb : (x.toList == y.toList) = true := by simp [hx]
        have H0 := Lib.hid hx
        clear hx
        go_wp2
        go_ret
        refine ⟨?_, rfl⟩
        rw [idx_hit hkl (by rw [HY2.out, H0.out]) (fun j hj => hne.out j _ hj)]; rfl
      · have hxb : (x.toList == y.toList) = false := by simp; exact fun h => hx (bytes_inj (by rw [← ByteArray.toList_eq, ← ByteArray.toList_eq]; exact h)).symm
        go_wp2
        go_round
        case rel =>
          refine ⟨k + 1, by omega, by go_num, fun j hj hjk => ?_⟩
          rcases Nat.lt_or_eq_of_le (Nat.le_of_lt_succ hjk) with h | h
          · exact hne.out j hj h
          · subst h; rw [HY2.out]; exact hx
        case measure => simp [intOf]; omega
    · go_wp2
      go_ret
      refine ⟨?_, rfl⟩
      rw [idx_miss (fun j hj => hne.out j hj (by have := HN.out; omega))]; rfl

/-- A queue behind a pointer. -/
def queue_str (q : Nat) (l : List ByteArray) : HP := ex fun v => all [row q 94 #[v], own 9 1 v l.length (l.map (Value.string))]

theorem Sat.open_queue_str {w : World} {q : Nat} {l : List ByteArray} {F : List HP} (H : Sat w (queue_str q l :: F)) : ∃ v, Sat w (row q 94 #[v] :: own 9 1 v l.length (l.map (Value.string)) :: F) := by
  obtain ⟨v, H⟩ := H.open_ex
  exact ⟨v, H.open_all⟩
theorem Sat.shut_queue_str {w : World} {q : Nat} {l : List ByteArray} {F : List HP} {v : Value} (H : Sat w (row q 94 #[v] :: own 9 1 v l.length (l.map (Value.string)) :: F)) : Sat w (queue_str q l :: F) :=
  Sat.shut_ex v (Sat.shut_all (L := [_, _]) H)
theorem one_str (l : List ByteArray) : ∀ u ∈ l.map (Value.string), u.oneCell' = true := by
  intro u hu
  obtain ⟨x, _, rfl⟩ := List.mem_map.1 hu
  rfl

set_option maxHeartbeats 400000 in
theorem place_met_str {w : World} {q : Nat} {l : List ByteArray} {F : List HP} (x : ByteArray) (H : Sat w (queue_str q l :: F)) (hl : l.length < 4294967296) (hx : 0 ≤ idx l x) :
    Calls Try.prog 48 #[.pointer (some ⟨q, 0, none⟩), .string x] w fun e w' => e = .returned (.tuple #[.int .i64 (idx l x), .bool true]) ∧ w = w' := by
  obtain ⟨v, H⟩ := H.open_queue_str
  have hc := H.cell 0
  obtain ⟨A, c, rfl, -, -, hr⟩ := H.tail.own_form
  have HI := Lib.hid (index_str A l.length c l x w hl hr)
  clear hr
  go_enter Try.func48, Try.ntmps48
  go_wp2_with (go_at_call 57; refine HI.out.mono ?_; rintro e w' ⟨rfl, rfl⟩)
  go_ret2
  exact ⟨rfl, rfl⟩

set_option maxHeartbeats 400000 in
theorem place_none_str {w : World} {q : Nat} {l : List ByteArray} {F : List HP} (x : ByteArray) (H : Sat w (queue_str q l :: F)) (hl : l.length < 4294967296) (hx : idx l x < 0) :
    Calls Try.prog 48 #[.pointer (some ⟨q, 0, none⟩), .string x] w fun e w' => e = .returned (.tuple #[.int .i64 0, .bool false]) ∧ w = w' := by
  obtain ⟨v, H⟩ := H.open_queue_str
  have hc := H.cell 0
  obtain ⟨A, c, rfl, -, -, hr⟩ := H.tail.own_form
  have HI := Lib.hid (index_str A l.length c l x w hl hr)
  clear hr
  go_enter Try.func48, Try.ntmps48
  go_wp2_with (go_at_call 57; refine HI.out.mono ?_; rintro e w' ⟨rfl, rfl⟩)
  go_ret2
  refine ⟨?_, rfl⟩
  have : decide (0 ≤ idx l x) = false := by simp; omega
  simp [this]

set_option maxHeartbeats 400000 in
theorem new_str {w : World} {F : List HP} (H : Sat w F) :
    Calls Try.prog 20 #[] w fun e w' => ∃ q, e = .returned (.pointer (some ⟨q, 0, none⟩)) ∧ Sat w' (queue_str q [] :: F) ∧ Env w w' := by
  go_enter Try.func20, Try.ntmps20
  go_wp2
  go_ret
  refine ⟨_, rfl, ?_, (Env.refl w).alloc _⟩
  exact Sat.shut_queue_str (v := .slice none 0 0) ((H.alloc _).own_nil _ 1).swap

set_option maxHeartbeats 400000 in
theorem len_str {w : World} {q : Nat} {l : List ByteArray} {F : List HP} (H : Sat w (queue_str q l :: F)) :
    Calls Try.prog 26 #[.pointer (some ⟨q, 0, none⟩)] w fun e w' => e = .returned (.int .i64 l.length) ∧ w = w' := by
  obtain ⟨v, H⟩ := H.open_queue_str
  have hc := H.cell 0
  obtain ⟨A, c, rfl, -, -, -⟩ := H.tail.own_form
  go_enter Try.func26, Try.ntmps26
  go_wp2
  go_ret
  exact ⟨rfl, rfl⟩

set_option maxHeartbeats 400000 in
theorem push_met_str {w : World} {q : Nat} {l : List ByteArray} {F : List HP} (x : ByteArray) (H : Sat w (queue_str q l :: F)) (hl : l.length < 4294967296) (hx : 0 ≤ idx l x) :
    Calls Try.prog 22 #[.pointer (some ⟨q, 0, none⟩), .string x] w fun e w' => e = .returned (.tuple #[.int .i64 (idx l x), .bool true, .int .i64 0]) ∧ w = w' := by
  have HP := Lib.hid (place_met_str x H hl hx)
  go_enter Try.func22, Try.ntmps22
  go_wp2_with (go_at_call 48; refine HP.out.mono ?_; rintro e w' ⟨rfl, rfl⟩)
  go_ret3
  exact ⟨rfl, rfl⟩

set_option maxHeartbeats 400000 in
theorem push_full_str {w : World} {q : Nat} {l : List ByteArray} {F : List HP} (x : ByteArray) (H : Sat w (queue_str q l :: F)) (hl : l.length < 4294967296) (hx : idx l x < 0) (hf : 64 ≤ l.length) :
    Calls Try.prog 22 #[.pointer (some ⟨q, 0, none⟩), .string x] w fun e w' => e = .returned (.tuple #[.int .i64 0, .bool false, .int .i64 4]) ∧ w = w' := by
  have HP := Lib.hid (place_none_str x H hl hx)
  obtain ⟨v, H⟩ := H.open_queue_str
  have hc := H.cell 0
  obtain ⟨A, c, rfl, -, -, -⟩ := H.tail.own_form
  go_enter Try.func22, Try.ntmps22
  go_wp2_with (go_at_call 48; refine HP.out.mono ?_; rintro e w' ⟨rfl, rfl⟩)
  go_ret3
  exact ⟨rfl, rfl⟩

set_option maxHeartbeats 400000 in
theorem push_new_str {w : World} {q : Nat} {l : List ByteArray} {F : List HP} (x : ByteArray) (H : Sat w (queue_str q l :: F)) (hx : idx l x < 0) (hf : l.length < 64) :
    Calls Try.prog 22 #[.pointer (some ⟨q, 0, none⟩), .string x] w fun e w' => e = .returned (.tuple #[.int .i64 l.length, .bool false, .int .i64 0]) ∧ Sat w' (queue_str q (l ++ [x]) :: F) ∧ Env w w' := by
  have HP := Lib.hid (place_none_str x H (by omega) hx)
  obtain ⟨v, H⟩ := H.open_queue_str
  have hc := H.cell 0
  obtain ⟨A, c, rfl, -, -, -⟩ := H.tail.own_form
  go_enter Try.func22, Try.ntmps22
  go_wp2_with (first
    | (go_at_call 48; refine HP.out.mono ?_; rintro e w' ⟨rfl, rfl⟩)
    | (at_builtin; go_must (refine wpList_append_sat rfl (.tmp 27) (.tmp 29) 41 rfl (H.swap.alloc' _) rfl _ 16 Try.underlying41 Try.info_str rfl (by omega) _ _ _ [.string x] rfl (by simp) rfl (Rd.src (k := 1) (n := 1) ⟨rfl, fun j u hu => by
        match j, hu with
        | 0, hu => simp at hu; subst hu; exact ⟨_, _, rfl, by simp [go_sem]⟩⟩) (by simp [Value.oneCell']) (by simp only [maxLen]; omega) (by omega) ?_); intro v' w' H' E'; obtain ⟨A', c', hv', -, -, -⟩ := H'.own_form; subst hv'; have hc1 := H'.swap.cell 0; have hf1 := H'.swap.free 0))
  go_ret3
  exact ⟨rfl, Sat.shut_queue_str (v := .slice A' (l.length + 1) c') (by simpa using H'.swap.set (i := 0) _), (((Env.refl w).alloc _).trans E').set _ _⟩

set_option maxHeartbeats 400000 in
theorem take_str {w : World} {q : Nat} {l : List ByteArray} {F : List HP} (m : Int) (k : Nat) (H : Sat w (queue_str q l :: F)) (hl : l.length < 4294967296) (hm : -9223372036854775808 ≤ m ∧ m ≤ 9223372036854775807) (hk : (k : Int) = min (max m 0) l.length) :
    Calls Try.prog 24 #[.pointer (some ⟨q, 0, none⟩), .int .i64 m] w fun e w' => ∃ v, e = .returned v ∧ Sat w' (own 9 1 v k ((l.take k).map (Value.string)) :: queue_str q (l.drop k) :: F) ∧ Env w w' := by
  obtain ⟨v, H⟩ := H.open_queue_str
  have hc := H.cell 0
  have hf := H.free 0
  obtain ⟨A, c, rfl, hcap, -, hr⟩ := H.tail.own_form
  have hkl : k ≤ l.length := by omega
  have HI := Lib.hid (fun c' => clone_str A k c' _ H (hr.take hkl) (fun u hu => one_str l u (List.mem_of_mem_take hu)) (by omega))
  have HR := Lib.hid hr
  have hcase : (m < 0 ∧ k = 0) ∨ (m = (k : Int) ∧ k < l.length) ∨ (m = (l.length : Int) ∧ k = l.length) ∨ ((l.length : Int) < m ∧ k = l.length) := by omega
  clear hr hk
  rcases hcase with ⟨h1, rfl⟩ | ⟨rfl, h1⟩ | ⟨rfl, rfl⟩ | ⟨h1, rfl⟩
  · go_enter Try.func24, Try.ntmps24
    go_wp2_with fail
    refine (HI.out _).mono ?_
    rintro e w1 ⟨v1, rfl, H1, E1⟩
    have hc1 := H1.b1.cell 0
    go_wp2_with fail
    refine (clone_str A l.length _ _ H1 H1.b2.own_at.1 (one_str l) hl).mono ?_
    rintro e w2 ⟨v2, rfl, H2, E2⟩
    have hc2 := H2.b2.cell 0
    have hf2 := H2.b2.free 0
    obtain ⟨A2, c2, rfl, -, -, -⟩ := H2.own_form
    go_wp2_with fail
    go_ret
    exact ⟨_, rfl, by simpa using (Sat.shut_queue_str (l := l) (v := .slice A2 l.length c2) (by simpa using (H2.b2.set (i := 0) (.slice A2 l.length c2)).b3.tail)).b1, (E1.trans E2).set _ _⟩
  · go_enter Try.func24, Try.ntmps24
    go_wp2_with fail
    refine (HI.out _).mono ?_
    rintro e w1 ⟨v1, rfl, H1, E1⟩
    have hc1 := H1.b1.cell 0
    have hd := Lib.hid (H1.b2.own_at.1.drop (m := k) (c := c) hkl hcap)
    go_wp2_with fail
    refine (clone_str _ (l.length - k) _ _ H1 (by have := hd.out; rwa [if_neg (by omega), Nat.mul_one] at this) (fun u hu => one_str l u (List.mem_of_mem_drop hu)) (by omega)).mono ?_
    rintro e w2 ⟨v2, rfl, H2, E2⟩
    have hc2 := H2.b2.cell 0
    have hf2 := H2.b2.free 0
    obtain ⟨A2, c2, rfl, -, -, -⟩ := H2.own_form
    go_wp2_with fail
    go_ret
    exact ⟨_, rfl, by simpa using (Sat.shut_queue_str (l := l.drop k) (v := .slice A2 (l.length - k) c2) (by simpa using (H2.b2.set (i := 0) (.slice A2 (l.length - k) c2)).b3.tail)).b1, (E1.trans E2).set _ _⟩
  all_goals
    go_enter Try.func24, Try.ntmps24
    go_wp2_with fail
    refine (HI.out _).mono ?_
    rintro e w1 ⟨v1, rfl, H1, E1⟩
    have hc1 := H1.b1.cell 0
    go_wp2_with fail
    all_goals
      refine (clone_str _ _ _ [] H1 (by first | exact Rd.nil _ _ _ | (rw [Nat.sub_self]; exact Rd.nil _ _ _)) (by simp) (by omega)).mono ?_
      rintro e w2 ⟨v2, rfl, H2, E2⟩
      rw [show List.take (l.length * 1) (l.map (Value.string)) = l.map (Value.string) from by rw [Nat.mul_one]; exact List.take_of_length_le (by simp)] at H2
      have hc2 := H2.b2.cell 0
      have hf2 := H2.b2.free 0
      obtain ⟨A2, c2, rfl, -, -, -⟩ := H2.own_form
      go_wp2_with fail
      go_ret
      exact ⟨_, rfl, by simpa using (Sat.shut_queue_str (l := []) (v := .slice A2 0 c2) (by simpa using (H2.b2.set (i := 0) (.slice A2 0 c2)).b3.tail)).b1, (E1.trans E2).set _ _⟩

end Go.Proofs.Ytcgpmenknloagaa
