/- package pages: fits, safe, sealed, HasPrefix, Format. Conditions: disks that do not stop. -/
import Derived.Test.YthbabdjicplooaaPageA
import Derived.Lib.AppendZerosOnto
namespace Go.Proofs.Ythbabdjicplooaa
open Go.RowKit

def titleL : List Int := [112, 97, 103, 101, 115]
def sealedL : List Int := titleL ++ List.replicate 123 0
theorem titleL_in : InB titleL := fun x hx => by simp [titleL] at hx; omega
theorem sealedL_in : InB sealedL := titleL_in.app fun x hx => by rw [List.mem_replicate] at hx; omega
theorem sealedL_len : sealedL.length = 128 := by simp [sealedL, titleL]

set_option maxHeartbeats 4000000 in
set_option maxRecDepth 100000 in
theorem pfits_yes {w : World} {d : Nat} {D : Dsk} {F : List HP} (H : Sat w (disk d D :: F)) (hl : 7680 ≤ D.safe.length) :
    Calls Try.prog 92 #[.pointer (some ⟨d, 0, none⟩)] w fun e w' => e = .returned (.bool true) ∧ w = w' := by
  obtain ⟨n, hn⟩ : ∃ n, D.safe.length = n := ⟨_, rfl⟩
  have HS := dsectors H
  rw [hn] at HS hl
  have hd : decide ((7680 : Int) ≤ (n : Int)) = true := by simp; omega
  have hl' : (7680 : Int) ≤ (n : Int) := by omega
  have HH := Lib.hid HS
  clear hn HS hl H
  go_enter Try.func92, Try.ntmps92
  go_wp2_with fail
  refine HH.out.mono ?_
  rintro e w' ⟨rfl, rfl⟩
  go_wp2_with fail
  go_ret
  exact ⟨rfl, rfl⟩
set_option maxHeartbeats 4000000 in
set_option maxRecDepth 100000 in
theorem pfits_no {w : World} {d : Nat} {D : Dsk} {F : List HP} (H : Sat w (disk d D :: F)) (hl : D.safe.length < 7680) :
    Calls Try.prog 92 #[.pointer (some ⟨d, 0, none⟩)] w fun e w' => e = .returned (.bool false) ∧ w = w' := by
  obtain ⟨n, hn⟩ : ∃ n, D.safe.length = n := ⟨_, rfl⟩
  have HS := dsectors H
  rw [hn] at HS hl
  have hd : decide ((7680 : Int) ≤ (n : Int)) = false := by simp; omega
  have hl' : ¬ (7680 : Int) ≤ (n : Int) := by omega
  have HH := Lib.hid HS
  clear hn HS hl H
  go_enter Try.func92, Try.ntmps92
  go_wp2_with fail
  refine HH.out.mono ?_
  rintro e w' ⟨rfl, rfl⟩
  go_wp2_with fail
  go_ret
  exact ⟨rfl, rfl⟩
set_option maxHeartbeats 4000000 in
set_option maxRecDepth 100000 in
theorem pfits_nil (w : World) :
    Calls Try.prog 92 #[.pointer none] w fun e w' => e = .returned (.bool false) ∧ w = w' := by
  go_enter Try.func92, Try.ntmps92
  go_wp2_with fail
  go_ret
  exact ⟨rfl, rfl⟩

set_option maxHeartbeats 4000000 in
set_option maxRecDepth 100000 in
theorem prefix_any (A B : Option Addr) (c d : Nat) (xs : List Int) (w : World) (h1 : Rd w 1 A 128 (bytes xs)) (hc : 128 ≤ c) (h2 : Rd w 1 B 5 (bytes titleL)) (hx : InB xs) :
    Calls Try.prog 93 #[.slice A 128 c, .slice B 5 d] w fun e w' => e = .returned (.bool (decide (xs.take 5 = titleL))) ∧ w = w' := by
  have HR := Lib.hid (show Rd w 1 A 5 (bytes (xs.take 5)) from by
    have := h1.take (m := 5) (by omega)
    rwa [Nat.mul_one, show (bytes xs).take 5 = bytes (xs.take 5) from List.map_take.symm] at this)
  have H2 := Lib.hid h2
  have HX := Lib.hid (show InB (xs.take 5) from hx.take 5)
  clear h1 h2 hx
  have hc' : (128 : Int) ≤ (c : Int) := by omega
  have hc5 : (5 : Int) ≤ (c : Int) := by omega
  go_enter Try.func93, Try.ntmps93
  go_wp2_with fail
  refine (bequal A B 5 5 c d (xs.take 5) titleL w HR.out H2.out (by omega) (by omega) HX.out titleL_in).mono ?_
  rintro e w' ⟨rfl, rfl⟩
  go_wp2_with fail
  go_ret
  exact ⟨rfl, rfl⟩

set_option maxHeartbeats 4000000 in
set_option maxRecDepth 100000 in
theorem psafe_fine {w : World} {d : Nat} {D : Dsk} {F : List HP} (n : Nat) (A : Option Addr) (c : Nat) (xs : List Int) (H : Sat w (disk d D :: F)) (hr : Reads F 1 A 128 (bytes xs)) (hn : n < D.safe.length) (hl : D.left = none) (hp : D.pend.length < 4294967295) :
    Calls Try.prog 98 #[.pointer (some ⟨d, 0, none⟩), .int .i64 n, .slice A 128 c] w fun e w' => e = .returned (.int .i64 0) ∧ Sat w' (disk d (safeN D n xs) :: F) ∧ Env w w' := by
  have HW := Lib.hid (dwrite n A c xs H hr hn (by rw [hl]; simp) (by omega))
  have hp2 : (D.write n xs).pend.length < 4294967296 := by simp only [Dsk.write, List.length_append, List.length_cons, List.length_nil]; omega
  have hl2 : (D.write n xs).left ≠ some 0 := by simp [Dsk.write, hl]
  have HH := Lib.hid (And.intro hp2 hl2)
  unfold safeN
  generalize D.write n xs = E at *
  clear hl hn hp hp2 hl2 H
  go_enter Try.func98, Try.ntmps98
  go_wp2_with fail
  refine HW.out.mono ?_
  rintro e w1 ⟨rfl, H1, E1⟩
  clear HW
  go_wp2_with fail
  refine (dflush H1 HH.out.2 HH.out.1).mono ?_
  rintro e w2 ⟨rfl, H2, E2⟩
  go_wp2_with fail
  go_ret
  exact ⟨rfl, H2, E1.trans E2⟩

/-- append(s, make([]T, k)...), s full. -/
theorem wpList_append_zeros {P : Program} {w : World} {ops : Array Oper} {rest : List Oper} {o : Oper} {a : Act} {Q : Exit → Act → World → Prop} {F : List HP}
    (hgd : o.guard = none) (s x : Operand) (t tn : TypeId) (ho : o.op = .call { callee := .builtin .append, args := #[s, x], argTypes := #[t, tn] })
    {e : TypeId} (H : Sat w F) (g n : Nat) (xs : List Value) (hr : Rd w 1 (some ⟨g, 0, none⟩) n xs) (hs : a.eval s = .slice (some ⟨g, 0, none⟩) n n)
    (z : Value) (ht : P.underlying t = some (.slice e)) (htn : P.underlying tn = some (.int .i64)) (hi : (P.info? e).map (fun i => (i.zero, i.size, i.bytes)) = some (some z, 1, 1)) (hzc : z.cells = #[z])
    (k : Nat) (hx : a.eval x = .int .i64 k) (h0 : 0 < k) (hb : n + k ≤ 1000) (hn : n < 256)
    (h : ∀ v' w', Sat w' (own e 1 v' (n + k) (xs ++ List.replicate k z) :: F) → Env w w' → wpList P ops Q rest (a.put o.dst v') w') : wpList P ops Q (o :: rest) a w :=
  wpList_plain hgd fun K hK => by
    obtain ⟨i, hi, hz, hsz, hbt⟩ := info_parts hi
    have hxl : xs.length = n := by have := hr.1; omega
    have hold : (Builtin.firstCells i.size n (.slice (some ⟨g, 0, none⟩) n n)).run P w.drew = .ok xs.toArray w.drew :=
      run_firstCells_some _ _ _ _ _ _ xs (by rw [hsz]; omega) (hr.src _ rfl)
    have hrun := Lib.run_append_grow_zeros (P := P) w t tn o.type e i z .i64 .i64 ht htn hi hz (some ⟨g, 0, none⟩) n n xs hold k h0 (by omega) (by omega) (by omega) (by rw [hbt]; omega) (by rw [hbt]; unfold Builtin.nextslicecap; split <;> (try split) <;> omega)
    obtain ⟨cap, hcap⟩ : ∃ cap, grownCap w (n + k) n e = cap := ⟨_, rfl⟩
    have hc1 := grownCap_ge w (n + k) n e
    have hc2 := grownCap_le_maxLen w (n + k) n e (by simp only [maxLen]; omega)
    rw [hcap] at hrun hc1 hc2
    have hcs : ∀ m, (Builtin.zeroCells z.cells m).toList = List.replicate m z := fun m => by rw [hzc]; apply List.ext_getElem (by simp [Builtin.zeroCells]); intro i h1 h2; simp [Builtin.zeroCells, Nat.mod_one]
    have H2 : Sat (w.drew.alloc (.cells (xs.toArray ++ Builtin.zeroCells z.cells k ++ Builtin.zeroCells z.cells (cap - (n + k))) e)) (own e 1 (.slice (some ⟨w.heap.size, 0, none⟩) (n + k) cap) (n + k) (xs ++ List.replicate k z) :: F) := by
      refine (H.drew.alloc _).imp fun S h => ⟨by simp [hxl], .inr ⟨w.heap.size, cap, _, rfl, h.1, h.2, hc1, hc2, ?_, ?_⟩⟩
      · rw [Array.size_eq_length_toList, Array.toList_append, Array.toList_append, hcs, hcs]
        simp [hxl]; omega
      · rw [Array.toList_append, Array.toList_append, hcs, hcs]
        rw [List.take_left' (by simp [hxl])]
    unfold Oper.wp execOp
    simp only [ho, resolve, invoke, builtin, Sem.run_bind, Sem.run_pure, Result.andThen_ok, List.map_toArray, List.map_cons, List.map_nil, hs, hx, hrun]
    exact hK _ _ (h _ _ H2 ((Env.refl w).drew.alloc _))

set_option maxHeartbeats 4000000 in
set_option maxRecDepth 100000 in
theorem sealed_any {w : World} {F : List HP} (H : Sat w F) :
    Calls Try.prog 99 #[] w fun e w' => ∃ v, e = .returned v ∧ Sat w' (own 5 1 v 128 (bytes sealedL) :: F) ∧ Env w w' := by
  have kc := fun (w : World) (C : Array Value) (n c : Nat) => Lib.run_convert_bytes_const (P := Try.prog) w 30 5 C n c Try.underlying30 Try.underlying5
  go_enter Try.func99, Try.ntmps99
  have H1 := H.alloc (.cells #[.int .u8 112, .int .u8 97, .int .u8 103, .int .u8 101, .int .u8 115] 5 (5, 6))
  go_wp2_with (at_builtin; go_must (refine wpList_append_zeros rfl (.tmp 2) (.const (.int .i64 123)) 30 3 rfl H1.tail _ 5 (bytes titleL) (H1.blk_rd titleL) rfl (.int .u8 0) Try.underlying30 Try.underlying3 Try.info_byte rfl 123 rfl (by omega) (by omega) (by omega) ?_); intro v2 w2 H2 E2)
  have E3 := ((Env.refl w).alloc (.cells #[.int .u8 112, .int .u8 97, .int .u8 103, .int .u8 101, .int .u8 115] 5 (5, 6))).trans E2
  rw [show bytes titleL ++ List.replicate 123 (.int .u8 0) = bytes sealedL by rw [sealedL, bytes, bytes, List.map_append, List.map_replicate]] at H2
  go_ret
  exact ⟨_, rfl, H2, E3⟩

set_option maxHeartbeats 8000000 in
set_option maxRecDepth 100000 in
theorem pformat_any {w : World} {d : Nat} {D : Dsk} {F : List HP} (H : Sat w (disk d D :: F)) (h1 : 7680 ≤ D.safe.length) (h2 : D.safe.length ≤ 8192) (hb : DB D) (hp : D.pend = []) (hl : D.left = none) :
    Calls Try.prog 62 #[.pointer (some ⟨d, 0, none⟩)] w fun e w' => ∃ E, Fresh (safeN D 7679 noughts) E 4096 3583 ∧ e = .returned (.int .i64 0) ∧ Sat w' (disk d (safeN E 7679 sealedL) :: F) ∧ Env w w' := by
  have hkp := safeN_keep (D := D) 7679 noughts_inb noughts_len hl hb
  have HK := Lib.hid hkp
  have hlen : (safeN D 7679 noughts).safe.length = D.safe.length := hkp.2.2.1
  have HF := Lib.hid (format_fresh (D := safeN D 7679 noughts) 4096 3583 hkp.1 hkp.2.1 (by rw [hlen]; omega) (by omega))
  have HP := Lib.hid (show 7680 ≤ D.safe.length ∧ D.safe.length ≤ 8192 ∧ D.left = none ∧ D.pend.length < 4294967295 from ⟨h1, h2, hl, by rw [hp]; simp⟩)
  clear h1 h2 hb hp hl hkp hlen
  go_enter Try.func62, Try.ntmps62
  go_wp2_with fail
  refine (pfits_yes H HP.out.1).mono ?_
  rintro e w1 ⟨rfl, rfl⟩
  go_wp2_with (at_make; go_must (refine wpList_make_sat rfl _ _ 30 rfl H 5 (.int .u8 0) 1 1 Try.underlying30 Try.info_byte _ _ 128 rfl rfl (by omega) (by simp only [maxLen]; omega) ?_); intro w2 H2 E2; rw [made_byte] at H2)
  refine (psafe_fine 7679 _ 128 noughts H2.b1 (fun w h => h.own_at.1) (by have := HP.out.1; omega) HP.out.2.2.1 HP.out.2.2.2).mono ?_
  rintro e w3 ⟨rfl, H3, E3⟩
  have E3' := E2.trans E3
  have HK2 := Lib.hid (show (safeN D 7679 noughts).safe.length = D.safe.length from HK.out.2.2.1)
  obtain ⟨D3, hD3⟩ : ∃ D3, safeN D 7679 noughts = D3 := ⟨_, rfl⟩
  rw [hD3] at H3 HK HK2 HF
  have HD3 := Lib.hid hD3
  clear hD3
  clear H H2 E2 E3
  go_wp2_with fail
  refine (format_log 4096 3583 H3 (by omega) (by rw [HK2.out]; have := HP.out.1; omega) (by rw [HK2.out]; exact HP.out.2.1) HK.out.2.1 (by rw [HK.out.2.2.2]; simp) HK.out.1).mono ?_
  rintro e w4 ⟨rfl, H4, E4⟩
  have E4' := E3'.trans E4
  generalize formatD D3 4096 3583 = E at *
  clear H3 E3' E4
  go_wp2_with fail
  refine (sealed_any H4).mono ?_
  rintro e w5 ⟨v5, rfl, H5, E5⟩
  obtain ⟨A5, c5, rfl, -, -, -⟩ := H5.own_form
  have E5' := E4'.trans E5
  clear H4 E4' E5
  go_wp2_with fail
  refine (psafe_fine 7679 A5 c5 sealedL H5.b1 (fun w h => h.own_at.1) (by rw [HF.out.len, HK2.out]; have := HP.out.1; omega) HF.out.left (by rw [HF.out.pend]; simp)).mono ?_
  rintro e w6 ⟨rfl, H6, E6⟩
  go_wp2_with fail
  go_ret
  exact ⟨E, HD3.out ▸ HF.out, rfl, H6.b1.tail.b1.tail, E5'.trans E6⟩
end Go.Proofs.Ythbabdjicplooaa

/- package pages: Read. Conditions: disks of 7680 sectors or more. -/
namespace Go.Proofs.Ythbabdjicplooaa
open Go.RowKit

/-- A page's first sectors, one behind the other. -/
def catD (D : Dsk) (n k : Nat) : List Int := (List.range k).flatMap fun j => D.rd (n * 8 + j)
theorem catD_succ (D : Dsk) (n k : Nat) : catD D n (k + 1) = catD D n k ++ D.rd (n * 8 + k) := by simp [catD, List.range_succ]
theorem catD_len {D : Dsk} (h : DB D) (n : Nat) : ∀ k, (catD D n k).length = k * 128
  | 0 => rfl
  | k + 1 => by rw [catD_succ, List.length_append, catD_len h n k, (h.rd _).2]; omega
theorem catD_in {D : Dsk} (h : DB D) (n : Nat) : ∀ k, InB (catD D n k)
  | 0 => fun x hx => by cases hx
  | k + 1 => by rw [catD_succ]; exact (catD_in h n k).app (h.rd _).1
def zeroP : List Int := List.replicate 1024 0
def pageD (D : Dsk) (S : List Int) (n : Nat) : List Int := if bitS S n = true then catD D n 8 else zeroP
theorem pageD_len {D : Dsk} (h : DB D) (S : List Int) (n : Nat) : (pageD D S n).length = 1024 ∧ InB (pageD D S n) := by
  unfold pageD
  split
  · exact ⟨catD_len h n 8, catD_in h n 8⟩
  · exact ⟨List.length_replicate .., fun x hx => by rw [zeroP, List.mem_replicate] at hx; omega⟩

set_option maxHeartbeats 8000000 in
set_option maxRecDepth 100000 in
theorem pread_no {w : World} (s : Nat) (n : Int) (hn : n < 0 ∨ 512 ≤ n) :
    Calls Try.prog 59 #[.pointer (some ⟨s, 0, none⟩), .int .i64 n] w fun e w' => e = .returned (.tuple #[.slice none 0 0, .int .i64 1]) ∧ w = w' := by
  go_enter Try.func59, Try.ntmps59
  by_cases h0 : n < 0
  · clear hn
    go_wp2_with fail
    go_ret2
    exact ⟨rfl, rfl⟩
  · have h1 : 512 ≤ n := by omega
    have h2 : decide (512 ≤ n) = true := decide_eq_true h1
    clear hn
    go_wp2_with fail
    go_ret2
    exact ⟨rfl, rfl⟩

set_option maxHeartbeats 8000000 in
set_option maxRecDepth 100000 in
theorem pread_any {w : World} {s d p : Nat} {S : List Int} {D : Dsk} {F : List HP} (n : Nat) (hn : n < 512) (H : Sat w (sto s d p S :: disk d D :: F)) (hS : InB S) (hb : DB D) (hl : 7680 ≤ D.safe.length) :
    Calls Try.prog 59 #[.pointer (some ⟨s, 0, none⟩), .int .i64 n] w fun e w' => ∃ v, e = .returned (.tuple #[v, .int .i64 0]) ∧ Sat w' (own 5 1 v 1024 (bytes (pageD D S n)) :: sto s d p S :: disk d D :: F) ∧ Env w w' := by
  have HP := Lib.hid (put_bit n H hn hS)
  have HB := Lib.hid (And.intro hb hl)
  have h0 : ¬ (n : Int) < 0 := by omega
  have h1 : ¬ (512 : Int) ≤ (n : Int) := by omega
  have h2 : decide ((512 : Int) ≤ (n : Int)) = false := decide_eq_false h1
  obtain ⟨q, hq⟩ : ∃ q, bitS S n = q := ⟨_, rfl⟩
  rw [hq] at HP
  obtain ⟨R, hR⟩ : ∃ R, pageD D S n = R := ⟨_, rfl⟩
  have HR := Lib.hid hR
  have HQ := Lib.hid hq
  rw [hR]
  clear hS hb hl hq hR
  go_enter Try.func59, Try.ntmps59
  go_wp2_with fail
  refine HP.out.mono ?_
  rintro e w1 ⟨rfl, rfl⟩
  clear HP
  cases q with
  | false =>
    have hR2 : zeroP = R := by rw [← HR.out, pageD, HQ.out]; rfl
    have HR2 := Lib.hid hR2
    clear hR2
    go_wp2_with (at_make; go_must (refine wpList_make_sat rfl _ _ 30 rfl H 5 (.int .u8 0) 1 1 Try.underlying30 Try.info_byte _ _ 1024 rfl rfl (by omega) (by simp only [maxLen]; omega) ?_); intro w2 H2 E2; rw [made_byte] at H2)
    rw [show List.replicate 1024 0 = R from HR2.out] at H2
    go_ret2
    exact ⟨_, rfl, H2, E2⟩
  | true =>
    have hR2 : catD D n 8 = R := by rw [← HR.out, pageD, HQ.out]; rfl
    have HR2 := Lib.hid hR2
    clear hR2 HR HQ
    go_wp2_with fail
    go_loopw [6, 7, 8, 9, 21] (fun s6 _ _ _ i wr => ∃ (k : Nat) (A : Option Addr) (c : Nat), k ≤ 8 ∧ i = .int .i64 k ∧ s6 = .slice A (k * 128) c ∧ Sat wr (own 5 1 (.slice A (k * 128) c) (k * 128) (bytes (catD D n k)) :: sto s d p S :: disk d D :: F) ∧ Env w wr) (fun _ _ _ _ i _ => 8 - (intOf i).toNat)
    case atStart => exact ⟨0, none, 0, by omega, rfl, rfl, H.own_nil _ _, Env.refl w⟩
    case round =>
      clear H
      obtain ⟨k, A, c, hk, rfl, rfl, H1, E1⟩ := hrel
      obtain ⟨kk, hkk⟩ : ∃ m, k * 128 = m := ⟨_, rfl⟩
      rw [hkk] at H1 ⊢
      have HKK := Lib.hid hkk
      clear hkk
      by_cases hlt : k < 8
      · obtain ⟨A1, c1, H2⟩ := H1.b1.sto_open
        have x0 : wr.cell? ⟨s, 0, none⟩ = some (.pointer (some ⟨d, 0, none⟩)) := H2.cell 0
        obtain ⟨m, hm⟩ : ∃ m : Nat, n * 8 + k = m := ⟨_, rfl⟩
        have hw1 : IntKind.i64.wrap ((n : Int) * 8) = (n : Int) * 8 := IntWalk.i64_in _ (by omega)
        have hw2 : IntKind.i64.wrap ((n : Int) * 8 + (k : Int)) = (m : Int) := by rw [IntWalk.i64_in _ (by omega)]; omega
        have HM := Lib.hid hm
        have hmb : m < 4096 := by omega
        clear hm
        go_wp2_with fail
        refine (dread m H1.b2 (by have := HB.out.2; omega)).mono ?_
        rintro e w4 ⟨v4, rfl, H4, E4⟩
        obtain ⟨A4, c4, rfl, -, -, -⟩ := H4.own_form
        have HS4 := Lib.hid (show bytes (catD D n k) ++ bytes (D.rd m) = bytes (catD D n (k + 1)) by rw [catD_succ, HM.out, bytes, bytes, bytes, List.map_append])
        have HRD := Lib.hid H4.own_at
        have E4' := E1.trans E4
        have hkk8 : kk ≤ 1024 := by have := HKK.out; omega
        clear H1 E1 E4 H2 x0
        go_wp2_with (at_builtin; go_must (refine wpList_append_sat rfl (.tmp 36) (.tmp 37) 30 rfl H4.b2 rfl _ 1 Try.underlying30 Try.info_byte rfl (by omega) _ 128 c4 (bytes (D.rd m)) rfl (HRD.out.1.src_none (by omega)) HRD.out.1.1 HRD.out.1.src (bytes_one _) (by simp only [maxLen]; omega) (by omega) ?_); intro v5 w5 H5 E5; obtain ⟨A5, c5, rfl, -, -, -⟩ := H5.own_form)
        rw [HS4.out] at H5
        have H6 := H5.b1.tail.b2.b1
        have E6 := E4'.trans E5
        clear H4 H5 E4' E5 HRD
        go_wp2_with fail
        go_roundw
        case rel =>
          have hk1 : (k + 1) * 128 = kk + 128 := by have := HKK.out; omega
          exact ⟨k + 1, A5, c5, by omega, by go_num, by rw [hk1], by rw [hk1]; exact H6, E6⟩
        case measure => simp [intOf]; omega
      · obtain rfl : k = 8 := by omega
        rw [HR2.out] at H1
        obtain rfl : kk = 1024 := by have := HKK.out; omega
        go_wp2_with fail
        go_ret2
        exact ⟨_, rfl, H1, E1⟩
end Go.Proofs.Ythbabdjicplooaa
