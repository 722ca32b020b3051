/- The books' Roomy and Intact over bytes. Conditions: fewer than 2^32 bytes. -/
import Derived.Test.YthbabdjicplooaaSameBG
import Derived.Test.YthbabdjicplooaaSplitBG
import Derived.Test.YthbabdjicplooaaCore
import Derived.Test.YthbabdjicplooaaProg
import Derived.Test.YthbabdjicplooaaDiskOrderPlainG
namespace Go.Proofs.Ythbabdjicplooaa
open Go.RowKit

/-- Roomy's list on its way: j marks are laid. -/
def roomB (l : List Int) (x : Int) (j : Nat) : List Int := l ++ (List.replicate j x ++ List.replicate (80 - j) 0)
theorem roomB_len (l : List Int) (x : Int) (j : Nat) (h : j ≤ 80) : (roomB l x j).length = l.length + 80 := by simp [roomB]; omega
theorem roomB_set (l : List Int) (x : Int) (j : Nat) (h : j < 80) : (roomB l x j).set (l.length + j) x = roomB l x (j + 1) := by
  unfold roomB
  rw [List.set_append_right (h := by omega), Nat.add_sub_cancel_left, List.set_append_right (h := by simp), List.length_replicate, Nat.sub_self, show 80 - j = 80 - (j + 1) + 1 by omega, List.replicate_succ, List.set_cons_zero, List.replicate_succ', List.append_assoc]
  rfl
theorem roomB_full (l : List Int) (x : Int) : roomB l x 80 = l ++ List.replicate 80 x := by simp [roomB]
theorem bytes_splice (l : List Int) (m : Nat) (h : l.length ≤ m) : splice (bytes (List.replicate m 0)) 0 (bytes l) = bytes (l ++ List.replicate (m - l.length) 0) := by
  simp only [splice, List.take_zero, List.nil_append, Nat.zero_add, bytes, List.map_append, List.length_map]
  congr 1
  rw [← List.map_drop, List.drop_replicate]

set_option maxHeartbeats 4000000 in
set_option maxRecDepth 100000 in
theorem roomy_byte {w : World} {F : List HP} (A : Option Addr) (n c : Nat) (l : List Int) (x : Int) (H : Sat w F) (hr : Reads F 1 A n (bytes l)) (hsz : n < 4294967296) :
    Calls Try.prog 38 #[.slice A n c, .int .u8 x] w fun e w' => ∃ v, e = .returned v ∧ Sat w' (own 5 1 v (n + 80) (bytes (l ++ List.replicate 80 x)) :: F) ∧ Env w w' := by
  have HN := Lib.hid (show n = l.length by have := (hr w H).1; rw [bytes_len] at this; omega)
  have HR := Lib.hid hr
  clear hr
  obtain ⟨m, hm⟩ : ∃ m : Nat, m = n + 80 := ⟨_, rfl⟩
  have hwr : IntKind.i64.wrap ((n : Int) + 80) = (m : Int) := by rw [IntWalk.i64_in _ (by omega)]; omega
  rw [← hm]
  have hmb : n ≤ m ∧ m < 4294967396 := by omega
  have HM := Lib.hid hm
  clear hm
  go_enter Try.func38, Try.ntmps38
  go_wp2_with (first
    | (at_make; go_must (refine wpList_make_sat rfl _ _ 30 rfl H 5 (.int .u8 0) 1 1 Try.underlying30 Try.info_byte _ _ m rfl rfl (by omega) (by simp only [maxLen]; omega) ?_); intro w2 H2 E2; rw [made_byte] at H2)
    | (show wpList _ _ _ ({ dst := _, op := Op.call { callee := Callee.builtin Builtin.copy, args := _, argTypes := _ }, type := _, pos := _, after := _, guard := _ } :: _) _ _; go_must (refine wpList_copy_sat rfl (.tmp 11) (.tmp 12) 30 30 rfl 5 1 Try.underlying30 (by kernel_rfl) H2 _ _ _ _ _ _ rfl rfl 0 n (bytes l) (Nat.min_eq_left (by omega)).symm (fun _ => rfl) (HR.out _ H2.tail) (by have := HN.out; simp only [bytes, List.length_map, List.length_replicate]; omega) (bytes_one l) ?_); intro w3 H3 E3))
  rw [bytes_splice _ _ (by have := HN.out; omega), show m - l.length = 80 by have := HN.out; have := HM.out; omega] at H3
  have E3' := E2.trans E3
  generalize w.heap.size = g at *
  replace H3 : Sat w3 (own 5 1 (.slice (some ⟨g, 0, none⟩) m m) m (bytes (roomB l x 0)) :: F) := by simpa [roomB] using H3
  clear H2 E3 E2
  go_loopw [6] (fun i wr => ∃ k : Nat, k ≤ m ∧ n ≤ k ∧ i = .int .i64 k ∧ Sat wr (own 5 1 (.slice (some ⟨g, 0, none⟩) m m) m (bytes (roomB l x (k - n))) :: F) ∧ Env w wr) (fun i _ => m - (intOf i).toNat)
  case atStart => exact ⟨n, by omega, by omega, rfl, by rw [Nat.sub_self]; exact H3, E3'⟩
  case round =>
    clear H3 E3'
    obtain ⟨k, hk, hk2, rfl, H4, E4⟩ := hrel
    by_cases hlt : k < m
    · have f1 := H4.own_free (by omega) k
      have hkr : k < (roomB l x (k - n)).length := by rw [roomB_len _ _ _ (by have := HM.out; omega)]; have := HN.out; have := HM.out; omega
      have c1 := H4.own_cell k (.int .u8 (roomB l x (k - n))[k]) (by simp [bytes, hkr])
      have H5 := H4.own_set (i := k) (by omega) (.int .u8 x)
      have E5 := E4.set ⟨g, k, none⟩ (.int .u8 x)
      have hset : (bytes (roomB l x (k - n))).set k (.int .u8 x) = bytes (roomB l x (k + 1 - n)) := by
        have := roomB_set l x (k - n) (by have := HM.out; omega)
        rw [show l.length + (k - n) = k by have := HN.out; omega, show k - n + 1 = k + 1 - n by omega] at this
        rw [← this, bytes, bytes, List.map_set]
      rw [hset] at H5
      clear hset
      generalize (roomB l x (k - n))[k] = old1 at c1
      clear hkr
      have HS5 := Lib.hid H5
      have HE5 := Lib.hid E5
      clear H5 E5
      go_wp2_with fail
      go_roundw
      case rel => exact ⟨k + 1, by omega, by omega, by go_num, HS5.out, HE5.out⟩
      case measure => simp [intOf]; omega
    · obtain rfl : k = m := by omega
      go_wp2_with fail
      go_ret
      refine ⟨_, rfl, ?_, E4⟩
      rwa [show k - n = 80 by have := HM.out; omega, roomB_full] at H4

set_option maxHeartbeats 4000000 in
set_option maxRecDepth 100000 in
theorem intact_byte {w : World} {F : List HP} (A B : Option Addr) (n m c d : Nat) (l : List Int) (x : Int) (hm : m = n + 80) (H : Sat w F) (hr : Reads F 1 A m (bytes (l ++ List.replicate 80 x))) (hr2 : Reads F 1 B n (bytes l)) (hsz : n < 4294967296) (hc : n ≤ c) :
    Calls Try.prog 40 #[.slice A m c, .slice B n d, .int .u8 x] w fun e w' => e = .returned (.bool true) ∧ Sat w' F ∧ Env w w' := by
  have HN := Lib.hid (show n = l.length by have := (hr2 w H).1; rw [bytes_len] at this; omega)
  have HR := Lib.hid hr
  have HR2 := Lib.hid hr2
  clear hr hr2
  have hwr : IntKind.i64.wrap ((n : Int) + 80) = (m : Int) := by rw [IntWalk.i64_in _ (by omega)]; omega
  have hmb : n ≤ m ∧ m < 4294967396 := by omega
  have HM := Lib.hid hm
  clear hm
  have hk0 : (0 : Int) ≤ (n : Int) := by omega
  have hkc : (n : Int) ≤ (c : Int) := by omega
  go_enter Try.func40, Try.ntmps40
  go_wp2_with fail
  have hrd : Rd w 1 A n (bytes l) := by
    have := (HR.out _ H).take (m := n) (by omega)
    rwa [Nat.mul_one, bytes, List.map_append, List.take_left' (by rw [List.length_map, HN.out])] at this
  refine (same_byte A B n _ d l _ (by omega) hrd (HR2.out _ H)).mono ?_
  rintro e w2 ⟨rfl, q, rfl⟩
  have H2 := H.drewN q
  have E1 := (Env.refl w).drewN q
  clear hrd H
  generalize w.drewN q = w2 at *
  go_wp2_with fail
  go_loopw [7] (fun i wr => ∃ k : Nat, k ≤ m ∧ n ≤ k ∧ i = .int .i64 k ∧ wr = w2) (fun i _ => m - (intOf i).toNat)
  case atStart => exact ⟨n, by omega, by omega, rfl, rfl⟩
  case round =>
    obtain ⟨k, hk, hk2, rfl, rfl⟩ := hrel
    by_cases hlt : k < m
    · obtain ⟨b, off, rfl, y1⟩ := (HR.out _ H2).2 k (.int .u8 x) (by
        have h1 := HN.out; have h2 := HM.out
        rw [bytes, List.getElem?_map, List.getElem?_append_right (by omega), List.getElem?_replicate, if_pos (by omega)]; rfl)
      go_wp2_with fail
      go_roundw
      case rel => exact ⟨k + 1, by omega, by omega, by go_num, trivial⟩
      case measure => simp [intOf]; omega
    · go_wp2_with fail
      go_ret
      exact ⟨rfl, H2, E1⟩
end Go.Proofs.Ythbabdjicplooaa

/- deponentbook.Within: a number brought into a range. Conditions: none. -/
namespace Go.Proofs.Ythbabdjicplooaa
open Go.RowKit

theorem ret_int' {k : IntKind} {a b : Int} (h : a = b) : Ending.returned (.int k a) = .returned (.int k b) := by rw [h]
def within (n lo hi : Int) : Int := lo + n % (hi - lo + 1)
theorem within_range (n : Int) {lo hi : Int} (h : lo ≤ hi) : lo ≤ within n lo hi ∧ within n lo hi ≤ hi := by
  unfold within
  have h1 := Int.emod_nonneg n (b := hi - lo + 1) (by omega)
  have h2 := Int.emod_lt_of_pos n (b := hi - lo + 1) (by omega)
  omega

set_option maxHeartbeats 1000000 in
theorem within_any (n lo hi : Int) (w : World) (hlo : -1099511627776 ≤ lo) (hlh : lo ≤ hi) (hhi : hi ≤ 1099511627776) :
    Calls Try.prog 32 #[.int .i64 n, .int .i64 lo, .int .i64 hi] w fun e w' => e = .returned (.int .i64 (within n lo hi)) ∧ w = w' := by
  obtain ⟨m, hm, r1⟩ : ∃ m : Int, hi - lo + 1 = m ∧ m = hi - lo + 1 := ⟨_, rfl, rfl⟩
  have hmr : 1 ≤ m ∧ m ≤ 2199023255553 := by omega
  obtain ⟨t, ht, r2⟩ : ∃ t : Int, n.tmod m = t ∧ t = n.tmod m := ⟨_, rfl, rfl⟩
  have htr : -m < t ∧ t < m := by
    rw [r2]
    exact ⟨Int.neg_lt_of_neg_lt (by have := Int.tmod_lt_of_pos (-n) (b := m) (by omega); rwa [Int.neg_tmod] at this), Int.tmod_lt_of_pos n (by omega)⟩
  have HW := Lib.hid (show within n lo hi = lo + (if t < 0 then t + m else t) by
    unfold within
    rw [← r1]
    have h1 : n % m = t % m := by
      rw [r2]
      conv => lhs; rw [← Int.tmod_add_mul_tdiv n m]
      rw [Int.add_mul_emod_self_left]
    rw [h1]
    split
    · rw [← Int.add_emod_right, Int.emod_eq_of_lt (by omega) (by omega)]
    · rw [Int.emod_eq_of_lt (by omega) (by omega)])
  clear r1 r2
  go_enter Try.func32, Try.ntmps32
  go_wp2
  all_goals
    go_ret
    refine ⟨ret_int' ?_, rfl⟩
    rw [HW.out]
    first
      | (rw [if_pos (by assumption)]; show lo + (t + hi - lo + 1) = _; omega)
      | (rw [if_neg (by omega)])

end Go.Proofs.Ythbabdjicplooaa

/- What DiskPlays needs: Write and Flush whatever comes of them, on the disk and on the document's; more buffers in the pool; the calls asked for. Conditions: fewer than 2^32 pending writes. -/
namespace Go.Proofs.Ythbabdjicplooaa
open Go.RowKit

def wcode (D : Dsk) (n : Int) (m : Nat) : Int := if n < 0 ∨ (D.safe.length : Int) ≤ n ∨ m ≠ 128 then 1 else if D.left = some 0 then 13 else 0
def wnext (D : Dsk) (n : Int) (m : Nat) (xs : List Int) : Dsk := if n < 0 ∨ (D.safe.length : Int) ≤ n ∨ m ≠ 128 then D else if D.left = some 0 then D else D.write n.toNat xs
def fcode (D : Dsk) : Int := if D.left = some 0 then 13 else 0
def fnext (D : Dsk) : Dsk := if D.left = some 0 then D else D.flush
theorem wnext_len (D : Dsk) (n : Int) (m : Nat) (xs : List Int) : (wnext D n m xs).safe.length = D.safe.length ∧ (wnext D n m xs).pend.length ≤ D.pend.length + 1 := by
  unfold wnext
  split
  · exact ⟨rfl, by omega⟩
  · split
    · exact ⟨rfl, by omega⟩
    · exact ⟨rfl, by simp [Dsk.write]⟩
theorem fnext_len (D : Dsk) : (fnext D).safe.length = D.safe.length ∧ (fnext D).pend.length ≤ D.pend.length := by
  unfold fnext
  split
  · exact ⟨rfl, by omega⟩
  · exact ⟨by simp [Dsk.flush, sets_len], by simp [Dsk.flush]⟩
theorem crash_len (D : Dsk) (keep : List Bool) (torn nb : Int) : (D.crash keep torn nb).safe.length = D.safe.length ∧ (D.crash keep torn nb).pend.length = 0 := ⟨by simp [Dsk.crash, crashS_len], rfl⟩
theorem wcode_is (D : Dsk) (n : Int) (m : Nat) : wcode D n m = 0 ∨ wcode D n m = 1 ∨ wcode D n m = 13 := by
  unfold wcode
  split
  · exact .inr (.inl rfl)
  · split
    · exact .inr (.inr rfl)
    · exact .inl rfl

theorem dwrite_all {w : World} {d : Nat} {D : Dsk} {F : List HP} (n : Int) (A : Option Addr) (m c : Nat) (xs : List Int) (H : Sat w (disk d D :: F)) (hr : Reads F 1 A m (bytes xs)) (hm : m < 4294967296) (hp : D.pend.length < 4294967296) :
    Calls Try.prog 22 #[.pointer (some ⟨d, 0, none⟩), .int .i64 n, .slice A m c] w fun e w' => e = .returned (.int .i64 (wcode D n m)) ∧ Sat w' (disk d (wnext D n m xs) :: F) ∧ Env w w' := by
  unfold wcode wnext
  by_cases h : n < 0 ∨ (D.safe.length : Int) ≤ n ∨ m ≠ 128
  · rw [if_pos h, if_pos h]
    exact (dwrite_arg n A m c H h hm).mono fun e w' ⟨he, hw⟩ => ⟨he, hw ▸ H, hw ▸ Env.refl w⟩
  · rw [if_neg h, if_neg h]
    obtain ⟨n, rfl⟩ := Int.eq_ofNat_of_zero_le (show 0 ≤ n by omega)
    obtain rfl : m = 128 := by omega
    by_cases hl : D.left = some 0
    · rw [if_pos hl, if_pos hl]
      exact (dwrite_stop n A c H (by omega) hl).mono fun e w' ⟨he, hw⟩ => ⟨he, hw ▸ H, hw ▸ Env.refl w⟩
    · rw [if_neg hl, if_neg hl]
      exact dwrite n A c xs H hr (by omega) hl hp
theorem rwrite_all {w : World} {r : Nat} {D : Dsk} {F : List HP} (n : Int) (A : Option Addr) (m c : Nat) (xs : List Int) (H : Sat w (rdisk r D :: F)) (hr : Reads F 1 A m (bytes xs)) (hm : m < 4294967296) (hp : D.pend.length < 4294967296) :
    Calls Try.prog 39 #[.pointer (some ⟨r, 0, none⟩), .int .i64 n, .slice A m c] w fun e w' => e = .returned (.int .i64 (wcode D n m)) ∧ Sat w' (rdisk r (wnext D n m xs) :: F) ∧ Env w w' := by
  unfold wcode wnext
  by_cases h : n < 0 ∨ (D.safe.length : Int) ≤ n ∨ m ≠ 128
  · rw [if_pos h, if_pos h]
    exact (rwrite_arg n A m c H h hm).mono fun e w' ⟨he, hw⟩ => ⟨he, hw ▸ H, hw ▸ Env.refl w⟩
  · rw [if_neg h, if_neg h]
    obtain ⟨n, rfl⟩ := Int.eq_ofNat_of_zero_le (show 0 ≤ n by omega)
    obtain rfl : m = 128 := by omega
    by_cases hl : D.left = some 0
    · rw [if_pos hl, if_pos hl]
      exact (rwrite_stop n A c H (by omega) hl).mono fun e w' ⟨he, hw⟩ => ⟨he, hw ▸ H, hw ▸ Env.refl w⟩
    · rw [if_neg hl, if_neg hl]
      exact rwrite n A c xs H hr (by omega) hl hp
theorem dflush_all {w : World} {d : Nat} {D : Dsk} {F : List HP} (H : Sat w (disk d D :: F)) (hp : D.pend.length < 4294967296) :
    Calls Try.prog 24 #[.pointer (some ⟨d, 0, none⟩)] w fun e w' => e = .returned (.int .i64 (fcode D)) ∧ Sat w' (disk d (fnext D) :: F) ∧ Env w w' := by
  unfold fcode fnext
  by_cases hl : D.left = some 0
  · rw [if_pos hl, if_pos hl]
    exact (dflush_stop H hl).mono fun e w' ⟨he, hw⟩ => ⟨he, hw ▸ H, hw ▸ Env.refl w⟩
  · rw [if_neg hl, if_neg hl]
    exact dflush H hl hp
theorem rflush_all {w : World} {r : Nat} {D : Dsk} {F : List HP} (H : Sat w (rdisk r D :: F)) (hp : D.pend.length < 4294967296) :
    Calls Try.prog 41 #[.pointer (some ⟨r, 0, none⟩)] w fun e w' => e = .returned (.int .i64 (fcode D)) ∧ Sat w' (rdisk r (fnext D) :: F) ∧ Env w w' := by
  unfold fcode fnext
  by_cases hl : D.left = some 0
  · rw [if_pos hl, if_pos hl]
    exact (rflush_stop H hl).mono fun e w' ⟨he, hw⟩ => ⟨he, hw ▸ H, hw ▸ Env.refl w⟩
  · rw [if_neg hl, if_neg hl]
    exact rflush H hl hp

/-- More buffers in the pool. -/
theorem Sat.dk_more {w : World} {c : Nat} {B B' : List Buf} {D : Dsk} {F : List HP} (H : Sat w (dk c B D :: F)) (hB : ∀ p ∈ B, p ∈ B') (hf : ∀ p ∈ B', p.2.length = 128) : Sat w (dk c B' D :: F) := by
  obtain ⟨safe, last, pend, stops, after, vS, vP, mb, hok, habs, H1⟩ := H.dk_open
  exact Sat.dk_shut ⟨safe, last, pend, stops, after, vS, vP, mb⟩ (hok.out.more hB hf) habs.out.symm H1
theorem Sat.dk_full {w : World} {c : Nat} {B : List Buf} {D : Dsk} {F : List HP} (H : Sat w (dk c B D :: F)) : ∀ p ∈ B, p.2.length = 128 := by
  obtain ⟨safe, last, pend, stops, after, vS, vP, mb, hok, habs, H1⟩ := H.dk_open
  exact hok.out.full

/-- One call that is asked for. -/
structure AskV where
  kind : Int
  nn : Int
  size : Int
  fill : Int
  A : Option Addr
  nk : Nat
  ck : Nat
  keep : List Bool
  torn : Int
  nb : Int
def cellsA (x : AskV) : List Value := [.int .i64 x.kind, .int .i64 x.nn, .int .i64 x.size, .int .u8 x.fill, .slice x.A x.nk x.ck, .int .i64 x.torn, .int .i64 x.nb]
def flatA (l : List AskV) : List Value := l.flatMap cellsA
theorem flatA_len (l : List AskV) : (flatA l).length = l.length * 7 := by
  induction l with
  | nil => rfl
  | cons x l ih => simp only [flatA, List.flatMap_cons, List.length_append, List.length_cons] at ih ⊢; simp only [cellsA, List.length_cons, List.length_nil]; omega
theorem flatA_get (l : List AskV) (k : Nat) (hk : k < l.length) (j : Nat) (hj : j < 7) : (flatA l)[k * 7 + j]? = (cellsA l[k])[j]? := by
  induction l generalizing k with
  | nil => simp at hk
  | cons x l ih =>
    cases k with
    | zero =>
      simp only [flatA, List.flatMap_cons, Nat.zero_mul, Nat.zero_add, List.getElem_cons_zero]
      rw [List.getElem?_append_left (by simpa [cellsA] using hj)]
    | succ k =>
      have := ih k (by simpa using hk)
      simp only [flatA, List.flatMap_cons, List.getElem_cons_succ] at this ⊢
      rw [List.getElem?_append_right (by simp [cellsA]; omega), ← this]
      congr 1
      simp [cellsA]; omega
def AskOk (F : List HP) (x : AskV) : Prop := (-9223372036854775808 ≤ x.size ∧ x.size ≤ 9223372036854775807) ∧ (0 ≤ x.fill ∧ x.fill ≤ 255) ∧ Reads F 1 x.A x.nk (x.keep.map (Value.bool))
theorem rdA {w : World} {A : Option Addr} {n : Nat} {l : List AskV} (h : Rd w 7 A n (flatA l)) {k : Nat} (hk : k < l.length) :
    ∃ b off, A = some ⟨b, off, none⟩ ∧ ∀ j u, (cellsA l[k])[j]? = some u → w.cell? ⟨b, off + k * 7 + j, none⟩ = some u := by
  obtain ⟨b, off, hA, h0⟩ := h.2 (k * 7 + 0) _ (by rw [flatA_get l k hk 0 (by omega)]; rfl)
  refine ⟨b, off, hA, fun j u hu => ?_⟩
  have hj : j < 7 := by have := (List.getElem?_eq_some_iff.1 hu).1; simpa [cellsA] using this
  obtain ⟨b', off', hA', hc⟩ := h.2 (k * 7 + j) u (by rw [flatA_get l k hk j hj]; exact hu)
  rw [hA] at hA'
  cases hA'
  rw [Nat.add_assoc]; exact hc
end Go.Proofs.Ythbabdjicplooaa
