/- package codec's Reader, at any place, and when it has refused. Conditions: texts below 2^32 bytes. -/
import Derived.Test.YthbabdjicplooaaPageCG
namespace Go.Proofs.Ythbabdjicplooaa
open Go.RowKit

def rdAt (p : Nat) (xs : List Int) (at_ : Nat) : HP := ex fun v => all [row p 165 #[v, .int .i64 at_, .pointer none], own 5 1 v xs.length (bytes xs)]
theorem Sat.rdAt_open {w : World} {p : Nat} {xs : List Int} {i : Nat} {F : List HP} (H : Sat w (rdAt p xs i :: F)) : ∃ v, Sat w (row p 165 #[v, .int .i64 i, .pointer none] :: own 5 1 v xs.length (bytes xs) :: F) := by
  obtain ⟨v, H⟩ := H.open_ex
  exact ⟨v, H.open_all⟩
theorem Sat.rdAt_shut {w : World} {p : Nat} {xs : List Int} {i : Nat} {F : List HP} {v : Value} (H : Sat w (row p 165 #[v, .int .i64 i, .pointer none] :: own 5 1 v xs.length (bytes xs) :: F)) : Sat w (rdAt p xs i :: F) :=
  Sat.shut_ex (f := fun v => all [row p 165 #[v, .int .i64 i, .pointer none], own 5 1 v xs.length (bytes xs)]) v (Sat.shut_all (L := [_, _]) H)
theorem Sat.rdr_at {w : World} {p : Nat} {xs : List Int} {F : List HP} (H : Sat w (rdr p xs :: F)) : Sat w (rdAt p xs 0 :: F) := by
  obtain ⟨v, H1⟩ := H.rdr_open
  exact H1.rdAt_shut
/-- A reader that has refused. -/
def rdNo (p : Nat) : HP := ex fun v => ex fun i => ex fun q => row p 165 #[v, .int .i64 i, .pointer (some ⟨q, 0, none⟩)]
theorem Sat.rdNo_open {w : World} {p : Nat} {F : List HP} (H : Sat w (rdNo p :: F)) : ∃ v i q, Sat w (row p 165 #[v, .int .i64 i, .pointer (some ⟨q, 0, none⟩)] :: F) := by
  obtain ⟨v, H⟩ := H.open_ex
  obtain ⟨i, H⟩ := H.open_ex
  obtain ⟨q, H⟩ := H.open_ex
  exact ⟨v, i, q, H⟩
theorem Sat.rdNo_shut {w : World} {p : Nat} {v : Value} {i : Int} {q : Nat} {F : List HP} (H : Sat w (row p 165 #[v, .int .i64 i, .pointer (some ⟨q, 0, none⟩)] :: F)) : Sat w (rdNo p :: F) :=
  Sat.shut_ex (f := fun v => ex fun i => ex fun q => row p 165 #[v, .int .i64 i, .pointer (some ⟨q, 0, none⟩)]) v (Sat.shut_ex (f := fun i => ex fun q => row p 165 #[v, .int .i64 i, .pointer (some ⟨q, 0, none⟩)]) i (Sat.shut_ex (f := fun q => row p 165 #[v, .int .i64 i, .pointer (some ⟨q, 0, none⟩)]) q H))

set_option maxHeartbeats 2000000 in
set_option maxRecDepth 100000 in
theorem refuse_any {w : World} {p : Nat} {v : Value} {i : Int} {F : List HP} (at_ why : Int) (H : Sat w (row p 165 #[v, .int .i64 i, .pointer none] :: F)) (h0 : why ≠ 0) :
    Calls Try.prog 112 #[.pointer (some ⟨p, 0, none⟩), .int .i64 at_, .int .i64 why] w fun e w' => e = .returned (.tuple #[]) ∧ Sat w' (rdNo p :: F) ∧ Env w w' := by
  have x2 := H.cell 2
  have hb : (why != 0) = true := by simp [h0]
  go_enter Try.func112, Try.ntmps112
  go_upto_region 1 with fail
  have H2 := H.alloc (.cells #[.int .i64 at_, .int .i64 why] 168)
  have E2 := (Env.refl w).alloc (.cells #[.int .i64 at_, .int .i64 why] 168)
  have c2 := H2.b1.cell 2
  have f2 := H2.b1.free 2
  go_wp2_with fail
  go_end0
  exact ⟨rfl, (H2.b1.set (i := 2) (.pointer (some ⟨w.heap.size, 0, none⟩))).b1.tail.rdNo_shut, E2.set _ _⟩

set_option maxHeartbeats 2000000 in
set_option maxRecDepth 100000 in
theorem take_ref {w : World} {p : Nat} {F : List HP} (k : Int) (H : Sat w (rdNo p :: F)) :
    Calls Try.prog 111 #[.pointer (some ⟨p, 0, none⟩), .int .i64 k] w fun e w' => e = .returned (.slice none 0 0) ∧ w = w' := by
  obtain ⟨v, i, q, H1⟩ := H.rdNo_open
  have x2 := H1.cell 2
  go_enter Try.func111, Try.ntmps111
  go_wp2_with fail
  go_ret
  exact ⟨rfl, rfl⟩
set_option maxHeartbeats 2000000 in
set_option maxRecDepth 100000 in
theorem take_no {w : World} {p : Nat} {xs : List Int} {i : Nat} {F : List HP} (k : Nat) (H : Sat w (rdAt p xs i :: F)) (hk : 1 ≤ k ∧ k ≤ 4096) (hl : xs.length < i + k) (hi : i ≤ xs.length) (hx : xs.length < 4294967296) :
    Calls Try.prog 111 #[.pointer (some ⟨p, 0, none⟩), .int .i64 k] w fun e w' => e = .returned (.slice none 0 0) ∧ Sat w' (rdNo p :: F) ∧ Env w w' := by
  obtain ⟨v, H1⟩ := H.rdAt_open
  obtain ⟨m, hm⟩ : ∃ m, xs.length = m := ⟨_, rfl⟩
  rw [hm] at H1 hl hx hi
  clear H hm
  obtain ⟨A, c, rfl, -, -, -⟩ := H1.b1.own_form
  have x0 := H1.cell 0
  have x1 := H1.cell 1
  have x2 := H1.cell 2
  obtain ⟨j, hj⟩ : ∃ j : Int, (m : Int) - (i : Int) = j := ⟨_, rfl⟩
  have hw : IntKind.i64.wrap ((m : Int) - (i : Int)) = j := by rw [IntWalk.i64_in _ (by omega)]; exact hj
  have h1 : j < (k : Int) := by omega
  clear hj
  go_enter Try.func111, Try.ntmps111
  go_wp2_with fail
  go_quiet (fail)
  have H2 := H1.drewN nq
  have E2 := (Env.refl w).drewN nq
  generalize w.drewN nq = w2 at *
  clear x0 x1 x2 H1
  have x0 := H2.cell 0
  go_wp2_with fail
  refine (refuse_any m 10 H2 (by omega)).mono ?_
  rintro e w3 ⟨rfl, H3, E3⟩
  go_wp2_with fail
  go_ret
  exact ⟨rfl, (H3.b1).tail, E2.trans E3⟩
set_option maxHeartbeats 2000000 in
set_option maxRecDepth 100000 in
theorem take_at {w : World} {p : Nat} {xs : List Int} {i : Nat} {F : List HP} (k : Nat) (H : Sat w (rdAt p xs i :: F)) (hk : 1 ≤ k ∧ k ≤ 4096) (hl : i + k ≤ xs.length) (hx : xs.length < 4294967296) :
    Calls Try.prog 111 #[.pointer (some ⟨p, 0, none⟩), .int .i64 k] w fun e w' => ∃ A c, e = .returned (.slice A k c) ∧ Sat w' (rdAt p xs (i + k) :: F) ∧ Rd w' 1 A k (bytes ((xs.drop i).take k)) ∧ k ≤ c ∧ Env w w' := by
  obtain ⟨v, H1⟩ := H.rdAt_open
  obtain ⟨m, hm⟩ : ∃ m, xs.length = m := ⟨_, rfl⟩
  have HM := Lib.hid hm
  rw [hm] at H1 hl hx
  clear H hm
  obtain ⟨g, c, rfl, hc⟩ := H1.b1.own_addr (by omega)
  have x0 := H1.cell 0
  have x1 := H1.cell 1
  have x2 := H1.cell 2
  have f1 := H1.free 1
  obtain ⟨j, hj⟩ : ∃ j : Nat, m - i = j := ⟨_, rfl⟩
  obtain ⟨n, hn⟩ : ∃ n : Nat, i + k = n := ⟨_, rfl⟩
  have hw : IntKind.i64.wrap ((m : Int) - (i : Int)) = (j : Int) := by rw [IntWalk.i64_in _ (by omega)]; omega
  have hw2 : IntKind.i64.wrap ((i : Int) + (k : Int)) = (n : Int) := by rw [IntWalk.i64_in _ (by omega)]; omega
  have hw3 : IntKind.i64.wrap ((n : Int) - (k : Int)) = (i : Int) := by rw [IntWalk.i64_in _ (by omega)]; omega
  have h1 : ¬ (j : Int) < (k : Int) := by omega
  have h2 : (n : Int) ≤ (c : Int) := by omega
  have h3 : (i : Int) ≤ (n : Int) := by omega
  have h4 : (0 : Int) ≤ (i : Int) := by omega
  have h5 : ¬ c = i := by omega
  have HN := Lib.hid (show n = i + k ∧ i ≤ n ∧ n ≤ m ∧ n ≤ c from by omega)
  clear hj hn hl
  go_enter Try.func111, Try.ntmps111
  go_wp2_with fail
  go_quiet (fail)
  have H2 := H1.drewN nq
  have E2 := (Env.refl w).drewN nq
  generalize w.drewN nq = w2 at *
  clear x0 x1 x2 f1 H1
  have x0 := H2.cell 0
  have x1 := H2.cell 1
  have f1 := H2.free 1
  go_upto_region 7 with fail
  have H3 := H2.set (i := 1) (.int .i64 n)
  have E3 := E2.set ⟨p, 1, none⟩ (.int .i64 n)
  generalize w2.setCell ⟨p, 1, none⟩ (.int .i64 n) = w3 at *
  clear x0 x1 f1 H2 E2
  have x0 := H3.cell 0
  have x1 := H3.cell 1
  go_quiet (fail)
  have H4 := H3.drewN nq
  have E4 := E3.drewN nq
  go_wp2_with fail
  go_ret
  have hk2 : n - i = k := by have := HN.out; omega
  rw [hk2]
  refine ⟨_, _, rfl, ?_, ?_, by have := HN.out; omega, E4⟩
  · rw [show i + k = n from HN.out.1.symm]
    exact Sat.rdAt_shut (v := .slice (some ⟨g, 0, none⟩) m c) (by rw [HM.out]; exact H4)
  · have h0 := H4.b1.own_at.1
    refine ⟨by rw [bytes_len, List.length_take, List.length_drop, HM.out]; have := HN.out; omega, fun q u hu => ?_⟩
    have hq : q < k := by
      have := (List.getElem?_eq_some_iff.1 hu).1
      rw [bytes_len, List.length_take] at this; omega
    have hu2 : (bytes xs)[i + q]? = some u := by
      rw [← hu, bytes, bytes, List.getElem?_map, List.getElem?_map, List.getElem?_take, if_pos hq, List.getElem?_drop]
    obtain ⟨b', off', hA, hc'⟩ := h0.2 (i + q) u hu2
    cases hA
    exact ⟨_, _, rfl, by rw [Nat.zero_add] at hc'; exact hc'⟩
end Go.Proofs.Ythbabdjicplooaa

/- package codec's Reader: Number and Bytes at any place. Conditions: texts below 2^32 bytes. -/
namespace Go.Proofs.Ythbabdjicplooaa
open Go.RowKit

set_option maxHeartbeats 4000000 in
set_option maxRecDepth 100000 in
theorem rnum_at {w : World} {p : Nat} {xs : List Int} {i : Nat} {F : List HP} (H : Sat w (rdAt p xs i :: F)) (hl : i + 2 ≤ xs.length) (hx : xs.length < 4294967296) (hb : InB xs) :
    Calls Try.prog 106 #[.pointer (some ⟨p, 0, none⟩), .int .i64 2] w fun e w' => e = .returned (.int .u64 (ofBE ((xs.drop i).take 2))) ∧ Sat w' (rdAt p xs (i + 2) :: F) ∧ Env w w' := by
  obtain ⟨k, hk⟩ : ∃ k, k = 2 := ⟨_, rfl⟩
  have HT := Lib.hid (take_at 2 H (by omega) hl hx)
  have HB := Lib.hid (show InB ((xs.drop i).take 2) from fun x hx => hb x (List.mem_of_mem_drop (List.mem_of_mem_take hx)))
  obtain ⟨ys, hys⟩ : ∃ ys, (xs.drop i).take 2 = ys := ⟨_, rfl⟩
  have hyl : ys.length = 2 := by rw [← hys, List.length_take, List.length_drop]; omega
  rw [hys] at HT HB
  rw [hys]
  have HYL := Lib.hid hyl
  clear hys hb hl hx hk hyl
  go_enter Try.func106, Try.ntmps106
  go_wp2_with fail
  refine (csize_any 2 w (by omega)).mono ?_
  rintro e w1 ⟨rfl, rfl⟩
  go_wp2_with fail
  refine HT.out.mono ?_
  rintro e w2 ⟨A, c, rfl, H2, hr, -, E2⟩
  have HR := Lib.hid hr
  clear hr HT H
  go_wp2_with fail
  go_loopw [5, 13] (fun acc i wr => ∃ j : Nat, j ≤ 2 ∧ i = .int .i64 j ∧ acc = .int .u64 (ofBE (ys.take j)) ∧ wr = w2) (fun _ i _ => 2 - (intOf i).toNat)
  case atStart => exact ⟨0, by omega, rfl, rfl, rfl⟩
  case round =>
    obtain ⟨j, hj, rfl, rfl, rfl⟩ := hrel
    by_cases hlt : j < 2
    · have hjl : j < ys.length := by rw [HYL.out]; exact hlt
      obtain ⟨b, off, rfl, hcell⟩ := HR.out.2 j (.int .u8 ys[j]) (by simp [bytes, hjl])
      have hyb := HB.out _ (List.getElem_mem hjl)
      have HS := Lib.hid (show ofBE (ys.take (j + 1)) = ofBE (ys.take j) * 256 + ys[j] by rw [List.take_succ_eq_append_getElem hjl, ofBE_snoc])
      have hrg := ofBE_range (l := ys.take j) (fun x hx => HB.out x (List.mem_of_mem_take hx))
      have hpw : (256 : Int) ^ (ys.take j).length ≤ 72057594037927936 := by
        rw [List.length_take, show min j ys.length = j by omega]
        have h : j = 0 ∨ j = 1 := by omega
        rcases h with rfl | rfl <;> decide
      generalize ys[j] = y at hcell hyb HS
      generalize ofBE (ys.take j) = a at HS hrg ⊢
      have ha : 0 ≤ a ∧ a < 72057594037927936 := by omega
      clear hrg hpw hjl
      have hor : bits .or .u64 (a * 256) y = a * 256 + y := bits_join .u64 64 (by decide) wraps_u64 8 (a * 256) y (by omega) (by omega) (by omega) (by omega) (by omega) (by omega)
      have hw1 : IntKind.u64.wrap (a * 256) = a * 256 := by rw [IntKind.wrap_u64]; omega
      have hw2 : IntKind.u64.wrap y = y := by rw [IntKind.wrap_u64]; omega
      go_wp2_with fail
      exact ⟨⟨j + 1, by omega, by go_num, by rw [HS.out], trivial⟩, by simp [intOf]; omega⟩
    · obtain rfl : j = 2 := by omega
      go_wp2_with fail
      go_ret
      rw [List.take_of_length_le (by have := HYL.out; omega)]
      exact ⟨rfl, H2, E2⟩
set_option maxHeartbeats 4000000 in
set_option maxRecDepth 100000 in
theorem rnum_no {w : World} {p : Nat} {xs : List Int} {F : List HP} (H : Sat w (rdAt p xs xs.length :: F)) (hx : xs.length < 4294967296) :
    Calls Try.prog 106 #[.pointer (some ⟨p, 0, none⟩), .int .i64 2] w fun e w' => e = .returned (.int .u64 0) ∧ Sat w' (rdNo p :: F) ∧ Env w w' := by
  have HT := Lib.hid (take_no 2 H (by omega) (by omega) (by omega) hx)
  go_enter Try.func106, Try.ntmps106
  go_wp2_with fail
  refine (csize_any 2 w (by omega)).mono ?_
  rintro e w1 ⟨rfl, rfl⟩
  go_wp2_with fail
  refine HT.out.mono ?_
  rintro e w2 ⟨rfl, H2, E2⟩
  clear HT H hx
  go_wp2_with fail
  go_loopw [5, 13] (fun acc i wr => i = .int .i64 0 ∧ acc = .int .u64 0 ∧ wr = w2) (fun _ i _ => 0)
  case atStart => exact ⟨rfl, rfl, rfl⟩
  case round =>
    obtain ⟨rfl, rfl, rfl⟩ := hrel
    go_wp2_with fail
    go_ret
    exact ⟨rfl, H2, E2⟩
set_option maxHeartbeats 4000000 in
set_option maxRecDepth 100000 in
theorem rnum_ref {w : World} {p : Nat} {F : List HP} (H : Sat w (rdNo p :: F)) :
    Calls Try.prog 106 #[.pointer (some ⟨p, 0, none⟩), .int .i64 2] w fun e w' => e = .returned (.int .u64 0) ∧ w = w' := by
  have HT := Lib.hid (take_ref 2 H)
  go_enter Try.func106, Try.ntmps106
  go_wp2_with fail
  refine (csize_any 2 w (by omega)).mono ?_
  rintro e w1 ⟨rfl, rfl⟩
  go_wp2_with fail
  refine HT.out.mono ?_
  rintro e w2 ⟨rfl, rfl⟩
  clear HT H
  go_wp2_with fail
  go_loopw [5, 13] (fun acc i wr => i = .int .i64 0 ∧ acc = .int .u64 0 ∧ wr = w) (fun _ i _ => 0)
  case atStart => exact ⟨rfl, rfl, rfl⟩
  case round =>
    obtain ⟨rfl, rfl, rfl⟩ := hrel
    go_wp2_with fail
    go_ret
    exact ⟨rfl, rfl⟩

set_option maxHeartbeats 4000000 in
set_option maxRecDepth 100000 in
theorem rbytes_at {w : World} {p : Nat} {xs : List Int} {i : Nat} {F : List HP} (H : Sat w (rdAt p xs i :: F)) (hl : i + 2 + 1024 ≤ xs.length) (hx : xs.length < 4294967000) (hb : InB xs) (hn : ofBE ((xs.drop i).take 2) = 1024) :
    Calls Try.prog 109 #[.pointer (some ⟨p, 0, none⟩), .int .i64 1024] w fun e w' => ∃ v, e = .returned v ∧ Sat w' (own 5 1 v 1024 (bytes ((xs.drop (i + 2)).take 1024)) :: rdAt p xs (i + 2 + 1024) :: F) ∧ Env w w' := by
  have HN := Lib.hid (rnum_at H (by omega) (by omega) hb)
  rw [hn] at HN
  have HH := Lib.hid (show i + 2 + 1024 ≤ xs.length ∧ xs.length < 4294967296 from by omega)
  obtain ⟨v, H1⟩ := H.rdAt_open
  obtain ⟨A, c, rfl, -, -, -⟩ := H1.b1.own_form
  have x1 := H1.cell 1
  clear hl hx hb hn H
  go_enter Try.func109, Try.ntmps109
  go_wp2_with fail
  refine HN.out.mono ?_
  rintro e w2 ⟨rfl, H2, E2⟩
  clear H1 x1 HN
  have HT := Lib.hid (take_at 1024 H2 (by omega) (by have := HH.out; omega) HH.out.2)
  obtain ⟨v3, H3⟩ := H2.rdAt_open
  have x2 := H3.cell 2
  go_wp2_with fail
  refine HT.out.mono ?_
  rintro e w4 ⟨A4, c4, rfl, H4, hr4, hc4, E4⟩
  clear HT H2 H3 x2
  have HC := Lib.hid (clone_byte A4 1024 c4 _ H4 hr4 (bytes_one _) (by omega))
  clear hr4
  go_wp2_with fail
  refine HC.out.mono ?_
  rintro e w5 ⟨v5, rfl, H5, E5⟩
  go_wp2_with fail
  go_ret
  exact ⟨_, rfl, H5, (E2.trans E4).trans E5⟩
set_option maxHeartbeats 4000000 in
set_option maxRecDepth 100000 in
theorem rbytes_ref {w : World} {p : Nat} {F : List HP} (H : Sat w (rdNo p :: F)) :
    Calls Try.prog 109 #[.pointer (some ⟨p, 0, none⟩), .int .i64 1024] w fun e w' => ∃ v, e = .returned v ∧ Sat w' (own 5 1 v 0 (bytes []) :: rdNo p :: F) ∧ Env w w' := by
  have HN := Lib.hid (rnum_ref H)
  have HT := Lib.hid (take_ref 0 H)
  have HC := Lib.hid (clone_byte none 0 0 (bytes []) H (Rd.nil _ _ _) (bytes_one _) (by omega))
  obtain ⟨v, i, q, H1⟩ := H.rdNo_open
  have x1 := H1.cell 1
  have x2 := H1.cell 2
  go_enter Try.func109, Try.ntmps109
  go_wp2_with fail
  refine HN.out.mono ?_
  rintro e w2 ⟨rfl, rfl⟩
  go_wp2_with fail
  refine HT.out.mono ?_
  rintro e w4 ⟨rfl, rfl⟩
  go_wp2_with fail
  refine HC.out.mono ?_
  rintro e w5 ⟨v5, rfl, H5, E5⟩
  go_wp2_with fail
  go_ret
  exact ⟨_, rfl, H5, E5⟩
end Go.Proofs.Ythbabdjicplooaa
