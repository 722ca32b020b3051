/- package pages: sheets as a record. Conditions: sheets of 1024 bytes, 256 of them at most. -/
import Derived.Test.YthbabdjicplooaaPageEG
namespace Go.Proofs.Ythbabdjicplooaa
open Go.RowKit

theorem Try.info_sheet : (Try.prog.info? 98).map (fun i => (i.zero, i.size, i.bytes)) = some (some (.agg #[.int .i64 0, .slice none 0 0]), 2, 32) := by kernel_rfl
abbrev Sh := Int × Value × List Int
def cellsS (q : Sh) : List Value := [.int .i64 q.1, q.2.1]
def flatS (R : List Sh) : List Value := R.flatMap cellsS
theorem flatS_len (l : List Sh) : (flatS l).length = l.length * 2 := by
  induction l with
  | nil => rfl
  | cons x l ih => simp only [flatS, List.flatMap_cons, List.length_append, List.length_cons] at ih ⊢; simp only [cellsS, List.length_cons, List.length_nil]; omega
theorem flatS_get (l : List Sh) (k : Nat) (hk : k < l.length) (j : Nat) (hj : j < 2) : (flatS l)[k * 2 + j]? = (cellsS l[k])[j]? := by
  induction l generalizing k with
  | nil => simp at hk
  | cons x l ih =>
    cases k with
    | zero =>
      simp only [flatS, List.flatMap_cons, Nat.zero_mul, Nat.zero_add, List.getElem_cons_zero]
      rw [List.getElem?_append_left (by simpa [cellsS] using hj)]
    | succ k =>
      have := ih k (by simpa using hk)
      simp only [flatS, List.flatMap_cons, List.getElem_cons_succ] at this ⊢
      rw [List.getElem?_append_right (by simp [cellsS]; omega), ← this]
      congr 1
      simp [cellsS]; omega
theorem rdS {w : World} {A : Option Addr} {n : Nat} {l : List Sh} (h : Rd w 2 A n (flatS l)) {k : Nat} (hk : k < l.length) :
    ∃ b off, A = some ⟨b, off, none⟩ ∧ w.cell? ⟨b, off + k * 2, none⟩ = some (.int .i64 l[k].1) ∧ w.cell? ⟨b, off + k * 2 + 1, none⟩ = some l[k].2.1 := by
  obtain ⟨b, off, hA, h0⟩ := h.2 (k * 2 + 0) _ (by rw [flatS_get l k hk 0 (by omega)]; rfl)
  obtain ⟨b', off', hA', h1⟩ := h.2 (k * 2 + 1) _ (by rw [flatS_get l k hk 1 (by omega)]; rfl)
  rw [hA] at hA'
  cases hA'
  exact ⟨b, off, hA, h0, by rw [Nat.add_assoc]; exact h1⟩
/-- A sheet that can be read. -/
def ShRd (F : List HP) (q : Sh) : Prop := ∃ A c, q.2.1 = .slice A q.2.2.length c ∧ q.2.2.length ≤ c ∧ Reads F 1 A q.2.2.length (bytes q.2.2)
/-- A sheet as it must be. -/
structure ShOk (q : Sh) : Prop where
  n0 : 0 ≤ q.1
  n1 : q.1 < 512
  len : q.2.2.length = 1024
  inb : InB q.2.2
def encS (q : Sh) : List Int := beL q.1 2 ++ (beL 1024 2 ++ q.2.2)
def recS (R : List Sh) : List Int := R.flatMap encS
theorem recS_snoc (R : List Sh) (q : Sh) : recS (R ++ [q]) = recS R ++ encS q := by simp [recS]
theorem encS_len {q : Sh} (h : ShOk q) : (encS q).length = 1028 := by simp [encS, beL_len, h.len]
theorem recS_len : ∀ {R : List Sh}, (∀ q ∈ R, ShOk q) → (recS R).length = R.length * 1028
  | [], _ => rfl
  | q :: R, h => by
    have := recS_len (R := R) fun x hx => h x (List.mem_cons_of_mem _ hx)
    simp only [recS, List.flatMap_cons, List.length_append, List.length_cons] at this ⊢
    rw [this, encS_len (h q (List.mem_cons_self ..))]; omega
theorem take_succS {R : List Sh} {k : Nat} (h : k < R.length) : recS (R.take (k + 1)) = recS (R.take k) ++ encS R[k] := by
  rw [List.take_succ_eq_append_getElem h, recS_snoc]

set_option maxHeartbeats 8000000 in
set_option maxRecDepth 100000 in
theorem prec_any {w : World} {F : List HP} (A : Option Addr) (n c : Nat) (R : List Sh) (H : Sat w F) (hr : Reads F 2 A n (flatS R)) (hq : ∀ q ∈ R, ShRd F q) (hk : ∀ q ∈ R, ShOk q) (hn : n ≤ 256) :
    Calls Try.prog 97 #[.slice A n c] w fun e w' => ∃ v, e = .returned v ∧ Sat w' (own 5 1 v (recS R).length (bytes (recS R)) :: F) ∧ Env w w' := by
  have HN := Lib.hid (show R.length = n from by have := (hr w H).1; rw [flatS_len] at this; omega)
  have HR := Lib.hid hr
  have HQ := Lib.hid hq
  have HK := Lib.hid hk
  clear hr hq hk
  go_enter Try.func97, Try.ntmps97
  go_wp2_with fail
  refine (wnew H).mono ?_
  rintro e w1 ⟨p, rfl, H1, E1⟩
  clear H
  go_wp2_with fail
  go_loopw [5, 9] (fun _ i wr => ∃ k : Nat, k ≤ n ∧ i = .int .i64 k ∧ Sat wr (wtr p (recS (R.take k)) :: F) ∧ Env w wr) (fun _ i _ => n - (intOf i).toNat)
  case atStart => exact ⟨0, by omega, rfl, H1, E1⟩
  case round =>
    clear H1 E1
    obtain ⟨k, hk, rfl, H2, E2⟩ := hrel
    by_cases hlt : k < n
    · have hkl : k < R.length := by rw [HN.out]; exact hlt
      obtain ⟨b, off, rfl, z0, z1⟩ := rdS (HR.out wr H2.tail) hkl
      have hok := HK.out _ (List.getElem_mem hkl)
      obtain ⟨A1, c1, h1, h2, h3⟩ := HQ.out _ (List.getElem_mem hkl)
      have HS := Lib.hid (take_succS hkl)
      have HL := Lib.hid (show (recS (R.take k)).length ≤ 263168 from by
        rw [recS_len fun q hq => HK.out q (List.mem_of_mem_take hq), List.length_take]; omega)
      generalize R[k] = q at *
      obtain ⟨N, v, x⟩ := q
      dsimp only at z0 z1 h1 h2 h3
      have hxl : x.length = 1024 := hok.len
      subst h1
      rw [hxl] at z1 h2 h3
      have HRX := Lib.hid h3
      have hN0 : 0 ≤ N := hok.n0
      have hN1 : N < 512 := hok.n1
      obtain ⟨M, rfl⟩ := Int.eq_ofNat_of_zero_le hN0
      have hcu : IntKind.u64.wrap (M : Int) = (M : Int) := by rw [IntKind.wrap_u64]; omega
      clear hkl hok h3 hxl
      go_upto_region 5 with fail
      have H3 := H2.alloc (.cells #[.int .i64 M, .slice A1 1024 c1] 98)
      have E3 := E2.alloc (.cells #[.int .i64 M, .slice A1 1024 c1] 98)
      generalize wr.alloc (.cells #[.int .i64 M, .slice A1 1024 c1] 98) = w3 at *
      generalize wr.heap.size = g at *
      have x0 := H3.cell 0
      have x1 := H3.cell 1
      clear H2 E2 z0 z1
      go_wp2_with fail
      refine (wnumber M 2 H3.b1 (by omega) (by omega) (by have := HL.out; omega)).mono ?_
      rintro e w4 ⟨rfl, H4, E4⟩
      have x1 := H4.b1.cell 1
      clear x0 H3
      go_wp2_with fail
      refine (wbytes A1 1024 c1 H4 (fun w h => HRX.out w h.tail) (by omega) h2 (by rw [List.length_append, beL_len]; have := HL.out; omega)).mono ?_
      rintro e w5 ⟨rfl, H5, E5⟩
      rw [show recS (R.take k) ++ beL (M : Int) 2 ++ (beL ((1024 : Nat) : Int) 2 ++ x) = recS (R.take (k + 1)) by rw [HS.out, List.append_assoc]; rfl] at H5
      have H6 := H5.b1.tail
      have E6 := (E3.trans E4).trans E5
      clear H4 H5 E3 E4 E5 x1
      go_wp2_with fail
      go_roundw
      case rel => exact ⟨k + 1, by omega, by go_num, H6, E6⟩
      case measure => simp [intOf]; omega
    · obtain rfl : k = n := by omega
      rw [List.take_of_length_le (by have := HN.out; omega)] at H2
      have HL := Lib.hid (show (recS R).length < 4294967296 from by rw [recS_len HK.out, HN.out]; omega)
      go_wp2_with fail
      refine (wdone H2 HL.out).mono ?_
      rintro e w3 ⟨v3, rfl, H3, E3⟩
      go_wp2_with fail
      go_ret
      exact ⟨_, rfl, H3.b1.tail, E2.trans E3⟩
/-- Sheets that a call has made. -/
def shl (v : Value) (R : List Sh) : HP := all [own 98 2 v R.length (flatS R), ownB (R.map (·.2))]
theorem be2 (x : Int) (h0 : 0 ≤ x) (h1 : x < 65536) : ofBE (beL x 2) = x := by
  have : beL x 2 = [dig x 1, dig x 0] := rfl
  rw [this]
  simp only [ofBE, List.foldl, dig]
  omega
theorem beL_in2 (x : Int) : InB (beL x 2) := fun y hy => by
  have : beL x 2 = [dig x 1, dig x 0] := rfl
  rw [this] at hy
  simp only [dig, List.mem_cons, List.not_mem_nil, or_false] at hy
  rcases hy with rfl | rfl <;> omega
theorem encS_in {q : Sh} (h : ShOk q) : InB (encS q) := (beL_in2 _).app ((beL_in2 _).app h.inb)
theorem recS_in : ∀ {R : List Sh}, (∀ q ∈ R, ShOk q) → InB (recS R)
  | [], _ => fun x hx => by cases hx
  | q :: R, h => by
    have := recS_in (R := R) fun x hx => h x (List.mem_cons_of_mem _ hx)
    exact (encS_in (h q (List.mem_cons_self ..))).app this
theorem recS_at {R : List Sh} (hR : ∀ q ∈ R, ShOk q) {k : Nat} (h : k < R.length) : ∃ rest, (recS R).drop (k * 1028) = encS R[k] ++ rest := by
  have h1 : recS R = recS (R.take k) ++ recS (R.drop k) := by
    have : R = R.take k ++ R.drop k := (List.take_append_drop k R).symm
    conv => lhs; rw [this]
    simp only [recS, List.flatMap_append]
  have h2 : (recS (R.take k)).length = k * 1028 := by rw [recS_len fun q hq => hR q (List.mem_of_mem_take hq), List.length_take]; congr 1; omega
  rw [h1, ← h2, List.drop_left, List.drop_eq_getElem_cons h]
  exact ⟨recS (R.drop (k + 1)), List.flatMap_cons ..⟩
theorem recS_num {R : List Sh} (hR : ∀ q ∈ R, ShOk q) {k : Nat} (h : k < R.length) :
    ofBE (((recS R).drop (k * 1028)).take 2) = R[k].1 ∧ ofBE (((recS R).drop (k * 1028 + 2)).take 2) = 1024 ∧ ((recS R).drop (k * 1028 + 2 + 2)).take 1024 = R[k].2.2 := by
  obtain ⟨rest, hr⟩ := recS_at hR h
  have hok := hR _ (List.getElem_mem h)
  have e2 : (recS R).drop (k * 1028 + 2) = beL 1024 2 ++ R[k].2.2 ++ rest := by
    rw [← List.drop_drop, hr]
    simp only [encS, List.append_assoc]
    rw [List.drop_left' (beL_len _ _)]
  have e3 : (recS R).drop (k * 1028 + 2 + 2) = R[k].2.2 ++ rest := by
    rw [← List.drop_drop, e2, List.append_assoc, List.drop_left' (beL_len _ _)]
  refine ⟨?_, ?_, ?_⟩
  · rw [hr]
    simp only [encS, List.append_assoc]
    rw [List.take_left' (beL_len _ _)]
    exact be2 _ hok.n0 (by have := hok.n1; omega)
  · rw [e2, List.append_assoc, List.take_left' (beL_len _ _)]
    exact be2 _ (by omega) (by omega)
  · rw [e3, List.take_left' hok.len]

set_option maxHeartbeats 8000000 in
set_option maxRecDepth 100000 in
theorem psheets_any {w : World} {F : List HP} (A : Option Addr) (n c : Nat) (R : List Sh) (H : Sat w F) (hr : Rd w 1 A n (bytes (recS R))) (hk : ∀ q ∈ R, ShOk q) (hn : R.length ≤ 256) :
    Calls Try.prog 95 #[.slice A n c] w fun e w' => ∃ v Q, e = .returned v ∧ Q.length = R.length ∧ Q.map (fun q => (q.1, q.2.2)) = R.map (fun q => (q.1, q.2.2)) ∧ Sat w' (shl v Q :: F) ∧ Env w w' := by
  have hlen := recS_len hk
  have hnl : n = R.length * 1028 := by have := hr.1; rw [bytes_len, hlen] at this; omega
  have HI := Lib.hid (recS_in hk)
  have HK := Lib.hid hk
  have HNM := Lib.hid (fun k (h : k < R.length) => recS_num hk h)
  have HX := Lib.hid (rdnew A n c H hr (by omega))
  obtain ⟨xs, hxs⟩ : ∃ xs, recS R = xs := ⟨_, rfl⟩
  rw [hxs] at hlen HI HX HNM
  obtain ⟨m, hm⟩ : ∃ m, R.length = m := ⟨_, rfl⟩
  have HL := Lib.hid (show xs.length = m * 1028 ∧ R.length = m from ⟨by rw [hlen, hm], hm⟩)
  rw [hm] at hn
  clear hr hk hxs hlen hnl hm
  go_enter Try.func95, Try.ntmps95
  go_wp2_with fail
  refine HX.out.mono ?_
  rintro e w1 ⟨p, rfl, H1, E1⟩
  have H1' := (Sat.shut_all (L := [_, _]) ((Sat.shut_all (L := []) H1.rdr_at).own_nil 98 2))
  clear HX H H1
  go_wp2_with fail
  go_loopw [3, 5] (fun s3 _ wr => ∃ (k : Nat) (Q : List Sh) (A3 : Option Addr) (c3 : Nat), k ≤ m ∧ s3 = .slice A3 k c3 ∧ Hid (Q.length = k ∧ Q.map (fun q => (q.1, q.2.2)) = (R.take k).map (fun q => (q.1, q.2.2))) ∧ Sat wr (shl (.slice A3 k c3) Q :: rdAt p xs (k * 1028) :: F) ∧ Env w wr) (fun s3 _ _ => m - (match s3 with | .slice _ k _ => k | _ => 0))
  case atStart => exact ⟨0, [], none, 0, by omega, rfl, Lib.hid ⟨rfl, rfl⟩, H1', E1⟩
  case round =>
    clear H1' E1
    obtain ⟨k, Q, A3, c3, hk, rfl, HQ, H2, E2⟩ := hrel
    have H3 := H2.open_all
    rw [HQ.out.1] at H3
    clear H2
    by_cases hlt : k < m
    · have hkl : k < R.length := by rw [HL.out.2]; exact hlt
      have hnm := HNM.out k hkl
      have hok := HK.out _ (List.getElem_mem hkl)
      have HS := Lib.hid (show (R.take (k + 1)).map (fun q => (q.1, q.2.2)) = (R.take k).map (fun q => (q.1, q.2.2)) ++ [(R[k].1, R[k].2.2)] by rw [List.take_succ_eq_append_getElem hkl, List.map_append]; rfl)
      generalize R[k] = q at *
      obtain ⟨N, v, x⟩ := q
      dsimp only at hnm HS
      have hN0 : 0 ≤ N := hok.n0
      have hN1 : N < 512 := hok.n1
      have hcv : IntKind.i64.wrap N = N := by rw [IntWalk.i64_in _ (by omega)]
      have HN := Lib.hid hnm
      have HXL := Lib.hid (show x.length = 1024 from hok.len)
      have HA := Lib.hid (show k * 1028 + 2 + 2 + 1024 = (k + 1) * 1028 ∧ (k + 1) * 1028 ≤ xs.length ∧ xs.length ≤ 300000 from by have := HL.out.1; omega)
      clear hnm hok hkl
      go_wp2_with fail
      refine (rnum_at H3.b2 (by have := HA.out; omega) (by have := HA.out; omega) HI.out).mono ?_
      rintro e w3 ⟨rfl, H4, E4⟩
      rw [HN.out.1]
      have E4' := E2.trans E4
      clear H3 E2 E4
      go_wp2_with fail
      refine (rbytes_at H4 (by have := HA.out; omega) (by have := HA.out; omega) HI.out HN.out.2.1).mono ?_
      rintro e w5 ⟨v5, rfl, H5, E5⟩
      obtain ⟨A5, c5, rfl, -, -, -⟩ := H5.own_form
      rw [HN.out.2.2, HA.out.1] at H5
      have E5' := E4'.trans E5
      clear H4 E4' E5
      go_upto_region 4 with fail
      have H6 := H5.alloc (.cells #[.int .i64 N, .slice A5 1024 c5] 98)
      have E6 := E5'.alloc (.cells #[.int .i64 N, .slice A5 1024 c5] 98)
      generalize w5.alloc (.cells #[.int .i64 N, .slice A5 1024 c5] 98) = w6 at *
      generalize w5.heap.size = g6 at *
      have x0 := H6.cell 0
      have x1 := H6.cell 1
      clear H5 E5'
      go_wp2_with (at_builtin; go_must (refine wpList_append_sat rfl (.tmp 19) (.tmp 21) 99 rfl (H6.b3.alloc' _) rfl _ 32 Try.underlying99 Try.info_sheet rfl (by omega) _ _ _ [.int .i64 N, .slice A5 1024 c5] rfl (fun h => by cases h) rfl (lit_src _ _ _ _ rfl) (by simp [Value.oneCell']) (by simp only [maxLen]; omega) (by omega) ?_); intro v8 w8 H8 E8; obtain ⟨A8, c8, rfl, -, -, -⟩ := H8.own_form)
      refine ⟨⟨k + 1, Q ++ [(N, .slice A5 1024 c5, x)], A8, c8, by omega, rfl, Lib.hid ⟨by rw [List.length_append, HQ.out.1]; rfl, by rw [List.map_append, HQ.out.2, HS.out]; rfl⟩, ?_, (E6.alloc _).trans E8⟩, by dsimp only; omega⟩
      have H9 := H8.b1.tail.b1.b3.b1
      have H10 : Sat w8 (ownB (Q.map (·.2) ++ [((.slice A5 1024 c5 : Value), x)]) :: own 98 2 (.slice A8 (k + 1) c8) (k + 1) (flatS Q ++ [.int .i64 N, .slice A5 1024 c5]) :: rdAt p xs ((k + 1) * 1028) :: F) := Sat.ownB_snoc (by rw [HXL.out]; exact H9)
      refine Sat.shut_all (L := [_, _]) ?_
      rw [List.length_append, HQ.out.1, List.map_append]
      have hf : flatS (Q ++ [(N, .slice A5 1024 c5, x)]) = flatS Q ++ [.int .i64 N, .slice A5 1024 c5] := by simp [flatS, cellsS]
      rw [hf]
      exact H10.b1
    · obtain rfl : k = m := by omega
      go_wp2_with fail
      refine (rnum_no (by rw [HL.out.1]; exact H3.b2) (by have := HL.out.1; omega)).mono ?_
      rintro e w3 ⟨rfl, H4, E4⟩
      go_wp2_with fail
      refine (rbytes_ref H4).mono ?_
      rintro e w5 ⟨v5, rfl, H5, E5⟩
      obtain ⟨A5, c5, rfl, -, -, -⟩ := H5.own_form
      go_upto_region 4 with fail
      have H6 := H5.alloc (.cells #[.int .i64 0, .slice A5 0 c5] 98)
      have E6 := ((E2.trans E4).trans E5).alloc (.cells #[.int .i64 0, .slice A5 0 c5] 98)
      generalize w5.alloc (.cells #[.int .i64 0, .slice A5 0 c5] 98) = w6 at *
      generalize w5.heap.size = g6 at *
      have x0 := H6.cell 0
      have x1 := H6.cell 1
      clear H5 H4 H3
      go_wp2_with fail
      go_ret
      exact ⟨_, Q, rfl, HQ.out.1.trans HL.out.2.symm, by rw [HQ.out.2, List.take_of_length_le (by have := HL.out.2; omega)], Sat.shut_all (L := [_, _]) (by rw [HQ.out.1]; exact H6.tail.tail.tail), E6⟩
end Go.Proofs.Ythbabdjicplooaa
