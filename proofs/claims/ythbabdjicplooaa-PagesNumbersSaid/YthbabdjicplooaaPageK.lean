/- package pages: Open. Conditions: epochs below 190. -/
import Derived.Test.YthbabdjicplooaaPageJ
namespace Go.Proofs.Ythbabdjicplooaa
open Go.RowKit

def shF (q : Sh) : Int × List Int := (q.1, q.2.2)
theorem shF_1 {q r : Sh} (h : shF q = shF r) : q.1 = r.1 := (Prod.mk.inj h).1
theorem shF_2 {q r : Sh} (h : shF q = shF r) : q.2.2 = r.2.2 := (Prod.mk.inj h).2
theorem map_ind {P : List Sh → List Sh → Prop} (h0 : P [] []) (h1 : ∀ q r Q R, shF q = shF r → P Q R → P (q :: Q) (r :: R)) : ∀ Q R : List Sh, Q.map shF = R.map shF → P Q R
  | [], [], _ => h0
  | [], _ :: _, h => by simp at h
  | _ :: _, [], h => by simp at h
  | q :: Q, r :: R, h => by
    rw [List.map_cons, List.map_cons, List.cons.injEq] at h
    exact h1 q r Q R h.1 (map_ind h0 h1 Q R h.2)
theorem updR_same {Q R : List Sh} (h : Q.map shF = R.map shF) (m : Nat → List Int) : updR m Q = updR m R := by
  refine map_ind (P := fun Q R => updR m Q = updR m R) rfl (fun q r Q R h ih => ?_) Q R h
  have h1 : q.1 = r.1 := shF_1 h
  have h2 : q.2.2 = r.2.2 := shF_2 h
  funext n
  simp only [updR, h1, h2, ih]
theorem recS_same {Q R : List Sh} (h : Q.map shF = R.map shF) : recS Q = recS R := by
  refine map_ind (P := fun Q R => recS Q = recS R) rfl (fun q r Q R h ih => ?_) Q R h
  have h1 : q.1 = r.1 := shF_1 h
  have h2 : q.2.2 = r.2.2 := shF_2 h
  simp only [recS, List.flatMap_cons] at ih ⊢
  rw [ih, encS, encS, h1, h2]
theorem mem_same {Q R : List Sh} (h : Q.map shF = R.map shF) {q : Sh} (hq : q ∈ Q) : ∃ r ∈ R, shF r = shF q := by
  have : shF q ∈ R.map shF := h ▸ List.mem_map.2 ⟨q, hq, rfl⟩
  obtain ⟨r, hr, he⟩ := List.mem_map.1 this
  exact ⟨r, hr, he⟩
theorem no_same {Q R : List Sh} (h : Q.map shF = R.map shF) {n : Nat} (hq : ∀ r ∈ R, r.1.toNat ≠ n) : ∀ q ∈ Q, q.1.toNat ≠ n := fun q hm => by
  obtain ⟨r, hr, he⟩ := mem_same h hm
  have h1 : r.1 = q.1 := shF_1 he
  rw [← h1]; exact hq r hr
theorem Shs.same {Q R : List Sh} (h : Q.map shF = R.map shF) (hR : Shs R) : Shs Q := by
  refine ⟨fun q hq => ?_, ?_, ?_⟩
  · obtain ⟨r, hr, he⟩ := mem_same h hq
    have h1 : r.1 = q.1 := shF_1 he
    have h2 : r.2.2 = q.2.2 := shF_2 he
    have := hR.ok r hr
    exact ⟨h1 ▸ this.n0, h1 ▸ this.n1, h2 ▸ this.len, h2 ▸ this.inb⟩
  · have e : ∀ l : List Sh, l.map (fun q => q.1.toNat) = (l.map shF).map (fun x => x.1.toNat) := fun l => by rw [List.map_map]; rfl
    rw [e, h, ← e]; exact hR.nd
  · have := congrArg List.length h
    rw [List.length_map, List.length_map] at this
    rw [this]; exact hR.len
theorem Logged.same {D : Dsk} {L : LogV} {e : Nat} {m : Nat → List Int} {Q R : List Sh} (h : Q.map shF = R.map shF) (hl : Logged D L e m Q) : Logged D L e m R :=
  ⟨hl.st, by rw [hl.recs, recS_same h], fun n hn hno => hl.pg n hn (no_same h hno)⟩
theorem After.same {D : Dsk} {e : Nat} {m : Nat → List Int} {Q R : List Sh} (h : Q.map shF = R.map shF) (ha : After D e m Q) : After D e m R := by
  rcases ha with h1 | ⟨L, h1⟩ | ⟨L, h1⟩
  · exact .inl h1
  · exact .inr (.inl ⟨L, h1.same h⟩)
  · exact .inr (.inr ⟨L, updR_same h m ▸ h1⟩)
/-- What is opened: pages as they are, or with a record that must be laid. -/
def Opens (D : Dsk) (L : LogV) (e : Nat) (m : Nat → List Int) (R : List Sh) : Prop := Clean D L e m ∨ (Logged D L e m R ∧ Shs R)
theorem Opens.st {D : Dsk} {L : LogV} {e : Nat} {m : Nat → List Int} {R : List Sh} (h : Opens D L e m R) : PSt D L e := h.elim (·.st) (·.1.st)
theorem Opens.len {D : Dsk} {L : LogV} {e : Nat} {m : Nat → List Int} {R : List Sh} (h : Opens D L e m R) : L.recs.length ≤ 1 ∧ ∀ b ∈ L.recs, b.length < 4294967296 := by
  rcases h with h | ⟨h, hR⟩
  · rw [h.recs]; exact ⟨by simp, fun b hb => by cases hb⟩
  · rw [h.recs]
    refine ⟨by simp, fun b hb => ?_⟩
    rw [List.mem_singleton.1 hb, recS_len hR.ok]
    have := hR.len; omega
structure OpenW (D D' : Dsk) (L L' : LogV) (e : Nat) (m : Nat → List Int) (R : List Sh) (r : Int) : Prop where
  or : r = 0 ∨ r = 13
  ok : r = 0 → (L.recs = [] ∧ D' = D ∧ L' = L) ∨ (L.recs ≠ [] ∧ Clean D' L' (e + 1) (updR m R))
  no : r = 13 → L.recs ≠ [] ∧ ∀ keep torn nb, After (D'.crash keep torn nb) (e + 1) m R
  pend : D'.pend.length < 1000000
  fine : D.left = none → r = 0 ∧ D'.left = none

structure OpI (D : Dsk) (L : LogV) (e : Nat) (m : Nat → List Int) (R : List Sh) (k : Nat) (D1 : Dsk) (L1 : LogV) : Prop where
  zero : k = 0 → D1 = D ∧ L1 = L
  one : k = 1 → Clean D1 L1 (e + 1) (updR m R) ∧ (D.left = none → D1.left = none) ∧ D1.pend.length < 1000000

set_option maxHeartbeats 16000000 in
set_option maxRecDepth 100000 in
theorem popen_any {w : World} {d : Nat} {D : Dsk} {L : LogV} {e : Nat} {m : Nat → List Int} {R : List Sh} {F : List HP} (H : Sat w (disk d D :: F)) (hO : Opens D L e m R) (he : e < 190) :
    Calls Try.prog 58 #[.pointer (some ⟨d, 0, none⟩)] w fun e' w' => ∃ r s p D' L', OpenW D D' L L' e m R r ∧ e' = .returned (.tuple #[if r = 0 then .pointer (some ⟨s, 0, none⟩) else .pointer none, .int .i64 r]) ∧ (r = 0 → Sat w' (sto s d p (D'.rd 7679) :: logc p d L' :: disk d D' :: F)) ∧ Sat w' (disk d D' :: F) ∧ Env w w' := by
  have HO := Lib.hid hO
  have hst := hO.st
  have HF := Lib.hid (pfits_yes H hst.len)
  have HRD := Lib.hid (dread 7679 H (by have := hst.len; omega))
  have HT := Lib.hid (show decide ((D.rd 7679).take 5 = titleL) = true from decide_eq_true hst.title)
  have HIN := Lib.hid (hst.inv.db.rd 7679).1
  have kc := fun (w : World) (C : Array Value) (n c : Nat) => Lib.run_convert_bytes_const (P := Try.prog) w 30 5 C n c Try.underlying30 Try.underlying5
  clear hO hst
  obtain ⟨S, hS⟩ : ∃ S, D.rd 7679 = S := ⟨_, rfl⟩
  rw [hS] at HRD HT HIN
  have HS := Lib.hid hS
  clear hS
  go_enter Try.func58, Try.ntmps58
  go_wp2_with fail
  refine HF.out.mono ?_
  rintro e' w1 ⟨rfl, rfl⟩
  clear HF
  go_wp2_with fail
  refine HRD.out.mono ?_
  rintro e' w2 ⟨v2, rfl, H2, E2⟩
  obtain ⟨A2, c2, rfl, -, -, -⟩ := H2.own_form
  clear HRD H
  have H3 := H2.alloc (.cells #[.int .u8 112, .int .u8 97, .int .u8 103, .int .u8 101, .int .u8 115] 5 (5, 6))
  have E3 := E2.alloc (.cells #[.int .u8 112, .int .u8 97, .int .u8 103, .int .u8 101, .int .u8 115] 5 (5, 6))
  have hc2 := H2.own_at.2.2
  have HPX := Lib.hid (prefix_any A2 (some ⟨w2.heap.size, 0, none⟩) c2 5 S _ H3.b1.own_at.1 hc2 (H3.blk_rd titleL) HIN.out)
  rw [HT.out] at HPX
  clear hc2
  go_upto_region 6 with (refine HPX.out.mono ?_; rintro e' w4 ⟨rfl, rfl⟩)
  generalize w2.alloc (.cells #[.int .u8 112, .int .u8 97, .int .u8 103, .int .u8 101, .int .u8 115] 5 (5, 6)) = w4 at *
  have H4 := H3.tail
  clear H2 E2 H3 HPX
  go_wp2_with fail
  refine (open_at 4096 3583 HO.out.st.inv HO.out.st.from_ HO.out.st.count H4.b1).mono ?_
  rintro e' w5 ⟨p, rfl, H5, E5⟩
  have E5' := E3.trans E5
  clear H4 E3 E5
  go_upto_region 9 with fail
  have H6 := H5.alloc (.cells #[.pointer (some ⟨d, 0, none⟩), .pointer (some ⟨p, 0, none⟩), .slice A2 128 c2] 148)
  have E6 := E5'.alloc (.cells #[.pointer (some ⟨d, 0, none⟩), .pointer (some ⟨p, 0, none⟩), .slice A2 128 c2] 148)
  go_upto_region 10 with fail
  generalize w5.alloc (.cells #[.pointer (some ⟨d, 0, none⟩), .pointer (some ⟨p, 0, none⟩), .slice A2 128 c2] 148) = w6 at *
  generalize w5.heap.size = s at *
  have H7 := H6.b3.b1.sto_shut
  clear H5 H6 E5'
  have HLN := Lib.hid HO.out.len
  go_wp2_with fail
  refine (records_log H7.b1 HO.out.st.inv.ok HLN.out.2).mono ?_
  rintro e' w8 ⟨v8, rfl, H8, E8⟩
  have E8' := E6.trans E8
  obtain ⟨RR, hRR, H9⟩ := H8.recL_open
  have HRR := Lib.hid hRR
  have hnn : RR.length ≤ 1 := by rw [← List.length_map (f := (·.2)), hRR]; exact HLN.out.1
  obtain ⟨nn, hn⟩ : ∃ nn, RR.length = nn := ⟨_, rfl⟩
  rw [hn] at H9 hnn
  obtain ⟨A8, c8, rfl, -, -, -⟩ := H9.own_form
  have HNN := Lib.hid hn
  rw [← HS.out] at H9
  have H10 := H9.b3.p2
  clear H7 H8 H9 E6 E8 hRR hn HS HIN HT S
  go_wp2_with fail
  go_loopw [10, 11, 41] (fun _ _ i wr => ∃ (k : Nat) (D1 : Dsk) (L1 : LogV), k ≤ nn ∧ i = .int .i64 k ∧ Hid (OpI D L e m R k D1 L1) ∧ Sat wr (own 30 1 (.slice A8 nn c8) nn (RR.map (·.1)) :: ownB RR :: sto s d p (D1.rd 7679) :: logc p d L1 :: disk d D1 :: F) ∧ Env w wr) (fun _ _ i _ => nn - (intOf i).toNat)
  case atStart => exact ⟨0, D, L, by omega, rfl, Lib.hid ⟨fun _ => ⟨rfl, rfl⟩, fun h => by omega⟩, H10, E8'⟩
  case round =>
    clear H10 E8'
    obtain ⟨k, D1, L1, hk, rfl, HI, H2, E2⟩ := hrel
    by_cases hlt : k < nn
    · obtain rfl : k = 0 := by omega
      obtain rfl : nn = 1 := by omega
      obtain ⟨rfl, rfl⟩ := HI.out.zero rfl
      have HLG := Lib.hid (show Logged D1 L1 e m R ∧ Shs R from by
        rcases HO.out with h | h
        · have := HRR.out; rw [h.recs, List.map_eq_nil_iff] at this; have := HNN.out; simp_all
        · exact h)
      obtain ⟨q, rfl⟩ : ∃ q, RR = [q] := by
        match RR, HNN.out with
        | [q], _ => exact ⟨q, rfl⟩
      have hq2 : q.2 = recS R := by have := HRR.out; rw [HLG.out.1.recs] at this; simpa using this
      obtain ⟨A9, c9, h1, h2, h3⟩ := H2.b1.ownB_at (q := q) (List.mem_singleton.2 rfl)
      obtain ⟨v9, x9⟩ := q
      dsimp only at h1 h2 h3 hq2
      subst hq2
      subst h1
      obtain ⟨b8, c8', hA8, -⟩ := H2.own_addr (by omega)
      injection hA8 with hA8 _ hc8
      subst hA8; subst hc8
      have z0 := H2.own_cell 0 (.slice A9 (recS R).length c9) rfl
      have HR9 := Lib.hid h3
      clear h3 h2
      go_wp2_with fail
      refine (psheets_any A9 (recS R).length c9 R H2 HR9.out HLG.out.2.ok HLG.out.2.len).mono ?_
      rintro e' w5 ⟨v5, Q, rfl, hQ1, hQ2, H5, E5⟩
      have HQ := Lib.hid (show Q.map shF = R.map shF from hQ2)
      have H6 := H5.open_all
      obtain ⟨nq, hnq⟩ : ∃ nq, Q.length = nq := ⟨_, rfl⟩
      rw [hnq] at H6
      obtain ⟨A5, c5, rfl, -, -, -⟩ := Sat.own_form H6
      have H7 := Sat.b6 (Sat.b6 (Sat.b6 (show Sat w5 (own 98 2 (.slice A5 nq c5) nq (flatS Q) :: ownB (Q.map (·.2)) :: own 30 1 (.slice (some ⟨b8, 0, none⟩) 1 c8) 1 [.slice A9 (recS R).length c9] :: ownB [(.slice A9 (recS R).length c9, recS R)] :: sto s d p (D1.rd 7679) :: logc p d L1 :: disk d D1 :: F) from H6)))
      have HSQ := Lib.hid (HLG.out.2.same HQ.out)
      have E7 := E2.trans E5
      have HNQ := Lib.hid hnq
      clear H2 H5 H6 E2 E5 z0 hQ1 hQ2 hnq
      go_wp2_with fail
      refine (lay_any A5 nq c5 Q H7 (fun w h => h.own_at.1) (fun q hq => ?_) HSQ.out.ok (by rw [← HNQ.out]; exact HSQ.out.len) HSQ.out.nd (HLG.out.1.st.base (by omega)) rfl).mono ?_
      · have hm : q.2 ∈ Q.map (·.2) := List.mem_map.2 ⟨q, hq, rfl⟩
        obtain ⟨A', c', g1, g2, -⟩ := (H7.tail.tail.tail.b1).ownB_at hm
        refine ⟨A', c', g1, g2, fun w h => ?_⟩
        obtain ⟨A2, c2, g3, -, g4⟩ := h.b1.ownB_at hm
        rw [g1] at g3
        cases g3
        exact g4
      rintro e' w6 ⟨r, S', D2, rfl, hW, hS, H8, E8⟩
      have HW := Lib.hid hW
      have HS := Lib.hid hS
      have E9 := E7.trans E8
      rcases hW.or with rfl | rfl
      · clear hW hS
        rw [HS.out rfl] at H8
        have HC := Lib.hid (show Clean D2 (clearL L1) (e + 1) (updR m R) from by
          have := HW.out.new HLG.out.1.st HSQ.out (fun n hn hno => HLG.out.1.pg n hn (no_same HQ.out.symm hno)) rfl
          rwa [updR_same HQ.out m] at this)
        have H9 : Sat w6 (own 30 1 (.slice (some ⟨b8, 0, none⟩) 1 c8) 1 [.slice A9 (recS R).length c9] :: ownB [(.slice A9 (recS R).length c9, recS R)] :: sto s d p (D2.rd 7679) :: logc p d (clearL L1) :: disk d D2 :: F) := H8.b3.tail.b3.tail.b4.b4
        clear H7 H8 E7 E8
        go_wp2_with fail
        go_roundw
        case rel => exact ⟨_, _, _, _, _, _, _, _, _, _, _, _, _, _, _, _, ⟨1, D2, clearL L1, by omega, by go_num, Lib.hid ⟨fun h => by omega, fun _ => ⟨HC.out, fun h => (HW.out.fine h).2, HW.out.pend⟩⟩, H9, E9⟩, rfl⟩
        case measure => simp [intOf]
      · clear hW hS
        have H9 : Sat w6 (disk d D2 :: F) := H8.tail.tail.b1.tail.b1.tail.b1.tail.b1.tail
        have HA := Lib.hid (show ∀ keep torn nb, After (D2.crash keep torn nb) (e + 1) m R from fun keep torn nb =>
          (HW.out.after HLG.out.1.st (by rw [HLG.out.1.recs, recS_same HQ.out]) HSQ.out (fun n hn hno => HLG.out.1.pg n hn (no_same HQ.out.symm hno)) rfl keep torn nb).same HQ.out)
        clear H7 H8 E7 E8
        go_wp2_with fail
        go_ret2
        exact ⟨13, s, p, D2, L1, ⟨.inr rfl, fun h => by omega, fun _ => ⟨by rw [HLG.out.1.recs]; simp, HA.out⟩, HW.out.pend, fun h => by have := (HW.out.fine h).1; omega⟩, rfl, fun h => by omega, H9, E9⟩
    · obtain rfl : k = nn := by omega
      have H3 := H2.tail.tail
      have H4 := H3.tail.tail
      go_wp2_with fail
      go_ret2
      refine ⟨0, s, p, D1, L1, ⟨.inl rfl, fun _ => ?_, fun h => by omega, ?_, fun h => ⟨rfl, ?_⟩⟩, rfl, fun _ => H3, H4, E2⟩
      all_goals
        rcases Nat.lt_or_ge 0 k with h1 | h1
      · have h2 := HI.out.one (by omega)
        exact .inr ⟨fun h3 => by have := HRR.out; rw [h3, List.map_eq_nil_iff] at this; have := HNN.out; simp_all, h2.1⟩
      · have h2 := HI.out.zero (by omega)
        exact .inl ⟨by have := HNN.out; rw [← HRR.out, List.eq_nil_of_length_eq_zero (l := RR) (by omega)]; rfl, h2.1, h2.2⟩
      · exact (HI.out.one (by omega)).2.2
      · rw [(HI.out.zero (by omega)).1, HO.out.st.inv.pend]; simp
      · exact (HI.out.one (by omega)).2.1 h
      · rw [(HI.out.zero (by omega)).1]; exact h
end Go.Proofs.Ythbabdjicplooaa
