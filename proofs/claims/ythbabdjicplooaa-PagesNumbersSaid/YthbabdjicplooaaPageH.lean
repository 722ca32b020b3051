/- package pages: lay. Conditions: sheets of 1024 bytes, 256 of them at most, no page twice. -/
import Derived.Test.YthbabdjicplooaaPageG
namespace Go.Proofs.Ythbabdjicplooaa
open Go.RowKit

/-- lay has gone, or the disk has stopped. -/
structure LayW (D0 D' : Dsk) (L : LogV) (R : List Sh) (r : Int) : Prop where
  or : r = 0 ∨ r = 13
  ok : r = 0 → Inv D' (clearL L) ∧ NewD D0 D' R
  no : r = 13 → ∀ keep torn nb, (Inv (D'.crash keep torn nb) L ∧ MidD D0 (D'.crash keep torn nb) R) ∨ (Inv (D'.crash keep torn nb) (clearL L) ∧ NewD D0 (D'.crash keep torn nb) R)
  pend : D'.pend.length < 1000000
  fine : D0.left = none → r = 0 ∧ D'.left = none
theorem LayI.sea {D0 D : Dsk} {R : List Sh} {i k : Nat} (h : LayI D0 D R i k) (h0 : D0.pend = []) (hok : ∀ q ∈ R, ShOk q) : D.rd 7679 = D0.rd 7679 := by
  rcases rd_lastP D 7679 with ⟨x, hx, -⟩ | ⟨-, h1⟩
  · have := (secR_some hok (h.at_ _ hx)).2.2; omega
  · rw [h1, rd_pend h0, h.safe]
theorem LayI.wseal {D0 D : Dsk} {R : List Sh} {i k : Nat} (h : LayI D0 D R i k) (hi : i * 8 + k ≤ 2999) (hb : DB D0) : LayS D0 (D.write 7679 (sealR (D0.rd 7679) R)) R := by
  have h1 := hb.rd 7679
  refine ⟨h.safe, fun p hp => ?_, ?_, fun hl => by simp [Dsk.write, h.left hl], h.db.write _ (sealR_in h1.1 R) (by rw [sealR_len]; exact h1.2)⟩
  · rcases List.mem_append.1 hp with hp | hp
    · exact .inl (h.at_ p hp)
    · rw [List.mem_singleton.1 hp]; exact .inr ⟨rfl, rfl⟩
  · have := h.pl
    simp only [Dsk.write, List.length_append, List.length_cons, List.length_nil]; omega
/-- All is written. -/
structure LayA (D0 D : Dsk) (R : List Sh) : Prop where
  s : LayS D0 D R
  sea : D.rd 7679 = sealR (D0.rd 7679) R
  done : ∀ j (h : j < R.length), ∀ t < 8, D.rd (R[j].1.toNat * 8 + t) = partB R[j].2.2 t
structure PBase (D : Dsk) (L : LogV) : Prop where
  inv : Inv D L
  from_ : L.from_ = 4096
  count : L.count = 3583
  len : 7680 ≤ D.safe.length
  ep : L.epoch + 1 < 250
theorem LayS.stop {D0 D : Dsk} {L : LogV} {R : List Sh} (h : LayS D0 D R) (hb : PBase D0 L) (hok : ∀ q ∈ R, ShOk q) (hl : D.left = some 0) : LayW D0 D L R 13 := by
  refine ⟨.inr rfl, fun h => by omega, fun _ keep torn nb => .inl ?_, by have := h.pl; omega, fun h0 => by have := h.left h0; rw [hl] at this; cases this⟩
  have hc := h.crash hb.inv.db hb.inv.pend hok hb.len keep torn nb
  have h1 := hb.from_
  have h2 := hb.count
  exact ⟨hb.inv.other rfl (h.db.crash keep torn nb) hc.1.len (fun k h3 h4 => hc.2 k (by omega) (by omega)), hc.1⟩
theorem LayS.went {D0 D D' : Dsk} {L : LogV} {R : List Sh} {r : Int} (h : LayS D0 D R) (hb : PBase D0 L) (hn : NewD D0 D.flush R) (hi : Inv D.flush L) (hw : Went D.flush D' L (clearL L) r) : LayW D0 D' L R r := by
  have h1 := hb.from_
  have h2 := hb.count
  have hl := hb.len
  have move : ∀ E, Rest D.flush E L → NewD D0 E R := fun E hr => by
    have hlf := hn.len
    exact ⟨hr.1.trans hn.len, (hr.2 7679 (by omega) (by omega)).trans hn.sea, fun k hk => (hr.2 k (by omega) (by omega)).trans (hn.sec k hk)⟩
  refine ⟨hw.or, fun h0 => ⟨(hw.ok h0).1, move _ (hw.ok h0).2⟩, fun h0 keep torn nb => ?_, hw.pend, fun h0 => hw.fine ?_⟩
  · obtain ⟨h3 | h3, h4⟩ := hw.no h0 keep torn nb
    · exact .inl ⟨h3, (move _ h4).mid⟩
    · exact .inr ⟨h3, move _ h4⟩
  · simp [Dsk.flush, h.left h0]

theorem LayA.flushed {D0 D : Dsk} {L : LogV} {R : List Sh} (h : LayA D0 D R) (hb : PBase D0 L) (hok : ∀ q ∈ R, ShOk q) : NewD D0 D.flush R ∧ Inv D.flush L := by
  have hf := h.s.flush hb.inv.pend hok hb.len h.sea h.done
  have h1 := hb.from_
  have h2 := hb.count
  exact ⟨hf.1, hb.inv.other rfl h.s.db.flush hf.1.len fun k h3 h4 => hf.2 k (by omega) (by omega)⟩
theorem Sat.sto_c0 {w : World} {s d p : Nat} {S : List Int} {F : List HP} (H : Sat w (sto s d p S :: F)) : w.cell? ⟨s, 0, none⟩ = some (.pointer (some ⟨d, 0, none⟩)) := by
  obtain ⟨A, c, H1⟩ := H.sto_open
  exact H1.cell 0
theorem Sat.sto_c1 {w : World} {s d p : Nat} {S : List Int} {F : List HP} (H : Sat w (sto s d p S :: F)) : w.cell? ⟨s, 1, none⟩ = some (.pointer (some ⟨p, 0, none⟩)) := by
  obtain ⟨A, c, H1⟩ := H.sto_open
  exact H1.cell 1
theorem rd_part {w : World} {b o : Nat} {x : List Int} (h : Rd w 1 (some ⟨b, o, none⟩) 1024 (bytes x)) {j j1 : Nat} (hj : j < 8) (hj1 : j * 128 = j1) : Rd w 1 (some ⟨b, o + j1, none⟩) 128 (bytes (partB x j)) := by
  have hx : x.length = 1024 := by have := h.1; rw [bytes_len] at this; omega
  refine ⟨by rw [bytes_len, partB, List.length_take, List.length_drop]; omega, fun q u hu => ?_⟩
  have hq : q < 128 := by
    have := (List.getElem?_eq_some_iff.1 hu).1
    rw [bytes_len, partB, List.length_take] at this; omega
  have hu2 : (bytes x)[j1 + q]? = some u := by
    rw [← hu, bytes, bytes, partB, List.getElem?_map, List.getElem?_map, List.getElem?_take, if_pos hq, List.getElem?_drop, hj1]
  obtain ⟨b', o', hA, hc⟩ := h.2 (j1 + q) u hu2
  cases hA
  exact ⟨_, _, rfl, by rw [Nat.add_assoc]; exact hc⟩

set_option maxHeartbeats 16000000 in
set_option maxRecDepth 100000 in
theorem lay_any {w : World} {s d p : Nat} {S : List Int} {D : Dsk} {L : LogV} {F : List HP} (A : Option Addr) (n c : Nat) (R : List Sh)
    (H : Sat w (sto s d p S :: logc p d L :: disk d D :: F)) (hr : Reads F 2 A n (flatS R)) (hq : ∀ q ∈ R, ShRd F q) (hk : ∀ q ∈ R, ShOk q) (hn : n ≤ 256) (hd : (R.map (fun q => q.1.toNat)).Nodup) (hb : PBase D L) (hS : D.rd 7679 = S) :
    Calls Try.prog 94 #[.pointer (some ⟨s, 0, none⟩), .slice A n c] w fun e w' => ∃ r S' D', e = .returned (.int .i64 r) ∧ LayW D D' L R r ∧ (r = 0 → S' = D'.rd 7679) ∧ Sat w' (sto s d p S' :: logc p d (okL r (clearL L) L) :: disk d D' :: F) ∧ Env w w' := by
  have HN := Lib.hid (show R.length = n from by have := (hr w H.tail.tail.tail).1; rw [flatS_len] at this; omega)
  have HR := Lib.hid hr
  have HQ := Lib.hid hq
  have HK := Lib.hid hk
  have HD := Lib.hid hd
  have HB := Lib.hid hb
  have HS := Lib.hid (show InB S ∧ S.length = 128 ∧ D.rd 7679 = S from ⟨hS ▸ (hb.inv.db.rd 7679).1, hS ▸ (hb.inv.db.rd 7679).2, hS⟩)
  have HLI := Lib.hid (LayI.start (D := D) R hb.inv.pend hb.inv.db)
  clear hr hq hk hd hb hS
  obtain ⟨A0, c0, H1⟩ := H.sto_open
  have x2 := H1.cell 2
  have HC := Lib.hid (clone_byte A0 128 c0 (bytes S) H H1.b1.own_at.1 (bytes_one _) (by omega))
  go_enter Try.func94, Try.ntmps94
  go_wp2_with fail
  refine HC.out.mono ?_
  rintro e w2 ⟨v2, rfl, H2, E2⟩
  obtain ⟨Aw, cw, rfl, -, -, -⟩ := H2.own_form
  have H3 := H2.b1
  clear HC H H1 x2 H2
  go_wp2_with fail
  go_loopw [7, 8, 9, 10, 11, 12, 22, 26] (fun _ _ _ _ _ _ i _ wr => ∃ (k : Nat) (D1 : Dsk), k ≤ n ∧ i = .int .i64 k ∧ Hid (LayI D D1 R k 0) ∧ Sat wr (sto s d p (sealR S (R.take k)) :: own 5 1 (.slice Aw 128 cw) 128 (bytes S) :: logc p d L :: disk d D1 :: F) ∧ Env w wr) (fun _ _ _ _ _ _ i _ _ => n - (intOf i).toNat)
  case atStart => exact ⟨0, D, by omega, rfl, HLI, H3, E2⟩
  case round =>
    clear H3 E2 HLI
    obtain ⟨k, D1, hk, rfl, HLI, H4, E4⟩ := hrel
    by_cases hlt : k < n
    · have hkl : k < R.length := by rw [HN.out]; exact hlt
      obtain ⟨b, off, rfl, z0, z1⟩ := rdS (HR.out wr H4.tail.tail.tail.tail) hkl
      have hok := HK.out _ (List.getElem_mem hkl)
      obtain ⟨A1, c1, h1, h2, h3⟩ := HQ.out _ (List.getElem_mem hkl)
      have hts : sealR S (R.take (k + 1)) = setB (sealR S (R.take k)) R[k].1.toNat := by rw [List.take_succ_eq_append_getElem hkl, sealR_snoc]
      obtain ⟨q, hqk⟩ : ∃ q, R[k] = q := ⟨_, rfl⟩
      have HLK := Lib.hid (show ∃ h : k < R.length, R[k] = q from ⟨hkl, hqk⟩)
      rw [hqk] at z0 z1 hok h1 h2 h3 hts
      have HTS := Lib.hid hts
      clear hqk hkl hts
      obtain ⟨N, v, x⟩ := q
      dsimp only at z0 z1 h1 h2 h3 HTS
      have hxl : x.length = 1024 := hok.len
      subst h1
      rw [hxl] at z1 h2 h3
      have hN0 : 0 ≤ N := hok.n0
      have hN1 : N < 512 := hok.n1
      obtain ⟨M, rfl⟩ := Int.eq_ofNat_of_zero_le hN0
      obtain ⟨b1, o1, hA1, -⟩ := (h3 wr H4.tail.tail.tail.tail).2 0 (.int .u8 (x.getD 0 0)) (bytes_atP (by omega))
      subst hA1
      have HX := Lib.hid (show InB x ∧ x.length = 1024 from ⟨hok.inb, hxl⟩)
      have HRX := Lib.hid h3
      clear h3 hok hxl
      go_upto_region 5 with fail
      have H5 := H4.alloc (.cells #[.int .i64 M, .slice (some ⟨b1, o1, none⟩) 1024 c1] 98)
      have E5 := E4.alloc (.cells #[.int .i64 M, .slice (some ⟨b1, o1, none⟩) 1024 c1] 98)
      generalize wr.alloc (.cells #[.int .i64 M, .slice (some ⟨b1, o1, none⟩) 1024 c1] 98) = w5 at *
      generalize wr.heap.size = g at *
      clear H4 E4 z0 z1
      go_wp2_with fail
      go_loopw [8, 9, 10, 11, 12, 26] (fun _ _ _ _ _ i wr => ∃ (j : Nat) (D2 : Dsk), j ≤ 8 ∧ i = .int .i64 j ∧ Hid (LayI D D2 R k j) ∧ Sat wr (blk g (.cells #[.int .i64 M, .slice (some ⟨b1, o1, none⟩) 1024 c1] 98) :: sto s d p (sealR S (R.take k)) :: own 5 1 (.slice Aw 128 cw) 128 (bytes S) :: logc p d L :: disk d D2 :: F) ∧ Env w wr) (fun _ _ _ _ _ i _ => 8 - (intOf i).toNat)
      case atStart => exact ⟨0, D1, by omega, rfl, HLI, H5, E5⟩
      case round =>
        clear H5 E5 HLI
        obtain ⟨j, D2, hj, rfl, HLI, H6, E6⟩ := hrel
        by_cases hlj : j < 8
        · obtain ⟨j1, hj1⟩ : ∃ m : Nat, j * 128 = m := ⟨_, rfl⟩
          obtain ⟨j2, hj2⟩ : ∃ m : Nat, (j + 1) * 128 = m := ⟨_, rfl⟩
          obtain ⟨jn, hjn⟩ : ∃ m : Nat, j + 1 = m := ⟨_, rfl⟩
          have hw1 : IntKind.i64.wrap ((j : Int) * 128) = (j1 : Int) := by rw [IntWalk.i64_in _ (by omega)]; omega
          have hw2 : IntKind.i64.wrap ((jn : Int) * 128) = (j2 : Int) := by rw [IntWalk.i64_in _ (by omega)]; omega
          have hw3 : IntKind.i64.wrap ((j : Int) + 1) = (jn : Int) := by rw [IntWalk.i64_in _ (by omega)]; omega
          have h4 : (j1 : Int) ≤ (j2 : Int) := by omega
          have h5 : (j2 : Int) ≤ (c1 : Int) := by omega
          have h6 : (0 : Int) ≤ (j1 : Int) := by omega
          have h7 : ¬ c1 = j1 := by omega
          have HJ := Lib.hid (And.intro hj1 (And.intro hj2 hjn))
          have x1 := H6.cell 1
          clear hj1 hj2 hjn
          go_upto_region 9 with fail
          rw [show j2 - j1 = 128 by have := HJ.out; omega]
          obtain ⟨m8, hm8⟩ : ∃ m : Nat, M * 8 = m := ⟨_, rfl⟩
          obtain ⟨m, hm⟩ : ∃ m : Nat, m8 + j = m := ⟨_, rfl⟩
          have hw4 : IntKind.i64.wrap ((M : Int) * 8) = (m8 : Int) := by rw [IntWalk.i64_in _ (by omega)]; omega
          have hw5 : IntKind.i64.wrap ((m8 : Int) + (j : Int)) = (m : Int) := by rw [IntWalk.i64_in _ (by omega)]; omega
          have HMM := Lib.hid (show m = M * 8 + j ∧ m < D2.safe.length ∧ D2.pend.length < 3000 from ⟨by omega, by rw [HLI.out.safe]; have := HB.out.len; omega, by have := HLI.out.pl; omega⟩)
          have HPT := Lib.hid (show (partB x j).length = 128 ∧ InB (partB x j) ∧ ∀ w, Sat w F → Rd w 1 (some ⟨b1, o1 + j1, none⟩) 128 (bytes (partB x j)) from ⟨(partB_ok HX.out.2 HX.out.1 hlj).1, (partB_ok HX.out.2 HX.out.1 hlj).2, fun w h => rd_part (HRX.out w h) hlj HJ.out.1⟩)
          have HJC := Lib.hid (show 128 ≤ c1 - j1 from by have := HJ.out; omega)
          clear hm hm8 x1 hw1 hw2 hw3 h4 h5 h6 h7
          have y1 : wr.cell? ⟨s, 0, none⟩ = some (.pointer (some ⟨d, 0, none⟩)) ∧ wr.cell? ⟨g, 0, none⟩ = some (.int .i64 M) := ⟨H6.b1.sto_c0, H6.cell 0⟩
          go_region_held3 (fun w' => w'.cell? ⟨s, 0, none⟩ = some (.pointer (some ⟨d, 0, none⟩)) ∧ w'.cell? ⟨g, 0, none⟩ = some (.int .i64 M)) (first | exact y1 | exact ⟨H7.b3.sto_c0, H7.b2.cell 0⟩) (first
            | (go_at_call 26; refine (dread m H6.b4.drew HMM.out.2.1).mono ?_; rintro e w7 ⟨v7, rfl, H7, E7⟩; obtain ⟨A7, c7, rfl, -, -, -⟩ := H7.own_form))
          have E7' := E6.drew.trans E7
          clear H6 E6 E7 y1
          go_wp2_with fail
          refine (bequal A7 (some ⟨b1, o1 + j1, none⟩) 128 128 c7 (c1 - j1) (D2.rd m) (partB x j) w7 H7.own_at.1 (HPT.out.2.2 w7 H7.tail.tail.tail.tail.tail.tail) (by omega) (by omega) (HLI.out.db.rd m).1 HPT.out.2.1).mono ?_
          rintro e w8 ⟨rfl, hw8⟩
          subst hw8
          have H8 := H7.tail
          clear H7
          by_cases he : D2.rd m = partB x j
          · rw [decide_eq_true he]
            have HI2 := Lib.hid (show LayI D D2 R k (j + 1) from by
              obtain ⟨h1, h2⟩ := HLK.out
              refine HLI.out.skip h1 ?_
              rw [h2]
              show D2.rd ((M : Int).toNat * 8 + j) = partB x j
              rw [← he, HMM.out.1]; rfl)
            clear he HLI
            go_wp2_with fail
            go_roundw
            case rel => exact ⟨j + 1, D2, by omega, by go_num, HI2, H8.p4, E7'⟩
            case measure => simp [intOf]; omega
          · rw [decide_eq_false he]
            clear he
            have y2 : w7.cell? ⟨s, 0, none⟩ = some (.pointer (some ⟨d, 0, none⟩)) ∧ w7.cell? ⟨g, 0, none⟩ = some (.int .i64 M) := ⟨H8.b2.sto_c0, H8.b1.cell 0⟩
            by_cases hl0 : D2.left = some 0
            · have HL0 := Lib.hid hl0
              clear hl0
              go_upto_region 11 with fail
              go_region_held3 (fun w' => w'.cell? ⟨s, 0, none⟩ = some (.pointer (some ⟨d, 0, none⟩)) ∧ w'.cell? ⟨g, 0, none⟩ = some (.int .i64 M)) (first | exact y2) (first
                | (go_at_call 22; refine (dwrite_stop m (some ⟨b1, o1 + j1, none⟩) (c1 - j1) H8.drew HMM.out.2.1 HL0.out).mono ?_; rintro e w9 ⟨rfl, hw9⟩; subst hw9))
              have E9 := E7'.drew
              have H9 := H8.drew
              generalize w7.drew = w9 at *
              clear E7' H8 y2
              go_wp2_with fail
              go_ret
              exact ⟨13, _, D2, rfl, (HLI.out.s (by omega)).stop HB.out HK.out HL0.out, fun h => by omega, H9.b1.tail.b2.tail.p2, E9⟩
            · have HL0 := Lib.hid hl0
              clear hl0
              have HI2 := Lib.hid (show LayI D (D2.write m (partB x j)) R k (j + 1) from by
                obtain ⟨h1, h2⟩ := HLK.out
                have := HLI.out.write h1 hlj HD.out HK.out
                rw [h2] at this
                rw [HMM.out.1]
                exact this)
              go_upto_region 11 with fail
              go_region_held3 (fun w' => w'.cell? ⟨s, 0, none⟩ = some (.pointer (some ⟨d, 0, none⟩)) ∧ w'.cell? ⟨g, 0, none⟩ = some (.int .i64 M)) (first | exact y2 | exact ⟨H9.b2.sto_c0, H9.b1.cell 0⟩) (first
                | (go_at_call 22; refine (dwrite m (some ⟨b1, o1 + j1, none⟩) (c1 - j1) (partB x j) H8.drew (fun w h => HPT.out.2.2 w h.tail.tail.tail.tail) HMM.out.2.1 HL0.out (by have := HMM.out.2.2; omega)).mono ?_; rintro e w9 ⟨rfl, H9, E9⟩))
              have E9' := E7'.drew.trans E9
              generalize D2.write m (partB x j) = D3 at *
              clear E7' H8 y2 E9 HLI HMM HL0
              go_wp2_with fail
              go_roundw
              case rel => exact ⟨j + 1, D3, by omega, by go_num, HI2, H9.p4, E9'⟩
              case measure => simp [intOf]; omega
        · obtain rfl : j = 8 := by omega
          have x0 := H6.cell 0
          have HI2 := Lib.hid HLI.out.next
          go_wp2_with fail
          refine (puts_bit M H6.b1 (by omega) (sealR_in HS.out.1 _)).mono ?_
          rintro e w7 ⟨rfl, H7, E7⟩
          have H8 : Sat w7 (sto s d p (sealR S (R.take (k + 1))) :: own 5 1 (.slice Aw 128 cw) 128 (bytes S) :: logc p d L :: disk d D2 :: F) := by rw [HTS.out]; exact H7.b1.tail
          have E8 := E6.trans E7
          clear H6 E6 H7 E7 x0 HLI
          go_wp2_with fail
          go_roundw
          case rel => exact ⟨k + 1, D2, by omega, by go_num, HI2, H8, E8⟩
          case measure => simp [intOf]; omega
    · obtain rfl : k = n := by omega
      rw [List.take_of_length_le (by have := HN.out; omega)] at H4
      obtain ⟨SR, hSR⟩ : ∃ SR, sealR S R = SR := ⟨_, rfl⟩
      have HSR := Lib.hid (show sealR S R = SR ∧ sealR (D.rd 7679) R = SR ∧ InB SR ∧ SR.length = 128 from ⟨hSR, by rw [HS.out.2.2]; exact hSR, hSR ▸ sealR_in HS.out.1 R, hSR ▸ (sealR_len S R).trans HS.out.2.1⟩)
      rw [hSR] at H4
      clear hSR
      have HDN := Lib.hid (show ∀ j (h : j < R.length), ∀ t < 8, D1.rd (R[j].1.toNat * 8 + t) = partB R[j].2.2 t from fun j h t ht => HLI.out.done j h t ht (by have := HN.out; omega))
      obtain ⟨A5, c5, H5⟩ := H4.sto_open
      have x2 := H5.cell 2
      go_wp2_with fail
      refine (bequal Aw A5 128 128 cw c5 S SR wr H5.b2.own_at.1 H5.b1.own_at.1 (by omega) (by omega) HS.out.1 HSR.out.2.2.1).mono ?_
      rintro e w6 ⟨rfl, hw6⟩
      subst hw6
      obtain ⟨q, hq⟩ : ∃ q, decide (S = SR) = q := ⟨_, rfl⟩
      rw [hq]
      have HQQ := Lib.hid hq
      clear hq H5 x2
      go_upto_if 79 with fail
      go_cut [13] from 80 to 91 (fun _ wr => ∃ D2, Hid (LayA D D2 R) ∧ Sat wr (sto s d p SR :: logc p d L :: disk d D2 :: F) ∧ Env w wr)
      case first =>
        cases q with
        | true =>
          have hse : S = SR := of_decide_eq_true HQQ.out
          have HA := Lib.hid (show LayA D D1 R from ⟨HLI.out.s (by omega), by rw [HLI.out.sea HB.out.inv.pend HK.out, HS.out.2.2, HSR.out.1]; exact hse, HDN.out⟩)
          clear hse
          go_wp2_with fail
          go_meet
          case rel => exact ⟨D1, HA, H4.b1.tail, E4⟩
        | false =>
          obtain ⟨A7, c7, H7⟩ := H4.sto_open
          have y2 : wr.cell? ⟨s, 0, none⟩ = some (.pointer (some ⟨d, 0, none⟩)) ∧ wr.cell? ⟨s, 2, none⟩ = some (.slice A7 128 c7) := ⟨H7.cell 0, H7.cell 2⟩
          by_cases hl0 : D1.left = some 0
          · have HL0 := Lib.hid hl0
            clear hl0 H4
            go_upto_region 18 with fail
            go_region_held3 (fun w' => w'.cell? ⟨s, 0, none⟩ = some (.pointer (some ⟨d, 0, none⟩)) ∧ w'.cell? ⟨s, 2, none⟩ = some (.slice A7 128 c7)) (first | exact y2) (first
              | (go_at_call 22; refine (dwrite_stop 7679 A7 c7 H7.b4.drew (by rw [HLI.out.safe]; exact HB.out.len) HL0.out).mono ?_; rintro e w9 ⟨rfl, hw9⟩; subst hw9))
            have E9 := E4.drew
            have H9 := H7.drew.sto_shut
            generalize wr.drew = w9 at *
            clear H7 y2
            go_wp2_with fail
            go_ret
            exact ⟨13, _, D1, rfl, (HLI.out.s (by omega)).stop HB.out HK.out HL0.out, fun h => by omega, H9.b1.tail, E9⟩
          · have HL0 := Lib.hid hl0
            clear hl0 H4
            have HA := Lib.hid (show LayA D (D1.write 7679 SR) R from by
              rw [← HSR.out.2.1]
              refine ⟨HLI.out.wseal (by omega) HB.out.inv.db, by rw [rd_write, if_pos rfl], fun j h t ht => ?_⟩
              have hok := HK.out _ (List.getElem_mem h)
              have h0 := hok.n0
              have h1 := hok.n1
              rw [rd_write, if_neg (by omega)]
              exact HDN.out j h t ht)
            have hpl := HLI.out.pl
            go_upto_region 18 with fail
            go_region_held3 (fun w' => w'.cell? ⟨s, 0, none⟩ = some (.pointer (some ⟨d, 0, none⟩)) ∧ w'.cell? ⟨s, 2, none⟩ = some (.slice A7 128 c7)) (first | exact y2 | exact ⟨H9.b1.cell 0, H9.b1.cell 2⟩) (first
              | (go_at_call 22; refine (dwrite 7679 A7 c7 SR H7.b4.drew (fun w h => h.b1.own_at.1) (by rw [HLI.out.safe]; exact HB.out.len) HL0.out (by omega)).mono ?_; rintro e w9 ⟨rfl, H9, E9⟩))
            have E9' := E4.drew.trans E9
            have H10 := H9.p2.sto_shut
            generalize D1.write 7679 SR = D2 at *
            clear H7 y2 E9 HLI HDN HL0 hpl H9
            go_wp2_with fail
            go_meet
            case rel => exact ⟨D2, HA, H10.b2.tail.b2.b1, E9'⟩
      case rest =>
        clear H4 E4
        obtain ⟨D2, HA, H4, E4⟩ := hcut
        have x0 := H4.sto_c0
        by_cases hl0 : D2.left = some 0
        · have HL0 := Lib.hid hl0
          clear hl0
          go_wp2_with fail
          refine (dflush_stop H4.b2 HL0.out).mono ?_
          rintro e w9 ⟨rfl, hw9⟩
          subst hw9
          go_wp2_with fail
          go_ret
          exact ⟨13, _, D2, rfl, HA.out.s.stop HB.out HK.out HL0.out, fun h => by omega, H4, E4⟩
        · have HL0 := Lib.hid hl0
          have HFL := Lib.hid (HA.out.flushed HB.out HK.out)
          clear hl0
          go_wp2_with fail
          refine (dflush H4.b2 HL0.out (by have := HA.out.s.pl; omega)).mono ?_
          rintro e w9 ⟨rfl, H9, E9⟩
          have E9' := E4.trans E9
          have x1 := H9.b1.sto_c1
          clear H4 E4 E9 x0
          go_wp2_with fail
          refine (clear_may HFL.out.2 HB.out.ep H9.b2).mono ?_
          rintro e w10 ⟨r, D10, rfl, hW, H10, E10⟩
          have HW := Lib.hid (HA.out.s.went HB.out HFL.out.1 HFL.out.2 hW)
          clear hW
          go_wp2_with fail
          go_ret
          exact ⟨r, SR, D10, rfl, HW.out, fun h => by rw [(HW.out.ok h).2.sea]; exact HSR.out.2.1.symm, H10.b2, E9'.trans E10⟩
end Go.Proofs.Ythbabdjicplooaa
