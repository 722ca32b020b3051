/- PagesKeep's walk. Conditions: none. -/
import Derived.Test.YthbabdjicplooaaPagePG
import Derived.Deep.CutRange
namespace Go.Proofs.Ythbabdjicplooaa
open Go.RowKit

set_option maxHeartbeats 32000000 in
set_option maxRecDepth 100000 in
theorem pagesKeep_any {w : World} {F : List HP} (A : Option Addr) (n c : Nat) (l : List AskP) (H : Sat w F) (hr : Reads F 8 A n (flatKp l)) (hok : ∀ x ∈ l, AskPOk F x) :
    Calls Try.prog 19 #[.slice A n c] w fun e w' => e = .returned (.bool true) ∧ Sat w' F ∧ Env w w' := by
  have HN := Lib.hid (show n = l.length by have := (hr w H).1; rw [flatKp_len] at this; omega)
  have HR := Lib.hid hr
  have HOK := Lib.hid hok
  clear hr hok
  have hmk := fun w => run_makeMap (P := Try.prog) 103 w
  go_enter Try.func19, Try.ntmps19
  go_wp2_with fail
  refine (begun5 H).mono ?_
  rintro e w1 ⟨d, s, p, D, rfl, hC, hl, H1, E1⟩
  have HC := Lib.hid hC
  have HL := Lib.hid hl
  obtain ⟨L0, hL0⟩ : ∃ L, freshL 4096 3583 = L := ⟨_, rfl⟩
  rw [hL0] at HC H1
  clear hC hl H hL0
  go_upto_region 5 with fail
  clear hmk
  have H2 := H1.jmap_new
  have E2 := E1.alloc (.map #[] 0)
  go_upto_region 7 with fail
  have H3 := H2.alloc (.cells #[.slice none 0 0, .int .i64 0, .int .i64 0] 24)
  have E3 := E2.alloc (.cells #[.slice none 0 0, .int .i64 0, .int .i64 0] 24)
  rw [show (w1.alloc (.map #[] 0)).heap.size = w1.heap.size + 1 by simp] at H3
  generalize (w1.alloc (.map #[] 0)).alloc (.cells #[.slice none 0 0, .int .i64 0, .int .i64 0] 24) = w3 at *
  generalize w1.heap.size + 1 = g8 at *
  generalize w1.heap.size = b at *
  have H4 : Sat w3 (sto s d p (D.rd 7679) :: logc p d L0 :: disk d D :: jmap b [] :: row g8 24 #[.slice none 0 0, .int .i64 0, .int .i64 0] :: F) := H3.p4.p3
  have HK := Lib.hid (show KeepI F D L0 1 zeroM [] (fun _ => 0) false none 0 [] (-1) from ⟨HC.out, fun n hn => ⟨rfl, by omega, by omega⟩, fun n hn => rfl, fun _ => HL.out, fun w h => Rd.nil _ _ _, by omega⟩)
  clear H1 H2 H3 E1 E2 HC HL
  generalize ([] : List (Int × Value)) = mp at *
  generalize ([] : List Bool) = kp0 at *
  go_wp2_with fail
  go_loopw [4, 6, 7, 9, 10] (fun s4 s6 s7 s9 s10 wr => ∃ (k s p b : Nat) (mp : List (Int × Value)) (D : Dsk) (L : LogV) (e : Nat) (m : Nat → List Int) (W : Nat → Int) (ar : Bool) (AK : Option Addr) (nk ck : Nat) (keep : List Bool) (torn nb ag : Int), k ≤ n ∧ k ≤ 12 ∧ s4 = .pointer (some ⟨s, 0, none⟩) ∧ s6 = .map (some b) ∧ s7 = .bool ar ∧ s9 = .int .i64 ag ∧ s10 = .int .i64 k ∧ Hid (e ≤ 1 + 3 * k ∧ KeepI F D L e m mp W ar AK nk keep ag) ∧
    Sat wr (sto s d p (D.rd 7679) :: logc p d L :: disk d D :: jmap b mp :: row g8 24 #[.slice AK nk ck, .int .i64 torn, .int .i64 nb] :: F) ∧ Env w wr) (fun _ _ _ _ i _ => n - (intOf i).toNat)
  case atStart => exact ⟨0, s, p, b, mp, D, L0, 1, zeroM, _, false, none, 0, 0, kp0, 0, 0, -1, by omega, by omega, rfl, rfl, rfl, rfl, rfl, Lib.hid ⟨by omega, HK.out⟩, H4, E3⟩
  case round =>
    clear H4 E3 HK
    obtain ⟨k, s, p, b, mp, D, L, e, m, W, ar, AK, nk, ck, keep, torn, nb, ag, hk, hk12, rfl, rfl, rfl, rfl, rfl, HK, H3, E3⟩ := hrel
    by_cases hlt : k < n
    · by_cases hlt3 : k < 12
      · have hkl : k < l.length := by have := HN.out; omega
        have hk30 : (k : Int) < 12 := by omega
        have hd30 : decide ((k : Int) < 12) = true := by simp; omega
        obtain ⟨b0, off, rfl, hcells⟩ := rdKp (HR.out wr H3.tail.tail.tail.tail.tail) hkl
        have hask := HOK.out _ (List.getElem_mem hkl)
        obtain ⟨kd, af, gn, An, nn, cn, ns, fl, AX, nx, cx, kp, tn, bn, hx⟩ : ∃ kd af gn An nn cn ns fl AX nx cx kp tn bn, l[k] = ⟨kd, af, gn, An, nn, cn, ns, fl, AX, nx, cx, kp, tn, bn⟩ := ⟨_, _, _, _, _, _, _, _, _, _, _, _, _, _, rfl⟩
        rw [hx] at hcells hask
        have z0 := hcells 0 _ rfl
        have z1 := hcells 1 _ rfl
        have z2 := hcells 2 _ rfl
        have z3 := hcells 3 _ rfl
        have z4 := hcells 4 _ rfl
        have z5 := hcells 5 _ rfl
        have z6 := hcells 6 _ rfl
        have z7 := hcells 7 _ rfl
        have HAK := Lib.hid hask
        clear hcells hx hask hkl
        rw [Nat.add_zero] at z0
        go_upto_region 12 with fail
        have HX := H3.alloc (.cells #[.int .i64 kd, .int .i64 af, .int .i64 gn, .slice An nn cn, .int .u8 fl, .slice AX nx cx, .int .i64 tn, .int .i64 bn] 105)
        have EX := E3.alloc (.cells #[.int .i64 kd, .int .i64 af, .int .i64 gn, .slice An nn cn, .int .u8 fl, .slice AX nx cx, .int .i64 tn, .int .i64 bn] 105)
        generalize wr.alloc (.cells #[.int .i64 kd, .int .i64 af, .int .i64 gn, .slice An nn cn, .int .u8 fl, .slice AX nx cx, .int .i64 tn, .int .i64 bn] 105) = wx at *
        generalize wr.heap.size = gx at *
        clear H3 E3 z0 z1 z2 z3 z4 z5 z6 z7 hd30
        go_wp2_with fail
        refine (copied5 HX.b4).mono ?_
        rintro e1 w4 ⟨b2, mp2, rfl, hg2, hm2, H4, E4⟩
        have HS2 := Lib.hid (HK.out.2.says.same hg2)
        have E4' := EX.trans E4
        have H5 : Sat w4 (row gx 105 #[.int .i64 kd, .int .i64 af, .int .i64 gn, .slice An nn cn, .int .u8 fl, .slice AX nx cx, .int .i64 tn, .int .i64 bn] :: jmap b2 mp2 :: sto s d p (D.rd 7679) :: logc p d L :: disk d D :: jmap b mp :: row g8 24 #[.slice AK nk ck, .int .i64 torn, .int .i64 nb] :: F) := H4.b2.b2.p5
        clear hg2 hm2 HX EX H4 E4
        have x0 := H5.cell 0
        go_upto_block 2 with fail
        clear x0
        go_cut [4, 7, 9, 13] from 52 to 138 (fun s4 s7 s9 s13 wr => ∃ (s p : Nat) (D' : Dsk) (L' : LogV) (S : List Int) (mp2 : List (Int × Value)) (ar : Bool) (AK : Option Addr) (nk ck : Nat) (keep : List Bool) (torn nb ag r : Int), s4 = .pointer (some ⟨s, 0, none⟩) ∧ s7 = .bool ar ∧ s9 = .int .i64 ag ∧ s13 = .int .i64 r ∧ Hid (SwI F D' L' e mp mp2 S ar AK nk keep ag r) ∧
          Sat wr (sto s d p S :: logc p d L' :: disk d D' :: jmap b mp :: jmap b2 mp2 :: row g8 24 #[.slice AK nk ck, .int .i64 torn, .int .i64 nb] :: F) ∧ Env w wr)
        case first =>
          have x0 := H5.cell 0
          have x1 := H5.cell 1
          have x2 := H5.cell 2
          have x5 := H5.cell 5
          have x6 := H5.cell 6
          have x7 := H5.cell 7
          by_cases hk1 : kd = 1
          · subst hk1
            clear x0 x1 x2 x5 x6 x7
            have H6 := (Sat.ownB_nil H5).own_nil 98 2
            have HPI := Lib.hid (show ([] : List Sh).length = 0 ∧ PutI m [] mp2 W false from ⟨rfl, fun q hq => (by cases hq), ⟨fun _ => List.nodup_nil, fun _ => rfl⟩, HS2.out, fun _ => HK.out.2.same⟩)
            clear H5
            go_wp2_with fail
            go_loopw [14, 15, 16] (fun s14 s15 s16 wr => ∃ (j : Nat) (R : List Sh) (A : Option Addr) (cc : Nat) (tw : Bool) (mp' : List (Int × Value)) (W' : Nat → Int), j ≤ nn ∧ j ≤ 6 ∧ s14 = .slice A j cc ∧ s15 = .bool tw ∧ s16 = .int .i64 j ∧ Hid (R.length = j ∧ PutI m R mp' W' tw) ∧
              Sat wr (own 98 2 (.slice A j cc) j (flatS R) :: ownB (R.map (·.2)) :: row gx 105 #[.int .i64 1, .int .i64 af, .int .i64 gn, .slice An nn cn, .int .u8 fl, .slice AX nx cx, .int .i64 tn, .int .i64 bn] :: jmap b2 mp' :: sto s d p (D.rd 7679) :: logc p d L :: disk d D :: jmap b mp :: row g8 24 #[.slice AK nk ck, .int .i64 torn, .int .i64 nb] :: F) ∧ Env w wr) (fun _ _ i _ => 6 - (intOf i).toNat)
            case atStart => exact ⟨0, [], none, 0, false, mp2, W, by omega, by omega, rfl, rfl, rfl, HPI, H6, E4'⟩
            case round =>
              clear H6 E4' HPI
              obtain ⟨j, R, A, cc, tw, mp', W', hj, hj6, rfl, rfl, rfl, HPI, H6, E6⟩ := hrel
              have x3 := H6.b2.cell 3
              have hcont : (j < nn ∧ j < 6) ∨ ¬ (j < nn ∧ j < 6) := Decidable.em _
              rcases hcont with ⟨hjn, hj5⟩ | hstop
              · have hd6 : decide ((j : Int) < 6) = true := by simp; omega
                have hj5' : (j : Int) < 6 := by omega
                have HF := Lib.hid H6.tail.tail.tail.tail.tail.tail.tail.tail.tail
                have hnl : ns.length = nn := by have := (HAK.out.ns wr HF.out).1; simpa [ints] using this
                obtain ⟨bN, oN, rfl, zN⟩ := (HAK.out.ns wr HF.out).2 j (.int .i64 (ns.getD j 0)) (by simp [ints, show j < ns.length by omega])
                generalize ns.getD j 0 = nj at *
                clear hnl HF
                go_wp2_with fail
                refine (within_any nj 0 11 _ (by omega) (by omega) (by omega)).mono ?_
                rintro e1 wq ⟨rfl, hwq⟩
                subst hwq
                obtain ⟨N, hN, hN2⟩ : ∃ N : Nat, within nj 0 11 = (N : Int) ∧ N < 12 := by
                  have := within_range nj (lo := 0) (hi := 11) (by omega)
                  exact ⟨(within nj 0 11).toNat, by omega, by omega⟩
                rw [hN]
                clear hN zN x3
                have HT0 := Lib.hid (show twI tw R N 0 = tw from by simp [twI])
                go_wp2_with fail
                go_loopw [15, 18] (fun s15 s18 wr2 => ∃ i2 : Nat, i2 ≤ j ∧ s18 = .int .i64 i2 ∧ s15 = .bool (twI tw R N i2) ∧ wr2 = wr) (fun _ i _ => j - (intOf i).toNat)
                case atStart => exact ⟨0, by omega, rfl, by rw [HT0.out], rfl⟩
                case round =>
                  clear HT0
                  obtain ⟨i2, hi2, rfl, rfl, rfl⟩ := hrel
                  by_cases hij : i2 < j
                  · have hil : i2 < R.length := by rw [HPI.out.1]; exact hij
                    obtain ⟨g6, o6, rfl, zz, -⟩ := rdS H6.own_at.1 hil
                    have HTS := Lib.hid (twI_succ tw N hil)
                    generalize R[i2].1 = ri at *
                    obtain ⟨q, hq⟩ : ∃ q, (ri == (N : Int)) = q := ⟨_, rfl⟩
                    rw [hq] at HTS
                    clear hil
                    obtain ⟨t2, ht2⟩ : ∃ t2, twI tw R N (i2 + 1) = t2 := ⟨_, rfl⟩
                    obtain ⟨t1, ht1⟩ : ∃ t1, twI tw R N i2 = t1 := ⟨_, rfl⟩
                    rw [ht2, ht1] at HTS
                    have HT2 := Lib.hid ht2
                    rw [ht1]
                    clear ht1 ht2
                    cases t1 with
                    | true =>
                      obtain rfl : t2 = true := by rw [HTS.out]; rfl
                      clear HTS hq
                      go_wp2_with fail
                      exact ⟨⟨i2 + 1, by omega, by go_num, by rw [HT2.out], trivial⟩, by simp [intOf]; omega⟩
                    | false =>
                      obtain rfl : t2 = q := by rw [HTS.out]; cases q <;> rfl
                      clear HTS
                      go_wp2_with fail
                      exact ⟨⟨i2 + 1, by omega, by go_num, by rw [HT2.out], trivial⟩, by simp [intOf]; omega⟩
                  · obtain rfl : i2 = j := by omega
                    obtain ⟨fN, rfl⟩ := Int.eq_ofNat_of_zero_le HAK.out.fill.1
                    have hf255 : fN ≤ 255 := by have := HAK.out.fill.2; dsimp only at this; omega
                    obtain ⟨f1, hf1⟩ : ∃ q : Nat, fN % 200 = q := ⟨_, rfl⟩
                    obtain ⟨f2, hf2⟩ : ∃ q : Nat, f1 + i2 = q := ⟨_, rfl⟩
                    obtain ⟨f3, hf3⟩ : ∃ q : Nat, f2 + 1 = q := ⟨_, rfl⟩
                    have hw1 : (fN : Int).tmod 200 = (f1 : Int) := by rw [Int.tmod_eq_emod_of_nonneg (by omega)]; omega
                    have hw2 : IntKind.u8.wrap (i2 : Int) = (i2 : Int) := by rw [IntKind.wrap_u8]; omega
                    have hw3 : IntKind.u8.wrap ((f1 : Int) + (i2 : Int)) = (f2 : Int) := by rw [IntKind.wrap_u8]; omega
                    have hw4 : IntKind.u8.wrap ((f2 : Int) + 1) = (f3 : Int) := by rw [IntKind.wrap_u8]; omega
                    have hf3b : 0 < f3 ∧ f3 ≤ 255 := by omega
                    have x4 := H6.b2.cell 4
                    clear hf1 hf2 hf3 hij
                    have HTW := Lib.hid (show twI tw R N i2 = (tw || decide (∃ x ∈ R, x.1 = (N : Int))) from by unfold twI; rw [List.take_of_length_le (by have := HPI.out.1; omega)])
                    obtain ⟨tw2, ht2⟩ : ∃ t2, twI tw R N i2 = t2 := ⟨_, rfl⟩
                    rw [ht2] at HTW
                    rw [ht2]
                    clear ht2
                    go_wp2_with fail
                    refine (page5 (f3 : Int) H6 (by omega)).mono ?_
                    rintro e1 w7 ⟨v7, rfl, H7, E7⟩
                    obtain ⟨A7, c7, rfl, -, -, -⟩ := H7.own_form
                    have E7' := (E6.trans E7).alloc (.cells #[.int .i64 N, .slice A7 1024 c7] 98)
                    clear hw1 hw2 hw3 hw4 x4
                    go_upto_region 28 with (at_builtin; go_must (refine wpList_append_sat rfl (.tmp 94) (.tmp 99) 99 rfl (H7.b1.alloc' _) rfl _ 32 Try.underlying99 Try.info_sheet rfl (by omega) _ _ _ [.int .i64 N, .slice A7 1024 c7] rfl (fun h => by cases h) rfl (lit_src _ _ _ _ rfl) (by simp [Value.oneCell']) (by simp only [maxLen]; omega) (by omega) ?_); intro v8 w8 H8 E8; obtain ⟨A8, c8, rfl, -, -, -⟩ := H8.own_form)
                    have H9 : Sat w8 (ownB (R.map (·.2) ++ [((.slice A7 1024 c7 : Value), pageL (f3 : Int))]) :: _) := Sat.ownB_snoc (by rw [pageL_len]; exact H8.p2)
                    have hf : flatS (R ++ [((N : Int), (.slice A7 1024 c7 : Value), pageL (f3 : Int))]) = flatS R ++ [.int .i64 N, .slice A7 1024 c7] := by simp [flatS, cellsS]
                    have H10 := H9.b1
                    rw [← hf, show R.map (·.2) ++ [((.slice A7 1024 c7 : Value), pageL (f3 : Int))] = (R ++ [((N : Int), (.slice A7 1024 c7 : Value), pageL (f3 : Int))]).map (·.2) by rw [List.map_append]; rfl] at H10
                    have HPI2 := Lib.hid (show (R ++ [((N : Int), (.slice A7 1024 c7 : Value), pageL (f3 : Int))]).length = i2 + 1 ∧ PutI m (R ++ [((N : Int), (.slice A7 1024 c7 : Value), pageL (f3 : Int))]) (mput mp' N (.int .u8 f3)) (fun n => if N = n then (f3 : Int) else W' n) tw2 from ⟨by rw [List.length_append, HPI.out.1]; rfl, by rw [HTW.out]; exact HPI.out.2.snoc hN2 (by omega)⟩)
                    have E10 := E7'.trans E8
                    clear H6 E6 H7 E7 E7' H8 E8 H9 hf HPI HTW hf255 hf3b
                    generalize R ++ [((N : Int), (.slice A7 1024 c7 : Value), pageL (f3 : Int))] = R2 at *
                    generalize (fun n => if N = n then (f3 : Int) else W' n) = W3 at *
                    go_wp2_with (show wpList _ _ _ ({ dst := _, op := Op.mapUpdate _ _ _ _, type := _, pos := _, after := _, guard := _ } :: _) _ _; go_must (refine wpList_jput_sat rfl (.tmp 101) (.tmp 102) (.tmp 103) 103 rfl Try.underlying103 Try.underlying3 H10.b3 rfl N (.int .u8 f3) rfl rfl ?_); intro w11 H11 E11)
                    have H12 := H11.p3
                    have E12 := E10.trans E11
                    clear H10 H11 E10 E11
                    go_roundw
                    case rel => exact ⟨i2 + 1, R2, A8, c8, tw2, _, W3, by omega, by omega, rfl, rfl, by go_num, HPI2, H12, E12⟩
                    case measure => simp [intOf]; omega
              · have HF := Lib.hid (show R.length ≤ 256 ∧ R.length = j from ⟨by have := HPI.out.1; omega, HPI.out.1⟩)
                go_upto_region 19 with fail
                go_cut [62] from 54 to 61 (fun s62 wr2 => s62 = .bool false ∧ wr2 = wr)
                case first =>
                  by_cases hjn : j < nn
                  · obtain rfl : j = 6 := by omega
                    have hd6 : decide ((6 : Int) < 6) = false := by decide
                    go_wp2_with fail
                    go_meet
                    case rel => exact ⟨rfl, rfl⟩
                  · have hjn' : decide ((j : Int) < (nn : Int)) = false := by simp; omega
                    go_wp2_with fail
                    go_meet
                    case rel => exact ⟨rfl, rfl⟩
                case rest =>
                  obtain ⟨rfl, hw⟩ := hcut
                  subst hw
                  clear x3 hstop
                  have H7 := H6.b6.b6.b6
                  cases tw with
                  | true =>
                    go_wp2_with fail
                    refine (pput_own A j cc R H7 (fun q hq => (HPI.out.2.ok q hq).inb) (by omega) HK.out.2.clean (by have := HK.out.1; omega)).mono ?_
                    rintro e1 w8 ⟨r, S8, D8, L8, rfl, hP, H8, E8⟩
                    obtain ⟨rfl, rfl, rfl, rfl⟩ := hP.bad HPI.out.2.not
                    have H9 := H8.b3.tail.b3.tail.b3.tail.b3.tail
                    have E9 := E6.trans E8
                    have HK2 := Lib.hid (show e ≤ 1 + 3 * (k + 1) ∧ KeepI F D8 L8 e m mp W ar AK nk keep ag from ⟨by have := HK.out.1; omega, HK.out.2⟩)
                    clear H6 H7 H8 E6 E8 hP HPI
                    go_wp2_with fail
                    go_roundw
                    case rel => exact ⟨k + 1, s, p, b, mp, D8, L8, e, m, W, ar, AK, nk, ck, keep, torn, nb, ag, by omega, by omega, rfl, rfl, rfl, rfl, by go_num, HK2, H9, E9⟩
                    case measure => simp [intOf]; omega
                  | false =>
                    go_wp2_with fail
                    refine (pput_own A j cc R H7 (fun q hq => (HPI.out.2.ok q hq).inb) (by omega) HK.out.2.clean (by have := HK.out.1; omega)).mono ?_
                    rintro e1 w8 ⟨r, S8, D8, L8, rfl, hP, H8, E8⟩
                    have H9 := H8.b3.tail.b3.tail.b3.tail.b3.p4
                    have E9 := E6.trans E8
                    have HSW := Lib.hid (show SwI F D8 L8 e mp mp' S8 ar AK nk keep ag r from by
                      have hs := HPI.out.2.shs HF.out.1
                      by_cases h0 : R = []
                      · obtain ⟨rfl, rfl, rfl, rfl⟩ := hP.none h0
                        refine ⟨.inl rfl, fun _ => ⟨rfl, m, W', HK.out.2.clean.up, HPI.out.2.says, ?_, HK.out.2.left⟩, fun h => by omega, HK.out.2.cut, HK.out.2.again⟩
                        have := HPI.out.2.same rfl
                        rwa [h0] at this
                      · obtain ⟨hW, hS⟩ := hP.put hs h0
                        refine ⟨hW.or, fun h => ⟨hS h, _, W', hW.ok h, HPI.out.2.says, HPI.out.2.same rfl, fun ha => (hW.fine (HK.out.2.left ha)).2⟩, fun h => ⟨?_, m, R, W, W', hW.no h, hs, hW.pend, HK.out.2.says, HPI.out.2.says, HK.out.2.same, HPI.out.2.same rfl⟩, HK.out.2.cut, HK.out.2.again⟩
                        cases ar with
                        | true => rfl
                        | false => have := (hW.fine (HK.out.2.left rfl)).1; omega)
                    clear H6 H7 H8 E6 E8 hP HPI
                    go_wp2_with fail
                    go_meet
                    case rel => exact ⟨s, p, D8, L8, S8, mp', ar, AK, nk, ck, keep, torn, nb, ag, r, rfl, rfl, rfl, rfl, HSW, H9, E9⟩
          by_cases hk2 : kd = 2
          · subst hk2
            clear x0 x1 x2 x5 x6 x7
            have hne : ((2 : Int) == 1) = false := by decide
            have HSW := Lib.hid (HK.out.2.go HS2.out)
            cases ar with
            | true =>
              have H6 := H5.tail.p4
              clear H5
              go_wp2_with fail
              go_meet
              case rel => exact ⟨s, p, D, L, _, mp2, true, AK, nk, ck, keep, torn, nb, ag, 0, rfl, rfl, rfl, rfl, HSW, H6, E4'⟩
            | false =>
              have H6 := H5.tail.p4.b2
              clear H5
              go_wp2_with fail
              refine (popen_fine H6 HK.out.2.clean (HK.out.2.left rfl) (by have := HK.out.1; omega)).mono ?_
              rintro e1 w7 ⟨s7, p7, rfl, H7, E7⟩
              have H8 := H7.b3.tail.b3.tail
              have E8 := E4'.trans E7
              clear H6 E4' H7 E7
              go_wp2_with fail
              go_meet
              case rel => exact ⟨s7, p7, D, L, _, mp2, false, AK, nk, ck, keep, torn, nb, ag, 0, rfl, rfl, rfl, rfl, HSW, H8, E8⟩
          by_cases hk3 : kd = 3
          · subst hk3
            clear x0 x2 x5 x6 x7
            have hne : ((3 : Int) == 1) = false := by decide
            have hne2 : ((3 : Int) == 2) = false := by decide
            go_wp2_with fail
            refine (within_any af 0 130 _ (by omega) (by omega) (by omega)).mono ?_
            rintro e1 wq ⟨rfl, hwq⟩
            subst hwq
            obtain ⟨kk, hkk⟩ : ∃ kk, within af 0 130 = kk := ⟨_, rfl⟩
            have HKK := Lib.hid (show kk ≤ 9223372036854775807 from by have := within_range af (lo := 0) (hi := 130) (by omega); omega)
            rw [hkk]
            clear hkk x1
            go_wp2_with fail
            refine (dstop kk H5.b4 HKK.out).mono ?_
            rintro e1 w7 ⟨rfl, H7, E7⟩
            have HKI := Lib.hid (show KeepI F ⟨D.safe, D.pend, some kk.toNat⟩ L e m mp W true AX nx kp gn from ⟨HK.out.2.clean.stopped _, HK.out.2.says, HK.out.2.same, (fun h => by cases h), HAK.out.keep, HAK.out.again⟩)
            have H8 : Sat w7 (row g8 24 #[.slice AK nk ck, .int .i64 torn, .int .i64 nb] :: row gx 105 #[.int .i64 3, .int .i64 af, .int .i64 gn, .slice An nn cn, .int .u8 fl, .slice AX nx cx, .int .i64 tn, .int .i64 bn] :: sto s d p ((⟨D.safe, D.pend, some kk.toNat⟩ : Dsk).rd 7679) :: logc p d L :: disk d ⟨D.safe, D.pend, some kk.toNat⟩ :: jmap b mp :: jmap b2 mp2 :: F) := H7.b2.p6.p3.b5
            generalize (⟨D.safe, D.pend, some kk.toNat⟩ : Dsk) = D7 at *
            have E8 := E4'.trans E7
            have x5 := H8.b1.cell 5
            have x6 := H8.b1.cell 6
            have x7 := H8.b1.cell 7
            have c0 := H8.cell 0
            have c1 := H8.cell 1
            have c2 := H8.cell 2
            have f0 := H8.free 0
            have f1 := H8.free 1
            have f2 := H8.free 2
            clear H5 E4' H7 E7 HKK
            go_upto_region 42 with fail
            have H9 : Sat (((w7.setCell ⟨g8, 0, none⟩ (.slice AX nx cx)).setCell ⟨g8, 1, none⟩ (.int .i64 tn)).setCell ⟨g8, 2, none⟩ (.int .i64 bn)) (row g8 24 #[.slice AX nx cx, .int .i64 tn, .int .i64 bn] :: row gx 105 #[.int .i64 3, .int .i64 af, .int .i64 gn, .slice An nn cn, .int .u8 fl, .slice AX nx cx, .int .i64 tn, .int .i64 bn] :: sto s d p (D7.rd 7679) :: logc p d L :: disk d D7 :: jmap b mp :: jmap b2 mp2 :: F) := ((H8.set (i := 0) _).set (i := 1) _).set (i := 2) _
            have E9 := ((E8.set ⟨g8, 0, none⟩ (.slice AX nx cx)).set ⟨g8, 1, none⟩ (.int .i64 tn)).set ⟨g8, 2, none⟩ (.int .i64 bn)
            generalize ((w7.setCell ⟨g8, 0, none⟩ (.slice AX nx cx)).setCell ⟨g8, 1, none⟩ (.int .i64 tn)).setCell ⟨g8, 2, none⟩ (.int .i64 bn) = w9 at *
            have x2 := H9.b1.cell 2
            have HSW := Lib.hid (HKI.out.go HS2.out)
            have H10 := H9.b1.tail.p5
            clear H8 E8 x5 x6 x7 c0 c1 c2 f0 f1 f2 HKI H9
            go_wp2_with fail
            go_meet
            case rel => exact ⟨s, p, D7, L, _, mp2, true, AX, nx, cx, kp, tn, bn, gn, 0, rfl, rfl, rfl, rfl, HSW, H10, E9⟩
          · have h1 : (kd == 1) = false := by simpa using hk1
            have h2 : (kd == 2) = false := by simpa using hk2
            have h3 : (kd == 3) = false := by simpa using hk3
            have HSW := Lib.hid (HK.out.2.go HS2.out)
            have H6 := H5.tail.p4
            clear H5
            go_wp2_with fail
            go_meet
            case rel => exact ⟨s, p, D, L, _, mp2, ar, AK, nk, ck, keep, torn, nb, ag, 0, rfl, rfl, rfl, rfl, HSW, H6, E4'⟩
        case rest =>
          have HE := Lib.hid HK.out.1
          clear H5 E4' HK HS2
          obtain ⟨s, p, D, L, S, mp2, ar, AK, nk, ck, keep, torn, nb, ag, r, rfl, rfl, rfl, rfl, HW, H5, E5⟩ := hcut
          rcases HW.out.or with rfl | rfl
          · obtain ⟨rfl, m2, W2, hC2, hS2, hm2, hl2⟩ := HW.out.ok rfl
            have HC2 := Lib.hid hC2
            have HS2 := Lib.hid hS2
            have HM2 := Lib.hid hm2
            have HL2 := Lib.hid hl2
            have H6 := H5.b4.b3.b2
            clear hC2 hS2 hm2 hl2 H5
            go_wp2_with fail
            refine (is5 H6 HC2.out HS2.out).mono ?_
            rintro e1 w7 ⟨q, rfl, hq, H7, E7⟩
            obtain rfl : q = true := hq.2 HM2.out
            have H8 := H7.b4.tail.b3.b1
            have E8 := E5.trans E7
            have HK2 := Lib.hid (show e + 1 ≤ 1 + 3 * (k + 1) ∧ KeepI F D L (e + 1) m2 mp2 W2 ar AK nk keep ag from ⟨by have := HE.out; omega, HC2.out, HS2.out, HM2.out, HL2.out, HW.out.cut, HW.out.again⟩)
            clear H6 H7 E5 E7 HW HC2 HS2 HM2 HL2 hq
            go_wp2_with fail
            go_roundw
            case rel => exact ⟨k + 1, s, p, b2, mp2, D, L, e + 1, m2, W2, ar, AK, nk, ck, keep, torn, nb, ag, by omega, by omega, rfl, rfl, rfl, rfl, by go_num, HK2, H8, E8⟩
            case measure => simp [intOf]; omega
          · obtain ⟨rfl, m, R, W, W2, hA, hR, hp, hS, hS2, hm, hm2⟩ := HW.out.no rfl
            have HA := Lib.hid (And.intro hA (And.intro hR hp))
            have HSS := Lib.hid (And.intro hS (And.intro hS2 (And.intro hm hm2)))
            have H6 := H5.tail.tail
            have y0 := H6.b3.cell 0
            have y1 := H6.b3.cell 1
            have y2 := H6.b3.cell 2
            clear hA hR hp hS hS2 hm hm2 H5
            go_wp2_with fail
            refine (dcrash AK nk ck keep torn nb H6 (fun w h => HW.out.cut w h.tail.tail.tail) (by have := HA.out.2.2; omega)).mono ?_
            rintro e1 w7 ⟨rfl, H7, E7⟩
            have HA7 := Lib.hid (HA.out.1 keep torn nb)
            have HL7 := Lib.hid (show (D.crash keep torn nb).left = none from rfl)
            have HRR := Lib.hid HA.out.2.1
            generalize D.crash keep torn nb = D7 at *
            have E7' := E5.trans E7
            clear H6 y0 y1 y2 E5 E7 HA
            go_upto_if 148 with fail
            go_cut [22, 23] from 147 to 165 (fun _ _ wr => ∃ D8, Hid (After D8 (e + 1 + 1) m R ∧ D8.left = none) ∧ Sat wr (disk d D8 :: jmap b mp :: jmap b2 mp2 :: row g8 24 #[.slice AK nk ck, .int .i64 torn, .int .i64 nb] :: F) ∧ Env w wr)
            case first =>
              by_cases hag : 0 ≤ ag
              · have hd : decide (0 ≤ ag) = true := decide_eq_true hag
                go_wp2_with fail
                refine (dstop ag H7 HW.out.again).mono ?_
                rintro e1 w8 ⟨rfl, H8, E8⟩
                have HA8 := Lib.hid (HA7.out.stopped (some ag.toNat))
                have H8' : Sat w8 (disk d ⟨D7.safe, D7.pend, some ag.toNat⟩ :: jmap b mp :: jmap b2 mp2 :: row g8 24 #[.slice AK nk ck, .int .i64 torn, .int .i64 nb] :: F) := H8
                have HA8' := Lib.hid (show After ⟨D7.safe, D7.pend, some ag.toNat⟩ (e + 1) m R from HA8.out)
                generalize (⟨D7.safe, D7.pend, some ag.toNat⟩ : Dsk) = D8 at *
                have E8' := E7'.trans E8
                clear H7 H8 HA8 HA7 HL7 E7' E8
                go_wp2_with fail
                refine (popen_after H8' HA8'.out HRR.out (by have := HE.out; omega)).mono ?_
                rintro e1 w9 ⟨r9, s9, p9, D9, L9, m9, hW9, rfl, -, H9, E9⟩
                have HW9 := Lib.hid (And.intro hW9.crash hW9.pend)
                have E9' := E8'.trans E9
                have y0 := H9.b3.cell 0
                have y1 := H9.b3.cell 1
                have y2 := H9.b3.cell 2
                rcases hW9.or with rfl | rfl
                · rw [if_pos rfl]
                  clear hW9 H8' E8' E9
                  go_wp2_with fail
                  refine (dcrash AK nk ck keep torn nb H9 (fun w h => HW.out.cut w h.tail.tail.tail) (by have := HW9.out.2; omega)).mono ?_
                  rintro e1 w10 ⟨rfl, H10, E10⟩
                  clear H9 y0 y1 y2
                  go_wp2_with fail
                  go_meet
                  case rel => exact ⟨_, Lib.hid ⟨HW9.out.1 keep torn nb, rfl⟩, H10, E9'.trans E10⟩
                · rw [if_neg (by decide)]
                  clear hW9 H8' E8' E9
                  go_wp2_with fail
                  refine (dcrash AK nk ck keep torn nb H9 (fun w h => HW.out.cut w h.tail.tail.tail) (by have := HW9.out.2; omega)).mono ?_
                  rintro e1 w10 ⟨rfl, H10, E10⟩
                  clear H9 y0 y1 y2
                  go_wp2_with fail
                  go_meet
                  case rel => exact ⟨_, Lib.hid ⟨HW9.out.1 keep torn nb, rfl⟩, H10, E9'.trans E10⟩
              · have hd : decide (0 ≤ ag) = false := decide_eq_false hag
                go_wp2_with fail
                go_meet
                case rel => exact ⟨D7, Lib.hid ⟨HA7.out.up, HL7.out⟩, H7, E7'⟩
            case rest =>
              clear H7 E7' HA7 HL7
              obtain ⟨D8, HA8, H8, E8⟩ := hcut
              go_wp2_with fail
              refine (popen_after H8 HA8.out.1 HRR.out (by have := HE.out; omega)).mono ?_
              rintro e1 w9 ⟨r9, s9, p9, D9, L9, m9, hW9, rfl, hS9, -, E9⟩
              obtain ⟨rfl, hl9⟩ := hW9.fine HA8.out.2
              obtain ⟨hmm, hC9⟩ := hW9.ok rfl
              have HC9 := Lib.hid hC9
              have HMM := Lib.hid hmm
              have HL9 := Lib.hid hl9
              have H9 := (hS9 rfl).b3.b3.b2
              have E9' := E8.trans E9
              rw [if_pos rfl]
              clear hW9 hS9 hmm hC9 H8 E8 E9 HA8 HRR hl9
              go_wp2_with fail
              refine (is5 H9 HC9.out HSS.out.1).mono ?_
              rintro e1 w10 ⟨q1, rfl, hq1, H10, E10⟩
              have HQ1 := Lib.hid hq1
              have E10' := E9'.trans E10
              clear H9 E9' E10 hq1
              cases q1 with
              | true =>
                have HSM := Lib.hid (HQ1.out.1 rfl)
                go_wp2_with fail
                refine (is5 H10 HC9.out HSS.out.1).mono ?_
                rintro e1 w11 ⟨q2, rfl, hq2, H11, E11⟩
                obtain rfl : q2 = true := hq2.2 HSM.out
                have E12 := E10'.trans E11
                have H12 := H11.b4.tail.b3.b1
                have HK2 := Lib.hid (show e + 1 + 1 + 1 ≤ 1 + 3 * (k + 1) ∧ KeepI F D9 L9 (e + 1 + 1 + 1) m9 mp W false AK nk keep ag from ⟨by have := HE.out; omega, HC9.out, HSS.out.1, HSM.out, fun _ => HL9.out, HW.out.cut, HW.out.again⟩)
                clear H10 H11 E10' E11 HW HC9 HSS HMM HL9 hq2 HQ1 HSM
                go_wp2_with fail
                go_roundw
                case rel => exact ⟨k + 1, s9, p9, b, mp, D9, L9, e + 1 + 1 + 1, m9, W, false, AK, nk, ck, keep, torn, nb, ag, by omega, by omega, rfl, rfl, rfl, rfl, by go_num, HK2, H12, E12⟩
                case measure => simp [intOf]; omega
              | false =>
                have HSM := Lib.hid (show ∀ n, n < 12 → m9 n = wpage (W2 n) from by
                  rcases HMM.out with rfl | rfl
                  · have := HQ1.out.2 HSS.out.2.2.1; cases this
                  · exact HSS.out.2.2.2)
                go_wp2_with fail
                refine (is5 H10.b4.p2 HC9.out HSS.out.2.1).mono ?_
                rintro e1 w11 ⟨q2, rfl, hq2, H11, E11⟩
                obtain rfl : q2 = true := hq2.2 HSM.out
                have E11' := E10'.trans E11
                clear H10 E10' E11 hq2
                go_wp2_with fail
                refine (is5 H11.b3.p2 HC9.out HSS.out.1).mono ?_
                rintro e1 w12 ⟨q3, rfl, hq3, H12, E12⟩
                obtain rfl : q3 = false := by
                  cases q3 with
                  | false => rfl
                  | true => have := HQ1.out.2 (hq3.1 rfl); cases this
                have E13 := E11'.trans E12
                have H13 := H12.b2.tail.b3.b1
                have HK2 := Lib.hid (show e + 1 + 1 + 1 ≤ 1 + 3 * (k + 1) ∧ KeepI F D9 L9 (e + 1 + 1 + 1) m9 mp2 W2 false AK nk keep ag from ⟨by have := HE.out; omega, HC9.out, HSS.out.2.1, HSM.out, fun _ => HL9.out, HW.out.cut, HW.out.again⟩)
                clear H11 E11' E12 HW HC9 HSS HMM HL9 hq3 HQ1 HSM
                go_wp2_with fail
                go_roundw
                case rel => exact ⟨k + 1, s9, p9, b2, mp2, D9, L9, e + 1 + 1 + 1, m9, W2, false, AK, nk, ck, keep, torn, nb, ag, by omega, by omega, rfl, rfl, rfl, rfl, by go_num, HK2, H13, E13⟩
                case measure => simp [intOf]; omega
      · obtain rfl : k = 12 := by omega
        have hd30 : decide ((12 : Int) < 12) = false := by decide
        have H4 := H3.tail.tail.tail.tail.tail
        clear H3 HK
        go_wp2_with fail
        refine (known5 H4).mono ?_
        rintro e w7 ⟨rfl, H7, E7⟩
        go_wp2_with fail
        go_ret
        exact ⟨rfl, H7, E3.trans E7⟩
    · obtain rfl : k = n := by omega
      have H4 := H3.tail.tail.tail.tail.tail
      clear H3 HK
      go_wp2_with fail
      refine (known5 H4).mono ?_
      rintro e w7 ⟨rfl, H7, E7⟩
      go_wp2_with fail
      go_ret
      exact ⟨rfl, H7, E3.trans E7⟩
end Go.Proofs.Ythbabdjicplooaa
