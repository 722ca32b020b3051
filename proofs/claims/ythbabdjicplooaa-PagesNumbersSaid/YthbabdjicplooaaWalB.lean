/- package wal: blank, Format. Conditions: sectors' bytes are bytes; fewer than 2^31 pending writes. -/
import Derived.Test.YthbabdjicplooaaWalH
namespace Go.Proofs.Ythbabdjicplooaa
open Go.RowKit

/-- blank from sector number n on, r more to come; b: some were none. -/
def blankGo (D : Dsk) (fr : Nat) (b : Bool) : Nat → Nat → Int × Dsk
  | 0, _ => if b then (fcode D, fnext D) else (0, D)
  | r + 1, n => if D.rd (fr + n) = noughts then blankGo D fr b r (n + 1) else if D.left = some 0 then (13, D) else blankGo (D.write (fr + n) noughts) fr true r (n + 1)
theorem DB.write {D : Dsk} (h : DB D) (n : Nat) {xs : List Int} (hx : InB xs) (hl : xs.length = 128) : DB (D.write n xs) :=
  ⟨h.1, fun p hp => (List.mem_append.1 hp).elim (h.2 p) (fun e => by rw [List.mem_singleton.1 e]; exact ⟨hx, hl⟩)⟩
theorem DB.flush {D : Dsk} (h : DB D) : DB D.flush := ⟨fun x hx => (sets_mem hx).elim (h.1 x) (fun ⟨n, hn⟩ => h.2 _ hn), fun p hp => by cases hp⟩
theorem DB.fnext {D : Dsk} (h : DB D) : DB (fnext D) := by
  unfold Go.Proofs.Ythbabdjicplooaa.fnext
  split
  · exact h
  · exact h.flush

set_option maxHeartbeats 4000000 in
set_option maxRecDepth 100000 in
theorem blank_any {w : World} {d : Nat} {D : Dsk} {F : List HP} (fr ct : Nat) (H : Sat w (disk d D :: F)) (hft : fr + ct ≤ D.safe.length) (h3 : D.safe.length ≤ 8192) (hb : DB D) (hp : D.pend.length < 2147483648) :
    Calls Try.prog 81 #[.pointer (some ⟨d, 0, none⟩), .int .i64 fr, .int .i64 ct] w fun e w' => e = .returned (.int .i64 (blankGo D fr false ct 0).1) ∧ Sat w' (disk d (blankGo D fr false ct 0).2 :: F) ∧ Env w w' := by
  obtain ⟨R, hR⟩ : ∃ R, blankGo D fr false ct 0 = R := ⟨_, rfl⟩
  obtain ⟨N, hN⟩ : ∃ N, D.safe.length = N := ⟨_, rfl⟩
  obtain ⟨P0, hP⟩ : ∃ P0, D.pend.length = P0 := ⟨_, rfl⟩
  have HS := Lib.hid (show blankGo D fr false (ct - 0) 0 = R ∧ D.safe.length = N ∧ DB D ∧ D.pend.length ≤ P0 + 0 from ⟨hR, hN, hb, by omega⟩)
  rw [hN] at hft h3
  rw [hP] at hp
  have HP := Lib.hid hp
  rw [hR]
  clear hR hb hp hN hP
  go_enter Try.func81, Try.ntmps81
  go_wp2_with fail
  go_loopw [7, 13] (fun sm i wr => ∃ (k : Nat) (D' : Dsk) (b : Bool), k ≤ ct ∧ i = .int .i64 k ∧ sm = .bool b ∧ Hid (blankGo D' fr b (ct - k) k = R ∧ D'.safe.length = N ∧ DB D' ∧ D'.pend.length ≤ P0 + k) ∧ Sat wr (disk d D' :: F) ∧ Env w wr) (fun _ i _ => ct - (intOf i).toNat)
  case atStart => exact ⟨0, D, false, by omega, rfl, rfl, HS.out, H, Env.refl w⟩
  case round =>
    clear H HS
    obtain ⟨k, D', b, hk, rfl, rfl, hD, H2, E2⟩ := hrel
    by_cases hlt : k < ct
    · obtain ⟨r, hr⟩ : ∃ r, ct - k = r + 1 := ⟨ct - k - 1, by omega⟩
      have hr2 : r = ct - (k + 1) := by omega
      have hR := hD.out.1
      rw [hr] at hR
      unfold blankGo at hR
      have hw0 : IntKind.i64.wrap ((fr : Int) + (k : Int)) = ((fr + k : Nat) : Int) := by rw [IntWalk.i64_in _ (by omega)]; omega
      have HR := Lib.hid hR
      clear hR hr
      go_wp2_with fail
      refine (dread (fr + k) H2 (by rw [hD.out.2.1]; omega)).mono ?_
      rintro e w3 ⟨v3, rfl, H3, E3⟩
      obtain ⟨A3, c3, rfl, -, -, -⟩ := H3.own_form
      go_wp2_with fail
      refine (nothing_any H3).mono ?_
      rintro e w4 ⟨g4, rfl, H4, E4⟩
      go_wp2_with fail
      refine (bequal A3 (some ⟨g4, 0, none⟩) 128 128 c3 128 (D'.rd (fr + k)) noughts _ H4.b1.own_at.1 H4.own_at.1 (by omega) (by omega) (hD.out.2.2.1.rd (fr + k)).1 noughts_inb).mono ?_
      rintro e w5 ⟨rfl, rfl⟩
      have H5 := H4.tail.tail
      have E5 := (E2.trans E3).trans E4
      clear H2 H3 H4 E2 E3 E4
      by_cases heq : D'.rd (fr + k) = noughts
      · have hd : decide (D'.rd (fr + k) = noughts) = true := by simp [heq]
        have HD2 := Lib.hid (show blankGo D' fr b (ct - (k + 1)) (k + 1) = R ∧ D'.safe.length = N ∧ DB D' ∧ D'.pend.length ≤ P0 + (k + 1) from ⟨by rw [← hr2]; have := HR.out; rwa [if_pos heq] at this, hD.out.2.1, hD.out.2.2.1, by have := hD.out.2.2.2; omega⟩)
        rw [hd]
        clear hd heq HR
        go_wp2_with fail
        go_roundw
        case rel => exact ⟨k + 1, D', b, by omega, by go_num, rfl, HD2.out, H5, E5⟩
        case measure => simp [intOf]; omega
      · have hd : decide (D'.rd (fr + k) = noughts) = false := by simp [heq]
        rw [hd]
        clear hd
        by_cases hl : D'.left = some 0
        · have HRR := Lib.hid (show R = (13, D') by have := HR.out; rw [if_neg heq, if_pos hl] at this; exact this.symm)
          clear HR
          go_wp2_with fail
          refine (nothing_any H5).mono ?_
          rintro e w6 ⟨g6, rfl, H6, E6⟩
          go_wp2_with fail
          refine (dwrite_stop (fr + k) (some ⟨g6, 0, none⟩) 128 H6.b1 (by rw [hD.out.2.1]; omega) hl).mono ?_
          rintro e w7 ⟨rfl, rfl⟩
          go_wp2_with fail
          go_ret
          rw [HRR.out]
          exact ⟨rfl, H6.tail, E5.trans E6⟩
        · have HD2 := Lib.hid (show blankGo (D'.write (fr + k) noughts) fr true (ct - (k + 1)) (k + 1) = R ∧ (D'.write (fr + k) noughts).safe.length = N ∧ DB (D'.write (fr + k) noughts) ∧ (D'.write (fr + k) noughts).pend.length ≤ P0 + (k + 1) from ⟨by rw [← hr2]; have := HR.out; rwa [if_neg heq, if_neg hl] at this, hD.out.2.1, hD.out.2.2.1.write _ noughts_inb noughts_len, by have := hD.out.2.2.2; simp [Dsk.write]; omega⟩)
          clear HR
          go_wp2_with fail
          refine (nothing_any H5).mono ?_
          rintro e w6 ⟨g6, rfl, H6, E6⟩
          go_wp2_with fail
          refine (dwrite (fr + k) (some ⟨g6, 0, none⟩) 128 noughts H6.b1 (fun w h => h.own_at.1) (by rw [hD.out.2.1]; omega) hl (by have := hD.out.2.2.2; have := HP.out; omega)).mono ?_
          rintro e w7 ⟨rfl, H7, E7⟩
          have H8 := H7.b1.tail
          have E8 := (E5.trans E6).trans E7
          clear H5 H6 H7 E5 E6 E7
          go_wp2_with fail
          go_roundw
          case rel => exact ⟨k + 1, _, true, by omega, by go_num, rfl, HD2.out, H8, E8⟩
          case measure => simp [intOf]; omega
    · obtain rfl : k = ct := by omega
      have hR := hD.out.1
      rw [Nat.sub_self] at hR
      unfold blankGo at hR
      cases b with
      | false =>
        have HRR := Lib.hid (show R = (0, D') from hR.symm)
        clear hR
        go_wp2_with fail
        go_ret
        rw [HRR.out]
        exact ⟨rfl, H2, E2⟩
      | true =>
        have HRR := Lib.hid (show R = (fcode D', fnext D') from hR.symm)
        clear hR
        go_wp2_with fail
        refine (dflush_all H2 (by have := hD.out.2.2.2; have := HP.out; omega)).mono ?_
        rintro e w3 ⟨rfl, H3, E3⟩
        go_wp2_with fail
        go_ret
        rw [HRR.out]
        exact ⟨rfl, H3, E2.trans E3⟩
end Go.Proofs.Ythbabdjicplooaa
