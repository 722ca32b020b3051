/- QueueKept answers true and keeps what was there. Conditions: none. -/
import Derived.Test.YtcgpmenknloagaaQueueAnyWalk
import Derived.Test.YtcgpmenknloagaaBooksIntApart
namespace Go.Proofs.Ytcgpmenknloagaa
open Go.RowKit Go.WideShapes

def GoodB (m : Nat) (R : Bk) : Prop := R.items.length ≤ m ∧ ∀ p ∈ R.items, p.n < 4294967296 ∧ ∃ l : List Int, p.xs = l.map (Value.int .i64)

set_option maxHeartbeats 4000000 in
set_option maxRecDepth 100000 in
theorem queueKept_any (A : Option Addr) (n c : Nat) (l : List Int) (W : World) (hr : Rd W 1 A n (l.map (Value.int .i64))) :
    Calls Try.prog 6 #[.slice A n c] W fun e w' => e = .returned (.bool true) ∧ Sat w' [old W] ∧ Env W w' := by
  have HN := Lib.hid (show n = l.length by have := hr.1; simpa using this.symm)
  have HR := Lib.hid (reads_old hr)
  clear hr
  go_enter Try.func6, Try.ntmps6
  go_wp2_with fail
  refine (new_int (Sat.start W)).mono ?_
  rintro e w1 ⟨q, rfl, H1, E1⟩
  go_wp2_with fail
  go_loopw [4] (fun i wr => ∃ (k : Nat) (la : List Int), k ≤ n ∧ k ≤ 40 ∧ i = .int .i64 k ∧ Sat wr (queue_int q la :: [old W]) ∧ Env W wr ∧ la.length ≤ k) (fun i _ => n - (intOf i).toNat)
  case atStart => exact ⟨0, [], by omega, by omega, rfl, H1, E1, by simp⟩
  case round =>
    clear H1 E1
    obtain ⟨k, la, hk, hk4, rfl, H, E, hla⟩ := hrel
    by_cases hlt : k < n ∧ k < 40
    · obtain ⟨hlt, hlt4⟩ := hlt
      have hkl : k < l.length := by have := HN.out; omega
      have HY := Lib.hid (List.getElem?_eq_getElem hkl)
      obtain ⟨b, off, rfl, hck⟩ := (HR.out wr H.tail).2 k _ (by rw [List.getElem?_map, HY.out]; rfl)
      generalize l[k] = y at hck HY
      have HP := Lib.hid (push_int y H (by omega))
      have hpl : (pushL la (idx la y) y).length ≤ k + 1 := by
        unfold pushL; split
        · omega
        · rw [List.length_append, List.length_singleton]; omega
      generalize pushL la (idx la y) y = la2 at HP hpl
      go_wp2_with fail
      refine HP.out.mono ?_
      rintro e w2 ⟨rfl, H2, E2⟩
      go_wp2_with fail
      go_roundw
      case rel => exact ⟨k + 1, la2, by omega, by omega, by go_num, H2, E.trans E2, hpl⟩
      case measure => simp [intOf]; omega
    · have hla4 : la.length < 4294967296 := by omega
      have hexit : ¬ k < n ∨ (k < n ∧ ¬ k < 40) := by omega
      have HQ := Lib.hid (show Sat (wr.alloc (.cells #[.slice none 0 0, .slice none 0 0, .int .i64 0, .bool false] 53)) (bk_int wr.heap.size ⟨.slice none 0 0, .slice none 0 0, [], 0⟩ :: queue_int q la :: [old W]) from (H.alloc (.cells #[.slice none 0 0, .slice none 0 0, .int .i64 0, .bool false] 53)).bk_new_int)
      have EQ := Lib.hid (E.alloc (.cells #[.slice none 0 0, .slice none 0 0, .int .i64 0, .bool false] 53))
      have G0 := Lib.hid (show GoodB 0 ⟨.slice none 0 0, .slice none 0 0, [], 0⟩ from ⟨Nat.le_refl _, fun p hp => by cases hp⟩)
      clear H E hlt hk hk4
      rcases hexit with hexit | ⟨hexit, hexit2⟩
      all_goals
        as_aux_lemma =>
        go_upto_region 9 with fail
        replace HQ := HQ.out
        replace EQ := EQ.out
        generalize wr.alloc (.cells #[.slice none 0 0, .slice none 0 0, .int .i64 0, .bool false] 53) = w2 at *
        generalize wr.heap.size = b at *
        generalize (⟨.slice none 0 0, .slice none 0 0, [], 0⟩ : Bk) = R0 at *
        clear hexit
        go_wp2_with fail
        refine (all_int HQ.b1 hla4).mono ?_
        rintro e w3 ⟨v3, rfl, H3, E3⟩
        obtain ⟨A3, c3, rfl, -, -, -⟩ := H3.own_form
        go_wp2_with fail
        refine (keep_int b R0 A3 la.length c3 _ H3.b2 (one_int la) hla4 (by have := G0.out.1; omega) G0.out.2 ⟨la, rfl⟩).mono ?_
        rintro e w4 ⟨rfl, R4, H4, E4, L4, X4⟩
        have G1 := Lib.hid (show GoodB 1 R4 from ⟨by have := G0.out.1; omega, X4⟩)
        clear X4 L4 G0
        replace EQ := (EQ.trans E3).trans E4
        clear HQ E3 E4 H3
        go_wp2_with fail
        refine (all_int H4.b1 hla4).mono ?_
        rintro e w5 ⟨v5, rfl, H5, E5⟩
        obtain ⟨A5, c5, rfl, -, -, -⟩ := H5.own_form
        go_wp2_with fail
        refine (keep_int b R4 A5 la.length c5 _ H5.b2 (one_int la) hla4 (by have := G1.out.1; omega) G1.out.2 ⟨la, rfl⟩).mono ?_
        rintro e w6 ⟨rfl, R6, H6, E6, L6, X6⟩
        have G2 := Lib.hid (show GoodB 2 R6 from ⟨by have := G1.out.1; omega, X6⟩)
        clear X6 L6 G1
        replace EQ := (EQ.trans E5).trans E6
        clear H4 E5 E6 H5
        go_wp2_with fail
        refine (len_int H6.b1).mono ?_
        rintro e w7 ⟨rfl, rfl⟩
        go_wp2_with fail
        refine (take_int ((la.length : Int) / 2) (la.length / 2) H6.b1 hla4 (by omega) (by omega)).mono ?_
        rintro e w7 ⟨v7, rfl, H7, E7⟩
        obtain ⟨A7, c7, rfl, -, -, -⟩ := H7.own_form
        go_wp2_with fail
        refine (keep_int b R6 A7 (la.length / 2) c7 _ H7.b2 (one_int _) (by omega) (by have := G2.out.1; omega) G2.out.2 ⟨_, rfl⟩).mono ?_
        rintro e w8 ⟨rfl, R8, H8, E8, L8, X8⟩
        have G3 := Lib.hid (show GoodB 3 R8 from ⟨by have := G2.out.1; omega, X8⟩)
        clear X8 L8 G2
        replace EQ := (EQ.trans E7).trans E8
        clear H6 E7 E8 H7
        have hld : (la.drop (la.length / 2)).length < 4294967296 := by rw [List.length_drop]; omega
        generalize la.drop (la.length / 2) = ld at *
        go_wp2_with fail
        refine (all_int H8.b1 hld).mono ?_
        rintro e w9 ⟨v9, rfl, H9, E9⟩
        obtain ⟨A9, c9, rfl, -, -, -⟩ := H9.own_form
        go_wp2_with fail
        refine (keep_int b R8 A9 ld.length c9 _ H9.b2 (one_int ld) hld (by have := G3.out.1; omega) G3.out.2 ⟨ld, rfl⟩).mono ?_
        rintro e w10 ⟨rfl, R10, H10, E10, L10, X10⟩
        have G4 := Lib.hid (show GoodB 4 R10 from ⟨by have := G3.out.1; omega, X10⟩)
        clear X10 L10 G3
        replace EQ := (EQ.trans E9).trans E10
        clear H8 E9 E10 H9
        go_wp2_with fail
        refine (apart_int b R10 H10 (by have := G4.out.1; omega) G4.out.2).mono ?_
        rintro e w11 ⟨rfl, H11, E11⟩
        go_wp2_with fail
        refine (known15 H11.tail).mono ?_
        rintro e w12 ⟨rfl, H12, E12⟩
        go_wp2_with fail
        go_ret
        exact ⟨rfl, H12, (EQ.trans E11).trans E12⟩
end Go.Proofs.Ytcgpmenknloagaa
