/- QueueAny answers true and keeps what was there. Conditions: none. -/
import Derived.Test.YtcgpmenknloagaaQueueLawA
import Derived.Test.YtcgpmenknloagaaQueuePair
import Derived.Test.YtcgpmenknloagaaOpen
namespace Go.Proofs.Ytcgpmenknloagaa
open Go.RowKit Go.WideShapes

theorem idx_map {α β : Type} [DecidableEq α] [DecidableEq β] (f : α → β) (l : List α) (x : α) (h : ∀ y ∈ l, f y = f x → y = x) : idx (l.map f) (f x) = idx l x := by
  have : (l.map f).findIdx? (· == f x) = l.findIdx? (· == x) := by
    induction l with
    | nil => rfl
    | cons a l ih =>
      have e : (f a == f x) = (a == x) := by
        by_cases ha : a = x
        · subst ha; rw [beq_self_eq_true, beq_self_eq_true]
        · have : ¬ f a = f x := fun hf => ha (h a (by simp) hf)
          rw [beq_eq_false_iff_ne.2 this, beq_eq_false_iff_ne.2 ha]
      rw [List.map_cons, List.findIdx?_cons, List.findIdx?_cons, e, ih fun y hy => h y (by simp [hy])]
  unfold idx
  rw [this]

def enc (x : Int) : ByteArray := Utf8.encode (1000 + x)
def prs (x : Int) : Pr := (x, -x)
def dec (s : ByteArray) : Int := (((s.get! 0).toNat - 192) * 64 + ((s.get! 1).toNat - 128) : Nat) - 1000
theorem dec_enc' : ∀ k : Fin 139, dec (enc ((k.val : Int) - 69)) = (k.val : Int) - 69 := by decide +kernel
theorem dec_enc {x : Int} (h : -69 ≤ x ∧ x ≤ 69) : dec (enc x) = x := by
  have := dec_enc' ⟨(x + 69).toNat, by omega⟩
  have e : (((x + 69).toNat : Nat) : Int) - 69 = x := by omega
  rw [e] at this; exact this
def InR (l : List Int) : Prop := ∀ x ∈ l, -69 ≤ x ∧ x ≤ 69
theorem enc_idx {l : List Int} (hl : InR l) {x : Int} (hx : -69 ≤ x ∧ x ≤ 69) : idx (l.map enc) (enc x) = idx l x :=
  idx_map enc l x fun y hy h => by rw [← dec_enc (hl y hy), h, dec_enc hx]
theorem prs_idx (l : List Int) (x : Int) : idx (l.map prs) (x, -x) = idx l x :=
  idx_map prs l x fun y _ h => congrArg Prod.fst h

/-- What a push answers: of what stood there and how many. -/
def pushN (n : Nat) (i : Int) : Int := if 0 ≤ i then i else if 64 ≤ n then 0 else n
def pushB (i : Int) : Bool := decide (0 ≤ i)
def pushE (n : Nat) (i : Int) : Int := if 0 ≤ i then 0 else if 64 ≤ n then 4 else 0
def pushL {α : Type} (l : List α) (i : Int) (x : α) : List α := if 0 ≤ i ∨ 64 ≤ l.length then l else l ++ [x]
theorem pushL_map {α β : Type} (f : α → β) (l : List α) (i : Int) (x : α) : pushL (l.map f) i (f x) = (pushL l i x).map f := by
  unfold pushL; rw [List.length_map]; split <;> simp

theorem push_int {w : World} {q : Nat} {l : List Int} {F : List HP} (x : Int) (H : Sat w (queue_int q l :: F)) (hl : l.length ≤ 64) :
    Calls Try.prog 14 #[.pointer (some ⟨q, 0, none⟩), .int .i64 x] w fun e w' => e = .returned (.tuple #[.int .i64 (pushN l.length (idx l x)), .bool (pushB (idx l x)), .int .i64 (pushE l.length (idx l x))]) ∧ Sat w' (queue_int q (pushL l (idx l x) x) :: F) ∧ Env w w' := by
  unfold pushN pushB pushE pushL
  by_cases h1 : 0 ≤ idx l x
  · refine (push_met_int x H (by omega) h1).mono ?_
    rintro e w1 ⟨rfl, rfl⟩
    exact ⟨by simp [h1], by simpa [h1] using H, Env.refl _⟩
  · by_cases h2 : 64 ≤ l.length
    · refine (push_full_int x H (by omega) (by omega) h2).mono ?_
      rintro e w1 ⟨rfl, rfl⟩
      exact ⟨by simp [h1, h2], by simpa [h1, h2] using H, Env.refl _⟩
    · refine (push_new_int x H (by omega) (by omega)).mono ?_
      rintro e w1 ⟨rfl, H1, E1⟩
      exact ⟨by simp [h1, h2], by simpa [h1, h2] using H1, E1⟩
theorem push_str {w : World} {q : Nat} {l : List ByteArray} {F : List HP} (x : ByteArray) (H : Sat w (queue_str q l :: F)) (hl : l.length ≤ 64) :
    Calls Try.prog 22 #[.pointer (some ⟨q, 0, none⟩), .string x] w fun e w' => e = .returned (.tuple #[.int .i64 (pushN l.length (idx l x)), .bool (pushB (idx l x)), .int .i64 (pushE l.length (idx l x))]) ∧ Sat w' (queue_str q (pushL l (idx l x) x) :: F) ∧ Env w w' := by
  unfold pushN pushB pushE pushL
  by_cases h1 : 0 ≤ idx l x
  · refine (push_met_str x H (by omega) h1).mono ?_
    rintro e w1 ⟨rfl, rfl⟩
    exact ⟨by simp [h1], by simpa [h1] using H, Env.refl _⟩
  · by_cases h2 : 64 ≤ l.length
    · refine (push_full_str x H (by omega) (by omega) h2).mono ?_
      rintro e w1 ⟨rfl, rfl⟩
      exact ⟨by simp [h1, h2], by simpa [h1, h2] using H, Env.refl _⟩
    · refine (push_new_str x H (by omega) (by omega)).mono ?_
      rintro e w1 ⟨rfl, H1, E1⟩
      exact ⟨by simp [h1, h2], by simpa [h1, h2] using H1, E1⟩
theorem push_pair {w : World} {q : Nat} {l : List Pr} {F : List HP} (x y : Int) (H : Sat w (queue_pair q l :: F)) (hl : l.length ≤ 64) :
    Calls Try.prog 23 #[.pointer (some ⟨q, 0, none⟩), .agg #[.int .i64 x, .int .i64 y]] w fun e w' => e = .returned (.tuple #[.int .i64 (pushN l.length (idx l (x, y))), .bool (pushB (idx l (x, y))), .int .i64 (pushE l.length (idx l (x, y)))]) ∧ Sat w' (queue_pair q (pushL l (idx l (x, y)) (x, y)) :: F) ∧ Env w w' := by
  unfold pushN pushB pushE pushL
  by_cases h1 : 0 ≤ idx l (x, y)
  · refine (push_met_pair x y H (by omega) h1).mono ?_
    rintro e w1 ⟨rfl, H1, E1⟩
    exact ⟨by simp [h1], by simpa [h1] using H1, E1⟩
  · by_cases h2 : 64 ≤ l.length
    · refine (push_full_pair x y H (by omega) (by omega) h2).mono ?_
      rintro e w1 ⟨rfl, H1, E1⟩
      exact ⟨by simp [h1, h2], by simpa [h1, h2] using H1, E1⟩
    · refine (push_new_pair x y H (by omega) (by omega)).mono ?_
      rintro e w1 ⟨rfl, H1, E1⟩
      exact ⟨by simp [h1, h2], by simpa [h1, h2] using H1, E1⟩

set_option maxHeartbeats 4000000 in
set_option maxRecDepth 100000 in
theorem queueAny_any (A : Option Addr) (n c : Nat) (l : List Int) (W : World) (hr : Rd W 1 A n (l.map (Value.int .i64))) :
    Calls Try.prog 4 #[.slice A n c] W fun e w' => e = .returned (.bool true) ∧ Sat w' [old W] ∧ Env W w' := by
  have HN := Lib.hid (show n = l.length by have := hr.1; simpa using this.symm)
  have HR := Lib.hid (reads_old hr)
  clear hr
  go_enter Try.func4, Try.ntmps4
  go_wp2_with fail
  refine (new_int (Sat.start W)).mono ?_
  rintro e w1 ⟨qa, rfl, H1, E1⟩
  go_wp2_with fail
  refine (new_str H1).mono ?_
  rintro e w2 ⟨qb, rfl, H2, E2⟩
  go_wp2_with fail
  refine (new_pair H2).mono ?_
  rintro e w3 ⟨qc, rfl, H3, E3⟩
  have E3' := (E1.trans E2).trans E3
  clear H1 H2 E1 E2 E3
  go_wp2_with fail
  go_loopw [6] (fun i wr => ∃ (k : Nat) (la : List Int), k ≤ n ∧ k ≤ 90 ∧ i = .int .i64 k ∧ Sat wr (queue_pair qc (la.map prs) :: queue_str qb (la.map enc) :: queue_int qa la :: [old W]) ∧ Env W wr ∧ la.length ≤ 64 ∧ Hid (InR la)) (fun i _ => n - (intOf i).toNat)
  case atStart => exact ⟨0, [], by omega, by omega, rfl, H3, E3', by simp, fun x hx => by cases hx⟩
  case round =>
    obtain ⟨k, la, hk, hk9, rfl, H, E, hla, hin⟩ := hrel
    by_cases hlt : k < n
    · by_cases hlt9 : k < 90
      · have hkl : k < l.length := by have := HN.out; omega
        have HY := Lib.hid (List.getElem?_eq_getElem hkl)
        obtain ⟨b, off, rfl, hck⟩ := (HR.out wr H.tail.tail.tail).2 k _ (by rw [List.getElem?_map, HY.out]; rfl)
        generalize l[k] = y at hck HY
        obtain ⟨x, hx⟩ : ∃ x, y.tmod 70 = x := ⟨_, rfl⟩
        have hxr : -69 ≤ x ∧ x ≤ 69 := by
          have h1 := Int.tmod_lt_of_pos y (b := 70) (by omega)
          have h2 := Int.tmod_lt_of_pos (-y) (b := 70) (by omega)
          rw [Int.neg_tmod] at h2
          omega
        have HLA := Lib.hid (pushL_map enc la (idx la x) x)
        have HLB := Lib.hid (pushL_map prs la (idx la x) x)
        have hLN : (pushL la (idx la x) x).length ≤ 64 := by
          unfold pushL; split
          · exact hla
          · rw [List.length_append, List.length_singleton]; omega
        have hLR : Hid (InR (pushL la (idx la x) x)) := by
          show InR _
          unfold pushL; split
          · exact hin.out
          · intro u hu
            rcases List.mem_append.1 hu with hu | hu
            · exact hin.out u hu
            · rw [List.mem_singleton.1 hu]; exact hxr
        have HA := Lib.hid (push_int x H.b2 hla)
        have HB := fun w F (H : Sat w (queue_str qb (la.map enc) :: F)) => push_str (enc x) H (by rw [List.length_map]; exact hla)
        rw [List.length_map, enc_idx hin.out hxr, HLA.out] at HB
        have HC := fun w F (H : Sat w (queue_pair qc (la.map prs) :: F)) => push_pair x (-x) H (by rw [List.length_map]; exact hla)
        rw [List.length_map, prs_idx, show (x, -x) = prs x from rfl, HLB.out] at HC
        replace HB := Lib.hid HB
        replace HC := Lib.hid HC
        obtain ⟨la2, hla2⟩ : ∃ a, pushL la (idx la x) x = a := ⟨_, rfl⟩
        obtain ⟨N, hN⟩ : ∃ a, pushN la.length (idx la x) = a := ⟨_, rfl⟩
        obtain ⟨B, hB⟩ : ∃ a, pushB (idx la x) = a := ⟨_, rfl⟩
        obtain ⟨R, hR⟩ : ∃ a, pushE la.length (idx la x) = a := ⟨_, rfl⟩
        rw [hla2] at hLN hLR
        rw [hla2, hN, hB, hR] at HA HB HC
        clear hla2 hN hB hR HLA HLB hin
        go_wp2_with fail
        refine HA.out.mono ?_
        rintro e w4 ⟨rfl, H4, E4⟩
        go_wp2_with fail
        refine (HB.out w4 _ H4.b2).mono ?_
        rintro e w5 ⟨rfl, H5, E5⟩
        go_wp2_with fail
        refine (HC.out w5 _ H5.b2).mono ?_
        rintro e w6 ⟨rfl, H6, E6⟩
        replace E6 := ((E.trans E4).trans E5).trans E6
        clear HA HB HC H H4 H5 E E4 E5 HY hck
        go_wp2_with fail
        case roundEnd => exact ⟨⟨k + 1, la2, by omega, by omega, by go_num, H6, E6, hLN, hLR⟩, by simp [intOf]; omega⟩
        clear H3 E3'
        as_aux_lemma =>
        obtain ⟨m, hm', hml⟩ : ∃ m : Nat, Hid ((m : Int) = min (max 3 0) (la2.length : Int)) ∧ m ≤ la2.length := ⟨min 3 la2.length, (by omega : ((min 3 la2.length : Nat) : Int) = min (max 3 0) (la2.length : Int)), by omega⟩
        have hLD : Hid (InR (la2.drop m)) := fun u hu => hLR.out u (List.mem_of_mem_drop hu)
        have hLT : Hid (InR (la2.take m)) := fun u hu => hLR.out u (List.mem_of_mem_take hu)
        have hDL : (la2.drop m).length ≤ 64 := by rw [List.length_drop]; omega
        refine (take_int 3 m H6.b2 (by omega) (by omega) hm'.out).mono ?_
        rintro e w7 ⟨v7, rfl, H7, E7⟩
        obtain ⟨A7, c7, rfl, -, -, -⟩ := H7.own_form
        go_wp2_with fail
        refine (take_str 3 m H7.b3 (by rw [List.length_map]; omega) (by omega) (by rw [List.length_map]; exact hm'.out)).mono ?_
        rintro e w8 ⟨v8, rfl, H8, E8⟩
        obtain ⟨A8, c8, rfl, -, -, -⟩ := H8.own_form
        go_wp2_with fail
        refine (take_pair 3 m H8.b4 (by rw [List.length_map]; omega) (by omega) (by rw [List.length_map]; exact hm'.out)).mono ?_
        rintro e w9 ⟨v9, rfl, H9, E9⟩
        obtain ⟨A9, c9, rfl, -, -, -⟩ := H9.own_form
        rw [← List.map_take, ← List.map_take, ← List.map_drop, ← List.map_drop] at H9
        have hTL : (la2.take m).length = m := by rw [List.length_take]; omega
        generalize la2.take m = lt at H9 hLT hTL
        generalize la2.drop m = ld at H9 hLD hDL
        have R9 := Lib.hid H9.own_at.1
        have R8 := Lib.hid H9.b2.own_at.1
        have R7 := Lib.hid H9.b4.own_at.1
        have H10 := H9.tail.b1.tail.b2.tail
        have E10 := ((E6.trans E7).trans E8).trans E9
        clear H6 H7 H8 H9 E6 E7 E8 E9
        clear hm'
        go_wp2_with fail
        go_loopw [20] (fun j wr => ∃ (i d : Nat), i ≤ m ∧ j = .int .i64 i ∧ wr = w9.drewN d) (fun j _ => m - (intOf j).toNat)
        case atStart => exact ⟨0, 0, by omega, rfl, rfl⟩
        case round =>
          obtain ⟨i, d, hi, rfl, rfl⟩ := hrel
          by_cases hlt : i < m
          · have hil : i < lt.length := by omega
            have hyr := hLT.out _ (List.getElem_mem hil)
            obtain ⟨b7, o7, rfl, y7⟩ := R7.out.2 i (.int .i64 lt[i]) (by simp [hil])
            obtain ⟨b8, o8, rfl, y8⟩ := R8.out.2 i (.string (Utf8.encode (1000 + lt[i]))) (by simp [hil, enc])
            obtain ⟨b9, o9, rfl⟩ := rd2_at R9.out (by omega)
            obtain ⟨z1, z2⟩ := rd2 R9.out (k := i) (p := lt[i]) (r := -lt[i]) (by rw [List.length_map]; exact hil) (by simp [prs])
            generalize lt[i] = y at hyr y7 y8 z1 z2
            have hne := nePair y (-y) y (-y)
            go_wp2
            go_quiet (fail)
            go_wp2
            go_roundw
            case rel => exact ⟨i + 1, _, by omega, by go_num, rfl⟩
            case measure => simp [intOf]; omega
          · obtain rfl : i = m := by omega
            have H11 := H10.drewN d
            have E11 := E10.drewN d
            go_wp2_with fail
            exact ⟨⟨k + 1, ld, by omega, by omega, by go_num, H11, E11, hDL, hLD⟩, by simp [intOf]; omega⟩
      · go_wp2_with fail
        refine (len_int H.b2).mono ?_
        rintro e w4 ⟨rfl, rfl⟩
        go_wp2_with fail
        refine (len_str H.b1).mono ?_
        rintro e w4 ⟨rfl, rfl⟩
        rw [List.length_map]
        go_wp2_with fail
        refine (len_int H.b2).mono ?_
        rintro e w4 ⟨rfl, rfl⟩
        go_wp2_with fail
        refine (len_pair H).mono ?_
        rintro e w4 ⟨rfl, rfl⟩
        rw [List.length_map]
        go_wp2_with fail
        refine (known15 H.tail.tail.tail).mono ?_
        rintro e w4 ⟨rfl, H4, E4⟩
        go_wp2_with fail
        go_ret
        exact ⟨rfl, H4, E.trans E4⟩
    · go_wp2_with fail
      refine (len_int H.b2).mono ?_
      rintro e w4 ⟨rfl, rfl⟩
      go_wp2_with fail
      refine (len_str H.b1).mono ?_
      rintro e w4 ⟨rfl, rfl⟩
      rw [List.length_map]
      go_wp2_with fail
      refine (len_int H.b2).mono ?_
      rintro e w4 ⟨rfl, rfl⟩
      go_wp2_with fail
      refine (len_pair H).mono ?_
      rintro e w4 ⟨rfl, rfl⟩
      rw [List.length_map]
      go_wp2_with fail
      refine (known15 H.tail.tail.tail).mono ?_
      rintro e w4 ⟨rfl, H4, E4⟩
      go_wp2_with fail
      go_ret
      exact ⟨rfl, H4, E.trans E4⟩
end Go.Proofs.Ytcgpmenknloagaa
