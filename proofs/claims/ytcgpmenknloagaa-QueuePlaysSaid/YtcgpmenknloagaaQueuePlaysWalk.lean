/- QueuePlays answers true, whatever the calls, and keeps what was there. Conditions: fewer than 2^47 bytes came in. -/
import Derived.Test.YtcgpmenknloagaaQueueLawA
import Derived.Test.YtcgpmenknloagaaQueueBook
import Derived.Deep.RegionHeld3
import Derived.Deep.CutBlock
namespace Go.Proofs.Ytcgpmenknloagaa
open Go.RowKit Go.WideShapes

/-- What stands in the variable 'at' when j places were looked at. -/
def AtIs (l : List Int) (x : Int) (j : Nat) (a : Int) : Prop :=
  (a = -1 ∧ ∀ i (hi : i < l.length), i < j → l[i] ≠ x) ∨ ∃ i : Nat, ∃ hi : i < l.length, i < j ∧ l[i] = x ∧ a = i
theorem AtIs.start (l : List Int) (x : Int) : AtIs l x 0 (-1) := .inl ⟨rfl, fun i _ h => by omega⟩
theorem AtIs.hit {l : List Int} {x : Int} {j : Nat} (hj : j < l.length) (h : l[j] = x) : AtIs l x (j + 1) (j : Int) := .inr ⟨j, hj, by omega, h, rfl⟩
theorem AtIs.miss {l : List Int} {x : Int} {j : Nat} {a : Int} (H : AtIs l x j a) (hj : j < l.length) (h : l[j] ≠ x) : AtIs l x (j + 1) a := by
  rcases H with ⟨ha, hn⟩ | ⟨i, hi, hij, he, ha⟩
  · refine .inl ⟨ha, fun i hi hij => ?_⟩
    rcases Nat.lt_or_eq_of_le (Nat.le_of_lt_succ hij) with h' | h'
    · exact hn i hi h'
    · subst h'; exact h
  · exact .inr ⟨i, hi, by omega, he, ha⟩
theorem AtIs.done {l : List Int} {x : Int} {a : Int} (H : AtIs l x l.length a) (hnd : l.Nodup) : a = idx l x := by
  rcases H with ⟨ha, hn⟩ | ⟨i, hi, _, he, ha⟩
  · rw [ha, idx_miss fun i hi => hn i hi hi]
  · rw [ha, idx_hit hi he]
    intro j hj h
    have := (List.getElem_inj (xs := l) (h₀ := by omega) (h₁ := hi) hnd).1 (h.trans he.symm)
    omega
theorem AtIs.range {l : List Int} {x : Int} {j : Nat} {a : Int} (H : AtIs l x j a) : -1 ≤ a ∧ a ≤ l.length := by
  rcases H with ⟨ha, _⟩ | ⟨i, hi, _, _, ha⟩ <;> omega

def flatAsk (L : List (Int × Int)) : List Value := L.flatMap fun x => [.int .i64 x.1, .int .i64 x.2]
theorem flatAsk_get (L : List (Int × Int)) (k : Nat) (hk : k < L.length) : (flatAsk L)[k * 2]? = some (.int .i64 L[k].1) ∧ (flatAsk L)[k * 2 + 1]? = some (.int .i64 L[k].2) := by
  induction L generalizing k with
  | nil => simp at hk
  | cons x L ih =>
    cases k with
    | zero => simp [flatAsk]
    | succ k =>
      have := ih k (by simpa using hk)
      simp only [flatAsk, List.flatMap_cons] at this ⊢
      constructor
      · rw [List.getElem?_append_right (by simp; omega)]
        simpa [Nat.add_mul] using this.1
      · rw [List.getElem?_append_right (by simp; omega)]
        simpa [Nat.add_mul] using this.2

set_option maxHeartbeats 40000000 in
set_option maxRecDepth 100000 in
theorem queuePlays_any {W : World} (A : Option Addr) (n c : Nat) (L : List (Int × Int)) (hL : n = L.length) (hn : n * 16 ≤ 140737488351232) (hr : Rd W 2 A n (flatAsk L))
    (hwf : ∀ x ∈ L, -9223372036854775808 ≤ x.2 ∧ x.2 ≤ 9223372036854775807) :
    Calls Try.prog 5 #[.slice A n c] W fun e w' => e = .returned (.bool true) ∧ Sat w' [old W] ∧ Env W w' := by
  have HL := Lib.hid hL
  have HR := Lib.hid hr
  have HW := Lib.hid hwf
  clear hL hr hwf
  go_enter Try.func5, Try.ntmps5
  go_wp2_with fail
  refine (new_int (Sat.start W)).mono ?_
  rintro e w1 ⟨q, rfl, H1, E1⟩
  go_wp2_with fail
  go_loopw [4, 5] (fun v i wr => ∃ (k : Nat) (l : List Int), k ≤ n ∧ k ≤ 200 ∧ i = .int .i64 k ∧ Sat wr (own 3 1 v l.length (l.map (Value.int .i64)) :: queue_int q l :: [old W]) ∧ Env W wr ∧ l.length ≤ 64 ∧ Hid l.Nodup) (fun _ i _ => n - (intOf i).toNat)
  case atStart => exact ⟨0, [], by omega, by omega, rfl, H1.own_nil 3 1, E1, by simp, List.nodup_nil⟩
  case round =>
    obtain ⟨k, l, hk, hk2, rfl, H2, E2, hl, hnd⟩ := hrel
    obtain ⟨A2, c2, rfl, hc2, -, R2⟩ := H2.own_form
    have HR2 := Lib.hid R2
    clear R2
    by_cases hlt : k < n
    · by_cases hlt2 : k < 200
      · have hkl : k < L.length := by have := HL.out; omega
        have hx := flatAsk_get L k hkl
        obtain ⟨b, off, rfl, -⟩ := HR.out.get (by intro h; rw [h] at hx; simp at hx)
        obtain ⟨b', off', hb', hcell⟩ := HR.out.get (by intro h; rw [h] at hx; simp at hx)
        injection hb' with hb'; injection hb' with hb1 hb2; subst hb1; subst hb2
        have hk1 := hcell _ _ hx.1
        have hk2 := hcell _ _ hx.2
        have hw := HW.out _ (List.getElem_mem hkl)
        generalize L[k].1 = kd at hk1
        generalize L[k].2 = x at hk2 hw
        clear hcell hx
        have hblt := block_lt_of_cell hk1
        have HK2 := Lib.hid hk2
        have ho := Lib.hid (H2.b2.old_at b hblt)
        rw [← World.cell?_of_block (w := W) (w' := wr) (a := ⟨b, off + k * 2, none⟩) ho.out] at hk1
        rw [← World.cell?_of_block (w := W) (w' := wr) (a := ⟨b, off + (k * 2 + 1), none⟩) ho.out] at hk2
        rw [show off + (k * 2 + 1) = off + k * 2 + 1 from rfl] at hk2
        go_wp2_with fail
        obtain ⟨wo, hwo⟩ : ∃ wo : World, wo = wr := ⟨_, rfl⟩
        subst hwo
        go_loopw [6, 7] (fun a j wr => ∃ (m : Nat) (z : Int), m ≤ l.length ∧ j = .int .i64 m ∧ a = .int .i64 z ∧ Hid (AtIs l x m z) ∧ ∃ q, wr = wo.drewN q) (fun _ j _ => l.length - (intOf j).toNat)
        case atStart => exact ⟨0, -1, by omega, rfl, rfl, AtIs.start l x, 0, rfl⟩
        case round =>
          obtain ⟨m, z, hm, rfl, rfl, hz, q2, rfl⟩ := hrel
          by_cases hmt : m < l.length
          · obtain ⟨b2, o2, rfl, hy⟩ := HR2.out.2 m (.int .i64 l[m]) (by simp [hmt])
            by_cases hyx : l[m] = x
            · have hh := Lib.hid (AtIs.hit hmt hyx)
              have hb : (l[m] == x) = true := by simp [hyx]
              clear hyx
              generalize l[m] = y at hy hb
              go_wp2
              go_quiet (fail)
              go_wp2
              go_roundw
              case rel => exact ⟨m + 1, _, by omega, by go_num, rfl, hh, _, rfl⟩
              case measure => simp [intOf]; omega
            · have hh := Lib.hid (hz.out.miss hmt hyx)
              have hb : (l[m] == x) = false := by simp [hyx]
              clear hyx
              generalize l[m] = y at hy hb
              go_wp2
              go_quiet (fail)
              go_wp2
              go_roundw
              case rel => exact ⟨m + 1, _, by omega, by go_num, rfl, hh, _, rfl⟩
              case measure => simp [intOf]; omega
          · obtain rfl : m = l.length := by omega
            obtain rfl := hz.out.done hnd.out
            have H3 := H2.drewN q2
            have E3 := E2.drewN q2
            have hrng := hz.out.range
            go_upto_block 4 with fail
            go_cut [4] from 17 to 181 (fun s4 wr => ∃ (l2 : List Int) (A3 : Option Addr) (c3 : Nat), s4 = .slice A3 l2.length c3 ∧ Sat wr (own 3 1 (.slice A3 l2.length c3) l2.length (l2.map (Value.int .i64)) :: queue_int q l2 :: [old W]) ∧ Env W wr ∧ l2.length ≤ 64 ∧ Hid l2.Nodup)
            case rest =>
              obtain ⟨l2, A3, c3, rfl, H3, E3, hl2, nd2⟩ := hcut
              go_wp2_with fail
              refine (len_int H3.b1).mono ?_
              rintro e w8 ⟨rfl, rfl⟩
              go_wp2_with fail
              refine (all_int H3.b1 (by omega)).mono ?_
              rintro e w9 ⟨v9, rfl, H9, E9⟩
              obtain ⟨A9, c9, rfl, -, -, -⟩ := H9.own_form
              go_wp2_with fail
              refine (same_int A9 _ _ c9 _ l2 _ (by omega) H9.own_at.1 H9.b2.own_at.1).mono ?_
              rintro e w10 ⟨rfl, q10, rfl⟩
              have H10 := (H9.drewN q10).tail
              have E10 := (E3.trans E9).drewN q10
              go_wp2_with fail
              go_roundw
              case rel => exact ⟨k + 1, l2, by omega, by omega, by go_num, H10.b1, E10, by omega, nd2.out⟩
              case measure => simp [intOf]; omega
            by_cases h1 : kd = 1
            · subst h1
              by_cases hi : 0 ≤ idx l x
              · as_aux_lemma =>
                go_wp2_with fail
                refine (push_met_int x H3.b1 (by omega) hi).mono ?_
                rintro e w4 ⟨rfl, rfl⟩
                go_wp2_with fail
                go_meet
                case rel => exact ⟨l, A2, c2, rfl, H3, E3, by omega, hnd.out⟩
              · by_cases hf : 64 ≤ l.length
                · as_aux_lemma =>
                  go_wp2_with fail
                  refine (push_full_int x H3.b1 (by omega) (by omega) hf).mono ?_
                  rintro e w4 ⟨rfl, rfl⟩
                  go_wp2_with fail
                  go_meet
                  case rel => exact ⟨l, A2, c2, rfl, H3, E3, by omega, hnd.out⟩
                · as_aux_lemma =>
                  go_wp2_with fail
                  refine (push_new_int x H3.b1 (by omega) (by omega)).mono ?_
                  rintro e w4 ⟨rfl, H4, E4⟩
                  have hk4 := (World.cell?_of_block (w := W) (w' := w4) (a := ⟨b, off + k * 2 + 1, none⟩) (H4.b2.old_at b hblt)).trans HK2.out
                  obtain ⟨l', hl'⟩ : ∃ l', l ++ [x] = l' := ⟨_, rfl⟩
                  rw [hl'] at H4
                  have hnd' : Hid l'.Nodup := by
                    have h1 := hnd.out
                    have h2 : ∀ i (h : i < l.length), l[i] ≠ x := by
                      intro i h he
                      rcases hz.out with ⟨_, h3⟩ | ⟨i', h', _, _, h3⟩
                      · exact h3 i h h he
                      · omega
                    rw [← hl']
                    show (l ++ [x]).Nodup
                    rw [List.nodup_append]
                    refine ⟨h1, by simp, fun a ha b hb => ?_⟩
                    obtain ⟨i, hil, rfl⟩ := List.getElem_of_mem ha
                    simp at hb; subst hb; exact h2 i hil
                  have hlen : l'.length = l.length + 1 := by rw [← hl']; simp
                  have HL' := Lib.hid hlen
                  have HLL := Lib.hid hl'
                  clear hl' hlen
                  go_wp2_with (at_builtin; go_must (refine wpList_append_sat rfl (.tmp 98) (.tmp 104) 27 rfl (H4.b1.alloc' _) rfl _ 8 Try.underlying27 Try.info_int rfl (by omega) _ _ _ [.int .i64 x] rfl (by simp) rfl (Rd.src (k := 1) (n := 1) ⟨rfl, fun j u hu => by
                    match j, hu with
                    | 0, hu => simp at hu; subst hu; exact ⟨_, _, rfl, by simp [go_sem]⟩⟩) (by simp [Value.oneCell']) (by simp only [maxLen]; omega) (by omega) ?_); intro v5 w5 H5 E5)
                  replace H5 : Sat w5 (own 3 1 v5 l'.length (l'.map (Value.int .i64)) :: queue_int q l' :: [old W]) := by rw [show l'.map (Value.int .i64) = l.map (Value.int .i64) ++ [.int .i64 x] from by rw [← HLL.out]; simp, HL'.out]; exact H5
                  obtain ⟨A5, c5, rfl, -, -, -⟩ := H5.own_form
                  have E6 := ((E3.trans E4).alloc _).trans E5
                  have hl5 : l'.length ≤ 64 := by have := HL'.out; omega
                  go_wp2_with fail
                  go_meet
                  case rel => exact ⟨l', A5, c5, rfl, H5, E6, by omega, hnd'.out⟩
            · have hb1 : (kd == 1) = false := by simp [h1]
              by_cases h3 : kd = 3
              · subst h3
                by_cases hi : 0 ≤ idx l x
                · as_aux_lemma =>
                  go_wp2_with fail
                  refine (place_met_int x H3.b1 (by omega) hi).mono ?_
                  rintro e w4 ⟨rfl, rfl⟩
                  go_wp2_with fail
                  go_meet
                  case rel => exact ⟨l, A2, c2, rfl, H3, E3, by omega, hnd.out⟩
                · as_aux_lemma =>
                  have hi' : decide (0 ≤ idx l x) = false := by simp; omega
                  go_wp2_with fail
                  refine (place_none_int x H3.b1 (by omega) (by omega)).mono ?_
                  rintro e w4 ⟨rfl, rfl⟩
                  go_wp2_with fail
                  go_meet
                  case rel => exact ⟨l, A2, c2, rfl, H3, E3, by omega, hnd.out⟩
              · have hb3 : (kd == 3) = false := by simp [h3]
                by_cases h2 : kd = 2
                · subst h2
                  have hcase : (x < 0) ∨ (0 ≤ x ∧ x < l.length) ∨ (x = l.length) ∨ ((l.length : Int) < x) := by omega
                  rcases hcase with hx | hx | hx | hx
                  · as_aux_lemma =>
                    go_wp2_with fail
                    go_region_held3 (fun w' => w'.cell? ⟨b, off + k * 2 + 1, none⟩ = some (.int .i64 x)) (first | exact hk2 | exact (World.cell?_of_block (w := W) (a := ⟨b, off + k * 2 + 1, none⟩) (H4.b3.old_at b hblt)).trans HK2.out) (first
                      | (go_at_call 15; refine (take_int _ (0) (l := l) (F := [own 3 1 (.slice A2 l.length c2) l.length (l.map (Value.int .i64)), old W]) ?_ (by omega) hw (by omega)).mono ?_; exact ((H3.drewN 1).b1); rintro e w4 ⟨v4, rfl, H4, E4⟩; obtain ⟨A4, c4, rfl, -, -, -⟩ := H4.own_form)
                      | (go_at_call 17; refine (same_int A4 A2 (0) c4 c2 (l.take (0)) _ (by omega) H4.own_at.1 (by have := H4.b2.own_at.1.take (m := 0) (by omega); rwa [Nat.mul_one, ← List.map_take] at this)).mono ?_; rintro e w5 ⟨rfl, q5, rfl⟩))
                    all_goals
                      have HQ := (H4.drewN q5).tail
                      have E5 := ((E3.drewN 1).trans E4).drewN q5
                      have hnd' : Hid (l.drop (0)).Nodup := (List.drop_sublist _ _).nodup hnd.out
                      have RD := Lib.hid (fun (A' : Option Addr) (h : A' = A2) => (by subst h; exact HQ.b1.own_at.1 : Rd (w4.drewN q5) 1 A' l.length ((l.map (Value.int .i64)).drop 0)))
                      obtain ⟨l', hl'⟩ : ∃ l', l.drop (0) = l' := ⟨_, rfl⟩
                      have HL' := Lib.hid (show l'.length = l.length by rw [← hl']; simp)
                      have RL := Lib.hid (show (l.map (Value.int .i64)).drop (0) = l'.map (Value.int .i64) by rw [← hl', List.map_drop])
                      rw [hl'] at HQ hnd'
                      clear hl'
                      go_wp2_with (at_builtin; go_must (refine wpList_append_sat rfl (.tmp 133) (.tmp 136) 27 rfl (HQ.own_lit 3 1 #[] 0 (by simp [maxLen]) rfl) rfl _ 8 Try.underlying27 Try.info_int rfl (by omega) _ _ _ (l'.map (Value.int .i64)) rfl ((RD.out _ (by first | rfl | (rw [if_neg (by omega)]))).src_none (by omega)) (by rw [← RL.out]; simp) (by rw [← RL.out]; exact ((RD.out _ (by first | rfl | (rw [if_neg (by omega)]))).alloc _).src) (one_int l') (by simp only [maxLen]; omega) (by omega) ?_); intro v6 w6 H6 E6)
                      all_goals
                        replace H6 : Sat w6 (own 3 1 v6 l'.length (l'.map (Value.int .i64)) :: queue_int q l' :: own 3 1 (.slice A2 l.length c2) l.length (l.map (Value.int .i64)) :: [old W]) := by rw [HL'.out]; simpa using H6
                        obtain ⟨A6, c6, rfl, -, -, -⟩ := H6.own_form
                        have H7 := H6.b2.tail
                        have E7 := (E5.alloc _).trans E6
                        have hl5 : l'.length ≤ 64 := by have := HL'.out; omega
                        go_wp2_with fail
                        go_meet
                        case rel => exact ⟨l', A6, c6, rfl, H7, E7, by omega, hnd'.out⟩
                  · as_aux_lemma =>
                    obtain ⟨kk, rfl⟩ := Int.eq_ofNat_of_zero_le hx.1
                    have hkk : kk < l.length := by omega
                    have hne : ¬ c2 = kk := by omega
                    have hk0 : (0 : Int) ≤ (kk : Int) := by omega
                    have hkl : (kk : Int) ≤ (l.length : Int) := by omega
                    have hkc : (kk : Int) ≤ (c2 : Int) := by omega
                    go_wp2_with fail
                    go_region_held3 (fun w' => w'.cell? ⟨b, off + k * 2 + 1, none⟩ = some (.int .i64 kk)) (first | exact hk2 | exact (World.cell?_of_block (w := W) (a := ⟨b, off + k * 2 + 1, none⟩) (H4.b3.old_at b hblt)).trans HK2.out) (first
                      | (go_at_call 15; refine (take_int _ (kk) (l := l) (F := [own 3 1 (.slice A2 l.length c2) l.length (l.map (Value.int .i64)), old W]) ?_ (by omega) hw (by omega)).mono ?_; exact ((H3.drewN 1).b1); rintro e w4 ⟨v4, rfl, H4, E4⟩; obtain ⟨A4, c4, rfl, -, -, -⟩ := H4.own_form)
                      | (go_at_call 17; refine (same_int A4 A2 (kk) c4 c2 (l.take (kk)) _ (by omega) H4.own_at.1 (by have := H4.b2.own_at.1.take (m := kk) (by omega); rwa [Nat.mul_one, ← List.map_take] at this)).mono ?_; rintro e w5 ⟨rfl, q5, rfl⟩))
                    all_goals
                      have HQ := (H4.drewN q5).tail
                      have E5 := ((E3.drewN 1).trans E4).drewN q5
                      have hnd' : Hid (l.drop (kk)).Nodup := (List.drop_sublist _ _).nodup hnd.out
                      have RD := Lib.hid (fun (A' : Option Addr) (h : A' = A2.map (fun x => x.add kk)) => (by subst h; have := HQ.b1.own_at.1.drop (m := kk) (c := c2) (by omega) (by omega); rwa [if_neg (by omega), Nat.mul_one] at this : Rd (w4.drewN q5) 1 A' (l.length - kk) ((l.map (Value.int .i64)).drop kk)))
                      obtain ⟨l', hl'⟩ : ∃ l', l.drop (kk) = l' := ⟨_, rfl⟩
                      have HL' := Lib.hid (show l'.length = l.length - kk by rw [← hl']; simp)
                      have RL := Lib.hid (show (l.map (Value.int .i64)).drop (kk) = l'.map (Value.int .i64) by rw [← hl', List.map_drop])
                      rw [hl'] at HQ hnd'
                      clear hl'
                      go_wp2_with (at_builtin; go_must (refine wpList_append_sat rfl (.tmp 133) (.tmp 136) 27 rfl (HQ.own_lit 3 1 #[] 0 (by simp [maxLen]) rfl) rfl _ 8 Try.underlying27 Try.info_int rfl (by omega) _ _ _ (l'.map (Value.int .i64)) rfl ((RD.out _ (by first | rfl | (rw [if_neg (by omega)]))).src_none (by omega)) (by rw [← RL.out]; simp) (by rw [← RL.out]; exact ((RD.out _ (by first | rfl | (rw [if_neg (by omega)]))).alloc _).src) (one_int l') (by simp only [maxLen]; omega) (by omega) ?_); intro v6 w6 H6 E6)
                      all_goals
                        replace H6 : Sat w6 (own 3 1 v6 l'.length (l'.map (Value.int .i64)) :: queue_int q l' :: own 3 1 (.slice A2 l.length c2) l.length (l.map (Value.int .i64)) :: [old W]) := by rw [HL'.out]; simpa using H6
                        obtain ⟨A6, c6, rfl, -, -, -⟩ := H6.own_form
                        have H7 := H6.b2.tail
                        have E7 := (E5.alloc _).trans E6
                        have hl5 : l'.length ≤ 64 := by have := HL'.out; omega
                        go_wp2_with fail
                        go_meet
                        case rel => exact ⟨l', A6, c6, rfl, H7, E7, by omega, hnd'.out⟩
                  · as_aux_lemma =>
                    subst hx
                    go_wp2_with fail
                    go_region_held3 (fun w' => w'.cell? ⟨b, off + k * 2 + 1, none⟩ = some (.int .i64 l.length)) (first | exact hk2 | exact (World.cell?_of_block (w := W) (a := ⟨b, off + k * 2 + 1, none⟩) (H4.b3.old_at b hblt)).trans HK2.out) (first
                      | (go_at_call 15; refine (take_int _ (l.length) (l := l) (F := [own 3 1 (.slice A2 l.length c2) l.length (l.map (Value.int .i64)), old W]) ?_ (by omega) hw (by omega)).mono ?_; exact ((H3.drewN 1).b1); rintro e w4 ⟨v4, rfl, H4, E4⟩; obtain ⟨A4, c4, rfl, -, -, -⟩ := H4.own_form)
                      | (go_at_call 17; refine (same_int A4 A2 (l.length) c4 c2 (l.take (l.length)) _ (by omega) H4.own_at.1 (by have := H4.b2.own_at.1.take (m := l.length) (by omega); rwa [Nat.mul_one, ← List.map_take] at this)).mono ?_; rintro e w5 ⟨rfl, q5, rfl⟩))
                    all_goals
                      have HQ := (H4.drewN q5).tail
                      have E5 := ((E3.drewN 1).trans E4).drewN q5
                      have hnd' : Hid (l.drop (l.length)).Nodup := (List.drop_sublist _ _).nodup hnd.out
                      have RD := Lib.hid (fun (A' : Option Addr) (_ : A' = A') => (by rw [List.drop_of_length_le (by simp)]; exact Rd.nil _ _ _ : Rd (w4.drewN q5) 1 A' 0 ((l.map (Value.int .i64)).drop l.length)))
                      obtain ⟨l', hl'⟩ : ∃ l', l.drop (l.length) = l' := ⟨_, rfl⟩
                      have HL' := Lib.hid (show l'.length = 0 by rw [← hl']; simp)
                      have RL := Lib.hid (show (l.map (Value.int .i64)).drop (l.length) = l'.map (Value.int .i64) by rw [← hl', List.map_drop])
                      rw [hl'] at HQ hnd'
                      clear hl'
                      go_wp2_with (at_builtin; go_must (refine wpList_append_sat rfl (.tmp 133) (.tmp 136) 27 rfl (HQ.own_lit 3 1 #[] 0 (by simp [maxLen]) rfl) rfl _ 8 Try.underlying27 Try.info_int rfl (by omega) _ _ _ (l'.map (Value.int .i64)) rfl ((RD.out _ (by first | rfl | (rw [if_neg (by omega)]))).src_none (by omega)) (by rw [← RL.out]; simp) (by rw [← RL.out]; exact ((RD.out _ (by first | rfl | (rw [if_neg (by omega)]))).alloc _).src) (one_int l') (by simp only [maxLen]; omega) (by omega) ?_); intro v6 w6 H6 E6)
                      all_goals
                        replace H6 : Sat w6 (own 3 1 v6 l'.length (l'.map (Value.int .i64)) :: queue_int q l' :: own 3 1 (.slice A2 l.length c2) l.length (l.map (Value.int .i64)) :: [old W]) := by rw [HL'.out]; simpa using H6
                        obtain ⟨A6, c6, rfl, -, -, -⟩ := H6.own_form
                        have H7 := H6.b2.tail
                        have E7 := (E5.alloc _).trans E6
                        have hl5 : l'.length ≤ 64 := by have := HL'.out; omega
                        go_wp2_with fail
                        go_meet
                        case rel => exact ⟨l', A6, c6, rfl, H7, E7, by omega, hnd'.out⟩
                  · as_aux_lemma =>
                    go_wp2_with fail
                    go_region_held3 (fun w' => w'.cell? ⟨b, off + k * 2 + 1, none⟩ = some (.int .i64 x)) (first | exact hk2 | exact (World.cell?_of_block (w := W) (a := ⟨b, off + k * 2 + 1, none⟩) (H4.b3.old_at b hblt)).trans HK2.out) (first
                      | (go_at_call 15; refine (take_int _ (l.length) (l := l) (F := [own 3 1 (.slice A2 l.length c2) l.length (l.map (Value.int .i64)), old W]) ?_ (by omega) hw (by omega)).mono ?_; exact ((H3.drewN 1).b1); rintro e w4 ⟨v4, rfl, H4, E4⟩; obtain ⟨A4, c4, rfl, -, -, -⟩ := H4.own_form)
                      | (go_at_call 17; refine (same_int A4 A2 (l.length) c4 c2 (l.take (l.length)) _ (by omega) H4.own_at.1 (by have := H4.b2.own_at.1.take (m := l.length) (by omega); rwa [Nat.mul_one, ← List.map_take] at this)).mono ?_; rintro e w5 ⟨rfl, q5, rfl⟩))
                    all_goals
                      have HQ := (H4.drewN q5).tail
                      have E5 := ((E3.drewN 1).trans E4).drewN q5
                      have hnd' : Hid (l.drop (l.length)).Nodup := (List.drop_sublist _ _).nodup hnd.out
                      have RD := Lib.hid (fun (A' : Option Addr) (_ : A' = A') => (by rw [List.drop_of_length_le (by simp)]; exact Rd.nil _ _ _ : Rd (w4.drewN q5) 1 A' 0 ((l.map (Value.int .i64)).drop l.length)))
                      obtain ⟨l', hl'⟩ : ∃ l', l.drop (l.length) = l' := ⟨_, rfl⟩
                      have HL' := Lib.hid (show l'.length = 0 by rw [← hl']; simp)
                      have RL := Lib.hid (show (l.map (Value.int .i64)).drop (l.length) = l'.map (Value.int .i64) by rw [← hl', List.map_drop])
                      rw [hl'] at HQ hnd'
                      clear hl'
                      go_wp2_with (at_builtin; go_must (refine wpList_append_sat rfl (.tmp 133) (.tmp 136) 27 rfl (HQ.own_lit 3 1 #[] 0 (by simp [maxLen]) rfl) rfl _ 8 Try.underlying27 Try.info_int rfl (by omega) _ _ _ (l'.map (Value.int .i64)) rfl ((RD.out _ (by first | rfl | (rw [if_neg (by omega)]))).src_none (by omega)) (by rw [← RL.out]; simp) (by rw [← RL.out]; exact ((RD.out _ (by first | rfl | (rw [if_neg (by omega)]))).alloc _).src) (one_int l') (by simp only [maxLen]; omega) (by omega) ?_); intro v6 w6 H6 E6)
                      all_goals
                        replace H6 : Sat w6 (own 3 1 v6 l'.length (l'.map (Value.int .i64)) :: queue_int q l' :: own 3 1 (.slice A2 l.length c2) l.length (l.map (Value.int .i64)) :: [old W]) := by rw [HL'.out]; simpa using H6
                        obtain ⟨A6, c6, rfl, -, -, -⟩ := H6.own_form
                        have H7 := H6.b2.tail
                        have E7 := (E5.alloc _).trans E6
                        have hl5 : l'.length ≤ 64 := by have := HL'.out; omega
                        go_wp2_with fail
                        go_meet
                        case rel => exact ⟨l', A6, c6, rfl, H7, E7, by omega, hnd'.out⟩
                · as_aux_lemma =>
                  have hb2 : (kd == 2) = false := by simp [h2]
                  go_wp2_with fail
                  go_meet
                  case rel => exact ⟨l, A2, c2, rfl, H3, E3, by omega, hnd.out⟩
      · obtain rfl : k = 200 := by omega
        go_wp2_with fail
        refine (known15 H2).mono ?_
        rintro e w3 ⟨rfl, H3, E3⟩
        go_wp2_with fail
        go_ret
        exact ⟨rfl, H3.tail.tail, E2.trans E3⟩
    · obtain rfl : k = n := by omega
      go_wp2_with fail
      refine (known15 H2).mono ?_
      rintro e w3 ⟨rfl, H3, E3⟩
      go_wp2_with fail
      go_ret
      exact ⟨rfl, H3.tail.tail, E2.trans E3⟩
end Go.Proofs.Ytcgpmenknloagaa
