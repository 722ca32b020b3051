/- law 4's helpers: record, same. Conditions: records of fewer than 8193 bytes. -/
import Derived.Test.YthbabdjicplooaaWalF
namespace Go.Proofs.Ythbabdjicplooaa
open Go.RowKit

/-- So many bytes. -/
def recordL (n : Nat) (c : Int) : List Int := (List.range n).map fun i => (c + ((i * i : Nat) : Int)) % 256
theorem recordL_len (n : Nat) (c : Int) : (recordL n c).length = n := by simp [recordL]
theorem recordL_inb (n : Nat) (c : Int) : InB (recordL n c) := fun x hx => by
  simp only [recordL, List.mem_map] at hx
  obtain ⟨j, _, rfl⟩ := hx
  omega
def recordW (n : Nat) (c : Int) (k : Nat) : List Int := (List.range n).map fun i => if i < k then (c + ((i * i : Nat) : Int)) % 256 else 0
theorem recordW_zero (n : Nat) (c : Int) : recordW n c 0 = List.replicate n 0 := by
  apply List.ext_getElem <;> simp [recordW]
theorem recordW_full (n : Nat) (c : Int) : recordW n c n = recordL n c := by
  apply List.ext_getElem
  · simp [recordW, recordL]
  · intro i h1 h2
    simp [recordW] at h1
    simp [recordW, recordL, h1]
theorem recordW_set (n : Nat) (c : Int) (k : Nat) (_ : k < n) : (recordW n c k).set k ((c + ((k * k : Nat) : Int)) % 256) = recordW n c (k + 1) := by
  apply List.ext_getElem
  · simp [recordW]
  · intro i h1 h2
    rw [List.getElem_set]
    by_cases hi : k = i
    · subst hi; simp [recordW]
    · simp only [recordW, List.getElem_map, List.getElem_range, if_neg hi]
      by_cases h3 : i < k
      · simp [h3, show i < k + 1 by omega]
      · simp [h3, show ¬ i < k + 1 by omega]

set_option maxHeartbeats 2000000 in
set_option maxRecDepth 100000 in
theorem record_any {w : World} {F : List HP} (n : Nat) (c : Int) (H : Sat w F) (_ : 0 ≤ c ∧ c ≤ 255) (hn : n ≤ 8192) :
    Calls Try.prog 51 #[.int .i64 n, .int .u8 c] w fun e w' => ∃ v, e = .returned v ∧ Sat w' (own 5 1 v n (bytes (recordL n c)) :: F) ∧ Env w w' := by
  go_enter Try.func51, Try.ntmps51
  go_wp2_with (at_make; go_must (refine wpList_make_sat rfl _ _ 30 rfl H 5 (.int .u8 0) 1 1 Try.underlying30 Try.info_byte _ _ n rfl rfl (by omega) (by simp only [maxLen]; omega) ?_); intro w2 H2 E2; rw [made_byte, ← recordW_zero n c] at H2)
  generalize w.heap.size = g at *
  go_loopw [6] (fun i wr => ∃ k : Nat, k ≤ n ∧ i = .int .i64 k ∧ Sat wr (own 5 1 (.slice (some ⟨g, 0, none⟩) n n) n (bytes (recordW n c k)) :: F) ∧ Env w wr) (fun i _ => n - (intOf i).toNat)
  case atStart => exact ⟨0, by omega, rfl, H2, E2⟩
  case round =>
    obtain ⟨k, hk, rfl, H3, E3⟩ := hrel
    by_cases hlt : k < n
    · have hcell := H3.own_cell k (.int .u8 0) (by simp [bytes, recordW, hlt])
      have hfree := H3.own_free (by omega) k
      obtain ⟨kk, hkk⟩ : ∃ kk, k * k = kk := ⟨_, rfl⟩
      have hkb : kk < 67108865 := by rw [← hkk]; have := Nat.mul_le_mul (show k ≤ 8192 by omega) (show k ≤ 8192 by omega); omega
      have hkz : (k : Int) * (k : Int) = (kk : Int) := by rw [← hkk]; simp
      have e1 : IntKind.i64.wrap ((k : Int) * (k : Int)) = (kk : Int) := by rw [hkz, IntWalk.i64_in _ (by omega)]
      have e2 : IntKind.u8.wrap (kk : Int) = (kk : Int) % 256 := by simp [IntKind.wrap, IntKind.bits, IntKind.signed]
      have e3 : IntKind.u8.wrap (c + (kk : Int) % 256) = (c + (kk : Int)) % 256 := by simp [IntKind.wrap, IntKind.bits, IntKind.signed]
      have H4 := H3.own_set (i := k) (by omega) (.int .u8 ((c + (kk : Int)) % 256))
      rw [show (bytes (recordW n c k)).set k (.int .u8 ((c + (kk : Int)) % 256)) = bytes (recordW n c (k + 1)) by rw [← recordW_set n c k hlt, hkk, bytes, bytes, List.map_set]] at H4
      have HS4 := Lib.hid H4
      have HE4 := Lib.hid (E3.set ⟨g, k, none⟩ (.int .u8 ((c + (kk : Int)) % 256)))
      clear H4 hkk hkz
      go_wp2_with fail
      go_roundw
      case rel => exact ⟨k + 1, by omega, by go_num, HS4.out, HE4.out⟩
      case measure => simp [intOf]; omega
    · obtain rfl : k = n := by omega
      rw [recordW_full] at H3
      go_wp2_with fail
      go_ret
      exact ⟨_, rfl, H3, E3⟩

/-- A list of lists of bytes that can be read. -/
def RdB (w : World) (v : Value) (l : List (List Int)) : Prop := ∃ (A : Option Addr) (c : Nat) (R : List (Value × List Int)), v = .slice A R.length c ∧ R.length ≤ c ∧ Rd w 1 A R.length (R.map (·.1)) ∧ R.map (·.2) = l ∧ ∀ q ∈ R, ∃ A' c', q.1 = .slice A' q.2.length c' ∧ q.2.length ≤ c' ∧ Rd w 1 A' q.2.length (bytes q.2)
theorem Sat.recL_rd {w : World} {v : Value} {l : List (List Int)} {F : List HP} (H : Sat w (recL v l :: F)) : RdB w v l := by
  obtain ⟨R, h, H1⟩ := H.recL_open
  obtain ⟨A, c, rfl, -, -, -⟩ := H1.own_form
  exact ⟨A, c, R, rfl, H1.own_at.2.2, H1.own_at.1, h, fun q hq => H1.b1.ownB_at hq⟩
/-- Lists that are no empty ones and whose bytes are bytes. -/
def InL (l : List (List Int)) : Prop := ∀ x ∈ l, x ≠ [] ∧ InB x

set_option maxHeartbeats 4000000 in
set_option maxRecDepth 100000 in
theorem same_any (va vb : Value) (la lb : List (List Int)) (w : World) (h1 : RdB w va la) (h2 : RdB w vb lb) (hl : la.length < 4294967296) (ha : InL la) (hb : InL lb) :
    Calls Try.prog 54 #[va, vb] w fun e w' => e = .returned (.bool (decide (la = lb))) ∧ ∃ q, w' = w.drewN q := by
  obtain ⟨A, c, R, rfl, hc, hr, rfl, hi⟩ := h1
  obtain ⟨A2, c2, R2, rfl, hc2, hr2, rfl, hi2⟩ := h2
  obtain ⟨n, hn⟩ : ∃ n, R.length = n := ⟨_, rfl⟩
  obtain ⟨n2, hn2⟩ : ∃ n, R2.length = n := ⟨_, rfl⟩
  have hnb : n < 4294967296 := by rw [← hn]; simpa using hl
  have HR := Lib.hid (show Rd w 1 A n (R.map (·.1)) from hn ▸ hr)
  have HR2 := Lib.hid (show Rd w 1 A2 n2 (R2.map (·.1)) from hn2 ▸ hr2)
  have HI := Lib.hid hi
  have HI2 := Lib.hid hi2
  have HA := Lib.hid ha
  have HB := Lib.hid hb
  have HN := Lib.hid (show R.length = n ∧ R2.length = n2 from ⟨hn, hn2⟩)
  rw [hn, hn2]
  obtain ⟨res, hres⟩ : ∃ res, decide (R.map (·.2) = R2.map (·.2)) = res := ⟨_, rfl⟩
  have HRES := Lib.hid hres
  rw [hres]
  clear hn hn2 hc hc2 hr hr2 hi hi2 hl ha hb hres
  go_enter Try.func54, Try.ntmps54
  by_cases hnn : n = n2
  · subst hnn
    go_wp2_with fail
    go_loopw [5] (fun i wr => ∃ k : Nat, k ≤ n ∧ i = .int .i64 k ∧ (∃ q, wr = w.drewN q) ∧ Hid ((R.map (·.2)).take k = (R2.map (·.2)).take k)) (fun i _ => n - (intOf i).toNat)
    case atStart => exact ⟨0, by omega, rfl, ⟨0, rfl⟩, Lib.hid (by simp)⟩
    case round =>
      obtain ⟨k, hk, rfl, ⟨q, rfl⟩, hT⟩ := hrel
      by_cases hlt : k < n
      · have hk1 : k < R.length := by have := HN.out.1; omega
        have hk2 : k < R2.length := by have := HN.out.2; omega
        obtain ⟨⟨v1, x1⟩, hx1⟩ : ∃ z, R[k] = z := ⟨_, rfl⟩
        obtain ⟨⟨v2, x2⟩, hx2⟩ : ∃ z, R2[k] = z := ⟨_, rfl⟩
        have hm1 : (v1, x1) ∈ R := hx1 ▸ List.getElem_mem hk1
        have hm2 : (v2, x2) ∈ R2 := hx2 ▸ List.getElem_mem hk2
        obtain ⟨b1, o1, rfl, hc1⟩ := HR.out.2 k v1 (by rw [List.getElem?_map, List.getElem?_eq_getElem hk1, hx1]; rfl)
        obtain ⟨b2, o2, rfl, hc2⟩ := HR2.out.2 k v2 (by rw [List.getElem?_map, List.getElem?_eq_getElem hk2, hx2]; rfl)
        obtain ⟨A3, c3, h3, -, r3⟩ := HI.out _ hm1
        obtain ⟨A4, c4, h4, -, r4⟩ := HI2.out _ hm2
        simp only at h3 r3 h4 r4
        subst h3; subst h4
        have hxa := HA.out x1 (List.mem_map.2 ⟨_, hm1, rfl⟩)
        have hxb := HB.out x2 (List.mem_map.2 ⟨_, hm2, rfl⟩)
        have cv1 : (convert 30 9 (.slice A3 x1.length c3)).run Try.prog (w.drewN q).drew = .ok (.string (strOfNums x1)) (w.drewN q).drew := conv_rd (w := (w.drewN q).drew) (c := c3) (r3.keep fun _ _ h => h) (List.length_pos_iff.2 hxa.1)
        have cv2 : (convert 30 9 (.slice A4 x2.length c4)).run Try.prog (w.drewN q).drew = .ok (.string (strOfNums x2)) (w.drewN q).drew := conv_rd (w := (w.drewN q).drew) (c := c4) (r4.keep fun _ _ h => h) (List.length_pos_iff.2 hxb.1)
        have hcmp : ((strOfNums x1).toList == (strOfNums x2).toList) = decide (x1 = x2) := by
          by_cases h : x1 = x2
          · subst h; simp
          · have : ¬ (strOfNums x1).toList = (strOfNums x2).toList := fun e => h (strOfNums_inj hxa.2 hxb.2 e)
            simp [h, this]
        have HT2 := Lib.hid (show (R.map (·.2)).take (k + 1) = (R.map (·.2)).take k ++ [x1] ∧ (R2.map (·.2)).take (k + 1) = (R2.map (·.2)).take k ++ [x2] from by
          constructor
          · rw [List.take_add_one, List.getElem?_map, List.getElem?_eq_getElem hk1, hx1]; rfl
          · rw [List.take_add_one, List.getElem?_map, List.getElem?_eq_getElem hk2, hx2]; rfl)
        clear hk1 hk2 hx1 hx2 hm1 hm2 r3 r4 hxa hxb
        generalize x1.length = l1 at *
        generalize x2.length = l2 at *
        go_upto_region 6 with fail
        have hc1' : (w.drewN q).drew.cell? ⟨b1, o1 + k, none⟩ = some (.slice A3 l1 c3) := hc1
        have hc2' : (w.drewN q).drew.cell? ⟨b2, o2 + k, none⟩ = some (.slice A4 l2 c4) := hc2
        go_region_held3 (fun w' => w'.cell? ⟨b1, o1 + k, none⟩ = some (.slice A3 l1 c3) ∧ w'.cell? ⟨b2, o2 + k, none⟩ = some (.slice A4 l2 c4) ∧ (convert 30 9 (.slice A3 l1 c3)).run Try.prog w' = .ok (.string (strOfNums x1)) w' ∧ (convert 30 9 (.slice A4 l2 c4)).run Try.prog w' = .ok (.string (strOfNums x2)) w') (first | exact ⟨hc1', hc2', cv1, cv2⟩) (first | fail)
        clear hc1' hc2' cv1 cv2 hc1 hc2 hcmp
        by_cases hx : x1 = x2
        · have hd : decide (x1 = x2) = true := by simp [hx]
          have HT3 := Lib.hid (show (R.map (·.2)).take (k + 1) = (R2.map (·.2)).take (k + 1) by rw [HT2.out.1, HT2.out.2, hT.out, hx])
          rw [hd]
          clear hd hx
          go_wp2_with fail
          go_roundw
          case rel => exact ⟨k + 1, by omega, by go_num, ⟨q + 1, rfl⟩, HT3⟩
          case measure => simp [intOf]; omega
        · have hd : decide (x1 = x2) = false := by simp [hx]
          have HRR := Lib.hid (show res = false by
            rw [← HRES.out]
            refine decide_eq_false fun h => hx ?_
            have h2 := HT2.out.2
            rw [← h, HT2.out.1, hT.out] at h2
            have := List.append_cancel_left h2
            injection this)
          rw [hd]
          clear hd hx
          go_wp2_with fail
          go_ret
          rw [HRR.out]
          exact ⟨rfl, q + 1, rfl⟩
      · obtain rfl : k = n := by omega
        have HRR := Lib.hid (show res = true by
          have := hT.out
          rw [List.take_of_length_le (by rw [List.length_map, HN.out.1]; exact Nat.le_refl _), List.take_of_length_le (by rw [List.length_map, HN.out.2]; exact Nat.le_refl _)] at this
          rw [← HRES.out]; exact decide_eq_true this)
        clear hT
        go_wp2_with fail
        go_ret
        rw [HRR.out]
        exact ⟨rfl, _, rfl⟩
  · have HRR := Lib.hid (show res = false by
      rw [← HRES.out]
      refine decide_eq_false fun h => hnn ?_
      have := congrArg List.length h
      rw [List.length_map, List.length_map, HN.out.1, HN.out.2] at this
      exact this)
    have hnni : ¬ (n : Int) = (n2 : Int) := by omega
    go_wp2_with fail
    go_ret
    rw [HRR.out]
    exact ⟨rfl, 0, rfl⟩
end Go.Proofs.Ythbabdjicplooaa

/- package wal's plain law, first part: numbers in bytes; what a write, a flush, a crash leave in a sector. Conditions: none. -/
namespace Go.Proofs.Ythbabdjicplooaa
open Go.RowKit

theorem beL_succ (n : Int) (k : Nat) : beL n (k + 1) = beL (n / 256) k ++ [n % 256] := by
  unfold beL
  rw [List.range_succ, List.map_append]
  congr 1
  · refine List.map_congr_left fun j hj => ?_
    have hj : j < k := List.mem_range.1 hj
    unfold dig
    rw [show k + 1 - 1 - j = (k - 1 - j) + 1 by omega, Int.pow_succ, Int.mul_comm, ← Int.ediv_ediv_of_nonneg (by omega)]
  · simp [dig]
theorem ofBE_beL : ∀ (k : Nat) (n : Int), 0 ≤ n → n < 256 ^ k → ofBE (beL n k) = n
  | 0, n, h0, h1 => by
    have : n = 0 := by simp at h1; omega
    subst this
    rfl
  | k + 1, n, h0, h1 => by
    rw [beL_succ, ofBE_snoc, ofBE_beL k (n / 256) (by omega) (by rw [Int.pow_succ] at h1; omega)]
    omega
theorem rd_pend {D : Dsk} (h : D.pend = []) (n : Nat) : D.rd n = D.safe.getD n noughts := by simp [Dsk.rd, h, lastP]
theorem rd_write (D : Dsk) (n : Nat) (xs : List Int) (k : Nat) : (D.write n xs).rd k = if n = k then xs else D.rd k := by
  simp only [Dsk.rd, Dsk.write, lastP_snoc]
  split <;> rfl
theorem sets_at {α : Type} (d : α) (k : Nat) : ∀ (P : List (Nat × α)) (S : List α), k < S.length → (sets S P).getD k d = (lastP P k).getD (S.getD k d)
  | [], S, h => rfl
  | p :: P, S, h => by
    show (sets (S.set p.1 p.2) P).getD k d = _
    rw [sets_at d k P _ (by simpa using h), lastP]
    cases lastP P k with
    | some x => rfl
    | none =>
      simp only [Option.getD_none, List.getD_eq_getElem?_getD, List.getElem?_set]
      by_cases hp : p.1 = k
      · subst hp; simp [h]
      · simp [hp]
theorem rd_flush {D : Dsk} {k : Nat} (h : k < D.safe.length) : D.flush.rd k = D.rd k := by
  rw [rd_pend rfl]
  exact sets_at noughts k D.pend D.safe h
theorem rd_safeN {D : Dsk} (n : Nat) (xs : List Int) {k : Nat} (h : k < D.safe.length) : (safeN D n xs).rd k = if n = k then xs else D.rd k := by
  unfold safeN
  rw [rd_flush (by exact h), rd_write]
theorem crash_sec (keep : List Bool) (torn : Int) (nb : Nat) (S : List (List Int)) (P : List (Nat × List Int)) (hd : (P.map (·.1)).Nodup) (s : Nat) (hs : s < S.length) : ∀ j, j ≤ P.length →
    ((∀ x, (s, x) ∉ P.take j) → (crashS keep torn nb S P j).getD s noughts = S.getD s noughts) ∧
    ((crashS keep torn nb S P j).getD s noughts = S.getD s noughts ∨ ∃ x, (s, x) ∈ P.take j ∧ ((crashS keep torn nb S P j).getD s noughts = x ∨ (crashS keep torn nb S P j).getD s noughts = tornL (S.getD s noughts) x nb))
  | 0, _ => ⟨fun _ => rfl, .inl rfl⟩
  | j + 1, h => by
    obtain ⟨i1, i2⟩ := crash_sec keep torn nb S P hd s hs j (by omega)
    have hl := crashS_len keep torn nb S P j
    have hj : j < P.length := by omega
    have ht : P.take (j + 1) = P.take j ++ [P[j]] := List.take_succ_eq_append_getElem hj
    obtain ⟨p, hp⟩ : ∃ p, P[j] = p := ⟨_, rfl⟩
    rw [hp] at ht
    have hg : P[j]? = some p := by rw [List.getElem?_eq_getElem hj, hp]
    have hset : ∀ y : List Int, ((crashS keep torn nb S P j).set p.1 y).getD s noughts = if p.1 = s then y else (crashS keep torn nb S P j).getD s noughts := fun y => by
      simp only [List.getD_eq_getElem?_getD, List.getElem?_set]
      by_cases h1 : p.1 = s
      · subst h1; simp [hl, hs]
      · simp [h1]
    have hnot : p.1 = s → ∀ x, (s, x) ∉ P.take j := fun h1 x hx => by
      have hm : s ∈ (P.take j).map (·.1) := List.mem_map.2 ⟨_, hx, rfl⟩
      have hd2 : ((P.take (j + 1)).map (·.1)).Nodup := by rw [List.map_take]; exact hd.sublist (List.take_sublist _ _)
      rw [ht, List.map_append, List.nodup_append] at hd2
      exact hd2.2.2 s hm s (by simp [h1]) rfl
    have keepIt : (crashS keep torn nb S P (j + 1)).getD s noughts = (crashS keep torn nb S P j).getD s noughts → ((∀ x, (s, x) ∉ P.take (j + 1)) → (crashS keep torn nb S P (j + 1)).getD s noughts = S.getD s noughts) ∧
        ((crashS keep torn nb S P (j + 1)).getD s noughts = S.getD s noughts ∨ ∃ x, (s, x) ∈ P.take (j + 1) ∧ ((crashS keep torn nb S P (j + 1)).getD s noughts = x ∨ (crashS keep torn nb S P (j + 1)).getD s noughts = tornL (S.getD s noughts) x nb)) := fun e => by
      rw [e]
      refine ⟨fun hx => i1 fun x hm => hx x (by rw [ht]; exact List.mem_append_left _ hm), ?_⟩
      rcases i2 with h2 | ⟨x, hm, h2⟩
      · exact .inl h2
      · exact .inr ⟨x, by rw [ht]; exact List.mem_append_left _ hm, h2⟩
    have here : p.1 = s → (s, p.2) ∈ P.take (j + 1) := fun h1 => by rw [ht]; refine List.mem_append_right _ ?_; simp [← h1]
    by_cases hk : keep.getD j false = true
    · have he : crashS keep torn nb S P (j + 1) = (crashS keep torn nb S P j).set p.1 p.2 := by simp only [crashS, hg, hk, if_true]
      by_cases h1 : p.1 = s
      · rw [he, hset, if_pos h1]
        exact ⟨fun hx => absurd (here h1) (hx _), .inr ⟨p.2, here h1, .inl rfl⟩⟩
      · exact keepIt (by rw [he, hset, if_neg h1])
    · by_cases htn : (j : Int) = torn
      · have he : crashS keep torn nb S P (j + 1) = (crashS keep torn nb S P j).set p.1 (tornL ((crashS keep torn nb S P j).getD p.1 noughts) p.2 nb) := by simp only [crashS, hg, hk, htn, Bool.false_eq_true, if_false, if_true]
        by_cases h1 : p.1 = s
        · rw [he, hset, if_pos h1]
          refine ⟨fun hx => absurd (here h1) (hx _), .inr ⟨p.2, here h1, .inr ?_⟩⟩
          rw [h1, i1 (hnot h1)]
        · exact keepIt (by rw [he, hset, if_neg h1])
      · exact keepIt (by simp only [crashS, hg, hk, htn, Bool.false_eq_true, if_false])

/-- Of a disk D0 with nothing pending: sectors from a on, below lim, are being written, each once. -/
structure Up (D0 D : Dsk) (a lim : Nat) (new : Nat → List Int) : Prop where
  safe : D.safe = D0.safe
  nd : (D.pend.map (·.1)).Nodup
  at_ : ∀ p ∈ D.pend, a ≤ p.1 ∧ p.1 < lim ∧ p.2 = new p.1
theorem Up.crash {D0 D : Dsk} {a lim : Nat} {new : Nat → List Int} (h : Up D0 D a lim new) (h0 : D0.pend = []) (keep : List Bool) (torn nb : Int) {k : Nat} (hk : k < D0.safe.length) :
    (D.crash keep torn nb).rd k = D0.rd k ∨ (a ≤ k ∧ k < lim ∧ ((D.crash keep torn nb).rd k = new k ∨ (D.crash keep torn nb).rd k = tornL (D0.rd k) (new k) (min nb 128).toNat)) := by
  rw [rd_pend (D := D.crash keep torn nb) rfl, rd_pend h0]
  have := (crash_sec keep torn (min nb 128).toNat D.safe D.pend h.nd k (by rw [h.safe]; exact hk) D.pend.length (Nat.le_refl _)).2
  rw [h.safe] at this
  rcases this with h1 | ⟨x, hm, h1⟩
  · exact .inl (by simp only [Dsk.crash, h.safe]; exact h1)
  · rw [List.take_length] at hm
    have ha := h.at_ _ hm
    simp only at ha
    refine .inr ⟨ha.1, ha.2.1, ?_⟩
    rw [← ha.2.2]
    simp only [Dsk.crash, h.safe]
    exact h1
theorem lastP_none {α : Type} {k : Nat} : ∀ {l : List (Nat × α)}, lastP l k = none → ∀ x, (k, x) ∉ l
  | [], _, x, hx => by cases hx
  | p :: l, h, x, hx => by
    rw [lastP] at h
    cases hl : lastP l k with
    | some y => rw [hl] at h; cases h
    | none =>
      rw [hl] at h
      rcases List.mem_cons.1 hx with rfl | hx
      · simp at h
      · exact lastP_none hl x hx
theorem Up.flush {D0 D : Dsk} {a lim : Nat} {new : Nat → List Int} (h : Up D0 D a lim new) (h0 : D0.pend = []) {k : Nat} (hk : k < D0.safe.length) :
    (a ≤ k ∧ k < lim ∧ D.flush.rd k = new k) ∨ ((∀ x, (k, x) ∉ D.pend) ∧ D.flush.rd k = D0.rd k) := by
  rw [rd_flush (by rw [h.safe]; exact hk)]
  unfold Dsk.rd
  cases hl : lastP D.pend k with
  | some x => have := h.at_ _ (lastP_mem hl); exact .inl ⟨this.1, this.2.1, this.2.2⟩
  | none => exact .inr ⟨lastP_none hl, by rw [h0, h.safe]; rfl⟩
theorem tornL_ok {a b : List Int} {n : Nat} (ha : InB a ∧ a.length = 128) (hb : InB b ∧ b.length = 128) (hn : n ≤ 128) : InB (tornL a b n) ∧ (tornL a b n).length = 128 :=
  ⟨(hb.1.take n).app (ha.1.drop n), by rw [tornL, List.length_append, List.length_take, List.length_drop, ha.2, hb.2]; omega⟩
theorem crashS_ok (keep : List Bool) (torn : Int) (nb : Nat) (hn : nb ≤ 128) (S : List (List Int)) (P : List (Nat × List Int)) (hS : ∀ x ∈ S, InB x ∧ x.length = 128) (hP : ∀ p ∈ P, InB p.2 ∧ p.2.length = 128) : ∀ j, ∀ x ∈ crashS keep torn nb S P j, InB x ∧ x.length = 128
  | 0, x, hx => hS x hx
  | j + 1, x, hx => by
    have ih := crashS_ok keep torn nb hn S P hS hP j
    simp only [crashS] at hx
    split at hx
    · exact ih x hx
    · rename_i p hp
      have hpm := hP p (List.mem_of_getElem? hp)
      split at hx
      · rcases List.mem_or_eq_of_mem_set hx with h | rfl
        · exact ih x h
        · exact hpm
      · split at hx
        · rcases List.mem_or_eq_of_mem_set hx with h | rfl
          · exact ih x h
          · refine tornL_ok ?_ hpm hn
            by_cases hl : p.1 < (crashS keep torn nb S P j).length
            · rw [List.getD_eq_getElem?_getD, List.getElem?_eq_getElem hl]; exact ih _ (List.getElem_mem hl)
            · rw [List.getD_eq_getElem?_getD, List.getElem?_eq_none (by omega)]; exact ⟨noughts_inb, noughts_len⟩
        · exact ih x hx
theorem DB.crash {D : Dsk} (h : DB D) (keep : List Bool) (torn nb : Int) : DB (D.crash keep torn nb) :=
  ⟨crashS_ok keep torn _ (by omega) D.safe D.pend h.1 h.2 _, fun p hp => by cases hp⟩

/-- The byte at a place, where a sector has one. -/
theorem getD_app_l {a b : List Int} {i : Nat} (h : i < a.length) : (a ++ b).getD i 0 = a.getD i 0 := by
  simp only [List.getD_eq_getElem?_getD, List.getElem?_append_left h]
theorem getD_app_r {a b : List Int} {i : Nat} (h : a.length ≤ i) : (a ++ b).getD i 0 = b.getD (i - a.length) 0 := by
  simp only [List.getD_eq_getElem?_getD, List.getElem?_append_right h]
theorem tornL_get {a b : List Int} {n i : Nat} (hb : b.length = 128) (hn : n ≤ 128) : (tornL a b n).getD i 0 = if i < n then b.getD i 0 else a.getD i 0 := by
  unfold tornL
  by_cases h : i < n
  · rw [if_pos h, getD_app_l (by rw [List.length_take]; omega)]
    simp [List.getD_eq_getElem?_getD, List.getElem?_take, h]
  · rw [if_neg h, getD_app_r (by rw [List.length_take]; omega)]
    simp only [List.getD_eq_getElem?_getD, List.getElem?_drop, List.length_take]
    congr 2
    omega
theorem noughts_get (i : Nat) : noughts.getD i 0 = 0 := by
  rw [noughts, List.getD_eq_getElem?_getD, List.getElem?_replicate]
  split <;> rfl
theorem ext128 {a b : List Int} (ha : a.length = 128) (hb : b.length = 128) (h : ∀ i, i < 128 → a.getD i 0 = b.getD i 0) : a = b := by
  apply List.ext_getElem (by omega)
  intro i h1 h2
  have := h i (by omega)
  simpa [List.getD_eq_getElem?_getD, List.getElem?_eq_getElem h1, List.getElem?_eq_getElem h2] using this
end Go.Proofs.Ythbabdjicplooaa
