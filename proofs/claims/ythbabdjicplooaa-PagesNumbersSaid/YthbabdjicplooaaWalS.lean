/- law 4's helpers: record, same. Conditions: records of fewer than 8193 bytes. -/
import Derived.Test.YthbabdjicplooaaWalF
namespace Go.Proofs.Ythbabdjicplooaa
open Go.RowKit

/-- So many bytes. -/
def recordL (n : Nat) (c : Int) : List Int := (List.range n).map fun i => (c + ((i * i : Nat) : Int)) % 256
theorem recordL_len (n : Nat) (c : Int) : (recordL n c).length = n := by simp [recordL]
theorem recordL_inb (n : Nat) (c : Int) : InB (recordL n c) := fun x hx => by
  simp only [recordL, List.mem_map] at hx
  obtain ⟨j, _, rfl⟩ := hx
  omega
def recordW (n : Nat) (c : Int) (k : Nat) : List Int := (List.range n).map fun i => if i < k then (c + ((i * i : Nat) : Int)) % 256 else 0
theorem recordW_zero (n : Nat) (c : Int) : recordW n c 0 = List.replicate n 0 := by
  apply List.ext_getElem <;> simp [recordW]
theorem recordW_full (n : Nat) (c : Int) : recordW n c n = recordL n c := by
  apply List.ext_getElem
  · simp [recordW, recordL]
  · intro i h1 h2
    simp [recordW] at h1
    simp [recordW, recordL, h1]
theorem recordW_set (n : Nat) (c : Int) (k : Nat) (_ : k < n) : (recordW n c k).set k ((c + ((k * k : Nat) : Int)) % 256) = recordW n c (k + 1) := by
  apply List.ext_getElem
  · simp [recordW]
  · intro i h1 h2
    rw [List.getElem_set]
    by_cases hi : k = i
    · subst hi; simp [recordW]
    · simp only [recordW, List.getElem_map, List.getElem_range, if_neg hi]
      by_cases h3 : i < k
      · simp [h3, show i < k + 1 by omega]
      · simp [h3, show ¬ i < k + 1 by omega]

set_option maxHeartbeats 2000000 in
set_option maxRecDepth 100000 in
theorem record_any {w : World} {F : List HP} (n : Nat) (c : Int) (H : Sat w F) (_ : 0 ≤ c ∧ c ≤ 255) (hn : n ≤ 8192) :
    Calls Try.prog 51 #[.int .i64 n, .int .u8 c] w fun e w' => ∃ v, e = .returned v ∧ Sat w' (own 5 1 v n (bytes (recordL n c)) :: F) ∧ Env w w' := by
  go_enter Try.func51, Try.ntmps51
  go_wp2_with (at_make; go_must (refine wpList_make_sat rfl _ _ 30 rfl H 5 (.int .u8 0) 1 1 Try.underlying30 Try.info_byte _ _ n rfl rfl (by omega) (by simp only [maxLen]; omega) ?_); intro w2 H2 E2; rw [made_byte, ← recordW_zero n c] at H2)
  generalize w.heap.size = g at *
  go_loopw [6] (fun i wr => ∃ k : Nat, k ≤ n ∧ i = .int .i64 k ∧ Sat wr (own 5 1 (.slice (some ⟨g, 0, none⟩) n n) n (bytes (recordW n c k)) :: F) ∧ Env w wr) (fun i _ => n - (intOf i).toNat)
  case atStart => exact ⟨0, by omega, rfl, H2, E2⟩
  case round =>
    obtain ⟨k, hk, rfl, H3, E3⟩ := hrel
    by_cases hlt : k < n
    · have hcell := H3.own_cell k (.int .u8 0) (by simp [bytes, recordW, hlt])
      have hfree := H3.own_free (by omega) k
      obtain ⟨kk, hkk⟩ : ∃ kk, k * k = kk := ⟨_, rfl⟩
      have hkb : kk < 67108865 := by rw [← hkk]; have := Nat.mul_le_mul (show k ≤ 8192 by omega) (show k ≤ 8192 by omega); omega
      have hkz : (k : Int) * (k : Int) = (kk : Int) := by rw [← hkk]; simp
      have e1 : IntKind.i64.wrap ((k : Int) * (k : Int)) = (kk : Int) := by rw [hkz, IntWalk.i64_in _ (by omega)]
      have e2 : IntKind.u8.wrap (kk : Int) = (kk : Int) % 256 := by simp [IntKind.wrap, IntKind.bits, IntKind.signed]
      have e3 : IntKind.u8.wrap (c + (kk : Int) % 256) = (c + (kk : Int)) % 256 := by simp [IntKind.wrap, IntKind.bits, IntKind.signed]
      have H4 := H3.own_set (i := k) (by omega) (.int .u8 ((c + (kk : Int)) % 256))
      rw [show (bytes (recordW n c k)).set k (.int .u8 ((c + (kk : Int)) % 256)) = bytes (recordW n c (k + 1)) by rw [← recordW_set n c k hlt, hkk, bytes, bytes, List.map_set]] at H4
      have HS4 := Lib.hid H4
      have HE4 := Lib.hid (E3.set ⟨g, k, none⟩ (.int .u8 ((c + (kk : Int)) % 256)))
      clear H4 hkk hkz
      go_wp2_with fail
      go_roundw
      case rel => exact ⟨k + 1, by omega, by go_num, HS4.out, HE4.out⟩
      case measure => simp [intOf]; omega
    · obtain rfl : k = n := by omega
      rw [recordW_full] at H3
      go_wp2_with fail
      go_ret
      exact ⟨_, rfl, H3, E3⟩

/-- A list of lists of bytes that can be read. -/
def RdB (w : World) (v : Value) (l : List (List Int)) : Prop := ∃ (A : Option Addr) (c : Nat) (R : List (Value × List Int)), v = .slice A R.length c ∧ R.length ≤ c ∧ Rd w 1 A R.length (R.map (·.1)) ∧ R.map (·.2) = l ∧ ∀ q ∈ R, ∃ A' c', q.1 = .slice A' q.2.length c' ∧ q.2.length ≤ c' ∧ Rd w 1 A' q.2.length (bytes q.2)
theorem Sat.recL_rd {w : World} {v : Value} {l : List (List Int)} {F : List HP} (H : Sat w (recL v l :: F)) : RdB w v l := by
  obtain ⟨R, h, H1⟩ := H.recL_open
  obtain ⟨A, c, rfl, -, -, -⟩ := H1.own_form
  exact ⟨A, c, R, rfl, H1.own_at.2.2, H1.own_at.1, h, fun q hq => H1.b1.ownB_at hq⟩
/-- Lists that are no empty ones and whose bytes are bytes. -/
def InL (l : List (List Int)) : Prop := ∀ x ∈ l, x ≠ [] ∧ InB x

set_option maxHeartbeats 4000000 in
set_option maxRecDepth 100000 in
theorem same_any (va vb : Value) (la lb : List (List Int)) (w : World) (h1 : RdB w va la) (h2 : RdB w vb lb) (hl : la.length < 4294967296) (ha : InL la) (hb : InL lb) :
    Calls Try.prog 54 #[va, vb] w fun e w' => e = .returned (.bool (decide (la = lb))) ∧ ∃ q, w' = w.drewN q := by
  obtain ⟨A, c, R, rfl, hc, hr, rfl, hi⟩ := h1
  obtain ⟨A2, c2, R2, rfl, hc2, hr2, rfl, hi2⟩ := h2
  obtain ⟨n, hn⟩ : ∃ n, R.length = n := ⟨_, rfl⟩
  obtain ⟨n2, hn2⟩ : ∃ n, R2.length = n := ⟨_, rfl⟩
  have hnb : n < 4294967296 := by rw [← hn]; simpa using hl
  have HR := Lib.hid (show Rd w 1 A n (R.map (·.1)) from hn ▸ hr)
  have HR2 := Lib.hid (show Rd w 1 A2 n2 (R2.map (·.1)) from hn2 ▸ hr2)
  have HI := Lib.hid hi
  have HI2 := Lib.hid hi2
  have HA := Lib.hid ha
  have HB := Lib.hid hb
  have HN := Lib.hid (show R.length = n ∧ R2.length = n2 from ⟨hn, hn2⟩)
  rw [hn, hn2]
  obtain ⟨res, hres⟩ : ∃ res, decide (R.map (·.2) = R2.map (·.2)) = res := ⟨_, rfl⟩
  have HRES := Lib.hid hres
  rw [hres]
  clear hn hn2 hc hc2 hr hr2 hi hi2 hl ha hb hres
  go_enter Try.func54, Try.ntmps54
  by_cases hnn : n = n2
  · subst hnn
    go_wp2_with fail
    go_loopw [5] (fun i wr => ∃ k : Nat, k ≤ n ∧ i = .int .i64 k ∧ (∃ q, wr = w.drewN q) ∧ Hid ((R.map (·.2)).take k = (R2.map (·.2)).take k)) (fun i _ => n - (intOf i).toNat)
    case atStart => exact ⟨0, by omega, rfl, ⟨0, rfl⟩, Lib.hid (by simp)⟩
    case round =>
      obtain ⟨k, hk, rfl, ⟨q, rfl⟩, hT⟩ := hrel
      by_cases hlt : k < n
      · have hk1 : k < R.length := by have := HN.out.1; omega
        have hk2 : k < R2.length := by have := HN.out.2; omega
        obtain ⟨⟨v1, x1⟩, hx1⟩ : ∃ z, R[k] = z := ⟨_, rfl⟩
        obtain ⟨⟨v2, x2⟩, hx2⟩ : ∃ z, R2[k] = z := ⟨_, rfl⟩
        have hm1 : (v1, x1) ∈ R := hx1 ▸ List.getElem_mem hk1
        have hm2 : (v2, x2) ∈ R2 := hx2 ▸ List.getElem_mem hk2
        obtain ⟨b1, o1, rfl, hc1⟩ := HR.out.2 k v1 (by rw [List.getElem?_map, List.getElem?_eq_getElem hk1, hx1]; rfl)
        obtain ⟨b2, o2, rfl, hc2⟩ := HR2.out.2 k v2 (by rw [List.getElem?_map, List.getElem?_eq_getElem hk2, hx2]; rfl)
        obtain ⟨A3, c3, h3, -, r3⟩ := HI.out _ hm1
        obtain ⟨A4, c4, h4, -, r4⟩ := HI2.out _ hm2
        simp only at h3 r3 h4 r4
        subst h3; subst h4
        have hxa := HA.out x1 (List.mem_map.2 ⟨_, hm1, rfl⟩)
        have hxb := HB.out x2 (List.mem_map.2 ⟨_, hm2, rfl⟩)
        have cv1 : (convert 30 9 (.slice A3 x1.length c3)).run Try.prog (w.drewN q).drew = .ok (.string (strOfNums x1)) (w.drewN q).drew := conv_rd (w := (w.drewN q).drew) (c := c3) (r3.keep fun _ _ h => h) (List.length_pos_iff.2 hxa.1)
        have cv2 : (convert 30 9 (.slice A4 x2.length c4)).run Try.prog (w.drewN q).drew = .ok (.string (strOfNums x2)) (w.drewN q).drew := conv_rd (w := (w.drewN q).drew) (c := c4) (r4.keep fun _ _ h => h) (List.length_pos_iff.2 hxb.1)
        have hcmp : ((strOfNums x1).toList == (strOfNums x2).toList) = decide (x1 = x2) := by
          by_cases h : x1 = x2
          · subst h; simp
          · have : ¬ (strOfNums x1).toList = (strOfNums x2).toList := fun e => h (strOfNums_inj hxa.2 hxb.2 e)
            simp [h, this]
        have HT2 := Lib.hid (show (R.map (·.2)).take (k + 1) = (R.map (·.2)).take k ++ [x1] ∧ (R2.map (·.2)).take (k + 1) = (R2.map (·.2)).take k ++ [x2] from by
          constructor
          · rw [List.take_add_one, List.getElem?_map, List.getElem?_eq_getElem hk1, hx1]; rfl
          · rw [List.take_add_one, List.getElem?_map, List.getElem?_eq_getElem hk2, hx2]; rfl)
        clear hk1 hk2 hx1 hx2 hm1 hm2 r3 r4 hxa hxb
        generalize x1.length = l1 at *
        generalize x2.length = l2 at *
        go_upto_region 6 with fail
        have hc1' : (w.drewN q).drew.cell? ⟨b1, o1 + k, none⟩ = some (.slice A3 l1 c3) := hc1
        have hc2' : (w.drewN q).drew.cell? ⟨b2, o2 + k, none⟩ = some (.slice A4 l2 c4) := hc2
        go_region_held3 (fun w' => w'.cell? ⟨b1, o1 + k, none⟩ = some (.slice A3 l1 c3) ∧ w'.cell? ⟨b2, o2 + k, none⟩ = some (.slice A4 l2 c4) ∧ (convert 30 9 (.slice A3 l1 c3)).run Try.prog w' = .ok (.string (strOfNums x1)) w' ∧ (convert 30 9 (.slice A4 l2 c4)).run Try.prog w' = .ok (.string (strOfNums x2)) w') (first | exact ⟨hc1', hc2', cv1, cv2⟩) (first | fail)
        clear hc1' hc2' cv1 cv2 hc1 hc2 hcmp
        by_cases hx : x1 = x2
        · have hd : decide (x1 = x2) = true := by simp [hx]
          have HT3 := Lib.hid (show (R.map (·.2)).take (k + 1) = (R2.map (·.2)).take (k + 1) by rw [HT2.out.1, HT2.out.2, hT.out, hx])
          rw [hd]
          clear hd hx
          go_wp2_with fail
          go_roundw
          case rel => exact ⟨k + 1, by omega, by go_num, ⟨q + 1, rfl⟩, HT3⟩
          case measure => simp [intOf]; omega
        · have hd : decide (x1 = x2) = false := by simp [hx]
          have HRR := Lib.hid (show res = false by
            rw [← HRES.out]
            refine decide_eq_false fun h => hx ?_
            have h2 := HT2.out.2
            rw [← h, HT2.out.1, hT.out] at h2
            have := List.append_cancel_left h2
            injection this)
          rw [hd]
          clear hd hx
          go_wp2_with fail
          go_ret
          rw [HRR.out]
          exact ⟨rfl, q + 1, rfl⟩
      · obtain rfl : k = n := by omega
        have HRR := Lib.hid (show res = true by
          have := hT.out
          rw [List.take_of_length_le (by rw [List.length_map, HN.out.1]; exact Nat.le_refl _), List.take_of_length_le (by rw [List.length_map, HN.out.2]; exact Nat.le_refl _)] at this
          rw [← HRES.out]; exact decide_eq_true this)
        clear hT
        go_wp2_with fail
        go_ret
        rw [HRR.out]
        exact ⟨rfl, _, rfl⟩
  · have HRR := Lib.hid (show res = false by
      rw [← HRES.out]
      refine decide_eq_false fun h => hnn ?_
      have := congrArg List.length h
      rw [List.length_map, List.length_map, HN.out.1, HN.out.2] at this
      exact this)
    have hnni : ¬ (n : Int) = (n2 : Int) := by omega
    go_wp2_with fail
    go_ret
    rw [HRR.out]
    exact ⟨rfl, 0, rfl⟩
end Go.Proofs.Ythbabdjicplooaa
