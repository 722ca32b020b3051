/- law 5's copied and is. Conditions: none. -/
import Derived.Test.YthbabdjicplooaaPageN
import Derived.Test.YthbabdjicplooaaMapJ
namespace Go.Proofs.Ythbabdjicplooaa
open Go.RowKit

theorem wpList_jput_sat {P : Program} {w : World} {ops : Array Oper} {rest : List Oper} {o : Oper} {a : Act} {Q : Exit → Act → World → Prop} {F : List HP}
    (hg : o.guard = none) (mm x v : Operand) (t : TypeId) (hop : o.op = Op.mapUpdate t mm x v) {k e : TypeId} (ht : P.underlying t = some (.map k e)) (hk : P.underlying k = some (.int .i64))
    {b : Nat} {m : List (Int × Value)} (H : Sat w (jmap b m :: F)) (hm : a.eval mm = .map (some b)) (n : Int) (val : Value) (hx : a.eval x = .int .i64 n) (hv : a.eval v = val)
    (hK : ∀ w', Sat w' (jmap b (mput m n val) :: F) → Env w w' → wpList P ops Q rest (a.put o.dst undef) w') : wpList P ops Q (o :: rest) a w := by
  refine wpList_plain hg fun K' hK' => ?_
  obtain ⟨w', hrun, r1, r2⟩ := H.jmap_put ht hk n val
  unfold Oper.wp
  simp [execOp, hop, hm, hx, hv, hrun, Result.andThen]
  exact hK' _ _ (hK w' r1 r2)
set_option maxHeartbeats 4000000 in
set_option maxRecDepth 100000 in
theorem copied5 {w : World} {b : Nat} {m : List (Int × Value)} {F : List HP} (H : Sat w (jmap b m :: F)) :
    Calls Try.prog 64 #[.map (some b)] w fun e w' => ∃ b' m', e = .returned (.map (some b')) ∧ (∀ k, mget m' k = mget m k) ∧ (∀ q ∈ m', q ∈ m) ∧ Sat w' (jmap b' m' :: jmap b m :: F) ∧ Env w w' := by
  go_enter Try.func64, Try.ntmps64
  have hmk := fun w => run_makeMap (P := Try.prog) 103 w
  go_upto_region 2 with fail
  have H1 := H.jmap_new
  obtain ⟨r, w2, hr2, H2, E2⟩ := H1.b1.jrange_start (P := Try.prog) (t := 103) Try.underlying103
  have HND := Lib.hid H.jmap_nd
  have E3 := ((Env.refl w).alloc (.map #[] 0)).trans E2
  clear H H1 E2
  go_wp2_with fail
  clear hr2 hmk
  generalize w.heap.size = o at *
  go_loopw [4, 5] (fun _ _ wr => ∃ (todo : List (Int × Value)) (last : Option (Int × Value)) (out : List (Int × Value)), Hid ((todo.map (·.1)).Nodup ∧ (∀ k, mget out k = if (∃ q ∈ todo, q.1 = k) then none else mget m k) ∧ (∀ q ∈ out, q ∈ m)) ∧ Sat wr (jrange r b m todo last :: jmap o out :: F) ∧ Env w wr) (fun _ _ wr => jleft r b wr)
  case atStart =>
    refine ⟨m, none, [], Lib.hid ⟨HND.out, fun k => ?_, fun q hq => by cases hq⟩, H2, E3⟩
    by_cases h : ∃ q ∈ m, q.1 = k
    · rw [if_pos h]; rfl
    · rw [if_neg h]; exact (mget_none fun p hp e => h ⟨p, hp, e⟩).symm
  case round =>
    clear H2 E3
    obtain ⟨todo, last, out, HI, H4, E4⟩ := hrel
    have hlen := H4.jleft
    rcases H4.jrange_next (P := Try.prog) HI.out.1 0 with ⟨rfl, hn⟩ | ⟨⟨pk, pv⟩, w5, hp, hpm, hn, H5, E5⟩
    · have H5 := H4.jrange_end
      clear H4
      go_wp2_with fail
      go_ret
      refine ⟨o, out, rfl, fun k => ?_, HI.out.2.2, H5.b1, E4⟩
      rw [HI.out.2.1 k, if_neg (by rintro ⟨q, hq, -⟩; cases hq)]
    · have he := H5.jrange_entry (P := Try.prog)
      have E6 := E4.trans E5
      have HP := Lib.hid (And.intro hp hpm)
      have hlen5 := H5.jleft
      dsimp only at hn he
      have HLT := Lib.hid (show (todo.filter fun q => !(q.1 == pk)).length < todo.length from filter_lt hp)
      clear hp hpm E4 E5
      go_wp2_with (show wpList _ _ _ ({ dst := _, op := Op.mapUpdate _ _ _ _, type := _, pos := _, after := _, guard := _ } :: _) _ _; go_must (refine wpList_jput_sat rfl (.tmp 14) (.tmp 15) (.tmp 16) 103 rfl Try.underlying103 Try.underlying3 H5.b1 rfl pk pv rfl rfl ?_); intro w7 H7 E7)
      refine ⟨⟨_, some (pk, pv), _, Lib.hid ⟨filter_nd HI.out.1 (pk, pv), fun k => ?_, fun a v hav => ?_⟩, H7.b1, E6.trans E7⟩, ?_⟩
      · rw [mget_mput]
        by_cases h : pk = k
        · subst h
          rw [if_pos rfl, if_neg (by rintro ⟨q, hq, h2⟩; have := (List.mem_filter.1 hq).2; simp [h2] at this)]
          exact (mget_mem HND.out HP.out.2).symm
        · rw [if_neg h, HI.out.2.1 k]
          have : (∃ q ∈ todo, q.1 = k) ↔ ∃ q ∈ todo.filter (fun q => !(q.1 == pk)), q.1 = k :=
            ⟨fun ⟨q, hq, h2⟩ => ⟨q, List.mem_filter.2 ⟨hq, by simp [h2, show ¬ k = pk from fun e => h e.symm]⟩, h2⟩, fun ⟨q, hq, h2⟩ => ⟨q, (List.mem_filter.1 hq).1, h2⟩⟩
          by_cases h3 : ∃ q ∈ todo, q.1 = k
          · rw [if_pos h3, if_pos (this.1 h3)]
          · rw [if_neg h3, if_neg fun e => h3 (this.2 e)]
      · rcases mput_mem hav with h | h
        · exact HI.out.2.2 _ h
        · rw [h]; exact HP.out.2
      · rw [H7.b1.jleft]; exact HLT.out
def wpage (c : Int) : List Int := if 0 < c then pageL c else zeroP
theorem zeroP_in : InB zeroP := fun x hx => by rw [zeroP, List.mem_replicate] at hx; omega
theorem zeroP_len : zeroP.length = 1024 := List.length_replicate ..
theorem wpage_in (c : Int) : InB (wpage c) := by unfold wpage; split; exact pageL_in _; exact zeroP_in
theorem Clean.inb {D : Dsk} {L : LogV} {e : Nat} {m : Nat → List Int} (h : Clean D L e m) {n : Nat} (hn : n < 512) : InB (m n) := by
  rw [← h.pg n hn]; exact (pageD_len h.st.inv.db _ _).2
/-- What a map says of the pages that are looked at. -/
def Says (mp : List (Int × Value)) (W : Nat → Int) : Prop := ∀ n : Nat, n < 12 → (mget mp (n : Int)).getD (.int .u8 0) = .int .u8 (W n) ∧ 0 ≤ W n ∧ W n ≤ 255
theorem str_ne {X Y : List Int} (hX : InB X) (hY : InB Y) : ((strOfNums X).toList != (strOfNums Y).toList) = !decide (X = Y) := by
  rw [bne, str_eq hX hY]

theorem zero_byte (w : World) : (zeroValue 5).run Try.prog w = .ok (.int .u8 0) w := by
  obtain ⟨i, hi, hz, -, -⟩ := info_parts Try.info_byte
  simp [zeroValue, typeInfo, hi, hz]
set_option maxHeartbeats 8000000 in
set_option maxRecDepth 100000 in
theorem is5 {w : World} {s d p b : Nat} {D : Dsk} {L : LogV} {e : Nat} {m : Nat → List Int} {mp : List (Int × Value)} {W : Nat → Int} {F : List HP} (H : Sat w (sto s d p (D.rd 7679) :: disk d D :: jmap b mp :: F)) (hC : Clean D L e m) (hW : Says mp W) :
    Calls Try.prog 65 #[.pointer (some ⟨s, 0, none⟩), .map (some b)] w fun e w' => ∃ q : Bool, e = .returned (.bool q) ∧ (q = true ↔ ∀ n, n < 12 → m n = wpage (W n)) ∧ Sat w' (sto s d p (D.rd 7679) :: disk d D :: jmap b mp :: F) ∧ Env w w' := by
  have HC := Lib.hid hC
  have HW := Lib.hid hW
  clear hC hW
  go_enter Try.func65, Try.ntmps65
  go_wp2_with fail
  go_loopw [5, 6, 7, 8] (fun i _ _ _ wr => ∃ k : Nat, k ≤ 12 ∧ i = .int .i64 k ∧ Hid (∀ n, n < k → m n = wpage (W n)) ∧ Sat wr (sto s d p (D.rd 7679) :: disk d D :: jmap b mp :: F) ∧ Env w wr) (fun i _ _ _ _ => 12 - (intOf i).toNat)
  case atStart => exact ⟨0, by omega, rfl, Lib.hid fun n hn => absurd hn (by omega), H, Env.refl w⟩
  case round =>
    clear H
    obtain ⟨k, hk, rfl, HI, H2, E2⟩ := hrel
    by_cases hlt : k < 12
    · have HMI := Lib.hid (HC.out.inb (n := k) (by omega))
      obtain ⟨hw1, hw2, hw3⟩ := HW.out k hlt
      have HWI := Lib.hid (wpage_in (W k))
      have HNX := Lib.hid (show m k = wpage (W k) → ∀ n, n < k + 1 → m n = wpage (W n) from fun h n hn => by
        by_cases h1 : n = k
        · subst h1; exact h
        · exact HI.out n (by omega))
      have HNO := Lib.hid (show m k ≠ wpage (W k) → ¬ ∀ n, n < 12 → m n = wpage (W n) from fun h h2 => h (h2 k hlt))
      have HRD := Lib.hid (fun (w : World) (F : List HP) (H : Sat w (sto s d p (D.rd 7679) :: disk d D :: F)) => pread_fine (G := []) k (by omega) H HC.out)
      generalize m k = X at *
      have HWP := Lib.hid (show wpage (W k) = if 0 < W k then pageL (W k) else zeroP from rfl)
      generalize wpage (W k) = Y at *
      generalize W k = c at *
      go_wp2_with fail
      refine (HRD.out _ _ H2).mono ?_
      rintro e w3 ⟨v3, rfl, H3, E3⟩
      obtain ⟨A3, c3, rfl, -, -, -⟩ := H3.own_form
      replace E3 := E2.trans E3
      clear H2 E2
      go_upto_region 6 with (at_make; go_must (refine wpList_make_sat rfl _ _ 30 rfl H3 5 (.int .u8 0) 1 1 Try.underlying30 Try.info_byte _ _ 1024 rfl rfl (by omega) (by simp only [maxLen]; omega) ?_); intro w4 H4 E4; rw [made_byte] at H4)
      replace E4 := E3.trans E4
      have hlook := (H4.b4.jmap_imap).imap_look (P := Try.prog) Try.underlying103 Try.underlying3 (.int .u8 0) (zero_byte w4) k false
      rw [if_neg (by decide), hw1] at hlook
      go_upto_if 23 with fail
      go_cut [8] from 20 to 27 (fun s8 wr => ∃ A c, s8 = .slice A 1024 c ∧ Sat wr (own 5 1 (.slice A 1024 c) 1024 (bytes Y) :: own 5 1 (.slice A3 1024 c3) 1024 (bytes X) :: sto s d p (D.rd 7679) :: disk d D :: jmap b mp :: F) ∧ Env w wr)
      case first =>
        by_cases hc : 0 < c
        · have HY := Lib.hid (show Y = pageL c by rw [HWP.out, if_pos hc])
          go_wp2_with fail
          refine (page5 c H4.tail ⟨hw2, hw3⟩).mono ?_
          rintro e w5 ⟨v5, rfl, H5, E5⟩
          obtain ⟨A5, c5, rfl, -, -, -⟩ := H5.own_form
          rw [← HY.out] at H5
          go_wp2_with fail
          go_meet
          case rel => exact ⟨A5, c5, rfl, H5, E4.trans E5⟩
        · have HY := Lib.hid (show Y = zeroP by rw [HWP.out, if_neg hc])
          rw [show List.replicate 1024 0 = zeroP from rfl, ← HY.out] at H4
          go_wp2_with fail
          go_meet
          case rel => exact ⟨_, _, rfl, H4, E4⟩
      case rest =>
        clear H3 E3 H4 E4 hlook
        obtain ⟨A8, c8, rfl, H5, E5⟩ := hcut
        have k8 := conv_any (c := c8) H5.own_at.1
        have k3 := conv_any (c := c3) H5.b1.own_at.1
        have HS := Lib.hid (str_eq HMI.out HWI.out)
        obtain ⟨q, hq⟩ : ∃ q, decide (X = Y) = q := ⟨_, rfl⟩
        rw [hq] at HS
        have hs := HS.out
        generalize strOfNums X = sX at *
        generalize strOfNums Y = sY at *
        have H6 := H5.tail.tail
        clear H5
        cases q with
        | true =>
          have HN2 := Lib.hid (HNX.out (of_decide_eq_true hq))
          clear hq HNX HNO
          go_wp2_with fail
          exact ⟨⟨k + 1, by omega, by go_num, HN2, H6, E5⟩, by simp [intOf]; omega⟩
        | false =>
          have HN2 := Lib.hid (HNO.out (of_decide_eq_false hq))
          clear hq HNX HNO
          go_wp2_with fail
          go_ret
          exact ⟨false, rfl, ⟨fun h => (by cases h), fun h => absurd h HN2.out⟩, H6, E5⟩
    · obtain rfl : k = 12 := by omega
      go_wp2_with fail
      go_ret
      exact ⟨true, rfl, ⟨fun _ => HI.out, fun _ => rfl⟩, H2, E2⟩
end Go.Proofs.Ythbabdjicplooaa

/- PagesKeep: the calls that are asked for, and what is kept. Conditions: none. -/
namespace Go.Proofs.Ythbabdjicplooaa
open Go.RowKit

structure AskP where
  kind : Int
  after : Int
  again : Int
  An : Option Addr
  nn : Nat
  cn : Nat
  ns : List Int
  fill : Int
  A : Option Addr
  nk : Nat
  ck : Nat
  keep : List Bool
  torn : Int
  nb : Int
def cellsKp (x : AskP) : List Value := [.int .i64 x.kind, .int .i64 x.after, .int .i64 x.again, .slice x.An x.nn x.cn, .int .u8 x.fill, .slice x.A x.nk x.ck, .int .i64 x.torn, .int .i64 x.nb]
def flatKp (l : List AskP) : List Value := l.flatMap cellsKp
theorem flatKp_len (l : List AskP) : (flatKp l).length = l.length * 8 := by
  induction l with
  | nil => rfl
  | cons x l ih => simp only [flatKp, List.flatMap_cons, List.length_append, List.length_cons] at ih ⊢; simp only [cellsKp, List.length_cons, List.length_nil]; omega
theorem flatKp_get (l : List AskP) (k : Nat) (hk : k < l.length) (j : Nat) (hj : j < 8) : (flatKp l)[k * 8 + j]? = (cellsKp l[k])[j]? := by
  induction l generalizing k with
  | nil => simp at hk
  | cons x l ih =>
    cases k with
    | zero =>
      simp only [flatKp, List.flatMap_cons, Nat.zero_mul, Nat.zero_add, List.getElem_cons_zero]
      rw [List.getElem?_append_left (by simpa [cellsKp] using hj)]
    | succ k =>
      have := ih k (by simpa using hk)
      simp only [flatKp, List.flatMap_cons, List.getElem_cons_succ] at this ⊢
      rw [List.getElem?_append_right (by simp [cellsKp]; omega), ← this]
      congr 1
      simp [cellsKp]; omega
theorem rdKp {w : World} {A : Option Addr} {n : Nat} {l : List AskP} (h : Rd w 8 A n (flatKp l)) {k : Nat} (hk : k < l.length) :
    ∃ b off, A = some ⟨b, off, none⟩ ∧ ∀ j u, (cellsKp l[k])[j]? = some u → w.cell? ⟨b, off + k * 8 + j, none⟩ = some u := by
  obtain ⟨b, off, hA, h0⟩ := h.2 (k * 8 + 0) _ (by rw [flatKp_get l k hk 0 (by omega)]; rfl)
  refine ⟨b, off, hA, fun j u hu => ?_⟩
  have hj : j < 8 := by have := (List.getElem?_eq_some_iff.1 hu).1; simpa [cellsKp] using this
  obtain ⟨b', off', hA', hc⟩ := h.2 (k * 8 + j) u (by rw [flatKp_get l k hk j hj]; exact hu)
  rw [hA] at hA'
  cases hA'
  rw [Nat.add_assoc]; exact hc
def ints (l : List Int) : List Value := l.map (Value.int .i64)
structure AskPOk (F : List HP) (x : AskP) : Prop where
  again : x.again ≤ 9223372036854775807
  fill : 0 ≤ x.fill ∧ x.fill ≤ 255
  ns : Reads F 1 x.An x.nn (ints x.ns)
  keep : Reads F 1 x.A x.nk (x.keep.map Value.bool)

/-- What lies on the disk, and in the map. -/
structure KeepI (F : List HP) (D : Dsk) (L : LogV) (e : Nat) (m : Nat → List Int) (mp : List (Int × Value)) (W : Nat → Int) (ar : Bool) (AK : Option Addr) (nk : Nat) (keep : List Bool) (ag : Int) : Prop where
  clean : Clean D L e m
  says : Says mp W
  same : ∀ n, n < 12 → m n = wpage (W n)
  left : ar = false → D.left = none
  cut : Reads F 1 AK nk (keep.map Value.bool)
  again : ag ≤ 9223372036854775807
/-- Behind what was asked for: gone, or stopped in the midst of a Put. -/
structure SwI (F : List HP) (D : Dsk) (L : LogV) (e : Nat) (mp mp2 : List (Int × Value)) (S : List Int) (ar : Bool) (AK : Option Addr) (nk : Nat) (keep : List Bool) (ag : Int) (r : Int) : Prop where
  or : r = 0 ∨ r = 13
  ok : r = 0 → S = D.rd 7679 ∧ ∃ m W, Clean D L (e + 1) m ∧ Says mp2 W ∧ (∀ n, n < 12 → m n = wpage (W n)) ∧ (ar = false → D.left = none)
  no : r = 13 → ar = true ∧ ∃ m R W W2, (∀ keep torn nb, After (D.crash keep torn nb) (e + 1) m R) ∧ Shs R ∧ D.pend.length < 1000000 ∧ Says mp W ∧ Says mp2 W2 ∧ (∀ n, n < 12 → m n = wpage (W n)) ∧ (∀ n, n < 12 → updR m R n = wpage (W2 n))
  cut : Reads F 1 AK nk (keep.map Value.bool)
  again : ag ≤ 9223372036854775807
theorem KeepI.go {F : List HP} {D : Dsk} {L : LogV} {e : Nat} {m : Nat → List Int} {mp mp2 : List (Int × Value)} {W : Nat → Int} {ar : Bool} {AK : Option Addr} {nk : Nat} {keep : List Bool} {ag : Int} (h : KeepI F D L e m mp W ar AK nk keep ag) (hm : Says mp2 W) : SwI F D L e mp mp2 (D.rd 7679) ar AK nk keep ag 0 :=
  ⟨.inl rfl, fun _ => ⟨rfl, m, W, h.clean.up, hm, h.same, h.left⟩, fun h => by omega, h.cut, h.again⟩
theorem Says.same {mp mp2 : List (Int × Value)} {W : Nat → Int} (h : Says mp W) (hm : ∀ k, mget mp2 k = mget mp k) : Says mp2 W := fun n hn => by rw [hm]; exact h n hn
/-- A list of sheets that is being put together. -/
structure PutI (m : Nat → List Int) (R : List Sh) (mp : List (Int × Value)) (W : Nat → Int) (tw : Bool) : Prop where
  ok : ∀ q ∈ R, ShOk q
  nd : tw = false ↔ (R.map (fun q => q.1.toNat)).Nodup
  says : Says mp W
  same : tw = false → ∀ n, n < 12 → updR m R n = wpage (W n)
theorem updR_snoc {m : Nat → List Int} {n : Nat} {q : Sh} : ∀ {R : List Sh}, (∀ x ∈ R, x.1.toNat ≠ q.1.toNat) → updR m (R ++ [q]) n = if q.1.toNat = n then q.2.2 else updR m R n
  | [], _ => rfl
  | x :: R, h => by
    have ih := updR_snoc (m := m) (n := n) (q := q) (R := R) fun y hy => h y (List.mem_cons_of_mem _ hy)
    rw [List.cons_append, updR, updR, ih]
    have := h x (List.mem_cons_self ..)
    by_cases h1 : x.1.toNat = n
    · rw [if_pos h1, if_pos h1, if_neg (by omega)]
    · rw [if_neg h1, if_neg h1]
theorem PutI.snoc {m : Nat → List Int} {R : List Sh} {mp : List (Int × Value)} {W : Nat → Int} {tw : Bool} (h : PutI m R mp W tw) {N : Nat} {v : Value} {c : Int} (hN : N < 12) (hc : 0 < c ∧ c ≤ 255) :
    PutI m (R ++ [((N : Int), v, pageL c)]) (mput mp N (.int .u8 c)) (fun n => if N = n then c else W n) (tw || decide (∃ x ∈ R, x.1 = (N : Int))) := by
  have hq : ShOk ((N : Int), v, pageL c) := ⟨by dsimp only; omega, by dsimp only; omega, by dsimp only; exact pageL_len c, by dsimp only; exact pageL_in c⟩
  have hno : ¬ (∃ x ∈ R, x.1 = (N : Int)) ↔ ∀ x ∈ R, x.1.toNat ≠ N := by
    constructor
    · intro h1 x hx e
      have := (h.ok x hx).n0
      exact h1 ⟨x, hx, by omega⟩
    · rintro h1 ⟨x, hx, e⟩
      exact h1 x hx (by rw [e]; exact Int.toNat_natCast _)
  refine ⟨fun q hq' => ?_, ?_, fun n hn => ?_, fun hf n hn => ?_⟩
  · rcases List.mem_append.1 hq' with h1 | h1
    · exact h.ok q h1
    · rw [List.mem_singleton.1 h1]; exact hq
  · rw [Bool.or_eq_false_iff, h.nd, decide_eq_false_iff_not, hno, List.map_append, List.nodup_append]
    constructor
    · rintro ⟨h1, h2⟩
      refine ⟨h1, by simp, fun a ha b hb => ?_⟩
      obtain ⟨x, hx, rfl⟩ := List.mem_map.1 ha
      have hb' : b = N := by
        have := List.mem_singleton.1 hb
        rw [this]; exact Int.toNat_natCast _
      rw [hb']; exact h2 x hx
    · rintro ⟨h1, -, h2⟩
      exact ⟨h1, fun x hx => h2 _ (List.mem_map.2 ⟨x, hx, rfl⟩) N (by simp)⟩
  · rw [mget_mput]
    by_cases h1 : N = n
    · subst h1
      rw [if_pos rfl, if_pos rfl]
      exact ⟨rfl, by omega, hc.2⟩
    · rw [if_neg (by omega), if_neg h1]
      exact h.says n hn
  · rw [Bool.or_eq_false_iff, decide_eq_false_iff_not, hno] at hf
    rw [updR_snoc (fun x hx => by have := hf.2 x hx; simpa using this)]
    simp only [Int.toNat_natCast]
    by_cases h1 : N = n
    · rw [if_pos h1, if_pos h1, wpage, if_pos hc.1]
    · rw [if_neg h1, if_neg h1]; exact h.same hf.1 n hn
def twI (tw : Bool) (R : List Sh) (N : Nat) (i : Nat) : Bool := tw || decide (∃ x ∈ R.take i, x.1 = (N : Int))
theorem twI_succ (tw : Bool) {R : List Sh} (N : Nat) {i : Nat} (h : i < R.length) : twI tw R N (i + 1) = (twI tw R N i || (R[i].1 == (N : Int))) := by
  unfold twI
  rw [List.take_succ_eq_append_getElem h, Bool.or_assoc]
  congr 1
  apply Bool.eq_iff_iff.2
  simp only [decide_eq_true_eq, Bool.or_eq_true, beq_iff_eq, List.mem_append, List.mem_singleton]
  constructor
  · rintro ⟨x, hx | rfl, h2⟩
    · exact .inl ⟨x, hx, h2⟩
    · exact .inr h2
  · rintro (⟨x, hx, h2⟩ | h2)
    · exact ⟨x, .inl hx, h2⟩
    · exact ⟨_, .inr rfl, h2⟩
theorem PutI.shs {m : Nat → List Int} {R : List Sh} {mp : List (Int × Value)} {W : Nat → Int} (h : PutI m R mp W false) (hl : R.length ≤ 256) : Shs R := ⟨h.ok, h.nd.1 rfl, hl⟩
theorem PutI.not {m : Nat → List Int} {R : List Sh} {mp : List (Int × Value)} {W : Nat → Int} (h : PutI m R mp W true) : ¬ Shs R := fun hs => by
  have := h.nd.2 hs.nd; cases this
end Go.Proofs.Ythbabdjicplooaa
