/- package pages: Open behind a crash; lists of two sheets. Conditions: epochs below 190. -/
import Derived.Test.YthbabdjicplooaaPageM
namespace Go.Proofs.Ythbabdjicplooaa
open Go.RowKit

theorem Clean.stopped {D : Dsk} {L : LogV} {e : Nat} {m : Nat → List Int} (h : Clean D L e m) (o : Option Nat) : Clean { D with left := o } L e m := ⟨h.st.stopped o, h.recs, h.pg⟩
theorem Clean.crash {D : Dsk} {L : LogV} {e : Nat} {m : Nat → List Int} (h : Clean D L e m) (keep : List Bool) (torn nb : Int) : Clean (D.crash keep torn nb) L e m := by
  have := h.st.crash keep torn nb
  exact ⟨this.1, h.recs, fun n hn => (this.2 n hn).trans (h.pg n hn)⟩
theorem Clean.up {D : Dsk} {L : LogV} {e : Nat} {m : Nat → List Int} (h : Clean D L e m) : Clean D L (e + 1) m := ⟨h.st.up, h.recs, h.pg⟩
/-- What a Put that has gone, or was stopped, leaves behind a crash. -/
theorem PutW.crash {D D' : Dsk} {L' : LogV} {e : Nat} {m : Nat → List Int} {R : List Sh} {r : Int} (h : PutW D D' L' e m R r) (keep : List Bool) (torn nb : Int) :
    After (D'.crash keep torn nb) (e + 1) m R ∧ (r = 0 → After (D'.crash keep torn nb) (e + 1) (updR m R) []) := by
  rcases h.or with rfl | rfl
  · have := (h.ok rfl).crash keep torn nb
    exact ⟨.inr (.inr ⟨L', this⟩), fun _ => .inl ⟨L', this⟩⟩
  · exact ⟨h.no rfl keep torn nb, fun h => by omega⟩
structure ReW (D D' : Dsk) (L' : LogV) (e : Nat) (m m' : Nat → List Int) (R : List Sh) (r : Int) : Prop where
  or : r = 0 ∨ r = 13
  ok : r = 0 → (m' = m ∨ m' = updR m R) ∧ Clean D' L' (e + 1) m'
  crash : ∀ keep torn nb, After (D'.crash keep torn nb) (e + 1) m R
  pend : D'.pend.length < 1000000
  fine : D.left = none → r = 0 ∧ D'.left = none
theorem popen_after {w : World} {d : Nat} {D : Dsk} {e : Nat} {m : Nat → List Int} {R : List Sh} {F : List HP} (H : Sat w (disk d D :: F)) (hA : After D e m R) (hR : Shs R) (he : e < 190) :
    Calls Try.prog 58 #[.pointer (some ⟨d, 0, none⟩)] w fun e' w' => ∃ r s p D' L' m', ReW D D' L' e m m' R r ∧ e' = .returned (.tuple #[if r = 0 then .pointer (some ⟨s, 0, none⟩) else .pointer none, .int .i64 r]) ∧ (r = 0 → Sat w' (sto s d p (D'.rd 7679) :: logc p d L' :: disk d D' :: F)) ∧ Sat w' (disk d D' :: F) ∧ Env w w' := by
  rcases hA with ⟨L, h⟩ | ⟨L, h⟩ | ⟨L, h⟩
  · refine (popen_any (R := []) H (.inl h) he).mono ?_
    rintro e' w' ⟨r, s, p, D', L', hW, h1, h2, h3, h4⟩
    have hr : r = 0 := hW.or.elim id fun h5 => absurd h.recs (hW.no h5).1
    subst hr
    obtain ⟨-, rfl, rfl⟩ | ⟨h5, -⟩ := hW.ok rfl
    · exact ⟨0, s, p, D', L', m, ⟨.inl rfl, fun _ => ⟨.inl rfl, h.up⟩, fun keep torn nb => .inl ⟨_, (h.crash keep torn nb).up⟩, hW.pend, fun hl => ⟨rfl, hl⟩⟩, h1, h2, h3, h4⟩
    · exact absurd h.recs h5
  · refine (popen_any (R := R) H (.inr ⟨h, hR⟩) he).mono ?_
    rintro e' w' ⟨r, s, p, D', L', hW, h1, h2, h3, h4⟩
    have hok : r = 0 → Clean D' L' (e + 1) (updR m R) := fun h0 => by
      obtain ⟨h5, -⟩ | ⟨-, h5⟩ := hW.ok h0
      · rw [h.recs] at h5; cases h5
      · exact h5
    refine ⟨r, s, p, D', L', updR m R, ⟨hW.or, fun h0 => ⟨.inr rfl, hok h0⟩, fun keep torn nb => ?_, hW.pend, hW.fine⟩, h1, h2, h3, h4⟩
    rcases hW.or with h0 | h0
    · exact .inr (.inr ⟨_, (hok h0).crash keep torn nb⟩)
    · exact (hW.no h0).2 keep torn nb
  · refine (popen_any (R := []) H (.inl h) he).mono ?_
    rintro e' w' ⟨r, s, p, D', L', hW, h1, h2, h3, h4⟩
    have hr : r = 0 := hW.or.elim id fun h5 => absurd h.recs (hW.no h5).1
    subst hr
    obtain ⟨-, rfl, rfl⟩ | ⟨h5, -⟩ := hW.ok rfl
    · exact ⟨0, s, p, D', L', updR m R, ⟨.inl rfl, fun _ => ⟨.inr rfl, h.up⟩, fun keep torn nb => .inr (.inr ⟨_, (h.crash keep torn nb).up⟩), hW.pend, fun hl => ⟨rfl, hl⟩⟩, h1, h2, h3, h4⟩
    · exact absurd h.recs h5
/-- The list of two sheets, as it is made. -/
theorem Sat.sheet_two {w : World} {n n2 : Int} {A A2 : Option Addr} {m c m2 c2 : Nat} {b b2 : List Int} {F : List HP} (H : Sat w (own 5 1 (.slice A2 m2 c2) m2 (bytes b2) :: own 5 1 (.slice A m c) m (bytes b) :: F)) (hb : b.length = m) (hb2 : b2.length = m2) :
    Sat (w.alloc (.cells #[.int .i64 n, .slice A m c, .int .i64 n2, .slice A2 m2 c2] 98)) (own 98 2 (.slice (some ⟨w.heap.size, 0, none⟩) 2 2) 2 (flatS [(n, .slice A m c, b), (n2, .slice A2 m2 c2, b2)]) :: ownB ([(n, (.slice A m c : Value), b), (n2, (.slice A2 m2 c2 : Value), b2)].map (·.2)) :: F) := by
  have H1 : Sat w (ownB ([] ++ [((.slice A m c : Value), b)]) :: own 5 1 (.slice A2 m2 c2) m2 (bytes b2) :: F) := Sat.ownB_snoc (by rw [hb]; exact Sat.b1 (Sat.ownB_nil H.b1))
  have H2 : Sat w (ownB (([] ++ [((.slice A m c : Value), b)]) ++ [((.slice A2 m2 c2 : Value), b2)]) :: F) := Sat.ownB_snoc (by rw [hb2]; exact H1.b1)
  exact H2.own_lit 98 2 #[.int .i64 n, .slice A m c, .int .i64 n2, .slice A2 m2 c2] 2 (by simp [maxLen]) rfl
theorem shs_two {n n2 c c2 : Nat} {x x2 : Int} {A A2 : Option Addr} (hn : n < 512) (hn2 : n2 < 512) (hne : n ≠ n2) : Shs [((n : Int), .slice A 1024 c, pageL x), ((n2 : Int), .slice A2 1024 c2, pageL x2)] := by
  refine ⟨fun q hq => ?_, ?_, by show 2 ≤ 256; omega⟩
  · rcases List.mem_cons.1 hq with rfl | hq
    · exact ⟨by dsimp only; omega, by dsimp only; omega, by dsimp only; exact pageL_len x, by dsimp only; exact pageL_in x⟩
    · rw [List.mem_singleton.1 hq]
      exact ⟨by dsimp only; omega, by dsimp only; omega, by dsimp only; exact pageL_len x2, by dsimp only; exact pageL_in x2⟩
  · simp only [List.map_cons, List.map_nil, Int.toNat_natCast]
    exact List.nodup_cons.2 ⟨by simpa using hne, by simp⟩
theorem str_eq {X Y : List Int} (hX : InB X) (hY : InB Y) : ((strOfNums X).toList == (strOfNums Y).toList) = decide (X = Y) := by
  by_cases h : X = Y
  · subst h; simp
  · rw [decide_eq_false h]
    exact beq_eq_false_iff_ne.2 fun e => h (strOfNums_inj hX hY e)
end Go.Proofs.Ythbabdjicplooaa

/- package pages: what is refused. Conditions: none. -/
namespace Go.Proofs.Ythbabdjicplooaa
open Go.RowKit

set_option maxHeartbeats 4000000 in
set_option maxRecDepth 100000 in
theorem pformat_nil (w : World) :
    Calls Try.prog 62 #[.pointer none] w fun e w' => e = .returned (.int .i64 1) ∧ w = w' := by
  go_enter Try.func62, Try.ntmps62
  go_wp2_with fail
  refine (pfits_nil w).mono ?_
  rintro e w1 ⟨rfl, rfl⟩
  go_wp2_with fail
  go_ret
  exact ⟨rfl, rfl⟩
set_option maxHeartbeats 4000000 in
set_option maxRecDepth 100000 in
theorem pformat_small {w : World} {d : Nat} {D : Dsk} {F : List HP} (H : Sat w (disk d D :: F)) (hl : D.safe.length < 7680) :
    Calls Try.prog 62 #[.pointer (some ⟨d, 0, none⟩)] w fun e w' => e = .returned (.int .i64 1) ∧ w = w' := by
  have HF := Lib.hid (pfits_no H hl)
  clear hl
  go_enter Try.func62, Try.ntmps62
  go_wp2_with fail
  refine HF.out.mono ?_
  rintro e w1 ⟨rfl, rfl⟩
  go_wp2_with fail
  go_ret
  exact ⟨rfl, rfl⟩
set_option maxHeartbeats 4000000 in
set_option maxRecDepth 100000 in
theorem popen_bare {w : World} {d : Nat} {D : Dsk} {F : List HP} (H : Sat w (disk d D :: F)) (hl : 7680 ≤ D.safe.length) (hb : DB D) (ht : (D.rd 7679).take 5 ≠ titleL) :
    Calls Try.prog 58 #[.pointer (some ⟨d, 0, none⟩)] w fun e' w' => e' = .returned (.tuple #[.pointer none, .int .i64 13]) ∧ Sat w' (disk d D :: F) ∧ Env w w' := by
  have HF := Lib.hid (pfits_yes H hl)
  have HRD := Lib.hid (dread 7679 H (by omega))
  have HT := Lib.hid (show decide ((D.rd 7679).take 5 = titleL) = false from decide_eq_false ht)
  have HIN := Lib.hid (hb.rd 7679).1
  have kc := fun (w : World) (C : Array Value) (n c : Nat) => Lib.run_convert_bytes_const (P := Try.prog) w 30 5 C n c Try.underlying30 Try.underlying5
  clear hl hb ht
  generalize D.rd 7679 = S at *
  go_enter Try.func58, Try.ntmps58
  go_wp2_with fail
  refine HF.out.mono ?_
  rintro e' w1 ⟨rfl, rfl⟩
  clear HF
  go_wp2_with fail
  refine HRD.out.mono ?_
  rintro e' w2 ⟨v2, rfl, H2, E2⟩
  obtain ⟨A2, c2, rfl, -, -, -⟩ := H2.own_form
  clear HRD H
  go_upto_region 4 with fail
  have H3 := H2.alloc (.cells #[.int .u8 112, .int .u8 97, .int .u8 103, .int .u8 101, .int .u8 115] 5 (5, 6))
  have E3 := E2.alloc (.cells #[.int .u8 112, .int .u8 97, .int .u8 103, .int .u8 101, .int .u8 115] 5 (5, 6))
  have hc2 := H2.own_at.2.2
  have HPX := Lib.hid (prefix_any A2 (some ⟨w2.heap.size, 0, none⟩) c2 5 S _ H3.b1.own_at.1 hc2 (H3.blk_rd titleL) HIN.out)
  rw [HT.out] at HPX
  have H4 := H3.tail.tail
  clear hc2 H3
  go_wp2_with fail
  refine HPX.out.mono ?_
  rintro e' w4 ⟨rfl, rfl⟩
  go_wp2_with fail
  go_ret2
  exact ⟨rfl, H4, E3⟩
set_option maxHeartbeats 4000000 in
set_option maxRecDepth 100000 in
theorem pput_big {w : World} (s : Nat) (A : Option Addr) (c : Nat) :
    Calls Try.prog 60 #[.pointer (some ⟨s, 0, none⟩), .slice A 257 c] w fun e' w' => e' = .returned (.int .i64 1) ∧ w = w' := by
  go_enter Try.func60, Try.ntmps60
  go_wp2_with fail
  go_ret
  exact ⟨rfl, rfl⟩
/-- Put of what may not be, on any pages. -/
theorem pput_bad {w : World} {s d p : Nat} {D : Dsk} {L : LogV} {e : Nat} {m : Nat → List Int} {F : List HP} (A : Option Addr) (n c : Nat) (R : List Sh)
    (H : Sat w (sto s d p (D.rd 7679) :: logc p d L :: disk d D :: own 98 2 (.slice A n c) n (flatS R) :: ownB (R.map (·.2)) :: F)) (hb : ∀ q ∈ R, InB q.2.2) (hn : n < 100000) (hC : Clean D L e m) (he : e < 190) (hR : ¬ Shs R) :
    Calls Try.prog 60 #[.pointer (some ⟨s, 0, none⟩), .slice A n c] w fun e' w' => e' = .returned (.int .i64 1) ∧ Sat w' (sto s d p (D.rd 7679) :: logc p d L :: disk d D :: F) ∧ Env w w' := by
  refine (pput_own A n c R H hb hn hC he).mono ?_
  rintro e' w' ⟨r, S', D', L', rfl, hP, H', E'⟩
  obtain ⟨rfl, rfl, rfl, rfl⟩ := hP.bad hR
  exact ⟨rfl, H'.b3.tail.b3.tail, E'⟩
theorem pput_nil {w : World} {s d p : Nat} {D : Dsk} {L : LogV} {e : Nat} {m : Nat → List Int} {F : List HP} (H : Sat w (sto s d p (D.rd 7679) :: logc p d L :: disk d D :: F)) (hC : Clean D L e m) (he : e < 190) :
    Calls Try.prog 60 #[.pointer (some ⟨s, 0, none⟩), .slice none 0 0] w fun e' w' => e' = .returned (.int .i64 0) ∧ Sat w' (sto s d p (D.rd 7679) :: logc p d L :: disk d D :: F) ∧ Env w w' := by
  refine (pput_any none 0 0 [] H (fun w h => Rd.nil _ _ _) (fun q hq => by cases hq) (fun q hq => by cases hq) (by omega) hC he).mono ?_
  rintro e' w' ⟨r, S', D', L', rfl, hP, H', E'⟩
  obtain ⟨rfl, rfl, rfl, rfl⟩ := hP.none rfl
  exact ⟨rfl, H', E'⟩
end Go.Proofs.Ythbabdjicplooaa
