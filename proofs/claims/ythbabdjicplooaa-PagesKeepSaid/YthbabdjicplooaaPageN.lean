/- package pages: Open behind a crash; lists of two sheets. Conditions: epochs below 190. -/
import Derived.Test.YthbabdjicplooaaPageM
namespace Go.Proofs.Ythbabdjicplooaa
open Go.RowKit

theorem Clean.stopped {D : Dsk} {L : LogV} {e : Nat} {m : Nat → List Int} (h : Clean D L e m) (o : Option Nat) : Clean { D with left := o } L e m := ⟨h.st.stopped o, h.recs, h.pg⟩
theorem Clean.crash {D : Dsk} {L : LogV} {e : Nat} {m : Nat → List Int} (h : Clean D L e m) (keep : List Bool) (torn nb : Int) : Clean (D.crash keep torn nb) L e m := by
  have := h.st.crash keep torn nb
  exact ⟨this.1, h.recs, fun n hn => (this.2 n hn).trans (h.pg n hn)⟩
theorem Clean.up {D : Dsk} {L : LogV} {e : Nat} {m : Nat → List Int} (h : Clean D L e m) : Clean D L (e + 1) m := ⟨h.st.up, h.recs, h.pg⟩
/-- What a Put that has gone, or was stopped, leaves behind a crash. -/
theorem PutW.crash {D D' : Dsk} {L' : LogV} {e : Nat} {m : Nat → List Int} {R : List Sh} {r : Int} (h : PutW D D' L' e m R r) (keep : List Bool) (torn nb : Int) :
    After (D'.crash keep torn nb) (e + 1) m R ∧ (r = 0 → After (D'.crash keep torn nb) (e + 1) (updR m R) []) := by
  rcases h.or with rfl | rfl
  · have := (h.ok rfl).crash keep torn nb
    exact ⟨.inr (.inr ⟨L', this⟩), fun _ => .inl ⟨L', this⟩⟩
  · exact ⟨h.no rfl keep torn nb, fun h => by omega⟩
structure ReW (D D' : Dsk) (L' : LogV) (e : Nat) (m m' : Nat → List Int) (R : List Sh) (r : Int) : Prop where
  or : r = 0 ∨ r = 13
  ok : r = 0 → (m' = m ∨ m' = updR m R) ∧ Clean D' L' (e + 1) m'
  crash : ∀ keep torn nb, After (D'.crash keep torn nb) (e + 1) m R
  pend : D'.pend.length < 1000000
  fine : D.left = none → r = 0 ∧ D'.left = none
theorem popen_after {w : World} {d : Nat} {D : Dsk} {e : Nat} {m : Nat → List Int} {R : List Sh} {F : List HP} (H : Sat w (disk d D :: F)) (hA : After D e m R) (hR : Shs R) (he : e < 190) :
    Calls Try.prog 58 #[.pointer (some ⟨d, 0, none⟩)] w fun e' w' => ∃ r s p D' L' m', ReW D D' L' e m m' R r ∧ e' = .returned (.tuple #[if r = 0 then .pointer (some ⟨s, 0, none⟩) else .pointer none, .int .i64 r]) ∧ (r = 0 → Sat w' (sto s d p (D'.rd 7679) :: logc p d L' :: disk d D' :: F)) ∧ Sat w' (disk d D' :: F) ∧ Env w w' := by
  rcases hA with ⟨L, h⟩ | ⟨L, h⟩ | ⟨L, h⟩
  · refine (popen_any (R := []) H (.inl h) he).mono ?_
    rintro e' w' ⟨r, s, p, D', L', hW, h1, h2, h3, h4⟩
    have hr : r = 0 := hW.or.elim id fun h5 => absurd h.recs (hW.no h5).1
    subst hr
    obtain ⟨-, rfl, rfl⟩ | ⟨h5, -⟩ := hW.ok rfl
    · exact ⟨0, s, p, D', L', m, ⟨.inl rfl, fun _ => ⟨.inl rfl, h.up⟩, fun keep torn nb => .inl ⟨_, (h.crash keep torn nb).up⟩, hW.pend, fun hl => ⟨rfl, hl⟩⟩, h1, h2, h3, h4⟩
    · exact absurd h.recs h5
  · refine (popen_any (R := R) H (.inr ⟨h, hR⟩) he).mono ?_
    rintro e' w' ⟨r, s, p, D', L', hW, h1, h2, h3, h4⟩
    have hok : r = 0 → Clean D' L' (e + 1) (updR m R) := fun h0 => by
      obtain ⟨h5, -⟩ | ⟨-, h5⟩ := hW.ok h0
      · rw [h.recs] at h5; cases h5
      · exact h5
    refine ⟨r, s, p, D', L', updR m R, ⟨hW.or, fun h0 => ⟨.inr rfl, hok h0⟩, fun keep torn nb => ?_, hW.pend, hW.fine⟩, h1, h2, h3, h4⟩
    rcases hW.or with h0 | h0
    · exact .inr (.inr ⟨_, (hok h0).crash keep torn nb⟩)
    · exact (hW.no h0).2 keep torn nb
  · refine (popen_any (R := []) H (.inl h) he).mono ?_
    rintro e' w' ⟨r, s, p, D', L', hW, h1, h2, h3, h4⟩
    have hr : r = 0 := hW.or.elim id fun h5 => absurd h.recs (hW.no h5).1
    subst hr
    obtain ⟨-, rfl, rfl⟩ | ⟨h5, -⟩ := hW.ok rfl
    · exact ⟨0, s, p, D', L', updR m R, ⟨.inl rfl, fun _ => ⟨.inr rfl, h.up⟩, fun keep torn nb => .inr (.inr ⟨_, (h.crash keep torn nb).up⟩), hW.pend, fun hl => ⟨rfl, hl⟩⟩, h1, h2, h3, h4⟩
    · exact absurd h.recs h5
/-- The list of two sheets, as it is made. -/
theorem Sat.sheet_two {w : World} {n n2 : Int} {A A2 : Option Addr} {m c m2 c2 : Nat} {b b2 : List Int} {F : List HP} (H : Sat w (own 5 1 (.slice A2 m2 c2) m2 (bytes b2) :: own 5 1 (.slice A m c) m (bytes b) :: F)) (hb : b.length = m) (hb2 : b2.length = m2) :
    Sat (w.alloc (.cells #[.int .i64 n, .slice A m c, .int .i64 n2, .slice A2 m2 c2] 98)) (own 98 2 (.slice (some ⟨w.heap.size, 0, none⟩) 2 2) 2 (flatS [(n, .slice A m c, b), (n2, .slice A2 m2 c2, b2)]) :: ownB ([(n, (.slice A m c : Value), b), (n2, (.slice A2 m2 c2 : Value), b2)].map (·.2)) :: F) := by
  have H1 : Sat w (ownB ([] ++ [((.slice A m c : Value), b)]) :: own 5 1 (.slice A2 m2 c2) m2 (bytes b2) :: F) := Sat.ownB_snoc (by rw [hb]; exact Sat.b1 (Sat.ownB_nil H.b1))
  have H2 : Sat w (ownB (([] ++ [((.slice A m c : Value), b)]) ++ [((.slice A2 m2 c2 : Value), b2)]) :: F) := Sat.ownB_snoc (by rw [hb2]; exact H1.b1)
  exact H2.own_lit 98 2 #[.int .i64 n, .slice A m c, .int .i64 n2, .slice A2 m2 c2] 2 (by simp [maxLen]) rfl
theorem shs_two {n n2 c c2 : Nat} {x x2 : Int} {A A2 : Option Addr} (hn : n < 512) (hn2 : n2 < 512) (hne : n ≠ n2) : Shs [((n : Int), .slice A 1024 c, pageL x), ((n2 : Int), .slice A2 1024 c2, pageL x2)] := by
  refine ⟨fun q hq => ?_, ?_, by show 2 ≤ 256; omega⟩
  · rcases List.mem_cons.1 hq with rfl | hq
    · exact ⟨by dsimp only; omega, by dsimp only; omega, by dsimp only; exact pageL_len x, by dsimp only; exact pageL_in x⟩
    · rw [List.mem_singleton.1 hq]
      exact ⟨by dsimp only; omega, by dsimp only; omega, by dsimp only; exact pageL_len x2, by dsimp only; exact pageL_in x2⟩
  · simp only [List.map_cons, List.map_nil, Int.toNat_natCast]
    exact List.nodup_cons.2 ⟨by simpa using hne, by simp⟩
theorem str_eq {X Y : List Int} (hX : InB X) (hY : InB Y) : ((strOfNums X).toList == (strOfNums Y).toList) = decide (X = Y) := by
  by_cases h : X = Y
  · subst h; simp
  · rw [decide_eq_false h]
    exact beq_eq_false_iff_ne.2 fun e => h (strOfNums_inj hX hY e)
end Go.Proofs.Ythbabdjicplooaa
