/- Chapter 3's runs (known) and its helper first. Conditions: none. -/
import Derived.Test.YthbabdjicplooaaSplitBG
import Derived.Laws.StructEq
import Derived.Laws.BytesArg
namespace Go.Proofs.Ythbabdjicplooaa
open Go.RowKit Go.WideShapes

theorem eqTri (a b c a' b' c' : Int) (w : World) : (binOp .eql 53 (.agg #[.int .u8 a, .int .u8 b, .int .u8 c]) (.agg #[.int .u8 a', .int .u8 b', .int .u8 c'])).run Try.prog w = .ok (.bool (a == a' && b == b' && c == c')) w := by
  have u3 := Try.underlying5
  have a3 := Try.isAgg5
  have z3 := Try.sizeOf5
  have hS := Try.underlying53
  rw [run_eql_struct, show (10000 : Nat) = 9999 + 1 from rfl]
  unfold Op.equalIn
  go_simp
  rw [show List.range' 0 3 = [0, 1, 2] from rfl]
  simp only [List.forIn_cons, List.forIn_nil]
  by_cases h1 : a = a' <;> by_cases h2 : b = b' <;> by_cases h3 : c = c' <;> go_simp
theorem neTri (a b c a' b' c' : Int) (w : World) : (binOp .neq 53 (.agg #[.int .u8 a, .int .u8 b, .int .u8 c]) (.agg #[.int .u8 a', .int .u8 b', .int .u8 c'])).run Try.prog w = .ok (.bool (!(a == a' && b == b' && c == c'))) w := by
  have u3 := Try.underlying5
  have a3 := Try.isAgg5
  have z3 := Try.sizeOf5
  have hS := Try.underlying53
  rw [run_neq_struct, show (10000 : Nat) = 9999 + 1 from rfl]
  unfold Op.equalIn
  go_simp
  rw [show List.range' 0 3 = [0, 1, 2] from rfl]
  simp only [List.forIn_cons, List.forIn_nil]
  by_cases h1 : a = a' <;> by_cases h2 : b = b' <;> by_cases h3 : c = c' <;> go_simp
set_option maxHeartbeats 1000000 in
set_option maxRecDepth 100000 in
theorem first_any {w : World} {d : Nat} {D : Dsk} {F : List HP} (n : Nat) (H : Sat w (disk d D :: F)) (hn : n < D.safe.length) :
    Calls Try.prog 36 #[.pointer (some ⟨d, 0, none⟩), .int .i64 n] w fun e w' => e = .returned (.agg #[.int .u8 ((D.rd n).getD 0 0), .int .u8 ((D.rd n).getD 1 0), .int .u8 ((D.rd n).getD 2 0)]) ∧ Sat w' (disk d D :: F) ∧ Env w w' := by
  go_enter Try.func36, Try.ntmps36
  go_upto_region 1 with fail
  have H1 := H.alloc (.cells #[.int .u8 0, .int .u8 0, .int .u8 0] 53)
  have E1 := (Env.refl w).alloc (.cells #[.int .u8 0, .int .u8 0, .int .u8 0] 53)
  generalize w.alloc (.cells #[.int .u8 0, .int .u8 0, .int .u8 0] 53) = wa at *
  generalize w.heap.size = T at *
  go_wp2_with fail
  refine (dread n H1.b1 hn).mono ?_
  rintro e w2 ⟨v, rfl, H2, E2⟩
  have hlen : (D.rd n).length = 128 := by have := H2.owns.1; simpa [bytes] using this
  obtain ⟨g, c, rfl, hc⟩ := H2.own_addr (by omega)
  have c0 := H2.own_cell 0 (.int .u8 ((D.rd n).getD 0 0)) (by simp [bytes, hlen])
  have c1 := H2.own_cell 1 (.int .u8 ((D.rd n).getD 1 0)) (by simp [bytes, hlen])
  have c2 := H2.own_cell 2 (.int .u8 ((D.rd n).getD 2 0)) (by simp [bytes, hlen])
  have t0 := H2.b2.cell 0
  have t1 := H2.b2.cell 1
  have t2 := H2.b2.cell 2
  have f0 := H2.b2.free 0
  have f1 := H2.b2.free 1
  have f2 := H2.b2.free 2
  clear hlen
  obtain ⟨x0, hx0⟩ : ∃ x, (D.rd n).getD 0 0 = x := ⟨_, rfl⟩
  rw [hx0] at c0
  have HX0 := Lib.hid hx0
  clear hx0
  obtain ⟨x1, hx1⟩ : ∃ x, (D.rd n).getD 1 0 = x := ⟨_, rfl⟩
  rw [hx1] at c1
  have HX1 := Lib.hid hx1
  clear hx1
  obtain ⟨x2, hx2⟩ : ∃ x, (D.rd n).getD 2 0 = x := ⟨_, rfl⟩
  rw [hx2] at c2
  have HX2 := Lib.hid hx2
  clear hx2
  go_upto_region 4 with fail
  go_region
  have H3 := ((((H2.b2.set (i := 0) (.int .u8 x0)).set (i := 1) (.int .u8 x1)).set (i := 2) (.int .u8 x2))).drew
  have E3 := ((((E1.trans E2).set ⟨T, 0, none⟩ (.int .u8 x0)).set ⟨T, 1, none⟩ (.int .u8 x1)).set ⟨T, 2, none⟩ (.int .u8 x2)).drew
  generalize (((w2.setCell ⟨T, 0, none⟩ (.int .u8 x0)).setCell ⟨T, 1, none⟩ (.int .u8 x1)).setCell ⟨T, 2, none⟩ (.int .u8 x2)).drew = w3 at *
  go_wp2_with fail
  refine bodyPost_ret (results_cell_row (P := Try.prog) rfl _ w3 T 53 #[.int .u8 x0, .int .u8 x1, .int .u8 x2] (0, 0) _ rfl (by have := H3.get; simpa using this) Try.underlying53 rfl (by kernel_rfl)) rfl ⟨by rw [HX0.out, HX1.out, HX2.out], H3.tail.tail, E3⟩

def knownD : Dsk := (newD 2).write 0 (sectorL 1 128)
def knownC : Dsk := knownD.crash [] 0 2
theorem known_facts : (knownD.rd 0).getD 0 0 = 1 ∧ (knownD.rd 0).getD 1 0 = 2 ∧ (knownD.rd 0).getD 2 0 = 3 ∧ (knownC.rd 0).getD 0 0 = 1 ∧ (knownC.rd 0).getD 1 0 = 2 ∧ (knownC.rd 0).getD 2 0 = 0 := by
  refine ⟨?_, ?_, ?_, ?_, ?_, ?_⟩ <;> kernel_rfl

set_option maxHeartbeats 2000000 in
set_option maxRecDepth 100000 in
theorem known3 {w : World} {F : List HP} (H : Sat w F) :
    Calls Try.prog 28 #[] w fun e w' => e = .returned (.bool true) ∧ Sat w' F ∧ Env w w' := by
  have heq := eqTri
  have hne := neTri
  have HK := Lib.hid known_facts
  go_enter Try.func28, Try.ntmps28
  go_wp2_with fail
  refine (begun_any 2 H (by omega) (by omega)).mono ?_
  rintro e w1 ⟨d, rfl, H1, E1⟩
  go_wp2_with fail
  refine (sector_any 1 128 H1 (by omega) (by omega)).mono ?_
  rintro e w2 ⟨v2, rfl, H2, E2⟩
  obtain ⟨A2, c2, rfl, -, -, -⟩ := H2.own_form
  go_wp2_with fail
  refine (dwrite 0 A2 c2 (sectorL 1 128) H2.b1 (fun w H => H.own_at.1) (by decide) (by decide) (by decide)).mono ?_
  rintro e w3 ⟨rfl, H3, E3⟩
  go_wp2_with fail
  refine (first_any 0 (D := knownD) H3 (by decide)).mono ?_
  rintro e w4 ⟨rfl, H4, E4⟩
  rw [HK.out.1, HK.out.2.1, HK.out.2.2.1]
  go_wp2_with fail
  refine (dpending H4).mono ?_
  rintro e w5 ⟨rfl, rfl⟩
  rw [show knownD.pend.length = 1 from rfl]
  go_wp2_with fail
  refine (dcrash none 0 0 [] 0 2 H4 (fun w _ => Rd.nil _ _ _) (by decide)).mono ?_
  rintro e w6 ⟨rfl, H6, E6⟩
  go_wp2_with fail
  refine (first_any 0 (D := knownC) H6 (by decide)).mono ?_
  rintro e w7 ⟨rfl, H7, E7⟩
  rw [HK.out.2.2.2.1, HK.out.2.2.2.2.1, HK.out.2.2.2.2.2]
  go_wp2_with fail
  refine (dpending H7).mono ?_
  rintro e w8 ⟨rfl, rfl⟩
  rw [show knownC.pend.length = 0 from rfl]
  go_wp2_with fail
  go_ret
  exact ⟨rfl, H7.tail.tail, (((((E1.trans E2).trans E3).trans E4).trans E6).trans E7)⟩
end Go.Proofs.Ythbabdjicplooaa

/- DiskOrder's plain law: of writes of one sector the last one that is kept is there. Conditions: none. -/
namespace Go.Proofs.Ythbabdjicplooaa
open Go.RowKit

/-- One sector, k writes of it pending. -/
def ordD (fs : List Int) (k : Nat) : Dsk := ⟨[noughts], (fs.take k).map (fun f => (0, sectorL f 128)), none⟩
theorem ordD_write (fs : List Int) (k : Nat) (h : k < fs.length) : (ordD fs k).write 0 (sectorL fs[k] 128) = ordD fs (k + 1) := by
  unfold ordD Dsk.write
  rw [List.take_succ_eq_append_getElem h, List.map_append]
  rfl
/-- The last write that is kept. -/
def lastK (fs : List Int) (keep : List Bool) : Nat → Option Int
  | 0 => none
  | k + 1 => if keep.getD k false then some (fs.getD k 0) else lastK fs keep k
theorem lastK_mem {fs : List Int} {keep : List Bool} (hb : ∀ x ∈ fs, 0 ≤ x ∧ x ≤ 255) : ∀ k, k ≤ fs.length → ∀ f, lastK fs keep k = some f → 0 ≤ f ∧ f ≤ 255
  | 0, _, f, h => by cases h
  | k + 1, hk, f, h => by
    rw [lastK] at h
    split at h
    · cases h
      refine hb _ ?_
      rw [List.getD_eq_getElem?_getD, List.getElem?_eq_getElem (show k < fs.length by omega)]
      exact List.getElem_mem _
    · exact lastK_mem hb k (by omega) f h
def keptL : Option Int → List Int
  | none => noughts
  | some f => sectorL f 128
theorem crash_ord (fs : List Int) (keep : List Bool) (nt K : Nat) (hK : K ≤ fs.length) : ∀ k, k ≤ K → crashS keep (-1) nt [noughts] ((fs.take K).map (fun f => (0, sectorL f 128))) k = [keptL (lastK fs keep k)]
  | 0, _ => rfl
  | k + 1, h => by
    have ih := crash_ord fs keep nt K hK k (by omega)
    have hg : ((fs.take K).map (fun f => (0, sectorL f 128)))[k]? = some (0, sectorL (fs.getD k 0) 128) := by
      have : k < fs.length := by omega
      simp [show k < K by omega, this]
    simp only [crashS, hg, ih, lastK]
    by_cases hk : keep.getD k false = true
    · simp only [hk, if_true]; rfl
    · simp only [hk, Bool.false_eq_true, if_false, show ¬ ((k : Int) = -1) by omega]
theorem crash_rd (fs : List Int) (keep : List Bool) (K : Nat) (hK : K ≤ fs.length) : ((ordD fs K).crash keep (-1) 0).rd 0 = keptL (lastK fs keep K) ∧ ((ordD fs K).crash keep (-1) 0).safe.length = 1 := by
  have h := crash_ord fs keep (min 0 128 : Int).toNat K hK K (Nat.le_refl _)
  have hl : ((fs.take K).map (fun f => ((0 : Nat), sectorL f 128))).length = K := by simp; omega
  constructor
  · simp only [Dsk.rd, Dsk.crash, ordD, hl, lastP, Option.getD_none]
    rw [h]; rfl
  · simp only [Dsk.crash, ordD, hl]
    rw [h]; rfl
theorem sets_ord (fs : List Int) (K : Nat) (hK : K ≤ fs.length) : sets [noughts] ((fs.take K).map (fun f => ((0 : Nat), sectorL f 128))) = [if K = 0 then noughts else sectorL (fs.getD (K - 1) 0) 128] := by
  cases K with
  | zero => rfl
  | succ K =>
    have hk : K < fs.length := by omega
    rw [List.take_succ_eq_append_getElem hk, List.map_append, List.map_cons, List.map_nil, sets_snoc]
    have : (sets [noughts] ((fs.take K).map (fun f => ((0 : Nat), sectorL f 128)))).length = 1 := by rw [sets_len]; rfl
    obtain ⟨x, hx⟩ := List.length_eq_one_iff.1 this
    rw [hx]
    simp [hk]
def ordE (fs : List Int) (K : Nat) : Dsk := (ordD fs K).flush
theorem flush_rd (fs : List Int) (K : Nat) (hK : K ≤ fs.length) : ((ordE fs K).crash [] (-1) 0).rd 0 = (if K = 0 then noughts else sectorL (fs.getD (K - 1) 0) 128) ∧ ((ordE fs K).crash [] (-1) 0).safe.length = 1 := by
  have h := sets_ord fs K hK
  constructor
  · simp only [Dsk.rd, Dsk.crash, ordE, Dsk.flush, ordD, lastP, Option.getD_none, List.length_nil, crashS, h]; rfl
  · simp only [Dsk.crash, ordE, Dsk.flush, ordD, List.length_nil, crashS, h]; rfl

/-- A byte slice that can be read, as a text. -/
theorem conv_rd {w : World} {A : Option Addr} {n c : Nat} {xs : List Int} (h : Rd w 1 A n (bytes xs)) (hn : 0 < n) : (convert 30 9 (.slice A n c)).run Try.prog w = .ok (.string (strOfNums xs)) w := by
  have hl : xs.length = n := by have := h.1; simpa [bytes] using this
  obtain ⟨b, off, rfl, _⟩ := h.2 0 (.int .u8 (xs.getD 0 0)) (by simp [bytes, show 0 < xs.length by omega])
  refine run_convert_bytes_arg (P := Try.prog) w 30 5 Try.underlying30 Try.underlying5 b off n c xs hl (fun i hi => ?_) 9 Try.underlying9
  obtain ⟨b', off', h1, h2⟩ := h.2 i (.int .u8 (xs.getD i 0)) (by simp [bytes, show i < xs.length by omega])
  cases h1
  exact h2
end Go.Proofs.Ythbabdjicplooaa
