/- What a law's row asks behind the call: the result is true, old memory is as it was, the arguments read as they did. Conditions: none. -/
import Derived.Test.YthbabdjicplooaaCore
import Derived.Test.YthbabdjicplooaaRows
import Derived.ProofKit
import Derived.OpenShut
import Derived.Test.YthbabdjicplooaaProg
import Derived.Deep.Strs
import Derived.MapKept
import Derived.ChangeMaps5
namespace Go.Proofs.Ythbabdjicplooaa
open Go.ChangeShapes Go.WideShapes Go.ChangeAt Go.RowKit

theorem law_own : ownKnob Try.prog.godebug = none := by kernel_rfl
theorem law_laid : laidOutB Try.prog = true := by kernel_rfl

theorem trodAll_below {H : Type} {enc : TypeId × Value → H} {P : Program} (hl : laidOutB P = true) {W W' : World} (hb : Below W.heap.size W W') :
    ∀ {ts : List TypeId} {vs : List Value} {ds : List (DataW H)} {ps : List MemPlace}, (∀ t ∈ ts, P.readableRec t = true ∧ t < P.types.size) →
      DataW.TrodAll enc P W 0 (fun _ => true) true ts vs ds ps → (∀ x ∈ ps, x.block < W.heap.size) → DataW.TrodAll enc P W' 0 (fun b => decide (b < W.heap.size)) true ts vs ds ps
  | [], _, _, _, _, h, _ => by
    obtain ⟨rfl, rfl, rfl⟩ := trodAll_nil h
    exact trodAll_mk0
  | t :: ts, _, _, _, ht, h, hlt => by
    obtain ⟨v, vs', d, ds', p, q, rfl, rfl, rfl, h1, h2⟩ := trodAll_cons h
    refine trodAll_cons_mk (Below.trod hl (ht t (by simp)).1 (ht t (by simp)).2 h1 hb fun x hx => hlt x (by simp [hx])) (trodAll_below hl hb (fun t' ht' => ht t' (by simp [ht'])) h2 fun x hx => hlt x (by simp [hx]))

theorem law_post {H : Type} {enc : TypeId × Value → H} {f : Func} {s : ChangeSpec} {W W' : World} {args : Array Value} {ds : List (DataW H)} {p : List MemPlace}
    (hv : s.vars = []) (hr : f.resultTypes = #[4]) (hp : f.params.toList.all (fun t => Try.prog.readableRec t && decide (t < Try.prog.types.size)) = true)
    (hW : DataW.Whole enc Try.prog f.params.toList s.vars false W args.toList ds [] p)
    (hfn : s.fn H (ds ++ []) = { results := [.lit (.bool true)], args := ds })
    (hb : Below W.heap.size W W') : s.post enc Try.prog f false true false false W args (.bool true) W' := by
  have hlt := hW.lt
  obtain ⟨p', q, hA, hV, rfl, _, _⟩ := hW
  rw [hv] at hV
  obtain ⟨_, rfl⟩ := trodVars_none hV
  have hW2 : DataW.Whole enc Try.prog f.params.toList s.vars false W args.toList ds [] (p' ++ []) := ⟨p', [], hA, by rw [hv]; rfl, rfl, ‹_›, fun h => by cases h⟩
  refine ⟨ds, [], p' ++ [], [], p', [], hW2, ?_, ?_, ?_, hb.frame _, fun h => by cases h⟩
  · rw [hfn, hr]
    exact trodAll_mk1 (shut_bool Try.underlying4 _)
  · rw [hfn]
    refine trodAll_below law_laid hb (fun t ht => ?_) hA fun x hx => hlt x (by simp [hx])
    have := List.all_eq_true.1 hp t ht
    simpa using this
  · rw [hv, hfn]; rfl
end Go.Proofs.Ythbabdjicplooaa

/- A law's arguments opened: a slice of whatever element type as a list of its elements' cells. Conditions: none. -/
namespace Go.Proofs.Ythbabdjicplooaa
open Go.ChangeShapes Go.WideShapes Go.ChangeAt Go.RowKit

theorem flat_get {α : Type} {k : Nat} (hk : 0 < k) : ∀ (C : List (List α)), (∀ c ∈ C, c.length = k) → ∀ j, C.flatten[j]? = (C[j / k]?).bind fun c => c[j % k]?
  | [], _, j => by simp
  | c :: C, h, j => by
    have hc : c.length = k := h c (by simp)
    rw [List.flatten_cons, List.getElem?_append]
    by_cases hj : j < k
    · rw [if_pos (by omega), Nat.div_eq_of_lt hj, Nat.mod_eq_of_lt hj]; rfl
    · rw [if_neg (by omega), flat_get hk C (fun c' h' => h c' (by simp [h'])), hc]
      obtain ⟨m, rfl⟩ : ∃ m, j = m + k := ⟨j - k, by omega⟩
      rw [Nat.add_sub_cancel, Nat.add_div_right m hk, Nat.add_mod_right]
      rfl

theorem add_add' (a : Addr) (m n : Nat) : (a.add m).add n = a.add (m + n) := by
  unfold Addr.add
  rcases Nat.eq_zero_or_pos m with rfl | hm
  · rcases Nat.eq_zero_or_pos n with rfl | hn <;> simp
  · rcases Nat.eq_zero_or_pos n with rfl | hn
    · simp
    · simp [Nat.ne_of_gt hm, Nat.ne_of_gt hn, Nat.add_assoc]

theorem open_rd {H : Type} {enc : TypeId × Value → H} {P : Program} {w : World} {base : Nat} {spare : Nat → Bool} {held : Bool} {t e : TypeId} {k : Nat} (ht : P.underlying t = some (.slice e)) (hk : P.cellsOf e = k) (hk0 : 0 < k)
    {v : Value} {d : DataW H} {p : List MemPlace} (hv : ∃ A len cap, v = .slice A len cap) (h : DataW.Trod enc P w base spare held t v d p) :
    ∃ A len cap, ∃ C : List (List Value), v = .slice A len cap ∧ len ≤ cap ∧ cap ≤ maxLen ∧ C.length = len ∧ Rd w k A len C.flatten ∧
      (∀ c ∈ C, c.length = k ∧ ∃ fuel x, DataW.trod enc P w base spare held fuel e c = some x) ∧ (len = 0 ∨ ∃ el sp, d = .slice el sp ∧ el.length = len) := by
  obtain ⟨A, len, cap, rfl⟩ := hv
  obtain ⟨fuel, hf⟩ := h
  rcases DataW.trod_slice ht hf with ⟨hcs, _⟩ | ⟨a, len', cap', elems, rest, n, _, hcs, hdx, hb, hl, hm, hlen, hel, _, _⟩
  · simp [Value.cells] at hcs
    obtain ⟨rfl, rfl, rfl⟩ := hcs
    exact ⟨none, 0, 0, [], rfl, Nat.le_refl _, by simp [maxLen], rfl, Rd.nil _ _ _, by simp, .inl rfl⟩
  · simp [Value.cells] at hcs
    obtain ⟨rfl, rfl, rfl⟩ := hcs
    rw [hk] at hel
    have each : ∀ i, i < len → ∃ cs x, w.cells? base (a.add (i * k)) k = some cs ∧ DataW.trod enc P w base spare held n e cs = some x := by
      intro i hi
      have := hel i hi
      rw [List.getElem?_eq_getElem (by omega)] at this
      obtain ⟨cs, h1, h2⟩ := Option.bind_eq_some_iff.1 this
      exact ⟨cs, _, h1, h2⟩
    let C : List (List Value) := (List.range len).map fun i => (w.cells? base (a.add (i * k)) k).getD []
    have hC : ∀ c ∈ C, c.length = k ∧ ∃ fuel x, DataW.trod enc P w base spare held fuel e c = some x := by
      intro c hc
      obtain ⟨i, hi, rfl⟩ := List.mem_map.1 hc
      obtain ⟨cs, x, h1, h2⟩ := each i (List.mem_range.1 hi)
      rw [h1]
      exact ⟨(World.cells?_some h1).2.1, n, x, h2⟩
    have hCl : C.length = len := by simp [C]
    refine ⟨some a, len, cap, C, rfl, hl, hm, hCl, ⟨?_, ?_⟩, hC, .inr ⟨_, _, (Prod.mk.inj hdx).1, by rw [List.length_map]; exact hlen⟩⟩
    · have : ∀ L : List (List Value), (∀ c ∈ L, c.length = k) → L.flatten.length = L.length * k := by
        intro L
        induction L with
        | nil => simp
        | cons c L ih => intro hL; rw [List.flatten_cons, List.length_append, ih (fun c' h' => hL c' (by simp [h'])), hL c (by simp), List.length_cons, Nat.add_mul]; omega
      rw [this C (fun c hc => (hC c hc).1), hCl]
    · intro j u hu
      rw [flat_get hk0 C (fun c hc => (hC c hc).1)] at hu
      obtain ⟨c, hc, hcu⟩ := Option.bind_eq_some_iff.1 hu
      have hi : j / k < len := by rw [← hCl]; exact (List.getElem?_eq_some_iff.1 hc).1
      obtain ⟨cs, x, h1, _⟩ := each (j / k) hi
      have hcc : c = cs := by
        have : C[j / k]? = some cs := by simp [C, List.getElem?_map, List.getElem?_range hi, h1]
        rw [this] at hc; injection hc with hc; exact hc.symm
      subst hcc
      have hcell := (World.cells?_some h1).2.2 (j % k) (Nat.mod_lt _ hk0)
      rw [hcu, add_add', Nat.mul_comm, Nat.div_add_mod] at hcell
      obtain ⟨cs0, x0, g1, _⟩ := each 0 (Nat.lt_of_le_of_lt (Nat.zero_le _) hi)
      have g2 := (World.cells?_some g1).2.2 0 hk0
      have hsp : a.spot = none := by
        rw [Nat.zero_mul, Addr.add_zero', Addr.add_zero'] at g2
        have hlen0 := (World.cells?_some g1).2.1
        rw [List.getElem?_eq_getElem (by omega)] at g2
        unfold World.cell? at g2
        split at g2
        · split at g2
          · cases g2
          · rename_i hs; simpa using hs
        · cases g2
      obtain ⟨b, off, spot⟩ := a
      dsimp only at hsp
      subst hsp
      exact ⟨b, off, rfl, by rw [← hcell, Addr.add_lit]⟩

/-- A slice of numbers that came in. -/
theorem open_ints_rd {H : Type} {enc : TypeId × Value → H} {P : Program} {w : World} {base : Nat} {spare : Nat → Bool} {held : Bool} {t e : TypeId} (ht : P.underlying t = some (.slice e)) (he : P.underlying e = some (.int .i64)) (hk : P.cellsOf e = 1)
    {v : Value} {d : DataW H} {p : List MemPlace} (hv : ∃ A len cap, v = .slice A len cap) (h : DataW.Trod enc P w base spare held t v d p) :
    ∃ A len cap, ∃ l : List Int, v = .slice A len cap ∧ len ≤ cap ∧ cap ≤ maxLen ∧ l.length = len ∧ Rd w 1 A len (l.map (Value.int .i64)) ∧
      (∀ x ∈ l, -9223372036854775808 ≤ x ∧ x ≤ 9223372036854775807) ∧ (len = 0 ∨ ∃ el sp, d = .slice el sp ∧ el.length = len) := by
  obtain ⟨A, len, cap, C, rfl, h1, h2, h3, h4, h5, h6⟩ := open_rd ht hk (by omega) hv h
  have : ∃ l : List Int, C.flatten = l.map (Value.int .i64) ∧ l.length = C.length ∧ ∀ x ∈ l, -9223372036854775808 ≤ x ∧ x ≤ 9223372036854775807 := by
    clear h3 h4
    induction C with
    | nil => exact ⟨[], rfl, rfl, by simp⟩
    | cons c C ih =>
      obtain ⟨l, g1, g2, g3⟩ := ih (fun c hc => h5 c (by simp [hc]))
      obtain ⟨_, fuel, x, hx⟩ := h5 c (by simp)
      obtain ⟨n, rfl, _, hw⟩ := DataW.trod_int he hx
      refine ⟨n :: l, by simp [g1], by simp [g2], ?_⟩
      intro y hy
      rcases List.mem_cons.1 hy with rfl | hy
      · simp [Lit.wf, IntKind.min, IntKind.max, IntKind.signed, IntKind.bits] at hw; omega
      · exact g3 y hy
  obtain ⟨l, g1, g2, g3⟩ := this
  exact ⟨A, len, cap, l, rfl, h1, h2, g2.trans h3, by rw [← g1]; exact h4, g3, h6⟩

/-- What is read of old memory is read in every world that keeps it. -/
theorem reads_old {W : World} {k : Nat} {A : Option Addr} {n : Nat} {xs : List Value} (h : Rd W k A n xs) : ∀ w, Sat w [old W] → Rd w k A n xs := fun w H =>
  ⟨h.1, fun j u hu => by
    obtain ⟨b, off, hA, hc⟩ := h.2 j u hu
    refine ⟨b, off, hA, ?_⟩
    rw [World.cell?_of_block (w := W) (w' := w) (H.old_at b (block_lt_of_cell hc))]; exact hc⟩
end Go.Proofs.Ythbabdjicplooaa

/- A law's arguments opened: slices of bytes and of booleans. Conditions: none. -/
namespace Go.Proofs.Ythbabdjicplooaa
open Go.ChangeShapes Go.WideShapes Go.ChangeAt Go.RowKit

theorem open_bytes_rd {H : Type} {enc : TypeId × Value → H} {P : Program} {w : World} {base : Nat} {spare : Nat → Bool} {held : Bool} {t e : TypeId} (ht : P.underlying t = some (.slice e)) (he : P.underlying e = some (.int .u8)) (hk : P.cellsOf e = 1)
    {v : Value} {d : DataW H} {p : List MemPlace} (hv : ∃ A len cap, v = .slice A len cap) (h : DataW.Trod enc P w base spare held t v d p) :
    ∃ A len cap, ∃ l : List Int, v = .slice A len cap ∧ len ≤ cap ∧ cap ≤ maxLen ∧ l.length = len ∧ Rd w 1 A len (l.map (Value.int .u8)) ∧ (∀ x ∈ l, 0 ≤ x ∧ x ≤ 255) := by
  obtain ⟨A, len, cap, C, rfl, h1, h2, h3, h4, h5, _⟩ := open_rd ht hk (by omega) hv h
  have : ∃ l : List Int, C.flatten = l.map (Value.int .u8) ∧ l.length = C.length ∧ ∀ x ∈ l, 0 ≤ x ∧ x ≤ 255 := by
    clear h3 h4
    induction C with
    | nil => exact ⟨[], rfl, rfl, by simp⟩
    | cons c C ih =>
      obtain ⟨l, g1, g2, g3⟩ := ih (fun c hc => h5 c (by simp [hc]))
      obtain ⟨_, fuel, x, hx⟩ := h5 c (by simp)
      obtain ⟨n, rfl, _, hw⟩ := DataW.trod_int he hx
      refine ⟨n :: l, by simp [g1], by simp [g2], ?_⟩
      intro y hy
      rcases List.mem_cons.1 hy with rfl | hy
      · simp [Lit.wf, IntKind.min, IntKind.max, IntKind.signed, IntKind.bits] at hw; omega
      · exact g3 y hy
  obtain ⟨l, g1, g2, g3⟩ := this
  exact ⟨A, len, cap, l, rfl, h1, h2, g2.trans h3, by rw [← g1]; exact h4, g3⟩

theorem open_bools_rd {H : Type} {enc : TypeId × Value → H} {P : Program} {w : World} {base : Nat} {spare : Nat → Bool} {held : Bool} {t e : TypeId} (ht : P.underlying t = some (.slice e)) (he : P.underlying e = some .bool) (hk : P.cellsOf e = 1)
    {v : Value} {d : DataW H} {p : List MemPlace} (hv : ∃ A len cap, v = .slice A len cap) (h : DataW.Trod enc P w base spare held t v d p) :
    ∃ A len cap, ∃ l : List Bool, v = .slice A len cap ∧ len ≤ cap ∧ cap ≤ maxLen ∧ l.length = len ∧ Rd w 1 A len (l.map Value.bool) := by
  obtain ⟨A, len, cap, C, rfl, h1, h2, h3, h4, h5, _⟩ := open_rd ht hk (by omega) hv h
  have : ∃ l : List Bool, C.flatten = l.map Value.bool ∧ l.length = C.length := by
    clear h3 h4
    induction C with
    | nil => exact ⟨[], rfl, rfl⟩
    | cons c C ih =>
      obtain ⟨l, g1, g2⟩ := ih (fun c hc => h5 c (by simp [hc]))
      obtain ⟨_, fuel, x, hx⟩ := h5 c (by simp)
      obtain ⟨b, rfl, _⟩ := DataW.trod_bool he hx
      exact ⟨b :: l, by simp [g1], by simp [g2]⟩
  obtain ⟨l, g1, g2⟩ := this
  exact ⟨A, len, cap, l, rfl, h1, h2, g2.trans h3, by rw [← g1]; exact h4⟩
end Go.Proofs.Ythbabdjicplooaa

/- A law's argument opened: a cut. Conditions: none. -/
namespace Go.Proofs.Ythbabdjicplooaa
open Go.ChangeShapes Go.WideShapes Go.ChangeAt Go.RowKit

set_option maxRecDepth 100000 in
/-- A cut that came in. -/
theorem open_cut {H : Type} {enc : TypeId × Value → H} {w W : World} {r : Reach} {base b0 : Nat} {spare : Nat → Bool} {held : Bool} {v : Value} {d : DataW H} {p : List MemPlace}
    (hv : Value.okWide Try.prog W r b0 24 v) (h : DataW.Trod enc Try.prog w base spare held 24 v d p) :
    ∃ A len cap, ∃ l : List Bool, ∃ torn nb : Int, v = .agg #[.slice A len cap, .int .i64 torn, .int .i64 nb] ∧ l.length = len ∧ Rd w 1 A len (l.map Value.bool) := by
  obtain ⟨cs, rfl, hsz⟩ := okWide_struct Try.underlying24 hv
  obtain ⟨fuel, hf⟩ := h
  obtain ⟨y0, y1, y2, n, -, hl, h0, h1, h2⟩ := Go.Deep.trod_struct3 Try.underlying24 hf
  rw [show Try.prog.cellsOf 24 = 3 from by kernel_rfl] at hsz
  obtain ⟨cs⟩ := cs
  match cs, hsz with
  | [c0, c1, c2], _ =>
    rw [show Try.prog.cellsOf 22 = 1 from by kernel_rfl] at h0
    rw [show Try.prog.cellsOf 3 = 1 from by kernel_rfl] at h1 h2
    obtain ⟨torn, e1, -, -⟩ := DataW.trod_int Try.underlying3 h1
    obtain ⟨nb, e2, -, -⟩ := DataW.trod_int Try.underlying3 h2
    simp [Value.cells] at e1 e2 h0
    subst e1; subst e2
    have hs : ∃ A len cap, c0 = .slice A len cap := by
      rcases DataW.trod_slice Try.underlying22 h0 with ⟨hcs, _⟩ | ⟨a, len', cap', elems, rest, m, _, hcs, _⟩
      · simp at hcs; exact ⟨_, _, _, hcs⟩
      · simp at hcs; exact ⟨_, _, _, hcs⟩
    obtain ⟨A, len, cap, rfl⟩ := hs
    obtain ⟨A', len', cap', l, he, -, -, hll, hrd⟩ := open_bools_rd Try.underlying22 Try.underlying4 (by kernel_rfl) (v := .slice A len cap) ⟨A, len, cap, rfl⟩ ⟨n, by simpa [Value.cells] using h0⟩
    cases he
    exact ⟨A, len, cap, l, torn, nb, rfl, hll, hrd⟩
end Go.Proofs.Ythbabdjicplooaa

/- Maps with integer keys, as chunks: lookup, update and clear over a list of pairs. Conditions: none. -/
namespace Go.Proofs.Ythbabdjicplooaa
open Go.RowKit

/-- A map's block: its entries, in some order, none twice looked for. -/
def imap (b : Nat) (m : List (Int × Value)) : HP := ⟨fun h S => S b ∧ ∃ es clock, h b = some (.map es clock) ∧ es.toList.map (fun e => (e.key, e.val)) = m.map (fun p => (Value.int .i64 p.1, p.2)),
  fun hS ⟨h1, es, clock, h2, h3⟩ => ⟨h1, es, clock, (hS _ h1).trans h2, h3⟩⟩
def mget : List (Int × Value) → Int → Option Value
  | [], _ => none
  | p :: m, a => if p.1 = a then some p.2 else mget m a
def mput : List (Int × Value) → Int → Value → List (Int × Value)
  | [], a, v => [(a, v)]
  | p :: m, a, v => if p.1 = a then (p.1, v) :: m else p :: mput m a v
theorem mget_mput (m : List (Int × Value)) (a : Int) (v : Value) (k : Int) : mget (mput m a v) k = if a = k then some v else mget m k := by
  induction m with
  | nil => simp [mput, mget]
  | cons p m ih =>
    simp only [mput]
    by_cases h : p.1 = a
    · simp only [h, if_true, mget]
      by_cases h2 : a = k <;> simp [h2]
    · simp only [h, if_false, mget, ih]
      by_cases h2 : p.1 = k
      · have : ¬ a = k := fun e => h (h2.trans e.symm)
        simp [h2, this]
      · simp [h2]

theorem modify_same {α : Type} {g g' : α → α} {e : α} : ∀ (l : List α) (j : Nat), l[j]? = some e → g e = g' e → l.modify j g = l.modify j g'
  | [], _, h, _ => by simp at h
  | x :: l, 0, h, hg => by simp at h; subst h; simp [List.modify, hg]
  | x :: l, j + 1, h, hg => by simp only [List.modify_succ_cons]; rw [modify_same l j (by simpa using h) hg]
theorem find_im (a : Int) (v : Value) : ∀ (es : List MapEntry) (m : List (Int × Value)) (i : Nat), es.map (fun e => (e.key, e.val)) = m.map (fun p => (Value.int .i64 p.1, p.2)) →
    (Instr.findNow (.int .i64) (.int .i64 a) es i = some none ∧ mget m a = none ∧ mput m a v = m ++ [(a, v)]) ∨
    ∃ j e, Instr.findNow (.int .i64) (.int .i64 a) es i = some (some (i + j, e.val)) ∧ es[j]? = some e ∧ e.key = .int .i64 a ∧ mget m a = some e.val ∧ (es.modify j fun e => { e with val := v }).map (fun e => (e.key, e.val)) = (mput m a v).map (fun p => (Value.int .i64 p.1, p.2))
  | [], m, i, h => by
    cases m with
    | nil => left; simp [Instr.findNow, mget, mput]
    | cons p m => simp at h
  | e :: es, m, i, h => by
    cases m with
    | nil => simp at h
    | cons p m =>
      simp only [List.map_cons, List.cons.injEq, Prod.mk.injEq] at h
      obtain ⟨⟨hk, hv⟩, ht⟩ := h
      by_cases hp : p.1 = a
      · right
        refine ⟨0, e, ?_, rfl, by rw [hk, hp], by simp [mget, hp, hv], ?_⟩
        · simp [Instr.findNow, hk, Instr.sameNow, hp, hv]
        · simp [mput, hp, List.modify, hk, ht]
      · have hbe : (a == p.1) = false := beq_eq_false_iff_ne.2 (fun e => hp e.symm)
        rcases find_im a v es m (i + 1) ht with ⟨h1, h2, h3⟩ | ⟨j, e', h1, h2, h3, h4, h5⟩
        · left
          refine ⟨?_, by simp [mget, hp, h2], by simp [mput, hp, h3]⟩
          simp [Instr.findNow, hk, Instr.sameNow, hbe, h1]
        · right
          refine ⟨j + 1, e', ?_, by simpa using h2, h3, by simp [mget, hp, h4], ?_⟩
          · simp [Instr.findNow, hk, Instr.sameNow, hbe, h1]; omega
          · simp only [List.modify_succ_cons, List.map_cons, mput, if_neg hp, h5, hk, hv]

theorem Sat.imap_get {w : World} {b : Nat} {m : List (Int × Value)} {F : List HP} (H : Sat w (imap b m :: F)) : ∃ es clock, w.heap[b]? = some (.map es clock) ∧ es.toList.map (fun e => (e.key, e.val)) = m.map (fun p => (Value.int .i64 p.1, p.2)) := by
  obtain ⟨_, _, _, _, _, h, _⟩ := H
  exact h.2
theorem Sat.imap_new {w : World} {F : List HP} (H : Sat w F) : Sat (w.alloc (.map #[] 0)) (imap w.heap.size [] :: F) :=
  (H.alloc (.map #[] 0)).imp fun _ h => ⟨h.1, #[], 0, h.2, rfl⟩
theorem Sat.imap_set {w : World} {b : Nat} {m : List (Int × Value)} {F : List HP} (H : Sat w (imap b m :: F)) (es : Array MapEntry) (clock : Nat) (m' : List (Int × Value)) (h : es.toList.map (fun e => (e.key, e.val)) = m'.map (fun p => (Value.int .i64 p.1, p.2))) :
    Sat { w with heap := w.heap.setIfInBounds b (.map es clock) } (imap b m' :: F) := by
  obtain ⟨es0, clock0, hb, _⟩ := H.imap_get
  have h1 := ChangeMaps.heap_setBlock_same hb (.map es clock)
  refine H.update (by simp) fun S1 hlt hs => ⟨S1, ⟨hs.1, es, clock, h1, h⟩, fun k hk => ⟨by have := hlt k hk; simpa using this, .inl hk⟩, fun k _ hne => ChangeMaps.heap_setBlock_other hb (.map es clock) (fun e => hne (by rw [e]; exact hs.1))⟩

section
variable {P : Program} {w : World} {b : Nat} {m : List (Int × Value)} {F : List HP}

theorem Sat.imap_look (H : Sat w (imap b m :: F)) {t k e : TypeId} (ht : P.underlying t = some (.map k e)) (hk : P.underlying k = some (.int .i64)) (z : Value) (hz : (zeroValue e).run P w = .ok z w) (a : Int) (c : Bool) :
    (Instr.lookup t (.map (some b)) (.int .i64 a) c).run P w = .ok (if c then .tuple #[(mget m a).getD z, .bool (mget m a).isSome] else (mget m a).getD z) w := by
  obtain ⟨es, clock, hb, hm⟩ := H.imap_get
  have hck := fun em => MapKept.run_checkKey (P := P) (w := w) (k := .int .i64 a) hk (by simp [MapKept.IsKey]) em 9999
  rcases find_im a z es.toList m 0 hm with ⟨h1, h2, -⟩ | ⟨j, e0, h1, -, -, h2, -⟩
  · have hf := MapKept.run_findKey (P := P) (w := w) hk h1
    rw [h2]
    cases c <;> simp [Instr.lookup, run_underlying ht, MapKept.run_getObj_map hb, hck, hf, hz, Result.andThen]
  · have hf := MapKept.run_findKey (P := P) (w := w) hk h1
    rw [h2]
    cases c <;> simp [Instr.lookup, run_underlying ht, MapKept.run_getObj_map hb, hck, hf, Result.andThen]

theorem Sat.imap_put (H : Sat w (imap b m :: F)) {t k e : TypeId} (ht : P.underlying t = some (.map k e)) (hk : P.underlying k = some (.int .i64)) (a : Int) (v : Value) :
    ∃ w', (Instr.mapUpdate t (.map (some b)) (.int .i64 a) v).run P w = .ok () w' ∧ Sat w' (imap b (mput m a v) :: F) ∧ Env w w' := by
  obtain ⟨es, clock, hb, hm⟩ := H.imap_get
  have hck := fun em => MapKept.run_checkKey (P := P) (w := w) (k := .int .i64 a) hk (by simp [MapKept.IsKey]) em 9999
  rcases find_im a v es.toList m 0 hm with ⟨h1, h2, h3⟩ | ⟨j, e0, h1, h2, h3, h4, h5⟩
  · have hf := MapKept.run_findKey (P := P) (w := w) hk h1
    refine ⟨_, by simp [Instr.mapUpdate, run_underlying ht, MapKept.run_getObj_map hb, hck, hf, Result.andThen, MapKept.run_setObj_map _ hb]; rfl, H.imap_set _ _ _ ?_, ⟨rfl, rfl, rfl, by simp⟩⟩
    rw [h3]; simp [hm]
  · have hf := MapKept.run_findKey (P := P) (w := w) hk h1
    have hj : es[j]? = some e0 := by simpa using h2
    refine ⟨_, by simp [Instr.mapUpdate, run_underlying ht, MapKept.run_getObj_map hb, hck, hf, hj, h3, Instr.keyThatStays, Instr.sameBits, Result.andThen, MapKept.run_setObj_map _ hb]; rfl, H.imap_set _ _ _ ?_, ⟨rfl, rfl, rfl, by simp⟩⟩
    rw [← h5, Array.toList_modify]
    congr 1
    exact modify_same _ _ h2 (by rw [h3])

theorem Sat.imap_clear (H : Sat w (imap b m :: F)) {t k e : TypeId} (ht : P.underlying t = some (.map k e)) :
    ∃ w', (∀ ty, (Builtin.clear_ #[t] ty #[.map (some b)]).run P w = .ok (.tuple #[]) w') ∧ Sat w' (imap b [] :: F) ∧ Env w w' := by
  obtain ⟨es, clock, hb, hm⟩ := H.imap_get
  exact ⟨_, fun ty => by simp [Builtin.clear_, run_underlying ht, MapKept.run_getObj_map hb, MapKept.run_setObj_map _ hb, Result.andThen], H.imap_set #[] clock [] rfl, ⟨rfl, rfl, rfl, by simp⟩⟩
end

/-- 'm[k] = v' as a step of the walk. -/
theorem wpList_put_sat {P : Program} {w : World} {ops : Array Oper} {rest : List Oper} {o : Oper} {a : Act} {Q : Exit → Act → World → Prop} {F : List HP}
    (hg : o.guard = none) (mm x v : Operand) (t : TypeId) (hop : o.op = Op.mapUpdate t mm x v) {k e : TypeId} (ht : P.underlying t = some (.map k e)) (hk : P.underlying k = some (.int .i64))
    {b : Nat} {m : List (Int × Value)} (H : Sat w (imap b m :: F)) (hm : a.eval mm = .map (some b)) (n : Int) (val : Value) (hx : a.eval x = .int .i64 n) (hv : a.eval v = val)
    (hK : ∀ w', Sat w' (imap b (mput m n val) :: F) → Env w w' → wpList P ops Q rest (a.put o.dst undef) w') : wpList P ops Q (o :: rest) a w := by
  refine wpList_plain hg fun K' hK' => ?_
  obtain ⟨w', hrun, r1, r2⟩ := H.imap_put ht hk n val
  unfold Oper.wp
  simp [execOp, hop, hm, hx, hv, hrun, Result.andThen]
  exact hK' _ _ (hK w' r1 r2)
end Go.Proofs.Ythbabdjicplooaa
