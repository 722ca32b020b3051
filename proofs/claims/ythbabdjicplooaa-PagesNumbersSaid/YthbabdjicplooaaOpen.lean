/- A law's arguments opened: a slice of whatever element type as a list of its elements' cells. Conditions: none. -/
import Derived.Test.YthbabdjicplooaaCopyG
namespace Go.Proofs.Ythbabdjicplooaa
open Go.ChangeShapes Go.WideShapes Go.ChangeAt Go.RowKit

theorem flat_get {α : Type} {k : Nat} (hk : 0 < k) : ∀ (C : List (List α)), (∀ c ∈ C, c.length = k) → ∀ j, C.flatten[j]? = (C[j / k]?).bind fun c => c[j % k]?
  | [], _, j => by simp
  | c :: C, h, j => by
    have hc : c.length = k := h c (by simp)
    rw [List.flatten_cons, List.getElem?_append]
    by_cases hj : j < k
    · rw [if_pos (by omega), Nat.div_eq_of_lt hj, Nat.mod_eq_of_lt hj]; rfl
    · rw [if_neg (by omega), flat_get hk C (fun c' h' => h c' (by simp [h'])), hc]
      obtain ⟨m, rfl⟩ : ∃ m, j = m + k := ⟨j - k, by omega⟩
      rw [Nat.add_sub_cancel, Nat.add_div_right m hk, Nat.add_mod_right]
      rfl

theorem add_add' (a : Addr) (m n : Nat) : (a.add m).add n = a.add (m + n) := by
  unfold Addr.add
  rcases Nat.eq_zero_or_pos m with rfl | hm
  · rcases Nat.eq_zero_or_pos n with rfl | hn <;> simp
  · rcases Nat.eq_zero_or_pos n with rfl | hn
    · simp
    · simp [Nat.ne_of_gt hm, Nat.ne_of_gt hn, Nat.add_assoc]

theorem open_rd {H : Type} {enc : TypeId × Value → H} {P : Program} {w : World} {base : Nat} {spare : Nat → Bool} {held : Bool} {t e : TypeId} {k : Nat} (ht : P.underlying t = some (.slice e)) (hk : P.cellsOf e = k) (hk0 : 0 < k)
    {v : Value} {d : DataW H} {p : List MemPlace} (hv : ∃ A len cap, v = .slice A len cap) (h : DataW.Trod enc P w base spare held t v d p) :
    ∃ A len cap, ∃ C : List (List Value), v = .slice A len cap ∧ len ≤ cap ∧ cap ≤ maxLen ∧ C.length = len ∧ Rd w k A len C.flatten ∧
      (∀ c ∈ C, c.length = k ∧ ∃ fuel x, DataW.trod enc P w base spare held fuel e c = some x) ∧ (len = 0 ∨ ∃ el sp, d = .slice el sp ∧ el.length = len) := by
  obtain ⟨A, len, cap, rfl⟩ := hv
  obtain ⟨fuel, hf⟩ := h
  rcases DataW.trod_slice ht hf with ⟨hcs, _⟩ | ⟨a, len', cap', elems, rest, n, _, hcs, hdx, hb, hl, hm, hlen, hel, _, _⟩
  · simp [Value.cells] at hcs
    obtain ⟨rfl, rfl, rfl⟩ := hcs
    exact ⟨none, 0, 0, [], rfl, Nat.le_refl _, by simp [maxLen], rfl, Rd.nil _ _ _, by simp, .inl rfl⟩
  · simp [Value.cells] at hcs
    obtain ⟨rfl, rfl, rfl⟩ := hcs
    rw [hk] at hel
    have each : ∀ i, i < len → ∃ cs x, w.cells? base (a.add (i * k)) k = some cs ∧ DataW.trod enc P w base spare held n e cs = some x := by
      intro i hi
      have := hel i hi
      rw [List.getElem?_eq_getElem (by omega)] at this
      obtain ⟨cs, h1, h2⟩ := Option.bind_eq_some_iff.1 this
      exact ⟨cs, _, h1, h2⟩
    let C : List (List Value) := (List.range len).map fun i => (w.cells? base (a.add (i * k)) k).getD []
    have hC : ∀ c ∈ C, c.length = k ∧ ∃ fuel x, DataW.trod enc P w base spare held fuel e c = some x := by
      intro c hc
      obtain ⟨i, hi, rfl⟩ := List.mem_map.1 hc
      obtain ⟨cs, x, h1, h2⟩ := each i (List.mem_range.1 hi)
      rw [h1]
      exact ⟨(World.cells?_some h1).2.1, n, x, h2⟩
    have hCl : C.length = len := by simp [C]
    refine ⟨some a, len, cap, C, rfl, hl, hm, hCl, ⟨?_, ?_⟩, hC, .inr ⟨_, _, (Prod.mk.inj hdx).1, by rw [List.length_map]; exact hlen⟩⟩
    · have : ∀ L : List (List Value), (∀ c ∈ L, c.length = k) → L.flatten.length = L.length * k := by
        intro L
        induction L with
        | nil => simp
        | cons c L ih => intro hL; rw [List.flatten_cons, List.length_append, ih (fun c' h' => hL c' (by simp [h'])), hL c (by simp), List.length_cons, Nat.add_mul]; omega
      rw [this C (fun c hc => (hC c hc).1), hCl]
    · intro j u hu
      rw [flat_get hk0 C (fun c hc => (hC c hc).1)] at hu
      obtain ⟨c, hc, hcu⟩ := Option.bind_eq_some_iff.1 hu
      have hi : j / k < len := by rw [← hCl]; exact (List.getElem?_eq_some_iff.1 hc).1
      obtain ⟨cs, x, h1, _⟩ := each (j / k) hi
      have hcc : c = cs := by
        have : C[j / k]? = some cs := by simp [C, List.getElem?_map, List.getElem?_range hi, h1]
        rw [this] at hc; injection hc with hc; exact hc.symm
      subst hcc
      have hcell := (World.cells?_some h1).2.2 (j % k) (Nat.mod_lt _ hk0)
      rw [hcu, add_add', Nat.mul_comm, Nat.div_add_mod] at hcell
      obtain ⟨cs0, x0, g1, _⟩ := each 0 (Nat.lt_of_le_of_lt (Nat.zero_le _) hi)
      have g2 := (World.cells?_some g1).2.2 0 hk0
      have hsp : a.spot = none := by
        rw [Nat.zero_mul, Addr.add_zero', Addr.add_zero'] at g2
        have hlen0 := (World.cells?_some g1).2.1
        rw [List.getElem?_eq_getElem (by omega)] at g2
        unfold World.cell? at g2
        split at g2
        · split at g2
          · cases g2
          · rename_i hs; simpa using hs
        · cases g2
      obtain ⟨b, off, spot⟩ := a
      dsimp only at hsp
      subst hsp
      exact ⟨b, off, rfl, by rw [← hcell, Addr.add_lit]⟩

/-- A slice of numbers that came in. -/
theorem open_ints_rd {H : Type} {enc : TypeId × Value → H} {P : Program} {w : World} {base : Nat} {spare : Nat → Bool} {held : Bool} {t e : TypeId} (ht : P.underlying t = some (.slice e)) (he : P.underlying e = some (.int .i64)) (hk : P.cellsOf e = 1)
    {v : Value} {d : DataW H} {p : List MemPlace} (hv : ∃ A len cap, v = .slice A len cap) (h : DataW.Trod enc P w base spare held t v d p) :
    ∃ A len cap, ∃ l : List Int, v = .slice A len cap ∧ len ≤ cap ∧ cap ≤ maxLen ∧ l.length = len ∧ Rd w 1 A len (l.map (Value.int .i64)) ∧
      (∀ x ∈ l, -9223372036854775808 ≤ x ∧ x ≤ 9223372036854775807) ∧ (len = 0 ∨ ∃ el sp, d = .slice el sp ∧ el.length = len) := by
  obtain ⟨A, len, cap, C, rfl, h1, h2, h3, h4, h5, h6⟩ := open_rd ht hk (by omega) hv h
  have : ∃ l : List Int, C.flatten = l.map (Value.int .i64) ∧ l.length = C.length ∧ ∀ x ∈ l, -9223372036854775808 ≤ x ∧ x ≤ 9223372036854775807 := by
    clear h3 h4
    induction C with
    | nil => exact ⟨[], rfl, rfl, by simp⟩
    | cons c C ih =>
      obtain ⟨l, g1, g2, g3⟩ := ih (fun c hc => h5 c (by simp [hc]))
      obtain ⟨_, fuel, x, hx⟩ := h5 c (by simp)
      obtain ⟨n, rfl, _, hw⟩ := DataW.trod_int he hx
      refine ⟨n :: l, by simp [g1], by simp [g2], ?_⟩
      intro y hy
      rcases List.mem_cons.1 hy with rfl | hy
      · simp [Lit.wf, IntKind.min, IntKind.max, IntKind.signed, IntKind.bits] at hw; omega
      · exact g3 y hy
  obtain ⟨l, g1, g2, g3⟩ := this
  exact ⟨A, len, cap, l, rfl, h1, h2, g2.trans h3, by rw [← g1]; exact h4, g3, h6⟩

/-- What is read of old memory is read in every world that keeps it. -/
theorem reads_old {W : World} {k : Nat} {A : Option Addr} {n : Nat} {xs : List Value} (h : Rd W k A n xs) : ∀ w, Sat w [old W] → Rd w k A n xs := fun w H =>
  ⟨h.1, fun j u hu => by
    obtain ⟨b, off, hA, hc⟩ := h.2 j u hu
    refine ⟨b, off, hA, ?_⟩
    rw [World.cell?_of_block (w := W) (w' := w) (H.old_at b (block_lt_of_cell hc))]; exact hc⟩
end Go.Proofs.Ythbabdjicplooaa
