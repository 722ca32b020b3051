/- A region's last store set aside, where it waits for the others directly or through one of them. Conditions: none. -/
import Derived.Test.YthbabdjicplooaaSplit
namespace Go.Proofs.Ythbabdjicplooaa
open Go

/-- Operation i waits for operation j. -/
def waits1 (ops : Array Oper) (i j : Nat) : Bool := match ops[i]? with
  | some o => o.after.any fun e => Region.binds .any e && e.on == j
  | none => false
def sinkTwo (ops : Array Oper) (L : Nat) : Bool := (List.range ops.size).all fun j => j == L || waits1 ops L j || (List.range ops.size).any fun i => waits1 ops L i && waits1 ops i j
/-- What is listed has all that it waits for listed. -/
def Closed (ops : Array Oper) (listed : Array Bool) : Prop := ∀ i j, listed.getD i false = true → waits1 ops i j = true → listed.getD j false = true

section
variable {P : Program} {ops : Array Oper} {Q : Exit → Act → World → Prop} {L : Nat} {o : Oper}

theorem ready_waits {listed : Array Bool} {i j : Nat} (hi : i ∈ Region.ready .any ops listed) (h : waits1 ops i j = true) : listed.getD j false = true := by
  unfold Region.ready at hi
  rw [List.mem_filter] at hi
  unfold waits1 at h
  cases ho : ops[i]? with
  | none => rw [ho] at h; cases h
  | some x =>
    rw [ho] at h hi
    simp only [Option.map_some, Option.getD_some, Bool.and_eq_true, Array.all_eq_true_iff_forall_mem] at hi
    obtain ⟨e, he, hbo⟩ := Array.any_eq_true'.1 h
    simp only [Bool.and_eq_true, beq_iff_eq] at hbo
    have h2 := hi.2.2 e he
    rw [hbo.1, hbo.2] at h2
    simpa using h2
theorem getD_set_keep {listed : Array Bool} {i j : Nat} (h : listed.getD j false = true) : (listed.setIfInBounds i true).getD j false = true := by
  rw [Array.getD_eq_getD_getElem?] at h ⊢
  rw [Array.getElem?_setIfInBounds]
  split
  · split
    · rfl
    · rename_i h1 h2; subst h1; rw [Array.getElem?_eq_none (by omega)] at h; cases h
  · exact h
theorem Closed.step {listed : Array Bool} {i : Nat} (hc : Closed ops listed) (hi : i ∈ Region.ready .any ops listed) : Closed ops (listed.setIfInBounds i true) := by
  intro k j hk hw
  by_cases h : k = i
  · subst h; exact getD_set_keep (ready_waits hi hw)
  · refine getD_set_keep (hc k j ?_ hw)
    rw [Array.getD_eq_getD_getElem?] at hk ⊢
    rw [Array.getElem?_setIfInBounds, if_neg (fun e => h e.symm)] at hk
    exact hk

theorem ready_none2 (_ : ops[L]? = some o) (hk : sinkTwo ops L = true) (listed : Array Bool) (hs : listed.size = ops.size) (hc : Closed ops listed) (hr : L ∈ Region.ready .any ops listed) : Region.ready .any ops (listed.setIfInBounds L true) = [] := by
  unfold Region.ready
  rw [List.filter_eq_nil_iff]
  intro j hj
  have hjl := List.mem_range.1 hj
  have : (listed.setIfInBounds L true).getD j true = true := by
    by_cases h : L = j
    · rw [Array.getD_eq_getD_getElem?, Array.getElem?_setIfInBounds]
      simp [h, show j < listed.size by omega]
    · have hk1 := List.all_eq_true.1 hk j hj
      simp only [Bool.or_eq_true, beq_iff_eq] at hk1
      have hl : listed.getD j false = true := by
        rcases hk1 with (hk1 | hk1) | hk1
        · exact absurd hk1.symm h
        · exact ready_waits hr hk1
        · obtain ⟨i, _, hi⟩ := List.any_eq_true.1 hk1
          simp only [Bool.and_eq_true] at hi
          exact hc i j (ready_waits hr hi.1) hi.2
      have := getD_set_keep (i := L) hl
      rw [Array.getD_eq_getD_getElem?] at this ⊢
      cases hx : (listed.setIfInBounds L true)[j]? with
      | none => rfl
      | some b => rw [hx] at this; exact this
  simp [this]

theorem wpAny_aside2 (hL : ops[L]? = some o) (hd : o.dst = none) (hg : o.guard = none) (hb : backOnly ops = true) (hk : sinkTwo ops L = true) : ∀ (fuel : Nat) (listed : Array Bool) (a : Act) (w : World), listed.size = ops.size → listed.getD L true = false → Closed ops listed →
    wpAny P .any (ops.setIfInBounds L (setAside o)) (lastQ P o Q) fuel listed a w → wpAny P .any ops Q fuel listed a w
  | 0, listed, a, w, hs, hl, _, h => by
    obtain ⟨i, hi⟩ := ready_ex hL hb listed hs hl
    have := h.1
    rw [ready_aside hL] at this
    rw [this] at hi; cases hi
  | fuel + 1, listed, a, w, hs, hl, hc, h => by
    obtain ⟨i0, hi0⟩ := ready_ex hL hb listed hs hl
    refine ⟨fun hr => (by rw [hr] at hi0; cases hi0), fun i hi => ?_⟩
    have h2 := h.2 i (by rw [ready_aside hL]; exact hi)
    by_cases hiL : i = L
    · subst hiL
      unfold wpOp at h2 ⊢
      rw [get_aside hL, if_pos rfl] at h2
      rw [hL]
      have hw1 : ∀ y, Region.wanted (setAside o) y = true := by intro y; unfold Region.wanted setAside; rw [hg]
      have hw2 : ∀ y, Region.wanted o y = true := by intro y; unfold Region.wanted; rw [hg]
      dsimp only at h2 ⊢
      rw [if_pos (hw1 _)] at h2
      rw [if_pos (hw2 _)]
      have hput : (a.put (setAside o).dst undef) = a := by simp [setAside, hd, Act.put]
      rcases h2 with h2 | ⟨h2, -⟩
      · left
        have h3 : wpAny P .any (ops.setIfInBounds i (setAside o)) (lastQ P o Q) fuel (listed.setIfInBounds i true) a w := by
          unfold Oper.wp execOp at h2
          simp only [setAside, Sem.run_pure, Oper.upon] at h2
          have h2' : wpAny P .any (ops.setIfInBounds i (setAside o)) (lastQ P o Q) fuel (listed.setIfInBounds i true) (a.put (setAside o).dst undef) w := h2
          rwa [hput] at h2'
        have hrn := ready_none2 hL hk listed hs hc hi
        have hrn' := hrn
        rw [← ready_aside hL] at hrn'
        have h4 : lastQ P o Q .normal a w := by
          cases fuel with
          | zero => exact h3.2
          | succ n => exact h3.1 hrn'
        refine Oper.wp_mono (fun a' w' hq => ?_) h4
        cases fuel with
        | zero => exact ⟨hrn, hq⟩
        | succ n => exact ⟨fun _ => hq, fun j hj => by rw [hrn] at hj; cases hj⟩
      · exfalso
        have h5 := h2.1
        unfold execOp at h5
        simp only [setAside] at h5
        exact absurd (show noRoomEvent ∈ (#[] : Array Event) from h5) (by simp)
    · refine wpOp_aside hL hd hiL (fun a' w' h' => ?_) h2
      refine wpAny_aside2 hL hd hg hb hk fuel _ a' w' (by simpa using hs) ?_ (hc.step hi) h'
      rw [Array.getD_eq_getD_getElem?] at hl ⊢
      rw [Array.getElem?_setIfInBounds, if_neg hiL]
      exact hl

theorem region_aside2 {id : Nat} {a : Act} {w : World} (S : World → Prop) (L : Nat) (o : Oper) (hm : P.follows .mixedOrders = true) (hL : ops[L]? = some o) (hd : o.dst = none) (hg : o.guard = none) (hb : backOnly ops = true) (hk : sinkTwo ops L = true)
    (hS : S w.drew) (h : S w.drew → wpAnyH P .any (ops.setIfInBounds L (setAside o)) (lastQ P o Q) S ops.size (Array.replicate ops.size false) a w.drew) : (Code.region id ops true).wp P Q a w := by
  have hlt : L < ops.size := (Array.getElem?_eq_some_iff.1 hL).1
  refine wp_region_any hm (wpAny_aside2 hL hd hg hb hk _ _ _ _ (by simp) ?_ ?_ (wpAny_of_held _ _ _ _ (h hS)))
  · rw [Array.getD_eq_getD_getElem?, Array.getElem?_replicate, if_pos hlt]; rfl
  · intro i j hi _
    rw [Array.getD_eq_getD_getElem?, Array.getElem?_replicate] at hi
    split at hi <;> cases hi
end
end Go.Proofs.Ythbabdjicplooaa
