/- The disk's Flush. Conditions: fewer than 2^32 writes pending. -/
import Derived.Test.YthbabdjicplooaaDiskWG
import Derived.OrdersHeld
import Derived.Deep.RegionHeld3
namespace Go.Proofs.Ythbabdjicplooaa
open Go.RowKit

/-- Writes laid over sectors, in their order. -/
def sets {α : Type} (S : List α) (P : List (Nat × α)) : List α := P.foldl (fun S p => S.set p.1 p.2) S
theorem sets_len {α : Type} (S : List α) (P : List (Nat × α)) : (sets S P).length = S.length := by
  unfold sets
  induction P generalizing S with
  | nil => rfl
  | cons p P ih => simp [List.foldl_cons, ih]
theorem sets_snoc {α : Type} (S : List α) (P : List (Nat × α)) (p : Nat × α) : sets S (P ++ [p]) = (sets S P).set p.1 p.2 := by simp [sets]
theorem sets_map {α β : Type} (f : α → β) (S : List α) (P : List (Nat × α)) : (sets S P).map f = sets (S.map f) (P.map fun p => (p.1, f p.2)) := by
  unfold sets
  induction P generalizing S with
  | nil => rfl
  | cons p P ih => simp [List.foldl_cons, ih, List.map_set]
theorem sets_mem {α : Type} {S : List α} {P : List (Nat × α)} {x : α} (h : x ∈ sets S P) : x ∈ S ∨ ∃ n, (n, x) ∈ P := by
  unfold sets at h
  induction P generalizing S with
  | nil => exact .inl h
  | cons p P ih =>
    rw [List.foldl_cons] at h
    rcases ih h with h | ⟨n, h⟩
    · rcases List.mem_or_eq_of_mem_set h with h | h
      · exact .inl h
      · exact .inr ⟨p.1, by rw [h]; exact List.mem_cons_self⟩
    · exact .inr ⟨n, List.mem_cons_of_mem _ h⟩

def Dsk.flush (D : Dsk) : Dsk := ⟨sets D.safe D.pend, [], D.left.map (· - 1)⟩

set_option maxHeartbeats 1000000 in
set_option maxRecDepth 100000 in
theorem flush_stop {w : World} {d : Nat} {B : List Buf} {D : Dsk} {F : List HP} (H : Sat w (dk d B D :: F)) (hl : D.left = some 0) :
    Calls Try.prog 24 #[.pointer (some ⟨d, 0, none⟩)] w fun e w' => e = .returned (.int .i64 13) ∧ w = w' := by
  have HG := Lib.hid (goes_no H hl)
  go_enter Try.func24, Try.ntmps24
  go_wp2_with (go_at_call 67; refine HG.out.mono ?_; rintro e w' ⟨rfl, rfl⟩)
  go_ret
  exact ⟨rfl, rfl⟩

set_option maxHeartbeats 2000000 in
set_option maxRecDepth 100000 in
theorem flush_ok {w : World} {d : Nat} {B : List Buf} {D : Dsk} {F : List HP} (H : Sat w (dk d B D :: pool B :: F)) (hl : D.left ≠ some 0) (hp : D.pend.length < 4294967296) :
    Calls Try.prog 24 #[.pointer (some ⟨d, 0, none⟩)] w fun e w' => e = .returned (.int .i64 0) ∧ Sat w' (dk d B D.flush :: pool B :: F) ∧ Env w w' := by
  have HG := Lib.hid (goes_yes H hl)
  clear H
  go_enter Try.func24, Try.ntmps24
  go_upto_region 3 with (go_at_call 67; refine HG.out.mono ?_; rintro e w2 ⟨rfl, H2, E2⟩)
  obtain ⟨safe, last, pend, stops, after, vS, vP, mb, hok, habs, H3⟩ := H2.dk_open
  have hD := habs.out
  have HD1 := Lib.hid (show D.safe = safe.map (·.2) from congrArg Dsk.safe hD)
  have HD2 := Lib.hid (show D.pend = pend.map (fun p => (p.1, p.2.2)) from congrArg Dsk.pend hD)
  have HD3 := Lib.hid (show D.left.map (· - 1) = (if stops then some after else none) from congrArg Dsk.left hD)
  have hpl : pend.length < 4294967296 := by rw [HD2.out] at hp; simpa using hp
  have hsl : safe.length ≤ 8192 := hok.out.some_
  clear hp hD H2 HG habs hl
  have hc2 := H3.cell 2
  obtain ⟨AP, cP, rfl, -, -, -⟩ := H3.b3.own_form
  obtain ⟨AS, cS, rfl, -, -, -⟩ := H3.b1.own_form
  go_wp2_with fail
  go_loopw [13] (fun i wr => ∃ k : Nat, k ≤ pend.length ∧ i = .int .i64 k ∧ Sat wr (row d 115 #[.slice AS safe.length cS, .map (some mb), .slice AP pend.length cP, .bool stops, .int .i64 after] :: own 30 1 (.slice AS safe.length cS) safe.length ((sets safe (pend.take k)).map (·.1)) :: imap mb last :: own 117 2 (.slice AP pend.length cP) pend.length (flatP pend) :: pool B :: F) ∧ Env w wr) (fun i _ => pend.length - (intOf i).toNat)
  case atStart => exact ⟨0, by omega, rfl, by simpa [sets] using H3, E2⟩
  case round =>
    clear H3 hc2 E2
    obtain ⟨k, hk, rfl, H4, E4⟩ := hrel
    by_cases hlt : k < pend.length
    · obtain ⟨nk, vk, xk, hpk⟩ : ∃ nk vk xk, pend[k] = (nk, (vk, xk)) := ⟨_, _, _, rfl⟩
      have hpm := hok.out.pgood (nk, (vk, xk)) (by dsimp only; rw [← hpk]; exact List.getElem_mem hlt)
      have hnk : nk < safe.length := hpm.1
      obtain ⟨gk, ck, rfl, -⟩ := (H4.b4.pool_at hpm.2).own_addr (by omega)
      obtain ⟨gP, cP', hAP, -⟩ := H4.b3.own_addr (by omega)
      cases hAP
      obtain ⟨gS, cS', hAS, -⟩ := H4.b1.own_addr (by omega)
      cases hAS
      have hfp := flatP_get pend k hlt
      rw [hpk] at hfp
      have p1 := H4.b3.own_cell _ _ hfp.1
      have p2 := H4.b3.own_cell _ _ hfp.2
      have HPK := Lib.hid hpk
      clear hfp hpk hpm
      go_upto_region 6 with fail
      have H5 := H4.alloc (.cells #[.int .i64 nk, .slice (some ⟨gk, 0, none⟩) 128 ck] 117)
      have E5 := E4.alloc (.cells #[.int .i64 nk, .slice (some ⟨gk, 0, none⟩) 128 ck] 117)
      generalize wr.alloc (.cells #[.int .i64 nk, .slice (some ⟨gk, 0, none⟩) 128 ck] 117) = wx at *
      generalize wr.heap.size = T4 at *
      clear H4 E4 p1 p2
      have q0 := H5.cell 0
      have q1 := H5.cell 1
      have q2 := H5.b1.cell 0
      have hz : ((sets safe (pend.take k)).map (·.1))[nk]? = some ((sets safe (pend.take k))[nk]'(by rw [sets_len]; exact hnk)).1 := by simp [sets_len, hnk]
      have q3 := H5.b2.own_cell nk _ hz
      have q4 := H5.b2.own_free (by omega) nk
      clear hz
      generalize ((sets safe (pend.take k))[nk]'(by rw [sets_len]; exact hnk)).1 = old1 at q3
      go_region
      have H6 := (H5.b2.own_set (i := nk) (by omega) (.slice (some ⟨gk, 0, none⟩) 128 ck)).drew.b1.tail.b1
      have E6 := (E5.set ⟨gS, nk, none⟩ (.slice (some ⟨gk, 0, none⟩) 128 ck)).drew
      have hnx : ((sets safe (pend.take k)).map (·.1)).set nk (.slice (some ⟨gk, 0, none⟩) 128 ck) = (sets safe (pend.take (k + 1))).map (·.1) := by
        rw [List.take_succ_eq_append_getElem hlt, HPK.out, sets_snoc, List.map_set]
      rw [hnx] at H6
      clear hnx q0 q1 q2 q3 q4 H5 E5
      generalize (wx.setCell ⟨gS, nk, none⟩ (.slice (some ⟨gk, 0, none⟩) 128 ck)).drew = wy at *
      go_wp2_with fail
      go_roundw
      case rel => exact ⟨k + 1, by omega, by go_num, H6, E6⟩
      case measure => simp [intOf]; omega
    · obtain rfl : k = pend.length := by omega
      rw [List.take_length] at H4
      have hok := hok.out
      have H5 : Sat wr (dk d B ⟨sets D.safe D.pend, D.pend, D.left.map (· - 1)⟩ :: pool B :: F) :=
        Sat.dk_shut ⟨sets safe (pend.map fun p => (p.1, p.2)), last, pend, stops, after, .slice AS safe.length cS, .slice AP pend.length cP, mb⟩
          ⟨fun p hp => by
            rcases sets_mem hp with h | ⟨n, h⟩
            · exact hok.good p h
            · exact .inr (hok.pgood (n, p) (by simpa using h)).2,
          fun p hp => by have := hok.pgood p hp; simpa [sets_len] using this, hok.last, hok.after, hok.full, by simpa [sets_len] using hok.some_⟩
          (by simp only [Raw.abs, HD1.out, HD2.out, HD3.out, sets_map]; simp) (by simpa [sets_len] using H4)
      go_wp2_with (go_at_call 69; refine (settle_any H5).mono ?_; rintro e w6 ⟨rfl, H6, E6⟩)
      go_ret
      exact ⟨rfl, H6, E4.trans E6⟩
end Go.Proofs.Ythbabdjicplooaa

/- A region that draws its order and ends in a store that waits for all else: the store is set aside. Conditions: none. -/
namespace Go.Proofs.Ythbabdjicplooaa
open Go

/-- What is left to be shown once all but the last operation has come up. -/
def lastQ (P : Program) (o : Oper) (Q : Exit → Act → World → Prop) : Exit → Act → World → Prop
  | .normal, a, w => o.wp P a w (fun a' w' => Q .normal a' w') Q
  | e, a, w => Q e a w
theorem upon_lastQ {P : Program} {o o' : Oper} {Q : Exit → Act → World → Prop} {a : Act} {next : Act → World → Prop} (r : Result Next) : o'.upon P a next (lastQ P o Q) r = o'.upon P a next Q r := by
  cases r with
  | ok n w => cases n <;> rfl
  | halt x w => cases x <;> rfl
def setAside (o : Oper) : Oper := { o with op := .move (.const undef) }
def sinkAt (ops : Array Oper) (L : Nat) : Bool := (List.range ops.size).all fun j => j == L || (match ops[L]? with
  | some o => o.after.any fun e => Region.binds .any e && e.on == j
  | none => false)
def backOnly (ops : Array Oper) : Bool := (List.range ops.size).all fun i => match ops[i]? with
  | some o => o.after.all fun e => decide (e.on < i)
  | none => true

section
variable {P : Program} {ops : Array Oper} {Q : Exit → Act → World → Prop} {L : Nat} {o : Oper}

theorem get_aside (hL : ops[L]? = some o) (i : Nat) : (ops.setIfInBounds L (setAside o))[i]? = if i = L then some (setAside o) else ops[i]? := by
  have hlt : L < ops.size := (Array.getElem?_eq_some_iff.1 hL).1
  rw [Array.getElem?_setIfInBounds]
  by_cases h : L = i
  · subst h; simp [hlt]
  · simp [h, Ne.symm h]
theorem ready_aside (hL : ops[L]? = some o) (listed : Array Bool) : Region.ready .any (ops.setIfInBounds L (setAside o)) listed = Region.ready .any ops listed := by
  unfold Region.ready
  rw [Array.size_setIfInBounds]
  congr 1
  funext i
  rw [get_aside hL]
  by_cases h : i = L
  · subst h; simp [hL, setAside]
  · simp [h]
theorem yielded_aside (hL : ops[L]? = some o) (hd : o.dst = none) (tmps : Array Value) : yielded (ops.setIfInBounds L (setAside o)) tmps = yielded ops tmps := by
  funext j
  unfold yielded
  rw [get_aside hL]
  by_cases h : j = L
  · subst h; simp [hL, setAside, hd]
  · simp [h]

theorem ready_ex (hL : ops[L]? = some o) (hb : backOnly ops = true) (listed : Array Bool) (hs : listed.size = ops.size) (hl : listed.getD L true = false) : ∃ i, i ∈ Region.ready .any ops listed := by
  have hlt : L < ops.size := (Array.getElem?_eq_some_iff.1 hL).1
  obtain ⟨i, hi, hmin⟩ : ∃ i, (i < ops.size ∧ listed.getD i true = false) ∧ ∀ j, j < i → ¬ (j < ops.size ∧ listed.getD j true = false) := by
    have : ∀ n, (n < ops.size ∧ listed.getD n true = false) → ∃ i, (i < ops.size ∧ listed.getD i true = false) ∧ ∀ j, j < i → ¬ (j < ops.size ∧ listed.getD j true = false) := by
      intro n
      induction n using Nat.strongRecOn with
      | _ n ih =>
        intro hn
        by_cases hh : ∃ j, j < n ∧ (j < ops.size ∧ listed.getD j true = false)
        · obtain ⟨j, hj, hj2⟩ := hh
          exact ih j hj hj2
        · exact ⟨n, hn, fun j hj h => hh ⟨j, hj, h⟩⟩
    exact this L ⟨hlt, hl⟩
  refine ⟨i, ?_⟩
  unfold Region.ready
  rw [List.mem_filter]
  refine ⟨List.mem_range.2 hi.1, ?_⟩
  rw [hi.2]
  have hoi : ops[i]? = some ops[i] := Array.getElem?_eq_getElem hi.1
  rw [hoi]
  simp only [Bool.not_false, Bool.true_and, Option.map_some, Option.getD_some, Array.all_eq_true_iff_forall_mem]
  intro e he
  have hbi := List.all_eq_true.1 hb i (List.mem_range.2 hi.1)
  rw [hoi] at hbi
  have hbe := (Array.all_eq_true_iff_forall_mem.1 hbi) e he
  simp only [decide_eq_true_eq] at hbe
  have hm := hmin e.on hbe
  have helt : e.on < ops.size := Nat.lt_trans hbe hi.1
  have : listed.getD e.on false = true := by
    have h1 : ¬ listed.getD e.on true = false := fun h => hm ⟨helt, h⟩
    rw [Array.getD_eq_getD_getElem?] at h1 ⊢
    rw [Array.getElem?_eq_getElem (by omega)] at h1 ⊢
    simpa using h1
  simp [this]

theorem ready_none (hL : ops[L]? = some o) (hk : sinkAt ops L = true) (listed : Array Bool) (hs : listed.size = ops.size) (hr : L ∈ Region.ready .any ops listed) : Region.ready .any ops (listed.setIfInBounds L true) = [] := by
  unfold Region.ready at hr
  rw [List.mem_filter, hL] at hr
  simp only [Option.map_some, Option.getD_some, Bool.and_eq_true, Array.all_eq_true_iff_forall_mem] at hr
  unfold Region.ready
  rw [List.filter_eq_nil_iff]
  intro j hj
  have hjl := List.mem_range.1 hj
  have : (listed.setIfInBounds L true).getD j true = true := by
    rw [Array.getD_eq_getD_getElem?, Array.getElem?_setIfInBounds]
    by_cases h : L = j
    · simp [h, show j < listed.size by omega]
    · have hk1 := List.all_eq_true.1 hk j hj
      rw [hL] at hk1
      simp only [Bool.or_eq_true, beq_iff_eq] at hk1
      rcases hk1 with hk1 | hk1
      · exact absurd hk1.symm h
      · obtain ⟨e, he, hbo⟩ := Array.any_eq_true'.1 hk1
        simp only [Bool.and_eq_true, beq_iff_eq] at hbo
        obtain ⟨hb, hon⟩ := hbo
        have h2 := hr.2.2 e he
        rw [hb, hon] at h2
        simp only [Bool.not_true, Bool.false_or] at h2
        rw [Array.getD_eq_getD_getElem?, Array.getElem?_eq_getElem (by omega)] at h2
        simp only [h, if_false, Array.getElem?_eq_getElem (show j < listed.size by omega)]
        simpa using h2
  simp [this]

theorem wpOp_aside (hL : ops[L]? = some o) (hd : o.dst = none) {i : Nat} (hi : i ≠ L) {K K' : Act → World → Prop} {a : Act} {w : World} (hK : ∀ a w, K a w → K' a w)
    (h : wpOp P (ops.setIfInBounds L (setAside o)) (lastQ P o Q) i K a w) : wpOp P ops Q i K' a w := by
  unfold wpOp at h ⊢
  rw [get_aside hL, if_neg hi, yielded_aside hL hd] at h
  cases ho : ops[i]? with
  | none => rw [ho] at h; exact hK _ _ h
  | some x =>
    rw [ho] at h
    dsimp only at h ⊢
    split
    · rename_i hw
      rw [if_pos hw] at h
      refine h.imp (fun h => ?_) (fun h => h)
      unfold Oper.wp at h
      rw [upon_lastQ] at h
      exact Oper.wp_mono hK h
    · rename_i hw
      rw [if_neg hw] at h
      exact hK _ _ h

theorem wpAny_aside (hL : ops[L]? = some o) (hd : o.dst = none) (hg : o.guard = none) (hb : backOnly ops = true) (hk : sinkAt ops L = true) : ∀ (fuel : Nat) (listed : Array Bool) (a : Act) (w : World), listed.size = ops.size → listed.getD L true = false →
    wpAny P .any (ops.setIfInBounds L (setAside o)) (lastQ P o Q) fuel listed a w → wpAny P .any ops Q fuel listed a w
  | 0, listed, a, w, hs, hl, h => by
    obtain ⟨i, hi⟩ := ready_ex hL hb listed hs hl
    have := h.1
    rw [ready_aside hL] at this
    rw [this] at hi; cases hi
  | fuel + 1, listed, a, w, hs, hl, h => by
    obtain ⟨i0, hi0⟩ := ready_ex hL hb listed hs hl
    refine ⟨fun hr => (by rw [hr] at hi0; cases hi0), fun i hi => ?_⟩
    have h2 := h.2 i (by rw [ready_aside hL]; exact hi)
    by_cases hiL : i = L
    · subst hiL
      unfold wpOp at h2 ⊢
      rw [get_aside hL, if_pos rfl] at h2
      rw [hL]
      have hw1 : ∀ y, Region.wanted (setAside o) y = true := by intro y; unfold Region.wanted setAside; rw [hg]
      have hw2 : ∀ y, Region.wanted o y = true := by intro y; unfold Region.wanted; rw [hg]
      dsimp only at h2 ⊢
      rw [if_pos (hw1 _)] at h2
      rw [if_pos (hw2 _)]
      have hput : (a.put (setAside o).dst undef) = a := by simp [setAside, hd, Act.put]
      rcases h2 with h2 | ⟨h2, -⟩
      · left
        have h3 : wpAny P .any (ops.setIfInBounds i (setAside o)) (lastQ P o Q) fuel (listed.setIfInBounds i true) a w := by
          unfold Oper.wp execOp at h2
          simp only [setAside, Sem.run_pure, Oper.upon] at h2
          have h2' : wpAny P .any (ops.setIfInBounds i (setAside o)) (lastQ P o Q) fuel (listed.setIfInBounds i true) (a.put (setAside o).dst undef) w := h2
          rwa [hput] at h2'
        have hrn := ready_none hL hk listed hs hi
        have hrn' := hrn
        rw [← ready_aside hL] at hrn'
        have h4 : lastQ P o Q .normal a w := by
          cases fuel with
          | zero => exact h3.2
          | succ n => exact h3.1 hrn'
        refine Oper.wp_mono (fun a' w' hq => ?_) h4
        cases fuel with
        | zero => exact ⟨hrn, hq⟩
        | succ n => exact ⟨fun _ => hq, fun j hj => by rw [hrn] at hj; cases hj⟩
      · exfalso
        have h5 := h2.1
        unfold execOp at h5
        simp only [setAside] at h5
        exact absurd (show noRoomEvent ∈ (#[] : Array Event) from h5) (by simp)
    · refine wpOp_aside hL hd hiL (fun a' w' h' => ?_) h2
      refine wpAny_aside hL hd hg hb hk fuel _ a' w' (by simpa using hs) ?_ h'
      rw [Array.getD_eq_getD_getElem?] at hl ⊢
      rw [Array.getElem?_setIfInBounds, if_neg hiL]
      exact hl

/-- A region that draws its order, its last operation (a store that waits for all others) set aside. -/
theorem region_aside {id : Nat} {a : Act} {w : World} (S : World → Prop) (L : Nat) (o : Oper) (hm : P.follows .mixedOrders = true) (hL : ops[L]? = some o) (hd : o.dst = none) (hg : o.guard = none) (hb : backOnly ops = true) (hk : sinkAt ops L = true)
    (hS : S w.drew) (h : S w.drew → wpAnyH P .any (ops.setIfInBounds L (setAside o)) (lastQ P o Q) S ops.size (Array.replicate ops.size false) a w.drew) : (Code.region id ops true).wp P Q a w := by
  have hlt : L < ops.size := (Array.getElem?_eq_some_iff.1 hL).1
  refine wp_region_any hm (wpAny_aside hL hd hg hb hk _ _ _ _ (by simp) ?_ (wpAny_of_held _ _ _ _ (h hS)))
  rw [Array.getD_eq_getD_getElem?, Array.getElem?_replicate, if_pos hlt]; rfl
end
end Go.Proofs.Ythbabdjicplooaa
