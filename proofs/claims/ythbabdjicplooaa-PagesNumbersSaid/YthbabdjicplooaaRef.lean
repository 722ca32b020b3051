/- deponentref3's disk as chunks: goes, Pending, Stop, New, Read, Write. Conditions: none. -/
import Derived.Test.YthbabdjicplooaaSplitBG
import Derived.Deep.RegionHeldLaw
import Derived.Deep.QuietTactic
import Derived.BigQuiet
namespace Go.Proofs.Ythbabdjicplooaa
open Go.RowKit

theorem step_make_sat {P : Program} {w : World} {ops : Array Oper} {o : Oper} {a : Act} {K : Act → World → Prop} {Q : Exit → Act → World → Prop} {E : Prop} {F : List HP}
    (hg : o.guard = none) (l c : Operand) (t : TypeId) (hop : o.op = Op.makeSlice t l c) (H : Sat w F)
    (e : TypeId) (z : Value) (size bytes : Nat) (ht : P.underlying t = some (.slice e)) (hi : (P.info? e).map (fun i => (i.zero, i.size, i.bytes)) = some (some z, size, bytes))
    (kl kc : IntKind) (n : Nat) (hl : a.eval l = .int kl n) (hc : a.eval c = .int kc n) (hb : bytes * n ≤ 281474976710656) (hm : n ≤ maxLen)
    (hK : ∀ w', Sat w' (own e size (.slice (some ⟨w.heap.size, 0, none⟩) n n) n (madeCells z.cells (n * size)).toList :: F) → Env w w' → K (a.put o.dst (.slice (some ⟨w.heap.size, 0, none⟩) n n)) w') :
    if Region.wanted o (yielded ops a.tmps) = true then Oper.wp P o a w K Q else E := by
  obtain ⟨w', hrun, r1, r2⟩ := H.make t e z size bytes ht hi kl kc n hb hm
  have hw : Region.wanted o (yielded ops a.tmps) = true := by unfold Region.wanted; rw [hg]
  rw [if_pos hw]
  unfold Oper.wp
  simp [execOp, hop, hl, hc, hrun, Result.andThen]
  exact hK w' r1 r2

def leftZ : Option Nat → Int
  | none => -1
  | some k => k
structure ROk (safe : List Buf) (pend : List (Nat × Buf)) (B : List Buf) (D : Dsk) : Prop where
  ds : D.safe = safe.map (·.2)
  dp : D.pend = pend.map (fun p => (p.1, p.2.2))
  good : ∀ p ∈ safe, p ∈ B
  pgood : ∀ p ∈ pend, p.1 < safe.length ∧ p.2 ∈ B
  full : ∀ p ∈ B, p.2.length = 128
  after : ∀ k, D.left = some k → k ≤ 9223372036854775807
  some_ : safe.length ≤ 8192
def rdk (r : Nat) (B : List Buf) (D : Dsk) : HP := ex fun p : List Buf × List (Nat × Buf) × Value × Value => all [fact (ROk p.1 p.2.1 B D), row r 124 #[p.2.2.1, p.2.2.2, .int .i64 (leftZ D.left)], own 30 1 p.2.2.1 p.1.length (p.1.map (·.1)), own 126 2 p.2.2.2 p.2.1.length (flatP p.2.1), pool B]
def rdisk (r : Nat) (D : Dsk) : HP := ex fun B => rdk r B D
theorem Sat.rd_open {w : World} {r : Nat} {D : Dsk} {F : List HP} (H : Sat w (rdisk r D :: F)) : ∃ (safe : List Buf) (pend : List (Nat × Buf)) (vS vP : Value) (B : List Buf), Hid (ROk safe pend B D) ∧
    Sat w (row r 124 #[vS, vP, .int .i64 (leftZ D.left)] :: own 30 1 vS safe.length (safe.map (·.1)) :: own 126 2 vP pend.length (flatP pend) :: pool B :: F) := by
  obtain ⟨B, H⟩ := H.open_ex
  obtain ⟨⟨safe, pend, vS, vP⟩, H⟩ := H.open_ex
  have H := H.open_all
  exact ⟨safe, pend, vS, vP, B, Lib.hid (Sat.get_fact H), H.tail⟩
theorem Sat.rd_shut {w : World} {r : Nat} {D : Dsk} {F : List HP} (safe : List Buf) (pend : List (Nat × Buf)) (vS vP : Value) (B : List Buf) (h : ROk safe pend B D)
    (H : Sat w (row r 124 #[vS, vP, .int .i64 (leftZ D.left)] :: own 30 1 vS safe.length (safe.map (·.1)) :: own 126 2 vP pend.length (flatP pend) :: pool B :: F)) : Sat w (rdisk r D :: F) :=
  Sat.shut_ex B (Sat.shut_ex (f := fun p : List Buf × List (Nat × Buf) × Value × Value => all [fact (ROk p.1 p.2.1 B D), row r 124 #[p.2.2.1, p.2.2.2, .int .i64 (leftZ D.left)], own 30 1 p.2.2.1 p.1.length (p.1.map (·.1)), own 126 2 p.2.2.2 p.2.1.length (flatP p.2.1), pool B]) (safe, pend, vS, vP) (Sat.shut_all (L := [_, _, _, _, _]) (Sat.put_fact H h)))

set_option maxHeartbeats 400000 in
theorem rpending {w : World} {r : Nat} {D : Dsk} {F : List HP} (H : Sat w (rdisk r D :: F)) :
    Calls Try.prog 78 #[.pointer (some ⟨r, 0, none⟩)] w fun e w' => e = .returned (.int .i64 D.pend.length) ∧ w = w' := by
  obtain ⟨safe, pend, vS, vP, B, hok, H⟩ := H.rd_open
  have hl : D.pend.length = pend.length := by rw [hok.out.dp]; simp
  rw [hl]
  clear hl
  have hc := H.cell 1
  obtain ⟨A, c, rfl, -, -, -⟩ := H.b2.own_form
  go_enter Try.func78, Try.ntmps78
  go_wp2_with fail
  go_ret
  exact ⟨rfl, rfl⟩

set_option maxHeartbeats 400000 in
theorem rgoes_no {w : World} {r : Nat} {D : Dsk} {F : List HP} (H : Sat w (rdisk r D :: F)) (hl : D.left = some 0) :
    Calls Try.prog 73 #[.pointer (some ⟨r, 0, none⟩)] w fun e w' => e = .returned (.bool false) ∧ w = w' := by
  obtain ⟨safe, pend, vS, vP, B, hok, H⟩ := H.rd_open
  rw [hl] at H
  have hc := H.cell 2
  go_enter Try.func73, Try.ntmps73
  go_wp2_with fail
  go_ret
  exact ⟨rfl, rfl⟩

set_option maxHeartbeats 400000 in
theorem rgoes_yes {w : World} {r : Nat} {D : Dsk} {F : List HP} (H : Sat w (rdisk r D :: F)) (hl : D.left ≠ some 0) :
    Calls Try.prog 73 #[.pointer (some ⟨r, 0, none⟩)] w fun e w' => e = .returned (.bool true) ∧ Sat w' (rdisk r { D with left := D.left.map (· - 1) } :: F) ∧ Env w w' := by
  have H0 := Lib.hid H
  obtain ⟨safe, pend, vS, vP, B, hok, H⟩ := H.rd_open
  obtain ⟨S, P, left⟩ := D
  dsimp only at hl H ⊢
  cases left with
  | none =>
    have hc : w.cell? ⟨r, 2, none⟩ = some (.int .i64 (-1)) := H.cell 2
    go_enter Try.func73, Try.ntmps73
    go_wp2_with fail
    go_ret
    exact ⟨rfl, H0.out, Env.refl w⟩
  | some k =>
    have hk : k ≠ 0 := fun h => hl (by rw [h])
    have hc : w.cell? ⟨r, 2, none⟩ = some (.int .i64 k) := H.cell 2
    have hf := H.free 2
    have h0 : ((k : Int) == 0) = false := by simp; omega
    have hk1 : (0 : Int) < (k : Int) := by omega
    have hk9 := hok.out.after k rfl
    have e1 : IntKind.i64.wrap ((k : Int) - 1) = ((k - 1 : Nat) : Int) := by rw [IntWalk.i64_in _ (by omega)]; omega
    have HK9 := Lib.hid hk9
    clear hl hk hk9
    go_enter Try.func73, Try.ntmps73
    go_wp2_with fail
    go_ret
    have H2 := H.set (i := 2) (.int .i64 ((k - 1 : Nat) : Int))
    have hok := hok.out
    exact ⟨rfl, Sat.rd_shut safe pend vS vP B ⟨hok.ds, hok.dp, hok.good, hok.pgood, hok.full, fun j hj => by cases hj; have := HK9.out; show k - 1 ≤ _; omega, hok.some_⟩ H2, (Env.refl w).set _ _⟩

set_option maxHeartbeats 400000 in
theorem rstop {w : World} {r : Nat} {D : Dsk} {F : List HP} (x : Int) (H : Sat w (rdisk r D :: F)) (hx : x ≤ 9223372036854775807) :
    Calls Try.prog 42 #[.pointer (some ⟨r, 0, none⟩), .int .i64 x] w fun e w' => e = .returned (.tuple #[]) ∧ Sat w' (rdisk r { D with left := some x.toNat } :: F) ∧ Env w w' := by
  obtain ⟨safe, pend, vS, vP, B, hok, H⟩ := H.rd_open
  have hx' := Lib.hid hx
  clear hx
  have hc := H.cell 2
  have hf := H.free 2
  go_enter Try.func42, Try.ntmps42
  by_cases h : x < 0
  · have e0 : x.toNat = 0 := by omega
    rw [e0]
    go_wp2_with fail
    go_end0
    have H2 := H.set (i := 2) (.int .i64 0)
    have hok := hok.out
    exact ⟨rfl, Sat.rd_shut safe pend vS vP B ⟨hok.ds, hok.dp, hok.good, hok.pgood, hok.full, fun j hj => by cases hj; omega, hok.some_⟩ H2, (Env.refl w).set _ _⟩
  · have H2 := H.set (i := 2) (.int .i64 x)
    go_wp2_with fail
    go_end0
    have hok := hok.out
    refine ⟨rfl, Sat.rd_shut safe pend vS vP B ⟨hok.ds, hok.dp, hok.good, hok.pgood, hok.full, fun j hj => by cases hj; have := hx'.out; omega, hok.some_⟩ ?_, (Env.refl w).set _ _⟩
    have e0 : leftZ (some x.toNat) = x := by show ((x.toNat : Nat) : Int) = x; omega
    dsimp only
    rw [e0]
    exact H2

theorem Try.info_rwrite : (Try.prog.info? 126).map (fun i => (i.zero, i.size, i.bytes)) = some (some (.agg #[.int .i64 0, .slice none 0 0]), 2, 32) := by kernel_rfl

set_option maxHeartbeats 2000000 in
set_option maxRecDepth 100000 in
theorem rnew {w : World} {F : List HP} (n : Nat) (H : Sat w F) (hn : n ≤ 8192) :
    Calls Try.prog 37 #[.int .i64 n] w fun e w' => ∃ r, e = .returned (.pointer (some ⟨r, 0, none⟩)) ∧ Sat w' (rdisk r (newD n) :: F) ∧ Env w w' := by
  go_enter Try.func37, Try.ntmps37
  go_upto_region 2 with fail
  have H1 := ((H.alloc (.cells #[.slice none 0 0, .slice none 0 0, .int .i64 (-1)] 124)).own_nil 30 1).b1.pool_new.b2.b2
  have E1 := (Env.refl w).alloc (.cells #[.slice none 0 0, .slice none 0 0, .int .i64 (-1)] 124)
  generalize w.alloc (.cells #[.slice none 0 0, .slice none 0 0, .int .i64 (-1)] 124) = w1 at *
  generalize w.heap.size = r at *
  clear H
  go_wp2_with fail
  go_loopw [4] (fun i wr => ∃ (k : Nat) (safe B : List Buf) (vS : Value), k ≤ n ∧ i = .int .i64 k ∧ Hid (safe.length = k ∧ (∀ p ∈ safe, p ∈ B ∧ p.2 = noughts) ∧ ∀ p ∈ B, p.2.length = 128) ∧ Sat wr (row r 124 #[vS, .slice none 0 0, .int .i64 (-1)] :: own 30 1 vS k (safe.map (·.1)) :: pool B :: F) ∧ Env w wr) (fun i _ => n - (intOf i).toNat)
  case atStart => exact ⟨0, [], [], .slice none 0 0, by omega, rfl, ⟨rfl, by simp, by simp⟩, H1, E1⟩
  case round =>
    clear H1 E1
    obtain ⟨k, safe, B, vS, hk, rfl, hs, H2, E2⟩ := hrel
    obtain ⟨AS, cS, rfl, -, -, -⟩ := H2.b1.own_form
    by_cases hlt : k < n
    · have x0 : wr.drew.cell? ⟨r, 0, none⟩ = some (.slice AS k cS) := H2.drew.cell 0
      go_upto_region 5 with fail
      refine region_aside2 (fun w' => w'.cell? ⟨r, 0, none⟩ = some (.slice AS k cS)) 10 _ (by kernel_rfl) rfl rfl rfl (by kernel_rfl) (by kernel_rfl) x0 (fun hHeld => ?_)
      simp only [setAside, List.setIfInBounds_toArray, List.set_cons_zero, List.set_cons_succ]
      refine' wpAnyH_take (i := 0) (oi := _) (v := _) rfl (by kernel_rfl) (by kernel_rfl) (by kernel_rfl) (fun _ _ _ h => h) (Or.inl ⟨by rfl, ?hy0⟩) hHeld ?rest0
      case hy0 => (intro w' hSw; (try dsimp only at hSw); go_simp; try with_reducible rfl)
      simp only [List.getElem_toArray, List.getElem_cons_zero, List.getElem_cons_succ, Act.put, List.setIfInBounds_toArray, List.set_cons_zero, List.set_cons_succ]
      refine' wpAnyH_take (i := 1) (oi := _) (v := _) rfl (by kernel_rfl) (by kernel_rfl) (by kernel_rfl) (fun _ _ _ h => h) (Or.inl ⟨by rfl, ?hy1⟩) hHeld ?rest1
      case hy1 => (intro w' hSw; (try dsimp only at hSw); go_simp; try with_reducible rfl)
      simp only [List.getElem_toArray, List.getElem_cons_zero, List.getElem_cons_succ, Act.put, List.setIfInBounds_toArray, List.set_cons_zero, List.set_cons_succ]
      refine' wpAnyH_take (i := 2) (oi := _) (v := _) rfl (by kernel_rfl) (by kernel_rfl) (by kernel_rfl) (fun _ _ _ h => h) (Or.inl ⟨by rfl, ?hy2⟩) hHeld ?rest2
      case hy2 => (intro w' hSw; (try dsimp only at hSw); go_simp; try with_reducible rfl)
      simp only [List.getElem_toArray, List.getElem_cons_zero, List.getElem_cons_succ, Act.put, List.setIfInBounds_toArray, List.set_cons_zero, List.set_cons_succ]
      refine' wpAnyH_take (i := 3) (oi := _) (v := _) rfl (by kernel_rfl) (by kernel_rfl) (by kernel_rfl) (fun _ _ _ h => h) (Or.inl ⟨by rfl, ?hy3⟩) hHeld ?rest3
      case hy3 => (intro w' hSw; (try dsimp only at hSw); go_simp; try with_reducible rfl)
      simp only [List.getElem_toArray, List.getElem_cons_zero, List.getElem_cons_succ, Act.put, List.setIfInBounds_toArray, List.set_cons_zero, List.set_cons_succ]
      refine' wpAnyH_take (i := 4) (oi := _) (v := _) rfl (by kernel_rfl) (by kernel_rfl) (by kernel_rfl) (fun _ _ _ h => h) (Or.inl ⟨by rfl, ?hy4⟩) hHeld ?rest4
      case hy4 => (intro w' hSw; (try dsimp only at hSw); go_simp; try with_reducible rfl)
      simp only [List.getElem_toArray, List.getElem_cons_zero, List.getElem_cons_succ, Act.put, List.setIfInBounds_toArray, List.set_cons_zero, List.set_cons_succ]
      refine wpAnyH_ready (rs := [5]) (by kernel_rfl) (by simp) ?_
      refine AllReadyH.cons (o := _) rfl (fun K hK => ?_) AllReadyH.nil
      refine step_make_sat rfl _ _ 30 rfl H2.drew 5 (.int .u8 0) 1 1 Try.underlying30 Try.info_byte _ _ 128 rfl rfl (by omega) (by simp only [maxLen]; omega) ?_
      intro w3 H3 E3
      rw [made_byte] at H3
      generalize wr.drew.heap.size = g3 at H3 ⊢
      refine hK.out _ _ (H3.b1.cell 0) (fun hHeld2 => ?_)
      clear hK K
      try simp only [List.getElem_toArray, List.getElem_cons_zero, List.getElem_cons_succ, Act.put, List.setIfInBounds_toArray, List.set_cons_zero, List.set_cons_succ]
      refine wpAnyH_ready (rs := [6]) (by kernel_rfl) (by simp) ?_
      refine AllReadyH.cons (o := _) rfl (fun K hK => ?_) AllReadyH.nil
      rw [if_pos (by rfl)]
      go_simp
      have H4 := H3.b2.alloc' (.cells #[.slice (some ⟨g3, 0, none⟩) 128 128] 30)
      refine hK.out _ _ (H4.b2.cell 0) (fun hHeld3 => ?_)
      clear hK K
      try simp only [List.getElem_toArray, List.getElem_cons_zero, List.getElem_cons_succ, Act.put, List.setIfInBounds_toArray, List.set_cons_zero, List.set_cons_succ]
      refine wpAnyH_ready (rs := [7]) (by kernel_rfl) (by simp) ?_
      refine AllReadyH.cons (o := _) rfl (fun K hK => ?_) AllReadyH.nil
      refine step_append_sat rfl (.tmp 16) (.tmp 18) 39 rfl H4 rfl _ 24 Try.underlying39 Try.info_bytes rfl (by omega) _ _ _ [.slice (some ⟨g3, 0, none⟩) 128 128] rfl (fun h => by cases h) rfl (lit_src _ _ _ _ rfl) (by simp [Value.oneCell']) (by simp only [maxLen]; omega) (by omega) ?_
      intro v5 w5 H5 E5
      obtain ⟨A5, c5, rfl, -, -, -⟩ := H5.own_form
      refine hK.out _ _ (H5.b2.cell 0) (fun hHeld4 => ?_)
      clear hK K
      try simp only [List.getElem_toArray, List.getElem_cons_zero, List.getElem_cons_succ, Act.put, List.setIfInBounds_toArray, List.set_cons_zero, List.set_cons_succ]
      refine' wpAnyH_take (i := 8) (oi := _) (v := _) rfl (by kernel_rfl) (by kernel_rfl) (by kernel_rfl) (fun _ _ _ h => h) (Or.inl ⟨by rfl, ?hy8⟩) hHeld4 ?rest8
      case hy8 => (intro w' hSw; (try dsimp only at hSw); go_simp; try with_reducible rfl)
      simp only [List.getElem_toArray, List.getElem_cons_zero, List.getElem_cons_succ, Act.put, List.setIfInBounds_toArray, List.set_cons_zero, List.set_cons_succ]
      refine' wpAnyH_take (i := 9) (oi := _) (v := _) rfl (by kernel_rfl) (by kernel_rfl) (by kernel_rfl) (fun _ _ _ h => h) (Or.inl ⟨by rfl, ?hy9⟩) hHeld4 ?rest9
      case hy9 => (intro w' hSw; (try dsimp only at hSw); go_simp; try with_reducible rfl)
      simp only [List.getElem_toArray, List.getElem_cons_zero, List.getElem_cons_succ, Act.put, List.setIfInBounds_toArray, List.set_cons_zero, List.set_cons_succ]
      refine' wpAnyH_take (i := 10) (oi := _) (v := _) rfl (by kernel_rfl) (by kernel_rfl) (by kernel_rfl) (fun _ _ _ h => h) (Or.inl ⟨by rfl, ?hy10⟩) hHeld4 ?rest10
      case hy10 => (intro w' hSw; (try dsimp only at hSw); go_simp; try with_reducible rfl)
      try simp only [List.getElem_toArray, List.getElem_cons_zero, List.getElem_cons_succ, Act.put, List.setIfInBounds_toArray, List.set_cons_zero, List.set_cons_succ]
      refine wpAnyH_done (by kernel_rfl) ?_ _
      show Oper.wp _ _ _ _ _ _
      have c0 := H5.b2.cell 0
      have f0 := H5.b2.free 0
      have H6 := H5.b2.set (i := 0) (.slice A5 (k + 1) c5)
      have E6 := (((E2.drew.trans E3).alloc (.cells #[.slice (some ⟨g3, 0, none⟩) 128 128] 30)).trans E5).set ⟨r, 0, none⟩ (.slice A5 (k + 1) c5)
      go_simp
      generalize w5.setCell ⟨r, 0, none⟩ (.slice A5 (k + 1) c5) = w6 at *
      have H7 := (H6.b3.b3.pool_add (xs := noughts)).p2
      have hs7 := Lib.hid (show (safe ++ [((.slice (some ⟨g3, 0, none⟩) 128 128, noughts) : Buf)]).length = k + 1 ∧ (∀ p ∈ safe ++ [((.slice (some ⟨g3, 0, none⟩) 128 128, noughts) : Buf)], p ∈ ((.slice (some ⟨g3, 0, none⟩) 128 128, noughts) : Buf) :: B ∧ p.2 = noughts) ∧ ∀ p ∈ ((.slice (some ⟨g3, 0, none⟩) 128 128, noughts) : Buf) :: B, p.2.length = 128 from by
        have hs := hs.out
        refine ⟨by rw [List.length_append, hs.1]; rfl, fun p hp => ?_, fun p hp => ?_⟩
        · rcases List.mem_append.1 hp with hp | hp
          · exact ⟨List.mem_cons_of_mem _ (hs.2.1 p hp).1, (hs.2.1 p hp).2⟩
          · rw [List.mem_singleton.1 hp]; exact ⟨List.mem_cons_self, rfl⟩
        · rcases List.mem_cons.1 hp with rfl | hp
          · exact noughts_len
          · exact hs.2.2 p hp)
      clear c0 f0 H2 H3 H4 H5 E2 E3 E5 hHeld hHeld2 hHeld3 hHeld4 x0 hs
      go_wp2_with fail
      go_roundw
      case rel => exact ⟨k + 1, _, _, _, by omega, by go_num, hs7.out, by simpa using H7, E6⟩
      case measure => simp [intOf]; omega
    · obtain rfl : k = n := by omega
      go_wp2_with fail
      go_ret
      have hs := hs.out
      refine ⟨r, rfl, Sat.rd_shut safe [] (.slice AS k cS) (.slice none 0 0) B ⟨?_, rfl, fun p hp => (hs.2.1 p hp).1, by simp, hs.2.2, fun j hj => (by cases hj), by rw [hs.1]; exact hn⟩ ?_, E2⟩
      · show List.replicate k noughts = _
        symm
        rw [List.eq_replicate_iff]
        refine ⟨by rw [List.length_map, hs.1], fun x hx => ?_⟩
        obtain ⟨p, hp, rfl⟩ := List.mem_map.1 hx
        exact (hs.2.1 p hp).2
      · rw [hs.1]
        exact (H2.own_nil 126 2).p2

theorem rd_eq {safe : List Buf} {pend : List (Nat × Buf)} {B : List Buf} {D : Dsk} (h : ROk safe pend B D) (n : Nat) : D.rd n = ((lastP pend n).getD (safe.getD n (.slice none 0 0, noughts))).2 := by
  unfold Dsk.rd
  rw [h.ds, h.dp, lastP_map (fun p : Buf => p.2)]
  cases lastP pend n with
  | some p => rfl
  | none =>
    show (safe.map (·.2)).getD n noughts = (safe.getD n (.slice none 0 0, noughts)).2
    rw [List.getD_eq_getElem?_getD, List.getD_eq_getElem?_getD, List.getElem?_map]
    cases safe[n]? <;> rfl

set_option maxHeartbeats 1000000 in
theorem rread_no {w : World} {r : Nat} {D : Dsk} {F : List HP} (n : Int) (H : Sat w (rdisk r D :: F)) (hn : n < 0 ∨ D.safe.length ≤ n) :
    Calls Try.prog 79 #[.pointer (some ⟨r, 0, none⟩), .int .i64 n] w fun e w' => e = .returned (.tuple #[.slice none 0 0, .bool false]) ∧ w = w' := by
  obtain ⟨safe, pend, vS, vP, B, hok, H⟩ := H.rd_open
  have hl : D.safe.length = safe.length := by rw [hok.out.ds]; simp
  rw [hl] at hn
  clear hl
  have hc := H.cell 0
  obtain ⟨A, c, rfl, -, -, -⟩ := H.b1.own_form
  go_enter Try.func79, Try.ntmps79
  by_cases h : n < 0
  · go_wp2_with fail
    go_ret2
    exact ⟨rfl, rfl⟩
  · have h2 : (safe.length : Int) ≤ n := by omega
    go_wp2_with fail
    go_ret2
    exact ⟨rfl, rfl⟩

set_option maxHeartbeats 2000000 in
set_option maxRecDepth 100000 in
theorem rread {w : World} {r : Nat} {D : Dsk} {F : List HP} (n : Nat) (H : Sat w (rdisk r D :: F)) (hn : n < D.safe.length) (hp : D.pend.length < 4294967296) :
    Calls Try.prog 79 #[.pointer (some ⟨r, 0, none⟩), .int .i64 n] w fun e w' => ∃ v, e = .returned (.tuple #[v, .bool true]) ∧ Sat w' (own 5 1 v 128 (bytes (D.rd n)) :: rdisk r D :: F) ∧ Env w w' := by
  have H0 := Lib.hid H
  obtain ⟨safe, pend, vS, vP, B, hok, H⟩ := H.rd_open
  have HRD := Lib.hid (rd_eq hok.out n)
  have hns : n < safe.length := by rw [hok.out.ds] at hn; simpa using hn
  have hpl : pend.length < 4294967296 := by rw [hok.out.dp] at hp; simpa using hp
  clear hn hp
  have hc0 := H.cell 0
  have hc1 := H.cell 1
  obtain ⟨AP, cP, rfl, -, -, -⟩ := H.b2.own_form
  obtain ⟨gS, cS, rfl, -⟩ := H.b1.own_addr (by omega)
  have hmem := hok.out.good _ (List.getElem_mem hns)
  obtain ⟨v0, x0, hv0⟩ : ∃ v0 x0, safe[n] = (v0, x0) := ⟨_, _, rfl⟩
  rw [hv0] at hmem
  obtain ⟨g0, c0, rfl, -⟩ := (H.b3.pool_at hmem).own_addr (by omega)
  have hs0 := H.b1.own_cell n (.slice (some ⟨g0, 0, none⟩) 128 c0) (by simp [hns, hv0])
  have HV0 := Lib.hid (show safe.getD n (.slice none 0 0, noughts) = (.slice (some ⟨g0, 0, none⟩) 128 c0, x0) by rw [List.getD_eq_getElem?_getD, List.getElem?_eq_getElem hns, hv0]; rfl)
  have HM0 := Lib.hid hmem
  clear hv0 hmem
  have hni : (n : Int) < (safe.length : Int) := by omega
  go_enter Try.func79, Try.ntmps79
  go_wp2_with fail
  clear hs0 hc0
  go_loopw [6, 7] (fun s6 i wr => ∃ (k g c : Nat) (xs : List Int), k ≤ pend.length ∧ i = .int .i64 k ∧ wr = w ∧ s6 = .slice (some ⟨g, 0, none⟩) 128 c ∧ Hid ((.slice (some ⟨g, 0, none⟩) 128 c, xs) ∈ B ∧ (lastP (pend.take k) n).getD (safe.getD n (.slice none 0 0, noughts)) = (.slice (some ⟨g, 0, none⟩) 128 c, xs))) (fun _ i _ => pend.length - (intOf i).toNat)
  case atStart => exact ⟨0, g0, c0, x0, by omega, rfl, rfl, rfl, HM0.out, HV0.out⟩
  case round =>
    obtain ⟨k, g, c, xs, hk, rfl, rfl, rfl, hcur⟩ := hrel
    by_cases hlt : k < pend.length
    · obtain ⟨nk, vk, xk, hpk⟩ : ∃ nk vk xk, pend[k] = (nk, (vk, xk)) := ⟨_, _, _, rfl⟩
      have hpm := (hok.out.pgood (nk, (vk, xk)) (by rw [← hpk]; exact List.getElem_mem hlt)).2
      obtain ⟨gk, ck, rfl, -⟩ := (H.b3.pool_at hpm).own_addr (by omega)
      obtain ⟨gP, cP', hAP, -⟩ := H.b2.own_addr (by omega)
      cases hAP
      have hfp := flatP_get pend k hlt
      rw [hpk] at hfp
      have p1 := H.b2.own_cell _ _ hfp.1
      have p2 := H.b2.own_cell _ _ hfp.2
      have HT := Lib.hid (show pend.take (k + 1) = pend.take k ++ [(nk, (.slice (some ⟨gk, 0, none⟩) 128 ck, xk))] by rw [List.take_succ_eq_append_getElem hlt, hpk])
      have HPM := Lib.hid hpm
      clear hfp hpk hpm
      by_cases he : nk = n
      · subst he
        have hb : ((nk : Int) == (nk : Int)) = true := by simp
        go_wp2_with fail
        go_roundw
        case rel => exact ⟨k + 1, gk, ck, xk, by omega, by go_num, trivial, rfl, HPM.out, by rw [HT.out, lastP_snoc]; simp⟩
        case measure => simp [intOf]; omega
      · have hb : ((nk : Int) == (n : Int)) = false := by simp; omega
        have hcur2 := Lib.hid (show (lastP (pend.take (k + 1)) n).getD (safe.getD n (.slice none 0 0, noughts)) = (.slice (some ⟨g, 0, none⟩) 128 c, xs) by rw [HT.out, lastP_snoc, if_neg he]; exact hcur.out.2)
        go_wp2_with fail
        go_roundw
        case rel => exact ⟨k + 1, g, c, xs, by omega, by go_num, trivial, rfl, hcur.out.1, hcur2.out⟩
        case measure => simp [intOf]; omega
    · obtain rfl : k = pend.length := by omega
      have hb := Lib.hid (H.b3.pool_at hcur.out.1).own_at.1
      go_wp2_with (at_builtin; go_must (refine wpList_append_sat rfl (.tmp 53) (.tmp 54) 30 rfl (H0.out.own_lit 5 1 #[] 0 (by simp [maxLen]) rfl) rfl _ 1 Try.underlying30 Try.info_byte rfl (by omega) _ _ _ (bytes xs) rfl (by simp) hb.out.1 (hb.out.alloc _).src (bytes_one xs) (by simp only [maxLen]; omega) (by omega) ?_); intro v' w' H' E')
      go_ret2
      have hx : D.rd n = xs := by rw [HRD.out]; have := hcur.out.2; rw [List.take_length] at this; rw [this]
      exact ⟨_, rfl, by rw [hx]; simpa using H', ((Env.refl wr).alloc _).trans E'⟩
end Go.Proofs.Ythbabdjicplooaa
