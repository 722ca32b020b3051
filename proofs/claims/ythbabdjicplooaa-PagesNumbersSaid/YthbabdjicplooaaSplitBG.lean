/- One disk with its buffers as one chunk, and chapter 3's helpers: sector, begun, first. Conditions: none. -/
import Derived.Test.YthbabdjicplooaaDiskC
import Derived.Test.YthbabdjicplooaaSplitG
namespace Go.Proofs.Ythbabdjicplooaa
open Go.RowKit Go.WideShapes

def disk (d : Nat) (D : Dsk) : HP := ex fun B => all [dk d B D, pool B]
theorem Sat.disk_open {w : World} {d : Nat} {D : Dsk} {F : List HP} (H : Sat w (disk d D :: F)) : ∃ B, Sat w (dk d B D :: pool B :: F) := by
  obtain ⟨B, H⟩ := H.open_ex
  exact ⟨B, H.open_all⟩
theorem Sat.disk_shut {w : World} {d : Nat} {B : List Buf} {D : Dsk} {F : List HP} (H : Sat w (dk d B D :: pool B :: F)) : Sat w (disk d D :: F) := Sat.shut_ex B (Sat.shut_all (L := [_, _]) H)

theorem dnew {w : World} {F : List HP} (n : Nat) (H : Sat w F) (h1 : 1 ≤ n) (h2 : n ≤ 8192) :
    Calls Try.prog 34 #[.int .i64 n] w fun e w' => ∃ d, e = .returned (.tuple #[.pointer (some ⟨d, 0, none⟩), .int .i64 0]) ∧ Sat w' (disk d (newD n) :: F) ∧ Env w w' :=
  (new_any n H h1 h2).mono fun _ _ ⟨d, he, h, hE⟩ => ⟨d, he, (h.pool_new.b1).disk_shut, hE⟩
theorem dpending {w : World} {d : Nat} {D : Dsk} {F : List HP} (H : Sat w (disk d D :: F)) :
    Calls Try.prog 27 #[.pointer (some ⟨d, 0, none⟩)] w fun e w' => e = .returned (.int .i64 D.pend.length) ∧ w = w' := by
  obtain ⟨B, H⟩ := H.disk_open
  exact pending_any H
theorem dsectors {w : World} {d : Nat} {D : Dsk} {F : List HP} (H : Sat w (disk d D :: F)) :
    Calls Try.prog 35 #[.pointer (some ⟨d, 0, none⟩)] w fun e w' => e = .returned (.int .i64 D.safe.length) ∧ w = w' := by
  obtain ⟨B, H⟩ := H.disk_open
  exact sectors_any H
theorem dstop {w : World} {d : Nat} {D : Dsk} {F : List HP} (x : Int) (H : Sat w (disk d D :: F)) (hx : x ≤ 9223372036854775807) :
    Calls Try.prog 33 #[.pointer (some ⟨d, 0, none⟩), .int .i64 x] w fun e w' => e = .returned (.tuple #[]) ∧ Sat w' (disk d { D with left := some x.toNat } :: F) ∧ Env w w' := by
  obtain ⟨B, H⟩ := H.disk_open
  exact (stop_any x H hx).mono fun _ _ ⟨he, h, hE⟩ => ⟨he, h.disk_shut, hE⟩
theorem dread {w : World} {d : Nat} {D : Dsk} {F : List HP} (n : Nat) (H : Sat w (disk d D :: F)) (hn : n < D.safe.length) :
    Calls Try.prog 26 #[.pointer (some ⟨d, 0, none⟩), .int .i64 n] w fun e w' => ∃ v, e = .returned (.tuple #[v, .int .i64 0]) ∧ Sat w' (own 5 1 v 128 (bytes (D.rd n)) :: disk d D :: F) ∧ Env w w' := by
  obtain ⟨B, H⟩ := H.disk_open
  exact (read_any n H hn).mono fun _ _ ⟨v, he, h, hE⟩ => ⟨v, he, h.p2.disk_shut.b1, hE⟩
theorem dread_no {w : World} {d : Nat} {D : Dsk} {F : List HP} (n : Int) (H : Sat w (disk d D :: F)) (hn : n < 0 ∨ D.safe.length ≤ n) :
    Calls Try.prog 26 #[.pointer (some ⟨d, 0, none⟩), .int .i64 n] w fun e w' => e = .returned (.tuple #[.slice none 0 0, .int .i64 1]) ∧ w = w' := by
  obtain ⟨B, H⟩ := H.disk_open
  exact read_no n H hn
theorem dwrite_arg {w : World} {d : Nat} {D : Dsk} {F : List HP} (n : Int) (A : Option Addr) (m c : Nat) (H : Sat w (disk d D :: F)) (hn : n < 0 ∨ D.safe.length ≤ n ∨ m ≠ 128) (hm : m < 4294967296) :
    Calls Try.prog 22 #[.pointer (some ⟨d, 0, none⟩), .int .i64 n, .slice A m c] w fun e w' => e = .returned (.int .i64 1) ∧ w = w' := by
  obtain ⟨B, H⟩ := H.disk_open
  exact write_arg n A m c H hn hm
theorem dwrite_stop {w : World} {d : Nat} {D : Dsk} {F : List HP} (n : Nat) (A : Option Addr) (c : Nat) (H : Sat w (disk d D :: F)) (hn : n < D.safe.length) (hl : D.left = some 0) :
    Calls Try.prog 22 #[.pointer (some ⟨d, 0, none⟩), .int .i64 n, .slice A 128 c] w fun e w' => e = .returned (.int .i64 13) ∧ w = w' := by
  obtain ⟨B, H⟩ := H.disk_open
  exact write_stop n A c H hn hl
theorem dwrite {w : World} {d : Nat} {D : Dsk} {F : List HP} (n : Nat) (A : Option Addr) (c : Nat) (xs : List Int) (H : Sat w (disk d D :: F)) (hr : Reads F 1 A 128 (bytes xs)) (hn : n < D.safe.length) (hl : D.left ≠ some 0) (hp : D.pend.length < 4294967296) :
    Calls Try.prog 22 #[.pointer (some ⟨d, 0, none⟩), .int .i64 n, .slice A 128 c] w fun e w' => e = .returned (.int .i64 0) ∧ Sat w' (disk d (D.write n xs) :: F) ∧ Env w w' := by
  obtain ⟨B, H⟩ := H.disk_open
  exact (write_ok n A c xs H hr hn hl hp).mono fun _ _ ⟨he, B', _, h, hE⟩ => ⟨he, h.disk_shut, hE⟩
theorem dflush {w : World} {d : Nat} {D : Dsk} {F : List HP} (H : Sat w (disk d D :: F)) (hl : D.left ≠ some 0) (hp : D.pend.length < 4294967296) :
    Calls Try.prog 24 #[.pointer (some ⟨d, 0, none⟩)] w fun e w' => e = .returned (.int .i64 0) ∧ Sat w' (disk d D.flush :: F) ∧ Env w w' := by
  obtain ⟨B, H⟩ := H.disk_open
  exact (flush_ok H hl hp).mono fun _ _ ⟨he, h, hE⟩ => ⟨he, h.disk_shut, hE⟩
theorem dflush_stop {w : World} {d : Nat} {D : Dsk} {F : List HP} (H : Sat w (disk d D :: F)) (hl : D.left = some 0) :
    Calls Try.prog 24 #[.pointer (some ⟨d, 0, none⟩)] w fun e w' => e = .returned (.int .i64 13) ∧ w = w' := by
  obtain ⟨B, H⟩ := H.disk_open
  exact flush_stop H hl
theorem dcrash {w : World} {d : Nat} {D : Dsk} {F : List HP} (AK : Option Addr) (nk ck : Nat) (keep : List Bool) (torn nb : Int) (H : Sat w (disk d D :: F)) (hr : Reads F 1 AK nk (keep.map (Value.bool))) (hp : D.pend.length < 4294967296) :
    Calls Try.prog 25 #[.pointer (some ⟨d, 0, none⟩), .agg #[.slice AK nk ck, .int .i64 torn, .int .i64 nb]] w fun e w' => e = .returned (.tuple #[]) ∧ Sat w' (disk d (D.crash keep torn nb) :: F) ∧ Env w w' := by
  obtain ⟨B, H⟩ := H.disk_open
  exact (crash_any AK nk ck keep torn nb H hr hp).mono fun _ _ ⟨he, B', _, h, hE⟩ => ⟨he, h.disk_shut, hE⟩

/-- The bytes of a sector that is made of a byte. -/
def sectorL (c : Int) (n : Nat) : List Int := (List.range n).map fun i => (c + (i % 7 : Nat)) % 256
theorem sectorL_len (c : Int) (n : Nat) : (sectorL c n).length = n := by simp [sectorL]
/-- On its way: k bytes are laid. -/
def sectorW (c : Int) (n k : Nat) : List Int := (List.range n).map fun i => if i < k then (c + (i % 7 : Nat)) % 256 else 0
theorem sectorW_zero (c : Int) (n : Nat) : sectorW c n 0 = List.replicate n 0 := by
  apply List.ext_getElem <;> simp [sectorW]
theorem sectorW_full (c : Int) (n : Nat) : sectorW c n n = sectorL c n := by
  apply List.ext_getElem
  · simp [sectorW, sectorL]
  · intro i h1 h2
    simp [sectorW] at h1
    simp [sectorW, sectorL, h1]
theorem sectorW_set (c : Int) (n k : Nat) (_ : k < n) : (sectorW c n k).set k ((c + (k % 7 : Nat)) % 256) = sectorW c n (k + 1) := by
  apply List.ext_getElem
  · simp [sectorW]
  · intro i h1 h2
    rw [List.getElem_set]
    by_cases hi : k = i
    · subst hi; simp [sectorW]
    · simp only [sectorW, List.getElem_map, List.getElem_range, if_neg hi]
      by_cases h3 : i < k
      · simp [h3, show i < k + 1 by omega]
      · simp [h3, show ¬ i < k + 1 by omega]

set_option maxHeartbeats 2000000 in
set_option maxRecDepth 100000 in
theorem sector_any {w : World} {F : List HP} (c : Int) (n : Nat) (H : Sat w F) (_ : 0 ≤ c ∧ c ≤ 255) (hn : n ≤ 8192) :
    Calls Try.prog 23 #[.int .u8 c, .int .i64 n] w fun e w' => ∃ v, e = .returned v ∧ Sat w' (own 5 1 v n (bytes (sectorL c n)) :: F) ∧ Env w w' := by
  go_enter Try.func23, Try.ntmps23
  go_wp2_with (at_make; go_must (refine wpList_make_sat rfl _ _ 30 rfl H 5 (.int .u8 0) 1 1 Try.underlying30 Try.info_byte _ _ n rfl rfl (by omega) (by simp only [maxLen]; omega) ?_); intro w2 H2 E2; rw [made_byte, ← sectorW_zero c] at H2)
  generalize w.heap.size = g at *
  go_loopw [6] (fun i wr => ∃ k : Nat, k ≤ n ∧ i = .int .i64 k ∧ Sat wr (own 5 1 (.slice (some ⟨g, 0, none⟩) n n) n (bytes (sectorW c n k)) :: F) ∧ Env w wr) (fun i _ => n - (intOf i).toNat)
  case atStart => exact ⟨0, by omega, rfl, H2, E2⟩
  case round =>
    obtain ⟨k, hk, rfl, H3, E3⟩ := hrel
    by_cases hlt : k < n
    · have hcell := H3.own_cell k (.int .u8 0) (by simp [bytes, sectorW, hlt])
      have hfree := H3.own_free (by omega) k
      have e1 : (k : Int).tmod 7 = ((k % 7 : Nat) : Int) := by rw [Int.tmod_eq_emod_of_nonneg (by omega)]; omega
      have e2 : IntKind.u8.wrap ((k % 7 : Nat) : Int) = ((k % 7 : Nat) : Int) := by simp [IntKind.wrap, IntKind.bits, IntKind.signed]; omega
      have e3 : IntKind.u8.wrap (c + ((k % 7 : Nat) : Int)) = (c + (k % 7 : Nat)) % 256 := by simp [IntKind.wrap, IntKind.bits, IntKind.signed]
      have H4 := H3.own_set (i := k) (by omega) (.int .u8 ((c + (k % 7 : Nat)) % 256))
      rw [show (bytes (sectorW c n k)).set k (.int .u8 ((c + (k % 7 : Nat)) % 256)) = bytes (sectorW c n (k + 1)) by rw [← sectorW_set c n k hlt, bytes, bytes, List.map_set]] at H4
      have HS4 := Lib.hid H4
      have HE4 := Lib.hid (E3.set ⟨g, k, none⟩ (.int .u8 ((c + (k % 7 : Nat)) % 256)))
      clear H4
      obtain ⟨k7, hk7⟩ : ∃ k7, k % 7 = k7 := ⟨_, rfl⟩
      rw [hk7] at e1 e2 e3 HS4 HE4
      clear hk7
      go_wp2_with fail
      go_roundw
      case rel => exact ⟨k + 1, by omega, by go_num, HS4.out, HE4.out⟩
      case measure => simp [intOf]; omega
    · obtain rfl : k = n := by omega
      rw [sectorW_full] at H3
      go_wp2_with fail
      go_ret
      exact ⟨_, rfl, H3, E3⟩

set_option maxHeartbeats 1000000 in
set_option maxRecDepth 100000 in
theorem begun_any {w : World} {F : List HP} (n : Nat) (H : Sat w F) (h1 : 1 ≤ n) (h2 : n ≤ 8192) :
    Calls Try.prog 21 #[.int .i64 n] w fun e w' => ∃ d, e = .returned (.tuple #[.pointer (some ⟨d, 0, none⟩), .bool true]) ∧ Sat w' (disk d (newD n) :: F) ∧ Env w w' := by
  go_enter Try.func21, Try.ntmps21
  go_wp2_with fail
  refine (dnew n H h1 h2).mono ?_
  rintro e w2 ⟨d, rfl, H2, E2⟩
  go_wp2_with fail
  go_ret2
  exact ⟨d, rfl, H2, E2⟩
end Go.Proofs.Ythbabdjicplooaa

/- A region's last store set aside, where it waits for the others directly or through one of them. Conditions: none. -/
namespace Go.Proofs.Ythbabdjicplooaa
open Go

/-- Operation i waits for operation j. -/
def waits1 (ops : Array Oper) (i j : Nat) : Bool := match ops[i]? with
  | some o => o.after.any fun e => Region.binds .any e && e.on == j
  | none => false
def sinkTwo (ops : Array Oper) (L : Nat) : Bool := (List.range ops.size).all fun j => j == L || waits1 ops L j || (List.range ops.size).any fun i => waits1 ops L i && waits1 ops i j
/-- What is listed has all that it waits for listed. -/
def Closed (ops : Array Oper) (listed : Array Bool) : Prop := ∀ i j, listed.getD i false = true → waits1 ops i j = true → listed.getD j false = true

section
variable {P : Program} {ops : Array Oper} {Q : Exit → Act → World → Prop} {L : Nat} {o : Oper}

theorem ready_waits {listed : Array Bool} {i j : Nat} (hi : i ∈ Region.ready .any ops listed) (h : waits1 ops i j = true) : listed.getD j false = true := by
  unfold Region.ready at hi
  rw [List.mem_filter] at hi
  unfold waits1 at h
  cases ho : ops[i]? with
  | none => rw [ho] at h; cases h
  | some x =>
    rw [ho] at h hi
    simp only [Option.map_some, Option.getD_some, Bool.and_eq_true, Array.all_eq_true_iff_forall_mem] at hi
    obtain ⟨e, he, hbo⟩ := Array.any_eq_true'.1 h
    simp only [Bool.and_eq_true, beq_iff_eq] at hbo
    have h2 := hi.2.2 e he
    rw [hbo.1, hbo.2] at h2
    simpa using h2
theorem getD_set_keep {listed : Array Bool} {i j : Nat} (h : listed.getD j false = true) : (listed.setIfInBounds i true).getD j false = true := by
  rw [Array.getD_eq_getD_getElem?] at h ⊢
  rw [Array.getElem?_setIfInBounds]
  split
  · split
    · rfl
    · rename_i h1 h2; subst h1; rw [Array.getElem?_eq_none (by omega)] at h; cases h
  · exact h
theorem Closed.step {listed : Array Bool} {i : Nat} (hc : Closed ops listed) (hi : i ∈ Region.ready .any ops listed) : Closed ops (listed.setIfInBounds i true) := by
  intro k j hk hw
  by_cases h : k = i
  · subst h; exact getD_set_keep (ready_waits hi hw)
  · refine getD_set_keep (hc k j ?_ hw)
    rw [Array.getD_eq_getD_getElem?] at hk ⊢
    rw [Array.getElem?_setIfInBounds, if_neg (fun e => h e.symm)] at hk
    exact hk

theorem ready_none2 (_ : ops[L]? = some o) (hk : sinkTwo ops L = true) (listed : Array Bool) (hs : listed.size = ops.size) (hc : Closed ops listed) (hr : L ∈ Region.ready .any ops listed) : Region.ready .any ops (listed.setIfInBounds L true) = [] := by
  unfold Region.ready
  rw [List.filter_eq_nil_iff]
  intro j hj
  have hjl := List.mem_range.1 hj
  have : (listed.setIfInBounds L true).getD j true = true := by
    by_cases h : L = j
    · rw [Array.getD_eq_getD_getElem?, Array.getElem?_setIfInBounds]
      simp [h, show j < listed.size by omega]
    · have hk1 := List.all_eq_true.1 hk j hj
      simp only [Bool.or_eq_true, beq_iff_eq] at hk1
      have hl : listed.getD j false = true := by
        rcases hk1 with (hk1 | hk1) | hk1
        · exact absurd hk1.symm h
        · exact ready_waits hr hk1
        · obtain ⟨i, _, hi⟩ := List.any_eq_true.1 hk1
          simp only [Bool.and_eq_true] at hi
          exact hc i j (ready_waits hr hi.1) hi.2
      have := getD_set_keep (i := L) hl
      rw [Array.getD_eq_getD_getElem?] at this ⊢
      cases hx : (listed.setIfInBounds L true)[j]? with
      | none => rfl
      | some b => rw [hx] at this; exact this
  simp [this]

theorem wpAny_aside2 (hL : ops[L]? = some o) (hd : o.dst = none) (hg : o.guard = none) (hb : backOnly ops = true) (hk : sinkTwo ops L = true) : ∀ (fuel : Nat) (listed : Array Bool) (a : Act) (w : World), listed.size = ops.size → listed.getD L true = false → Closed ops listed →
    wpAny P .any (ops.setIfInBounds L (setAside o)) (lastQ P o Q) fuel listed a w → wpAny P .any ops Q fuel listed a w
  | 0, listed, a, w, hs, hl, _, h => by
    obtain ⟨i, hi⟩ := ready_ex hL hb listed hs hl
    have := h.1
    rw [ready_aside hL] at this
    rw [this] at hi; cases hi
  | fuel + 1, listed, a, w, hs, hl, hc, h => by
    obtain ⟨i0, hi0⟩ := ready_ex hL hb listed hs hl
    refine ⟨fun hr => (by rw [hr] at hi0; cases hi0), fun i hi => ?_⟩
    have h2 := h.2 i (by rw [ready_aside hL]; exact hi)
    by_cases hiL : i = L
    · subst hiL
      unfold wpOp at h2 ⊢
      rw [get_aside hL, if_pos rfl] at h2
      rw [hL]
      have hw1 : ∀ y, Region.wanted (setAside o) y = true := by intro y; unfold Region.wanted setAside; rw [hg]
      have hw2 : ∀ y, Region.wanted o y = true := by intro y; unfold Region.wanted; rw [hg]
      dsimp only at h2 ⊢
      rw [if_pos (hw1 _)] at h2
      rw [if_pos (hw2 _)]
      have hput : (a.put (setAside o).dst undef) = a := by simp [setAside, hd, Act.put]
      rcases h2 with h2 | ⟨h2, -⟩
      · left
        have h3 : wpAny P .any (ops.setIfInBounds i (setAside o)) (lastQ P o Q) fuel (listed.setIfInBounds i true) a w := by
          unfold Oper.wp execOp at h2
          simp only [setAside, Sem.run_pure, Oper.upon] at h2
          have h2' : wpAny P .any (ops.setIfInBounds i (setAside o)) (lastQ P o Q) fuel (listed.setIfInBounds i true) (a.put (setAside o).dst undef) w := h2
          rwa [hput] at h2'
        have hrn := ready_none2 hL hk listed hs hc hi
        have hrn' := hrn
        rw [← ready_aside hL] at hrn'
        have h4 : lastQ P o Q .normal a w := by
          cases fuel with
          | zero => exact h3.2
          | succ n => exact h3.1 hrn'
        refine Oper.wp_mono (fun a' w' hq => ?_) h4
        cases fuel with
        | zero => exact ⟨hrn, hq⟩
        | succ n => exact ⟨fun _ => hq, fun j hj => by rw [hrn] at hj; cases hj⟩
      · exfalso
        have h5 := h2.1
        unfold execOp at h5
        simp only [setAside] at h5
        exact absurd (show noRoomEvent ∈ (#[] : Array Event) from h5) (by simp)
    · refine wpOp_aside hL hd hiL (fun a' w' h' => ?_) h2
      refine wpAny_aside2 hL hd hg hb hk fuel _ a' w' (by simpa using hs) ?_ (hc.step hi) h'
      rw [Array.getD_eq_getD_getElem?] at hl ⊢
      rw [Array.getElem?_setIfInBounds, if_neg hiL]
      exact hl

theorem region_aside2 {id : Nat} {a : Act} {w : World} (S : World → Prop) (L : Nat) (o : Oper) (hm : P.follows .mixedOrders = true) (hL : ops[L]? = some o) (hd : o.dst = none) (hg : o.guard = none) (hb : backOnly ops = true) (hk : sinkTwo ops L = true)
    (hS : S w.drew) (h : S w.drew → wpAnyH P .any (ops.setIfInBounds L (setAside o)) (lastQ P o Q) S ops.size (Array.replicate ops.size false) a w.drew) : (Code.region id ops true).wp P Q a w := by
  have hlt : L < ops.size := (Array.getElem?_eq_some_iff.1 hL).1
  refine wp_region_any hm (wpAny_aside2 hL hd hg hb hk _ _ _ _ (by simp) ?_ ?_ (wpAny_of_held _ _ _ _ (h hS)))
  · rw [Array.getD_eq_getD_getElem?, Array.getElem?_replicate, if_pos hlt]; rfl
  · intro i j hi _
    rw [Array.getD_eq_getD_getElem?, Array.getElem?_replicate] at hi
    split at hi <;> cases hi
end
end Go.Proofs.Ythbabdjicplooaa
