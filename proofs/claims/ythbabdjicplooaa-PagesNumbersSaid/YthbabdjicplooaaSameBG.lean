/- disk.Copy: slices.Clone of sectors and of writes, maps.Clone. Conditions: fewer than 2^32 pending writes. -/
import Derived.Test.YthbabdjicplooaaRefC
import Derived.Shelf.SlMaps.Clone
import Derived.Test.YthbabdjicplooaaDiskOrderPlainG
import Derived.Test.YthbabdjicplooaaCore
import Derived.Test.YthbabdjicplooaaProg
import Derived.Deep.QuietTactic
import Derived.BigQuiet
import Derived.WalkMore
namespace Go.Proofs.Ythbabdjicplooaa
open Go.RowKit


theorem Try.info_rows : (Try.prog.info? 30).map (fun i => (i.zero, i.size, i.bytes)) = some (some (.slice none 0 0), 1, 24) := by kernel_rfl
set_option maxHeartbeats 400000 in
/-- slices.Clone of what can be read: new memory. -/
theorem clone_rows {w : World} {F : List HP} (A : Option Addr) (n c : Nat) (xs : List Value) (H : Sat w F) (hr : Rd w 1 A n xs) (h1 : ∀ u ∈ xs, u.oneCell' = true) (hsz : n < 4294967296) :
    Calls Try.prog 75 #[.slice A n c] w fun e w' => ∃ v, e = .returned v ∧ Sat w' (own 30 1 v n xs :: F) ∧ Env w w' := by
  have he := fun w => Go.Lib.run_eql_slice_nil (P := Try.prog) w 39 30 A n c 0 0 Try.underlying39
  have HR := Lib.hid hr
  have H1 := Lib.hid h1
  clear hr h1
  cases A with
  | none =>
    have h0 : n = 0 := HR.out.src_none (by omega) rfl
    subst h0
    have hl : xs = [] := List.eq_nil_of_length_eq_zero (by simpa using HR.out.1)
    subst hl
    go_enter Try.func75, Try.ntmps75
    go_wp2
    go_ret
    exact ⟨_, rfl, H.own_nil _ _, Env.refl w⟩
  | some a =>
    go_enter Try.func75, Try.ntmps75
    go_wp2_with (at_builtin; go_must (refine wpList_append_sat rfl (.tmp 5) (.tmp 6) 39 rfl (H.own_lit 30 1 #[] 0 (by simp [maxLen]) rfl) rfl _ 24 Try.underlying39 Try.info_rows rfl (by omega) _ _ _ xs rfl (by simp) HR.out.1 (HR.out.alloc _).src H1.out (by simp only [maxLen]; omega) (by omega) ?_); intro v' w' H' E')
    go_ret
    exact ⟨_, rfl, by simpa using H', ((Env.refl w).alloc _).trans E'⟩

theorem Try.info_writes : (Try.prog.info? 117).map (fun i => (i.zero, i.size, i.bytes)) = some (some (.agg #[.int .i64 0, .slice none 0 0]), 2, 32) := by kernel_rfl
set_option maxHeartbeats 400000 in
/-- slices.Clone of what can be read: new memory. -/
theorem clone_writes {w : World} {F : List HP} (A : Option Addr) (n c : Nat) (xs : List Value) (H : Sat w F) (hr : Rd w 2 A n xs) (h1 : ∀ u ∈ xs, u.oneCell' = true) (hsz : n < 4294967296) :
    Calls Try.prog 77 #[.slice A n c] w fun e w' => ∃ v, e = .returned v ∧ Sat w' (own 117 2 v n xs :: F) ∧ Env w w' := by
  have he := fun w => Go.Lib.run_eql_slice_nil (P := Try.prog) w 112 117 A n c 0 0 Try.underlying112
  have HR := Lib.hid hr
  have H1 := Lib.hid h1
  clear hr h1
  cases A with
  | none =>
    have h0 : n = 0 := HR.out.src_none (by omega) rfl
    subst h0
    have hl : xs = [] := List.eq_nil_of_length_eq_zero (by simpa using HR.out.1)
    subst hl
    go_enter Try.func77, Try.ntmps77
    go_wp2
    go_ret
    exact ⟨_, rfl, H.own_nil _ _, Env.refl w⟩
  | some a =>
    go_enter Try.func77, Try.ntmps77
    go_wp2_with (at_builtin; go_must (refine wpList_append_sat rfl (.tmp 5) (.tmp 6) 112 rfl (H.own_lit 117 2 #[] 0 (by simp [maxLen]) rfl) rfl _ 32 Try.underlying112 Try.info_writes rfl (by omega) _ _ _ xs rfl (by simp) HR.out.1 (HR.out.alloc _).src H1.out (by simp only [maxLen]; omega) (by omega) ?_); intro v' w' H' E')
    go_ret
    exact ⟨_, rfl, by simpa using H', ((Env.refl w).alloc _).trans E'⟩
theorem oneRows {w : World} {B : List Buf} {F : List HP} (H : Sat w (pool B :: F)) {safe : List Buf} (hg : ∀ p ∈ safe, Good B p) : ∀ u ∈ safe.map (·.1), u.oneCell' = true := by
  intro u hu
  obtain ⟨p, hp, rfl⟩ := List.mem_map.1 hu
  rcases hg p hp with rfl | hb
  · rfl
  · obtain ⟨g, c, hv, -⟩ := (H.pool_at hb).own_addr (by omega)
    rw [hv]; rfl
theorem oneWrites {w : World} {B : List Buf} {F : List HP} (H : Sat w (pool B :: F)) {pend : List (Nat × Buf)} (hg : ∀ p ∈ pend, p.2 ∈ B) : ∀ u ∈ flatP pend, u.oneCell' = true := by
  intro u hu
  simp only [flatP, List.mem_flatMap] at hu
  obtain ⟨p, hp, hx⟩ := hu
  simp only [List.mem_cons, List.not_mem_nil, or_false] at hx
  rcases hx with rfl | rfl
  · rfl
  · obtain ⟨g, c, hv, -⟩ := (H.pool_at (hg p hp)).own_addr (by omega)
    rw [hv]; rfl

set_option maxHeartbeats 2000000 in
set_option maxRecDepth 100000 in
theorem mclone {w : World} {b : Nat} {m : List (Int × Value)} {F : List HP} (H : Sat w (imap b m :: F)) :
    Calls Try.prog 76 #[.map (some b)] w fun e w' => ∃ b', e = .returned (.map (some b')) ∧ Sat w' (imap b' m :: imap b m :: F) ∧ Env w w' := by
  have hq := fun w => run_eql_map_nil_sl (P := Try.prog) w 113 _ _ (some b) Try.underlying113
  obtain ⟨es, clock, hb, hm⟩ := H.imap_get
  go_enter Try.func76, Try.ntmps76
  go_wp2
  rw [run_callFunc_extern Try.func100 (by kernel_rfl) (by kernel_rfl) (by kernel_rfl) (e := Extern.MapsClone.clone) (by kernel_rfl), run_maps_clone_sl w 113 hb]
  simp only [Result.andThen]
  rw [Oper.upon_value]
  go_wp2
  rw [run_typeAssert_map_sl _ 113 20 _ _ _ Try.underlying113]
  simp only [Result.andThen]
  rw [Oper.upon_value]
  go_wp2
  go_ret
  refine ⟨w.heap.size, rfl, ?_, (Env.refl w).alloc _⟩
  exact (H.alloc (.map es clock)).imp fun _ h => ⟨h.1, es, clock, h.2, hm⟩

set_option maxHeartbeats 4000000 in
set_option maxRecDepth 100000 in
theorem copy_any {w : World} {d : Nat} {B : List Buf} {D : Dsk} {F : List HP} (H : Sat w (dk d B D :: pool B :: F)) (hp : D.pend.length < 4294967296) :
    Calls Try.prog 44 #[.pointer (some ⟨d, 0, none⟩)] w fun e w' => ∃ c, e = .returned (.pointer (some ⟨c, 0, none⟩)) ∧ Sat w' (dk c B D :: dk d B D :: pool B :: F) ∧ Env w w' := by
  obtain ⟨safe, last, pend, stops, after, vS, vP, mb, hok, habs, H1⟩ := H.dk_open
  have hpl : pend.length < 4294967296 := by have h := congrArg (fun D => D.pend.length) habs.out; simp only [List.length_map] at h; omega
  have hsl : safe.length < 4294967296 := by have := hok.out.some_; dsimp only at this; omega
  clear hp H
  obtain ⟨AS, cS, rfl, -, -, -⟩ := H1.b1.own_form
  obtain ⟨AP, cP, rfl, -, -, -⟩ := H1.b3.own_form
  have x0 := H1.cell 0
  have x1 := H1.cell 1
  have x2 := H1.cell 2
  have x3 := H1.cell 3
  have x4 := H1.cell 4
  have HO1 := Lib.hid (oneRows H1.b4 hok.out.good)
  have HO2 := Lib.hid (oneWrites H1.b4 (fun p hp => (hok.out.pgood p hp).2))
  have HS1 := Lib.hid hsl
  have HP1 := Lib.hid hpl
  clear hsl hpl
  go_enter Try.func44, Try.ntmps44
  go_upto_region 1 with fail
  go_region_held3 (fun w' => w'.cell? ⟨d, 0, none⟩ = some (.slice AS safe.length cS) ∧ w'.cell? ⟨d, 1, none⟩ = some (.map (some mb)) ∧ w'.cell? ⟨d, 2, none⟩ = some (.slice AP pend.length cP) ∧ w'.cell? ⟨d, 3, none⟩ = some (.bool stops) ∧ w'.cell? ⟨d, 4, none⟩ = some (.int .i64 after)) (first | exact ⟨x0, x1, x2, x3, x4⟩ | exact ⟨H4.b1.cell 0, H4.b1.cell 1, H4.b1.cell 2, H4.b1.cell 3, H4.b1.cell 4⟩ | exact ⟨H5.b3.cell 0, H5.b3.cell 1, H5.b3.cell 2, H5.b3.cell 3, H5.b3.cell 4⟩ | exact ⟨H6.b4.cell 0, H6.b4.cell 1, H6.b4.cell 2, H6.b4.cell 3, H6.b4.cell 4⟩ | exact ⟨cell_alloc _ _ _ (H6.b4.cell 0), cell_alloc _ _ _ (H6.b4.cell 1), cell_alloc _ _ _ (H6.b4.cell 2), cell_alloc _ _ _ (H6.b4.cell 3), cell_alloc _ _ _ (H6.b4.cell 4)⟩) (first
    | (go_at_call 75; refine (clone_rows AS safe.length cS _ H1.drew H1.drew.b1.own_at.1 HO1.out HS1.out).mono ?_; rintro e w4 ⟨v4, rfl, H4, E4⟩; obtain ⟨A4, c4, rfl, -, -, -⟩ := H4.own_form)
    | (go_at_call 76; refine (mclone H4.b3).mono ?_; rintro e w5 ⟨b5, rfl, H5, E5⟩)
    | (go_at_call 77; refine (clone_writes AP pend.length cP _ H5 H5.b5.own_at.1 HO2.out HP1.out).mono ?_; rintro e w6 ⟨v6, rfl, H6, E6⟩; obtain ⟨A6, c6, rfl, -, -, -⟩ := H6.own_form))
  have H7 := H6.alloc (.cells #[.slice A4 safe.length c4, .map (some b5), .slice A6 pend.length c6, .bool stops, .int .i64 after] 115)
  have E7 := ((((Env.refl w).drew.trans E4).trans E5).trans E6).alloc (.cells #[.slice A4 safe.length c4, .map (some b5), .slice A6 pend.length c6, .bool stops, .int .i64 after] 115)
  generalize w6.alloc (.cells #[.slice A4 safe.length c4, .map (some b5), .slice A6 pend.length c6, .bool stops, .int .i64 after] 115) = w7 at *
  generalize w6.heap.size = c at *
  clear x0 x1 x2 x3 x4 H1 H4 H5 H6 E4 E5 E6
  go_wp2_with fail
  go_ret
  have hok := hok.out
  have H8 := Sat.dk_shut (d := c) (B := B) (D := D) ⟨safe, last, pend, stops, after, .slice A4 safe.length c4, .slice A6 pend.length c6, b5⟩ ⟨hok.good, hok.pgood, hok.last, hok.after, hok.full, hok.some_⟩ habs.out.symm H7.b4.b1.b3.p2
  have H9 := Sat.dk_shut (d := d) (B := B) (D := D) ⟨safe, last, pend, stops, after, .slice AS safe.length cS, .slice AP pend.length cP, mb⟩ hok habs.out.symm H8.b2.b3.b1.b3.p2.b4.p3
  exact ⟨c, rfl, H9.b1, E7⟩
end Go.Proofs.Ythbabdjicplooaa

/- deponentlaw3.alike: a disk and the document's disk that mean the same are alike. Conditions: fewer than 2^32 pending writes. -/
namespace Go.Proofs.Ythbabdjicplooaa
open Go.RowKit

theorem conv_nil (w : World) : (convert 30 9 (.slice none 0 0)).run Try.prog w = .ok (.string ByteArray.empty) w := by
  rw [run_convert_bytes_string w 30 9 5 none 0 0 Try.underlying30 Try.underlying5 Try.underlying9]; rfl

set_option maxHeartbeats 8000000 in
set_option maxRecDepth 100000 in
theorem alike_any {w : World} {d r : Nat} {B : List Buf} {D : Dsk} {F : List HP} (H : Sat w (dk d B D :: pool B :: rdisk r D :: F)) (hp : D.pend.length < 4294967296) (hs : D.safe.length ≤ 8192) :
    Calls Try.prog 45 #[.pointer (some ⟨d, 0, none⟩), .pointer (some ⟨r, 0, none⟩)] w fun e w' => e = .returned (.bool true) ∧ Sat w' (dk d B D :: pool B :: rdisk r D :: F) ∧ Env w w' := by
  have hcell : ∀ w, Sat w (dk d B D :: pool B :: rdisk r D :: F) → ∃ AS cS, w.cell? ⟨r, 0, none⟩ = some (.slice AS D.safe.length cS) := by
    intro w H
    obtain ⟨safe, pend, vS, vP, B', hok, H3⟩ := H.b2.rd_open
    obtain ⟨AS, cS, rfl, -, -, -⟩ := H3.b1.own_form
    exact ⟨AS, cS, by rw [hok.out.ds, List.length_map]; exact H3.cell 0⟩
  have HC := Lib.hid hcell
  clear hcell
  obtain ⟨AS, cS, x0⟩ := HC.out w H
  have HS1 := Lib.hid (sectors_any H.drew)
  have HP1 := Lib.hid (pending_any H.drew)
  have HP2 := Lib.hid (rpending H.drew.b2)
  have hN : D.safe.length < 8193 := by omega
  have HPP := Lib.hid hp
  obtain ⟨N, hNe⟩ : ∃ N, D.safe.length = N := ⟨_, rfl⟩
  have HNE := Lib.hid hNe
  obtain ⟨M, hMe⟩ : ∃ M, D.pend.length = M := ⟨_, rfl⟩
  rw [hNe] at x0 HS1 hN HC
  rw [hMe] at HP1 HP2
  clear hNe hMe hp hs
  go_enter Try.func45, Try.ntmps45
  go_upto_region 1 with fail
  go_region_held3 (fun w' => w'.cell? ⟨r, 0, none⟩ = some (.slice AS N cS)) (first | exact x0) (first
    | (go_at_call 35; refine (HS1.out).mono ?_; rintro e w4 ⟨rfl, rfl⟩)
    | (go_at_call 27; refine (HP1.out).mono ?_; rintro e w5 ⟨rfl, rfl⟩)
    | (go_at_call 78; refine (HP2.out).mono ?_; rintro e w6 ⟨rfl, rfl⟩))
  have H1 := H.drew
  have E1 := (Env.refl w).drew
  generalize w.drew = w1 at *
  clear H x0 HS1 HP1 HP2
  go_wp2_with fail
  go_loopw [5] (fun i wr => ∃ k : Nat, k ≤ N + 2 ∧ i = .int .i64 ((k : Int) - 1) ∧ Sat wr (dk d B D :: pool B :: rdisk r D :: F) ∧ Env w wr) (fun i _ => N + 2 - (intOf i + 1).toNat)
  case atStart => exact ⟨0, by omega, rfl, H1, E1⟩
  case round =>
    clear H1 E1
    obtain ⟨k, hk, rfl, H2, E2⟩ := hrel
    obtain ⟨AR, cR, x0⟩ := HC.out wr H2
    by_cases hlt : k < N + 2
    · have hw : IntKind.i64.wrap ((k : Int) - 1 + 1) = ((k + 1 : Nat) : Int) - 1 := by rw [IntWalk.i64_in _ (by omega)]; omega
      have hle : (k : Int) - 1 ≤ (N : Int) := by omega
      by_cases hin : 1 ≤ k ∧ k ≤ N
      · obtain ⟨n, rfl⟩ : ∃ n, k = n + 1 := ⟨k - 1, by omega⟩
        have hn1 : ((n + 1 : Nat) : Int) - 1 = (n : Int) := by omega
        rw [hn1] at hw hle ⊢
        have hnN : n < D.safe.length := by rw [HNE.out]; omega
        go_wp2_with fail
        refine (read_any n H2 hnN).mono ?_
        rintro e w3 ⟨v3, rfl, H3, E3⟩
        obtain ⟨A3, c3, rfl, -, -, -⟩ := H3.own_form
        go_wp2_with fail
        refine (rread n H3.b3 hnN HPP.out).mono ?_
        rintro e w4 ⟨v4, rfl, H4, E4⟩
        obtain ⟨A4, c4, rfl, -, -, -⟩ := H4.own_form
        have q1 := conv_rd (c := c3) H4.b2.own_at.1 (by omega)
        have q2 := conv_rd (c := c4) H4.own_at.1 (by omega)
        have H5 := H4.tail.b1.tail.b2.b2
        have E5 := (E2.trans E3).trans E4
        generalize strOfNums (D.rd n) = st at q1 q2
        clear H2 H3 H4 E2 E3 E4 hnN
        go_wp2_with fail
        go_roundw
        case rel => exact ⟨n + 2, by omega, by first | (simp; done) | (simp; omega), H5, E5⟩
        case measure => simp [intOf]; omega
      · have hno : (k : Int) - 1 < 0 ∨ (D.safe.length : Int) ≤ (k : Int) - 1 := by rw [HNE.out]; omega
        have q := conv_nil wr
        go_wp2_with fail
        refine (read_no ((k : Int) - 1) H2 hno).mono ?_
        rintro e w3 ⟨rfl, rfl⟩
        go_wp2_with fail
        refine (rread_no ((k : Int) - 1) H2.b2 hno).mono ?_
        rintro e w4 ⟨rfl, rfl⟩
        go_wp2_with fail
        go_roundw
        case rel => exact ⟨k + 1, by omega, by first | (simp; done) | (simp; omega), H2, E2⟩
        case measure => simp [intOf]; omega
    · obtain rfl : k = N + 2 := by omega
      have hle : ¬ ((N + 2 : Nat) : Int) - 1 ≤ (N : Int) := by omega
      go_wp2_with fail
      go_ret
      exact ⟨rfl, H2, E2⟩
end Go.Proofs.Ythbabdjicplooaa

/- deponentbook.Same at byte. Conditions: fewer than 2^32 elements. -/
namespace Go.Proofs.Ythbabdjicplooaa
open Go.RowKit Go.WideShapes

set_option maxHeartbeats 400000 in
/-- deponentbook.Same of two lists that read the same: true. -/
theorem same_byte (A B : Option Addr) (n c d : Nat) (l : List Int) (w : World) (hsz : n < 4294967296)
    (hr1 : Rd w 1 A n (l.map (Value.int .u8))) (hr2 : Rd w 1 B n (l.map (Value.int .u8))) :
    Calls Try.prog 71 #[.slice A n c, .slice B n d] w fun e w' => e = .returned (.bool true) ∧ ∃ q, w' = w.drewN q := by
  have HN1 := Lib.hid (show n = l.length by have := hr1.1; simpa using this.symm)
  have HR1 := Lib.hid hr1
  have HR2 := Lib.hid hr2
  clear hr1 hr2
  go_enter Try.func71, Try.ntmps71
  go_wp2
  go_loopw [5] (fun i wr => ∃ k : Nat, k ≤ n ∧ i = .int .i64 k ∧ ∃ q, wr = w.drewN q) (fun i _ => n - (intOf i).toNat)
  case atStart => exact ⟨0, by omega, rfl, 0, rfl⟩
  case round =>
    obtain ⟨k, hk, rfl, q, rfl⟩ := hrel
    by_cases hlt : k < n
    · have hk1 : k < l.length := by have := HN1.out; omega
      have HY1 := Lib.hid (List.getElem?_eq_getElem hk1)
      obtain ⟨b1, o1, rfl, hc1⟩ := HR1.out.2 k _ (by rw [List.getElem?_map, HY1.out]; rfl)
      obtain ⟨b2, o2, rfl, hc2⟩ := HR2.out.2 k _ (by rw [List.getElem?_map, HY1.out]; rfl)
      generalize l[k] = y at hc1 hc2
      clear HY1
      go_wp2
      go_quiet (fail)
      go_wp2
      go_roundw
      case rel => exact ⟨k + 1, by omega, by go_num, _, rfl⟩
      case measure => simp [intOf]; omega
    · go_wp2
      go_ret
      exact ⟨rfl, _, rfl⟩

end Go.Proofs.Ythbabdjicplooaa
