/- disk.Copy: slices.Clone of sectors and of writes, maps.Clone. Conditions: fewer than 2^32 pending writes. -/
import Derived.Test.YthbabdjicplooaaRefC
import Derived.Shelf.SlMaps.Clone
namespace Go.Proofs.Ythbabdjicplooaa
open Go.RowKit


theorem Try.info_rows : (Try.prog.info? 30).map (fun i => (i.zero, i.size, i.bytes)) = some (some (.slice none 0 0), 1, 24) := by kernel_rfl
set_option maxHeartbeats 400000 in
/-- slices.Clone of what can be read: new memory. -/
theorem clone_rows {w : World} {F : List HP} (A : Option Addr) (n c : Nat) (xs : List Value) (H : Sat w F) (hr : Rd w 1 A n xs) (h1 : ∀ u ∈ xs, u.oneCell' = true) (hsz : n < 4294967296) :
    Calls Try.prog 75 #[.slice A n c] w fun e w' => ∃ v, e = .returned v ∧ Sat w' (own 30 1 v n xs :: F) ∧ Env w w' := by
  have he := fun w => Go.Lib.run_eql_slice_nil (P := Try.prog) w 39 30 A n c 0 0 Try.underlying39
  have HR := Lib.hid hr
  have H1 := Lib.hid h1
  clear hr h1
  cases A with
  | none =>
    have h0 : n = 0 := HR.out.src_none (by omega) rfl
    subst h0
    have hl : xs = [] := List.eq_nil_of_length_eq_zero (by simpa using HR.out.1)
    subst hl
    go_enter Try.func75, Try.ntmps75
    go_wp2
    go_ret
    exact ⟨_, rfl, H.own_nil _ _, Env.refl w⟩
  | some a =>
    go_enter Try.func75, Try.ntmps75
    go_wp2_with (at_builtin; go_must (refine wpList_append_sat rfl (.tmp 5) (.tmp 6) 39 rfl (H.own_lit 30 1 #[] 0 (by simp [maxLen]) rfl) rfl _ 24 Try.underlying39 Try.info_rows rfl (by omega) _ _ _ xs rfl (by simp) HR.out.1 (HR.out.alloc _).src H1.out (by simp only [maxLen]; omega) (by omega) ?_); intro v' w' H' E')
    go_ret
    exact ⟨_, rfl, by simpa using H', ((Env.refl w).alloc _).trans E'⟩

theorem Try.info_writes : (Try.prog.info? 117).map (fun i => (i.zero, i.size, i.bytes)) = some (some (.agg #[.int .i64 0, .slice none 0 0]), 2, 32) := by kernel_rfl
set_option maxHeartbeats 400000 in
/-- slices.Clone of what can be read: new memory. -/
theorem clone_writes {w : World} {F : List HP} (A : Option Addr) (n c : Nat) (xs : List Value) (H : Sat w F) (hr : Rd w 2 A n xs) (h1 : ∀ u ∈ xs, u.oneCell' = true) (hsz : n < 4294967296) :
    Calls Try.prog 77 #[.slice A n c] w fun e w' => ∃ v, e = .returned v ∧ Sat w' (own 117 2 v n xs :: F) ∧ Env w w' := by
  have he := fun w => Go.Lib.run_eql_slice_nil (P := Try.prog) w 112 117 A n c 0 0 Try.underlying112
  have HR := Lib.hid hr
  have H1 := Lib.hid h1
  clear hr h1
  cases A with
  | none =>
    have h0 : n = 0 := HR.out.src_none (by omega) rfl
    subst h0
    have hl : xs = [] := List.eq_nil_of_length_eq_zero (by simpa using HR.out.1)
    subst hl
    go_enter Try.func77, Try.ntmps77
    go_wp2
    go_ret
    exact ⟨_, rfl, H.own_nil _ _, Env.refl w⟩
  | some a =>
    go_enter Try.func77, Try.ntmps77
    go_wp2_with (at_builtin; go_must (refine wpList_append_sat rfl (.tmp 5) (.tmp 6) 112 rfl (H.own_lit 117 2 #[] 0 (by simp [maxLen]) rfl) rfl _ 32 Try.underlying112 Try.info_writes rfl (by omega) _ _ _ xs rfl (by simp) HR.out.1 (HR.out.alloc _).src H1.out (by simp only [maxLen]; omega) (by omega) ?_); intro v' w' H' E')
    go_ret
    exact ⟨_, rfl, by simpa using H', ((Env.refl w).alloc _).trans E'⟩
theorem oneRows {w : World} {B : List Buf} {F : List HP} (H : Sat w (pool B :: F)) {safe : List Buf} (hg : ∀ p ∈ safe, Good B p) : ∀ u ∈ safe.map (·.1), u.oneCell' = true := by
  intro u hu
  obtain ⟨p, hp, rfl⟩ := List.mem_map.1 hu
  rcases hg p hp with rfl | hb
  · rfl
  · obtain ⟨g, c, hv, -⟩ := (H.pool_at hb).own_addr (by omega)
    rw [hv]; rfl
theorem oneWrites {w : World} {B : List Buf} {F : List HP} (H : Sat w (pool B :: F)) {pend : List (Nat × Buf)} (hg : ∀ p ∈ pend, p.2 ∈ B) : ∀ u ∈ flatP pend, u.oneCell' = true := by
  intro u hu
  simp only [flatP, List.mem_flatMap] at hu
  obtain ⟨p, hp, hx⟩ := hu
  simp only [List.mem_cons, List.not_mem_nil, or_false] at hx
  rcases hx with rfl | rfl
  · rfl
  · obtain ⟨g, c, hv, -⟩ := (H.pool_at (hg p hp)).own_addr (by omega)
    rw [hv]; rfl

set_option maxHeartbeats 2000000 in
set_option maxRecDepth 100000 in
theorem mclone {w : World} {b : Nat} {m : List (Int × Value)} {F : List HP} (H : Sat w (imap b m :: F)) :
    Calls Try.prog 76 #[.map (some b)] w fun e w' => ∃ b', e = .returned (.map (some b')) ∧ Sat w' (imap b' m :: imap b m :: F) ∧ Env w w' := by
  have hq := fun w => run_eql_map_nil_sl (P := Try.prog) w 113 _ _ (some b) Try.underlying113
  obtain ⟨es, clock, hb, hm⟩ := H.imap_get
  go_enter Try.func76, Try.ntmps76
  go_wp2
  rw [run_callFunc_extern Try.func100 (by kernel_rfl) (by kernel_rfl) (by kernel_rfl) (e := Extern.MapsClone.clone) (by kernel_rfl), run_maps_clone_sl w 113 hb]
  simp only [Result.andThen]
  rw [Oper.upon_value]
  go_wp2
  rw [run_typeAssert_map_sl _ 113 20 _ _ _ Try.underlying113]
  simp only [Result.andThen]
  rw [Oper.upon_value]
  go_wp2
  go_ret
  refine ⟨w.heap.size, rfl, ?_, (Env.refl w).alloc _⟩
  exact (H.alloc (.map es clock)).imp fun _ h => ⟨h.1, es, clock, h.2, hm⟩

set_option maxHeartbeats 4000000 in
set_option maxRecDepth 100000 in
theorem copy_any {w : World} {d : Nat} {B : List Buf} {D : Dsk} {F : List HP} (H : Sat w (dk d B D :: pool B :: F)) (hp : D.pend.length < 4294967296) :
    Calls Try.prog 44 #[.pointer (some ⟨d, 0, none⟩)] w fun e w' => ∃ c, e = .returned (.pointer (some ⟨c, 0, none⟩)) ∧ Sat w' (dk c B D :: dk d B D :: pool B :: F) ∧ Env w w' := by
  obtain ⟨safe, last, pend, stops, after, vS, vP, mb, hok, habs, H1⟩ := H.dk_open
  have hpl : pend.length < 4294967296 := by have h := congrArg (fun D => D.pend.length) habs.out; simp only [List.length_map] at h; omega
  have hsl : safe.length < 4294967296 := by have := hok.out.some_; dsimp only at this; omega
  clear hp H
  obtain ⟨AS, cS, rfl, -, -, -⟩ := H1.b1.own_form
  obtain ⟨AP, cP, rfl, -, -, -⟩ := H1.b3.own_form
  have x0 := H1.cell 0
  have x1 := H1.cell 1
  have x2 := H1.cell 2
  have x3 := H1.cell 3
  have x4 := H1.cell 4
  have HO1 := Lib.hid (oneRows H1.b4 hok.out.good)
  have HO2 := Lib.hid (oneWrites H1.b4 (fun p hp => (hok.out.pgood p hp).2))
  have HS1 := Lib.hid hsl
  have HP1 := Lib.hid hpl
  clear hsl hpl
  go_enter Try.func44, Try.ntmps44
  go_upto_region 1 with fail
  go_region_held3 (fun w' => w'.cell? ⟨d, 0, none⟩ = some (.slice AS safe.length cS) ∧ w'.cell? ⟨d, 1, none⟩ = some (.map (some mb)) ∧ w'.cell? ⟨d, 2, none⟩ = some (.slice AP pend.length cP) ∧ w'.cell? ⟨d, 3, none⟩ = some (.bool stops) ∧ w'.cell? ⟨d, 4, none⟩ = some (.int .i64 after)) (first | exact ⟨x0, x1, x2, x3, x4⟩ | exact ⟨H4.b1.cell 0, H4.b1.cell 1, H4.b1.cell 2, H4.b1.cell 3, H4.b1.cell 4⟩ | exact ⟨H5.b3.cell 0, H5.b3.cell 1, H5.b3.cell 2, H5.b3.cell 3, H5.b3.cell 4⟩ | exact ⟨H6.b4.cell 0, H6.b4.cell 1, H6.b4.cell 2, H6.b4.cell 3, H6.b4.cell 4⟩ | exact ⟨cell_alloc _ _ _ (H6.b4.cell 0), cell_alloc _ _ _ (H6.b4.cell 1), cell_alloc _ _ _ (H6.b4.cell 2), cell_alloc _ _ _ (H6.b4.cell 3), cell_alloc _ _ _ (H6.b4.cell 4)⟩) (first
    | (go_at_call 75; refine (clone_rows AS safe.length cS _ H1.drew H1.drew.b1.own_at.1 HO1.out HS1.out).mono ?_; rintro e w4 ⟨v4, rfl, H4, E4⟩; obtain ⟨A4, c4, rfl, -, -, -⟩ := H4.own_form)
    | (go_at_call 76; refine (mclone H4.b3).mono ?_; rintro e w5 ⟨b5, rfl, H5, E5⟩)
    | (go_at_call 77; refine (clone_writes AP pend.length cP _ H5 H5.b5.own_at.1 HO2.out HP1.out).mono ?_; rintro e w6 ⟨v6, rfl, H6, E6⟩; obtain ⟨A6, c6, rfl, -, -, -⟩ := H6.own_form))
  have H7 := H6.alloc (.cells #[.slice A4 safe.length c4, .map (some b5), .slice A6 pend.length c6, .bool stops, .int .i64 after] 115)
  have E7 := ((((Env.refl w).drew.trans E4).trans E5).trans E6).alloc (.cells #[.slice A4 safe.length c4, .map (some b5), .slice A6 pend.length c6, .bool stops, .int .i64 after] 115)
  generalize w6.alloc (.cells #[.slice A4 safe.length c4, .map (some b5), .slice A6 pend.length c6, .bool stops, .int .i64 after] 115) = w7 at *
  generalize w6.heap.size = c at *
  clear x0 x1 x2 x3 x4 H1 H4 H5 H6 E4 E5 E6
  go_wp2_with fail
  go_ret
  have hok := hok.out
  have H8 := Sat.dk_shut (d := c) (B := B) (D := D) ⟨safe, last, pend, stops, after, .slice A4 safe.length c4, .slice A6 pend.length c6, b5⟩ ⟨hok.good, hok.pgood, hok.last, hok.after, hok.full, hok.some_⟩ habs.out.symm H7.b4.b1.b3.p2
  have H9 := Sat.dk_shut (d := d) (B := B) (D := D) ⟨safe, last, pend, stops, after, .slice AS safe.length cS, .slice AP pend.length cP, mb⟩ hok habs.out.symm H8.b2.b3.b1.b3.p2.b4.p3
  exact ⟨c, rfl, H9.b1, E7⟩
end Go.Proofs.Ythbabdjicplooaa
