/- deponentlaw3.alike: a disk and the document's disk that mean the same are alike. Conditions: fewer than 2^32 pending writes. -/
import Derived.Test.YthbabdjicplooaaCopyD
import Derived.Test.YthbabdjicplooaaDiskOrderPlain
namespace Go.Proofs.Ythbabdjicplooaa
open Go.RowKit

theorem conv_nil (w : World) : (convert 30 9 (.slice none 0 0)).run Try.prog w = .ok (.string ByteArray.empty) w := by
  rw [run_convert_bytes_string w 30 9 5 none 0 0 Try.underlying30 Try.underlying5 Try.underlying9]; rfl

set_option maxHeartbeats 8000000 in
set_option maxRecDepth 100000 in
theorem alike_any {w : World} {d r : Nat} {B : List Buf} {D : Dsk} {F : List HP} (H : Sat w (dk d B D :: pool B :: rdisk r D :: F)) (hp : D.pend.length < 4294967296) (hs : D.safe.length ≤ 8192) :
    Calls Try.prog 45 #[.pointer (some ⟨d, 0, none⟩), .pointer (some ⟨r, 0, none⟩)] w fun e w' => e = .returned (.bool true) ∧ Sat w' (dk d B D :: pool B :: rdisk r D :: F) ∧ Env w w' := by
  have hcell : ∀ w, Sat w (dk d B D :: pool B :: rdisk r D :: F) → ∃ AS cS, w.cell? ⟨r, 0, none⟩ = some (.slice AS D.safe.length cS) := by
    intro w H
    obtain ⟨safe, pend, vS, vP, B', hok, H3⟩ := H.b2.rd_open
    obtain ⟨AS, cS, rfl, -, -, -⟩ := H3.b1.own_form
    exact ⟨AS, cS, by rw [hok.out.ds, List.length_map]; exact H3.cell 0⟩
  have HC := Lib.hid hcell
  clear hcell
  obtain ⟨AS, cS, x0⟩ := HC.out w H
  have HS1 := Lib.hid (sectors_any H.drew)
  have HP1 := Lib.hid (pending_any H.drew)
  have HP2 := Lib.hid (rpending H.drew.b2)
  have hN : D.safe.length < 8193 := by omega
  have HPP := Lib.hid hp
  obtain ⟨N, hNe⟩ : ∃ N, D.safe.length = N := ⟨_, rfl⟩
  have HNE := Lib.hid hNe
  obtain ⟨M, hMe⟩ : ∃ M, D.pend.length = M := ⟨_, rfl⟩
  rw [hNe] at x0 HS1 hN HC
  rw [hMe] at HP1 HP2
  clear hNe hMe hp hs
  go_enter Try.func45, Try.ntmps45
  go_upto_region 1 with fail
  go_region_held3 (fun w' => w'.cell? ⟨r, 0, none⟩ = some (.slice AS N cS)) (first | exact x0) (first
    | (go_at_call 35; refine (HS1.out).mono ?_; rintro e w4 ⟨rfl, rfl⟩)
    | (go_at_call 27; refine (HP1.out).mono ?_; rintro e w5 ⟨rfl, rfl⟩)
    | (go_at_call 78; refine (HP2.out).mono ?_; rintro e w6 ⟨rfl, rfl⟩))
  have H1 := H.drew
  have E1 := (Env.refl w).drew
  generalize w.drew = w1 at *
  clear H x0 HS1 HP1 HP2
  go_wp2_with fail
  go_loopw [5] (fun i wr => ∃ k : Nat, k ≤ N + 2 ∧ i = .int .i64 ((k : Int) - 1) ∧ Sat wr (dk d B D :: pool B :: rdisk r D :: F) ∧ Env w wr) (fun i _ => N + 2 - (intOf i + 1).toNat)
  case atStart => exact ⟨0, by omega, rfl, H1, E1⟩
  case round =>
    clear H1 E1
    obtain ⟨k, hk, rfl, H2, E2⟩ := hrel
    obtain ⟨AR, cR, x0⟩ := HC.out wr H2
    by_cases hlt : k < N + 2
    · have hw : IntKind.i64.wrap ((k : Int) - 1 + 1) = ((k + 1 : Nat) : Int) - 1 := by rw [IntWalk.i64_in _ (by omega)]; omega
      have hle : (k : Int) - 1 ≤ (N : Int) := by omega
      by_cases hin : 1 ≤ k ∧ k ≤ N
      · obtain ⟨n, rfl⟩ : ∃ n, k = n + 1 := ⟨k - 1, by omega⟩
        have hn1 : ((n + 1 : Nat) : Int) - 1 = (n : Int) := by omega
        rw [hn1] at hw hle ⊢
        have hnN : n < D.safe.length := by rw [HNE.out]; omega
        go_wp2_with fail
        refine (read_any n H2 hnN).mono ?_
        rintro e w3 ⟨v3, rfl, H3, E3⟩
        obtain ⟨A3, c3, rfl, -, -, -⟩ := H3.own_form
        go_wp2_with fail
        refine (rread n H3.b3 hnN HPP.out).mono ?_
        rintro e w4 ⟨v4, rfl, H4, E4⟩
        obtain ⟨A4, c4, rfl, -, -, -⟩ := H4.own_form
        have q1 := conv_rd (c := c3) H4.b2.own_at.1 (by omega)
        have q2 := conv_rd (c := c4) H4.own_at.1 (by omega)
        have H5 := H4.tail.b1.tail.b2.b2
        have E5 := (E2.trans E3).trans E4
        generalize strOfNums (D.rd n) = st at q1 q2
        clear H2 H3 H4 E2 E3 E4 hnN
        go_wp2_with fail
        go_roundw
        case rel => exact ⟨n + 2, by omega, by first | (simp; done) | (simp; omega), H5, E5⟩
        case measure => simp [intOf]; omega
      · have hno : (k : Int) - 1 < 0 ∨ (D.safe.length : Int) ≤ (k : Int) - 1 := by rw [HNE.out]; omega
        have q := conv_nil wr
        go_wp2_with fail
        refine (read_no ((k : Int) - 1) H2 hno).mono ?_
        rintro e w3 ⟨rfl, rfl⟩
        go_wp2_with fail
        refine (rread_no ((k : Int) - 1) H2.b2 hno).mono ?_
        rintro e w4 ⟨rfl, rfl⟩
        go_wp2_with fail
        go_roundw
        case rel => exact ⟨k + 1, by omega, by first | (simp; done) | (simp; omega), H2, E2⟩
        case measure => simp [intOf]; omega
    · obtain rfl : k = N + 2 := by omega
      have hle : ¬ ((N + 2 : Nat) : Int) - 1 ≤ (N : Int) := by omega
      go_wp2_with fail
      go_ret
      exact ⟨rfl, H2, E2⟩
end Go.Proofs.Ythbabdjicplooaa
