/- package pages: Put. Conditions: epochs below 190. -/
import Derived.Test.YthbabdjicplooaaPageI
namespace Go.Proofs.Ythbabdjicplooaa
open Go.RowKit

/-- A Put has gone, or the disk has stopped in its midst. -/
structure PutW (D D' : Dsk) (L' : LogV) (e : Nat) (m : Nat → List Int) (R : List Sh) (r : Int) : Prop where
  or : r = 0 ∨ r = 13
  ok : r = 0 → Clean D' L' (e + 1) (updR m R)
  no : r = 13 → ∀ keep torn nb, After (D'.crash keep torn nb) (e + 1) m R
  pend : D'.pend.length < 1000000
  fine : D.left = none → r = 0 ∧ D'.left = none
def metB (R : List Sh) : List Bool := R.foldl (fun l q => l.set q.1.toNat true) (List.replicate 512 false)
theorem metB_snoc (R : List Sh) (q : Sh) : metB (R ++ [q]) = (metB R).set q.1.toNat true := by unfold metB; rw [List.foldl_append]; rfl
theorem metB_len (R : List Sh) : (metB R).length = 512 := by
  unfold metB
  have : ∀ (R : List Sh) (l : List Bool), (R.foldl (fun l q => l.set q.1.toNat true) l).length = l.length := fun R => by
    induction R with
    | nil => intro l; rfl
    | cons q R ih => intro l; rw [List.foldl_cons, ih, List.length_set]
  rw [this, List.length_replicate]
theorem metB_get {i : Nat} (hi : i < 512) (R : List Sh) : (metB R)[i]? = some (decide (∃ q ∈ R, q.1.toNat = i)) := by
  unfold metB
  have : ∀ (R : List Sh) (l : List Bool) (b : Bool), l.length = 512 → l[i]? = some b → (R.foldl (fun l q => l.set q.1.toNat true) l)[i]? = some (decide (∃ q ∈ R, q.1.toNat = i) || b) := fun R => by
    induction R with
    | nil => intro l b _ h; simp [h]
    | cons q R ih =>
      intro l b hl h
      rw [List.foldl_cons]
      by_cases h1 : q.1.toNat = i
      · rw [ih _ true (by simp [hl]) (by rw [h1, List.getElem?_set]; simp [hl, hi])]
        simp [h1]
      · rw [ih _ b (by simp [hl]) (by rw [List.getElem?_set, if_neg h1]; exact h)]
        have : decide (∃ x ∈ q :: R, x.1.toNat = i) = decide (∃ x ∈ R, x.1.toNat = i) := decide_eq_decide.2 ⟨fun ⟨x, hx, e⟩ => by
          rcases List.mem_cons.1 hx with rfl | hx
          · exact absurd e h1
          · exact ⟨x, hx, e⟩, fun ⟨x, hx, e⟩ => ⟨x, List.mem_cons_of_mem _ hx, e⟩⟩
        rw [this]
  rw [this R _ false List.length_replicate (by rw [List.getElem?_replicate, if_pos hi]), Bool.or_false]

/-- What a Put answers, whatever sheets it is handed. -/
structure PutA (D D' : Dsk) (L L' : LogV) (S' : List Int) (e : Nat) (m : Nat → List Int) (R : List Sh) (r : Int) : Prop where
  put : Shs R → R ≠ [] → PutW D D' L' e m R r ∧ (r = 0 → S' = D'.rd 7679)
  none : R = [] → r = 0 ∧ D' = D ∧ L' = L ∧ S' = D.rd 7679
  bad : ¬ Shs R → r = 1 ∧ D' = D ∧ L' = L ∧ S' = D.rd 7679
theorem PutA.no {D : Dsk} {L : LogV} {e : Nat} {m : Nat → List Int} {R : List Sh} (h : ¬ Shs R) : PutA D D L L (D.rd 7679) e m R 1 :=
  ⟨fun h' => absurd h' h, fun h' => by subst h'; exact absurd ⟨(fun q hq => by cases hq), List.nodup_nil, by simp⟩ h, fun _ => ⟨rfl, rfl, rfl, rfl⟩⟩
theorem Shs.nil : Shs [] := ⟨(fun q hq => by cases hq), List.nodup_nil, by simp⟩
theorem Shs.snoc {R : List Sh} {q : Sh} (h : Shs R) (hq : ShOk q) (hn : ¬ ∃ x ∈ R, x.1.toNat = q.1.toNat) (hl : R.length < 256) : Shs (R ++ [q]) := by
  refine ⟨fun x hx => ?_, ?_, by simp; omega⟩
  · rcases List.mem_append.1 hx with hx | hx
    · exact h.ok x hx
    · rw [List.mem_singleton.1 hx]; exact hq
  · rw [List.map_append, List.nodup_append]
    refine ⟨h.nd, by simp, fun a ha b hb => ?_⟩
    obtain ⟨x, hx, rfl⟩ := List.mem_map.1 ha
    obtain ⟨y, hy, rfl⟩ := List.mem_map.1 hb
    rw [List.mem_singleton.1 hy]
    exact fun he => hn ⟨x, hx, he⟩
theorem Shs.at_ {R : List Sh} (h : Shs R) {k : Nat} (hk : k < R.length) : ShOk R[k] ∧ ¬ ∃ x ∈ R.take k, x.1.toNat = R[k].1.toNat := by
  refine ⟨h.ok _ (List.getElem_mem hk), fun ⟨x, hx, he⟩ => ?_⟩
  obtain ⟨j, hj, rfl⟩ := List.getElem_of_mem hx
  rw [List.length_take] at hj
  rw [List.getElem_take] at he
  have hj' : j < (R.map fun q => q.1.toNat).length := by rw [List.length_map]; omega
  have hk' : k < (R.map fun q => q.1.toNat).length := by rw [List.length_map]; omega
  have := (List.getElem_inj (h₀ := hj') (h₁ := hk') h.nd).1 (by simpa using he)
  omega
theorem ShRd.sub {F G : List HP} {q : Sh} (h : ShRd F q) (hs : ∀ w, Sat w G → Sat w F) : ShRd G q := by
  obtain ⟨A, c, h1, h2, h3⟩ := h
  exact ⟨A, c, h1, h2, fun w hw => h3 w (hs w hw)⟩
theorem Inv.nx0 {D : Dsk} {L : LogV} (h : Inv D L) (hr : L.recs = []) : L.next = 0 := by
  have := h.cur
  rw [hr] at this
  rw [← this]; rfl
def metV (l : List Bool) : Array Value := (l.map Value.bool).toArray
theorem metV_get {l : List Bool} {i : Nat} {b : Bool} (h : l[i]? = some b) : (metV l)[i]? = some (.bool b) := by
  simp [metV, List.getElem?_map, h]
theorem metV_set (l : List Bool) (i : Nat) : (metV l).setIfInBounds i (.bool true) = metV (l.set i true) := by
  simp [metV, List.map_set]
theorem PSt.went {D D' : Dsk} {L : LogV} {e : Nat} {m : Nat → List Int} {R : List Sh} {r : Int} (hC : Clean D L e m) (h : Went D D' L (commitL L (recS R)) r) :
    (r = 13 → ∀ keep torn nb, After (D'.crash keep torn nb) (e + 1) m R) ∧ (r = 0 → PSt D' (commitL L (recS R)) e ∧ (commitL L (recS R)).recs = [recS R] ∧ ∀ n, n < 512 → pageOf D' n = m n) := by
  have hs := hC.st
  have hrec : (commitL L (recS R)).recs = [recS R] := by simp [commitL, hC.recs]
  have key : ∀ E M, (M = L ∨ M = commitL L (recS R)) → Inv E M → Rest D E L → PSt E M e ∧ ∀ n, n < 512 → pageOf E n = m n := fun E M hM hi hr => by
    have hp := hr.pages hs.from_ hs.count hs.len
    refine ⟨⟨hi, ?_, ?_, by rw [hr.1]; exact hs.len, ?_, by rw [hp.1]; exact hs.title⟩, fun n hn => (hp.2 n hn).trans (hC.pg n hn)⟩
    · rcases hM with rfl | rfl <;> exact hs.from_
    · rcases hM with rfl | rfl <;> exact hs.count
    · rcases hM with rfl | rfl <;> exact hs.ep
  refine ⟨fun h13 keep torn nb => ?_, fun h0 => ?_⟩
  · obtain ⟨h1 | h1, h2⟩ := h.no h13 keep torn nb
    · have := key _ _ (.inl rfl) h1 h2
      exact .inl ⟨L, this.1.up, hC.recs, this.2⟩
    · have := key _ _ (.inr rfl) h1 h2
      exact .inr (.inl ⟨_, this.1.up, hrec, fun n hn _ => this.2 n hn⟩)
  · have := key _ _ (.inr rfl) (h.ok h0).1 (h.ok h0).2
    exact ⟨this.1, hrec, this.2⟩

set_option maxHeartbeats 16000000 in
set_option maxRecDepth 100000 in
theorem pput_any {w : World} {s d p : Nat} {D : Dsk} {L : LogV} {e : Nat} {m : Nat → List Int} {F : List HP} (A : Option Addr) (n c : Nat) (R : List Sh)
    (H : Sat w (sto s d p (D.rd 7679) :: logc p d L :: disk d D :: F)) (hr : Reads F 2 A n (flatS R)) (hq : ∀ q ∈ R, ShRd F q) (hb : ∀ q ∈ R, InB q.2.2) (hn : n < 100000) (hC : Clean D L e m) (he : e < 190) :
    Calls Try.prog 60 #[.pointer (some ⟨s, 0, none⟩), .slice A n c] w fun e' w' => ∃ r S' D' L', e' = .returned (.int .i64 r) ∧ PutA D D' L L' S' e m R r ∧ Sat w' (sto s d p S' :: logc p d L' :: disk d D' :: F) ∧ Env w w' := by
  have HN := Lib.hid (show R.length = n from by have := (hr w H.tail.tail.tail).1; rw [flatS_len] at this; omega)
  have HR := Lib.hid hr
  have HQ := Lib.hid hq
  have HB := Lib.hid hb
  have HC := Lib.hid hC
  clear hr hq hb hC
  go_enter Try.func60, Try.ntmps60
  by_cases hbig : 256 < n
  · have hd : decide ((256 : Int) < (n : Int)) = true := by simp; omega
    have hd' : (256 : Int) < (n : Int) := by omega
    have HG := Lib.hid hbig
    clear hbig hn
    go_wp2_with fail
    go_ret
    exact ⟨1, _, D, L, rfl, PutA.no fun h => by have := h.len; have := HG.out; have := HN.out; omega, H, Env.refl w⟩
  have hd : decide ((256 : Int) < (n : Int)) = false := by simp; omega
  have hd' : ¬ (256 : Int) < (n : Int) := by omega
  have HG := Lib.hid (show n ≤ 256 from by omega)
  clear hbig hn
  go_upto_region 4 with fail
  have hz : Try.zeroCells151 = metV (metB []) := by kernel_rfl
  rw [hz]
  have H1 := H.alloc (.cells (metV (metB [])) 151)
  have E1 := (Env.refl w).alloc (.cells (metV (metB [])) 151)
  generalize w.alloc (.cells (metV (metB [])) 151) = w1 at *
  generalize w.heap.size = gm at *
  clear H hz
  go_wp2_with fail
  go_loopw [7, 14] (fun _ i wr => ∃ k : Nat, k ≤ n ∧ i = .int .i64 k ∧ Hid (Shs (R.take k)) ∧ Sat wr (row gm 151 (metV (metB (R.take k))) :: sto s d p (D.rd 7679) :: logc p d L :: disk d D :: F) ∧ Env w wr) (fun _ i _ => n - (intOf i).toNat)
  case atStart => exact ⟨0, by omega, rfl, Lib.hid Shs.nil, H1, E1⟩
  case round =>
    clear H1 E1
    obtain ⟨k, hk, rfl, HS, H2, E2⟩ := hrel
    by_cases hlt : k < n
    · have hkl : k < R.length := by rw [HN.out]; exact hlt
      obtain ⟨b, off, rfl, z0, z1⟩ := rdS (HR.out wr H2.tail.tail.tail.tail) hkl
      obtain ⟨A1, c1, h1, h2, h3⟩ := HQ.out _ (List.getElem_mem hkl)
      have HT := Lib.hid (show ∃ h : k < R.length, R.take (k + 1) = R.take k ++ [R[k]] from ⟨hkl, List.take_succ_eq_append_getElem hkl⟩)
      have HI := Lib.hid (HB.out _ (List.getElem_mem hkl))
      obtain ⟨q, hqk⟩ : ∃ q, R[k] = q := ⟨_, rfl⟩
      have HQK := Lib.hid (show ∃ h : k < R.length, R[k] = q from ⟨hkl, hqk⟩)
      have HNO := Lib.hid (show (ShOk q ∧ ¬ ∃ x ∈ R.take k, x.1.toNat = q.1.toNat) ∨ ¬ Shs R from by
        by_cases h : Shs R
        · rw [← hqk]; exact .inl (h.at_ hkl)
        · exact .inr h)
      rw [hqk] at z0 z1 h1 h2 h3 HI
      clear hqk hkl
      obtain ⟨N, v, x⟩ := q
      dsimp only at z0 z1 h1 h2 h3 HI
      subst h1
      obtain ⟨xl, hxl⟩ : ∃ m, x.length = m := ⟨_, rfl⟩
      rw [hxl] at z1 h2 h3
      have HX := Lib.hid hxl
      clear h2 h3 hxl
      go_upto_region 7 with fail
      have H3 := H2.alloc (.cells #[.int .i64 N, .slice A1 xl c1] 98)
      have E3 := E2.alloc (.cells #[.int .i64 N, .slice A1 xl c1] 98)
      generalize wr.alloc (.cells #[.int .i64 N, .slice A1 xl c1] 98) = w3 at *
      generalize wr.heap.size = g at *
      have x0 := H3.cell 0
      have x1 := H3.cell 1
      clear H2 E2 z0 z1
      by_cases h0 : N < 0
      · have HH := Lib.hid h0
        go_wp2_with fail
        go_ret
        refine ⟨1, rfl, _, D, L, PutA.no fun h => ?_, H3.tail.tail, E3⟩
        rcases HNO.out with h4 | h4
        · have := h4.1.n0; have := HH.out; dsimp only at *; omega
        · exact h4 h
      by_cases h1 : 512 ≤ N
      · have HH := Lib.hid h1
        have hd1 : decide (512 ≤ N) = true := decide_eq_true h1
        go_wp2_with fail
        go_ret
        refine ⟨1, rfl, _, D, L, PutA.no fun h => ?_, H3.tail.tail, E3⟩
        rcases HNO.out with h4 | h4
        · have := h4.1.n1; have := HH.out; dsimp only at *; omega
        · exact h4 h
      obtain ⟨M, rfl⟩ := Int.eq_ofNat_of_zero_le (show 0 ≤ N by omega)
      have hM : M < 512 := by omega
      have hd1 : decide ((512 : Int) ≤ (M : Int)) = false := decide_eq_false h1
      by_cases h2 : xl = 1024
      · subst h2
        obtain ⟨q0, hq0⟩ : ∃ q0, decide (∃ x ∈ R.take k, x.1.toNat = M) = q0 := ⟨_, rfl⟩
        have xm := H3.b1.cell M
        rw [metV_get (metB_get hM _), hq0] at xm
        have fm := H3.b1.free M
        have HQ0 := Lib.hid hq0
        clear hq0
        cases q0 with
        | true =>
          go_wp2_with fail
          go_ret
          refine ⟨1, rfl, _, D, L, PutA.no fun h => ?_, H3.tail.tail, E3⟩
          rcases HNO.out with h4 | h4
          · exact h4.2 (of_decide_eq_true HQ0.out)
          · exact h4 h
        | false =>
          have HS2 := Lib.hid (show Shs (R.take (k + 1)) ∧ metB (R.take (k + 1)) = (metB (R.take k)).set M true from by
            obtain ⟨h5, h6⟩ := HT.out
            obtain ⟨_, h7⟩ := HQK.out
            rw [h6, h7]
            refine ⟨HS.out.snoc ⟨by dsimp only; omega, by dsimp only; omega, HX.out, HI.out⟩ (of_decide_eq_false HQ0.out) (by rw [List.length_take]; have := HG.out; omega), by rw [metB_snoc]; rfl⟩)
          have H4 := H3.b1.set (i := M) (.bool true)
          rw [metV_set, ← HS2.out.2] at H4
          have E4 := E3.set ⟨gm, M, none⟩ (.bool true)
          go_wp2_with fail
          go_roundw
          case rel => exact ⟨k + 1, by omega, by go_num, Lib.hid HS2.out.1, H4.b1.tail, E4⟩
          case measure => simp [intOf]; omega
      · have HH := Lib.hid h2
        have hne : ((xl : Int) != 1024) = true := by simp; omega
        go_wp2_with fail
        go_ret
        refine ⟨1, rfl, _, D, L, PutA.no fun h => ?_, H3.tail.tail, E3⟩
        rcases HNO.out with h4 | h4
        · exact HH.out (HX.out.symm.trans h4.1.len)
        · exact h4 h
    · obtain rfl : k = n := by omega
      rw [List.take_of_length_le (by have := HN.out; omega)] at HS
      have H3 := H2.tail
      clear H2
      by_cases h0 : k = 0
      · subst h0
        have HNIL := Lib.hid (show R = [] from List.eq_nil_of_length_eq_zero HN.out)
        go_wp2_with fail
        go_ret
        exact ⟨0, _, D, L, rfl, ⟨fun _ h => absurd HNIL.out h, fun _ => ⟨rfl, rfl, rfl, rfl⟩, fun h => absurd HS.out h⟩, H3, E2⟩
      · have hne : ((k : Int) == 0) = false := by simp; omega
        have HK := Lib.hid (show R ≠ [] from fun h => h0 (by rw [← HN.out, h]; rfl))
        have y1 := H3.sto_c1
        have HL := Lib.hid (show (recS R).length = k * 1028 ∧ k ≤ 256 ∧ 0 < k from ⟨by rw [recS_len HS.out.ok, HN.out], HG.out, by omega⟩)
        clear h0
        have HLR := Lib.hid (show 0 < (recS R).length ∧ InB (recS R) ∧ (recS R).length ≤ roomL L from by
          have h1 := HL.out
          refine ⟨by omega, recS_in HS.out.ok, ?_⟩
          have h2 : roomL L = 383167 := by
            have h3 := HC.out.st.inv.nx0 HC.out.recs
            unfold roomL
            rw [HC.out.st.count, h3]
          omega)
        go_upto_region 13 with fail
        go_region_held3 (fun w' => w'.cell? ⟨s, 1, none⟩ = some (.pointer (some ⟨p, 0, none⟩))) (first | exact y1 | exact H5.b1.sto_c1 | exact H6.b3.sto_c1) (first
          | (go_at_call 97; refine (prec_any A k c R H3.drew (fun w h => HR.out w h.tail.tail.tail) (fun q hq => (HQ.out q hq).sub fun w h => h.tail.tail.tail) HS.out.ok HG.out).mono ?_; rintro e' w5 ⟨v5, rfl, H5, E5⟩; obtain ⟨A5, c5, rfl, -, -, -⟩ := H5.own_form)
          | (go_at_call 47; refine (commit_may A5 (recS R).length c5 (recS R) HC.out.st.inv H5.b3.b3 (fun w h => h.own_at.1) H5.own_at.2.2 HLR.out.1 HLR.out.2.1 HLR.out.2.2).mono ?_; rintro e' w6 ⟨r6, D6, rfl, hW6, H6, E6⟩))
        have HW := Lib.hid hW6
        have E7 := (E2.drew.trans E5).trans E6
        clear H3 H5 E2 E5 E6 y1
        rcases hW6.or with rfl | rfl
        · clear hW6
          have HP := Lib.hid ((PSt.went HC.out HW.out).2 rfl)
          have HRD := Lib.hid (show D6.rd 7679 = D.rd 7679 from (HW.out.ok rfl).2.pages HC.out.st.from_ HC.out.st.count HC.out.st.len |>.1)
          have H7 := H6.b3
          clear H6
          go_wp2_with fail
          refine (lay_any A k c R H7 (fun w h => HR.out w h.tail) (fun q hq => (HQ.out q hq).sub fun w h => h.tail) HS.out.ok HG.out HS.out.nd (HP.out.1.base (by omega)) HRD.out).mono ?_
          rintro e' w8 ⟨r8, S8, D8, rfl, hW8, hS8, H8, E8⟩
          have HW8 := Lib.hid hW8
          have HS8 := Lib.hid hS8
          clear hW8 hS8 H7
          go_wp2_with fail
          go_ret
          refine ⟨r8, S8, D8, _, rfl, ⟨fun _ _ => ⟨⟨HW8.out.or, fun h => ?_, fun h => HW8.out.after HP.out.1 HP.out.2.1 HS.out (fun n hn _ => HP.out.2.2 n hn) h, HW8.out.pend, fun h => HW8.out.fine (HW.out.fine h).2⟩, HS8.out⟩, fun h => absurd h HK.out, fun h => absurd HS.out h⟩, H8.p3.p3.p3.tail, E7.trans E8⟩
          subst h
          exact HW8.out.new HP.out.1 HS.out (fun n hn _ => HP.out.2.2 n hn) rfl
        · clear hW6
          go_wp2_with fail
          go_ret
          refine ⟨13, _, D6, L, rfl, ⟨fun _ _ => ⟨⟨.inr rfl, fun h => by omega, (PSt.went HC.out HW.out).1, HW.out.pend, fun h => by have := (HW.out.fine h).1; omega⟩, fun h => by omega⟩, fun h => absurd h HK.out, fun h => absurd HS.out h⟩, H6.b3.p3.p3.p3.tail, E7⟩
end Go.Proofs.Ythbabdjicplooaa
