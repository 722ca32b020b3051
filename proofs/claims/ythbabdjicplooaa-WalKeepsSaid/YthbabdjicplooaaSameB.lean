/- deponentbook.Same at byte. Conditions: fewer than 2^32 elements. -/
import Derived.Test.YthbabdjicplooaaCore
import Derived.Test.YthbabdjicplooaaProg
import Derived.Deep.QuietTactic
import Derived.BigQuiet
import Derived.WalkMore
namespace Go.Proofs.Ythbabdjicplooaa
open Go.RowKit Go.WideShapes

set_option maxHeartbeats 400000 in
/-- deponentbook.Same of two lists that read the same: true. -/
theorem same_byte (A B : Option Addr) (n c d : Nat) (l : List Int) (w : World) (hsz : n < 4294967296)
    (hr1 : Rd w 1 A n (l.map (Value.int .u8))) (hr2 : Rd w 1 B n (l.map (Value.int .u8))) :
    Calls Try.prog 71 #[.slice A n c, .slice B n d] w fun e w' => e = .returned (.bool true) ∧ ∃ q, w' = w.drewN q := by
  have HN1 := Lib.hid (show n = l.length by have := hr1.1; simpa using this.symm)
  have HR1 := Lib.hid hr1
  have HR2 := Lib.hid hr2
  clear hr1 hr2
  go_enter Try.func71, Try.ntmps71
  go_wp2
  go_loopw [5] (fun i wr => ∃ k : Nat, k ≤ n ∧ i = .int .i64 k ∧ ∃ q, wr = w.drewN q) (fun i _ => n - (intOf i).toNat)
  case atStart => exact ⟨0, by omega, rfl, 0, rfl⟩
  case round =>
    obtain ⟨k, hk, rfl, q, rfl⟩ := hrel
    by_cases hlt : k < n
    · have hk1 : k < l.length := by have := HN1.out; omega
      have HY1 := Lib.hid (List.getElem?_eq_getElem hk1)
      obtain ⟨b1, o1, rfl, hc1⟩ := HR1.out.2 k _ (by rw [List.getElem?_map, HY1.out]; rfl)
      obtain ⟨b2, o2, rfl, hc2⟩ := HR2.out.2 k _ (by rw [List.getElem?_map, HY1.out]; rfl)
      generalize l[k] = y at hc1 hc2
      clear HY1
      go_wp2
      go_quiet (fail)
      go_wp2
      go_roundw
      case rel => exact ⟨k + 1, by omega, by go_num, _, rfl⟩
      case measure => simp [intOf]; omega
    · go_wp2
      go_ret
      exact ⟨rfl, _, rfl⟩

end Go.Proofs.Ythbabdjicplooaa
