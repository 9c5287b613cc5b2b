/-
  The law EventBounds, walked (written by gen/ebounds2.py).
-/
import Derived.Test.YthfhlbnjahakaaaDoorEbA
import Derived.Test.YthfhlbnjahakaaaDoorEbB
import Derived.Test.YthfhlbnjahakaaaDoorEbC
import Derived.Test.YthfhlbnjahakaaaDoorEbD
namespace Go.Proofs.YthfhlbnjahakaaaDoor
open Go.RowKit

theorem eventBounds_main (n d : Nat) (key verb : ByteArray) (w : World) (hn : n ≤ 80) (hd : d ≤ 1200) (hk : key.size ≤ 400) (hU : U8 w) :
    Calls Tryd.prog 7 #[.int .i64 n, .string key, .int .i64 d, .string verb] w fun e w' => e = .returned (.bool true) ∧ Fr Nob w w' := by
  cases hy : keyB key <;> cases hM : memB verb verbsL <;> cases hD : decide (d ≤ 1024)
  · exact eb_000 n d key verb w hn hd hk hU hy hM hD
  · exact eb_001 n d key verb w hn hd hk hU hy hM hD
  · exact eb_010 n d key verb w hn hd hk hU hy hM hD
  · exact eb_011 n d key verb w hn hd hk hU hy hM hD
  · exact eb_100 n d key verb w hn hd hk hU hy hM hD
  · exact eb_101 n d key verb w hn hd hk hU hy hM hD
  · exact eb_110 n d key verb w hn hd hk hU hy hM hD
  · exact eb_111 n d key verb w hn hd hk hU hy hM hD

set_option linter.unusedVariables false in
set_option maxHeartbeats 4000000 in
set_option maxRecDepth 100000 in
theorem eventBounds_walk (a : Int) (key : ByteArray) (b : Int) (verb : ByteArray) (w : World) (ha : (Lit.int .i64 a).wf = true) (hk : key.size ≤ maxLen) (hb : (Lit.int .i64 b).wf = true) (hv : verb.size ≤ maxLen) (hU : U8 w) :
    Calls Tryd.prog 7 #[.int .i64 a, .string key, .int .i64 b, .string verb] w fun e w' => e = .returned (.bool true) ∧ Fr Nob w w' := by
  by_cases hin : (0 ≤ a ∧ a ≤ 80) ∧ (0 ≤ b ∧ b ≤ 1200) ∧ key.size ≤ 400
  · obtain ⟨⟨h1, h2⟩, ⟨h3, h4⟩, h5⟩ := hin
    obtain ⟨n, rfl⟩ := Int.eq_ofNat_of_zero_le h1
    obtain ⟨d, rfl⟩ := Int.eq_ofNat_of_zero_le h3
    exact eventBounds_main n d key verb w (by omega) (by omega) h5 hU
  · have hout : Hid (a < 0 ∨ (¬ a < 0 ∧ 80 < a) ∨ (¬ a < 0 ∧ ¬ 80 < a ∧ b < 0) ∨ (¬ a < 0 ∧ ¬ 80 < a ∧ ¬ b < 0 ∧ 1200 < b) ∨ (¬ a < 0 ∧ ¬ 80 < a ∧ ¬ b < 0 ∧ ¬ 1200 < b ∧ 400 < (key.size : Int))) := Lib.hid (by omega)
    clear hU hin hv
    rcases hout.out with h | ⟨h1, h⟩ | ⟨h1, h2, h⟩ | ⟨h1, h2, h3, h⟩ | ⟨h1, h2, h3, h4, h⟩
    all_goals
      clear hout
      go_enter Tryd.func7, Tryd.ntmps7
      go_wp2_with fail
      refine (awake_ok w).mono ?_
      rintro e w0 ⟨rfl, f0⟩
      have F0 := Lib.hid f0
      clear f0
      go_wp2_with fail
      go_ret
      exact ⟨rfl, F0.out⟩
end Go.Proofs.YthfhlbnjahakaaaDoor
