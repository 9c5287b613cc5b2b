/-
  Law 3: FlashKnown, walked.
-/
import Derived.Test.YtpdljgjofebgpaaFlashAw
namespace Go.Proofs.Ytpdljgjofebgpaa
open Go.RowKit

def dK0 : Dv := (Dv.new 1).armed 2
def dK : Dv := (dK0.change 0 (.whole (pad [1]))).flush.change 0 (.whole (pad []))
theorem dK_off : dK.off = true := by rfl
theorem dK_loss : dK.loss = 1 := by
  show wrap64 (0 + 1) = 1
  exact wrap01
theorem dK_len : dK.pg.length = 1 := by rfl

set_option maxRecDepth 100000 in
set_option maxHeartbeats 1000000 in
theorem flashKnown_walk (w : World) : Calls Try.prog 9 #[] w fun e w' => e = .returned (.bool true) ∧ Fr Nob w w' := by
  go_enter Try.func9, Try.ntmps9
  go_wp2_with fail
  refine (awake3_eq w).mono ?_
  rintro e w0 ⟨rfl, f0⟩
  have F0 := Lib.hid f0
  clear f0
  go_wp2_with fail
  refine (new_bad (x := 0) (by omega)).mono ?_
  rintro e w' ⟨rfl, rfl⟩
  go_wp2_with fail
  refine (new_bad (x := 4097) (by omega)).mono ?_
  rintro e w' ⟨rfl, rfl⟩
  go_wp2_with fail
  refine (DL.new (n := 1) F0.out (by omega) (by omega)).mono ?_
  rintro e w1 ⟨q, K, rfl, d, _, _⟩
  have D := Lib.hid d
  clear d
  go_wp2_with fail
  refine (D.out.arm (WalkArith.wf_i64 (by omega))).mono ?_
  rintro e w2 ⟨rfl, d, _⟩
  have D0 : Hid (DL w w2 q K Nob dK0) := Lib.hid d
  clear d D
  go_wp2_with fail
  have d := D0.out.nob ((Fr.refl Nob w2).alloc (.cells #[.int .u8 1] 5))
  refine (d.write (i := 0) (bs := [1]) (by decide) (one_byte w2 1) (by decide) false rfl).mono ?_
  rintro e w3 ⟨rfl, d, _⟩
  rw [errOff_false]
  have D := Lib.hid d
  clear d
  go_wp2_with fail
  refine (D.out.flush true rfl).mono ?_
  rintro e w4 ⟨rfl, d, _⟩
  rw [errOff_true]
  replace D := Lib.hid d
  clear d
  go_wp2_with fail
  refine (D.out.write (i := 0) (bs := []) (by decide) (RdB.nil w4 0) (by decide) true rfl).mono ?_
  rintro e w5 ⟨rfl, d, _⟩
  rw [errOff_true]
  have DD : Hid (DL w w5 q K Nob dK) := Lib.hid d
  clear d D
  go_wp2_with fail
  refine (DD.out.power).mono ?_
  rintro e w' ⟨rfl, rfl⟩
  rw [dK_off]
  go_wp2_with fail
  refine (DD.out.losses).mono ?_
  rintro e w' ⟨rfl, rfl⟩
  rw [dK_loss]
  go_wp2_with fail
  refine (DD.out.write_bad (x := 1) (RdB.nil w5 0) (by simp) (.inl (.inr (by rw [dK_len]; omega)))).mono ?_
  rintro e w' ⟨rfl, rfl⟩
  go_wp2_with fail
  go_ret
  exact ⟨rfl, DD.out.fr⟩

end Go.Proofs.Ytpdljgjofebgpaa
