/-
  The law SlabKnown, walked: what chapter 11 says of its bounds is true.
-/
import Derived.Test.YtamcnieneelmmaaSlabE
namespace Go.Proofs.Ytamcnieneelmmaa
open Go.RowKit

set_option maxHeartbeats 3200000 in
set_option maxRecDepth 100000 in
theorem slabKnown_walk (w : World) :
    Calls Try.prog 3 #[] w fun e w' => e = .returned (.bool true) ∧ Fr Nob w w' := by
  go_enter Try.func3, Try.ntmps3
  go_wp2_with fail
  refine (awake_ok w).mono ?_
  rintro e w0 ⟨rfl, f0⟩
  have f0 := Lib.hid f0
  go_wp2_with fail
  refine (new_bad _ 0 (by omega)).mono ?_
  rintro e w' ⟨rfl, rfl⟩
  go_wp2_with fail
  refine (new_bad _ 1025 (by omega)).mono ?_
  rintro e w' ⟨rfl, rfl⟩
  go_wp2_with fail
  refine (new_eq _ 2 (by omega) (by omega)).mono ?_
  rintro e w1 ⟨p, b, rfl, s1, f1, hp, hb, -⟩
  have f1 := Lib.hid (f0.out.nob_new f1.out)
  go_wp2_with fail
  refine (take_bad _ _ 6 (by omega)).mono ?_
  rintro e w' ⟨rfl, rfl⟩
  go_wp2_with fail
  refine (free_eq _ p b _ 0 5 (by omega) s1.out (by decide)).mono ?_
  rintro e w2 ⟨rfl, s2, f2⟩
  have f2 := Lib.hid (f1.out.one_new f2.out (by have := f0.out.size; omega))
  go_wp2_with fail
  refine (class_ok _ _).mono ?_
  rintro e w' ⟨rfl, rfl⟩
  rw [show classOf (-1) = -1 from by decide]
  go_wp2_with fail
  refine (class_ok _ _).mono ?_
  rintro e w' ⟨rfl, rfl⟩
  rw [show classOf 2049 = -1 from by decide]
  go_wp2_with fail
  refine (class_ok _ _).mono ?_
  rintro e w' ⟨rfl, rfl⟩
  rw [show classOf 0 = 0 from by decide]
  go_wp2_with fail
  refine (chunk_any _ _).mono ?_
  rintro e w' ⟨rfl, rfl⟩
  rw [show chunkOf 6 = 0 from by decide]
  go_wp2_with fail
  refine (of_eq _ p b _ (-1) (-1) (by omega) s2.out (by decide)).mono ?_
  rintro e w' ⟨rfl, rfl⟩
  go_wp2_with fail
  refine (left_eq _ p b _ 2 s2.out (by decide)).mono ?_
  rintro e w3 ⟨rfl, s3, f3⟩
  have f3 := Lib.hid (f2.out.nob_new f3.out)
  go_wp2_with fail
  go_ret
  exact ⟨rfl, f3.out⟩

end Go.Proofs.Ytamcnieneelmmaa
