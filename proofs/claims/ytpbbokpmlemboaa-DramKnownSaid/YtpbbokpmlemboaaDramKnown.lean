/-
  The law DramKnown, walked.
-/
import Derived.Test.YtpbbokpmlemboaaDrAw
namespace Go.Proofs.Ytpbbokpmlemboaa
open Go.RowKit Sl

set_option maxHeartbeats 4000000 in
set_option maxRecDepth 100000 in
theorem dramKnown_walk (w : World) : Calls Try.prog 3 #[] w fun e w' => e = .returned (.bool true) ∧ Fr Nob w w' := by
  go_enter Try.func3, Try.ntmps3
  go_wp2_with fail
  refine (awake_ok w).mono ?_
  rintro e w0 ⟨rfl, f0⟩
  have F0 := Lib.hid f0
  clear f0
  go_wp2_with fail
  refine (dnew_bad w0 0 (by omega)).mono ?_
  rintro e w1 ⟨rfl, f1⟩
  have F1 := Lib.hid (F0.out.trans' f1)
  clear f1 F0
  go_wp2_with fail
  refine (DW.new (X := Nob) 2 F1.out (by omega) (by omega) (fun _ h => h.elim)).mono ?_
  rintro e w2 ⟨c, rfl, d2, -⟩
  clear F1
  go_wp2_with fail
  refine (put_bad ⟨#[]⟩ ⟨#[]⟩ 0 0 0 false rfl).mono ?_
  rintro e w3 ⟨rfl, f3⟩
  have d3 := Lib.hid (d2.out.nob f3)
  clear d2 f3
  go_wp2_with fail
  refine (d3.out.get_none keyA 0 (by decide) rfl).mono ?_
  rintro e w4 ⟨rfl, d4, -⟩
  have d5 := Lib.hid (d4.out.nob ((Fr.refl Nob w4).alloc (.cells zeroJ 33)))
  clear d3
  go_wp2_with fail
  refine (d5.out.del keyA (by decide)).mono ?_
  rintro e w6 ⟨rfl, C6, -, d6, -⟩
  rw [show isS ((newC 2).look keyA) = false from rfl]
  go_wp2_with fail
  refine (dead_eq ⟨#[]⟩ ⟨#[]⟩ 0 0 0 4611686018427387904).mono ?_
  rintro e w7 ⟨rfl, f7⟩
  rw [show deadI ⟨⟨#[]⟩, ⟨#[]⟩, 0, 0, 0⟩ 4611686018427387904 = false from rfl]
  have d7 := Lib.hid (d6.out.nob f7)
  clear f7
  go_wp2_with fail
  go_ret
  exact ⟨rfl, d7.out.fr⟩
end Go.Proofs.Ytpbbokpmlemboaa
