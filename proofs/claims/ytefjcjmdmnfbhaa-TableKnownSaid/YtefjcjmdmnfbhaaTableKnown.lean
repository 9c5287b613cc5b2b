/-
  The law TableKnown, walked.
-/
import Derived.Test.YtefjcjmdmnfbhaaTabAw
namespace Go.Proofs.Ytefjcjmdmnfbhaa
open Go.RowKit

theorem kn_get : getV (newK 4).m kA = 0 ∧ getB (newK 4).m kA = false ∧ (newK 4).now.length = 4 ∧ (newK 4).m.length = 0 := by decide +kernel
theorem kn_keys : sortB (keysM (newK 4).m) = [] := List.eq_nil_of_length_eq_zero (by rw [sortB_len]; rfl)

set_option maxHeartbeats 8000000 in
set_option maxRecDepth 100000 in
theorem tableKnown_walk (w : World) : Calls Try.prog 3 #[] w fun e w' => e = .returned (.bool true) ∧ Fr Nob w w' := by
  go_enter Try.func3, Try.ntmps3
  go_wp2_with fail
  refine (awake_ok w).mono ?_
  rintro e w0 ⟨rfl, f0⟩
  have f0 := Lib.hid f0
  go_wp2_with fail
  refine (new_bad 3 w0 (.inr (.inr ⟨by omega, by decide +kernel⟩))).mono ?_
  rintro e _ ⟨rfl, rfl⟩
  go_wp2_with fail
  refine (new_bad 2048 w0 (.inr (.inl (by omega)))).mono ?_
  rintro e _ ⟨rfl, rfl⟩
  go_wp2_with fail
  refine (new_bad 0 w0 (.inl (by omega))).mono ?_
  rintro e _ ⟨rfl, rfl⟩
  go_wp2_with fail
  refine (DT.new f0.out 4 (by omega) (by omega) (by decide +kernel)).mono ?_
  rintro e w1 ⟨t, rfl, s1, f1⟩
  clear f0 f1
  go_wp2_with fail
  refine (s1.out.get kA (sz1 _)).mono ?_
  rintro e w2 ⟨rfl, m, rfl⟩
  rw [kn_get.1, kn_get.2.1]
  have s2 := Lib.hid (s1.out.nob ((Fr.refl Nob w1).drewN m))
  clear s1
  generalize w1.drewN m = w2 at *
  go_wp2_with fail
  refine (s2.out.chain_out (i := 4) (.inr (by rw [kn_get.2.2.1]; omega))).mono ?_
  rintro e _ ⟨rfl, rfl⟩
  go_wp2_with fail
  refine (s2.out.chain_out (i := -1) (.inl (by omega))).mono ?_
  rintro e _ ⟨rfl, rfl⟩
  go_wp2_with fail
  refine (s2.out.keys (by rw [kn_get.2.2.2]; omega)).mono ?_
  rintro e w3 ⟨v, rfl, o, f3⟩
  rw [kn_get.2.2.2] at o
  obtain ⟨a, c, rfl, _, _, _⟩ := own_shape o.out
  have s3 := Lib.hid (s2.out.nob f3.out)
  clear s2 f3 o
  go_wp2_with fail
  go_ret
  exact ⟨rfl, s3.out.fr⟩
end Go.Proofs.Ytefjcjmdmnfbhaa
