/-
  The law SegKnown, walked.
-/
import Derived.Test.YthcalhmiielfkaaSegW
namespace Go.Proofs.Ythcalhmiielfkaa
open Go.RowKit

theorem ev_none {x : Int} {ok : Bool} {S : Sg} (h : EvTo Sg.none x ok S) : S = Sg.none ∧ x = 0 ∧ ok = false ∧ S.Ok := by
  obtain ⟨o, S1, k, h⟩ := h
  have e1 : S1 = Sg.none := k.det (.done fun l x h => by
    have : ([] : List Int) = l ++ [x] := h
    simp at this)
  subst e1
  rcases h with ⟨_, h⟩ | ⟨h1, h2, _, h3⟩
  · cases h with
    | cold h => exact absurd (show ([] : List Int) = _ ++ [x] from h) (by simp)
    | warm _ h => exact absurd (show ([] : List Int) = _ ++ [x] from h) (by simp)
    | hot _ _ h => exact absurd (show ([] : List Int) = _ ++ [x] from h) (by simp)
  · exact ⟨h3, h2, h1, o⟩
theorem rem_none {x : Int} {S : Sg} (h : RemTo Sg.none x S) : S = Sg.none := h.2.2 rfl

set_option maxHeartbeats 3200000 in
theorem segKnown_walk (w : World) : Calls Try.prog 3 #[] w fun e w' => e = .returned (.bool true) ∧ Fr Nob w w' := by
  go_enter Try.func3, Try.ntmps3
  go_wp2_with fail
  refine (awake_ok w).mono ?_
  rintro e w0 ⟨rfl, f0⟩
  have f0 := Lib.hid f0
  go_wp2_with fail
  refine (new_new w0 w f0.out).mono ?_
  rintro e w1 ⟨p, rfl, s1⟩
  have s1 := Lib.hid s1
  go_wp2_with fail
  refine (evict_new s1.out Sg.Ok.none (by decide)).mono ?_
  rintro e w2 ⟨x, ok, S2, rfl, k2, h2⟩
  obtain ⟨rfl, rfl, rfl, -⟩ := ev_none h2
  have s2 := Lib.hid (k2.1 _ s1.out)
  clear k2 h2 s1
  go_wp2_with fail
  refine (touch_new s2.out 1).mono ?_
  rintro e w3 ⟨rfl, k3⟩
  rw [show (getM Sg.none.I 1).isSome = false from rfl] at k3 ⊢
  rw [if_neg (by decide)] at k3
  have s3 := Lib.hid (k3.1 _ s2.out)
  clear k3 s2
  go_wp2_with fail
  refine (remove_new s3.out Sg.Ok.none (by decide) 1).mono ?_
  rintro e w4 ⟨rfl, S4, k4, h4⟩
  have h4 := rem_none h4
  subst h4
  rw [show (getM Sg.none.I 1).isSome = false from rfl]
  have s4 := Lib.hid (k4.1 _ s3.out)
  clear k4 s3
  go_wp2_with fail
  refine (len_new s4.out Sg.Ok.none).mono ?_
  rintro e w' ⟨rfl, rfl⟩
  rw [show Sg.none.tot = 0 from rfl]
  go_wp2_with fail
  refine (add_new s4.out Sg.Ok.none (by decide) 1).mono ?_
  rintro e w5 ⟨rfl, S5, k5, h5⟩
  obtain ⟨rfl, o5⟩ := to_A1 h5
  have s5 := Lib.hid (k5.1 _ s4.out)
  have O5 := Lib.hid o5
  clear k5 h5 o5 s4
  rw [show (!(getM Sg.none.I 1).isSome) = true from rfl]
  go_wp2_with fail
  refine (add_new s5.out O5.out (by decide) 1).mono ?_
  rintro e w6 ⟨rfl, S6, k6, h6⟩
  rw [show (!(getM A1.I 1).isSome) = false from rfl]
  have f6 := Lib.hid (k6.1 _ s5.out).fr
  clear k6 h6
  go_wp2_with fail
  go_ret
  exact ⟨rfl, f6.out⟩

end Go.Proofs.Ythcalhmiielfkaa
