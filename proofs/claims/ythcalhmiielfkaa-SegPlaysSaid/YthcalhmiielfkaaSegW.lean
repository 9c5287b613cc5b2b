/-
  The law's awake, walked.
-/
import Derived.Test.YthcalhmiielfkaaSegN
namespace Go.Proofs.Ythcalhmiielfkaa
open Go.RowKit

theorem Told.new {w : World} {p : Nat} {S : Sg} {v : Value} {xs : List Int} {w' : World} (t : Told w p S v xs) (f : Fr Nob w w') : RdInts w' v xs := t.rd.keep f fun _ _ h => h

theorem ints_lit {w : World} {v : Value} {xs : List Int} (t : RdInts w v xs) (ys : List Int) (hn : xs.length ≤ 1000000) (hm : ys.length ≤ 1000000) :
    Calls Try.prog 21 #[v, .slice (some ⟨w.heap.size, 0, none⟩) ys.length ys.length] (w.alloc (.cells (ints ys).toArray 3)) fun e w' => e = .returned (.bool (decide (xs = ys))) ∧ Fr Nob w w' := by
  refine (ints_eq (t.keep (T := Nob) ((Fr.refl _ _).alloc _) fun _ _ h => h) (RdInts.new w ys _) hn hm).mono ?_
  rintro e w' ⟨rfl, n, rfl⟩
  exact ⟨rfl, ((Fr.refl _ _).alloc _).drewN n⟩

set_option maxHeartbeats 3200000 in
theorem awake_ok (w : World) : Calls Try.prog 9 #[] w fun e w' => e = .returned (.bool true) ∧ Fr Nob w w' := by
  go_enter Try.func9, Try.ntmps9
  go_wp2_with fail
  refine (new_new w w (Fr.refl _ _)).mono ?_
  rintro e w1 ⟨p, rfl, s1⟩
  have s1 := Lib.hid s1
  go_wp2_with fail
  refine (add_new s1.out Sg.Ok.none (by decide) 1).mono ?_
  rintro e w2 ⟨rfl, S2, k2, h2⟩
  obtain ⟨rfl, o2⟩ := to_A1 h2
  have s2 := Lib.hid (k2.1 _ s1.out)
  have O2 := Lib.hid o2
  clear k2 h2 o2 s1
  rw [show (!(getM Sg.none.I 1).isSome) = true from rfl]
  go_wp2_with fail
  refine (add_new s2.out O2.out (by decide) 2).mono ?_
  rintro e w3 ⟨rfl, S3, k3, h3⟩
  obtain ⟨rfl, o3⟩ := to_A2 h3
  have s3 := Lib.hid (k3.1 _ s2.out)
  have O3 := Lib.hid o3
  clear k3 h3 o3 s2 O2
  rw [show (!(getM A1.I 2).isSome) = true from rfl]
  go_wp2_with fail
  refine (add_new s3.out O3.out (by decide) 3).mono ?_
  rintro e w4 ⟨rfl, S4, k4, h4⟩
  obtain ⟨rfl, o4⟩ := to_A3 h4
  have s4 := Lib.hid (k4.1 _ s3.out)
  have O4 := Lib.hid o4
  clear k4 h4 o4 s3 O3
  rw [show (!(getM A2.I 3).isSome) = true from rfl]
  go_wp2_with fail
  refine (lists_new s4.out (by decide)).mono ?_
  rintro e w5 ⟨hot, warm, cold, rfl, k5, t1, t2, t3⟩
  have s5 := Lib.hid (k5.1 _ s4.out)
  have t1 := Lib.hid t1
  have t3 := Lib.hid t3
  have hw : warm = .slice none 0 0 ∨ ∃ a c, warm = .slice a 0 c := by
    obtain ⟨a, c, h, _⟩ := t2.rd
    exact .inr ⟨a, c, h⟩
  obtain ⟨wa, wc, rfl⟩ : ∃ a c, warm = .slice a 0 c := by
    obtain ⟨a, c, h, _⟩ := t2.rd
    exact ⟨a, c, h⟩
  clear k5 t2 hw s4
  go_wp2_with fail
  refine (touch_new s5.out 1).mono ?_
  rintro e w6 ⟨rfl, k6⟩
  rw [show (getM A3.I 1).isSome = true from rfl] at k6 ⊢
  rw [if_pos rfl] at k6
  have k6 : Step w5 p A3 w6 A4 := k6
  have s6 := Lib.hid (k6.1 _ s5.out)
  have t1 := Lib.hid (k6.2 _ _ t1.out)
  have t3 := Lib.hid (k6.2 _ _ t3.out)
  have O6 := Lib.hid (show A4.Ok from O4.out.touch rfl)
  clear k6 s5
  go_wp2_with fail
  refine (evict_new s6.out O6.out (by decide)).mono ?_
  rintro e w7 ⟨x, ok, S7, rfl, k7, h7⟩
  obtain ⟨rfl, rfl, rfl, o7⟩ := to_A6 h7
  have s7 := Lib.hid (k7.1 _ s6.out)
  have t1 := Lib.hid (k7.2 _ _ t1.out)
  have t3 := Lib.hid (k7.2 _ _ t3.out)
  have O7 := Lib.hid o7
  clear k7 h7 o7 s6
  go_wp2_with fail
  refine (lists_new s7.out (by decide)).mono ?_
  rintro e w8 ⟨a8, b8, c8, rfl, k8, _, t2, _⟩
  have s8 := Lib.hid (k8.1 _ s7.out)
  have t1 := Lib.hid (k8.2 _ _ t1.out)
  have t3 := Lib.hid (k8.2 _ _ t3.out)
  have t2 := Lib.hid t2
  clear k8 s7
  go_wp2_with fail
  refine (ints_lit t1.out.rd [3] (by decide) (by decide)).mono ?_
  rintro e w9 ⟨rfl, f9⟩
  rw [show decide (A3.h = [3]) = true from rfl]
  have s9 := Lib.hid (s8.out.plus f9)
  have t3 := Lib.hid (t3.out.plus f9 s8.out)
  have t2 := Lib.hid (t2.out.plus f9 s8.out)
  clear f9 s8
  go_wp2_with fail
  refine (ints_lit t3.out.rd [2, 1] (by decide) (by decide)).mono ?_
  rintro e w10 ⟨rfl, f10⟩
  rw [show decide (A3.c = [2, 1]) = true from rfl]
  have s10 := Lib.hid (s9.out.plus f10)
  have t2 := Lib.hid (t2.out.plus f10 s9.out)
  clear f10 s9
  go_wp2_with fail
  refine (ints_lit t2.out.rd [1] (by decide) (by decide)).mono ?_
  rintro e w11 ⟨rfl, f11⟩
  rw [show decide (A6.m = [1]) = true from rfl]
  have s11 := Lib.hid (s10.out.plus f11)
  clear f11 s10
  go_wp2_with fail
  refine (len_new s11.out O7.out).mono ?_
  rintro e w' ⟨rfl, rfl⟩
  rw [show A6.tot = 2 from rfl]
  go_wp2_with fail
  refine (remove_new s11.out O7.out (by decide) 1).mono ?_
  rintro e w12 ⟨rfl, S12, k12, h12⟩
  obtain ⟨rfl, o12⟩ := to_A7 h12
  have s12 := Lib.hid (k12.1 _ s11.out)
  have O12 := Lib.hid o12
  clear k12 h12 o12 s11
  rw [show (getM A6.I 1).isSome = true from rfl]
  go_wp2_with fail
  refine (remove_new s12.out O12.out (by decide) 1).mono ?_
  rintro e w13 ⟨rfl, S13, k13, h13⟩
  rw [show (getM A7.I 1).isSome = false from rfl]
  have f13 := Lib.hid (k13.1 _ s12.out).fr
  clear k13 h13
  go_wp2_with fail
  go_ret
  exact ⟨rfl, f13.out⟩

end Go.Proofs.Ythcalhmiielfkaa
