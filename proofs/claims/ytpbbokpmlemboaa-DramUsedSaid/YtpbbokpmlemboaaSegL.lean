/-
  seg: what Lists tells.
-/
import Derived.Test.YtpbbokpmlemboaaSegC
namespace Go.Proofs.Ytpbbokpmlemboaa
open Go.RowKit

theorem row_base {w : World} {base B : Nat} {e : TypeId} {size : Nat} {v : Value} {n : Nat} {xs : List Value} (hB : B ≤ base) (h : w.ownsRow base e size v n xs) : w.ownsRow B e size v n xs := by
  obtain ⟨h0, h | ⟨g, cap, cur, h1, h3, h2⟩⟩ := h
  · exact ⟨h0, .inl h⟩
  · exact ⟨h0, .inr ⟨g, cap, cur, h1, Nat.le_trans hB h3, h2⟩⟩

theorem clone_row {w : World} {base : Nat} {v : Value} {n : Nat} {xs : List Int} (ho : w.ownsRow base 3 1 v n (ints xs)) (hn : n ≤ 1000000) (B : Nat) (hB : B ≤ w.heap.size) :
    Calls Try.prog 55 #[v] w fun e w' => ∃ v', e = .returned v' ∧ w'.ownsRow B 3 1 v' n (ints xs) ∧ Fr Nob w w' := by
  have hlen : xs.length = n := by simpa using ho.1
  rcases ho.2 with ⟨rfl, rfl⟩ | ⟨g, cap, _, rfl, _⟩
  · refine (Any.slices_Clone_int_nil cloLay 0 0 w).mono ?_
    rintro e w' ⟨rfl, rfl⟩
    have : xs = [] := List.length_eq_zero_iff.1 hlen
    subst this
    exact ⟨_, rfl, World.ownsRow_nil _ _ _ _, Fr.refl _ _⟩
  · obtain ⟨cur, h1, h2, h3, h4, h5, h6⟩ := row_cell ho
    refine (Any.slices_Clone_int cloLay g 0 n cap xs w (by omega) (by omega) (fun j hj => ?_)).mono ?_
    · rw [Nat.zero_add, cell_of_row w g j _ _ (0, 0) h1, h6 j (by omega), List.getElem?_map, List.getD_eq_getElem?_getD, List.getElem?_eq_getElem hj]
      rfl
    · rintro e w' ⟨v', rfl, ho', _, hb⟩
      rw [List.take_of_length_le (by omega)] at ho'
      exact ⟨v', rfl, row_base hB ho', Fr.of_below hb⟩

set_option maxHeartbeats 2000000 in
theorem lists_eq {w : World} {p : Nat} {K : Nat → Prop} {S : Sg} (s : SegAt w p K S) (hn : S.tot ≤ 100000) :
    Calls Try.prog 37 #[.pointer (some ⟨p, 0, none⟩)] w fun e w' => ∃ a b c, e = .returned (.tuple #[a, b, c]) ∧ w'.ownsRow w.heap.size 3 1 a S.h.length (ints S.h) ∧ w'.ownsRow w.heap.size 3 1 b S.m.length (ints S.m) ∧
      w'.ownsRow w.heap.size 3 1 c S.c.length (ints S.c) ∧ Fr Nob w w' := by
  obtain ⟨ru, ri, V, q, hK⟩ := s
  obtain ⟨c0, c1, c2, c3, c4, ct, fz⟩ := q.cells
  have r0 := q.rows 0 (by omega)
  have r1 := q.rows 1 (by omega)
  have r2 := q.rows 2 (by omega)
  have l0 := S.get_le (t := 0) (by omega)
  have l1 := S.get_le (t := 1) (by omega)
  have l2 := S.get_le (t := 2) (by omega)
  generalize V 0 = v0 at *
  generalize V 1 = v1 at *
  generalize V 2 = v2 at *
  have R0 := Lib.hid ((Fr.refl Nob w).drew.ownsRow r0 fun _ _ h => h)
  have R1 := Lib.hid ((Fr.refl Nob w).drew.ownsRow r1 fun _ _ h => h)
  have R2 := Lib.hid ((Fr.refl Nob w).drew.ownsRow r2 fun _ _ h => h)
  have P0 := R0
  have P1 := R1
  have P2 := R2
  have F := Lib.hid (Fr.refl Nob w).drew
  clear ct fz c3 c4 q hK r0 r1 r2
  go_enter Try.func37, Try.ntmps37
  go_wp2_with fail
  go_region_with (first
    | (go_at_call 55; (with_reducible refine (clone_row (v := v0) R0.out (by omega) w.heap.size F.out.size).mono ?_); rintro e w1 ⟨u0, rfl, o0, f0⟩; replace F := Lib.hid (F.out.trans' f0); replace R0 := Lib.hid (f0.ownsRow R0.out fun _ _ h => h); replace R1 := Lib.hid (f0.ownsRow R1.out fun _ _ h => h); replace R2 := Lib.hid (f0.ownsRow R2.out fun _ _ h => h); replace P0 := Lib.hid (f0.ownsRow P0.out fun _ _ h => h); replace P1 := Lib.hid (f0.ownsRow P1.out fun _ _ h => h); replace P2 := Lib.hid (f0.ownsRow P2.out fun _ _ h => h); replace P0 := Lib.hid o0; clear o0; replace c0 := f0.cell c0 (fun h => h); replace c1 := f0.cell c1 (fun h => h); replace c2 := f0.cell c2 (fun h => h); clear f0)
    | (go_at_call 55; (with_reducible refine (clone_row (v := v1) R1.out (by omega) w.heap.size F.out.size).mono ?_); rintro e w1 ⟨u1, rfl, o1, f1⟩; replace F := Lib.hid (F.out.trans' f1); replace R0 := Lib.hid (f1.ownsRow R0.out fun _ _ h => h); replace R1 := Lib.hid (f1.ownsRow R1.out fun _ _ h => h); replace R2 := Lib.hid (f1.ownsRow R2.out fun _ _ h => h); replace P0 := Lib.hid (f1.ownsRow P0.out fun _ _ h => h); replace P1 := Lib.hid (f1.ownsRow P1.out fun _ _ h => h); replace P2 := Lib.hid (f1.ownsRow P2.out fun _ _ h => h); replace P1 := Lib.hid o1; clear o1; replace c0 := f1.cell c0 (fun h => h); replace c1 := f1.cell c1 (fun h => h); replace c2 := f1.cell c2 (fun h => h); clear f1)
    | (go_at_call 55; (with_reducible refine (clone_row (v := v2) R2.out (by omega) w.heap.size F.out.size).mono ?_); rintro e w1 ⟨u2, rfl, o2, f2⟩; replace F := Lib.hid (F.out.trans' f2); replace R0 := Lib.hid (f2.ownsRow R0.out fun _ _ h => h); replace R1 := Lib.hid (f2.ownsRow R1.out fun _ _ h => h); replace R2 := Lib.hid (f2.ownsRow R2.out fun _ _ h => h); replace P0 := Lib.hid (f2.ownsRow P0.out fun _ _ h => h); replace P1 := Lib.hid (f2.ownsRow P1.out fun _ _ h => h); replace P2 := Lib.hid (f2.ownsRow P2.out fun _ _ h => h); replace P2 := Lib.hid o2; clear o2; replace c0 := f2.cell c0 (fun h => h); replace c1 := f2.cell c1 (fun h => h); replace c2 := f2.cell c2 (fun h => h); clear f2))
  all_goals
    go_wp2_with fail
    go_ret3
    exact ⟨u0, u1, u2, rfl, P0.out, P1.out, P2.out, F.out⟩

end Go.Proofs.Ytpbbokpmlemboaa
