/-
  Law 6: TombKnown, walked.
-/
import Derived.Test.YtpdljgjofebgpaaTombAw
namespace Go.Proofs.Ytpdljgjofebgpaa
open Go.RowKit

theorem open_far {W w : World} {q : Nat} {K N : Nat → Prop} {D : Dv} (h : DL W w q K N D) (hl : D.pg.length = 3) :
    Calls Try.prog 49 #[.pointer (some ⟨q, 0, none⟩), .int .i64 2, .int .i64 2, .int .u64 1] w fun e w' => e = .returned (.tuple #[.pointer none, .int .i64 1]) ∧ w = w' := by
  have H := Lib.hid h.pages
  rw [hl] at H
  clear h hl
  go_enter Try.func49, Try.ntmps49
  go_wp2_with (go_at_call 61; refine H.out.mono ?_; rintro e w' ⟨rfl, rfl⟩)
  go_ret2
  exact ⟨rfl, rfl⟩
theorem open_neg {w : World} {q : Nat} :
    Calls Try.prog 49 #[.pointer (some ⟨q, 0, none⟩), .int .i64 (-1), .int .i64 1, .int .u64 1] w fun e w' => e = .returned (.tuple #[.pointer none, .int .i64 1]) ∧ w = w' := by
  go_enter Try.func49, Try.ntmps49
  go_wp2_with fail
  go_ret2
  exact ⟨rfl, rfl⟩
theorem add_long {w : World} {j n cap : Nat} {a : Option Addr} (hl : 23 < n) : Calls Try.prog 50 #[.pointer (some ⟨j, 0, none⟩), .slice a n cap] w fun e w' => e = .returned (.int .i64 1) ∧ w = w' := by
  have h1 : ((n : Int) == 0) = false := beq_false_of_ne (by omega)
  have h2 : (23 : Int) < (n : Int) := by omega
  go_enter Try.func50, Try.ntmps50
  go_wp2_with fail
  go_ret
  exact ⟨rfl, rfl⟩

set_option maxRecDepth 100000 in
set_option maxHeartbeats 4000000 in
theorem tombKnown_walk (w : World) : Calls Try.prog 14 #[] w fun e w' => e = .returned (.bool true) ∧ Fr Nob w w' := by
  go_enter Try.func14, Try.ntmps14
  go_wp2_with fail
  refine (awake6_eq w).mono ?_
  rintro e w0 ⟨rfl, f0⟩
  have F0 := Lib.hid f0
  clear f0
  go_wp2_with fail
  refine (DL.new (n := 3) F0.out (by omega) (by omega)).mono ?_
  rintro e w1 ⟨q, K, rfl, d, _, _⟩
  have OF := Lib.hid (open_far d (by simp [Dv.new]))
  have OP := Lib.hid (JL.opened d rfl (first := 2) (pages := 1) (gen := 1) (by omega) (by simp [Dv.new]) (by simp [Dv.new]))
  clear d
  go_wp2_with (first
    | (go_at_call 49; (with_reducible refine OF.out.mono ?_); rintro e w' ⟨rfl, rfl⟩)
    | (go_at_call 49; (with_reducible refine open_neg.mono ?_); rintro e w' ⟨rfl, rfl⟩))
  refine OP.out.mono ?_
  rintro e w2 ⟨j, rfl, m, D1, a1, lk1, _⟩
  have hJ : opened (Dv.new 3) 2 1 1 = ⟨2, 1, 1, 0, 0, []⟩ := rfl
  rw [hJ] at a1
  have A1 := Lib.hid a1
  clear a1 lk1 OP hJ OF
  go_wp2_with (with_reducible refine wpList_make_all (o := ⟨some 31, _, _, _, _, _⟩) rfl _ _ 74 rfl 80 #[.int .u64 0, .int .u64 0] 2 16 Try.underlying74 mk_info .i64 .i64 24 rfl rfl (by omega) (by omega) ?_)
  intro cs hcs
  have a3 := A1.out.nob ((Fr.refl Nob w2).alloc (.cells cs 80))
  have RO := Lib.hid (a3.room 1 (by show (1 : Int) = 1 - 0; omega))
  have A3 := Lib.hid a3
  clear a3 hcs A1
  generalize w2.alloc (.cells cs 80) = w3 at *
  go_wp2_with (first
    | (go_at_call 50; (with_reducible refine add_nil.mono ?_); rintro e w' ⟨rfl, rfl⟩)
    | (go_at_call 50; refine (add_long (by omega)).mono ?_; rintro e w' ⟨rfl, rfl⟩)
    | (go_at_call 51; (with_reducible refine RO.out.mono ?_); rintro e w4 ⟨rfl, f4⟩; have MK := Lib.hid ((A3.out.nob f4).marks (by show 0 ≤ 1; omega)); have F4 := Lib.hid (A3.out.nob f4).fr; clear f4)
    | (go_at_call 52; (with_reducible refine MK.out.mono ?_); rintro e w5 ⟨lv, rfl, own5, f5⟩; obtain ⟨la, lc, rfl, _⟩ := RdM.of_row own5))
  go_ret
  exact ⟨rfl, F4.out.trans' f5⟩

end Go.Proofs.Ytpdljgjofebgpaa
