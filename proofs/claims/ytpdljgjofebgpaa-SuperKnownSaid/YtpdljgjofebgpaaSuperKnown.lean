/-
  Law 5: SuperKnown, walked.
-/
import Derived.Test.YtpdljgjofebgpaaSupAw
namespace Go.Proofs.Ytpdljgjofebgpaa
open Go.RowKit

set_option maxRecDepth 100000 in
set_option maxHeartbeats 1000000 in
theorem superKnown_walk (w : World) : Calls Try.prog 3 #[] w fun e w' => e = .returned (.bool true) ∧ Fr Nob w w' := by
  go_enter Try.func3, Try.ntmps3
  go_wp2_with fail
  refine (awake5_eq w).mono ?_
  rintro e w0 ⟨rfl, f0⟩
  have F0 := Lib.hid f0
  clear f0
  go_wp2_with fail
  refine (DL.new (n := 1) F0.out (by omega) (by omega)).mono ?_
  rintro e w1 ⟨q, K, rfl, d, _, _⟩
  have D := Lib.hid d
  clear d
  go_wp2_with fail
  refine (load_bad D.out (by decide)).mono ?_
  rintro e w2 ⟨rfl, f2⟩
  replace D := Lib.hid (D.out.nob f2)
  clear f2
  go_wp2_with fail
  have d := D.out.nob ((Fr.refl Nob w2).alloc (.cells #[.int .u64 0, .int .u64 0, .int .u64 0, .int .u64 0, .int .u64 0, .bool false, .int .i64 0] 29))
  generalize w2.alloc (.cells #[.int .u64 0, .int .u64 0, .int .u64 0, .int .u64 0, .int .u64 0, .bool false, .int .i64 0] 29) = w3 at *
  refine (store_bad d (by decide) Blk.zero).mono ?_
  rintro e w4 ⟨rfl, f4⟩
  replace D := Lib.hid (d.nob f4)
  clear f4 d
  go_wp2_with (with_reducible refine wpList_make_all rfl _ _ 34 rfl 5 #[.int .u8 0] 1 1 Try.underlying34 u8_info' .i64 .i64 63 rfl rfl (by omega) (by omega) ?_)
  intro cs hcs
  have hcs2 := hcs.out.trans (made_bytes 63)
  obtain ⟨w5, hw5⟩ : ∃ w5, w5 = w4.alloc (.cells #[.int .u64 0, .int .u64 0, .int .u64 0, .int .u64 0, .int .u64 0, .bool false, .int .i64 0] 29) := ⟨_, rfl⟩
  have f5 : Fr Nob w4 (w5.alloc (.cells cs 5)) := by rw [hw5]; exact ((Fr.refl Nob w4).alloc _).alloc _
  have r5 : RdB (w5.alloc (.cells cs 5)) (.slice (some ⟨w5.heap.size, 0, none⟩) 63 63) (List.replicate 63 0) := by
    have h := heap_alloc_new w5 (.cells cs 5)
    rw [hcs2] at h ⊢
    exact RdB.of_block' h (by simp)
  have hsz : w5.heap.size = w4.heap.size + 1 := by rw [hw5]; simp
  rw [hsz] at r5
  have R5 := Lib.hid r5
  have D5 := Lib.hid (D.out.nob f5)
  have HW5 := Lib.hid hw5
  clear hw5 f5 r5 hsz hcs hcs2 D
  go_wp2_with fail
  rw [← HW5.out]
  refine (decode_short R5.out (by simp)).mono ?_
  rintro e w6 ⟨rfl, f6⟩
  rw [← zeroV_eq]
  have D6 := Lib.hid (D5.out.nob f6)
  clear f6 R5 D5 HW5 w5
  go_wp2_with (with_reducible refine wpList_make_all rfl _ _ 34 rfl 5 #[.int .u8 0] 1 1 Try.underlying34 u8_info' .i64 .i64 64 rfl rfl (by omega) (by omega) ?_)
  intro cs hcs
  have hcs2 := hcs.out.trans (made_bytes 64)
  obtain ⟨w5, hw5⟩ : ∃ w5, w5 = w6.alloc (.cells #[.int .u64 0, .int .u64 0, .int .u64 0, .int .u64 0, .int .u64 0, .bool false, .int .i64 0] 29) := ⟨_, rfl⟩
  have f5 : Fr Nob w6 (w5.alloc (.cells cs 5)) := by rw [hw5]; exact ((Fr.refl Nob w6).alloc _).alloc _
  have r5 : RdB (w5.alloc (.cells cs 5)) (.slice (some ⟨w5.heap.size, 0, none⟩) 64 64) (List.replicate 64 0) := by
    have h := heap_alloc_new w5 (.cells cs 5)
    rw [hcs2] at h ⊢
    exact RdB.of_block' h (by simp)
  have hsz : w5.heap.size = w6.heap.size + 1 := by rw [hw5]; simp
  rw [hsz] at r5
  have D7 := Lib.hid (D6.out.nob f5)
  have DEC : Calls Try.prog 27 #[.slice (some ⟨w6.heap.size + 1, 0, none⟩) 64 64] (w5.alloc (.cells cs 5)) fun e w' => e = .returned (.tuple #[.agg #[.int .u64 0, .int .u64 0, .int .u64 0, .int .u64 0, .int .u64 0, .bool false, .int .i64 0], .int .i64 3]) ∧ Fr Nob (w5.alloc (.cells cs 5)) w' := decode_eq ⟨r5, _, _, _, rfl, Nat.le_refl _, by omega⟩ none dec_zeros
  have HW5 := Lib.hid hw5
  have DEC' := Lib.hid DEC
  clear hw5 f5 r5 hsz hcs hcs2 DEC D6
  go_wp2_with fail
  rw [← HW5.out]
  refine DEC'.out.mono ?_
  rintro e w8 ⟨rfl, f8⟩
  have F := Lib.hid (D7.out.fr.trans' f8)
  clear f8 DEC' HW5 D7
  go_wp2_with fail
  go_ret
  exact ⟨rfl, F.out.alloc _⟩

end Go.Proofs.Ytpdljgjofebgpaa
