/-
  event: contracts of Good at a flush, at a word (written by gen/evt.py).
-/
import Derived.Test.YthfhlbnjahakaaaDoorEvE
namespace Go.Proofs.YthfhlbnjahakaaaDoor
open Go.RowKit

set_option maxHeartbeats 8000000 in
set_option maxRecDepth 100000 in
theorem good_flush {w : World} (b d : ByteArray) (v : Value) (n1 n2 n3 n4 : Int) (b1 b2 b3 b4 : Bool) : Calls Tryd.prog 10 #[.agg #[.string ⟨#[102, 108, 117, 115, 104]⟩, .string b, v, .string d, .int .u32 n1, .int .i64 n2, .int .u64 n3, .int .u64 n4, .bool b1, .bool b2, .bool b3, .bool b4]] w fun e w' => e = .returned (.bool true) ∧ Fr Nob w w' := by
  have hb1 : Fr Nob w (w.alloc (.cells #[.string ⟨#[102, 108, 117, 115, 104]⟩, .string b, v, .string d, .int .u32 n1, .int .i64 n2, .int .u64 n3, .int .u64 n4, .bool b1, .bool b2, .bool b3, .bool b4] 28)) := frB _
  obtain ⟨B, hB⟩ : ∃ B, B = w.heap.size := ⟨_, rfl⟩
  obtain ⟨w1, hw1⟩ : ∃ w1, w1 = w.alloc (.cells #[.string ⟨#[102, 108, 117, 115, 104]⟩, .string b, v, .string d, .int .u32 n1, .int .i64 n2, .int .u64 n3, .int .u64 n4, .bool b1, .bool b2, .bool b3, .bool b4] 28) := ⟨_, rfl⟩
  have f1 : Fr Nob w w1 := by rw [hw1]; exact hb1
  have h1 : w1.heap[B]? = some (.cells #[.string ⟨#[102, 108, 117, 115, 104]⟩, .string b, v, .string d, .int .u32 n1, .int .i64 n2, .int .u64 n3, .int .u64 n4, .bool b1, .bool b2, .bool b3, .bool b4] 28 (0, 0)) := by rw [hw1, hB]; exact heap_alloc_new w _
  have OF := Lib.hid (of_flush (w := w1) b d v n1 n2 n3 n4 b1 b2 b3 b4)
  have F0 := Lib.hid f1
  have H1 := Lib.hid h1
  have HW := Lib.hid hw1.symm
  have HB := Lib.hid hB.symm
  clear hb1 f1 hw1 h1 hB
  have AGet := taGet
  have AStore := taStore
  have AArith := taArith
  have ATouch := taTouch
  have ADelete := taDelete
  have AFlush := taFlush
  have ABad := taBad
  have AWord := taWord
  go_enter Tryd.func10, Tryd.ntmps10
  go_wp2_with fail
  rw [HW.out, HB.out]
  refine OF.out.mono ?_
  rintro e w2 ⟨rfl, f2⟩
  have F1 : Fr Nob w w2 := F0.out.trans' f2
  have h2 := f2.heap H1.out fun h => h
  have F1 := Lib.hid F1
  have H2 := Lib.hid h2
  clear h2
  go_wp2_with fail
  go_ret
  exact ⟨rfl, (by repeat first | exact F1.out | refine Fr.alloc ?_ _)⟩

set_option maxHeartbeats 8000000 in
set_option maxRecDepth 100000 in
theorem good_version {w : World} (d : ByteArray) (v : Value) (n1 n2 n3 n4 : Int) (b1 b2 b3 b4 : Bool) : Calls Tryd.prog 10 #[.agg #[.string ⟨#[119, 111, 114, 100]⟩, .string ⟨#[118, 101, 114, 115, 105, 111, 110]⟩, v, .string d, .int .u32 n1, .int .i64 n2, .int .u64 n3, .int .u64 n4, .bool b1, .bool b2, .bool b3, .bool b4]] w fun e w' => e = .returned (.bool true) ∧ Fr Nob w w' := by
  have hb1 : Fr Nob w (w.alloc (.cells #[.string ⟨#[119, 111, 114, 100]⟩, .string ⟨#[118, 101, 114, 115, 105, 111, 110]⟩, v, .string d, .int .u32 n1, .int .i64 n2, .int .u64 n3, .int .u64 n4, .bool b1, .bool b2, .bool b3, .bool b4] 28)) := frB _
  obtain ⟨B, hB⟩ : ∃ B, B = w.heap.size := ⟨_, rfl⟩
  obtain ⟨w1, hw1⟩ : ∃ w1, w1 = w.alloc (.cells #[.string ⟨#[119, 111, 114, 100]⟩, .string ⟨#[118, 101, 114, 115, 105, 111, 110]⟩, v, .string d, .int .u32 n1, .int .i64 n2, .int .u64 n3, .int .u64 n4, .bool b1, .bool b2, .bool b3, .bool b4] 28) := ⟨_, rfl⟩
  have f1 : Fr Nob w w1 := by rw [hw1]; exact hb1
  have h1 : w1.heap[B]? = some (.cells #[.string ⟨#[119, 111, 114, 100]⟩, .string ⟨#[118, 101, 114, 115, 105, 111, 110]⟩, v, .string d, .int .u32 n1, .int .i64 n2, .int .u64 n3, .int .u64 n4, .bool b1, .bool b2, .bool b3, .bool b4] 28 (0, 0)) := by rw [hw1, hB]; exact heap_alloc_new w _
  have OF := Lib.hid (of_word (w := w1) ⟨#[118, 101, 114, 115, 105, 111, 110]⟩ d v n1 n2 n3 n4 b1 b2 b3 b4)
  have F0 := Lib.hid f1
  have H1 := Lib.hid h1
  have HW := Lib.hid hw1.symm
  have HB := Lib.hid hB.symm
  clear hb1 f1 hw1 h1 hB
  have AGet := taGet
  have AStore := taStore
  have AArith := taArith
  have ATouch := taTouch
  have ADelete := taDelete
  have AFlush := taFlush
  have ABad := taBad
  have AWord := taWord
  go_enter Tryd.func10, Tryd.ntmps10
  go_wp2_with fail
  rw [HW.out, HB.out]
  refine OF.out.mono ?_
  rintro e w2 ⟨rfl, f2⟩
  have F1 : Fr Nob w w2 := F0.out.trans' f2
  have h2 := f2.heap H1.out fun h => h
  have F1 := Lib.hid F1
  have H2 := Lib.hid h2
  clear h2
  go_wp2_with fail
  go_ret
  exact ⟨rfl, (by repeat first | exact F1.out | refine Fr.alloc ?_ _)⟩

set_option maxHeartbeats 8000000 in
set_option maxRecDepth 100000 in
theorem good_noword {w : World} (b d : ByteArray) (v : Value) (n1 n2 n3 n4 : Int) (b1 b2 b3 b4 : Bool) (h1 : b ≠ ⟨#[118, 101, 114, 115, 105, 111, 110]⟩) (h2 : b ≠ ⟨#[113, 117, 105, 116]⟩) : Calls Tryd.prog 10 #[.agg #[.string ⟨#[119, 111, 114, 100]⟩, .string b, v, .string d, .int .u32 n1, .int .i64 n2, .int .u64 n3, .int .u64 n4, .bool b1, .bool b2, .bool b3, .bool b4]] w fun e w' => e = .returned (.bool false) ∧ Fr Nob w w' := by
  have hb1 : Fr Nob w (w.alloc (.cells #[.string ⟨#[119, 111, 114, 100]⟩, .string b, v, .string d, .int .u32 n1, .int .i64 n2, .int .u64 n3, .int .u64 n4, .bool b1, .bool b2, .bool b3, .bool b4] 28)) := frB _
  obtain ⟨B, hB⟩ : ∃ B, B = w.heap.size := ⟨_, rfl⟩
  obtain ⟨w1, hw1⟩ : ∃ w1, w1 = w.alloc (.cells #[.string ⟨#[119, 111, 114, 100]⟩, .string b, v, .string d, .int .u32 n1, .int .i64 n2, .int .u64 n3, .int .u64 n4, .bool b1, .bool b2, .bool b3, .bool b4] 28) := ⟨_, rfl⟩
  have f1 : Fr Nob w w1 := by rw [hw1]; exact hb1
  have hc1 : w1.heap[B]? = some (.cells #[.string ⟨#[119, 111, 114, 100]⟩, .string b, v, .string d, .int .u32 n1, .int .i64 n2, .int .u64 n3, .int .u64 n4, .bool b1, .bool b2, .bool b3, .bool b4] 28 (0, 0)) := by rw [hw1, hB]; exact heap_alloc_new w _
  have OF := Lib.hid (of_word (w := w1) b d v n1 n2 n3 n4 b1 b2 b3 b4)
  have F0 := Lib.hid f1
  have H1 := Lib.hid hc1
  have HW := Lib.hid hw1.symm
  have HB := Lib.hid hB.symm
  clear hb1 f1 hw1 hc1 hB
  have AGet := taGet
  have AStore := taStore
  have AArith := taArith
  have ATouch := taTouch
  have ADelete := taDelete
  have AFlush := taFlush
  have ABad := taBad
  have AWord := taWord
  have x1 := lit_ne h1
  have x2 := lit_ne h2
  clear h1 h2
  go_enter Tryd.func10, Tryd.ntmps10
  go_wp2_with fail
  rw [HW.out, HB.out]
  refine OF.out.mono ?_
  rintro e w2 ⟨rfl, f2⟩
  have F1 : Fr Nob w w2 := F0.out.trans' f2
  have h2 := f2.heap H1.out fun h => h
  have F1 := Lib.hid F1
  have H2 := Lib.hid h2
  clear h2
  go_wp2_with fail
  go_ret
  exact ⟨rfl, (by repeat first | exact F1.out | refine Fr.alloc ?_ _)⟩

theorem good_word {w : World} (b d : ByteArray) (v : Value) (n1 n2 n3 n4 : Int) (b1 b2 b3 b4 : Bool) : Calls Tryd.prog 10 #[.agg #[.string ⟨#[119, 111, 114, 100]⟩, .string b, v, .string d, .int .u32 n1, .int .i64 n2, .int .u64 n3, .int .u64 n4, .bool b1, .bool b2, .bool b3, .bool b4]] w fun e w' => e = .returned (.bool (decide (b = ⟨#[118, 101, 114, 115, 105, 111, 110]⟩) || decide (b = ⟨#[113, 117, 105, 116]⟩))) ∧ Fr Nob w w' := by
  by_cases e1 : b = ⟨#[118, 101, 114, 115, 105, 111, 110]⟩
  · subst e1
    exact good_version d v n1 n2 n3 n4 b1 b2 b3 b4
  · by_cases e2 : b = ⟨#[113, 117, 105, 116]⟩
    · subst e2
      exact good_quit d v n1 n2 n3 n4 b1 b2 b3 b4
    · rw [decide_eq_false e1, decide_eq_false e2]
      exact good_noword b d v n1 n2 n3 n4 b1 b2 b3 b4 e1 e2
end Go.Proofs.YthfhlbnjahakaaaDoor
