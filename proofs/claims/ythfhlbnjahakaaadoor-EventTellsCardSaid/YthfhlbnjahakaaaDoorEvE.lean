/-
  event: contracts of Good where no key is looked at; awake (written by gen/eve.py).
-/
import Derived.Test.YthfhlbnjahakaaaDoorEvD
namespace Go.Proofs.YthfhlbnjahakaaaDoor
open Go.RowKit

set_option maxHeartbeats 8000000 in
set_option maxRecDepth 100000 in
theorem good_quit {w : World} (d : ByteArray) (v : Value) (n1 n2 n3 n4 : Int) (b1 b2 b3 b4 : Bool) : Calls Tryd.prog 10 #[.agg #[.string ⟨#[119, 111, 114, 100]⟩, .string ⟨#[113, 117, 105, 116]⟩, v, .string d, .int .u32 n1, .int .i64 n2, .int .u64 n3, .int .u64 n4, .bool b1, .bool b2, .bool b3, .bool b4]] w fun e w' => e = .returned (.bool true) ∧ Fr Nob w w' := by
  have hb1 : Fr Nob w (w.alloc (.cells #[.string ⟨#[119, 111, 114, 100]⟩, .string ⟨#[113, 117, 105, 116]⟩, v, .string d, .int .u32 n1, .int .i64 n2, .int .u64 n3, .int .u64 n4, .bool b1, .bool b2, .bool b3, .bool b4] 28)) := frB _
  obtain ⟨B, hB⟩ : ∃ B, B = w.heap.size := ⟨_, rfl⟩
  obtain ⟨w1, hw1⟩ : ∃ w1, w1 = w.alloc (.cells #[.string ⟨#[119, 111, 114, 100]⟩, .string ⟨#[113, 117, 105, 116]⟩, v, .string d, .int .u32 n1, .int .i64 n2, .int .u64 n3, .int .u64 n4, .bool b1, .bool b2, .bool b3, .bool b4] 28) := ⟨_, rfl⟩
  have f1 : Fr Nob w w1 := by rw [hw1]; exact hb1
  have h1 : w1.heap[B]? = some (.cells #[.string ⟨#[119, 111, 114, 100]⟩, .string ⟨#[113, 117, 105, 116]⟩, v, .string d, .int .u32 n1, .int .i64 n2, .int .u64 n3, .int .u64 n4, .bool b1, .bool b2, .bool b3, .bool b4] 28 (0, 0)) := by rw [hw1, hB]; exact heap_alloc_new w _
  have OF := Lib.hid (of_word (w := w1) ⟨#[113, 117, 105, 116]⟩ d v n1 n2 n3 n4 b1 b2 b3 b4)
  have F0 := Lib.hid f1
  have H1 := Lib.hid h1
  have HW := Lib.hid hw1.symm
  have HB := Lib.hid hB.symm
  clear hb1 f1 hw1 h1 hB
  have AGet := taGet
  have AStore := taStore
  have AArith := taArith
  have ATouch := taTouch
  have ADelete := taDelete
  have AFlush := taFlush
  have ABad := taBad
  have AWord := taWord
  go_enter Tryd.func10, Tryd.ntmps10
  go_wp2_with fail
  rw [HW.out, HB.out]
  refine OF.out.mono ?_
  rintro e w2 ⟨rfl, f2⟩
  have F1 : Fr Nob w w2 := F0.out.trans' f2
  have h2 := f2.heap H1.out fun h => h
  have F1 := Lib.hid F1
  have H2 := Lib.hid h2
  clear h2
  go_wp2_with fail
  go_ret
  exact ⟨rfl, (by repeat first | exact F1.out | refine Fr.alloc ?_ _)⟩

set_option maxHeartbeats 8000000 in
set_option maxRecDepth 100000 in
theorem good_get0 {w : World} (b d : ByteArray) (v : Value) (n1 n2 n3 n4 : Int) (b1 b2 b3 b4 : Bool) (h : RdS w v []) : Calls Tryd.prog 10 #[.agg #[.string ⟨#[103, 101, 116]⟩, .string b, v, .string d, .int .u32 n1, .int .i64 n2, .int .u64 n3, .int .u64 n4, .bool b1, .bool b2, .bool b3, .bool b4]] w fun e w' => e = .returned (.bool false) ∧ Fr Nob w w' := by
  have hb1 : Fr Nob w (w.alloc (.cells #[.string ⟨#[103, 101, 116]⟩, .string b, v, .string d, .int .u32 n1, .int .i64 n2, .int .u64 n3, .int .u64 n4, .bool b1, .bool b2, .bool b3, .bool b4] 28)) := frB _
  obtain ⟨B, hB⟩ : ∃ B, B = w.heap.size := ⟨_, rfl⟩
  obtain ⟨w1, hw1⟩ : ∃ w1, w1 = w.alloc (.cells #[.string ⟨#[103, 101, 116]⟩, .string b, v, .string d, .int .u32 n1, .int .i64 n2, .int .u64 n3, .int .u64 n4, .bool b1, .bool b2, .bool b3, .bool b4] 28) := ⟨_, rfl⟩
  have f1 : Fr Nob w w1 := by rw [hw1]; exact hb1
  have h1 : w1.heap[B]? = some (.cells #[.string ⟨#[103, 101, 116]⟩, .string b, v, .string d, .int .u32 n1, .int .i64 n2, .int .u64 n3, .int .u64 n4, .bool b1, .bool b2, .bool b3, .bool b4] 28 (0, 0)) := by rw [hw1, hB]; exact heap_alloc_new w _
  have OF := Lib.hid (of_get (w := w1) b d v n1 n2 n3 n4 b1 b2 b3 b4 (h.nob f1) (by simp))
  have F0 := Lib.hid f1
  have H1 := Lib.hid h1
  have HW := Lib.hid hw1.symm
  have HB := Lib.hid hB.symm
  clear hb1 f1 hw1 h1 hB
  have AGet := taGet
  have AStore := taStore
  have AArith := taArith
  have ATouch := taTouch
  have ADelete := taDelete
  have AFlush := taFlush
  have ABad := taBad
  have AWord := taWord
  go_enter Tryd.func10, Tryd.ntmps10
  go_wp2_with fail
  rw [HW.out, HB.out]
  refine OF.out.mono ?_
  rintro e w2 ⟨v2, rfl, o2, f2⟩
  have F1 : Fr Nob w w2 := F0.out.trans' f2.out
  have h2 := f2.out.heap H1.out fun h => h
  obtain ⟨a2, c2, rfl⟩ := own_sl o2.out
  have F1 := Lib.hid F1
  have H2 := Lib.hid h2
  clear h2
  obtain ⟨wx, hwx⟩ : ∃ wx, wx = ((w2.alloc (.cells #[.string ⟨#[]⟩] 53)).alloc (.cells #[.bool false] 57)).alloc (.cells #[.string ⟨#[]⟩, .string ⟨#[]⟩, .string ⟨#[]⟩, .int .u32 0, .int .i64 0, .int .u64 0, .bool false] 47) := ⟨_, rfl⟩
  have fx : Fr Nob w2 wx := by rw [hwx]; exact (((Fr.refl Nob w2).alloc _).alloc _).alloc _
  have hx := fx.heap H2.out fun h => h
  have FX := Lib.hid (F1.out.trans' fx)
  have HX := Lib.hid hx
  have HWX := Lib.hid hwx.symm
  clear hwx fx hx F1 H2
  go_wp2_with fail
  go_quiet (fail)
  rw [HWX.out]
  have F5 := Lib.hid (FX.out.trans' ((Fr.refl Nob wx).drewN nq))
  have q0 : (wx.drewN nq).cell? ⟨B, 0, none⟩ = some (.string ⟨#[103, 101, 116]⟩) := cell_of_row wx B 0 _ _ (0, 0) HX.out
  have q1 : (wx.drewN nq).cell? ⟨B, 1, none⟩ = some (.string b) := cell_of_row wx B 1 _ _ (0, 0) HX.out
  have q2 : (wx.drewN nq).cell? ⟨B, 2, none⟩ = some (v) := cell_of_row wx B 2 _ _ (0, 0) HX.out
  have q3 : (wx.drewN nq).cell? ⟨B, 3, none⟩ = some (.string d) := cell_of_row wx B 3 _ _ (0, 0) HX.out
  have q4 : (wx.drewN nq).cell? ⟨B, 4, none⟩ = some (.int .u32 n1) := cell_of_row wx B 4 _ _ (0, 0) HX.out
  have q5 : (wx.drewN nq).cell? ⟨B, 5, none⟩ = some (.int .i64 n2) := cell_of_row wx B 5 _ _ (0, 0) HX.out
  have q6 : (wx.drewN nq).cell? ⟨B, 6, none⟩ = some (.int .u64 n3) := cell_of_row wx B 6 _ _ (0, 0) HX.out
  have q7 : (wx.drewN nq).cell? ⟨B, 7, none⟩ = some (.int .u64 n4) := cell_of_row wx B 7 _ _ (0, 0) HX.out
  have q8 : (wx.drewN nq).cell? ⟨B, 8, none⟩ = some (.bool b1) := cell_of_row wx B 8 _ _ (0, 0) HX.out
  have q9 : (wx.drewN nq).cell? ⟨B, 9, none⟩ = some (.bool b2) := cell_of_row wx B 9 _ _ (0, 0) HX.out
  have q10 : (wx.drewN nq).cell? ⟨B, 10, none⟩ = some (.bool b3) := cell_of_row wx B 10 _ _ (0, 0) HX.out
  have q11 : (wx.drewN nq).cell? ⟨B, 11, none⟩ = some (.bool b4) := cell_of_row wx B 11 _ _ (0, 0) HX.out
  clear FX HX HWX
  generalize wx.drewN nq = w5 at *
  go_wp2_with fail
  refine (keysF_get b d v n1 n2 n3 n4 b1 b2 b3 b4 (h.nob F5.out) (by simp)).mono ?_
  rintro e w6 ⟨v6, rfl, o6, f6⟩
  obtain ⟨a6, c6, rfl⟩ := own_sl o6.out
  have F6 : Fr Nob w w6 := F5.out.trans' f6.out
  go_wp2_with fail
  go_ret
  exact ⟨rfl, (by repeat first | exact F6 | refine Fr.alloc ?_ _)⟩

set_option maxHeartbeats 8000000 in
set_option maxRecDepth 100000 in
theorem good_bad {w : World} (b d : ByteArray) (v : Value) (n1 n2 n3 n4 : Int) (b1 b2 b3 b4 : Bool) : Calls Tryd.prog 10 #[.agg #[.string ⟨#[98, 97, 100]⟩, .string b, v, .string d, .int .u32 n1, .int .i64 n2, .int .u64 n3, .int .u64 n4, .bool b1, .bool b2, .bool b3, .bool b4]] w fun e w' => e = .returned (.bool false) ∧ Fr Nob w w' := by
  have hb1 : Fr Nob w (w.alloc (.cells #[.string ⟨#[98, 97, 100]⟩, .string b, v, .string d, .int .u32 n1, .int .i64 n2, .int .u64 n3, .int .u64 n4, .bool b1, .bool b2, .bool b3, .bool b4] 28)) := frB _
  obtain ⟨B, hB⟩ : ∃ B, B = w.heap.size := ⟨_, rfl⟩
  obtain ⟨w1, hw1⟩ : ∃ w1, w1 = w.alloc (.cells #[.string ⟨#[98, 97, 100]⟩, .string b, v, .string d, .int .u32 n1, .int .i64 n2, .int .u64 n3, .int .u64 n4, .bool b1, .bool b2, .bool b3, .bool b4] 28) := ⟨_, rfl⟩
  have f1 : Fr Nob w w1 := by rw [hw1]; exact hb1
  have h1 : w1.heap[B]? = some (.cells #[.string ⟨#[98, 97, 100]⟩, .string b, v, .string d, .int .u32 n1, .int .i64 n2, .int .u64 n3, .int .u64 n4, .bool b1, .bool b2, .bool b3, .bool b4] 28 (0, 0)) := by rw [hw1, hB]; exact heap_alloc_new w _
  have OF := Lib.hid (of_bad (w := w1) b d v n1 n2 n3 n4 b1 b2 b3 b4)
  have F0 := Lib.hid f1
  have H1 := Lib.hid h1
  have HW := Lib.hid hw1.symm
  have HB := Lib.hid hB.symm
  clear hb1 f1 hw1 h1 hB
  have AGet := taGet
  have AStore := taStore
  have AArith := taArith
  have ATouch := taTouch
  have ADelete := taDelete
  have AFlush := taFlush
  have ABad := taBad
  have AWord := taWord
  go_enter Tryd.func10, Tryd.ntmps10
  go_wp2_with fail
  rw [HW.out, HB.out]
  refine OF.out.mono ?_
  rintro e w2 ⟨rfl, f2⟩
  have F1 : Fr Nob w w2 := F0.out.trans' f2
  have h2 := f2.heap H1.out fun h => h
  have F1 := Lib.hid F1
  have H2 := Lib.hid h2
  clear h2
  obtain ⟨wx, hwx⟩ : ∃ wx, wx = ((w2.alloc (.cells #[.string ⟨#[]⟩] 53)).alloc (.cells #[.bool false] 57)).alloc (.cells #[.string ⟨#[]⟩, .string ⟨#[]⟩, .string ⟨#[]⟩, .int .u32 0, .int .i64 0, .int .u64 0, .bool false] 47) := ⟨_, rfl⟩
  have fx : Fr Nob w2 wx := by rw [hwx]; exact (((Fr.refl Nob w2).alloc _).alloc _).alloc _
  have hx := fx.heap H2.out fun h => h
  have FX := Lib.hid (F1.out.trans' fx)
  have HX := Lib.hid hx
  have HWX := Lib.hid hwx.symm
  clear hwx fx hx F1 H2
  go_wp2_with fail
  go_quiet (fail)
  rw [HWX.out]
  have F5 := Lib.hid (FX.out.trans' ((Fr.refl Nob wx).drewN nq))
  have q0 : (wx.drewN nq).cell? ⟨B, 0, none⟩ = some (.string ⟨#[98, 97, 100]⟩) := cell_of_row wx B 0 _ _ (0, 0) HX.out
  have q1 : (wx.drewN nq).cell? ⟨B, 1, none⟩ = some (.string b) := cell_of_row wx B 1 _ _ (0, 0) HX.out
  have q2 : (wx.drewN nq).cell? ⟨B, 2, none⟩ = some (v) := cell_of_row wx B 2 _ _ (0, 0) HX.out
  have q3 : (wx.drewN nq).cell? ⟨B, 3, none⟩ = some (.string d) := cell_of_row wx B 3 _ _ (0, 0) HX.out
  have q4 : (wx.drewN nq).cell? ⟨B, 4, none⟩ = some (.int .u32 n1) := cell_of_row wx B 4 _ _ (0, 0) HX.out
  have q5 : (wx.drewN nq).cell? ⟨B, 5, none⟩ = some (.int .i64 n2) := cell_of_row wx B 5 _ _ (0, 0) HX.out
  have q6 : (wx.drewN nq).cell? ⟨B, 6, none⟩ = some (.int .u64 n3) := cell_of_row wx B 6 _ _ (0, 0) HX.out
  have q7 : (wx.drewN nq).cell? ⟨B, 7, none⟩ = some (.int .u64 n4) := cell_of_row wx B 7 _ _ (0, 0) HX.out
  have q8 : (wx.drewN nq).cell? ⟨B, 8, none⟩ = some (.bool b1) := cell_of_row wx B 8 _ _ (0, 0) HX.out
  have q9 : (wx.drewN nq).cell? ⟨B, 9, none⟩ = some (.bool b2) := cell_of_row wx B 9 _ _ (0, 0) HX.out
  have q10 : (wx.drewN nq).cell? ⟨B, 10, none⟩ = some (.bool b3) := cell_of_row wx B 10 _ _ (0, 0) HX.out
  have q11 : (wx.drewN nq).cell? ⟨B, 11, none⟩ = some (.bool b4) := cell_of_row wx B 11 _ _ (0, 0) HX.out
  clear FX HX HWX
  generalize wx.drewN nq = w5 at *
  go_wp2_with fail
  refine (keysF_bad b d v n1 n2 n3 n4 b1 b2 b3 b4).mono ?_
  rintro e w6 ⟨rfl, f6⟩
  have F6 : Fr Nob w w6 := F5.out.trans' f6
  go_wp2_with fail
  go_ret
  exact ⟨rfl, (by repeat first | exact F6 | refine Fr.alloc ?_ _)⟩

set_option maxHeartbeats 8000000 in
set_option maxRecDepth 100000 in
theorem good_none {w : World} (a b d : ByteArray) (v : Value) (n1 n2 n3 n4 : Int) (b1 b2 b3 b4 : Bool) (h : noWord a) : Calls Tryd.prog 10 #[.agg #[.string a, .string b, v, .string d, .int .u32 n1, .int .i64 n2, .int .u64 n3, .int .u64 n4, .bool b1, .bool b2, .bool b3, .bool b4]] w fun e w' => e = .returned (.bool false) ∧ Fr Nob w w' := by
  have hb1 : Fr Nob w (w.alloc (.cells #[.string a, .string b, v, .string d, .int .u32 n1, .int .i64 n2, .int .u64 n3, .int .u64 n4, .bool b1, .bool b2, .bool b3, .bool b4] 28)) := frB _
  obtain ⟨B, hB⟩ : ∃ B, B = w.heap.size := ⟨_, rfl⟩
  obtain ⟨w1, hw1⟩ : ∃ w1, w1 = w.alloc (.cells #[.string a, .string b, v, .string d, .int .u32 n1, .int .i64 n2, .int .u64 n3, .int .u64 n4, .bool b1, .bool b2, .bool b3, .bool b4] 28) := ⟨_, rfl⟩
  have f1 : Fr Nob w w1 := by rw [hw1]; exact hb1
  have h1 : w1.heap[B]? = some (.cells #[.string a, .string b, v, .string d, .int .u32 n1, .int .i64 n2, .int .u64 n3, .int .u64 n4, .bool b1, .bool b2, .bool b3, .bool b4] 28 (0, 0)) := by rw [hw1, hB]; exact heap_alloc_new w _
  have OF := Lib.hid (of_none (w := w1) a b d v n1 n2 n3 n4 b1 b2 b3 b4 h)
  have F0 := Lib.hid f1
  have H1 := Lib.hid h1
  have HW := Lib.hid hw1.symm
  have HB := Lib.hid hB.symm
  clear hb1 f1 hw1 h1 hB
  have AGet := tnGet
  have AStore := tnStore
  have AArith := tnArith
  have ATouch := tnTouch
  have ADelete := tnDelete
  have AFlush := tnFlush
  have ABad := tnBad
  have AWord := tnWord
  go_enter Tryd.func10, Tryd.ntmps10
  go_wp2_with fail
  rw [HW.out, HB.out]
  refine OF.out.mono ?_
  rintro e w2 ⟨rfl, f2⟩
  have F1 : Fr Nob w w2 := F0.out.trans' f2
  have h2 := f2.heap H1.out fun h => h
  have F1 := Lib.hid F1
  have H2 := Lib.hid h2
  clear h2
  obtain ⟨wx, hwx⟩ : ∃ wx, wx = ((w2.alloc (.cells #[.string ⟨#[]⟩] 53)).alloc (.cells #[.bool false] 57)).alloc (.cells #[.string ⟨#[]⟩, .string ⟨#[]⟩, .string ⟨#[]⟩, .int .u32 0, .int .i64 0, .int .u64 0, .bool false] 47) := ⟨_, rfl⟩
  have fx : Fr Nob w2 wx := by rw [hwx]; exact (((Fr.refl Nob w2).alloc _).alloc _).alloc _
  have hx := fx.heap H2.out fun h => h
  have FX := Lib.hid (F1.out.trans' fx)
  have HX := Lib.hid hx
  have HWX := Lib.hid hwx.symm
  clear hwx fx hx F1 H2
  go_wp2_with fail
  go_quiet (fail)
  rw [HWX.out]
  have F5 := Lib.hid (FX.out.trans' ((Fr.refl Nob wx).drewN nq))
  have q0 : (wx.drewN nq).cell? ⟨B, 0, none⟩ = some (.string a) := cell_of_row wx B 0 _ _ (0, 0) HX.out
  have q1 : (wx.drewN nq).cell? ⟨B, 1, none⟩ = some (.string b) := cell_of_row wx B 1 _ _ (0, 0) HX.out
  have q2 : (wx.drewN nq).cell? ⟨B, 2, none⟩ = some (v) := cell_of_row wx B 2 _ _ (0, 0) HX.out
  have q3 : (wx.drewN nq).cell? ⟨B, 3, none⟩ = some (.string d) := cell_of_row wx B 3 _ _ (0, 0) HX.out
  have q4 : (wx.drewN nq).cell? ⟨B, 4, none⟩ = some (.int .u32 n1) := cell_of_row wx B 4 _ _ (0, 0) HX.out
  have q5 : (wx.drewN nq).cell? ⟨B, 5, none⟩ = some (.int .i64 n2) := cell_of_row wx B 5 _ _ (0, 0) HX.out
  have q6 : (wx.drewN nq).cell? ⟨B, 6, none⟩ = some (.int .u64 n3) := cell_of_row wx B 6 _ _ (0, 0) HX.out
  have q7 : (wx.drewN nq).cell? ⟨B, 7, none⟩ = some (.int .u64 n4) := cell_of_row wx B 7 _ _ (0, 0) HX.out
  have q8 : (wx.drewN nq).cell? ⟨B, 8, none⟩ = some (.bool b1) := cell_of_row wx B 8 _ _ (0, 0) HX.out
  have q9 : (wx.drewN nq).cell? ⟨B, 9, none⟩ = some (.bool b2) := cell_of_row wx B 9 _ _ (0, 0) HX.out
  have q10 : (wx.drewN nq).cell? ⟨B, 10, none⟩ = some (.bool b3) := cell_of_row wx B 10 _ _ (0, 0) HX.out
  have q11 : (wx.drewN nq).cell? ⟨B, 11, none⟩ = some (.bool b4) := cell_of_row wx B 11 _ _ (0, 0) HX.out
  clear FX HX HWX
  generalize wx.drewN nq = w5 at *
  go_wp2_with fail
  refine (keysF_none a b d v n1 n2 n3 n4 b1 b2 b3 b4 h).mono ?_
  rintro e w6 ⟨rfl, f6⟩
  have F6 : Fr Nob w w6 := F5.out.trans' f6
  go_wp2_with fail
  go_ret
  exact ⟨rfl, (by repeat first | exact F6 | refine Fr.alloc ?_ _)⟩
end Go.Proofs.YthfhlbnjahakaaaDoor
