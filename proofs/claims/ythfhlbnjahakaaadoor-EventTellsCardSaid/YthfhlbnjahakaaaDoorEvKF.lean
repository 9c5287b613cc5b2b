/-
  event: contracts of Good where keys are looked at (written by gen/evkf.py).
-/
import Derived.Test.YthfhlbnjahakaaaDoorEvKE
namespace Go.Proofs.YthfhlbnjahakaaaDoor
open Go.RowKit
def manyOk (l : List ByteArray) : Bool := decide (1 ≤ l.length) && decide (l.length ≤ 64) && !badKey l
theorem rds_one {w : World} {g : Nat} {k : ByteArray} (h : w.heap[g]? = some (.cells #[.string k] 9 (0, 0))) : RdS w (.slice (some ⟨g, 0, none⟩) 1 1) [k] := by
  refine ⟨_, 1, rfl, Nat.le_refl _, fun _ => ⟨g, 0, rfl, fun j x hx => ?_⟩⟩
  cases j with
  | zero => cases hx; exact cell_of_row w g 0 _ _ (0, 0) h
  | succ j => simp at hx
theorem U8.fr' {w w' : World} (h : U8 w) (f : Hid (Fr Nob w w')) : U8 w' := h.fr f.out

set_option maxHeartbeats 8000000 in
set_option maxRecDepth 100000 in
theorem good_get {w : World} (b d : ByteArray) (v : Value) (n1 n2 n3 n4 : Int) (b1 b2 b3 b4 : Bool) {l : List ByteArray} (h : RdS w v l) (hn : l.length ≤ 1000000000) (hs : ∀ k ∈ l, k.size ≤ 9223372036854775807) (hU : U8 w) : Calls Tryd.prog 10 #[.agg #[.string ⟨#[103, 101, 116]⟩, .string b, v, .string d, .int .u32 n1, .int .i64 n2, .int .u64 n3, .int .u64 n4, .bool b1, .bool b2, .bool b3, .bool b4]] w fun e w' => e = .returned (.bool (manyOk l)) ∧ Fr Nob w w' := by
  have hb1 : Fr Nob w (w.alloc (.cells #[.string ⟨#[103, 101, 116]⟩, .string b, v, .string d, .int .u32 n1, .int .i64 n2, .int .u64 n3, .int .u64 n4, .bool b1, .bool b2, .bool b3, .bool b4] 28)) := frB _
  obtain ⟨B, hB⟩ : ∃ B, B = w.heap.size := ⟨_, rfl⟩
  obtain ⟨w1, hw1⟩ : ∃ w1, w1 = w.alloc (.cells #[.string ⟨#[103, 101, 116]⟩, .string b, v, .string d, .int .u32 n1, .int .i64 n2, .int .u64 n3, .int .u64 n4, .bool b1, .bool b2, .bool b3, .bool b4] 28) := ⟨_, rfl⟩
  have f1 : Fr Nob w w1 := by rw [hw1]; exact hb1
  have h1 : w1.heap[B]? = some (.cells #[.string ⟨#[103, 101, 116]⟩, .string b, v, .string d, .int .u32 n1, .int .i64 n2, .int .u64 n3, .int .u64 n4, .bool b1, .bool b2, .bool b3, .bool b4] 28 (0, 0)) := by rw [hw1, hB]; exact heap_alloc_new w _
  have OF := Lib.hid (of_get (w := w1) b d v n1 n2 n3 n4 b1 b2 b3 b4 (h.nob f1) hn)
  have F0 := Lib.hid f1
  have H1 := Lib.hid h1
  have HW := Lib.hid hw1.symm
  have HB := Lib.hid hB.symm
  clear hb1 f1 hw1 h1 hB
  have HU := Lib.hid hU
  have HS := Lib.hid hs
  have HH := Lib.hid h
  clear hU hs h
  have AGet := taGet
  have AStore := taStore
  have AArith := taArith
  have ATouch := taTouch
  have ADelete := taDelete
  have AFlush := taFlush
  have ABad := taBad
  have AWord := taWord
  go_enter Tryd.func10, Tryd.ntmps10
  go_wp2_with fail
  rw [HW.out, HB.out]
  refine OF.out.mono ?_
  rintro e w2 ⟨v2, rfl, o2, f2⟩
  have F1 : Fr Nob w w2 := F0.out.trans' f2.out
  have h2 := f2.out.heap H1.out fun h => h
  obtain ⟨a2, c2, rfl⟩ := own_sl o2.out
  have F1 := Lib.hid F1
  have H2 := Lib.hid h2
  clear h2
  obtain ⟨wx, hwx⟩ : ∃ wx, wx = ((w2.alloc (.cells #[.string ⟨#[]⟩] 53)).alloc (.cells #[.bool false] 57)).alloc (.cells #[.string ⟨#[]⟩, .string ⟨#[]⟩, .string ⟨#[]⟩, .int .u32 0, .int .i64 0, .int .u64 0, .bool false] 47) := ⟨_, rfl⟩
  have fx : Fr Nob w2 wx := by rw [hwx]; exact (((Fr.refl Nob w2).alloc _).alloc _).alloc _
  have hx := fx.heap H2.out fun h => h
  have FX := Lib.hid (F1.out.trans' fx)
  have HX := Lib.hid hx
  have HWX := Lib.hid hwx.symm
  clear hwx fx hx F1 H2
  go_wp2_with fail
  go_quiet (fail)
  rw [HWX.out]
  have F5 := Lib.hid (FX.out.trans' ((Fr.refl Nob wx).drewN nq))
  have q0 : (wx.drewN nq).cell? ⟨B, 0, none⟩ = some (.string ⟨#[103, 101, 116]⟩) := cell_of_row wx B 0 _ _ (0, 0) HX.out
  have q1 : (wx.drewN nq).cell? ⟨B, 1, none⟩ = some (.string b) := cell_of_row wx B 1 _ _ (0, 0) HX.out
  have q2 : (wx.drewN nq).cell? ⟨B, 2, none⟩ = some (v) := cell_of_row wx B 2 _ _ (0, 0) HX.out
  have q3 : (wx.drewN nq).cell? ⟨B, 3, none⟩ = some (.string d) := cell_of_row wx B 3 _ _ (0, 0) HX.out
  have q4 : (wx.drewN nq).cell? ⟨B, 4, none⟩ = some (.int .u32 n1) := cell_of_row wx B 4 _ _ (0, 0) HX.out
  have q5 : (wx.drewN nq).cell? ⟨B, 5, none⟩ = some (.int .i64 n2) := cell_of_row wx B 5 _ _ (0, 0) HX.out
  have q6 : (wx.drewN nq).cell? ⟨B, 6, none⟩ = some (.int .u64 n3) := cell_of_row wx B 6 _ _ (0, 0) HX.out
  have q7 : (wx.drewN nq).cell? ⟨B, 7, none⟩ = some (.int .u64 n4) := cell_of_row wx B 7 _ _ (0, 0) HX.out
  have q8 : (wx.drewN nq).cell? ⟨B, 8, none⟩ = some (.bool b1) := cell_of_row wx B 8 _ _ (0, 0) HX.out
  have q9 : (wx.drewN nq).cell? ⟨B, 9, none⟩ = some (.bool b2) := cell_of_row wx B 9 _ _ (0, 0) HX.out
  have q10 : (wx.drewN nq).cell? ⟨B, 10, none⟩ = some (.bool b3) := cell_of_row wx B 10 _ _ (0, 0) HX.out
  have q11 : (wx.drewN nq).cell? ⟨B, 11, none⟩ = some (.bool b4) := cell_of_row wx B 11 _ _ (0, 0) HX.out
  clear FX HX HWX
  generalize wx.drewN nq = w5 at *
  go_wp2_with fail
  refine (keysF_get b d v n1 n2 n3 n4 b1 b2 b3 b4 (HH.out.nob F5.out) hn).mono ?_
  rintro e w6 ⟨v6, rfl, o6, f6⟩
  have R6 := own_rd o6.out
  have F6 : Fr Nob w w6 := F5.out.trans' f6.out
  have cF := containsF_eq R6 hn HS.out (HU.out.fr F6)
  obtain ⟨a6, c6, rfl⟩ := own_sl o6.out
  have F6 := Lib.hid F6
  clear R6 o6 f6
  by_cases z1 : 1 ≤ l.length
  · have z1' : (1 : Int) ≤ (l.length : Int) := by omega
    by_cases z2 : l.length ≤ 64
    · have z2' : (l.length : Int) ≤ 64 := by omega
      have HE : Hid ((!badKey l) = manyOk l) := Lib.hid (by simp [manyOk, z1, z2])
      clear z1 z2
      go_wp2_with (go_at_call 25; refine cF.mono ?_; rintro e W' ⟨rfl, hbc⟩)
      go_ret
      exact ⟨congrArg (fun b => Ending.returned (.bool b)) HE.out, (by have F7 := F6.out.trans' hbc.out; repeat first | exact F7 | refine Fr.alloc ?_ _)⟩
    · have z2' : ¬ (l.length : Int) ≤ 64 := by omega
      have HE : Hid (false = manyOk l) := Lib.hid (by simp [manyOk, z2])
      clear z1 z2 cF
      go_wp2_with fail
      go_ret
      exact ⟨congrArg (fun b => Ending.returned (.bool b)) HE.out, (by have F7 := F6.out; repeat first | exact F7 | refine Fr.alloc ?_ _)⟩
  · have z1' : ¬ (1 : Int) ≤ (l.length : Int) := by omega
    have HE : Hid (false = manyOk l) := Lib.hid (by
      have : decide (1 ≤ l.length) = false := decide_eq_false z1
      simp only [manyOk, this, Bool.false_and])
    clear z1 cF
    go_wp2_with fail
    go_ret
    exact ⟨congrArg (fun b => Ending.returned (.bool b)) HE.out, (by have F7 := F6.out; repeat first | exact F7 | refine Fr.alloc ?_ _)⟩

set_option maxHeartbeats 8000000 in
set_option maxRecDepth 100000 in
theorem good_arith {w : World} (b d : ByteArray) (v : Value) (n1 n2 n3 n4 : Int) (b1 b2 b3 b4 : Bool) {l : List ByteArray} (k : ByteArray) (h : RdS w v l) (hk : k = keyOf l) (hs : k.size ≤ 9223372036854775807) (hU : U8 w) : Calls Tryd.prog 10 #[.agg #[.string ⟨#[97, 114, 105, 116, 104]⟩, .string b, v, .string d, .int .u32 n1, .int .i64 n2, .int .u64 n3, .int .u64 n4, .bool b1, .bool b2, .bool b3, .bool b4]] w fun e w' => e = .returned (.bool (keyB k)) ∧ Fr Nob w w' := by
  have hb1 : Fr Nob w (w.alloc (.cells #[.string ⟨#[97, 114, 105, 116, 104]⟩, .string b, v, .string d, .int .u32 n1, .int .i64 n2, .int .u64 n3, .int .u64 n4, .bool b1, .bool b2, .bool b3, .bool b4] 28)) := frB _
  obtain ⟨B, hB⟩ : ∃ B, B = w.heap.size := ⟨_, rfl⟩
  obtain ⟨w1, hw1⟩ : ∃ w1, w1 = w.alloc (.cells #[.string ⟨#[97, 114, 105, 116, 104]⟩, .string b, v, .string d, .int .u32 n1, .int .i64 n2, .int .u64 n3, .int .u64 n4, .bool b1, .bool b2, .bool b3, .bool b4] 28) := ⟨_, rfl⟩
  have f1 : Fr Nob w w1 := by rw [hw1]; exact hb1
  have h1 : w1.heap[B]? = some (.cells #[.string ⟨#[97, 114, 105, 116, 104]⟩, .string b, v, .string d, .int .u32 n1, .int .i64 n2, .int .u64 n3, .int .u64 n4, .bool b1, .bool b2, .bool b3, .bool b4] 28 (0, 0)) := by rw [hw1, hB]; exact heap_alloc_new w _
  have OF := Lib.hid (of_arith (w := w1) b d v n1 n2 n3 n4 b1 b2 b3 b4 k (h.nob f1) hk)
  have F0 := Lib.hid f1
  have H1 := Lib.hid h1
  have HW := Lib.hid hw1.symm
  have HB := Lib.hid hB.symm
  clear hb1 f1 hw1 h1 hB
  have HU := Lib.hid hU
  have HS := Lib.hid hs
  have HH := Lib.hid h
  have HK := Lib.hid hk
  clear hU hs h hk
  have AGet := taGet
  have AStore := taStore
  have AArith := taArith
  have ATouch := taTouch
  have ADelete := taDelete
  have AFlush := taFlush
  have ABad := taBad
  have AWord := taWord
  go_enter Tryd.func10, Tryd.ntmps10
  go_wp2_with fail
  rw [HW.out, HB.out]
  refine OF.out.mono ?_
  rintro e w2 ⟨rfl, f2⟩
  have F1 : Fr Nob w w2 := F0.out.trans' f2
  have h2 := f2.heap H1.out fun h => h
  have F1 := Lib.hid F1
  have H2 := Lib.hid h2
  clear h2
  obtain ⟨wx, hwx⟩ : ∃ wx, wx = ((w2.alloc (.cells #[.string ⟨#[]⟩] 53)).alloc (.cells #[.bool false] 57)).alloc (.cells #[.string ⟨#[]⟩, .string ⟨#[]⟩, .string ⟨#[]⟩, .int .u32 0, .int .i64 0, .int .u64 0, .bool false] 47) := ⟨_, rfl⟩
  have fx : Fr Nob w2 wx := by rw [hwx]; exact (((Fr.refl Nob w2).alloc _).alloc _).alloc _
  have hx := fx.heap H2.out fun h => h
  have FX := Lib.hid (F1.out.trans' fx)
  have HX := Lib.hid hx
  have HWX := Lib.hid hwx.symm
  clear hwx fx hx F1 H2
  go_wp2_with fail
  go_quiet (fail)
  rw [HWX.out]
  have F5 := Lib.hid (FX.out.trans' ((Fr.refl Nob wx).drewN nq))
  have q0 : (wx.drewN nq).cell? ⟨B, 0, none⟩ = some (.string ⟨#[97, 114, 105, 116, 104]⟩) := cell_of_row wx B 0 _ _ (0, 0) HX.out
  have q1 : (wx.drewN nq).cell? ⟨B, 1, none⟩ = some (.string b) := cell_of_row wx B 1 _ _ (0, 0) HX.out
  have q2 : (wx.drewN nq).cell? ⟨B, 2, none⟩ = some (v) := cell_of_row wx B 2 _ _ (0, 0) HX.out
  have q3 : (wx.drewN nq).cell? ⟨B, 3, none⟩ = some (.string d) := cell_of_row wx B 3 _ _ (0, 0) HX.out
  have q4 : (wx.drewN nq).cell? ⟨B, 4, none⟩ = some (.int .u32 n1) := cell_of_row wx B 4 _ _ (0, 0) HX.out
  have q5 : (wx.drewN nq).cell? ⟨B, 5, none⟩ = some (.int .i64 n2) := cell_of_row wx B 5 _ _ (0, 0) HX.out
  have q6 : (wx.drewN nq).cell? ⟨B, 6, none⟩ = some (.int .u64 n3) := cell_of_row wx B 6 _ _ (0, 0) HX.out
  have q7 : (wx.drewN nq).cell? ⟨B, 7, none⟩ = some (.int .u64 n4) := cell_of_row wx B 7 _ _ (0, 0) HX.out
  have q8 : (wx.drewN nq).cell? ⟨B, 8, none⟩ = some (.bool b1) := cell_of_row wx B 8 _ _ (0, 0) HX.out
  have q9 : (wx.drewN nq).cell? ⟨B, 9, none⟩ = some (.bool b2) := cell_of_row wx B 9 _ _ (0, 0) HX.out
  have q10 : (wx.drewN nq).cell? ⟨B, 10, none⟩ = some (.bool b3) := cell_of_row wx B 10 _ _ (0, 0) HX.out
  have q11 : (wx.drewN nq).cell? ⟨B, 11, none⟩ = some (.bool b4) := cell_of_row wx B 11 _ _ (0, 0) HX.out
  clear FX HX HWX
  generalize wx.drewN nq = w5 at *
  go_wp2_with fail
  refine (keysF_arith b d v n1 n2 n3 n4 b1 b2 b3 b4 k (HH.out.nob F5.out) HK.out).mono ?_
  rintro e w6 ⟨g6, rfl, o6, f6, _⟩
  have R6 := rds_one o6.out
  have F6 : Fr Nob w w6 := F5.out.trans' f6.out
  have cF := containsF_eq R6 (by simp) (by intro x hx; rw [List.mem_singleton.1 hx]; exact HS.out) (HU.out.fr F6)
  have F6 := Lib.hid F6
  clear R6 o6 f6
  have HE : Hid ((!badKey [k]) = keyB k) := Lib.hid (by unfold badKey; rw [List.any_cons, List.any_nil, Bool.or_false, Bool.not_not])
  have hlen : ([k] : List ByteArray).length = 1 := rfl
  go_wp2_with (go_at_call 25; refine cF.mono ?_; rintro e W' ⟨rfl, hbc⟩)
  go_ret
  exact ⟨congrArg (fun b => Ending.returned (.bool b)) HE.out, (by have F7 := F6.out.trans' hbc.out; repeat first | exact F7 | refine Fr.alloc ?_ _)⟩

set_option maxHeartbeats 8000000 in
set_option maxRecDepth 100000 in
theorem good_touch {w : World} (b d : ByteArray) (v : Value) (n1 n2 n3 n4 : Int) (b1 b2 b3 b4 : Bool) {l : List ByteArray} (k : ByteArray) (h : RdS w v l) (hk : k = keyOf l) (hs : k.size ≤ 9223372036854775807) (hU : U8 w) : Calls Tryd.prog 10 #[.agg #[.string ⟨#[116, 111, 117, 99, 104]⟩, .string b, v, .string d, .int .u32 n1, .int .i64 n2, .int .u64 n3, .int .u64 n4, .bool b1, .bool b2, .bool b3, .bool b4]] w fun e w' => e = .returned (.bool (keyB k)) ∧ Fr Nob w w' := by
  have hb1 : Fr Nob w (w.alloc (.cells #[.string ⟨#[116, 111, 117, 99, 104]⟩, .string b, v, .string d, .int .u32 n1, .int .i64 n2, .int .u64 n3, .int .u64 n4, .bool b1, .bool b2, .bool b3, .bool b4] 28)) := frB _
  obtain ⟨B, hB⟩ : ∃ B, B = w.heap.size := ⟨_, rfl⟩
  obtain ⟨w1, hw1⟩ : ∃ w1, w1 = w.alloc (.cells #[.string ⟨#[116, 111, 117, 99, 104]⟩, .string b, v, .string d, .int .u32 n1, .int .i64 n2, .int .u64 n3, .int .u64 n4, .bool b1, .bool b2, .bool b3, .bool b4] 28) := ⟨_, rfl⟩
  have f1 : Fr Nob w w1 := by rw [hw1]; exact hb1
  have h1 : w1.heap[B]? = some (.cells #[.string ⟨#[116, 111, 117, 99, 104]⟩, .string b, v, .string d, .int .u32 n1, .int .i64 n2, .int .u64 n3, .int .u64 n4, .bool b1, .bool b2, .bool b3, .bool b4] 28 (0, 0)) := by rw [hw1, hB]; exact heap_alloc_new w _
  have OF := Lib.hid (of_touch (w := w1) b d v n1 n2 n3 n4 b1 b2 b3 b4 k (h.nob f1) hk)
  have F0 := Lib.hid f1
  have H1 := Lib.hid h1
  have HW := Lib.hid hw1.symm
  have HB := Lib.hid hB.symm
  clear hb1 f1 hw1 h1 hB
  have HU := Lib.hid hU
  have HS := Lib.hid hs
  have HH := Lib.hid h
  have HK := Lib.hid hk
  clear hU hs h hk
  have AGet := taGet
  have AStore := taStore
  have AArith := taArith
  have ATouch := taTouch
  have ADelete := taDelete
  have AFlush := taFlush
  have ABad := taBad
  have AWord := taWord
  go_enter Tryd.func10, Tryd.ntmps10
  go_wp2_with fail
  rw [HW.out, HB.out]
  refine OF.out.mono ?_
  rintro e w2 ⟨rfl, f2⟩
  have F1 : Fr Nob w w2 := F0.out.trans' f2
  have h2 := f2.heap H1.out fun h => h
  have F1 := Lib.hid F1
  have H2 := Lib.hid h2
  clear h2
  obtain ⟨wx, hwx⟩ : ∃ wx, wx = ((w2.alloc (.cells #[.string ⟨#[]⟩] 53)).alloc (.cells #[.bool false] 57)).alloc (.cells #[.string ⟨#[]⟩, .string ⟨#[]⟩, .string ⟨#[]⟩, .int .u32 0, .int .i64 0, .int .u64 0, .bool false] 47) := ⟨_, rfl⟩
  have fx : Fr Nob w2 wx := by rw [hwx]; exact (((Fr.refl Nob w2).alloc _).alloc _).alloc _
  have hx := fx.heap H2.out fun h => h
  have FX := Lib.hid (F1.out.trans' fx)
  have HX := Lib.hid hx
  have HWX := Lib.hid hwx.symm
  clear hwx fx hx F1 H2
  go_wp2_with fail
  go_quiet (fail)
  rw [HWX.out]
  have F5 := Lib.hid (FX.out.trans' ((Fr.refl Nob wx).drewN nq))
  have q0 : (wx.drewN nq).cell? ⟨B, 0, none⟩ = some (.string ⟨#[116, 111, 117, 99, 104]⟩) := cell_of_row wx B 0 _ _ (0, 0) HX.out
  have q1 : (wx.drewN nq).cell? ⟨B, 1, none⟩ = some (.string b) := cell_of_row wx B 1 _ _ (0, 0) HX.out
  have q2 : (wx.drewN nq).cell? ⟨B, 2, none⟩ = some (v) := cell_of_row wx B 2 _ _ (0, 0) HX.out
  have q3 : (wx.drewN nq).cell? ⟨B, 3, none⟩ = some (.string d) := cell_of_row wx B 3 _ _ (0, 0) HX.out
  have q4 : (wx.drewN nq).cell? ⟨B, 4, none⟩ = some (.int .u32 n1) := cell_of_row wx B 4 _ _ (0, 0) HX.out
  have q5 : (wx.drewN nq).cell? ⟨B, 5, none⟩ = some (.int .i64 n2) := cell_of_row wx B 5 _ _ (0, 0) HX.out
  have q6 : (wx.drewN nq).cell? ⟨B, 6, none⟩ = some (.int .u64 n3) := cell_of_row wx B 6 _ _ (0, 0) HX.out
  have q7 : (wx.drewN nq).cell? ⟨B, 7, none⟩ = some (.int .u64 n4) := cell_of_row wx B 7 _ _ (0, 0) HX.out
  have q8 : (wx.drewN nq).cell? ⟨B, 8, none⟩ = some (.bool b1) := cell_of_row wx B 8 _ _ (0, 0) HX.out
  have q9 : (wx.drewN nq).cell? ⟨B, 9, none⟩ = some (.bool b2) := cell_of_row wx B 9 _ _ (0, 0) HX.out
  have q10 : (wx.drewN nq).cell? ⟨B, 10, none⟩ = some (.bool b3) := cell_of_row wx B 10 _ _ (0, 0) HX.out
  have q11 : (wx.drewN nq).cell? ⟨B, 11, none⟩ = some (.bool b4) := cell_of_row wx B 11 _ _ (0, 0) HX.out
  clear FX HX HWX
  generalize wx.drewN nq = w5 at *
  go_wp2_with fail
  refine (keysF_touch b d v n1 n2 n3 n4 b1 b2 b3 b4 k (HH.out.nob F5.out) HK.out).mono ?_
  rintro e w6 ⟨g6, rfl, o6, f6, _⟩
  have R6 := rds_one o6.out
  have F6 : Fr Nob w w6 := F5.out.trans' f6.out
  have cF := containsF_eq R6 (by simp) (by intro x hx; rw [List.mem_singleton.1 hx]; exact HS.out) (HU.out.fr F6)
  have F6 := Lib.hid F6
  clear R6 o6 f6
  have HE : Hid ((!badKey [k]) = keyB k) := Lib.hid (by unfold badKey; rw [List.any_cons, List.any_nil, Bool.or_false, Bool.not_not])
  have hlen : ([k] : List ByteArray).length = 1 := rfl
  go_wp2_with (go_at_call 25; refine cF.mono ?_; rintro e W' ⟨rfl, hbc⟩)
  go_ret
  exact ⟨congrArg (fun b => Ending.returned (.bool b)) HE.out, (by have F7 := F6.out.trans' hbc.out; repeat first | exact F7 | refine Fr.alloc ?_ _)⟩

set_option maxHeartbeats 8000000 in
set_option maxRecDepth 100000 in
theorem good_delete {w : World} (b d : ByteArray) (v : Value) (n1 n2 n3 n4 : Int) (b1 b2 b3 b4 : Bool) {l : List ByteArray} (k : ByteArray) (h : RdS w v l) (hk : k = keyOf l) (hs : k.size ≤ 9223372036854775807) (hU : U8 w) : Calls Tryd.prog 10 #[.agg #[.string ⟨#[100, 101, 108, 101, 116, 101]⟩, .string b, v, .string d, .int .u32 n1, .int .i64 n2, .int .u64 n3, .int .u64 n4, .bool b1, .bool b2, .bool b3, .bool b4]] w fun e w' => e = .returned (.bool (keyB k)) ∧ Fr Nob w w' := by
  have hb1 : Fr Nob w (w.alloc (.cells #[.string ⟨#[100, 101, 108, 101, 116, 101]⟩, .string b, v, .string d, .int .u32 n1, .int .i64 n2, .int .u64 n3, .int .u64 n4, .bool b1, .bool b2, .bool b3, .bool b4] 28)) := frB _
  obtain ⟨B, hB⟩ : ∃ B, B = w.heap.size := ⟨_, rfl⟩
  obtain ⟨w1, hw1⟩ : ∃ w1, w1 = w.alloc (.cells #[.string ⟨#[100, 101, 108, 101, 116, 101]⟩, .string b, v, .string d, .int .u32 n1, .int .i64 n2, .int .u64 n3, .int .u64 n4, .bool b1, .bool b2, .bool b3, .bool b4] 28) := ⟨_, rfl⟩
  have f1 : Fr Nob w w1 := by rw [hw1]; exact hb1
  have h1 : w1.heap[B]? = some (.cells #[.string ⟨#[100, 101, 108, 101, 116, 101]⟩, .string b, v, .string d, .int .u32 n1, .int .i64 n2, .int .u64 n3, .int .u64 n4, .bool b1, .bool b2, .bool b3, .bool b4] 28 (0, 0)) := by rw [hw1, hB]; exact heap_alloc_new w _
  have OF := Lib.hid (of_delete (w := w1) b d v n1 n2 n3 n4 b1 b2 b3 b4 k (h.nob f1) hk)
  have F0 := Lib.hid f1
  have H1 := Lib.hid h1
  have HW := Lib.hid hw1.symm
  have HB := Lib.hid hB.symm
  clear hb1 f1 hw1 h1 hB
  have HU := Lib.hid hU
  have HS := Lib.hid hs
  have HH := Lib.hid h
  have HK := Lib.hid hk
  clear hU hs h hk
  have AGet := taGet
  have AStore := taStore
  have AArith := taArith
  have ATouch := taTouch
  have ADelete := taDelete
  have AFlush := taFlush
  have ABad := taBad
  have AWord := taWord
  go_enter Tryd.func10, Tryd.ntmps10
  go_wp2_with fail
  rw [HW.out, HB.out]
  refine OF.out.mono ?_
  rintro e w2 ⟨rfl, f2⟩
  have F1 : Fr Nob w w2 := F0.out.trans' f2
  have h2 := f2.heap H1.out fun h => h
  have F1 := Lib.hid F1
  have H2 := Lib.hid h2
  clear h2
  obtain ⟨wx, hwx⟩ : ∃ wx, wx = ((w2.alloc (.cells #[.string ⟨#[]⟩] 53)).alloc (.cells #[.bool false] 57)).alloc (.cells #[.string ⟨#[]⟩, .string ⟨#[]⟩, .string ⟨#[]⟩, .int .u32 0, .int .i64 0, .int .u64 0, .bool false] 47) := ⟨_, rfl⟩
  have fx : Fr Nob w2 wx := by rw [hwx]; exact (((Fr.refl Nob w2).alloc _).alloc _).alloc _
  have hx := fx.heap H2.out fun h => h
  have FX := Lib.hid (F1.out.trans' fx)
  have HX := Lib.hid hx
  have HWX := Lib.hid hwx.symm
  clear hwx fx hx F1 H2
  go_wp2_with fail
  go_quiet (fail)
  rw [HWX.out]
  have F5 := Lib.hid (FX.out.trans' ((Fr.refl Nob wx).drewN nq))
  have q0 : (wx.drewN nq).cell? ⟨B, 0, none⟩ = some (.string ⟨#[100, 101, 108, 101, 116, 101]⟩) := cell_of_row wx B 0 _ _ (0, 0) HX.out
  have q1 : (wx.drewN nq).cell? ⟨B, 1, none⟩ = some (.string b) := cell_of_row wx B 1 _ _ (0, 0) HX.out
  have q2 : (wx.drewN nq).cell? ⟨B, 2, none⟩ = some (v) := cell_of_row wx B 2 _ _ (0, 0) HX.out
  have q3 : (wx.drewN nq).cell? ⟨B, 3, none⟩ = some (.string d) := cell_of_row wx B 3 _ _ (0, 0) HX.out
  have q4 : (wx.drewN nq).cell? ⟨B, 4, none⟩ = some (.int .u32 n1) := cell_of_row wx B 4 _ _ (0, 0) HX.out
  have q5 : (wx.drewN nq).cell? ⟨B, 5, none⟩ = some (.int .i64 n2) := cell_of_row wx B 5 _ _ (0, 0) HX.out
  have q6 : (wx.drewN nq).cell? ⟨B, 6, none⟩ = some (.int .u64 n3) := cell_of_row wx B 6 _ _ (0, 0) HX.out
  have q7 : (wx.drewN nq).cell? ⟨B, 7, none⟩ = some (.int .u64 n4) := cell_of_row wx B 7 _ _ (0, 0) HX.out
  have q8 : (wx.drewN nq).cell? ⟨B, 8, none⟩ = some (.bool b1) := cell_of_row wx B 8 _ _ (0, 0) HX.out
  have q9 : (wx.drewN nq).cell? ⟨B, 9, none⟩ = some (.bool b2) := cell_of_row wx B 9 _ _ (0, 0) HX.out
  have q10 : (wx.drewN nq).cell? ⟨B, 10, none⟩ = some (.bool b3) := cell_of_row wx B 10 _ _ (0, 0) HX.out
  have q11 : (wx.drewN nq).cell? ⟨B, 11, none⟩ = some (.bool b4) := cell_of_row wx B 11 _ _ (0, 0) HX.out
  clear FX HX HWX
  generalize wx.drewN nq = w5 at *
  go_wp2_with fail
  refine (keysF_delete b d v n1 n2 n3 n4 b1 b2 b3 b4 k (HH.out.nob F5.out) HK.out).mono ?_
  rintro e w6 ⟨g6, rfl, o6, f6, _⟩
  have R6 := rds_one o6.out
  have F6 : Fr Nob w w6 := F5.out.trans' f6.out
  have cF := containsF_eq R6 (by simp) (by intro x hx; rw [List.mem_singleton.1 hx]; exact HS.out) (HU.out.fr F6)
  have F6 := Lib.hid F6
  clear R6 o6 f6
  have HE : Hid ((!badKey [k]) = keyB k) := Lib.hid (by unfold badKey; rw [List.any_cons, List.any_nil, Bool.or_false, Bool.not_not])
  have hlen : ([k] : List ByteArray).length = 1 := rfl
  go_wp2_with (go_at_call 25; refine cF.mono ?_; rintro e W' ⟨rfl, hbc⟩)
  go_ret
  exact ⟨congrArg (fun b => Ending.returned (.bool b)) HE.out, (by have F7 := F6.out.trans' hbc.out; repeat first | exact F7 | refine Fr.alloc ?_ _)⟩
end Go.Proofs.YthfhlbnjahakaaaDoor
